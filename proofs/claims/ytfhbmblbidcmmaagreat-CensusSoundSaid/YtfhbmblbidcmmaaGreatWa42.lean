/- censusSound holds for every input. No condition. (part 42) -/
import Derived.Test.YtfhbmblbidcmmaaGreatWa13
import Derived.Test.YtfhbmblbidcmmaaGreatWa10
set_option linter.all false
set_option maxRecDepth 100000
set_option maxHeartbeats 6400000
namespace Go.Tr
theorem iY(x:UInt8):BX [x]=x.toNat:=by simp[BX]
theorem Zq{no:Nat}{b:List UInt8}{k:Int}{body:List UInt8}(h:AO no b=(k,body,0)):1≤k∧k≤9∧AV no k.toNat body=b∧body.length≤244∧no<1048576∧k=BX (b.take 1)∧body=(b.drop 12).take (BX ((b.drop 2).take 2))∧BX ((b.drop 2).take 2)=body.length:=by
 unfold AO at h
 split at h
 · cases h
 rename_i h1
 split at h
 · cases h
 rename_i g
 split at h
 · cases h
 rename_i i
 simp only at h
 split at h
 · cases h
 rename_i j
 split at h
 · cases h
 rename_i m
 simp only[Prod.mk.injEq,and_true] at h
 obtain ⟨rfl,rfl⟩:=h
 simp only[not_or,ne_eq,Decidable.not_not] at g i j
 obtain ⟨r,B,D,G,H⟩:=j
 have o:BX ((b.drop 2).take 2)≤244:=by omega
 obtain ⟨n,f⟩: ∃n,BX ((b.drop 2).take 2)=n:=⟨_,rfl⟩
 rw[f] at o m⊢
 have a:((b.drop 12).take n).length=n:=by rw[List.length_take,List.length_drop];omega
 have w:b.take 1= [UInt8.ofNat (BX (b.take 1))]:=by
  cases b with
  |nil=>simp at g
  | cons x b =>
    show [x]= [UInt8.ofNat (BX [x])]
    rw[iY]
    simp
 have y:(b.drop 2).take 2=Bz n 2:=by
  have e:=RZ ((b.drop 2).take 2)
  rw[f,show ((b.drop 2).take 2).length=2 by rw[List.length_take,List.length_drop];omega] at e
  exact e.symm
 have z:(b.drop 4).take 4=Bz no 4:=by
  have e:=RZ ((b.drop 4).take 4)
  rw[show BX ((b.drop 4).take 4)=no by omega,show ((b.drop 4).take 4).length=4 by rw[List.length_take,List.length_drop];omega] at e
  exact e.symm
 have v:b.drop (12+n)=zs (244-n):=by
  have hl:(b.drop (12+n)).length=244-n:=by rw[List.length_drop];omega
  rw[←hl]
  unfold zs
  refine List.eq_replicate_iff.2 ⟨rfl,fun x hx=>?_⟩
  have s:(b.drop (12+n)).any (· !=0)=false:=by simpa using m
  have t:=List.any_eq_false.1 s x hx
  simpa using t
 have c:CA no (BX (b.take 1)) ((b.drop 12).take n)=b.take 8:=by
  unfold CA
  rw[a,←y,←z]
  have p:b.take 8=b.take 1++((b.drop 1).take 1++((b.drop 2).take 2++(b.drop 4).take 4)):=by
   rw[show (8:Nat)=1+(1+(2+4)) from rfl,List.take_add,List.take_add (l:=b.drop 1),List.take_add (l:=(b.drop 1).drop 1),List.drop_drop,List.drop_drop]
  rw[p,r]
  exact congrArg (· ++([0]++(List.take 2 (List.drop 2 b)++List.take 4 (List.drop 4 b)))) w.symm
 have d:Du ((b.drop 12).take n)=b.drop 12:=by
  unfold Du
  rw[a,←v,←List.drop_drop,List.take_append_drop]
 have u:Bz (Qy (b.take 8++b.drop 12)) 4=(b.drop 8).take 4:=by
  have e:=RZ ((b.drop 8).take 4)
  rw[i,show ((b.drop 8).take 4).length=4 by rw[List.length_take,List.length_drop];omega] at e
  exact e
 refine ⟨by omega,by omega,?_,by rw[a];exact o,by omega,rfl,rfl,a.symm⟩
 rw[Int.toNat_natCast]
 unfold AV
 rw[c,d,u]
 have q:b.drop 12=(b.drop 8).drop 4:=by rw[List.drop_drop]
 rw[q,List.take_append_drop,List.take_append_drop]
def F3(no:Int)(b:List UInt8):Int×List UInt8×Int:=
 if no<0∨1048576≤no then (0,[],1) else
 if b.length≠256 then (0,[],3) else
 if BX ((b.drop 8).take 4)≠Qy (b.take 8++b.drop 12) then (0,[],5) else
 if 244<BX ((b.drop 2).take 2) then (0,[],4) else
 if (Bw no (BX (b.take 1)) ((b.drop 12).take (BX ((b.drop 2).take 2)))).2≠0∨(Bw no (BX (b.take 1)) ((b.drop 12).take (BX ((b.drop 2).take 2)))).1≠b then (0,[],4) else
 (BX (b.take 1),(b.drop 12).take (BX ((b.drop 2).take 2)),0)
theorem WL(no:Int)(b:List UInt8):F3 no b=AO no b:=by
 by_cases h1:no<0∨1048576≤no
 · simp_all[F3,AO]
 by_cases n:b.length≠256
 · simp_all[F3,AO]
 by_cases o:BX ((b.drop 8).take 4)≠Qy (b.take 8++b.drop 12)
 · simp_all[F3,AO]
 obtain ⟨m,rfl⟩:=Int.eq_ofNat_of_zero_le (show 0≤no by omega)
 by_cases p:244<BX ((b.drop 2).take 2)
 · simp_all[F3,AO]
 have c:((b.drop 12).take (BX ((b.drop 2).take 2))).length≤244:=by rw[List.length_take];omega
 by_cases q:(BX (b.take 1):Int)<1∨9<(BX (b.take 1):Int)
 · have e:Bw (m:Int) (BX (b.take 1)) ((b.drop 12).take (BX ((b.drop 2).take 2)))=([],1):=by
    simp_all[Bw]
   unfold F3 AO
   grind
 have e:Bw (m:Int) (BX (b.take 1)) ((b.drop 12).take (BX ((b.drop 2).take 2)))=(AV m (BX (b.take 1)) ((b.drop 12).take (BX ((b.drop 2).take 2))),0):=by grind [Bw,Int.toNat_natCast]
 have f:F3 (m:Int) b=if AV m (BX (b.take 1)) ((b.drop 12).take (BX ((b.drop 2).take 2)))≠b then (0,[],4) else (((BX (b.take 1):Nat):Int),(b.drop 12).take (BX ((b.drop 2).take 2)),0):=by
  unfold F3
  grind
 rw[f]
 by_cases hp:AV m (BX (b.take 1)) ((b.drop 12).take (BX ((b.drop 2).take 2)))=b
 · rw[if_neg (by simpa using hp)]
   have a:=Rg (no:=m) (kind:=BX (b.take 1)) (body:=(b.drop 12).take (BX ((b.drop 2).take 2))) (by omega) (by omega) c
   simp_all
 rw[if_pos hp]
 have a: ¬ ∃k body,AO (m:Int) b=(k,body,0):=by
  rintro ⟨k,body,a⟩
  obtain ⟨_,_,d,_,_,j,l,_⟩:=Zq a
  subst j
  rw[←l] at hp
  rw[Int.toNat_natCast] at d
  exact hp d
 unfold AO at a⊢
 rw[if_neg h1,if_neg n,if_neg o] at a⊢
 simp only at a⊢
 split
 · rfl
 rename_i g
 rw[if_neg g] at a
 split
 · rfl
 rename_i i
 rw[if_neg i] at a
 exact absurd ⟨_,_,rfl⟩ a
end Go.Tr
namespace Go.Proofs.YtfhbmblbidcmmaaGreat
open Go.RowKit Go.Sl Go.Tr
attribute [go_sem] Go.Sl.Ac Go.Sl.I0
theorem Z4(s:Nat)(hs:s<4294967296)(w:World):
 Calls Tryz.prog 125 #[.int .u32 s] w fun e r=>e= .returned (.int .u32 (Dm 8 s:Nat))∧w=r:=by
 go_enter Tryz.func125,Tryz.ntmps125
 go_wp2
 go_loopg [0,3,4] 8 (fun g o p q wr=> ∃(k s4:Nat)(m:Value),o= .int .u32 s4∧p= .int .i64 k∧k≤8∧s4<4294967296∧q=m∧Aside (g=8-k∧s4=Dm k s)∧w=wr)
 case atStart=>exact ⟨0,s,_,rfl,rfl,by omega,hs,rfl,⟨rfl,rfl⟩,rfl⟩
 obtain ⟨k,s4,m,rfl,rfl,t,l,rfl,d,rfl⟩:=hrel
 by_cases n:k<8
 ·have f:(k:Int)<8:=by omega
  have a:=KA l
  have c:Aside (Dm (k+1) s=Db s4):=(by rw[Ky,←d.out.2]:_=_)
  have hx:=RA (s4/2) 3988292384 (by omega) (by omega)
  have i:bits .xor .u32 ((s4:Int)/2) 3988292384=((s4/2^^^3988292384:Nat):Int):=hx
  clear hx
  by_cases h:s4%2=1
  ·have e:Db s4=(s4/2)^^^3988292384:=by unfold Db;rw[if_pos h]
   have h1:((s4:Int)%2)=1:=by omega
   obtain ⟨s5,b⟩:=Aq ((s4/2)^^^3988292384)
   rw[b] at i e
   rw[e] at c a
   clear h e b
   go_wp2
   go_roundg (8-(k+1))
   case measure=>have:=d.out.1;omega
   case rel=>exact ⟨k+1,s5,_,rfl,by go_num,by omega,a,rfl,⟨rfl,c.out.symm⟩,rfl⟩
  have e:Db s4=s4/2:=by unfold Db;rw[if_neg h]
  have h1:((s4:Int)%2)=0:=by omega
  rw[e] at c a
  clear h e i
  go_wp2
  go_roundg (8-(k+1))
  case measure=>have:=d.out.1;omega
  case rel=>exact ⟨k+1,s4/2,_,by go_num,by go_num,by omega,a,rfl,⟨rfl,c.out.symm⟩,rfl⟩
 have f: ¬(k:Int)<8:=by omega
 obtain rfl:k=8:=by omega
 have c:=As d.out.2
 clear d
 go_wp2
 go_ret
 have j:=c.out
 exact ⟨by first|(simp[j];done)|(subst j;rfl)|(rw[←j]),rfl⟩
theorem Yf(v:Value)(l:List UInt8)(B F:Ab)(w:World)(J:Reads B v l)(hs:Sat (B*F) w):
 Calls Tryz.prog 67 #[v] w fun e K=>e= .returned (.int .u32 (Qy l:Nat))∧w=K:=by
 have hb:=J _ _ hs
 obtain ⟨V,pc,rfl,u,k⟩:=hb.len
 have m:l.length≤9223372036854775807:=by
  have:pc≤9223372036854775807:=by simpa[maxLen] using k
  omega
 have D:=As hb
 obtain ⟨n,t⟩:=Aq l.length
 have G:=As t
 rw[t] at m D⊢
 clear hb k hs J u t
 go_enter Tryz.func67,Tryz.ntmps67
 go_wp2
 go_loopg [3,4] n (fun g Q R wr=> ∃j s2:Nat,Q= .int .u32 s2∧R= .int .i64 j∧j≤n∧s2<4294967296∧Aside (g=n-j∧s2=DX 4294967295 (l.take j))∧w=wr)
 case atStart=>exact ⟨0,4294967295,rfl,rfl,by omega,by omega,⟨rfl,by simp[DX]⟩,rfl⟩
 obtain ⟨j,s2,rfl,rfl,T,o,q,rfl⟩:=hrel
 by_cases O:j<n
 · have f:(j:Int)<n:=by omega
   obtain ⟨x,hx⟩: ∃x,l[j]?=some x:=⟨l[j]'(by have:=G.out;omega),by simp⟩
   obtain ⟨b2,U,rfl,M⟩:=D.out.at hx
   have P:=x.toNat_lt
   have z:=RA s2 x.toNat o (by omega)
   have a:s2^^^x.toNat<4294967296:=Nat.xor_lt_two_pow (n:=32) (by omega) (by omega)
   obtain ⟨s3,c⟩:=Aq (s2^^^x.toNat)
   have d:Aside (DX 4294967295 (l.take (j+1))=Dm 8 s3):=(by rw[AB hx,Na,←q.out.2];unfold Lo;rw[c]:_=_)
   rw[c] at z a
   have i:=Z4 s3 a w
   have p:=Nb 8 a
   obtain ⟨s5,b⟩:=Aq (Dm 8 s3)
   rw[b] at i p d
   clear hx c b
   go_wp2_with fail
   refine i.mono ?_
   rintro e K ⟨rfl,rfl⟩
   go_wp2
   go_roundg (n-(j+1))
   case measure=>have:=q.out.1;omega
   case rel=>exact ⟨j+1,s5,rfl,by go_num,by omega,p,⟨rfl,d.out.symm⟩,rfl⟩
 have f: ¬(j:Int)<n:=by omega
 obtain rfl:j=n:=by omega
 have H:s2=DX 4294967295 l:=by rw[q.out.2,List.take_of_length_le (Nat.le_of_eq G.out)]
 have hx:=RA s2 4294967295 o (by omega)
 have y:bits .xor .u32 (s2:Int) 4294967295=((s2^^^4294967295:Nat):Int):=hx
 have r:Qy l=s2^^^4294967295:=by unfold Qy;rw[←H,Nat.xor_comm]
 obtain ⟨s6,I⟩:=Aq (s2^^^4294967295)
 rw[I] at y r
 have L:=As r
 clear H hx r I q
 go_wp2
 go_ret
 have s:=L.out
 exact ⟨by first|(simp[s];done)|(subst s;rfl)|(rw[←s]),rfl⟩
end Go.Proofs.YtfhbmblbidcmmaaGreat
namespace Go.Tr
theorem o9(n i:Nat):Bz n (i+1)=Bz n i++ [UInt8.ofNat (n/256^i)]:=by
 induction i generalizing n with
 |zero=>simp[Bz]
 | succ i a =>
  show UInt8.ofNat n::Bz (n/256) (i+1)=UInt8.ofNat n::Bz (n/256) i++_
  rw[a,Nat.div_div_eq_div_mul,Nat.pow_succ,Nat.mul_comm 256,List.cons_append]
end Go.Tr
namespace Go.Proofs.YtfhbmblbidcmmaaGreat
open Go.RowKit Go.Sl Go.Tr Go.Dk
theorem KU(n b:Nat)(F:Ab)(w:World)(hs:Sat F w)(h1:1≤b)(I:b≤7)(y:n<256^b):
 Calls Tryz.prog 66 #[.int .i64 n,.int .i64 b] w fun e z=> ∃a c,e= .returned (.tuple #[.slice a b c,.int .i64 0])∧Sat (rw TB 1 (.slice a b c) (A4 (Bz n b))*F) z:=by
 obtain ⟨i0,E⟩:=Dp
 have hp:(256:Nat)^b≤256^7:=Nat.pow_le_pow_right (by omega) I
 have t:n<72057594037927936:=by
  have:(256:Nat)^7=72057594037927936:=by decide
  omega
 have G:Aside (n/256^b=0):=Nat.div_eq_of_lt y
 clear hp y
 go_enter Tryz.func66,Tryz.ntmps66
 go_wp2
 go_loopg [0,6,7] b (fun g Q R T wr=> ∃(i q:Nat)(a:Option Addr)(c:Nat),Q= .int .i64 q∧T= .int .i64 i∧R= .slice a i c∧i≤b∧q<72057594037927936∧Aside (g=b-i∧q=n/256^i)∧Sat (rw TB 1 (.slice a i c) (A4 (Bz n i))*F) wr)
 case atStart=>exact ⟨0,n,none,0,rfl,rfl,rfl,by omega,t,⟨rfl,by simp⟩,by simpa[A4,Bz] using hs.AG⟩
 obtain ⟨i,q,a,c,rfl,rfl,rfl,hi,hq,A,o⟩:=hrel
 clear hs
 by_cases s:i<b
 · have d:(i:Int)<b:=by omega
   obtain ⟨r,hr⟩:=Aq (q%256)
   obtain ⟨p,l⟩:=Aq (q/256)
   have M:r<256:=by omega
   have L:(q:Int).tmod 256=(r:Int):=by rw[Int.tmod_eq_emod_of_nonneg (by omega)];omega
   have O:(q:Int)%256=(r:Int):=by omega
   have J:(q:Int).tdiv 256=(p:Int):=by rw[Int.tdiv_eq_ediv_of_nonneg (by omega)];omega
   have K:(q:Int)/256=(p:Int):=by omega
   have u:p<72057594037927936:=by omega
   have x:Aside (Bz n (i+1)=Bz n i++ [UInt8.ofNat r]∧p=n/256^(i+1)):=by
    refine ⟨?_,?_⟩
    ·rw[o9,←A.out.2,←hr]
     congr 2
     apply UInt8.toNat_inj.1
     rw[UInt8.toNat_ofNat',UInt8.toNat_ofNat']
     omega
    rw[←l,A.out.2,Nat.div_div_eq_div_mul,Nat.pow_succ]
   have D:Aside ((UInt8.ofNat r).toNat=r):=(by rw[UInt8.toNat_ofNat'];omega:_=_)
   have j:=o.alloc #[.int .u8 r] TB
   have m:=j.take (rw TB 1 (.slice a i c) (A4 (Bz n i)))
   have f:=Src.Oi (P:=Tryz.prog) j rfl
   clear j hr l
   go_wp2_with (at_builtin;refine Af E rfl (.tmp 23) (.tmp 27) rfl rfl rfl m f (by unfold maxLen;omega) (by omega) ?_;intro a' H z v k;clear k m f)
   go_roundg (b-(i+1))
   case measure=>have:=A.out.1;omega
   refine ⟨i+1,p,a',H,rfl,by go_num,rfl,by omega,u,⟨rfl,x.out.2⟩,?_⟩
   rw[x.out.1,BL]
   refine Sat.Dx (B:=block wr.heap.size TB [.int .u8 r]) (v.eq ?_)
   rw[show A4 [UInt8.ofNat r]= [Value.int .u8 r] by show [Value.int .u8 ((UInt8.ofNat r).toNat:Int)]=_;rw[D.out]]
   ac_rfl
 have d: ¬(i:Int)<b:=by omega
 obtain rfl:i=b:=by omega
 obtain rfl:q=0:=by rw[A.out.2,G.out]
 clear s d hi A
 go_wp2
 go_ret2
 exact ⟨a,c,rfl,o⟩
theorem P8(v:Value)(l:List UInt8)(B F:Ab)(w:World)(z:Reads B v l)(hs:Sat (B*F) w)(h1:1≤l.length)(G:l.length≤7):
 Calls Tryz.prog 177 #[v] w fun e R=>e= .returned (.tuple #[.int .i64 (BX l:Nat),.int .i64 0])∧w=R:=by
 have hb:=z _ _ hs
 obtain ⟨Z,pc,rfl,s,t⟩:=hb.len
 have y:=As hb
 obtain ⟨n,r⟩:=Aq l.length
 have f:=As r
 rw[r] at y h1 G⊢
 have T: ¬(n:Int)<1:=by omega
 have U: ¬(8:Int)<n:=by omega
 have V:((n:Int)==8)=false:=by simp;omega
 have W:(n==8)=false:=by simp;omega
 have X:(n:Int)≤7:=by omega
 clear hb t hs z s r
 go_enter Tryz.func177,Tryz.ntmps177
 go_wp2
 go_loopg [4,5] n (fun g P Q wr=> ∃i q:Nat,P= .int .i64 q∧Q= .int .i64 i∧i≤n∧q<72057594037927936∧Aside (g=n-i∧q=BX (l.drop (n-i)))∧w=wr)
 case atStart=>exact ⟨0,0,rfl,rfl,by omega,by omega,⟨rfl,by rw[Nat.sub_zero,List.drop_of_length_le (Nat.le_of_eq f.out)];rfl⟩,rfl⟩
 obtain ⟨i,q,rfl,rfl,hi,hq,A,rfl⟩:=hrel
 by_cases K:i<n
 ·have c:(i:Int)<n:=by omega
  obtain ⟨k,I⟩:=Aq (n-1-i)
  have XF:(n:Int)-1-(i:Int)=(k:Int):=by omega
  have J:(k:Int)<n:=by omega
  obtain ⟨x,hx⟩: ∃x,l[k]?=some x:=⟨l[k]'(by have:=f.out;omega),by simp⟩
  obtain ⟨b2,Y,rfl,H⟩:=y.out.at hx
  have O:=x.toNat_lt
  have D:l.drop k=x::l.drop (k+1):=by
   obtain ⟨p,rfl⟩:=List.getElem?_eq_some_iff.1 hx
   exact List.drop_eq_getElem_cons p
  obtain ⟨b,d⟩:=Aq (q*256+x.toNat)
  have m:b=BX (l.drop k):=by
   have a:=A.out.2
   rw[show n-i=k+1 by omega] at a
   rw[D,←d,a]
   exact (Nat.add_comm _ _).trans (congrArg (x.toNat+ ·) (Nat.mul_comm _ _))
  have u:b<72057594037927936:=by
   have a:=Sb (l.drop k)
   have o:(256:Nat)^(l.drop k).length≤256^7:=Nat.pow_le_pow_right (by omega) (by rw[List.length_drop,f.out];omega)
   exact Nat.lt_of_lt_of_le (m▸a) o
  have j:Aside (b=BX (l.drop (n-(i+1)))):=(by rw[show n-(i+1)=k by omega];exact m:b=BX (l.drop (n-(i+1))))
  have L:(q:Int)*256+(x.toNat:Int)=(b:Int):=by omega
  have M:q*256≤72057594037927936:=by omega
  clear hx D m I d
  go_wp2
  go_roundg (n-(i+1))
  case measure=>have:=A.out.1;omega
  case rel=>exact ⟨i+1,b,by go_num,by go_num,by omega,u,⟨rfl,j.out⟩,rfl⟩
 have c: ¬(i:Int)<n:=by omega
 obtain rfl:i=n:=by omega
 have j:Aside (BX l=q):=(by have a:=A.out.2;rw[Nat.sub_self,List.drop_zero] at a;exact a.symm:BX l=q)
 clear A
 go_wp2
 go_ret2
 have a:=j.out
 exact ⟨by first|(simp[a];done)|(subst a;rfl)|(rw[a]),rfl⟩
theorem Yw{A R:Ab}{e n g:Nat}{l:List Value}{w:World}[h:AR A w][t:Take A (Sl.block g e l) R](hl:l.length=n)(a:n≤1099511627776):Sat (rw e 1 (.slice (some ⟨g,0,none⟩) n n) l*R) w:=
 Sat.EA (sp:= []) (by omega) (by simpa using hl) (Nat.le_refl _) (by unfold maxLen;omega) (by simpa using h.out.take (Sl.block g e l))
theorem X4(v:Value)(l:List UInt8)(B F:Ab)(w:World)(u:Reads B v l)(hs:Sat (B*F) w)(hl:l.length≤35184372088832):
 Calls Tryz.prog 34 #[v] w fun e y=> ∃a c,e= .returned (.slice a l.length c)∧Sat (rw TB 1 (.slice a l.length c) (A4 l)*(B*F)) y:=by
 obtain ⟨i0,E⟩:=Dp
 obtain ⟨I,J,rfl,_,_⟩:=(u F w hs).len
 go_enter Tryz.func34,Tryz.ntmps34
 go_wp2
 go_loopg [3,4] l.length (fun k t i wr=> ∃(j:Nat)(a:Option Addr)(c:Nat),i= .int .i64 j∧t= .slice a j c∧j≤l.length∧Aside (k=l.length-j)∧Sat (rw TB 1 (.slice a j c) (A4 (l.take j))*(B*F)) wr)
 case atStart=>exact ⟨0,none,0,rfl,rfl,by omega,rfl,by simpa[A4] using hs.AG⟩
 obtain ⟨j,a,c,rfl,rfl,G,A,d⟩:=hrel
 clear hs
 by_cases n:j<l.length
 ·have f:(j:Int)<l.length:=by omega
  obtain ⟨x,hx⟩: ∃x,l[j]?=some x:=⟨l[j],by simp[n]⟩
  obtain ⟨b,o,rfl,H⟩:=(u _ _ (d.take B)).at hx
  have z:Aside (l.take (j+1)=l.take j++ [x]):=AB hx
  have m:=d.alloc #[.int .u8 x.toNat] TB
  have q:=m.take (rw TB 1 (.slice a j c) (A4 (l.take j)))
  have g:=Src.Oi (P:=Tryz.prog) m rfl
  clear m hx
  go_wp2_with (at_builtin;refine Af E rfl (.tmp 11) (.tmp 16) rfl rfl rfl q g (by unfold maxLen;omega) (by omega) ?_;intro a' D y s p;clear p q g)
  go_roundg (l.length-(j+1))
  case measure=>have:=A.out;omega
  refine ⟨j+1,a',D,by go_num,rfl,by omega,rfl,?_⟩
  rw[z.out,BL]
  refine Sat.Dx (B:=block wr.heap.size TB [.int .u8 x.toNat]) (s.eq ?_)
  rw[show A4 [x]= [Value.int .u8 x.toNat] from rfl]
  ac_rfl
 have f: ¬(j:Int)<l.length:=by omega
 have r:j=l.length:=by omega
 subst r
 rw[List.take_of_length_le (Nat.le_refl _)] at d
 clear n f G
 go_wp2
 go_ret
 exact ⟨a,c,rfl,d⟩
def Tf(B F:Ab)(r:List UInt8×Int)(e:Ending)(b:World):Prop:= ∃a c,e= .returned (.tuple #[.slice a r.1.length c,.int .i64 r.2])∧Sat (rw TB 1 (.slice a r.1.length c) (A4 r.1)*(B*F)) b
theorem UX(no kind:Int)(v:Value)(body:List UInt8)(B F:Ab)(w:World)(g:Reads B v body)(hs:Sat (B*F) w)(h:no<0∨1048576≤no∨kind<1∨9<kind∨244<body.length):
 Calls Tryz.prog 14 #[.int .i64 no,.int .i64 kind,v] w (Tf B F (Bw no kind body)):=by
 obtain ⟨u,pc,rfl,c,d⟩:=(g _ _ hs).len
 have hr: ∀f:Int,Bw no kind body=([],f)→ ∀e,e=Ending.returned (.tuple #[.slice none 0 0,.int .i64 f])→Tf B F (Bw no kind body) e w:=by
  intro f j e k
  rw[j]
  exact ⟨none,0,k,by simpa[A4] using hs.AG (e:=TB) (s:=1)⟩
 by_cases h1:no<0∨1048576≤no∨kind<1∨9<kind
 · have a:Aside (∀e,e=Ending.returned (.tuple #[.slice none 0 0,.int .i64 1])→Tf B F (Bw no kind body) e w):=hr 1 (by unfold Bw;rw[if_pos h1])
   clear hr h g hs c d
   by_cases l:no<0
   ·go_enter Tryz.func14,Tryz.ntmps14
    go_wp2
    go_ret2
    exact a.out _ rfl
   by_cases m:1048576≤no
   ·go_enter Tryz.func14,Tryz.ntmps14
    go_wp2
    go_ret2
    exact a.out _ rfl
   by_cases n:kind<1
   ·have i:0≤no:=by omega
    have o:no<1048576:=by omega
    clear h1
    go_enter Tryz.func14,Tryz.ntmps14
    go_wp2
    go_ret2
    exact a.out _ rfl
   have i:9<kind:=by omega
   clear h1
   go_enter Tryz.func14,Tryz.ntmps14
   go_wp2
   go_ret2
   exact a.out _ rfl
 have b:244<body.length:=by omega
 have a:Aside (∀e,e=Ending.returned (.tuple #[.slice none 0 0,.int .i64 10])→Tf B F (Bw no kind body) e w):=hr 10 (by unfold Bw;rw[if_neg h1,if_pos b])
 have p: ¬no<0:=by omega
 have b2: ¬1048576≤no:=by omega
 have q: ¬kind<1:=by omega
 have r: ¬9<kind:=by omega
 have t:(244:Int)<body.length:=by omega
 clear hr h g hs c d h1
 go_enter Tryz.func14,Tryz.ntmps14
 go_wp2
 go_ret2
 exact a.out _ rfl
theorem gA(n:Nat):zs n++ [0]=zs (n+1):=by
 unfold zs
 rw[List.replicate_succ']
theorem SC(no kind:Nat)(v:Value)(body:List UInt8)(B F:Ab)(w:World)(U:Reads B v body)(hs:Sat (B*F) w)(h1:no<1048576)(h2:1≤kind)(h3:kind≤9)(h4:body.length≤244):
 Calls Tryz.prog 14 #[.int .i64 (no:Int),.int .i64 (kind:Int),v] w fun e w'=> ∃a c,e= .returned (.tuple #[.slice a 256 c,.int .i64 0])∧Sat (rw TB 1 (.slice a 256 c) (A4 (AV no kind body))*(B*F)) w':=by
 obtain ⟨pa,pc,rfl,ai,aj⟩:=(U _ _ hs).len
 obtain ⟨i0,E⟩:=Dp
 have Y:Aside (Reads B (.slice pa body.length pc) body∧body.length≤244):=⟨U,h4⟩
 obtain ⟨n,hn⟩:=Aq body.length
 have HN:=As hn
 have z:=fun F w q=>KU n 2 F w q (by omega) (by omega) (by omega)
 have D:=fun F w q=>KU no 4 F w q (by omega) (by omega) (by omega)
 have G:=fun F w q=>X4 (.slice pa body.length pc) body B F w U q (by omega)
 rw[hn] at G h4⊢
 obtain ⟨V,p⟩:=Aq (Bz n 2)
 obtain ⟨W,r⟩:=Aq (Bz no 4)
 have R:Aside (Bz n 2=V∧Bz no 4=W∧V.length=2∧W.length=4):=⟨p,r,by rw[←p,AF],by rw[←r,AF]⟩
 rw[p] at z
 rw[r] at D
 haveI:=hs.i
 have ae:IntKind.u8.wrap (kind:Int)=(kind:Int):=by simp[IntKind.wrap,IntKind.bits,IntKind.signed];omega
 have b1: ¬(no:Int)<0:=by omega
 have b2: ¬(1048576:Int)≤no:=by omega
 have b3: ¬(kind:Int)<1:=by omega
 have b4: ¬(9:Int)<kind:=by omega
 have b5: ¬(244:Int)<n:=by omega
 clear U p r hn aj ai h1 h2 h3
 go_enter Tryz.func14,Tryz.ntmps14
 go_wp2_with fail
 refine (z _ _ hs).mono ?_
 rintro e w1 ⟨a1,c1,rfl,q1⟩
 haveI:=q1.i
 clear z
 go_wp2_with fail
 refine (D _ _ q1).mono ?_
 rintro e w2 ⟨a2,c2,rfl,q2⟩
 haveI:=q2.i
 clear D q1
 go_wp2_with (first
  |(at_builtin;refine Af E rfl (.tmp 48) (.tmp 49) rfl rfl rfl (Yw (g:=w2.heap.size) (l:= [.int .u8 kind,.int .u8 0]) (n:=2) rfl (by omega)) (Reads.NT (Reads.rw (e:=TB) (v:= .slice a1 2 c1) (l:=V)) R.out.2.2.1) (by unfold maxLen;omega) (by omega) ?_;intro a3 c3 w3 q3 z3;clear z3;haveI:=q3.i)
  |(at_builtin;refine Af E rfl (.tmp 51) (.tmp 52) rfl rfl rfl q3 (Reads.NT (Reads.rw (e:=TB) (v:= .slice a2 4 c2) (l:=W)) R.out.2.2.2) (by unfold maxLen;omega) (by omega) ?_;intro y c4 w4 q4 z4;clear z4;haveI:=q4.i))
 obtain ⟨d,m⟩:=Aq (CA no kind body)
 have I:Aside (CA no kind body=d∧d.length=8∧(Du body).length=244∧Du body=body++zs (244-n)):=⟨m,by rw[←m,IE],KP Y.out.2,by unfold Du;rw[HN.out]⟩
 have q5:Sat (rw TB 1 (.slice y 8 c4) (A4 d)*(B*F)) w4:=by
  have e1:A4 d= [.int .u8 kind,.int .u8 0]++A4 V++A4 W:=by
   rw[←m,←R.out.1,←R.out.2.1,List.append_assoc,←BL]
   unfold CA
   rw[HN.out]
   show Value.int .u8 ((UInt8.ofNat kind).toNat:Int)::_=_
   rw[UInt8.toNat_ofNat',Nat.mod_eq_of_lt (by omega)]
   rfl
  rw[e1]
  exact AD _ _ _
 haveI:=q5.i
 clear q2 q3 q4 m ae b1 b2 b3 b4
 go_wp2_with fail
 refine (G _ _ (Ae B)).mono ?_
 rintro e w5 ⟨a5,c5,rfl,q6⟩
 haveI:=q6.i
 have q7:Sat (rw TB 1 (.slice a5 n c5) (A4 body)*(rw TB 1 (.slice y 8 c4) (A4 d)*(B*F))) w5:=Cz _ _ _ _
 clear q5 q6 G b5
 go_wp2
 go_loopg [13] (245-n) (fun g ao wr=> ∃(j:Nat)(a:Option Addr)(c:Nat),ao= .slice a j c∧n≤j∧j≤244∧Aside (g=245-j)∧Sat (rw TB 1 (.slice a j c) (A4 (body++zs (j-n)))*(rw TB 1 (.slice y 8 c4) (A4 d)*(B*F))) wr)
 case atStart=>exact ⟨n,a5,c5,rfl,by omega,by omega,(rfl:_=_),by rw[Nat.sub_self];simpa[zs] using q7⟩
 obtain ⟨j,a,c,rfl,ah,hj,A,f⟩:=hrel
 clear q7
 haveI:=f.i
 by_cases af:j<244
 · have M:(j:Int)<244:=by omega
   have HZ:Aside (A4 (body++zs (j+1-n))=A4 (body++zs (j-n))++ [.int .u8 0]):=(by
    rw[show j+1-n=(j-n)+1 by omega,←gA,←List.append_assoc,BL];rfl:_=_)
   go_wp2_with (at_builtin;refine Af E rfl (.tmp 59) (.tmp 60) rfl rfl rfl (Ae (rw TB 1 (.slice a j c) (A4 (body++zs (j-n))))) (Src.new (b:=wr.heap.size) (e:=TB) (s:=1) (vs:= [.int .u8 0]) (Ae _) rfl (by intro u hu;simp at hu;subst hu;rfl)) (by unfold maxLen;omega) (by omega) ?_;intro a9 c9 w9 q9 z9;clear z9;haveI:=q9.i)
   go_roundg (245-(j+1))
   case measure=>have:=A.out;omega
   refine ⟨j+1,a9,c9,rfl,by omega,by omega,(rfl:_=_),?_⟩
   rw[HZ.out]
   exact Cz _ _ _ _
 have M: ¬(j:Int)<244:=by omega
 obtain rfl:j=244:=by omega
 rw[←I.out.2.2.2] at f
 haveI:=f.i
 obtain ⟨x,o⟩:=Aq (Du body)
 rw[o] at f
 have Z:Aside (Du body=x∧x.length=244):=⟨o,by rw[←o];exact I.out.2.2.1⟩
 haveI:=f.i
 have L:=fun F w q=>X4 (.slice y 8 c4) d (rw TB 1 (.slice y 8 c4) (A4 d)) F w Reads.rw q (by have:=I.out.2.1;omega)
 have ad:Qy (d++x)<4294967296:=O3 _
 have O:=fun a c F w q=>Yf (.slice a 252 c) (d++x) (rw TB 1 (.slice a 252 c) (A4 (d++x))) F w Reads.rw q
 obtain ⟨T,H⟩:=Aq (Qy (d++x))
 rw[H] at ad O
 have HC:=As H
 rw[I.out.2.1] at L
 have K:=fun F w q=>KU T 4 F w q (by omega) (by omega) (by omega)
 obtain ⟨X,t⟩:=Aq (Bz T 4)
 rw[t] at K
 have J:Aside (Bz T 4=X∧X.length=4):=⟨t,by rw[←t,AF]⟩
 have ax:(T:Int)<4294967296:=by omega
 clear o A af ah hj H t
 go_wp2_with fail
 refine (L _ _ (Ae (rw TB 1 (.slice y 8 c4) (A4 d)))).mono ?_
 rintro e bs ⟨a0,a8,rfl,P⟩
 haveI:=P.i
 go_wp2_with (at_builtin;refine Af E rfl (.tmp 63) (.tmp 64) rfl rfl rfl (Ae (rw TB 1 (.slice a0 8 a8) (A4 d))) (Reads.NT (Reads.rw (e:=TB) (v:= .slice a 244 c) (l:=x)) Z.out.2) (by unfold maxLen;omega) (by omega) ?_;intro bd bl bt k ap;clear ap;rw[←BL] at k;haveI:=k.i)
 refine (O _ _ _ _ k).mono ?_
 rintro e bu ⟨rfl,rfl⟩
 go_wp2_with fail
 refine (K _ _ k).mono ?_
 rintro e bv ⟨a6,aa,rfl,al⟩
 haveI:=al.i
 clear P k
 go_wp2_with (first
  |(at_builtin;refine Af E rfl (.tmp 73) (.tmp 74) rfl rfl rfl (Ae (rw TB 1 (.slice y 8 c4) (A4 d))) (Reads.NT (Reads.rw (e:=TB) (v:= .slice a6 4 aa) (l:=X)) J.out.2) (by unfold maxLen;omega) (by omega) ?_;intro be bm bw Q aq;clear aq;haveI:=Q.i)
  |(at_builtin;refine Af E rfl (.tmp 76) (.tmp 77) rfl rfl rfl Q (Reads.NT (Reads.rw (e:=TB) (v:= .slice a 244 c) (l:=x)) Z.out.2) (by unfold maxLen;omega) (by omega) ?_;intro a7 ab bx am ar;clear ar;haveI:=am.i))
 go_ret2
 refine ⟨a7,ab,rfl,?_⟩
 have e1:A4 (AV no kind body)=A4 d++A4 X++A4 x:=by
  unfold AV
  rw[I.out.1,Z.out.1,HC.out,J.out.1,BL,BL,List.append_assoc]
 rw[e1]
 exact AD _ _ _
theorem UW(no kind:Int)(v:Value)(body:List UInt8)(B F:Ab)(w:World)(b:Reads B v body)(hs:Sat (B*F) w):
 Calls Tryz.prog 14 #[.int .i64 no,.int .i64 kind,v] w (Tf B F (Bw no kind body)):=by
 by_cases h:no<0∨1048576≤no∨kind<1∨9<kind∨244<body.length
 · exact UX no kind v body B F w b hs h
 obtain ⟨a,rfl⟩:=Int.eq_ofNat_of_zero_le (show 0≤no by omega)
 obtain ⟨k,rfl⟩:=Int.eq_ofNat_of_zero_le (show 0≤kind by omega)
 refine (SC a k v body B F w b hs (by omega) (by omega) (by omega) (by omega)).mono ?_
 rintro e g ⟨p,c,d,q⟩
 have f:Bw a k body=(AV a k body,0):=by
  unfold Bw
  rw[if_neg (by omega),if_neg (by omega),Int.toNat_natCast,Int.toNat_natCast]
 have hl:=IF a k (body:=body) (by omega)
 rw[f]
 refine ⟨p,c,?_,?_⟩
 · show e= .returned (.tuple #[.slice p (AV a k body).length c,.int .i64 0])
   rw[hl];exact d
 show Sat (rw TB 1 (.slice p (AV a k body).length c) (A4 (AV a k body))*(B*F)) g
 rw[hl];exact q
