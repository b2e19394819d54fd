/- treeFails holds for every input. No condition. (part 18) -/
import Derived.Test.YtfhbmblbidcmmaaGreatYa17
import Derived.Test.YtfhbmblbidcmmaaGreatYa14
import Derived.Deep.DeepCutAuto
set_option linter.all false
set_option maxHeartbeats 1600000
namespace Go.Proofs.YtfhbmblbidcmmaaGreat
open Go.RowKit Go.Sl Go.Dk Go.Tr
attribute [go_sem] Go.Sl.Aa Go.Sl.JL
theorem Z8(n w i:Nat)(h:i<w):(BF n w)[i]?=some (UInt8.ofNat (n/256^i)):=by
 induction w generalizing n i with
 |zero=>omega
 | succ w a =>
  cases i with
  |zero=>simp[BF]
  | succ i =>
   show (BF (n/256) w)[i]?=_
   rw[a _ _ (by omega),Nat.div_div_eq_div_mul,Nat.pow_succ,Nat.mul_comm]
theorem QT(n:Nat):madeCells (Value.int .u8 0).cells n=(A4 (List.replicate n 0)).toArray:=by
 apply Array.ext
 ·simp[madeCells,A4]
 intro i a b
 have e:(Value.int .u8 0).cells= #[Value.int .u8 0]:=rfl
 simp[madeCells,A4,bv,e,Nat.mod_one]
theorem Vs(n:Nat)(a:n≤1099511627776)(w:World):(Instr.makeSlice 26 (.int .i64 n) (.int .i64 n)).run Tryz.prog w= .ok (.slice (some ⟨w.heap.size,0,none⟩) n n) (w.alloc (.cells (A4 (List.replicate n 0)).toArray TB)):=by
 obtain ⟨i,E⟩:=Ez
 have h:=run_make (P:=Tryz.prog) w 26 TB i (.int .u8 0) E.NV E.info E.zero .i64 .i64 n n (by omega) (by omega) (by rw[E.bytes];omega) (by omega)
 rw[E.size,Nat.mul_one,Int.toNat_natCast,QT] at h
 exact h
theorem WU(n w i:Nat)(h:i<w):((BF n w).take i++zs (w-i)).set i (UInt8.ofNat (n/256^i))=(BF n w).take (i+1)++zs (w-(i+1)):=by
 have a:w-i=(w-(i+1))+1:=by omega
 have b:((BF n w).take i).length=i:=by simp[AB];omega
 rw[a,AA (Z8 n w i h),List.set_append_right _ _ (by omega),b,Nat.sub_self]
 show ((BF n w).take i++((0:UInt8)::List.replicate (w-(i+1)) 0).set 0 (UInt8.ofNat (n/256^i)))=_
 rw[List.set_cons_zero,List.append_assoc]
 rfl
theorem WT(n i:Nat):((UInt8.ofNat (n/256^i)).toNat:Int)=(n:Int)/2^(8*i)%256:=by
 have e:(256:Nat)^i=2^(8*i):=by rw[Nat.pow_mul]
 rw[UInt8.toNat_ofNat',e,Int.natCast_emod,Int.natCast_ediv,Int.natCast_pow]
 rfl
theorem LW(n w:Nat)(F:Ac)(q:World)(hs:Sat F q)(K:1≤w)(L:w≤8)(v:n<256^w)(D:n≤9223372036854775807):
 Calls Tryz.prog 255 #[.int .i64 n,.int .i64 w] q fun e I=> ∃a c,e= .returned (.tuple #[.slice a w c,.int .i64 0])∧Sat (rw TB 1 (.slice a w c) (A4 (BF n w))*F) I:=by
 have B:=Vs w (by omega)
 have G: ¬(w:Int)<1:=by omega
 have H: ¬(8:Int)<w:=by omega
 have s:(n:Int)/2^(8*w)=0:=by
  rw[Int.ediv_eq_zero_of_lt (by omega)]
  have e:(256:Nat)^w=2^(8*w):=by rw[Nat.pow_mul]
  rw[e] at v
  exact_mod_cast v
 have p:=X9 (n:=w) (List.replicate w 0) (by simp) (by omega) hs
 have j:Sat (rw TB 1 (.slice (some ⟨q.heap.size,0,none⟩) w w) (A4 ((BF n w).take 0++zs (w-0)))*F) _:=p
 obtain ⟨g,x⟩: ∃z,q.heap.size=z:=⟨_,rfl⟩
 rw[x] at j
 clear p
 go_enter Tryz.func255,Tryz.ntmps255
 go_upto_region 3 with (fail)
 go_cut [27] (fun t J=>t= .bool false∧q=J)
 case first=>
  by_cases m:(w:Int)<8
  · go_wp2_with fail
    go_meet
    exact ⟨rfl,rfl⟩
  go_wp2_with fail
  go_meet
  exact ⟨rfl,rfl⟩
 obtain ⟨rfl,rfl⟩:=hcut
 clear s
 go_wp2_with fail
 go_loopg [32] w (fun gk u wr=> ∃i:Nat,u= .int .i64 i∧i≤w∧Aside (gk=w-i)∧Sat (rw TB 1 (.slice (some ⟨g,0,none⟩) w w) (A4 ((BF n w).take i++zs (w-i)))*F) wr)
 case atStart=>exact ⟨0,rfl,by omega,rfl,j⟩
 clear j
 obtain ⟨i,rfl,hi,A,f⟩:=hrel
 by_cases m:i<w
 · have o:(i:Int)<w:=by omega
   have k:Aside ((A4 ((BF n w).take i++zs (w-i))).set i (.int .u8 ((n:Int)/2^(8*i)%256))=A4 ((BF n w).take (i+1)++zs (w-(i+1)))):=(by rw[←WT,Yo,WU n w i m]:_=_)
   obtain ⟨d,b⟩: ∃l,(BF n w).take i++zs (w-i)=l:=⟨_,rfl⟩
   have r:d.length=w:=by rw[←b];simp[AB,zs];omega
   rw[b] at f k
   obtain ⟨y,hy⟩: ∃y,d[i]?=some y:=⟨d[i]'(by omega),by simp⟩
   haveI:At (A4 d) i (.int .u8 y.toNat):=⟨by unfold A4;rw[List.getElem?_map,hy];rfl⟩
   haveI:=f.i
   clear b r hy
   go_wp2
   go_roundg (w-(i+1))
   case measure=>have:=A.out;omega
   refine ⟨i+1,by go_num,by omega,rfl,?_⟩
   rw[←k.out]
   exact Es
 have o: ¬(i:Int)<w:=by omega
 obtain rfl:i=w:=by omega
 have e:(BF n i).take i++zs (i-i)=BF n i:=by rw[List.take_of_length_le (by rw[AB];omega),Nat.sub_self];simp[zs]
 rw[e] at f
 clear e A
 go_wp2
 go_ret2
 exact ⟨some ⟨g,0,none⟩,i,rfl,f⟩
theorem Y6{b:List UInt8}{j:Nat}{x:UInt8}(h:b[j]?=some x):EI (b.drop j)=x.toNat+256*EI (b.drop (j+1)):=by
 obtain ⟨a,rfl⟩:=List.getElem?_eq_some_iff.1 h
 rw[List.drop_eq_getElem_cons a]
 rfl
theorem x'(a:Nat)(x:UInt8)(h:a<36028797018963968):bits .or .i64 ((a:Int)*256) (x.toNat:Int)=((x.toNat+256*a:Nat):Int):=by
 have hx:=x.toNat_lt
 show IntKind.i64.wrap (((BitVec.ofInt 64 ((a:Int)*256)|||BitVec.ofInt 64 (x.toNat:Int)).toNat:Nat):Int)=_
 have c:(BitVec.ofInt 64 ((a:Int)*256)).toNat=a*256:=by rw[BitVec.toNat_ofInt];omega
 have d:(BitVec.ofInt 64 (x.toNat:Int)).toNat=x.toNat:=by rw[BitVec.toNat_ofInt];omega
 rw[BitVec.toNat_or,c,d]
 have e:a*256|||x.toNat=x.toNat+256*a:=by
  have:=Nat.two_pow_add_eq_or_of_lt (i:=8) (b:=x.toNat) (by omega) a
  rw[show (2:Nat)^8=256 from rfl] at this
  rw[Nat.mul_comm a 256,←this];omega
 rw[e]
 exact IntWalk.i64_in _ (by omega)
theorem OR(v:Value)(b:List UInt8)(c:World)(hb:Oc c v b)(J:1≤b.length)(K:b.length≤7):
 Calls Tryz.prog 182 #[v] c fun e B=>e= .returned (.tuple #[.int .i64 (EI b:Nat),.int .i64 0])∧c=B:=by
 obtain ⟨y,z,rfl,_,_⟩:=hb.len
 have G: ¬(b.length:Int)<1:=by omega
 have H: ¬(8:Int)<b.length:=by omega
 have I:((b.length:Int)==8)=false:=by rw[beq_eq_false_iff_ne];omega
 have l:Aside (Oc c (.slice y b.length z) b):=hb
 clear hb
 go_enter Tryz.func182,Tryz.ntmps182
 go_wp2
 go_loopg [4,5] b.length (fun gk u w wr=> ∃(j n:Nat),u= .int .i64 n∧w= .int .i64 ((j:Int)-1)∧j≤b.length∧n<256^(b.length-j)∧Aside (gk=j∧n=EI (b.drop j))∧c=wr)
 case atStart=>exact ⟨b.length,0,rfl,rfl,by omega,by simp,⟨rfl,by simp[EI]⟩,rfl⟩
 obtain ⟨j,n,rfl,rfl,M,q,A,rfl⟩:=hrel
 by_cases g:j=0
 · subst g
   have m:Aside (n=EI b):=(by have:=A.out.2;simpa using this:_=_)
   go_wp2
   go_ret2
   exact ⟨by rw[m.out];rfl,rfl⟩
 obtain ⟨i,rfl⟩: ∃i,j=i+1:=⟨j-1,by omega⟩
 have d:i<b.length:=by omega
 obtain ⟨x,hx⟩: ∃x,b[i]?=some x:=⟨b[i],by simp[d]⟩
 obtain ⟨D,o,rfl,L⟩:=l.out.at hx
 have t:=x.toNat_lt
 have r:n<281474976710656:=by
  have p:b.length-(i+1)≤6:=by omega
  have:=Nat.pow_le_pow_right (n:=256) (by omega) p
  omega
 have s:=x' n x (by omega)
 have f:Aside (EI (b.drop i)=x.toNat+256*n∧x.toNat+256*n<256^(b.length-i)):=⟨by rw[Y6 hx,←A.out.2],by
  have e:b.length-i=(b.length-(i+1))+1:=by omega
  rw[e,Nat.pow_succ];omega⟩
 have a:((i+1:Nat):Int)-1=(i:Int):=by omega
 have k:(i:Int)<b.length:=by omega
 rw[a]
 clear a hx g q
 go_wp2
 go_roundg i
 case measure=>have:=A.out.1;omega
 case rel=>exact ⟨i,x.toNat+256*n,by go_num,rfl,by omega,f.out.2,⟨rfl,f.out.1.symm⟩,rfl⟩
abbrev p7:TypeId:=344
def Em(R:Nat)(v:Value)(n:Nat):Ac:=Dl R p7 2*(Sl.cell R 0 v*Sl.cell R 1 (.int .i64 n))
instance(R:Nat)(v:Value)(n:Nat):DA (Em R v n) R 0 v:=by unfold Em;infer_instance
instance(R:Nat)(v:Value)(n:Nat):DA (Em R v n) R 1 (.int .i64 n):=by unfold Em;infer_instance
def DI(R:Nat)(a:Option Addr)(c:Nat)(l:List UInt8)(n:Nat):Ac:=Em R (.slice a l.length c) n*rw TB 1 (.slice a l.length c) (A4 l)
theorem LD(R:Nat)(a:Option Addr)(c:Nat)(l:List UInt8)(p n:Nat)(F:Ac)(w:World)(hs:Sat (DI R a c l p*F) w)(hp:p≤l.length)(hl:l.length≤1099511627776)(h:p+n≤l.length):
 Calls Tryz.prog 232 #[.pointer (some ⟨R,0,none⟩),.int .i64 n] w fun e b=>e= .returned (.tuple #[.slice (BP a c p 1) n (c-p),.int .i64 0])∧Sat (DI R a c l p*F) b:=by
 obtain ⟨i0,E⟩:=Ez
 have d:Sat (Em R (.slice a l.length c) p*(rw TB 1 (.slice a l.length c) (A4 l)*F)) w:=hs.eq (by unfold DI;ac_rfl)
 obtain ⟨_,o,k⟩:=ZI (d.take (rw TB 1 (.slice a l.length c) (A4 l)))
 have hcut:=MA (P:=Tryz.prog) E (a:=a) (n:=l.length) (c:=c) p (p+n) (by omega) (by omega)
 have j:p+n-p=n:=by omega
 rw[Int.natCast_add,j] at hcut
 have q: ¬(l.length:Int)-p<n:=by omega
 have m:decide ((l.length:Int)-p<n)=false:=by simp;omega
 haveI:=d.i
 clear hs j
 go_enter Tryz.func232,Tryz.ntmps232
 go_upto_region 3 with (fail)
 have f:IntKind.i64.wrap ((l.length:Int)-p)=(l.length:Int)-p:=IntWalk.i64_in _ (by omega)
 have g:IntKind.i64.wrap ((p:Int)+n)=(p:Int)+n:=IntWalk.i64_in _ (by omega)
 go_region_held3 (fun b=>b.cell? ⟨R,0,none⟩=some (.slice a l.length c)∧b.cell? ⟨R,1,none⟩=some (.int .i64 p)) (first|exact ⟨Aa _ _ _,Aa _ _ _⟩) (first|(fail))
 all_goals
  go_upto_region 5 with (fail)
  go_region_held3 (fun b=>b.cell? ⟨R,0,none⟩=some (.slice a l.length c)∧b.cell? ⟨R,1,none⟩=some (.int .i64 p)) (first|exact ⟨Aa _ _ _,Aa _ _ _⟩) (first|(fail))
  all_goals
   clear f g
   go_wp2
   go_ret2
   exact ⟨rfl,A8 (by unfold DI;ac_rfl)⟩
theorem V7(R:Nat)(a:Option Addr)(c:Nat)(l:List UInt8)(p n:Nat)(F:Ac)(w:World)(hs:Sat (DI R a c l p*F) w)(hp:p≤l.length)(hl:l.length≤1099511627776)(h:l.length<p+n)(j:n≤1099511627776):
 Calls Tryz.prog 232 #[.pointer (some ⟨R,0,none⟩),.int .i64 n] w fun e b=>e= .returned (.tuple #[.slice none 0 0,.int .i64 3])∧Sat (DI R a c l p*F) b:=by
 have d:Sat (Em R (.slice a l.length c) p*(rw TB 1 (.slice a l.length c) (A4 l)*F)) w:=hs.eq (by unfold DI;ac_rfl)
 have g:(l.length:Int)-p<n:=by omega
 haveI:=d.i
 clear hs
 go_enter Tryz.func232,Tryz.ntmps232
 go_upto_region 3 with (fail)
 have f:IntKind.i64.wrap ((l.length:Int)-p)=(l.length:Int)-p:=IntWalk.i64_in _ (by omega)
 go_region_held3 (fun b=>b.cell? ⟨R,0,none⟩=some (.slice a l.length c)∧b.cell? ⟨R,1,none⟩=some (.int .i64 p)) (first|exact ⟨Aa _ _ _,Aa _ _ _⟩) (first|(fail))
 all_goals
  clear f
  go_wp2
  go_ret2
  exact ⟨rfl,A8 (by unfold DI;ac_rfl)⟩
instance(R:Nat)(v:Value)(n m:Nat):UC (Em R v n) R 1 (.int .i64 m) (Em R v m):=by unfold Em;infer_instance
instance(R:Nat)(v:Value)(n a b:Nat):UC (Em R v n) R 1 (.int .i64 ((a:Int)+(b:Int))) (Em R v (a+b)):=by rw[←Int.natCast_add];infer_instance
theorem Kb{a:Option Addr}{c:Nat}{l:List UInt8}(p n:Nat)(h:p+n≤l.length):Reads (rw TB 1 (.slice a l.length c) (A4 l)) (.slice (BP a c p 1) n (c-p)) ((l.drop p).take n):=by
 intro F w hs
 have:=(Reads.rw F w hs).cut p (p+n) (by omega) (by omega)
 rw[show p+n-p=n by omega] at this
 exact this
theorem DF(R:Nat)(a:Option Addr)(c:Nat)(l:List UInt8)(p n:Nat)(F:Ac)(w:World)(hs:Sat (DI R a c l p*F) w)(hl:l.length≤1099511627776)(h:p+n≤l.length)(u:1≤n)(v:n≤7):
 Calls Tryz.prog 185 #[.pointer (some ⟨R,0,none⟩),.int .i64 n] w fun e b=>e= .returned (.tuple #[.int .i64 (EI ((l.drop p).take n):Nat),.int .i64 0])∧Sat (DI R a c l (p+n)*F) b:=by
 have f:=LD R a c l p n F w hs (by omega) hl h
 have s: ¬(n:Int)<1:=by omega
 have t: ¬(8:Int)<n:=by omega
 have g:((l.drop p).take n).length=n:=by simp;omega
 have m:Aside (∀b,Sat (DI R a c l p*F) b→Calls Tryz.prog 182 #[.slice (BP a c p 1) n (c-p)] b fun e k=>e= .returned (.tuple #[.int .i64 (EI ((l.drop p).take n):Nat),.int .i64 0])∧b=k):=fun b q=>OR _ _ b (Kb p n h (Em R (.slice a l.length c) p*F) b (q.eq (by unfold DI;ac_rfl))) (by omega) (by omega)
 obtain ⟨z,o⟩: ∃z,EI ((l.drop p).take n)=z:=⟨_,rfl⟩
 rw[o] at m⊢
 clear o g hs
 go_enter Tryz.func185,Tryz.ntmps185
 go_wp2_with fail
 refine f.mono ?_
 rintro e r ⟨rfl,d⟩
 clear f
 go_wp2_with fail
 refine (m.out _ d).mono ?_
 rintro e x ⟨rfl,rfl⟩
 have j:Sat (Em R (.slice a l.length c) p*(rw TB 1 (.slice a l.length c) (A4 l)*F)) r:=d.eq (by unfold DI;ac_rfl)
 haveI:=j.i
 clear d
 go_wp2
 go_ret2
 exact ⟨rfl,A8 (by unfold DI;ac_rfl)⟩
theorem Xx(R:Nat)(a:Option Addr)(c:Nat)(l:List UInt8)(p n:Nat)(F:Ac)(w:World)(hs:Sat (DI R a c l p*F) w)(hp:p≤l.length)(hl:l.length≤1099511627776)(h:l.length<p+n)(j:1≤n)(k:n≤7):
 Calls Tryz.prog 185 #[.pointer (some ⟨R,0,none⟩),.int .i64 n] w fun e f=>e= .returned (.tuple #[.int .i64 0,.int .i64 3])∧Sat (DI R a c l p*F) f:=by
 have b:=V7 R a c l p n F w hs hp hl h (by omega)
 have g: ¬(n:Int)<1:=by omega
 have i: ¬(8:Int)<n:=by omega
 clear hs
 go_enter Tryz.func185,Tryz.ntmps185
 go_wp2_with fail
 refine b.mono ?_
 rintro e m ⟨rfl,d⟩
 clear b
 go_wp2
 go_ret2
 exact ⟨rfl,d⟩
theorem Pv(R:Nat)(a:Option Addr)(c:Nat)(l:List UInt8)(p n:Nat)(F:Ac)(w:World)(hs:Sat (DI R a c l p*F) w)(hl:l.length≤1099511627776)(h:p+n≤l.length):
 Calls Tryz.prog 187 #[.pointer (some ⟨R,0,none⟩),.int .i64 n] w fun e u=> ∃b d,e= .returned (.tuple #[.slice b n d,.int .i64 0])∧Sat (rw TB 1 (.slice b n d) (A4 ((l.drop p).take n))*(DI R a c l (p+n)*F)) u:=by
 obtain ⟨i0,E⟩:=Ez
 have g:=LD R a c l p n F w hs (by omega) hl h
 have o:((l.drop p).take n).length=n:=by simp;omega
 clear hs
 go_enter Tryz.func187,Tryz.ntmps187
 go_wp2_with fail
 refine g.mono ?_
 rintro e r ⟨rfl,j⟩
 clear g
 have q:Sat (Em R (.slice a l.length c) p*(rw TB 1 (.slice a l.length c) (A4 l)*F)) r:=j.eq (by unfold DI;ac_rfl)
 haveI:=q.i
 clear j
 have s:=Kb (a:=a) (c:=c) p n h
 go_upto_region 5 with (fail)
 have k:Sat (Em R (.slice a l.length c) (p+n)*(rw TB 1 (.slice a l.length c) (A4 l)*F)) (r.setCell ⟨R,1,none⟩ (.int .i64 ((p:Int)+(n:Int)))):=Es
 generalize r.setCell ⟨R,1,none⟩ (.int .i64 ((p:Int)+(n:Int)))=w3 at k⊢
 haveI:=k.i
 go_wp2_with (at_builtin;refine Aj E rfl (.tmp 25) (.tmp 26) rfl rfl rfl (La (b:=w3.heap.size) (e:=TB)) (Reads.VG s o) (by unfold maxLen;omega) (by omega) ?_;intro t c2 v m f;clear f;simp only[Nat.zero_add,List.nil_append] at m⊢)
 go_ret2
 exact ⟨t,c2,rfl,m.eq (by unfold DI;ac_rfl)⟩
theorem Hy(R:Nat)(a:Option Addr)(c:Nat)(l:List UInt8)(p:Nat)(F:Ac)(w:World)(hs:Sat (DI R a c l p*F) w)(hp:p≤l.length)(hl:l.length≤1099511627776):
 Calls Tryz.prog 188 #[.pointer (some ⟨R,0,none⟩)] w fun e b=>e= .returned (.int .i64 (l.length-p:Nat))∧Sat (DI R a c l p*F) b:=by
 have d:Sat (Em R (.slice a l.length c) p*(rw TB 1 (.slice a l.length c) (A4 l)*F)) w:=hs.eq (by unfold DI;ac_rfl)
 haveI:=d.i
 clear hs
 go_enter Tryz.func188,Tryz.ntmps188
 go_upto_region 3 with (fail)
 have f:IntKind.i64.wrap ((l.length:Int)-p)=(l.length:Int)-p:=IntWalk.i64_in _ (by omega)
 go_region_held3 (fun b=>b.cell? ⟨R,0,none⟩=some (.slice a l.length c)∧b.cell? ⟨R,1,none⟩=some (.int .i64 p)) (first|exact ⟨Aa _ _ _,Aa _ _ _⟩) (first|(fail))
 all_goals
  clear f
  go_wp2
  go_ret
  exact ⟨by rw[show ((l.length-p:Nat):Int)=(l.length:Int)-p by omega];rfl,A8 (by unfold DI;ac_rfl)⟩
theorem GF(v:Value)(l:List UInt8)(B F:Ac)(w:World)(k:Reads B v l)(hs:Sat (B*F) w)(hl:l.length≤1099511627776):
 Calls Tryz.prog 184 #[v] w fun e m=> ∃R a c,e= .returned (.pointer (some ⟨R,0,none⟩))∧Sat (DI R a c l 0*(B*F)) m:=by
 obtain ⟨i0,E⟩:=Ez
 obtain ⟨o,p,rfl,_,_⟩:=(k F w hs).len
 haveI:=hs.i
 go_enter Tryz.func184,Tryz.ntmps184
 go_wp2_with (at_builtin;refine Aj E rfl (.tmp 3) (.tmp 4) rfl rfl rfl (La (b:=w.heap.size) (e:=TB)) (Reads.VG k rfl) (by unfold maxLen;omega) (by omega) ?_;intro j c2 n f d;clear d;simp only[Nat.zero_add,List.nil_append] at f⊢)
 go_ret
 have g:=f.alloc #[.slice j l.length c2,.int .i64 0] p7
 refine ⟨n.heap.size,j,c2,rfl,g.eq ?_⟩
 unfold DI Em
 simp only[block,Sl.cells,Bd,List.length_cons,List.length_nil,Nat.zero_add,Nat.reduceAdd]
 ac_rfl
theorem NF(R:Nat)(a:Option Addr)(c:Nat)(l:List UInt8)(p n:Nat)(F:Ac)(w:World)(hs:Sat (DI R a c l p*F) w)(hl:l.length≤1099511627776)(h:p+n≤l.length):
 Calls Tryz.prog 186 #[.pointer (some ⟨R,0,none⟩),.int .i64 n] w fun e s=>e= .returned (.int .i64 (if ((l.drop p).take n).any (· !=0) then 4 else 0))∧Sat (DI R a c l (if ((l.drop p).take n).any (· !=0) then p else p+n)*F) s:=by
 have r:=LD R a c l p n F w hs (by omega) hl h
 have m:((l.drop p).take n).length=n:=by simp;omega
 obtain ⟨z,L⟩: ∃z,(l.drop p).take n=z:=⟨_,rfl⟩
 have u:Aside (∀s,Sat (DI R a c l p*F) s→Oc s (.slice (BP a c p 1) n (c-p)) z):=fun s Q=>by
  rw[←L]
  exact Kb p n h (Em R (.slice a l.length c) p*F) s (Q.eq (by unfold DI;ac_rfl))
 rw[L] at m⊢
 obtain ⟨V,f⟩: ∃q,BP a c p 1=q:=⟨_,rfl⟩
 rw[f] at r u
 obtain ⟨H,k⟩: ∃q:Bool,z.any (· !=0)=q:=⟨_,rfl⟩
 rw[k]
 have M:Aside (z.any (· !=0)=H):=k
 have v:Aside (z.length=n):=m
 clear hs L m f k
 go_enter Tryz.func186,Tryz.ntmps186
 go_wp2_with fail
 refine r.mono ?_
 rintro e B ⟨rfl,d⟩
 clear r
 go_wp2_with fail
 go_loopg [20] n (fun g t wr=> ∃j:Nat,t= .int .i64 j∧j≤n∧Aside (g=n-j∧(z.take j).any (· !=0)=false)∧B=wr)
 case atStart=>exact ⟨0,rfl,by omega,⟨rfl,by simp⟩,rfl⟩
 obtain ⟨j,rfl,W,A,rfl⟩:=hrel
 by_cases J:j<n
 · have y:(j:Int)<n:=by omega
   obtain ⟨x,hx⟩: ∃x,z[j]?=some x:=⟨z[j]'(by rw[v.out];exact J),by simp⟩
   obtain ⟨b,o,rfl,G⟩:=(u.out B d).at hx
   have U:=x.toNat_lt
   by_cases D:x=0
   · subst D
     have P:Aside ((z.take (j+1)).any (· !=0)=false):=(by rw[AA hx,List.any_append,A.out.2];simp:_=_)
     have I:B.cell? ⟨b,o+j,none⟩=some (.int .u8 0):=G
     clear hx G
     go_wp2
     go_roundg (n-(j+1))
     case measure=>have:=A.out.1;omega
     case rel=>exact ⟨j+1,by go_num,by omega,⟨rfl,P.out⟩,rfl⟩
   obtain rfl:H=true:=by rw[←M.out,List.any_eq_true];exact ⟨x,List.mem_of_getElem? hx,by simpa using D⟩
   have I:B.cell? ⟨b,o+j,none⟩=some (.int .u8 x.toNat):=G
   have T:((x.toNat:Int) !=0)=true:=by
    have:x.toNat≠0:=fun e=>D (UInt8.toNat_inj.1 e)
    simp;omega
   clear hx G D
   go_wp2
   go_ret
   exact ⟨rfl,d⟩
 have y: ¬(j:Int)<n:=by omega
 obtain rfl:H=false:=by have O:=A.out.2;rw[List.take_of_length_le (by rw[v.out];omega)] at O;rw[←M.out];exact O
 have K:Sat (Em R (.slice a l.length c) p*(rw TB 1 (.slice a l.length c) (A4 l)*F)) B:=d.eq (by unfold DI;ac_rfl)
 haveI:=K.i
 clear d A
 go_wp2
 go_ret
 refine ⟨rfl,A8 ?_⟩
 show _=DI R a c l (p+n)*F
 unfold DI
 ac_rfl
