/- treeFails holds for every input. No condition. (part 48) -/
import Derived.Test.YtfhbmblbidcmmaaGreatYa47
set_option linter.all false
set_option maxRecDepth 100000
set_option maxHeartbeats 1600000
namespace Go.Tr
section
variable {σ:Type}
variable {X:Env σ} (hX:X.Ok)
end
end Go.Tr
namespace Go.Proofs.YtfhbmblbidcmmaaGreat
open Go.RowKit Go.Sl Go.Dk Go.Tr
variable [G1]
theorem XG{α:Type}{s:TS}{R W:Nat}{m:M TS α}{Q:α→TS→Prop}(h:Step (W8 true) s R W m Q)(hw:W≤Bm s.sp)(hl:R+W≤Ap s):
 ∃a s',m s= .ok a s'∧Ml true s'∧Le (nodeAt s) (nodeAt s')∧s'.ck.reads.toNat≤s.ck.reads.toNat+R∧Bm s.sp≤Bm s'.sp+W∧Ap s≤Ap s'+(R+W)∧Q a s':=by
 unfold Step at h
 rcases h with h|h
 ·have:Bm s.sp<W:=h
  omega
 cases hm:m s with
 | ok a s' =>
  rw[hm] at h
  obtain ⟨b,c,d,f,g,i⟩:=h
  exact ⟨a,s',rfl,b,c,d,f,g,i⟩
 | fault e s' =>
  rw[hm] at h
  obtain ⟨b,_⟩:=h
  rcases b with ⟨b,_⟩|b
  ·cases b
  have:Bm s.sp<W:=b
  omega
 | bad =>
  rw[hm] at h
  have:Ap s<R+W:=h
  omega
structure BJ (a b:Ck):Prop where
 cap:b.cap=a.cap
 nm:b.nm=a.nm
 Im: ∀n,n≠a.nm→b.d.get n=a.d.get n
theorem BJ.same(a:Ck):BJ a a:=⟨rfl,rfl,fun _ _=>rfl⟩
theorem BJ.next{a b c:Ck}(h:BJ a b)(k:BJ b c):BJ a c:=⟨k.cap.trans h.cap,k.nm.trans h.nm,fun n d=>(k.Im n (by rw[h.nm];exact d)).trans (h.Im n d)⟩
theorem Kv(d:Dk)(nm:ByteArray)(k:Int)(b:List UInt8)(n:ByteArray)(h:n≠nm):(d.write nm k b).2.get n=d.get n:=by
 unfold Dk.write
 split
 ·rfl
 split
 ·rfl
 split
 ·rfl
 split
 ·rfl
 split
 ·rfl
 unfold Dk.get Dk.written Dk.put
 simp only
 rw[Cs,if_neg h]
 rfl
theorem P8(s:Ck)(no:Int):BJ s (s.Bn no).2:=by
 unfold Ck.Bn
 split<;>exact ⟨rfl,rfl,fun n a=>Kv _ _ _ _ _ a⟩
theorem NY(s:Ck)(no:Int):BJ s (s.write no).2:=by
 unfold Ck.write
 split
 ·exact BJ.same s
 split
 ·have a:BJ s { s with d:=(s.pad no).2 } :=⟨rfl,rfl,fun n b=>Kv _ _ _ _ _ b⟩
  split
  ·exact a.next (P8 _ no)
  exact a
 exact P8 s no
theorem Tq(s:Ck)(no:Int):BJ s (s.release no).2:=by
 have h:=NY s no
 unfold Ck.release
 split
 ·exact ⟨h.cap,h.nm,h.Im⟩
 exact h
theorem YR(s:Ck):BJ s s.room.2:=by
 unfold Ck.room
 split
 ·exact BJ.same s
 split
 ·exact BJ.same s
 exact Tq s _
theorem U6(s:Ck)(no:Int)(b:List UInt8):BJ s (s.take no b).2:=by
 have h:=YR s
 unfold Ck.take
 split
 ·exact ⟨h.cap,h.nm,h.Im⟩
 exact h
theorem Z3(s:Ck)(no:Int):BJ s (s.get no).2.2:=by
 unfold Ck.get
 split
 ·exact BJ.same s
 split
 ·exact ⟨rfl,rfl,fun _ _=>rfl⟩
 simp only
 split
 ·have h:=U6 s no (s.d.read s.nm (no*256) 256).2
  split
  ·exact ⟨h.cap,h.nm,h.Im⟩
  exact h
 exact BJ.same s
theorem ZE(s:Ck)(no:Int)(b:List UInt8):BJ s (s.put no b).2:=by
 unfold Ck.put
 split
 ·exact BJ.same s
 split
 ·exact ⟨rfl,rfl,fun _ _=>rfl⟩
 have h:=U6 s no b
 split
 ·exact ⟨h.cap,h.nm,h.Im⟩
 exact h
def M8(s s':TS):Prop:=s'.sp=s.sp∧BJ s.ck s'.ck
theorem Dh:Od M8 where
 same s:=⟨rfl,BJ.same _⟩
 next a b c h1 h2:=⟨h2.1.trans h1.1,h1.2.next h2.2⟩
def Fc(s s':TS):Prop:=BJ s.ck s'.ck
theorem Bx:Od Fc where
 same s:=BJ.same _
 next a b c h1 h2:=BJ.next h1 h2
theorem Fm(P:TS→TS→Prop)(h:Od P)(e:Int):Af P (DQ e):=by
 unfold DQ
 split
 ·exact Af.pure h _
 exact Af.fail h _
theorem NR(p:Int):Af M8 (Ah p):=by
 refine Af.bind Dh (fun s=>?_) fun r=>Af.bind Dh (Fm _ Dh _) fun _=>?_
 ·unfold Mo
  by_cases h:s.ops<Bu
  ·rw[if_pos h];exact ⟨rfl,Z3 _ _⟩
  rw[if_neg h];trivial
 cases CV p r.2 with
 |none=>exact Af.fail Dh _
 |some n=>exact Af.pure Dh _
theorem LL(p:Int):Af Fc (Ah p):=fun s=>by
 have:=NR p s
 cases h:Ah p s with
 |ok a s'=>rw[h] at this;exact this.2
 |fault e s'=>rw[h] at this;exact this.2
 |bad=>trivial
theorem Kg(n:Nd):Af Fc (Ag n):=by
 refine Af.ite (Af.fail Bx _) ?_
 refine Af.bind Bx (fun s=>?_) fun t=>Af.bind Bx (Fm _ Bx _) fun _=>Af.bind Bx (Fm _ Bx _) fun _=>Af.bind Bx (fun s=>ZE _ _ _) fun e=>Af.bind Bx (Fm _ Bx _) fun _=>Af.pure Bx _
 unfold F0
 by_cases h:s.ops<Bu
 ·rw[if_pos h];exact BJ.same _
 rw[if_neg h];trivial
end Go.Proofs.YtfhbmblbidcmmaaGreat
namespace Go.Proofs.YtfhbmblbidcmmaaGreat
open Go.RowKit Go.Sl Go.Dk Go.Tr
variable [G1]
def Ld(l:List As)(at_ n:Int)(put:List As):Int×List As:=
 if BD put=false then (1,[]) else
 if at_<0∨n<0∨Ab l<at_∨Ab l-at_<n then (2,[]) else
 if 1048576<Ab l-n+Ab put then (10,[]) else
 if n=0∧put= [] then (0,l) else
 if 1024<(D8 l at_ n put).length then (11,[]) else (0,D8 l at_ n put)
structure j7 (s s':TS) (R W:Nat):Prop where
 inv:Ml true s'
 le:Le (nodeAt s) (nodeAt s')
 reads:s'.ck.reads.toNat≤s.ck.reads.toNat+R
 room:Bm s.sp≤Bm s'.sp+W
 left:Ap s≤Ap s'+(R+W)
 cap:Fc s s'
theorem j7.trans{s s1 s2:TS}{R1 W1 R2 W2:Nat}(h:j7 s s1 R1 W1)(k:j7 s1 s2 R2 W2):j7 s s2 (R1+R2) (W1+W2):=
 ⟨k.inv,h.le.trans k.le,by have:=h.reads;have:=k.reads;omega,by have:=h.room;have:=k.room;omega,by have:=h.left;have:=k.left;omega,Bx.next _ _ _ h.cap k.cap⟩
end Go.Proofs.YtfhbmblbidcmmaaGreat
namespace Go.Proofs.YtfhbmblbidcmmaaGreat
open Go.RowKit Go.Sl Go.Dk Go.Tr
variable [G1]
theorem XJ(d:Dk)(nm n:ByteArray)(h:n≠nm):(d.sync nm).2.get n=d.get n:=by
 unfold Dk.sync
 split
 ·rfl
 split
 ·rfl
 unfold Dk.get Dk.settled Dk.put
 simp only
 rw[Cs,if_neg h]
 rfl
theorem Za(d:Dk)(nm:ByteArray):Bp 1 nm d (d.sync nm).2:=by
 have same:Bp 1 nm d d:=(Bp.KX nm d).more (by omega)
 unfold Dk.sync
 split
 · exact same
 split
 · exact ⟨same.changes,same.left,same.AO,same.len,same.cap⟩
 obtain ⟨f,c⟩: ∃f,(d.get nm).getD Dk.Io=f:=⟨_,rfl⟩
 have b:((d.Bz.put nm { f with safe:=f.now,sure:=true }).settled nm).get nm=some { f with safe:=f.now,sure:=true } :=by
  unfold Dk.get Dk.settled Dk.put
  simp only
  rw[Cs,if_pos rfl]
 have a:Au ((d.Bz.put nm { f with safe:=f.now,sure:=true }).settled nm) nm=Au d nm:=by
  unfold Au;rw[b,c];rfl
 rw[c]
 refine ⟨by show d.changes+1≤_;omega,by show d.left≤d.left-1+_;omega,?_,by simp only[a];omega,by simp only[a];omega⟩
 simp only[a]
 have:((d.Bz.put nm { f with safe:=f.now,sure:=true }).settled nm).AO.length≤d.AO.length:=List.length_filter_le _ _
 omega
theorem PA: ∀(l:List Int){m:Nat}{s:Ck},Bi m s→(∀k∈l,Bf s.its k=true)→Bp (2*l.length) s.nm s.d (Ck.writes l s).2.d∧(Ck.writes l s).2.reads=s.reads∧BJ s (Ck.writes l s).2
 | [],m,s,ok,_=>⟨Bp.KX _ _,rfl,BJ.same s⟩
 | k :: l, m, s, ok, h => by
  have c:=h k (by simp)
  obtain ⟨b,_,_,i,f⟩:=ok.key c
  have hb:=Sk ok k f
  have hs:=BT s k
  unfold Ck.writes
  split
  ·obtain ⟨a,c2,e⟩:=PA l (Fx ok c) fun j g=>by rw[Jv];exact h j (by simp[g])
   rw[hs.1] at a
   exact ⟨(hb.trans a).more (by rw[List.length_cons];omega),c2.trans hs.2.2.1,(NY s k).next e⟩
  exact ⟨hb.more (by rw[List.length_cons];omega),hs.2.2.1,NY s k⟩
theorem WB{m:Nat}{s:Ck}(ok:Bi m s):Bp (2*s.its.length+1) s.nm s.d s.flush.2.d∧s.flush.2.reads=s.reads∧BJ s s.flush.2:=by
 obtain ⟨e,f,b⟩:=PA (BC s.its) ok fun k c=>ES c
 have hl:=Ng s.its
 have g:=(Hd (BC s.its) ok fun k c=>ES c).2
 unfold Ck.flush
 simp only
 split
 ·have:=Za (Ck.writes (BC s.its) s).2.d (Ck.writes (BC s.its) s).2.nm
  rw[g] at this⊢
  exact ⟨(e.trans this).more (by omega),f,b.cap,rfl,fun n a=>(XJ _ _ _ a).trans (b.Im n a)⟩
 exact ⟨e.more (by omega),f,b⟩
theorem UR{m:Nat}{s:Ck}(ok:Bi m s):s.flush.2.nm=s.nm:=by
 have b:=(Hd (BC s.its) ok fun k a=>ES a).2
 unfold Ck.flush
 simp only
 split<;>exact b
theorem QC{m T:Nat}{s:Ck}(ok:Bi m s)(g:Good T s)(c:s.flush.1=0):Clean s.flush.2:=by
 have h:=JI ok g
 have a:=QD ok
 intro n d
 cases hm:n.Hr with
 |false=>rfl
 | true =>
  exfalso
  have e:Bf s.flush.2.its n.key=true:=Bb.2 (List.mem_map.2 ⟨n,d,rfl⟩)
  obtain ⟨b,hb,_⟩:=a.key e
  exact (h.kept c).Ca n d hm b (h.DW c _ _ (.inl hb))
def TS.E0(s:TS):TS:=⟨s.ck.flush.2,s.sp,s.ops+s.ck.its.length+1⟩
structure Zt (s s':TS):Prop where
 zero:s.ck.flush.1=0
 inv:Ml true s'
 clean:Clean s'.ck
 le:Le (nodeAt s) (nodeAt s')
 cap:Fc s s'
 sp:s'.sp=s.sp
 left:Ap s≤Ap s'+2049
theorem QE{s:TS}(h:Ml true s)(l:s.ops+4100≤Bu):Zt s s.E0:=by
 obtain ⟨m,hm⟩:=h.ts.ck
 have b:=JI hm h.AG
 obtain ⟨c,b2,e⟩:=WB hm
 obtain ⟨z,f⟩:=b.roomy (h.roomy rfl)
 have hl:=hm.Lj.len
 have a:=UR hm
 obtain ⟨o,q,r,n4,t⟩:=h.ts.num
 obtain ⟨g,c2,i,j,k⟩:=c
 refine ⟨z,⟨⟨⟨_,QD hm⟩,⟨?_,?_,?_,?_,?_⟩,?_,h.ts.res,?_⟩,b.AG,h.res,h.used,fun _=>f⟩,QC hm h.AG z,CK fun p n hs=>H7 (no:=0) hs b.has,e,rfl,?_⟩
 ·show s.ck.flush.2.d.changes≤2*(s.ops+s.ck.its.length+1:Nat);omega
 ·show-(2*(s.ops+s.ck.its.length+1:Nat):Int)≤s.ck.flush.2.d.left;omega
 ·show s.ck.flush.2.d.AO.length≤512*(s.ops+s.ck.its.length+1)+(Au s.ck.flush.2.d s.ck.flush.2.nm).length
  rw[a];omega
 ·show s.ck.flush.2.reads≤((s.ops+s.ck.its.length+1:Nat):Int);omega
 ·show (Au s.ck.flush.2.d s.ck.flush.2.nm).length≤_
  rw[a];omega
 ·show s.ops+s.ck.its.length+1≤_;omega
 ·show s.sp.taken.length≤s.ops+s.ck.its.length+1;have:=h.ts.taken;omega
 show (Bu-s.ops)/2≤(Bu-(s.ops+s.ck.its.length+1))/2+2049;omega
theorem Q9{l:List UInt8}{p:Int}{n:Nd}(h:Du l p=some n):1≤p∧p<1048576∧256*p+256≤l.length:=by
 unfold Du at h
 split at h
 ·cases h
 omega
theorem SF(h:Th)(s:TS)(F:Ac)(w:World)(a:Ml true s)(d:s.ops+4100≤Bu)(i:s.ck.cap≤1000)(hs:Sat (Ad h s*F) w):
 Calls Tryz.prog 36 #[.pointer (some ⟨h.C,0,none⟩)] w fun e c=>e= .returned (.int .i64 0)∧Sat (Ad h s.E0*F) c:=by
 have b:=QE a d
 obtain ⟨hi,f⟩:=Ek hs
 have hm:=a.ts.ok
 refine (UQ h.C h.D s.ck 137438953472 _ w f hm (by have:=hm.most;unfold U;omega)).mono ?_
 rintro e c ⟨rfl,g⟩
 rw[b.zero]
 exact ⟨rfl,CM b.inv.ts g⟩
end Go.Proofs.YtfhbmblbidcmmaaGreat
namespace Go.Proofs.YtfhbmblbidcmmaaGreat
open Go.RowKit Go.Sl Go.Dk Go.Tr
theorem RN(a b:Option Addr)(c d n:Nat)(j:List (Int×Int))(o:j.length=n)(F:Ac)(w:World)(hl:n≤1048576)(hs:Sat (rw CB 2 (.slice a n c) (C9 j)*(rw CB 2 (.slice b n d) (C9 j)*F)) w):
 Calls Tryz.prog 41 #[.slice a n c,.slice b n d] w fun e s=>e= .returned (.bool true)∧Sat (rw CB 2 (.slice a n c) (C9 j)*(rw CB 2 (.slice b n d) (C9 j)*F)) s:=by
 have q:Aside (j.length=n):=o
 have t:((n:Int) !=(n:Int))=false:=by simp
 haveI:=hs.i
 clear o
 go_enter Tryz.func41,Tryz.ntmps41
 go_wp2
 go_loopg [5] n (fun g r wr=> ∃(i:Nat),r= .int .i64 i∧i≤n∧Aside (g=n-i)∧Sat (rw CB 2 (.slice a n c) (C9 j)*(rw CB 2 (.slice b n d) (C9 j)*F)) wr)
 case atStart=>exact ⟨0,rfl,by omega,rfl,hs⟩
 obtain ⟨i,rfl,hi,A,f⟩:=hrel
 clear hs this
 by_cases m:i<n
 ·have l:(i:Int)<n:=by omega
  obtain ⟨⟨x,y⟩,k⟩: ∃p,j[i]?=some p:=⟨_,List.getElem?_eq_getElem (by rw[q.out];exact m)⟩
  obtain ⟨g0,rfl⟩:=DZ f (by omega)
  obtain ⟨u,rfl⟩:=DZ (hs:=f.take (rw CB 2 (.slice b n d) (C9 j))) (by omega)
  haveI:=f.i
  haveI:At (C9 j) (i*2) (.int .i64 x):=⟨Qj k 0 (by omega)⟩
  haveI:At (C9 j) (i*2+1) (.int .i64 y):=⟨Qj k 1 (by omega)⟩
  clear k
  go_wp2_with fail
  go_region
  go_wp2
  go_roundg (n-(i+1))
  case measure=>have:=A.out;omega
  case rel=>exact ⟨i+1,by go_num,by omega,rfl,f⟩
 have l: ¬(i:Int)<n:=by omega
 haveI:=f.i
 go_wp2
 go_ret
 exact ⟨rfl,f⟩
theorem UT(h:Th)(s:TS)(F:Ac)(w:World)(hs:Sat (Ad h s*F) w)(g: ∀k∈s.sp.used,0≤k∧k<1099511627776)(hl:s.sp.used.length≤1048576):
 Calls Tryz.prog 38 #[.pointer (some ⟨h.S,0,none⟩)] w fun e f=> ∃a:List (Int×Int),Fj a∧(∀x,Gs a x↔x∈s.sp.used)∧a.length≤1048576∧ ∃(a':Option Addr)(b:Nat),e= .returned (.slice a' a.length b)∧
  Sat (rw CB 2 (.slice a' a.length b) (C9 a)*(Ad h s*F)) f:=by
 obtain ⟨hi,i⟩:=Ek hs
 refine (T3 h.S s.sp _ w (i.eq (show _=BA h.S s.sp*(AD h.C h.D s.ck*(Sl.block h.t St [.pointer (some ⟨h.C,0,none⟩),.pointer (some ⟨h.S,0,none⟩)]*F)) by ac_rfl)) g hl).mono ?_
 rintro e f ⟨a,c,d,a',b,rfl,j⟩
 refine ⟨a,c,d,?_,a',b,rfl,(CM hi (j.eq (show _=AD h.C h.D s.ck*(BA h.S s.sp*(Sl.block h.t St [.pointer (some ⟨h.C,0,none⟩),.pointer (some ⟨h.S,0,none⟩)]*(rw CB 2 (.slice a' a.length b) (C9 a)*F))) by ac_rfl))).eq (by ac_rfl)⟩
 have l:a.length≤(Oj a).length:=Xf c
 have m:(Oj a).length≤s.sp.used.length:=List.Nodup.length_le_of_subset ((Rs c).imp fun h=>by omega) fun x hx=>(d x).1 ((Rr a x).1 hx)
 omega
structure Sv (s1:TS) (ops:Nat) (d:Dk):Prop where
 up:d.down=false
 BK:Pf.EK d He
 look:Le (nodeAt s1) (Du (Au d He))
 len:(Au d He).length≤268435456
 ok: ∃m,Ok m d
 changes:d.changes≤2*ops
 left: -(2*ops:Int)≤d.left
 AO:d.AO.length≤512*ops+(Au d He).length
def O4(d:Dk):Ck:=⟨He,4,0,d,[],[]⟩
theorem W6{s1:TS}{d:Dk}{s:TS}(h:Sv s1 s.ops d)(hs:Gt s):Gt ⟨O4 d,s.sp,s.ops⟩:=by
 obtain ⟨m,hm⟩:=h.ok
 refine ⟨⟨m,⟨by simp[O4,Da],by simp[O4],by simp[O4]⟩,by simp[O4],fun k=>by simp[O4,Bf,AP],rfl,by simp[O4],by simp[O4],by simp[O4],hm,h.BK.Mp,by simp[O4]⟩,⟨h.changes,h.left,h.AO,by show (0:Int)≤_;omega,h.len⟩,hs.ops,hs.res,hs.taken⟩
theorem W5{s1:TS}{root:Int}{l:List As}(b:Rt (nodeAt s1) root l){d:Dk}{s:TS}(h:Sv s1 s.ops d)(hs:Gt s)(hl:2047≤Ap s): ∃s',F4 Ah root ⟨O4 d,s.sp,s.ops⟩= .ok l s':=by
 letI:=Oq
 have a:=W6 h hs
 have hr:Yg (Du (Au d He)) 0 ⟨O4 d,s.sp,s.ops⟩:=⟨a,⟨h.BK,by simp[O4],by simp[O4],⟨by have:=h.len;show (Au d He).length≤256*1048576;omega,by simp[O4]⟩⟩,h.up,.inl ⟨fun n c=>by (cases c),rfl⟩,Nat.zero_le _⟩
 exact Xz hr (fun p n hp=>by have:=(Q9 hp).1;omega) (b.le h.look) hl
variable [G1]
theorem Ue{d:Dk}{nm:ByteArray}{p:Int}{n:Nd}{b:List UInt8}(e:1≤p)(f:p<1048576)(a:Bg (Au d nm) p b)(c:CV p b=some n):Du (Au d nm) p=some n:=by
 unfold Du
 rw[if_neg (by have:=a.2.1;omega),a.2.2]
 exact c
theorem W7{s1 s2:TS}{root:Int}{l:List As}(t:LN s1 root l)(e:Ep (Jw s1) s2)(f:Le (nodeAt s1) (nodeAt s2))(a:s2.ck.nm=He)(i:s2.ck.d.down=false):Sv s1 s2.ops s2.ck.d:=by
 obtain ⟨⟨m,hm⟩,⟨w,x,r,n4,s⟩,D,G,H⟩:=e.ts
 rw[a] at r s
 have o:=e.AG.BK
 rw[a] at o
 refine ⟨i,o,fun p n q=>?_,s,⟨m,hm.dk⟩,w,x,r⟩
 obtain ⟨y,z,b,hb,B⟩:=t.look q
 obtain ⟨v,c,u,g⟩:=DE.1 (f p n q)
 have j:=e.DW (k:=p) hb u
 rw[a] at j
 exact Ue y z j g
theorem UJ{s1 s2:TS}{root:Int}{l:List As}(k:LN s1 root l)(a:Ep (Jw s1) s2)(c:s2.ck.nm=He):Sv s1 s2.ops (s2.ck.d.J3 []):=by
 obtain ⟨⟨m,hm⟩,⟨s,t,u,n4,v⟩,y,z,B⟩:=a.ts
 have j:=a.AG.BK
 have f:=a.kept.le
 rw[c] at u v j f
 have hl:=O5 (nm:=He) hm.dk.nd
 refine ⟨rfl,S5 j,fun p n q=>?_,by omega,⟨m,Rv hm.dk []⟩,s,t,Nat.zero_le _⟩
 obtain ⟨w,x,b,g,r⟩:=k.look q
 have hs:=a.sure p b g
 have i:=a.kept.safe p b g
 rw[c] at hs i
 have o:=Z1 hs
 refine Ue w x (b:=b) ?_ r
 have e:Au (s2.ck.d.J3 []) He=CD s2.ck.d He:=by unfold Au;rw[o];rfl
 rw[e]
 exact i
structure LO (d d':Dk):Prop where
 left:d'.left≤d.left
 stop:d'.down=true→d.down=true∨d'.left≤0
theorem LO.same(d:Dk):LO d d:=⟨Int.le_refl _,.inl⟩
theorem LO.next{a b c:Dk}(h:LO a b)(k:LO b c):LO a c:=⟨by have:=h.left;have:=k.left;omega,fun e=>by
 rcases k.stop e with e|e
 ·rcases h.stop e with e|e
  ·exact .inl e
  exact .inr (by have:=k.left;omega)
 exact .inr e⟩
theorem Wx(d:Dk)(nm:ByteArray)(k:Int)(b:List UInt8):LO d (d.write nm k b).2:=by
 unfold Dk.write
 split
 ·exact LO.same d
 split
 ·exact LO.same d
 split
 ·exact LO.same d
 split
 ·exact LO.same d
 split
 ·rename_i h
  unfold Dk.stop at h
  simp at h
  exact ⟨Int.le_refl _,fun _=> .inr (by show d.left≤0;omega)⟩
 exact ⟨by show d.left-1≤d.left;omega,fun e=> .inl e⟩
theorem NX(s:Ck)(no:Int):LO s.d (s.Bn no).2.d:=by
 unfold Ck.Bn
 split<;>exact Wx _ _ _ _
theorem VR(s:Ck)(no:Int):LO s.d (s.write no).2.d:=by
 unfold Ck.write
 split
 ·exact LO.same _
 split
 ·have a:LO s.d (s.pad no).2:=Wx _ _ _ _
  split
  ·exact a.next (NX { s with d:=(s.pad no).2 } no)
  exact a
 exact NX s no
theorem RL(s:Ck)(no:Int):LO s.d (s.release no).2.d:=by
 have h:=VR s no
 unfold Ck.release
 split<;>exact h
theorem X8(s:Ck):LO s.d s.room.2.d:=by
 unfold Ck.room
 split
 ·exact LO.same _
 split
 ·exact LO.same _
 exact RL s _
theorem Y0(s:Ck)(no:Int):LO s.d (s.get no).2.2.d:=by
 have h:=X8 s
 unfold Ck.get
 split
 ·exact LO.same _
 split
 ·exact LO.same _
 simp only
 split
 ·have a:LO s.d (s.take no (s.d.read s.nm (no*256) 256).2).2.d:=by
   unfold Ck.take
   split<;>exact h
  split<;>exact a
 exact LO.same _
def Zw(s s':TS):Prop:=Gt s→Gt s'∧LO s.ck.d s'.ck.d∧s.ck.d.left+2*s.ops≤s'.ck.d.left+2*s'.ops
theorem FF:Od Zw where
 same s h:=⟨h,LO.same _,Int.le_refl _⟩
 next a b c h1 h2 h:=by
  obtain ⟨d,e,g⟩:=h1 h
  obtain ⟨f,b2,i⟩:=h2 d
  exact ⟨f,e.next b2,by omega⟩
theorem VH(p:Int):Af Zw (Ah p):=by
 refine Af.bind FF (fun s=>?_) fun r=>Af.bind FF (Fm _ FF _) fun _=>?_
 ·unfold Mo
  by_cases h:s.ops<Bu
  ·rw[if_pos h]
   intro hi
   obtain ⟨m,hm⟩:=hi.ck
   have:=(ML hm p).1.left
   exact ⟨hi.get p h,Y0 _ _,by simp only;omega⟩
  rw[if_neg h];trivial
 cases CV p r.2 with
 |none=>exact Af.fail FF _
 |some n=>exact Af.pure FF _
theorem SD(P:Int→List UInt8→Prop)(h:Th)(s:TS)(root:Int)(l:List As)(F:Ac)(w:World)(hs:Sat (Ad h s*F) w)(u:Ep P s)(j:s.ck.d.down=false)(o:1000000≤s.ck.d.left)(H:Rt (nodeAt s) root l)(J:3000≤Ap s):
 Calls Tryz.prog 44 #[.pointer (some ⟨h.t,0,none⟩),.int .i64 root] w fun e r=> ∃(s':TS)(f:Int)(a:Option Addr)(n c:Nat)(es:List Value),e= .returned (.tuple #[.slice a n c,.int .i64 f])∧(f=0→n=l.length∧es=AQ l)∧(f≠0→es= [])∧Sat (rw A9 4 (.slice a n c) es*(Ad h s'*F)) r∧
  Ep P s'∧Le (nodeAt s) (nodeAt s')∧s'.ck.d.down=false∧s'.ck.nm=s.ck.nm∧Ap s≤Ap s'+60000:=by
 have x:=Lv (Um (PK P) (s:=s) u H) j (by omega) (by omega) (by omega)
 obtain ⟨Y,b⟩: ∃Y,F4 Ah root s=Y:=⟨_,rfl⟩
 have k:F4 (MI P).rd root s=Y:=b
 rw[k] at x
 have m:=L0 h s root F w hs
 rw[b] at m
 have v:=Me Bx LL root
 have i:=Me FF VH root
 have g: ∀s':TS,Zw s s'→Ap s≤Ap s'+60000→s'.ck.d.down=false:=fun s' D G=>by
  obtain ⟨y,z,K⟩:=D u.ts
  cases I:s'.ck.d.down with
  |false=>rfl
  | true =>
    exfalso
    rcases z.stop I with e|e
    ·rw[j] at e;cases e
    have:=y.ops
    unfold Ap at G J
    unfold Bu at*
    omega
 cases x with
 | ok a s' up inv le q left =>
   subst q
   refine (m (by simp)).mono ?_
   rintro e r ⟨B,c,rfl,p⟩
   exact ⟨s',0,B,_,c,_,rfl,fun _=>⟨rfl,rfl⟩,fun e=>absurd rfl e,p,inv,le,g s' (Af.ok i b) left,(show BJ s.ck s'.ck from (Af.ok v b:Fc s s')).nm,left⟩
 | no e s' code inv le left =>
   refine (m (by simp)).mono ?_
   rintro L r ⟨rfl,p⟩
   exact ⟨s',e,none,0,0,[],rfl,fun h=>by omega,fun _=>rfl,p.Bj,inv,le,g s' (Af.fault i b) left,(show BJ s.ck s'.ck from (Af.fault v b:Fc s s')).nm,left⟩
