/- censusPages holds for every input. No condition. (part 26) -/
import Derived.Test.YtfhbmblbidcmmaaGreatVa24
import Derived.Test.YtfhbmblbidcmmaaGreatVa25
set_option linter.all false
set_option maxRecDepth 100000
set_option maxHeartbeats 3200000
namespace Go.Tr
theorem LL(no:Int)(b:List UInt8):(AP no b).2.1.length≤b.length:=by grind [AP,List.length_take,List.length_drop]
theorem W6{kind:Int}{b:List UInt8}(h:(CQ kind b).2=0):may (CQ kind b).1=true:=by cases b with
 |nil=>simp[CQ] at h
 |cons b rest=>grind [CQ]
end Go.Tr
namespace Go.Proofs.YtfhbmblbidcmmaaGreat
open Go.RowKit Go.Sl Go.Dk Go.Tr
theorem I6{no:Int}{b:List UInt8}{n:Nd}(h:CR no b=some n):may n=true:=by
 unfold CR at h
 split at h
 ·split at h
  ·rename_i h1
   cases h
   exact W6 h1
  grind
 grind
theorem dU.more{N M:Nat}{s:Ck}(h:dU N s)(k:N≤M):dU M s:=by
 obtain ⟨h1,b,c,d,a⟩:=h
 exact ⟨by omega,by omega,by omega,by omega,a⟩
theorem WY(s:Ck)(no:Int):(s.release no).2.nm=s.nm:=by
 unfold Ck.release
 split<;>exact (BW s no).1
theorem gF(s:Ck):s.room.2.nm=s.nm:=by
 unfold Ck.room
 split
 ·rfl
 split
 ·rfl
 exact WY s _
theorem Yx(s:Ck)(no:Int)(b:List UInt8):(s.take no b).2.nm=s.nm:=by
 unfold Ck.take
 split<;>exact gF s
theorem jG(s:Ck)(no:Int):(s.get no).2.2.nm=s.nm:=by
 unfold Ck.get
 split
 ·rfl
 split
 ·rfl
 simp only
 split
 ·split<;>exact Yx s _ _
 rfl
theorem jV(s:Ck)(no:Int)(b:List UInt8):(s.put no b).2.nm=s.nm:=by
 unfold Ck.put
 split
 ·rfl
 split
 ·rfl
 split<;>exact Yx s _ _
theorem eY{m:Nat}{s:Ck}(ok:Bn m s)(no:Int):(s.get no).2.1.length≤256:=by
 unfold Ck.get
 split
 ·simp
 split
 ·exact Jy ok no
 simp only
 split
 ·rename_i h
  split
  ·have a:(s.d.read s.nm (no*256) ((256:Nat):Int)).1=0:=h
   show (s.d.read s.nm (no*256) ((256:Nat):Int)).2.length≤256
   rw[P8 a]
   simp
  simp
 simp
theorem NP.get{s:TS}(h:NP s)(no:Int)(a:s.ops<BG):NP ⟨(s.ck.get no).2.2,s.sp,s.ops+2⟩:=by
 obtain ⟨m,hm⟩:=h.ck
 exact ⟨⟨_,jH hm no⟩,((h.num.step (jG s.ck no) (Wk hm no).1 (Wk hm no).2).more (by show s.ops+1≤s.ops+2;omega)),by show s.ops+2≤_;omega,h.res,by have:=h.taken;show _≤s.ops+2;simp only;omega⟩
theorem NP.put{s:TS}(h:NP s)(no:Int)(b:List UInt8)(a:s.ops≤BG):NP ⟨(s.ck.put no b).2,s.sp,s.ops+1⟩:=by
 obtain ⟨m,hm⟩:=h.ck
 exact ⟨⟨_,MG hm no b⟩,h.num.step (jV s.ck no b) (WK hm no b).1 (by have:=(WK hm no b).2;show (s.ck.put no b).2.reads≤_;omega),by show s.ops+1≤_;omega,h.res,by have:=h.taken;show _≤s.ops+1;simp only;omega⟩
theorem NP.take{s:TS}(h:NP s)(b:s.ops<BG):NP ⟨s.ck,s.sp.take.2,s.ops+1⟩:=by
 have a:s.sp.take.2.Ba=s.sp.Ba∧s.sp.take.2.taken.length≤s.sp.taken.length+1:=by grind [Sp.take]
 exact ⟨h.ck,h.num.more (by show _≤s.ops+1;omega),by show s.ops+1≤_;omega,by simp only;rw[a.1];exact h.res,by have:=h.taken;show _≤s.ops+1;simp only;omega⟩
theorem JN{no:Int}{s:TS}(a:s.ops<BG):Ah no s=
 if (s.ck.get no).1=0 then (match CR no (s.ck.get no).2.1 with|some n=> .ok n ⟨(s.ck.get no).2.2,s.sp,s.ops+2⟩|none=> .fault 13 ⟨(s.ck.get no).2.2,s.sp,s.ops+2⟩)
 else .fault (if (s.ck.get no).1=6∨(s.ck.get no).1=1 then 13 else (s.ck.get no).1) ⟨(s.ck.get no).2.2,s.sp,s.ops+2⟩:=by
 unfold Ah M.bind Un
 rw[if_pos a]
 simp only[Fx.bind]
 by_cases h:(s.ck.get no).1=0
 ·rw[if_pos h,h]
  cases CR no (s.ck.get no).2.1<;>rfl
 rw[if_neg h]
 unfold Fo
 rw[if_neg (by split<;>omega)]
 rfl
theorem Ej{h:Th}{s:TS}{F:Ab}{w:World}(hs:Sat (Ad h s*F) w):NP s∧Sat (AU h.C h.D s.ck*(Cd h.S s.sp*(Sl.block h.t Tn [.pointer (some ⟨h.C,0,none⟩),.pointer (some ⟨h.S,0,none⟩)]*F))) w:=by
 obtain ⟨hi,a⟩:=Sat.ZT hs
 grind [PN]
theorem D0{h:Th}{s:TS}{F:Ab}{w:World}(hi:NP s)(hs:Sat (AU h.C h.D s.ck*(Cd h.S s.sp*(Sl.block h.t Tn [.pointer (some ⟨h.C,0,none⟩),.pointer (some ⟨h.S,0,none⟩)]*F))) w):Sat (Ad h s*F) w:=
 Sat.ZU hi (hs.eq (by unfold PN;ac_rfl))
theorem Cw(h:Th)(s:TS)(no:Int)(F:Ab)(w:World)(hs:Sat (Ad h s*F) w)(hb:Ah no s≠ .bad):
 Calls Tryz.prog 129 #[.pointer (some ⟨h.t,0,none⟩),.int .i64 no] w (DT h F (Ah no s) fun n v B=>AJ B v n∧may n=true):=by
 have ho:s.ops<BG:=by
  rcases Nat.lt_or_ge s.ops BG with h|h
  · exact h
  refine absurd ?_ hb
  unfold Ah M.bind Un
  rw[if_neg (by omega)]
  rfl
 obtain ⟨hi,u⟩:=Ej hs
 have a:=fun F w q=>eX h.C h.D s.ck 137438953472 no F w q hi.ok (by omega)
 have j:=eY hi.ok no
 have X:=Ek (hi.get no ho)
 rw[JN ho]
 obtain ⟨⟨R,b,k2⟩,hr⟩:=Aq (s.ck.get no)
 rw[hr] at a j X⊢
 simp only at j X⊢
 obtain ⟨t2,O⟩:=Aq (⟨k2,s.sp,s.ops+2⟩:TS)
 have hk:t2.ck=k2∧t2.sp=s.sp:=by rw[←O];exact ⟨rfl,rfl⟩
 rw[O] at X⊢
 have Q:Aside (∀(G:Ab)(w:World),Sat (AU h.C h.D k2*(Cd h.S s.sp*(Sl.block h.t Tn [.pointer (some ⟨h.C,0,none⟩),.pointer (some ⟨h.S,0,none⟩)]*G))) w→Sat (Ad h t2*G) w):=fun G w o=>D0 X.out (by rw[hk.1,hk.2];exact o)
 haveI:=u.i
 clear hb hr O hk hi ho hs
 by_cases Z:R=6
 · subst Z
   rw[if_neg (by omega),if_pos (by omega)]
   have g:=Jn 13 (by omega)
   go_enter Tryz.func129,Tryz.ntmps129
   go_wp2_with fail
   refine (a _ _ (Ae (AU h.C h.D s.ck))).mono ?_
   rintro e V ⟨v,rfl,f⟩
   haveI:=f.i
   clear a u
   go_wp2_with fail
   refine (g _).mono ?_
   rintro e W ⟨rfl,rfl⟩
   refine ⟨rfl,?_⟩
   exact ⟨rfl,Q.out _ _ (Cx _ _ _ _)⟩
 have g6:(R==6)=false:=by simp[Z]
 by_cases h1:R=1
 · subst h1
   rw[if_neg (by omega),if_pos (by omega)]
   have g:=Jn 13 (by omega)
   go_enter Tryz.func129,Tryz.ntmps129
   go_wp2_with fail
   refine (a _ _ (Ae (AU h.C h.D s.ck))).mono ?_
   rintro e V ⟨v,rfl,f⟩
   haveI:=f.i
   clear a u
   go_wp2_with fail
   refine (g _).mono ?_
   rintro e W ⟨rfl,rfl⟩
   refine ⟨rfl,?_⟩
   exact ⟨rfl,Q.out _ _ (Cx _ _ _ _)⟩
 have g1:(R==1)=false:=by simp[h1]
 by_cases h0:R=0
 · subst h0
   rw[if_pos rfl]
   have g:=QA
   have d:=fun v F w (q:Sat (rw TB 1 v (A0 b)*F) w)=>S4 no v b _ F w Reads.rw q (by omega)
   have L:=LL no b
   have c: ∀r,CR no b=r→r=(if (AP no b).2.2=0 then (if (CQ (AP no b).1 (AP no b).2.1).2=0 then some (CQ (AP no b).1 (AP no b).2.1).1 else none) else none):=fun r h=>by rw[←h];rfl
   have J:=fun n=>I6 (no:=no) (b:=b) (n:=n)
   obtain ⟨on,K⟩:=Aq (CR no b)
   have c:=c on K
   rw[K] at J⊢
   have a0:Aside (∀n,on=some n→may n=true):=fun n h=>J n h
   obtain ⟨⟨kind,body,pe⟩,hp⟩:=Aq (AP no b)
   rw[hp] at d c L
   simp only at d c L
   have I:body.length≤1099511627776:=by omega
   clear J K hp L j Z h1 g6 g1
   by_cases m:pe=0
   · subst m
     rw[if_pos rfl] at c
     have k:=fun v F w (q:Sat (rw TB 1 v (A0 body)*F) w)=>W4 kind body v _ F w Reads.rw q I
     obtain ⟨⟨nd,ne⟩,hn⟩:=Aq (CQ kind body)
     rw[hn] at k c
     simp only at c
     clear hn I
     by_cases l:ne=0
     ·subst l
      rw[if_pos rfl] at c
      subst c
      have p:=Ek k
      clear k
      go_enter Tryz.func129,Tryz.ntmps129
      go_wp2_with fail
      refine (a _ _ (Ae (AU h.C h.D s.ck))).mono ?_
      rintro e V ⟨v,rfl,f⟩
      haveI:=f.i
      clear a u
      go_wp2_with fail
      refine (g _).mono ?_
      rintro e W ⟨rfl,rfl⟩
      go_wp2_with fail
      refine (d v _ _ (Ae (rw TB 1 v (A0 b)))).mono ?_
      rintro e w3 ⟨Y,c3,rfl,P⟩
      haveI:=P.i
      clear d f g
      go_wp2_with fail
      refine (p.out _ _ _ (Ae (rw TB 1 (.slice Y body.length c3) (A0 body)))).mono ?_
      rintro e w4 ⟨v',G,rfl,o,q4⟩
      haveI:=q4.i
      clear P
      obtain ⟨vE,vK,rfl,T,U⟩:=id o
      obtain ⟨aE,cE,rfl,x,y⟩:=T.v
      obtain ⟨aK,cK,rfl,z,H⟩:=U.v
      have HG:=Ek o
      clear T U o x y z H
      go_wp2
      go_returns
      exact ⟨_,G,rfl,⟨HG.out,a0.out nd rfl⟩,Q.out _ _ (DE _ _ _ _ _)⟩
     have ag:(ne==0)=false:=by simp[l]
     rw[if_neg l] at c
     subst c
     have p:=Ek k
     clear k l
     go_enter Tryz.func129,Tryz.ntmps129
     go_wp2_with fail
     refine (a _ _ (Ae (AU h.C h.D s.ck))).mono ?_
     rintro e V ⟨v,rfl,f⟩
     haveI:=f.i
     clear a u
     go_wp2_with fail
     refine (g _).mono ?_
     rintro e W ⟨rfl,rfl⟩
     go_wp2_with fail
     refine (d v _ _ (Ae (rw TB 1 v (A0 b)))).mono ?_
     rintro e w3 ⟨Y,c3,rfl,P⟩
     haveI:=P.i
     clear d f g
     go_wp2_with fail
     refine (p.out _ _ _ (Ae (rw TB 1 (.slice Y body.length c3) (A0 body)))).mono ?_
     rintro e w4 ⟨v',G,rfl,o,q4⟩
     haveI:=q4.i
     clear P
     obtain ⟨vE,vK,rfl,T,U⟩:=id o
     obtain ⟨aE,cE,rfl,x,y⟩:=T.v
     obtain ⟨aK,cK,rfl,z,H⟩:=U.v
     clear T U o x y z H
     go_wp2
     refine ⟨rfl,?_⟩
     exact ⟨rfl,Q.out _ _ (Cx _ _ _ _)⟩
   have ah:(pe==0)=false:=by simp[m]
   rw[if_neg m] at c
   subst c
   clear I m
   go_enter Tryz.func129,Tryz.ntmps129
   go_wp2_with fail
   refine (a _ _ (Ae (AU h.C h.D s.ck))).mono ?_
   rintro e V ⟨v,rfl,f⟩
   haveI:=f.i
   clear a u
   go_wp2_with fail
   refine (g _).mono ?_
   rintro e W ⟨rfl,rfl⟩
   go_wp2_with fail
   refine (d v _ _ (Ae (rw TB 1 v (A0 b)))).mono ?_
   rintro e w3 ⟨Y,c3,rfl,P⟩
   haveI:=P.i
   clear d f g
   go_wp2
   refine ⟨rfl,?_⟩
   exact ⟨rfl,Q.out _ _ (Cx _ _ _ _)⟩
 rw[if_neg h0,if_neg (by omega)]
 have g:=Jn R h0
 clear Z h1 h0
 go_enter Tryz.func129,Tryz.ntmps129
 go_wp2_with fail
 refine (a _ _ (Ae (AU h.C h.D s.ck))).mono ?_
 rintro e V ⟨v,rfl,f⟩
 haveI:=f.i
 clear a u
 go_wp2_with fail
 refine (g _).mono ?_
 rintro e W ⟨rfl,rfl⟩
 refine ⟨rfl,?_⟩
 exact ⟨rfl,Q.out _ _ (Cx _ _ _ _)⟩
end Go.Proofs.YtfhbmblbidcmmaaGreat
namespace Go.Proofs.YtfhbmblbidcmmaaGreat
open Go.Dk Go.Tr
class En where
 n:Nat
 le:n≤1048576
variable [En]
def VL:Nat:=En.n
theorem VM:VL≤1048576:=En.le
theorem Has.uniq{s:Ck}{k:Int}{b c:List UInt8}(h1:Has s k b)(a:Has s k c):b=c:=by
 unfold Has BR at h1 a
 grind
def Fq(s:TS)(p:Int)(n:Nd):Prop:=p∈s.sp.used∧ ∃b,Has s.ck p b∧CR p b=some n
theorem Fq.uniq{s:TS}{p:Int}{n m:Nd}(h1:Fq s p n)(a:Fq s p m):n=m:=by
 obtain ⟨_,b,hb,e⟩:=h1
 obtain ⟨_,c,d,f⟩:=a
 obtain rfl:=hb.uniq d
 simp_all
open Classical in
noncomputable def nodeAt(s:TS)(p:Int):Option Nd:=if h: ∃n,Fq s p n then some h.choose else none
theorem I5{s:TS}{p:Int}{n:Nd} :nodeAt s p=some n↔Fq s p n:=by
 unfold nodeAt
 split
 ·rename_i h
  constructor
  ·grind
  intro hs;rw[h.choose_spec.uniq hs]
 simp_all
theorem FZ{s s':TS}(h: ∀p n,Fq s p n→Fq s' p n):Le (nodeAt s) (nodeAt s'):=fun p n e=>I5.2 (h p n (I5.1 e))
def CB(s:Sp):Nat:=VL-s.Ba.toNat-s.used.length-s.waiting.length
def AQ(s:TS):Nat:=(BG-s.ops)/2
structure GP (roomy:Bool) (s:TS):Prop where
 ts:NP s
 Bo:Good VL s.ck
 res:1≤s.sp.Ba
 used: ∀p∈s.sp.used,s.sp.Ba≤p∧p<VL
 roomy:roomy=true→Roomy VL s.ck
noncomputable def eU(roomy:Bool):Env TS where
 rd:=Ah
 wt:=Al
 V:=nodeAt
 inv:=GP roomy
 reads s:=s.ck.reads.toNat
 room s:=CB s.sp
 left:=AQ
 bad e:=roomy=false∧e=7
theorem Lc{s:TS}{no:Int}{p:Int}{n:Nd}(h:Fq s p n){a:Ck}{o:Nat}(e: ∀k b,Has s.ck k b→Has a k b):Fq ⟨a,s.sp,o⟩ p n:=by
 obtain ⟨h1,b,c,d⟩:=h
 exact ⟨h1,b,e _ _ c,d⟩
theorem QT{s:Sp} : ∀{k:Nat}{no:Int},s.least k no=none→ ∀y,no≤y→y<no+k→s.busy y=true
 |0,no,_,y,h1,a=>by omega
 | k + 1, no, h, y, h1, a => by
  unfold Sp.least at h
  cases hb:s.busy no with
  | true =>
   rw[hb,if_pos rfl] at h
   by_cases e:y=no
   ·simp_all
   exact QT h y (by omega) (by omega)
  |false=>rw[hb,if_neg (by simp)] at h;cases h
theorem YV{s:Sp}(h:s.free=none):CB s=0:=by
 have h1:=QT h
 have d:((List.range (1048576-s.Ba).toNat).map fun i:Nat=>s.Ba+i).Nodup:=by
  refine List.Pairwise.map _ (fun a b e=>?_) List.nodup_range
  omega
 have c:((List.range (1048576-s.Ba).toNat).map fun i:Nat=>s.Ba+i)⊆s.used++s.waiting:=by
  intro y hy
  obtain ⟨i,hi,rfl⟩:=List.mem_map.1 hy
  have hi:=List.mem_range.1 hi
  have:=h1 (s.Ba+i) (by omega) (by omega)
  simp_all[Sp.busy]
 have hl:=List.Nodup.length_le_of_subset d c
 have:=VM
 grind [CB]
theorem r8{s:Sp}{no:Int}(h:s.free=some no)(hr:0<CB s):no<VL:=by
 obtain ⟨j,k,l,n4⟩:=Sp.I0 h
 rcases Int.lt_or_le no VL with g|g
 · exact g
 exfalso
 have f:((List.range ((VL:Int)-s.Ba).toNat).map fun i:Nat=>s.Ba+i).Nodup:=by
  refine List.Pairwise.map _ (fun a b d=>?_) List.nodup_range
  intro e
  exact d (by omega)
 have c:((List.range ((VL:Int)-s.Ba).toNat).map fun i:Nat=>s.Ba+i)⊆s.used++s.waiting:=by
  intro y hy
  obtain ⟨i,hi,rfl⟩:=List.mem_map.1 hy
  have hi:=List.mem_range.1 hi
  have:=n4 (s.Ba+i) (by omega) (by omega)
  unfold Sp.busy at this
  simpa using this
 have hl:=List.Nodup.length_le_of_subset f c
 simp only[List.length_map,List.length_range,List.length_append] at hl
 unfold CB at hr
 omega
theorem lI(r:Bool)(s:TS)(p:Int)(n:Nd)(d:GP r s)(o:nodeAt s p=some n):Step (eU r) s 1 0 (Ah p) (fun m s'=>m=n):=by
 obtain ⟨v,b,hb,u⟩:=I5.1 o
 obtain ⟨y,z⟩:=d.used p v
 have w:=d.res
 have B:=VM
 right
 by_cases i:s.ops<BG
 · obtain ⟨m,hm⟩:=d.ts.ck
   have g:=Lw (no:=p) hm d.Bo (by omega) (by omega)
   have j:=d.ts.get p i
   have t:=(Wk hm p).2
   have f: ∀q x,Fq s q x→Fq ⟨(s.ck.get p).2.2,s.sp,s.ops+2⟩ q x:=fun q x h=>Lc (no:=p) h g.has
   have e:GP r ⟨(s.ck.get p).2.2,s.sp,s.ops+2⟩:=⟨j,g.Bo,d.res,d.used,fun h=>(g.roomy (d.roomy h)).2⟩
   have a:(s.ck.get p).2.2.reads.toNat≤s.ck.reads.toNat+1:=by omega
   have c:AQ s≤AQ ⟨(s.ck.get p).2.2,s.sp,s.ops+2⟩+1:=by unfold AQ;simp only;omega
   rw[JN i]
   rcases g.lV b hb with k|⟨e0,l⟩
   ·rw[if_neg (by omega),if_neg (by omega)]
    refine ⟨.inl ⟨?_,k⟩,e,FZ f,a,c⟩
    cases hr:r with
    |false=>rfl
    |true=>exact absurd k (g.roomy (d.roomy hr)).1
   rw[if_pos e0,l,u]
   exact ⟨e,FZ f,a,Nat.le_add_right _ _,c,rfl⟩
 have:Ah p s= .bad:=by
  unfold Ah M.bind Un
  rw[if_neg i]
  rfl
 rw[this]
 show AQ s<1
 simp_all[AQ]
theorem lQ(r:Bool)(s:TS)(n:Nd)(i:GP r s)(hm:may n=true):Step (eU r) s 0 1 (Al n) (fun k s'=>k=Js k.Ap n∧1≤k.Ap∧k.Ap<1048576∧nodeAt s' k.Ap=some n):=by
 obtain ⟨kind,body,H,X,y,O⟩:=S0 hm
 unfold Step
 by_cases Q:CB s.sp<1
 · exact .inl Q
 right
 by_cases L:s.ops<BG
 · have hr:Al n s=M.bind IZ (fun t=>M.bind (Fo (if t.2=9 then 7 else t.2)) fun _=>M.bind (Fo (Bz t.1 kind body).2) fun _=>M.bind (Zq t.1 (Bz t.1 kind body).1) fun e=>M.bind (Fo e) fun _=>M.pure ⟨t.1,(AR n).1,(AR n).2.1,(AR n).2.2⟩) s:=by
    simp[Al,H]
   have l:=i.ts.take L
   cases z:s.sp.free with
   | none =>
     have J:s.sp.take=((0,9),s.sp):=by unfold Sp.take;rw[z]
     have u:Al n s= .fault 7 ⟨s.ck,s.sp,s.ops+1⟩:=by
      rw[hr]
      unfold M.bind IZ
      rw[if_pos L,J]
      rfl
     rw[u]
     rw[J] at l
     refine ⟨.inr ?_,⟨l,i.Bo,i.res,i.used,i.roomy⟩,FZ fun q x h=>Lc (no:=0) h (fun _ _ h=>h),Nat.le_refl _,?_⟩
     · show CB s.sp<1
       rw[YV z]
       simp
     show AQ s≤AQ ⟨s.ck,s.sp,s.ops+1⟩+(0+1)
     grind [AQ]
   | some no =>
     obtain ⟨W,Z,R,_⟩:=Sp.I0 z
     have u0:=i.res
     obtain ⟨m,rfl⟩: ∃m:Nat,no=m:=⟨no.toNat,by omega⟩
     have B:=r8 z (by omega)
     have G:(m:Int)<1048576:=by have:=VM;omega
     have P:Bz (m:Int) kind body=(AY m kind body,0):=by grind [Bz]
     have v:s.sp.take=(((m:Int),0), { s.sp with used:=s.sp.used++ [(m:Int)],taken:=s.sp.taken++ [(m:Int)] }):=by unfold Sp.take;rw[z]
     obtain ⟨d,a⟩: ∃x:Sp,x= { s.sp with used:=s.sp.used++ [(m:Int)],taken:=s.sp.taken++ [(m:Int)] } :=⟨_,rfl⟩
     rw[←a] at v
     rw[v] at l
     have u:Al n s=if (s.ck.put m (AY m kind body)).1=0 then .ok ⟨m,(AR n).1,(AR n).2.1,(AR n).2.2⟩ ⟨(s.ck.put m (AY m kind body)).2,d,s.ops+2⟩ else .fault (s.ck.put m (AY m kind body)).1 ⟨(s.ck.put m (AY m kind body)).2,d,s.ops+2⟩:=by
      rw[hr]
      unfold M.bind IZ Zq
      rw[if_pos L,v]
      simp only[Fx.bind,show¬((0:Int)=9) by omega,if_false,P,Fo,if_true,M.pure]
      by_cases h0:(s.ck.put m (AY m kind body)).1=0<;>simp[h0,M.fail,M.pure,Fx.bind]
     rw[u]
     obtain ⟨Y,D⟩:=i.ts.ck
     have g:=cM (no:=(m:Int)) (c:=AY m kind body) D i.Bo (by omega) G (by omega) (IA m kind y)
     have K:=l.put m (AY m kind body) (by show s.ops+1≤_;omega)
     have V:=(WK D m (AY m kind body)).2
     have I: ∀q x,Fq s q x→Fq ⟨(s.ck.put m (AY m kind body)).2,d,s.ops+2⟩ q x:=fun q x ⟨h1,b,T,U⟩=>by
      have hq:q≠(m:Int):=by
       rintro rfl
       unfold Sp.busy at R
       simp at R
       exact R.1 h1
      exact ⟨by rw[a];exact List.mem_append_left _ h1,b,g.has _ _ (.inl hq) T,U⟩
     have w: ∀p∈d.used,d.Ba≤p∧p<VL:=by
      rw[a]
      intro p hp
      rcases List.mem_append.1 hp with hp|hp
      · exact i.used p hp
      simp at hp;subst hp;exact ⟨W,B⟩
     have o:GP r ⟨(s.ck.put m (AY m kind body)).2,d,s.ops+2⟩:=⟨K,g.Bo,by rw[a];exact i.res,w,fun h=>(g.roomy (i.roomy h)).2⟩
     have j:AQ s≤AQ ⟨(s.ck.put m (AY m kind body)).2,d,s.ops+2⟩+(0+1):=by unfold AQ;simp only;omega
     have f:(s.ck.put m (AY m kind body)).2.reads.toNat≤s.ck.reads.toNat+0:=by omega
     by_cases h0:(s.ck.put m (AY m kind body)).1=0
     · rw[if_pos h0]
       refine ⟨o,FZ I,f,?_,j,rfl,by show (1:Int)≤m;omega,G,?_⟩
       · show CB s.sp≤CB d+1
         rw[a]
         unfold CB
         simp only[List.length_append,List.length_cons,List.length_nil]
         omega
       refine I5.2 ⟨by rw[a];simp,AY m kind body,g.put h0,?_⟩
       unfold CR
       rw[Rn (by omega) (by omega) y]
       simp only[if_true,O]
     rw[if_neg h0]
     refine ⟨.inl ⟨?_,(g.code.resolve_left h0)⟩,o,FZ I,f,j⟩
     cases hr:r with
     |false=>rfl
     |true=>exact absurd (g.roomy (i.roomy hr)).1 h0
 have:Al n s= .bad:=by
  unfold Al M.bind IZ
  rw[H,if_neg (by simp),if_neg L]
  rfl
 rw[this]
 show AQ s<0+1
 unfold AQ
 omega
theorem Lr(r:Bool):(eU r).Ok:=⟨lI r,lQ r⟩
