/- censusSound holds for every input. No condition. (part 23) -/
import Derived.Test.YtfhbmblbidcmmaaGreatWa21
import Derived.Test.YtfhbmblbidcmmaaGreatWa22
set_option linter.all false
set_option maxRecDepth 100000
set_option maxHeartbeats 3200000
namespace Go.Tr
theorem LN(no:Int)(b:List UInt8):(AO no b).2.1.length≤b.length:=by grind [AO,List.length_take,List.length_drop]
theorem Ww{kind:Int}{b:List UInt8}(h:(DN kind b).2=0):may (DN kind b).1=true:=by cases b with
 |nil=>simp[DN] at h
 |cons b rest=>grind [DN]
end Go.Tr
namespace Go.Proofs.YtfhbmblbidcmmaaGreat
open Go.RowKit Go.Sl Go.Dk Go.Tr
theorem IB{no:Int}{b:List UInt8}{n:Nd}(h:CU no b=some n):may n=true:=by
 unfold CU at h
 split at h
 ·split at h
  ·rename_i h1
   cases h
   exact Ww h1
  grind
 grind
theorem cW.more{N M:Nat}{s:Ck}(h:cW N s)(k:N≤M):cW M s:=by
 obtain ⟨h1,b,c,d,a⟩:=h
 exact ⟨by omega,by omega,by omega,by omega,a⟩
theorem WO(s:Ck)(no:Int):(s.release no).2.nm=s.nm:=by
 unfold Ck.release
 split<;>exact (BW s no).1
theorem fM(s:Ck):s.room.2.nm=s.nm:=by
 unfold Ck.room
 split
 ·rfl
 split
 ·rfl
 exact WO s _
theorem Ym(s:Ck)(no:Int)(b:List UInt8):(s.take no b).2.nm=s.nm:=by
 unfold Ck.take
 split<;>exact fM s
theorem iQ(s:Ck)(no:Int):(s.get no).2.2.nm=s.nm:=by
 unfold Ck.get
 split
 ·rfl
 split
 ·rfl
 simp only
 split
 ·split<;>exact Ym s _ _
 rfl
theorem jH(s:Ck)(no:Int)(b:List UInt8):(s.put no b).2.nm=s.nm:=by
 unfold Ck.put
 split
 ·rfl
 split
 ·rfl
 split<;>exact Ym s _ _
theorem eF{m:Nat}{s:Ck}(ok:Bm m s)(no:Int):(s.get no).2.1.length≤256:=by
 unfold Ck.get
 split
 ·simp
 split
 ·exact J4 ok no
 simp only
 split
 ·rename_i h
  split
  ·have a:(s.d.read s.nm (no*256) ((256:Nat):Int)).1=0:=h
   show (s.d.read s.nm (no*256) ((256:Nat):Int)).2.length≤256
   rw[P6 a]
   simp
  simp
 simp
theorem NP.get{s:TS}(h:NP s)(no:Int)(a:s.ops<BG):NP ⟨(s.ck.get no).2.2,s.sp,s.ops+2⟩:=by
 obtain ⟨m,hm⟩:=h.ck
 exact ⟨⟨_,iR hm no⟩,((h.num.step (iQ s.ck no) (Wc hm no).1 (Wc hm no).2).more (by show s.ops+1≤s.ops+2;omega)),by show s.ops+2≤_;omega,h.res,by have:=h.taken;show _≤s.ops+2;simp only;omega⟩
theorem NP.put{s:TS}(h:NP s)(no:Int)(b:List UInt8)(a:s.ops≤BG):NP ⟨(s.ck.put no b).2,s.sp,s.ops+1⟩:=by
 obtain ⟨m,hm⟩:=h.ck
 exact ⟨⟨_,MH hm no b⟩,h.num.step (jH s.ck no b) (WA hm no b).1 (by have:=(WA hm no b).2;show (s.ck.put no b).2.reads≤_;omega),by show s.ops+1≤_;omega,h.res,by have:=h.taken;show _≤s.ops+1;simp only;omega⟩
theorem NP.take{s:TS}(h:NP s)(b:s.ops<BG):NP ⟨s.ck,s.sp.take.2,s.ops+1⟩:=by
 have a:s.sp.take.2.AX=s.sp.AX∧s.sp.take.2.taken.length≤s.sp.taken.length+1:=by grind [Sp.take]
 exact ⟨h.ck,h.num.more (by show _≤s.ops+1;omega),by show s.ops+1≤_;omega,by simp only;rw[a.1];exact h.res,by have:=h.taken;show _≤s.ops+1;simp only;omega⟩
theorem JR{no:Int}{s:TS}(a:s.ops<BG):Ak no s=
 if (s.ck.get no).1=0 then (match CU no (s.ck.get no).2.1 with|some n=> .ok n ⟨(s.ck.get no).2.2,s.sp,s.ops+2⟩|none=> .fault 13 ⟨(s.ck.get no).2.2,s.sp,s.ops+2⟩)
 else .fault (if (s.ck.get no).1=6∨(s.ck.get no).1=1 then 13 else (s.ck.get no).1) ⟨(s.ck.get no).2.2,s.sp,s.ops+2⟩:=by
 unfold Ak M.bind Ue
 rw[if_pos a]
 simp only[Fu.bind]
 by_cases h:(s.ck.get no).1=0
 ·rw[if_pos h,h]
  cases CU no (s.ck.get no).2.1<;>rfl
 rw[if_neg h]
 unfold Fi
 rw[if_neg (by split<;>omega)]
 rfl
theorem Ek{h:Th}{s:TS}{F:Ab}{w:World}(hs:Sat (Ad h s*F) w):NP s∧Sat (Be h.C h.D s.ck*(Cf h.S s.sp*(Sl.block h.t Tg [.pointer (some ⟨h.C,0,none⟩),.pointer (some ⟨h.S,0,none⟩)]*F))) w:=by
 obtain ⟨hi,a⟩:=Sat.ZD hs
 grind [PI]
theorem Dw{h:Th}{s:TS}{F:Ab}{w:World}(hi:NP s)(hs:Sat (Be h.C h.D s.ck*(Cf h.S s.sp*(Sl.block h.t Tg [.pointer (some ⟨h.C,0,none⟩),.pointer (some ⟨h.S,0,none⟩)]*F))) w):Sat (Ad h s*F) w:=
 Sat.ZE hi (hs.eq (by unfold PI;ac_rfl))
theorem Cu(h:Th)(s:TS)(no:Int)(F:Ab)(w:World)(hs:Sat (Ad h s*F) w)(hb:Ak no s≠ .bad):
 Calls Tryz.prog 129 #[.pointer (some ⟨h.t,0,none⟩),.int .i64 no] w (Et h F (Ak no s) fun n v B=>AN B v n∧may n=true):=by
 have ho:s.ops<BG:=by
  rcases Nat.lt_or_ge s.ops BG with h|h
  · exact h
  refine absurd ?_ hb
  unfold Ak M.bind Ue
  rw[if_neg (by omega)]
  rfl
 obtain ⟨hi,u⟩:=Ek hs
 have a:=fun F w q=>eE h.C h.D s.ck 137438953472 no F w q hi.ok (by omega)
 have j:=eF hi.ok no
 have X:=As (hi.get no ho)
 rw[JR ho]
 obtain ⟨⟨R,b,k2⟩,hr⟩:=Aq (s.ck.get no)
 rw[hr] at a j X⊢
 simp only at j X⊢
 obtain ⟨t2,O⟩:=Aq (⟨k2,s.sp,s.ops+2⟩:TS)
 have hk:t2.ck=k2∧t2.sp=s.sp:=by rw[←O];exact ⟨rfl,rfl⟩
 rw[O] at X⊢
 have Q:Aside (∀(G:Ab)(w:World),Sat (Be h.C h.D k2*(Cf h.S s.sp*(Sl.block h.t Tg [.pointer (some ⟨h.C,0,none⟩),.pointer (some ⟨h.S,0,none⟩)]*G))) w→Sat (Ad h t2*G) w):=fun G w o=>Dw X.out (by rw[hk.1,hk.2];exact o)
 haveI:=u.i
 clear hb hr O hk hi ho hs
 by_cases Z:R=6
 · subst Z
   rw[if_neg (by omega),if_pos (by omega)]
   have g:=Ju 13 (by omega)
   go_enter Tryz.func129,Tryz.ntmps129
   go_wp2_with fail
   refine (a _ _ (Ae (Be h.C h.D s.ck))).mono ?_
   rintro e V ⟨v,rfl,f⟩
   haveI:=f.i
   clear a u
   go_wp2_with fail
   refine (g _).mono ?_
   rintro e W ⟨rfl,rfl⟩
   refine ⟨rfl,?_⟩
   exact ⟨rfl,Q.out _ _ (Cz _ _ _ _)⟩
 have g6:(R==6)=false:=by simp[Z]
 by_cases h1:R=1
 · subst h1
   rw[if_neg (by omega),if_pos (by omega)]
   have g:=Ju 13 (by omega)
   go_enter Tryz.func129,Tryz.ntmps129
   go_wp2_with fail
   refine (a _ _ (Ae (Be h.C h.D s.ck))).mono ?_
   rintro e V ⟨v,rfl,f⟩
   haveI:=f.i
   clear a u
   go_wp2_with fail
   refine (g _).mono ?_
   rintro e W ⟨rfl,rfl⟩
   refine ⟨rfl,?_⟩
   exact ⟨rfl,Q.out _ _ (Cz _ _ _ _)⟩
 have g1:(R==1)=false:=by simp[h1]
 by_cases h0:R=0
 · subst h0
   rw[if_pos rfl]
   have g:=Q3
   have d:=fun v F w (q:Sat (rw TB 1 v (A4 b)*F) w)=>Sw no v b _ F w Reads.rw q (by omega)
   have L:=LN no b
   have c: ∀r,CU no b=r→r=(if (AO no b).2.2=0 then (if (DN (AO no b).1 (AO no b).2.1).2=0 then some (DN (AO no b).1 (AO no b).2.1).1 else none) else none):=fun r h=>by rw[←h];rfl
   have J:=fun n=>IB (no:=no) (b:=b) (n:=n)
   obtain ⟨on,K⟩:=Aq (CU no b)
   have c:=c on K
   rw[K] at J⊢
   have a0:Aside (∀n,on=some n→may n=true):=fun n h=>J n h
   obtain ⟨⟨kind,body,pe⟩,hp⟩:=Aq (AO no b)
   rw[hp] at d c L
   simp only at d c L
   have I:body.length≤1099511627776:=by omega
   clear J K hp L j Z h1 g6 g1
   by_cases m:pe=0
   · subst m
     rw[if_pos rfl] at c
     have k:=fun v F w (q:Sat (rw TB 1 v (A4 body)*F) w)=>Wu kind body v _ F w Reads.rw q I
     obtain ⟨⟨nd,ne⟩,hn⟩:=Aq (DN kind body)
     rw[hn] at k c
     simp only at c
     clear hn I
     by_cases l:ne=0
     ·subst l
      rw[if_pos rfl] at c
      subst c
      have p:=As k
      clear k
      go_enter Tryz.func129,Tryz.ntmps129
      go_wp2_with fail
      refine (a _ _ (Ae (Be h.C h.D s.ck))).mono ?_
      rintro e V ⟨v,rfl,f⟩
      haveI:=f.i
      clear a u
      go_wp2_with fail
      refine (g _).mono ?_
      rintro e W ⟨rfl,rfl⟩
      go_wp2_with fail
      refine (d v _ _ (Ae (rw TB 1 v (A4 b)))).mono ?_
      rintro e w3 ⟨Y,c3,rfl,P⟩
      haveI:=P.i
      clear d f g
      go_wp2_with fail
      refine (p.out _ _ _ (Ae (rw TB 1 (.slice Y body.length c3) (A4 body)))).mono ?_
      rintro e w4 ⟨v',G,rfl,o,q4⟩
      haveI:=q4.i
      clear P
      obtain ⟨vE,vK,rfl,T,U⟩:=id o
      obtain ⟨aE,cE,rfl,x,y⟩:=T.v
      obtain ⟨aK,cK,rfl,z,H⟩:=U.v
      have HG:=As o
      clear T U o x y z H
      go_wp2
      go_returns
      exact ⟨_,G,rfl,⟨HG.out,a0.out nd rfl⟩,Q.out _ _ (DC _ _ _ _ _)⟩
     have ag:(ne==0)=false:=by simp[l]
     rw[if_neg l] at c
     subst c
     have p:=As k
     clear k l
     go_enter Tryz.func129,Tryz.ntmps129
     go_wp2_with fail
     refine (a _ _ (Ae (Be h.C h.D s.ck))).mono ?_
     rintro e V ⟨v,rfl,f⟩
     haveI:=f.i
     clear a u
     go_wp2_with fail
     refine (g _).mono ?_
     rintro e W ⟨rfl,rfl⟩
     go_wp2_with fail
     refine (d v _ _ (Ae (rw TB 1 v (A4 b)))).mono ?_
     rintro e w3 ⟨Y,c3,rfl,P⟩
     haveI:=P.i
     clear d f g
     go_wp2_with fail
     refine (p.out _ _ _ (Ae (rw TB 1 (.slice Y body.length c3) (A4 body)))).mono ?_
     rintro e w4 ⟨v',G,rfl,o,q4⟩
     haveI:=q4.i
     clear P
     obtain ⟨vE,vK,rfl,T,U⟩:=id o
     obtain ⟨aE,cE,rfl,x,y⟩:=T.v
     obtain ⟨aK,cK,rfl,z,H⟩:=U.v
     clear T U o x y z H
     go_wp2
     refine ⟨rfl,?_⟩
     exact ⟨rfl,Q.out _ _ (Cz _ _ _ _)⟩
   have ah:(pe==0)=false:=by simp[m]
   rw[if_neg m] at c
   subst c
   clear I m
   go_enter Tryz.func129,Tryz.ntmps129
   go_wp2_with fail
   refine (a _ _ (Ae (Be h.C h.D s.ck))).mono ?_
   rintro e V ⟨v,rfl,f⟩
   haveI:=f.i
   clear a u
   go_wp2_with fail
   refine (g _).mono ?_
   rintro e W ⟨rfl,rfl⟩
   go_wp2_with fail
   refine (d v _ _ (Ae (rw TB 1 v (A4 b)))).mono ?_
   rintro e w3 ⟨Y,c3,rfl,P⟩
   haveI:=P.i
   clear d f g
   go_wp2
   refine ⟨rfl,?_⟩
   exact ⟨rfl,Q.out _ _ (Cz _ _ _ _)⟩
 rw[if_neg h0,if_neg (by omega)]
 have g:=Ju R h0
 clear Z h1 h0
 go_enter Tryz.func129,Tryz.ntmps129
 go_wp2_with fail
 refine (a _ _ (Ae (Be h.C h.D s.ck))).mono ?_
 rintro e V ⟨v,rfl,f⟩
 haveI:=f.i
 clear a u
 go_wp2_with fail
 refine (g _).mono ?_
 rintro e W ⟨rfl,rfl⟩
 refine ⟨rfl,?_⟩
 exact ⟨rfl,Q.out _ _ (Cz _ _ _ _)⟩
end Go.Proofs.YtfhbmblbidcmmaaGreat
namespace Go.Proofs.YtfhbmblbidcmmaaGreat
open Go.Dk Go.Tr
class Em where
 n:Nat
 le:n≤1048576
variable [Em]
def VA:Nat:=Em.n
theorem VB:VA≤1048576:=Em.le
theorem Has.uniq{s:Ck}{k:Int}{b c:List UInt8}(h1:Has s k b)(a:Has s k c):b=c:=by
 unfold Has BR at h1 a
 grind
def Fj(s:TS)(p:Int)(n:Nd):Prop:=p∈s.sp.used∧ ∃b,Has s.ck p b∧CU p b=some n
theorem Fj.uniq{s:TS}{p:Int}{n m:Nd}(h1:Fj s p n)(a:Fj s p m):n=m:=by
 obtain ⟨_,b,hb,e⟩:=h1
 obtain ⟨_,c,d,f⟩:=a
 obtain rfl:=hb.uniq d
 simp_all
open Classical in
noncomputable def nodeAt(s:TS)(p:Int):Option Nd:=if h: ∃n,Fj s p n then some h.choose else none
theorem IA{s:TS}{p:Int}{n:Nd} :nodeAt s p=some n↔Fj s p n:=by
 unfold nodeAt
 split
 ·rename_i h
  constructor
  ·grind
  intro hs;rw[h.choose_spec.uniq hs]
 simp_all
theorem FV{s s':TS}(h: ∀p n,Fj s p n→Fj s' p n):Le (nodeAt s) (nodeAt s'):=fun p n e=>IA.2 (h p n (IA.1 e))
def CB(s:Sp):Nat:=VA-s.AX.toNat-s.used.length-s.waiting.length
def AM(s:TS):Nat:=(BG-s.ops)/2
structure GS (roomy:Bool) (s:TS):Prop where
 ts:NP s
 Bn:Good VA s.ck
 res:1≤s.sp.AX
 used: ∀p∈s.sp.used,s.sp.AX≤p∧p<VA
 roomy:roomy=true→Roomy VA s.ck
noncomputable def dZ(roomy:Bool):Env TS where
 rd:=Ak
 wt:=An
 V:=nodeAt
 inv:=GS roomy
 reads s:=s.ck.reads.toNat
 room s:=CB s.sp
 left:=AM
 bad e:=roomy=false∧e=7
theorem Lc{s:TS}{no:Int}{p:Int}{n:Nd}(h:Fj s p n){a:Ck}{o:Nat}(e: ∀k b,Has s.ck k b→Has a k b):Fj ⟨a,s.sp,o⟩ p n:=by
 obtain ⟨h1,b,c,d⟩:=h
 exact ⟨h1,b,e _ _ c,d⟩
theorem QL{s:Sp} : ∀{k:Nat}{no:Int},s.least k no=none→ ∀y,no≤y→y<no+k→s.busy y=true
 |0,no,_,y,h1,a=>by omega
 | k + 1, no, h, y, h1, a => by
  unfold Sp.least at h
  cases hb:s.busy no with
  | true =>
   rw[hb,if_pos rfl] at h
   by_cases e:y=no
   ·simp_all
   exact QL h y (by omega) (by omega)
  |false=>rw[hb,if_neg (by simp)] at h;cases h
theorem YG{s:Sp}(h:s.free=none):CB s=0:=by
 have h1:=QL h
 have d:((List.range (1048576-s.AX).toNat).map fun i:Nat=>s.AX+i).Nodup:=by
  refine List.Pairwise.map _ (fun a b e=>?_) List.nodup_range
  omega
 have c:((List.range (1048576-s.AX).toNat).map fun i:Nat=>s.AX+i)⊆s.used++s.waiting:=by
  intro y hy
  obtain ⟨i,hi,rfl⟩:=List.mem_map.1 hy
  have hi:=List.mem_range.1 hi
  have:=h1 (s.AX+i) (by omega) (by omega)
  simp_all[Sp.busy]
 have hl:=List.Nodup.length_le_of_subset d c
 have:=VB
 grind [CB]
theorem l0{s:Sp}{no:Int}(h:s.free=some no)(hr:0<CB s):no<VA:=by
 obtain ⟨j,k,l,n4⟩:=Sp.I4 h
 rcases Int.lt_or_le no VA with g|g
 · exact g
 exfalso
 have f:((List.range ((VA:Int)-s.AX).toNat).map fun i:Nat=>s.AX+i).Nodup:=by
  refine List.Pairwise.map _ (fun a b d=>?_) List.nodup_range
  intro e
  exact d (by omega)
 have c:((List.range ((VA:Int)-s.AX).toNat).map fun i:Nat=>s.AX+i)⊆s.used++s.waiting:=by
  intro y hy
  obtain ⟨i,hi,rfl⟩:=List.mem_map.1 hy
  have hi:=List.mem_range.1 hi
  have:=n4 (s.AX+i) (by omega) (by omega)
  unfold Sp.busy at this
  simpa using this
 have hl:=List.Nodup.length_le_of_subset f c
 simp only[List.length_map,List.length_range,List.length_append] at hl
 unfold CB at hr
 omega
theorem kU(r:Bool)(s:TS)(p:Int)(n:Nd)(d:GS r s)(o:nodeAt s p=some n):Step (dZ r) s 1 0 (Ak p) (fun m s'=>m=n):=by
 obtain ⟨v,b,hb,u⟩:=IA.1 o
 obtain ⟨y,z⟩:=d.used p v
 have w:=d.res
 have B:=VB
 right
 by_cases i:s.ops<BG
 · obtain ⟨m,hm⟩:=d.ts.ck
   have g:=Ly (no:=p) hm d.Bn (by omega) (by omega)
   have j:=d.ts.get p i
   have t:=(Wc hm p).2
   have f: ∀q x,Fj s q x→Fj ⟨(s.ck.get p).2.2,s.sp,s.ops+2⟩ q x:=fun q x h=>Lc (no:=p) h g.has
   have e:GS r ⟨(s.ck.get p).2.2,s.sp,s.ops+2⟩:=⟨j,g.Bn,d.res,d.used,fun h=>(g.roomy (d.roomy h)).2⟩
   have a:(s.ck.get p).2.2.reads.toNat≤s.ck.reads.toNat+1:=by omega
   have c:AM s≤AM ⟨(s.ck.get p).2.2,s.sp,s.ops+2⟩+1:=by unfold AM;simp only;omega
   rw[JR i]
   rcases g.lH b hb with k|⟨e0,l⟩
   ·rw[if_neg (by omega),if_neg (by omega)]
    refine ⟨.inl ⟨?_,k⟩,e,FV f,a,c⟩
    cases hr:r with
    |false=>rfl
    |true=>exact absurd k (g.roomy (d.roomy hr)).1
   rw[if_pos e0,l,u]
   exact ⟨e,FV f,a,Nat.le_add_right _ _,c,rfl⟩
 have:Ak p s= .bad:=by
  unfold Ak M.bind Ue
  rw[if_neg i]
  rfl
 rw[this]
 show AM s<1
 simp_all[AM]
theorem lC(r:Bool)(s:TS)(n:Nd)(i:GS r s)(hm:may n=true):Step (dZ r) s 0 1 (An n) (fun k s'=>k=KH k.Au n∧1≤k.Au∧k.Au<1048576∧nodeAt s' k.Au=some n):=by
 obtain ⟨kind,body,H,X,y,O⟩:=Sr hm
 unfold Step
 by_cases Q:CB s.sp<1
 · exact .inl Q
 right
 by_cases L:s.ops<BG
 · have hr:An n s=M.bind Jg (fun t=>M.bind (Fi (if t.2=9 then 7 else t.2)) fun _=>M.bind (Fi (Bw t.1 kind body).2) fun _=>M.bind (Zb t.1 (Bw t.1 kind body).1) fun e=>M.bind (Fi e) fun _=>M.pure ⟨t.1,(AZ n).1,(AZ n).2.1,(AZ n).2.2⟩) s:=by
    simp[An,H]
   have l:=i.ts.take L
   cases z:s.sp.free with
   | none =>
     have J:s.sp.take=((0,9),s.sp):=by unfold Sp.take;rw[z]
     have u:An n s= .fault 7 ⟨s.ck,s.sp,s.ops+1⟩:=by
      rw[hr]
      unfold M.bind Jg
      rw[if_pos L,J]
      rfl
     rw[u]
     rw[J] at l
     refine ⟨.inr ?_,⟨l,i.Bn,i.res,i.used,i.roomy⟩,FV fun q x h=>Lc (no:=0) h (fun _ _ h=>h),Nat.le_refl _,?_⟩
     · show CB s.sp<1
       rw[YG z]
       simp
     show AM s≤AM ⟨s.ck,s.sp,s.ops+1⟩+(0+1)
     grind [AM]
   | some no =>
     obtain ⟨W,Z,R,_⟩:=Sp.I4 z
     have u0:=i.res
     obtain ⟨m,rfl⟩: ∃m:Nat,no=m:=⟨no.toNat,by omega⟩
     have B:=l0 z (by omega)
     have G:(m:Int)<1048576:=by have:=VB;omega
     have P:Bw (m:Int) kind body=(AV m kind body,0):=by grind [Bw]
     have v:s.sp.take=(((m:Int),0), { s.sp with used:=s.sp.used++ [(m:Int)],taken:=s.sp.taken++ [(m:Int)] }):=by unfold Sp.take;rw[z]
     obtain ⟨d,a⟩: ∃x:Sp,x= { s.sp with used:=s.sp.used++ [(m:Int)],taken:=s.sp.taken++ [(m:Int)] } :=⟨_,rfl⟩
     rw[←a] at v
     rw[v] at l
     have u:An n s=if (s.ck.put m (AV m kind body)).1=0 then .ok ⟨m,(AZ n).1,(AZ n).2.1,(AZ n).2.2⟩ ⟨(s.ck.put m (AV m kind body)).2,d,s.ops+2⟩ else .fault (s.ck.put m (AV m kind body)).1 ⟨(s.ck.put m (AV m kind body)).2,d,s.ops+2⟩:=by
      rw[hr]
      unfold M.bind Jg Zb
      rw[if_pos L,v]
      simp only[Fu.bind,show¬((0:Int)=9) by omega,if_false,P,Fi,if_true,M.pure]
      by_cases h0:(s.ck.put m (AV m kind body)).1=0<;>simp[h0,M.fail,M.pure,Fu.bind]
     rw[u]
     obtain ⟨Y,D⟩:=i.ts.ck
     have g:=bJ (no:=(m:Int)) (c:=AV m kind body) D i.Bn (by omega) G (by omega) (IF m kind y)
     have K:=l.put m (AV m kind body) (by show s.ops+1≤_;omega)
     have V:=(WA D m (AV m kind body)).2
     have I: ∀q x,Fj s q x→Fj ⟨(s.ck.put m (AV m kind body)).2,d,s.ops+2⟩ q x:=fun q x ⟨h1,b,T,U⟩=>by
      have hq:q≠(m:Int):=by
       rintro rfl
       unfold Sp.busy at R
       simp at R
       exact R.1 h1
      exact ⟨by rw[a];exact List.mem_append_left _ h1,b,g.has _ _ (.inl hq) T,U⟩
     have w: ∀p∈d.used,d.AX≤p∧p<VA:=by
      rw[a]
      intro p hp
      rcases List.mem_append.1 hp with hp|hp
      · exact i.used p hp
      simp at hp;subst hp;exact ⟨W,B⟩
     have o:GS r ⟨(s.ck.put m (AV m kind body)).2,d,s.ops+2⟩:=⟨K,g.Bn,by rw[a];exact i.res,w,fun h=>(g.roomy (i.roomy h)).2⟩
     have j:AM s≤AM ⟨(s.ck.put m (AV m kind body)).2,d,s.ops+2⟩+(0+1):=by unfold AM;simp only;omega
     have f:(s.ck.put m (AV m kind body)).2.reads.toNat≤s.ck.reads.toNat+0:=by omega
     by_cases h0:(s.ck.put m (AV m kind body)).1=0
     · rw[if_pos h0]
       refine ⟨o,FV I,f,?_,j,rfl,by show (1:Int)≤m;omega,G,?_⟩
       · show CB s.sp≤CB d+1
         rw[a]
         unfold CB
         simp only[List.length_append,List.length_cons,List.length_nil]
         omega
       refine IA.2 ⟨by rw[a];simp,AV m kind body,g.put h0,?_⟩
       unfold CU
       rw[Rg (by omega) (by omega) y]
       simp only[if_true,O]
     rw[if_neg h0]
     refine ⟨.inl ⟨?_,(g.code.resolve_left h0)⟩,o,FV I,f,j⟩
     cases hr:r with
     |false=>rfl
     |true=>exact absurd (g.roomy (i.roomy hr)).1 h0
 have:An n s= .bad:=by
  unfold An M.bind Jg
  rw[H,if_neg (by simp),if_neg L]
  rfl
 rw[this]
 show AM s<0+1
 unfold AM
 omega
theorem Lu(r:Bool):(dZ r).Ok:=⟨kU r,lC r⟩
