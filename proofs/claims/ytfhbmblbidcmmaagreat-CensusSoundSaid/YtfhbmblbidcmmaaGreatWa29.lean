/- censusSound holds for every input. No condition. (part 29) -/
import Derived.Test.YtfhbmblbidcmmaaGreatWa28
set_option linter.all false
set_option maxRecDepth 100000
set_option maxHeartbeats 6400000
namespace Go.Proofs.YtfhbmblbidcmmaaGreat
open Go.RowKit Go.Sl Go.Dk Go.Tr
theorem Wh{α:Type}{l:List α}{z:α}(h:l.getLast?=some z): ∃i,l=i++ [z]:=by
 refine ⟨l.dropLast,?_⟩
 have a:l≠ []:=by rintro rfl;cases h
 rw[List.getLast?_eq_some_getLast a] at h
 cases h
 exact (List.dropLast_concat_getLast a).symm
theorem bB{x:Nd}(hl:x.leaf=false)(i j:Nat)(ks:List Kd):Pure (both (CO x i j) ⟨false,[],ks⟩):=by
 unfold Pure both CO many
 rw[hl]
 simp
theorem Zw{x:Nd}(hl:x.leaf=false)(i j:Nat)(ks:List Kd):Pure (both ⟨false,[],ks⟩ (CO x i j)):=by
 unfold Pure both CO many
 rw[hl]
 simp
theorem Hv{x:Nd}(hl:x.leaf=false)(i j:Nat):(CO x i j).Ag.length=0∧(CO x i j).kids.length≤x.kids.length∧many (CO x i j)≤x.kids.length:=by
 unfold CO many
 rw[hl]
 simp[sub]
 omega
theorem eR(f : Nat)(IH : ZS f)(h : Th)(s : TS)(a b : BK)(F : Ab)(w : World)(hs : Sat (Ad h s * F) w)(W : b.Al < a.Al)(X : -1 ≤ b.Al)(ap : a.Al ≤ 1000)(hb : C7 Ak An (f + 1) a b s ≠ .bad) :
 Calls Tryz.prog 145 #[.pointer (some ⟨h.t,0,none⟩),Bi a,Bi b] w (Et h F (C7 Ak An (f+1) a b s) Xv):=by
 obtain ⟨⟨G,a2,a3,a4⟩,y⟩:=a
 obtain ⟨⟨b1,b2,b3,b4⟩,bh⟩:=b
 simp only at W X ap
 obtain ⟨R,I⟩:=Aq (C7 Ak An (f+1) ⟨⟨G,a2,a3,a4⟩,y⟩ ⟨⟨b1,b2,b3,b4⟩,bh⟩ s)
 rw[I] at hb⊢
 have HB:=As hb
 unfold C7 at I
 simp only[W,if_true] at I
 have P:=Bf I hb
 have c1:=fun F w q=>Cu h s G F w q P
 have HR:Aside (∀x s1,Ak G s= .ok x s1→ ∃i z,x.kids=i++ [z]∧x.leaf=false∧M.bind (C7 Ak An f ⟨z,y-1⟩ ⟨⟨b1,b2,b3,b4⟩,bh⟩) (fun r=>M.bind (BT An (both (CO x 0 i.length) ⟨false,[],r.1⟩)) fun out=>M.pure (out,y)) s1=R):=fun x s1 hm=>by
  have K:=Bd I hm
  cases hz:x.kids.getLast? with
  |none=>simp only[hz] at K;exact absurd K.symm hb
  | some z =>
    obtain ⟨i,hi⟩:=Wh hz
    simp only[hz] at K
    by_cases d:x.leaf=true
    · rw[if_pos d] at K;exact absurd K.symm hb
    rw[if_neg d] at K
    refine ⟨i,z,hi,by simpa using d,?_⟩
    have e:i.length=x.kids.length-1:=by rw[hi];simp
    rw[e]
    exact K
 have HU:Aside ((∀T s1,Ak G s= .fault T s1→R= .fault T s1)∧Ak G s≠ .bad):=⟨fun T s1 hm=>B3 I hm,P⟩
 unfold Bi
 haveI:=hs.i
 clear hb I P
 go_enter Tryz.func145,Tryz.ntmps145
 go_wp2_with fail
 with_reducible refine Calls.mono (c1 _ _ (Ae (Ad h s))) ?_
 rintro e w1 h1
 obtain ⟨r1,o⟩: ∃r,r=Ak G s:=⟨_,rfl⟩
 rw[←o] at h1
 rcases r1 with ⟨x,s1⟩|⟨T,s1⟩|_
 rotate_left
 · obtain ⟨rfl,q1⟩:=h1
   haveI:=q1.i
   have m:=HU.out.1 _ _ o.symm
   subst m
   exact ⟨rfl,rfl,Ar _ _⟩
 · exact absurd o.symm HU.out.2
 obtain ⟨v1,Q,rfl,⟨hx,mx⟩,q1⟩:=h1
 obtain ⟨i,z,hk,d,J⟩:=HR.out _ _ o.symm
 obtain ⟨vE,vK,rfl,hE,hK⟩:=id hx
 obtain ⟨aE,cE,rfl,am,bq⟩:=hE.v
 obtain ⟨aK,cK,rfl,br,bs⟩:=hK.v
 obtain ⟨n,hn⟩:=Aq i.length
 have L:x.kids.length=n+1:=by rw[hk];simp[hn]
 have bp:=(Cn mx).2
 obtain ⟨kb,ko,rfl,k1,k2,k3,k4⟩:=Cp hK (i:=n) (x:=z) (by rw[hk,←hn];simp)
 rw[hn] at J
 rw[d,L] at hx⊢
 have u:Aside (AN Q (.agg #[.bool false,.slice aE x.Ag.length cE,.slice (some ⟨kb,ko,none⟩) (n+1) cK]) x∧x.leaf=false∧x.kids.length=n+1):=⟨hx,d,L⟩
 obtain ⟨ne,a0⟩:=Aq x.Ag.length
 rw[a0] at u am⊢
 obtain ⟨z1,z2,z3,z4⟩:=z
 have l:=As J
 have c2:=fun F w q=>IH h s1 ⟨⟨z1,z2,z3,z4⟩,y-1⟩ ⟨⟨b1,b2,b3,b4⟩,bh⟩ F w q (by simp only;omega) (by simp only;omega) X (by simp only;omega) (Bf l.out HB.out)
 unfold Bi at c2
 simp only at c2 k1 k2 k3 k4
 have hcut:=fun F w q=>PH x 0 n _ Q F w u.out.1 q (by omega) (by rw[u.out.2.1,u.out.2.2];simp)
 have U:=As hcut
 have HM:Aside (n≤11):=(by omega:n≤11)
 have bc:(n:Int)≤11:=by omega
 have bu:(n:Int)<(n:Int)+1:=by omega
 have bv:=Bb (y-1) (by omega)
 haveI:=q1.i
 clear hx hE hK hk hn L J hcut a0 d mx o HR HU c1
 go_upto_region 4 with (fail)
 go_cut [10,11] (fun ax ay wx=> ∃(c:List Kd)(rh:Int)(s2:TS)(D:Ab)(H:Option Addr)(c5:Nat),ax= .slice H c.length c5∧ay= .int .i64 rh∧Aside (M.bind (BT An (both (CO x 0 n) ⟨false,[],c⟩)) (fun out=>M.pure (out,y)) s2=R)∧Aside (BE D (.slice H c.length c5) c∧c.length≤2)∧
  Sat (Ad h s2*(D*(Q*(Sl.block w1.heap.size Cy [.bool false,.slice aE ne cE,.slice (some ⟨kb,ko,none⟩) (n+1) cK]*(Sl.block w.heap.size DF [.int .i64 G,.int .i64 a2,.int .i64 a3,.int .i64 a4,.int .i64 y]*F))))) wx)
 case first =>
  go_region_law (first
   |(
      go_simp
      go_at_call 145
      with_reducible refine Calls.mono (c2 _ _ (Ae (Ad h s1))) ?_
      rintro e w2 h2
      obtain ⟨r2,j⟩: ∃r,r=C7 Ak An f ⟨⟨z1,z2,z3,z4⟩,y-1⟩ ⟨⟨b1,b2,b3,b4⟩,bh⟩ s1:=⟨_,rfl⟩
      rw[←j] at h2
      rcases r2 with ⟨rr,s2⟩|⟨T,s2⟩|_
      rotate_left
      · obtain ⟨rfl,q2⟩:=h2
        haveI:=q2.i
        have m:=B3 l.out j.symm
        subst m
        exact ⟨rfl,rfl,Ar _ _⟩
      · exact absurd (Ci l.out j.symm) HB.out
      obtain ⟨v2,D,rfl,⟨vk,rfl,B⟩,q2⟩:=h2
      have Y:=Bd l.out j.symm
      have O:=MS j.symm
      obtain ⟨c,rh⟩:=rr
      simp only at B O
      have g:=As Y
      obtain ⟨H,c5,rfl,bt,_⟩:=Ai.v B
      haveI:=q2.i
      have k:Aside (BE D (.slice H c.length c5) c∧c.length≤2):=⟨B,O⟩
      clear B Y j O))
  all_goals
   go_wp2
   go_meet
   exact ⟨c,rh,s2,D,H,c5,rfl,rfl,g,k,DZ _ _ _ _ _ _⟩
 obtain ⟨c,rh,s2,D,H,c5,rfl,rfl,g,k,q9⟩:=hcut
 haveI:=q9.i
 have aj:Aside (many (both (CO x 0 n) ⟨false,[],c⟩)≤65536):=by
  have h1:=(Hv u.out.2.1 0 n).2.2
  have h2:=u.out.2.2
  have h3:=HM.out
  have h4:=k.out.2
  have V:many (⟨false,[],c⟩:Nd)=c.length:=by simp[many]
  show many _≤_
  rw[Fk,V]
  omega
 clear q1 k1 k2 k3 k4 c2 l
 go_upto_region 5 with (fail)
 go_region_law (first
  |(
     go_simp
     go_at_call 166
     with_reducible refine Calls.mono (U.out _ _ (Ae Q)) ?_
     rintro e w3 ⟨v3,rfl,a6,q3⟩
     haveI:=q3.i
     have c4:=fun F w q=>Ow (CO x 0 n) ⟨false,[],c⟩ v3 (.agg #[.bool false,.slice none 0 0,.slice H c.length c5]) (Q*D) F w (AN.left a6) (AN.right (JE k.out.1)) q (by have:=Hv u.out.2.1 0 n;omega) (by simp) (by have:=Hv u.out.2.1 0 n;have:=u.out.2.2;have:=HM.out;omega) (by show c.length≤65536;have:=k.out.2;omega)
     clear a6)
  |(
     go_simp
     go_at_call 169
     with_reducible refine Calls.mono (c4 _ _ (cJ Q D)) ?_
     rintro e w4 ⟨v4,G4,rfl,a7,q4⟩
     haveI:=q4.i
     have al:=fun F w q=>Gq h s2 (both (CO x 0 n) ⟨false,[],c⟩) v4 G4 F w a7 q (bB u.out.2.1 0 n c) aj.out (Bf g.out HB.out)
     clear a7)
  |(
     go_simp
     go_at_call 137
     with_reducible refine Calls.mono (al _ _ (Bh (Ad h s2) G4)) ?_
     rintro e w5 V
     obtain ⟨r5,p⟩: ∃r,r=BT An (both (CO x 0 n) ⟨false,[],c⟩) s2:=⟨_,rfl⟩
     rw[←p] at V
     rcases r5 with ⟨out,s5⟩|⟨T,s5⟩|_
     rotate_left
     · obtain ⟨rfl,q5⟩:=V
       haveI:=q5.i
       have m:=B3 g.out p.symm
       subst m
       exact ⟨rfl,rfl,Ar _ _⟩
     · exact absurd (Ci g.out p.symm) HB.out
     obtain ⟨v5,G5,rfl,a8,q5⟩:=V
     have ar:BE G5 v5 out:=a8
     haveI:=q5.i
     have Z:=Bd g.out p.symm
     have ao:R= .ok (out,y) s5:=Z.symm
     clear a8 p Z))
 all_goals
  subst ao
  go_wp2
  go_ret2
  exact ⟨_,G5,rfl,⟨v5,rfl,ar⟩,AD _ _ _⟩
theorem eS(f : Nat)(IH : ZS f)(h : Th)(s : TS)(a b : BK)(F : Ab)(w : World)(hs : Sat (Ad h s * F) w)(X : a.Al < b.Al)(Z : -1 ≤ a.Al)(ar : b.Al ≤ 1000)(hb : C7 Ak An (f + 1) a b s ≠ .bad) :
 Calls Tryz.prog 145 #[.pointer (some ⟨h.t,0,none⟩),Bi a,Bi b] w (Et h F (C7 Ak An (f+1) a b s) Xv):=by
 obtain ⟨⟨a1,a2,a3,a4⟩,V⟩:=a
 obtain ⟨⟨J,b2,b3,b4⟩,y⟩:=b
 simp only at X Z ar
 obtain ⟨R,K⟩:=Aq (C7 Ak An (f+1) ⟨⟨a1,a2,a3,a4⟩,V⟩ ⟨⟨J,b2,b3,b4⟩,y⟩ s)
 rw[K] at hb⊢
 have HB:=As hb
 unfold C7 at K
 have Y: ¬y<V:=by omega
 simp only[X,Y,if_true,if_false] at K
 have Q:=Bf K hb
 have c1:=fun F w q=>Cu h s J F w q Q
 have HR:Aside (∀x s1,Ak J s= .ok x s1→ ∃i z,x.kids=z::i∧x.leaf=false∧M.bind (C7 Ak An f ⟨⟨a1,a2,a3,a4⟩,V⟩ ⟨z,y-1⟩) (fun r=>M.bind (BT An (both ⟨false,[],r.1⟩ (CO x 1 x.kids.length))) fun out=>M.pure (out,y)) s1=R):=fun x s1 hm=>by
  have O:=Bd K hm
  cases hz:x.kids with
  |nil=>simp only[hz] at O;exact absurd O.symm hb
  | cons z i =>
    simp only[hz] at O
    by_cases d:x.leaf=true
    · rw[if_pos d] at O;exact absurd O.symm hb
    rw[if_neg d] at O
    exact ⟨i,z,rfl,by simpa using d,O⟩
 have HU:Aside ((∀T s1,Ak J s= .fault T s1→R= .fault T s1)∧Ak J s≠ .bad):=⟨fun T s1 hm=>B3 K hm,Q⟩
 unfold Bi
 haveI:=hs.i
 clear hb K Q
 go_enter Tryz.func145,Tryz.ntmps145
 go_wp2_with fail
 with_reducible refine Calls.mono (c1 _ _ (Ae (Ad h s))) ?_
 rintro e w1 h1
 obtain ⟨r1,o⟩: ∃r,r=Ak J s:=⟨_,rfl⟩
 rw[←o] at h1
 rcases r1 with ⟨x,s1⟩|⟨T,s1⟩|_
 rotate_left
 · obtain ⟨rfl,q1⟩:=h1
   haveI:=q1.i
   have m:=HU.out.1 _ _ o.symm
   subst m
   exact ⟨rfl,rfl,Ar _ _⟩
 · exact absurd o.symm HU.out.2
 obtain ⟨v1,B,rfl,⟨hx,mx⟩,q1⟩:=h1
 obtain ⟨i,z,hk,d,L⟩:=HR.out _ _ o.symm
 obtain ⟨vE,vK,rfl,hE,hK⟩:=id hx
 obtain ⟨aE,cE,rfl,ao,br⟩:=hE.v
 obtain ⟨aK,cK,rfl,bs,bt⟩:=hK.v
 obtain ⟨n,hn⟩:=Aq i.length
 have G:x.kids.length=n+1:=by rw[hk];simp[hn]
 have bq:=(Cn mx).2
 obtain ⟨kb,ko,rfl,k1,k2,k3,k4⟩:=Cp hK (i:=0) (x:=z) (by rw[hk];rfl)
 rw[G] at L
 rw[d,G] at hx⊢
 have u:Aside (AN B (.agg #[.bool false,.slice aE x.Ag.length cE,.slice (some ⟨kb,ko,none⟩) (n+1) cK]) x∧x.leaf=false∧x.kids.length=n+1):=⟨hx,d,G⟩
 obtain ⟨ne,a7⟩:=Aq x.Ag.length
 rw[a7] at u ao⊢
 obtain ⟨z1,z2,z3,z4⟩:=z
 have l:=As L
 have c2:=fun F w q=>IH h s1 ⟨⟨a1,a2,a3,a4⟩,V⟩ ⟨⟨z1,z2,z3,z4⟩,y-1⟩ F w q Z (by simp only;omega) (by simp only;omega) (by simp only;omega) (Bf l.out HB.out)
 unfold Bi at c2
 simp only at c2 k1 k2 k3 k4
 have hcut:=fun F w q=>PH x 1 (n+1) _ B F w u.out.1 q (by omega) (by rw[u.out.2.1,u.out.2.2];simp)
 have U:Aside (∀F w,Sat (B*F) w→Calls Tryz.prog 166 #[.agg #[.bool false,.slice aE ne cE,.slice (some ⟨kb,ko,none⟩) (n+1) cK],.int .i64 1,.int .i64 ((n:Int)+1)] w fun e w'=> ∃v',e= .returned v'∧AN B v' (CO x 1 (n+1))∧Sat (B*F) w'):=by rw[Int.natCast_add] at hcut;exact hcut
 have HM:Aside (n≤11):=(by omega:n≤11)
 have bc:(n:Int)≤11:=by omega
 have bv:(n:Int)<(n:Int)+1:=by omega
 have bw:=Bb (y-1) (by omega)
 haveI:=q1.i
 clear hx hE hK hk hn G L hcut a7 d mx o HR HU c1
 go_upto_region 8 with (fail)
 go_cut [13,14] (fun az b0 wx=> ∃(c:List Kd)(rh:Int)(s2:TS)(H:Ab)(I:Option Addr)(c5:Nat),az= .slice I c.length c5∧b0= .int .i64 rh∧Aside (M.bind (BT An (both ⟨false,[],c⟩ (CO x 1 (n+1)))) (fun out=>M.pure (out,y)) s2=R)∧Aside (BE H (.slice I c.length c5) c∧c.length≤2)∧
  Sat (Ad h s2*(H*(B*(Sl.block w1.heap.size Cy [.bool false,.slice aE ne cE,.slice (some ⟨kb,ko,none⟩) (n+1) cK]*(Sl.block (w.heap.size+1) DF [.int .i64 J,.int .i64 b2,.int .i64 b3,.int .i64 b4,.int .i64 y]*F))))) wx)
 case first =>
  go_region_law (first
   |(
      go_simp
      go_at_call 145
      with_reducible refine Calls.mono (c2 _ _ (Ae (Ad h s1))) ?_
      rintro e w2 h2
      obtain ⟨r2,j⟩: ∃r,r=C7 Ak An f ⟨⟨a1,a2,a3,a4⟩,V⟩ ⟨⟨z1,z2,z3,z4⟩,y-1⟩ s1:=⟨_,rfl⟩
      rw[←j] at h2
      rcases r2 with ⟨rr,s2⟩|⟨T,s2⟩|_
      rotate_left
      · obtain ⟨rfl,q2⟩:=h2
        haveI:=q2.i
        have m:=B3 l.out j.symm
        subst m
        exact ⟨rfl,rfl,Ar _ _⟩
      · exact absurd (Ci l.out j.symm) HB.out
      obtain ⟨v2,H,rfl,⟨vk,rfl,D⟩,q2⟩:=h2
      have a0:=Bd l.out j.symm
      have P:=MS j.symm
      obtain ⟨c,rh⟩:=rr
      simp only at D P
      have g:=As a0
      obtain ⟨I,c5,rfl,bu,_⟩:=Ai.v D
      haveI:=q2.i
      have k:Aside (BE H (.slice I c.length c5) c∧c.length≤2):=⟨D,P⟩
      clear D a0 j P))
  all_goals
   go_wp2
   go_meet
   exact ⟨c,rh,s2,H,I,c5,rfl,rfl,g,k,DZ _ _ _ _ _ _⟩
 obtain ⟨c,rh,s2,H,I,c5,rfl,rfl,g,k,q9⟩:=hcut
 haveI:=q9.i
 have ak:Aside (many (both ⟨false,[],c⟩ (CO x 1 (n+1)))≤65536):=by
  have h1:=(Hv u.out.2.1 1 (n+1)).2.2
  have h2:=u.out.2.2
  have h3:=HM.out
  have h4:=k.out.2
  have W:many (⟨false,[],c⟩:Nd)=c.length:=by simp[many]
  show many _≤_
  rw[Fk,W]
  omega
 clear q1 k1 k2 k3 k4 c2 l
 go_upto_region 9 with (fail)
 go_region_law (first
  |(
     go_simp
     go_at_call 166
     with_reducible refine Calls.mono (U.out _ _ (Ae B)) ?_
     rintro e w3 ⟨v3,rfl,a8,q3⟩
     haveI:=q3.i
     have c4:=fun F w q=>Ow ⟨false,[],c⟩ (CO x 1 (n+1)) (.agg #[.bool false,.slice none 0 0,.slice I c.length c5]) v3 (B*H) F w (AN.right (JE k.out.1)) (AN.left a8) q (by simp) (by have:=Hv u.out.2.1 1 (n+1);omega) (by show c.length≤65536;have:=k.out.2;omega) (by have:=Hv u.out.2.1 1 (n+1);have:=u.out.2.2;have:=HM.out;omega)
     clear a8)
  |(
     go_simp
     go_at_call 169
     with_reducible refine Calls.mono (c4 _ _ (cJ B H)) ?_
     rintro e w4 ⟨v4,G4,rfl,a9,q4⟩
     haveI:=q4.i
     have am:=fun F w q=>Gq h s2 (both ⟨false,[],c⟩ (CO x 1 (n+1))) v4 G4 F w a9 q (Zw u.out.2.1 1 (n+1) c) ak.out (Bf g.out HB.out)
     clear a9)
  |(
     go_simp
     go_at_call 137
     with_reducible refine Calls.mono (am _ _ (Bh (Ad h s2) G4)) ?_
     rintro e w5 W
     obtain ⟨r5,p⟩: ∃r,r=BT An (both ⟨false,[],c⟩ (CO x 1 (n+1))) s2:=⟨_,rfl⟩
     rw[←p] at W
     rcases r5 with ⟨out,s5⟩|⟨T,s5⟩|_
     rotate_left
     · obtain ⟨rfl,q5⟩:=W
       haveI:=q5.i
       have m:=B3 g.out p.symm
       subst m
       exact ⟨rfl,rfl,Ar _ _⟩
     · exact absurd (Ci g.out p.symm) HB.out
     obtain ⟨v5,G5,rfl,aa,q5⟩:=W
     have av:BE G5 v5 out:=aa
     haveI:=q5.i
     have a6:=Bd g.out p.symm
     have aq:R= .ok (out,y) s5:=a6.symm
     clear aa p a6))
 all_goals
  subst aq
  go_wp2
  go_ret2
  exact ⟨_,G5,rfl,⟨v5,rfl,av⟩,AD _ _ _⟩
theorem Pd: ∀f:Nat,ZS f
 |0=>fun h s a b F w hs _ _ _ _ hb=>absurd rfl hb
 | f + 1 => fun h s a b F w hs h1 d e g hb => by
  rcases Int.lt_trichotomy a.Al b.Al with c|c|c
  ·exact eS f (Pd f) h s a b F w hs c h1 g hb
  ·exact Zf f h s a b F w hs c hb
  exact eR f (Pd f) h s a b F w hs c e d hb
theorem Mg{σ:Type}{rd:Int→M σ Nd}{wt:Nd→M σ Kd} : ∀(f:Nat)(a b:BK)(s:σ)(r:List Kd×Int)(s':σ),C7 rd wt f a b s= .ok r s'→r.2=a.Al∨r.2=b.Al
 |0,a,b,s,r,s',h=>by cases h
 | f + 1, a, b, s, r, s', h => by
  unfold C7 at h
  split at h
  ·obtain ⟨x,s1,h1,h⟩:=A5 h
   cases d:x.kids.getLast? with
   |none=>simp only[d] at h;cases h
   | some z =>
    simp only[d] at h
    by_cases c:x.leaf=true
    ·rw[if_pos c] at h;cases h
    rw[if_neg c] at h
    obtain ⟨q,s2,e,h⟩:=A5 h
    obtain ⟨o,s3,g,h⟩:=A5 h
    cases h
    exact .inl rfl
  split at h
  ·obtain ⟨x,s1,h1,h⟩:=A5 h
   cases d:x.kids with
   |nil=>simp only[d] at h;cases h
   | cons z zs =>
    simp only[d] at h
    by_cases c:x.leaf=true
    ·rw[if_pos c] at h;cases h
    rw[if_neg c] at h
    obtain ⟨q,s2,e,h⟩:=A5 h
    obtain ⟨o,s3,g,h⟩:=A5 h
    cases h
    exact .inr rfl
  obtain ⟨x,s1,h1,h⟩:=A5 h
  obtain ⟨y,s2,e,h⟩:=A5 h
  by_cases c:x.leaf=y.leaf
  ·rw[if_pos c] at h
   obtain ⟨o,s3,g,h⟩:=A5 h
   cases h
   exact .inl rfl
  rw[if_neg c] at h
  cases h
theorem LV(h:Th)(s:TS)(a b:BK)(F:Ab)(w:World)(hs:Sat (Ad h s*F) w)(ha: -1000≤a.Al)(p:a.Al≤1000)(hb: -1000≤b.Al)(u:b.Al≤1000)(l:FG Ak An a b s≠ .bad):
 Calls Tryz.prog 99 #[.pointer (some ⟨h.t,0,none⟩),Bi a,Bi b] w (Et h F (FG Ak An a b s) Qu):=by
 obtain ⟨R,f⟩:=Aq (FG Ak An a b s)
 rw[f] at l⊢
 have o:=As l
 have c:=fun(p1: -1≤a.Al)(p2: -1≤b.Al) F w q n=>Pd (KC a b) h s a b F w q p1 p p2 u n
 unfold FG at f
 have Z:Aside (KC a b=KC a b):=rfl
 obtain ⟨d,W⟩:=Aq (KC a b)
 rw[W] at c f
 have D:Aside (∀r s',C7 Ak An d a b s= .ok r s'→r.1.length≤65536∧ -1000≤r.2∧r.2≤1000):=fun r s' h=>by
  have h1:=MS h
  rcases Mg d a b s r s' h with j|j<;>exact ⟨by omega,by omega,by omega⟩
 obtain ⟨m,hm⟩:=Aq (C7 Ak An d a b s)
 obtain ⟨⟨a1,a2,a3,a4⟩,O⟩:=a
 obtain ⟨⟨b1,b2,b3,b4⟩,P⟩:=b
 simp only at f ha p hb u
 unfold Bi at c⊢
 simp only at c
 haveI:=hs.i
 clear l W Z
 by_cases h1:O<0
 · rw[if_pos h1] at f
   have g:R= .ok ⟨⟨b1,b2,b3,b4⟩,P⟩ s:=f.symm
   subst g
   clear f c D o hm
   go_enter Tryz.func99,Tryz.ntmps99
   go_wp2
   go_returns
   exact ⟨_,1,rfl,⟨rfl,rfl⟩,by rw[Ay];exact Ar _ _⟩
 rw[if_neg h1] at f
 by_cases j:P<0
 · rw[if_pos j] at f
   have g:R= .ok ⟨⟨a1,a2,a3,a4⟩,O⟩ s:=f.symm
   subst g
   clear f c D o hm
   go_enter Tryz.func99,Tryz.ntmps99
   go_wp2
   go_returns
   exact ⟨_,1,rfl,⟨rfl,rfl⟩,by rw[Ay];exact Ar _ _⟩
 rw[if_neg j] at f
 have H:=As f
 have J:=Bf H.out o.out
 replace c:=c (by omega) (by omega)
 rw[hm] at c J
 have G:=As hm
 clear f hm
 go_enter Tryz.func99,Tryz.ntmps99
 go_wp2_with fail
 with_reducible refine Calls.mono (c _ _ (Ae (Ad h s)) J) ?_
 rintro e w2 j
 cases m with
 |bad=>exact absurd rfl J
 | fault er s2 =>
   obtain ⟨rfl,z⟩:=j
   haveI:=z.i
   have g:=B3 H.out G.out
   subst g
   exact ⟨rfl,rfl,Ar _ _⟩
 | ok r s2 =>
   obtain ⟨v2,L,rfl,⟨vk,rfl,I⟩,z⟩:=j
   obtain ⟨r1,Y⟩:=r
   simp only at I
   obtain ⟨a5,c5,rfl,_,_⟩:=Ai.v I
   have y:=Bd H.out G.out
   have k:grown An r1 Y s2=R:=y
   obtain ⟨Q,T,U⟩:=D.out _ _ G.out
   have X:=fun v B F w q1 z=>M3 h s2 r1 Y v B F w q1 z Q (by simp only at T;omega) (by simp only at U;omega) (by rw[k];exact o.out)
   rw[k] at X
   have HK:=As I
   haveI:=z.i
   clear c I k y Q T U H G D J
   go_wp2_with fail
   with_reducible refine Calls.mono (X _ L _ _ HK.out (Bh (Ad h s2) L)) ?_
   rintro e w3 V
   cases R with
   |bad=>exact absurd rfl o.out
   | fault er s3 =>
    obtain ⟨rfl,K⟩:=V
    haveI:=K.i
    exact ⟨rfl,rfl,Ar _ _⟩
   | ok x s3 =>
    obtain ⟨v3,G3,rfl,⟨rfl,rfl⟩,K⟩:=V
    rw[Ay] at K
    haveI:=K.i
    unfold Bi
    go_wp2
    go_returns
    exact ⟨_,1,rfl,⟨rfl,rfl⟩,by rw[Ay];exact Ar _ _⟩
section
variable {σ:Type} {rd:Int→M σ Nd} {wt:Nd→M σ Kd}
theorem K2: ∀(f:Nat)(ks:List Kd)(h:Int)(s:σ)(t:BK)(s':σ),Fb wt f ks h s= .ok t s'→t.Al= -1∨(h≤t.Al∧t.Al≤h+f)
 | f, [], h, s, t, s', e => by
  have:t=C0:=by cases f<;>(cases e;rfl)
  subst this
  exact .inl rfl
 | f, [k], h, s, t, s', e => by
  have:t=⟨k,h⟩:=by cases f<;>(cases e;rfl)
  subst this
  exact .inr ⟨by simp only;omega,by simp only;omega⟩
 |0,a::b::l,h,s,t,s',e=>by cases e
 | f + 1, a :: b :: l, h, s, t, s', e => by
  have e':M.bind (BT wt ⟨false,[],a::b::l⟩) (fun ks=>Fb wt f ks (h+1)) s= .ok t s':=e
  obtain ⟨ks,s1,h1,d⟩:=A5 e'
  rcases K2 f ks (h+1) s1 t s' d with c|⟨c,g⟩
  ·exact .inl c
  exact .inr ⟨by omega,by omega⟩
theorem I1{ks:List Kd}{h:Int}{s:σ}{t:BK}{s':σ}(e:grown wt ks h s= .ok t s'):t.Al= -1∨(h≤t.Al∧t.Al≤h+ks.length):=K2 ks.length ks h s t s' e
theorem Er{ks:List Kd}{h:Int}{s:σ}{t:BK}{s':σ}(e:Ei wt ks h s= .ok t s'):t.Al= -1∨(h-1≤t.Al∧t.Al≤h-1+ks.length):=I1 e
theorem Gr{l:List Av}{s:σ}{t:BK}{s':σ}(e:Cs wt l s= .ok t s'):t.Al= -1∨(0≤t.Al∧t.Al≤(l.length+11)/12):=by
 unfold Cs at e
 obtain ⟨ks,s1,h1,b⟩:=A5 e
 have c:=EO h1
 rcases I1 b with a|⟨a,d⟩
 ·exact .inl a
 refine .inr ⟨a,?_⟩
 have:many (⟨true,l,[]⟩:Nd)=l.length:=by simp[many]
 omega
theorem JQ(c: ∀p s n s',rd p s= .ok n s'→many n≤12){a b:BK}{s:σ}{t:BK}{s':σ}(e:FG rd wt a b s= .ok t s')(L U:Int)(o:L≤ -1)(q: -1≤U)(g:L≤a.Al)(i:a.Al≤U)(j:L≤b.Al)(b2:b.Al≤U):
 L≤t.Al∧t.Al≤U+2:=by
 unfold FG at e
 split at e
 ·cases e;omega
 split at e
 ·cases e;omega
 obtain ⟨r,s1,h1,d⟩:=A5 e
 have k:=Mg _ _ _ _ _ _ h1
 have l:=Kl c _ _ _ _ _ _ h1
 rcases I1 d with f|⟨f,m⟩
 ·omega
 omega
theorem Fc(d: ∀p s n s',rd p s= .ok n s'→may n=true): ∀(f:Nat)(x:BK)(n:Int)(s:σ)(p:BK×BK)(s':σ),Bq rd wt f x n s= .ok p s'→ ∀(L U:Int),L≤ -1→0≤U→L≤x.Al-f→x.Al≤U→
 (L≤p.1.Al∧p.1.Al≤U+14*(f+1))∧(L≤p.2.Al∧p.2.Al≤U+14*(f+1))
 | f, x, n, s, p, s', e, L, U, l, w, h1, H => by
  have j:C0.Al= -1:=rfl
  have c: ∀p s n s',rd p s= .ok n s'→many n≤12:=fun p s n s' h=>(Hy (d p s n s' h)).1
  unfold Bq at e
  by_cases c1:n≤0
  ·rw[if_pos c1] at e
   cases e
   simp only[j]
   omega
  rw[if_neg c1] at e
  by_cases c2:x.ER.bytes≤n
  ·rw[if_pos c2] at e
   cases e
   simp only[j]
   omega
  rw[if_neg c2] at e
  cases f with
  |zero=>cases e
  | succ f =>
   simp only at e
   obtain ⟨y,s1,o,e⟩:=A5 e
   have hy:=Cn (d _ _ _ _ o)
   by_cases hl:y.leaf=true
   ·rw[if_pos hl] at e
    cases hp:F8 y.Ag n 0 with
    |none=>rw[hp] at e;cases e
    | some k =>
     rw[hp] at e
     simp only at e
     obtain ⟨a,s2,g,e⟩:=A5 e
     obtain ⟨b,s3,i,e⟩:=A5 e
     cases e
     have ha:=Gr g
     have hb:=Gr i
     rw[List.length_take] at ha
     rw[List.length_drop] at hb
     simp only
     omega
   rw[if_neg hl] at e
   cases hp:Jh y.kids n 0 with
   |none=>rw[hp] at e;cases e
   | some G =>
    obtain ⟨k,r⟩:=G
    rw[hp] at e
    simp only at e
    by_cases hr:r=0
    ·rw[if_pos hr] at e
     obtain ⟨a,s2,g,e⟩:=A5 e
     obtain ⟨b,s3,i,e⟩:=A5 e
     cases e
     have ha:=Er g
     have hb:=Er i
     rw[List.length_take] at ha
     rw[List.length_drop] at hb
     simp only
     omega
    rw[if_neg hr] at e
    cases m:y.kids[k]? with
    |none=>rw[m] at e;cases e
    | some z =>
     rw[m] at e
     simp only at e
     obtain ⟨q,s2,g,e⟩:=A5 e
     obtain ⟨a,s3,i,e⟩:=A5 e
     obtain ⟨a',s4,t,e⟩:=A5 e
     obtain ⟨b,s5,u,e⟩:=A5 e
     obtain ⟨b',s6,v,e⟩:=A5 e
     cases e
     have hq:=Fc d f ⟨z,x.Al-1⟩ r s1 q s2 g L U l w (by simp only;omega) (by simp only;omega)
     have ha:=Er i
     have hb:=Er u
     rw[List.length_take] at ha
     rw[List.length_drop] at hb
     have B:=JQ c t L (U+14*(f+1)) l (by omega) (by omega) (by omega) (by omega) (by omega)
     have D:=JQ c v L (U+14*(f+1)) l (by omega) (by omega) (by omega) (by omega) (by omega)
     simp only
     omega
end
end Go.Proofs.YtfhbmblbidcmmaaGreat
namespace Go.Proofs.YtfhbmblbidcmmaaGreat
open Go.RowKit Go.Sl
theorem jP{b T:Nat}{a c d e f v0 v1 v2 v3 v4:Value}{F:Ab}{w:World}(hs:Sat (Sl.block b T [a,c,d,e,f]*F) w):
 Sat (Sl.block b T [v0,v1,v2,v3,v4]*F) (((((w.setCell ⟨b,0,none⟩ v0).setCell ⟨b,1,none⟩ v1).setCell ⟨b,2,none⟩ v2).setCell ⟨b,3,none⟩ v3).setCell ⟨b,4,none⟩ v4):=by
 haveI:=hs.i
 exact Ap (by rfl)
theorem jO{b T:Nat}{a c d e v0 v1 v2 v3:Value}{F:Ab}{w:World}(hs:Sat (Sl.block b T [a,c,d,e]*F) w):
 Sat (Sl.block b T [v0,v1,v2,v3]*F) ((((w.setCell ⟨b,0,none⟩ v0).setCell ⟨b,1,none⟩ v1).setCell ⟨b,2,none⟩ v2).setCell ⟨b,3,none⟩ v3):=by
 haveI:=hs.i
 exact Ap (by rfl)
class Kv (A:Ab) (b:Nat) (T:outParam Nat) (l:outParam (List Value)) (R:outParam Ab):Prop where
 out:A=Sl.block b T l*R
instance(priority:=1200) takeB_here {b T:Nat} {l:List Value} {R:Ab} :Kv (Sl.block b T l*R) b T l R:=⟨rfl⟩
instance(priority:=1100) takeB_self {b T:Nat} {l:List Value} :Kv (Sl.block b T l) b T l 1:=⟨by rw[F9,Ay]⟩
instance(priority:=1000) takeB_right {A B R:Ab} {b T:Nat} {l:List Value} [h:Kv B b T l R]:Kv (A*B) b T l (A*R):=⟨by rw[h.out];ac_rfl⟩
instance(priority:=900) takeB_left {A B R:Ab} {b T:Nat} {l:List Value} [h:Kv A b T l R]:Kv (A*B) b T l (R*B):=⟨by rw[h.out];ac_rfl⟩
instance(priority:=30000) store5I {A R:Ab} {b T:Nat} {a0 a1 a2 a3 a4 v0 v1 v2 v3 v4:Value} {w:World} [h:AR A w] [t:Kv A b T [a0,a1,a2,a3,a4] R]:
 AR (Sl.block b T [v0,v1,v2,v3,v4]*R) (((((w.setCell ⟨b,0,none⟩ v0).setCell ⟨b,1,none⟩ v1).setCell ⟨b,2,none⟩ v2).setCell ⟨b,3,none⟩ v3).setCell ⟨b,4,none⟩ v4):=⟨jP (h.out.eq t.out)⟩
instance(priority:=29000) store4I {A R:Ab} {b T:Nat} {a0 a1 a2 a3 v0 v1 v2 v3:Value} {w:World} [h:AR A w] [t:Kv A b T [a0,a1,a2,a3] R]:
 AR (Sl.block b T [v0,v1,v2,v3]*R) ((((w.setCell ⟨b,0,none⟩ v0).setCell ⟨b,1,none⟩ v1).setCell ⟨b,2,none⟩ v2).setCell ⟨b,3,none⟩ v3):=⟨jO (h.out.eq t.out)⟩
theorem jN{b T:Nat}{a v:Value}{F:Ab}{w:World}(hs:Sat (Sl.block b T [a]*F) w):Sat (Sl.block b T [v]*F) (w.setCell ⟨b,0,none⟩ v):=by
 haveI:=hs.i
 exact Ap (by rfl)
instance(priority:=25000) store1I {A R:Ab} {b T:Nat} {a v:Value} {w:World} [h:AR A w] [t:Kv A b T [a] R]:AR (Sl.block b T [v]*R) (w.setCell ⟨b,0,none⟩ v):=⟨jN (h.out.eq t.out)⟩
theorem n9{A R R' a b c d e f:Ab}{w:World}[h:AR A w](X Y Z V U T P Q:Ab)[t:Take A X R][t':Take R Y R'][t'':Take R' Z a][t3:Take a V b][t4:Take b U c][t5:Take c T d][t6:Take d P e][t7:Take e Q f]:Sat (X*(Y*(Z*(V*(U*(T*(P*Q))))))) w:=Sat.Dx (B:=f) ((h.out.K6 X Y Z).eq (by rw[t3.out,t4.out,t5.out,t6.out,t7.out];ac_rfl))
theorem Nn{A R R' a b c d e f g:Ab}{w:World}[h:AR A w](X Y Z V U T P Q S:Ab)[t:Take A X R][t':Take R Y R'][t'':Take R' Z a][t3:Take a V b][t4:Take b U c][t5:Take c T d][t6:Take d P e][t7:Take e Q f][t8:Take f S g]:Sat (X*(Y*(Z*(V*(U*(T*(P*(Q*S)))))))) w:=Sat.Dx (B:=g) ((h.out.K6 X Y Z).eq (by rw[t3.out,t4.out,t5.out,t6.out,t7.out,t8.out];ac_rfl))
theorem gO{A R R' a b c d e:Ab}{w:World}[h:AR A w](X Y Z V U T P:Ab)[t:Take A X R][t':Take R Y R'][t'':Take R' Z a][t3:Take a V b][t4:Take b U c][t5:Take c T d][t6:Take d P e]:Sat (X*(Y*(Z*(V*(U*(T*P)))))) w:=Sat.Dx (B:=e) ((h.out.K6 X Y Z).eq (by rw[t3.out,t4.out,t5.out,t6.out];ac_rfl))
open Go.Dk Go.Tr
def Qq(p:BK×BK)(v:Value)(B:Ab):Prop:=v= .tuple #[Bi p.1,Bi p.2]∧B=1
theorem Py(f:Nat)(h:Th)(s:TS)(x:BK)(n:Int)(F:Ab)(w:World)(hs:Sat (Ad h s*F) w)(h1:n≤0):
 Calls Tryz.prog 98 #[.pointer (some ⟨h.t,0,none⟩),Bi x,.int .i64 n] w (Et h F (Bq Ak An f x n s) Qq):=by
 have c:Bq Ak An f x n s= .ok (C0,x) s:=by unfold Bq;rw[if_pos h1];rfl
 rw[c]
 clear c
 obtain ⟨⟨g,j,k,l⟩,m⟩:=x
 have a:=LH
 unfold Bi C0 kC at a
 unfold Bi
 simp only at a
 haveI:=hs.i
 go_enter Tryz.func98,Tryz.ntmps98
 go_upto_region 2 with (fail)
 obtain ⟨N,o⟩:=Aq w.heap.size
 have b:Sat (Ad h s*(Sl.block (N+2) DF [.int .i64 0,.int .i64 0,.int .i64 0,.int .i64 0,.int .i64 0]*(Sl.block (N+1) DF [.int .i64 0,.int .i64 0,.int .i64 0,.int .i64 0,.int .i64 0]*(Sl.block N DF [.int .i64 g,.int .i64 j,.int .i64 k,.int .i64 l,.int .i64 m]*F)))) (((w.alloc (.cells #[.int .i64 g,.int .i64 j,.int .i64 k,.int .i64 l,.int .i64 m] DF)).alloc (.cells #[.int .i64 0,.int .i64 0,.int .i64 0,.int .i64 0,.int .i64 0] DF)).alloc (.cells #[.int .i64 0,.int .i64 0,.int .i64 0,.int .i64 0,.int .i64 0] DF)):=by
  rw[←o]
  exact Ap (by ac_rfl)
 rw[o]
 generalize ((w.alloc (.cells #[.int .i64 g,.int .i64 j,.int .i64 k,.int .i64 l,.int .i64 m] DF)).alloc (.cells #[.int .i64 0,.int .i64 0,.int .i64 0,.int .i64 0,.int .i64 0] DF)).alloc (.cells #[.int .i64 0,.int .i64 0,.int .i64 0,.int .i64 0,.int .i64 0] DF)=w0 at b⊢
 have d:Sat (Ad h s*(Sl.block (N+1+1) DF [.int .i64 0,.int .i64 0,.int .i64 0,.int .i64 0,.int .i64 0]*(Sl.block (N+1) DF [.int .i64 0,.int .i64 0,.int .i64 0,.int .i64 0,.int .i64 0]*(Sl.block N DF [.int .i64 g,.int .i64 j,.int .i64 k,.int .i64 l,.int .i64 m]*F)))) w0:=b
 clear o hs this b
 have b:=d
 clear d
 haveI:=b.i
 go_region_law (first
  |(
   go_simp
   go_at_call 143
   with_reducible refine Calls.mono (a _ _ b) ?_
   rintro e p ⟨rfl,d⟩
   haveI:=d.i))
 all_goals
  go_wp2
  go_returns
  exact ⟨_,1,rfl,⟨rfl,rfl⟩,by rw[Ay];exact Ar _ _⟩
theorem Nx(f:Nat)(h:Th)(s:TS)(x:BK)(n:Int)(F:Ab)(w:World)(hs:Sat (Ad h s*F) w)(h1: ¬n≤0)(p:x.ER.bytes≤n):
 Calls Tryz.prog 98 #[.pointer (some ⟨h.t,0,none⟩),Bi x,.int .i64 n] w (Et h F (Bq Ak An f x n s) Qq):=by
 have c:Bq Ak An f x n s= .ok (x,C0) s:=by unfold Bq;rw[if_neg h1,if_pos p];rfl
 rw[c]
 clear c
 obtain ⟨⟨g,j,k,l⟩,m⟩:=x
 simp only at p
 have a:=LH
 unfold Bi C0 kC at a
 unfold Bi
 simp only at a
 haveI:=hs.i
 go_enter Tryz.func98,Tryz.ntmps98
 go_upto_region 4 with (fail)
 obtain ⟨N,o⟩:=Aq w.heap.size
 have b:Sat (Ad h s*(Sl.block (N+2) DF [.int .i64 0,.int .i64 0,.int .i64 0,.int .i64 0,.int .i64 0]*(Sl.block (N+1) DF [.int .i64 0,.int .i64 0,.int .i64 0,.int .i64 0,.int .i64 0]*(Sl.block N DF [.int .i64 g,.int .i64 j,.int .i64 k,.int .i64 l,.int .i64 m]*F)))) (((w.alloc (.cells #[.int .i64 g,.int .i64 j,.int .i64 k,.int .i64 l,.int .i64 m] DF)).alloc (.cells #[.int .i64 0,.int .i64 0,.int .i64 0,.int .i64 0,.int .i64 0] DF)).alloc (.cells #[.int .i64 0,.int .i64 0,.int .i64 0,.int .i64 0,.int .i64 0] DF)):=by
  rw[←o]
  exact Ap (by ac_rfl)
 rw[o]
 generalize ((w.alloc (.cells #[.int .i64 g,.int .i64 j,.int .i64 k,.int .i64 l,.int .i64 m] DF)).alloc (.cells #[.int .i64 0,.int .i64 0,.int .i64 0,.int .i64 0,.int .i64 0] DF)).alloc (.cells #[.int .i64 0,.int .i64 0,.int .i64 0,.int .i64 0,.int .i64 0] DF)=w0 at b⊢
 have d:Sat (Ad h s*(Sl.block (N+1+1) DF [.int .i64 0,.int .i64 0,.int .i64 0,.int .i64 0,.int .i64 0]*(Sl.block (N+1) DF [.int .i64 0,.int .i64 0,.int .i64 0,.int .i64 0,.int .i64 0]*(Sl.block N DF [.int .i64 g,.int .i64 j,.int .i64 k,.int .i64 l,.int .i64 m]*F)))) w0:=b
 clear o hs this b
 have b:=d
 clear d
 haveI:=b.i
 go_region_law (first
  |(
   go_simp
   go_at_call 143
   with_reducible refine Calls.mono (a _ _ b) ?_
   rintro e q ⟨rfl,d⟩
   haveI:=d.i))
 all_goals
  go_wp2
  go_returns
  exact ⟨_,1,rfl,⟨rfl,rfl⟩,by rw[Ay];exact Ar _ _⟩
