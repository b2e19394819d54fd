/- treeShape holds for every input. No condition. (part 29) -/
import Derived.Test.YtfhbmblbidcmmaaGreatSk28
set_option linter.all false
set_option maxRecDepth 100000
set_option maxHeartbeats 6400000
namespace Go.Proofs.YtfhbmblbidcmmaaGreat
open Go.RowKit Go.Sl Go.Dk Go.Tr
theorem UZ{α:Type}{l:List α}{z:α}(h:l.getLast?=some z): ∃i,l=i++ [z]:=by
 refine ⟨l.dropLast,?_⟩
 have a:l≠ []:=by rintro rfl;cases h
 rw[List.getLast?_eq_some_getLast a] at h
 cases h
 exact (List.dropLast_concat_getLast a).symm
theorem ZK{x:Nd}(hl:x.leaf=false)(i j:Nat)(ks:List Kd):Pure (both (C5 x i j) ⟨false,[],ks⟩):=by
 unfold Pure both C5 many
 rw[hl]
 simp
theorem XX{x:Nd}(hl:x.leaf=false)(i j:Nat)(ks:List Kd):Pure (both ⟨false,[],ks⟩ (C5 x i j)):=by
 unfold Pure both C5 many
 rw[hl]
 simp
theorem Hc{x:Nd}(hl:x.leaf=false)(i j:Nat):(C5 x i j).Ag.length=0∧(C5 x i j).kids.length≤x.kids.length∧many (C5 x i j)≤x.kids.length:=by
 unfold C5 many
 rw[hl]
 simp[sub]
 omega
theorem aC(f : Nat)(IH : Y3 f)(h : Th)(s : TS)(a b : BG)(F : Ac)(w : World)(hs : Sat (Ae h s * F) w)(a0 : b.Am < a.Am)(a6 : -1 ≤ b.Am)(aq : a.Am ≤ 1000)(hb : Ct Ai Ak (f + 1) a b s ≠ .bad) :
 Calls Tryz.prog 145 #[.pointer (some ⟨h.t,0,none⟩),Bd a,Bd b] w (DE h F (Ct Ai Ak (f+1) a b s) Wc):=by
 obtain ⟨⟨H,a2,a3,a4⟩,k⟩:=a
 obtain ⟨⟨V,b2,W,X⟩,Y⟩:=b
 simp only at a0 a6 aq
 obtain ⟨R,J⟩:=Aq (Ct Ai Ak (f+1) ⟨⟨H,a2,a3,a4⟩,k⟩ ⟨⟨V,b2,W,X⟩,Y⟩ s)
 rw[J] at hb⊢
 have HB:Aside (R≠ .bad):=hb
 unfold Ct at J
 simp only[a0,if_true] at J
 have Q:=AX J hb
 have c1:=fun F w q=>Cw h s H F w q Q
 have HR:Aside (∀x s1,Ai H s= .ok x s1→ ∃i z,x.kids=i++ [z]∧x.leaf=false∧M.bind (Ct Ai Ak f ⟨z,k-1⟩ ⟨⟨V,b2,W,X⟩,Y⟩) (fun r=>M.bind (Bv Ak (both (C5 x 0 i.length) ⟨false,[],r.1⟩)) fun out=>M.pure (out,k)) s1=R):=fun x s1 hm=>by
  have L:=AW J hm
  cases hz:x.kids.getLast? with
  |none=>simp only[hz] at L;exact absurd L.symm hb
  | some z =>
    obtain ⟨i,hi⟩:=UZ hz
    simp only[hz] at L
    by_cases d:x.leaf=true
    · rw[if_pos d] at L;exact absurd L.symm hb
    rw[if_neg d] at L
    refine ⟨i,z,hi,by simpa using d,?_⟩
    have e:i.length=x.kids.length-1:=by rw[hi];simp
    rw[e]
    exact L
 have HU:Aside ((∀T s1,Ai H s= .fault T s1→R= .fault T s1)∧Ai H s≠ .bad):=⟨fun T s1 hm=>Bn J hm,Q⟩
 unfold Bd
 haveI:=hs.i
 clear hb J Q
 go_enter Tryz.func145,Tryz.ntmps145
 go_wp2_with fail
 with_reducible refine Calls.mono (c1 _ _ (Af (Ae h s))) ?_
 rintro e w1 h1
 obtain ⟨r1,p⟩: ∃r,r=Ai H s:=⟨_,rfl⟩
 rw[←p] at h1
 rcases r1 with ⟨x,s1⟩|⟨T,s1⟩|_
 rotate_left
 · obtain ⟨rfl,q1⟩:=h1
   haveI:=q1.i
   have o:=HU.out.1 _ _ p.symm
   subst o
   exact ⟨rfl,rfl,Ap _ _⟩
 · exact absurd p.symm HU.out.2
 obtain ⟨v1,B,rfl,⟨hx,mx⟩,q1⟩:=h1
 obtain ⟨i,z,hk,d,K⟩:=HR.out _ _ p.symm
 obtain ⟨vE,vK,rfl,hE,hK⟩:=id hx
 obtain ⟨aE,cE,rfl,an,bq⟩:=hE.v
 obtain ⟨aK,cK,rfl,br,bs⟩:=hK.v
 obtain ⟨n,hn⟩:=Aq i.length
 have O:x.kids.length=n+1:=by rw[hk];simp[hn]
 have bp:=(Cs mx).2
 obtain ⟨kb,ko,rfl,k1,k2,k3,k4⟩:=Co hK (i:=n) (x:=z) (by rw[hk,←hn];simp)
 rw[hn] at K
 rw[d,O] at hx⊢
 have y:Aside (AG B (.agg #[.bool false,.slice aE x.Ag.length cE,.slice (some ⟨kb,ko,none⟩) (n+1) cK]) x∧x.leaf=false∧x.kids.length=n+1):=⟨hx,d,O⟩
 obtain ⟨ne,a9⟩:=Aq x.Ag.length
 rw[a9] at y an⊢
 obtain ⟨z1,z2,z3,z4⟩:=z
 have m:Aside (M.bind (Ct Ai Ak f ⟨⟨z1,z2,z3,z4⟩,k-1⟩ ⟨⟨V,b2,W,X⟩,Y⟩) (fun r=>M.bind (Bv Ak (both (C5 x 0 n) ⟨false,[],r.1⟩)) fun out=>M.pure (out,k)) s1=R):=K
 have c2:=fun F w q=>IH h s1 ⟨⟨z1,z2,z3,z4⟩,k-1⟩ ⟨⟨V,b2,W,X⟩,Y⟩ F w q (by simp only;omega) (by simp only;omega) a6 (by simp only;omega) (AX m.out HB.out)
 unfold Bd at c2
 simp only at c2 k1 k2 k3 k4
 have hcut:=fun F w q=>OR x 0 n _ B F w y.out.1 q (by omega) (by rw[y.out.2.1,y.out.2.2];simp)
 have U:Aside (∀F w,Sat (B*F) w→Calls Tryz.prog 166 #[.agg #[.bool false,.slice aE ne cE,.slice (some ⟨kb,ko,none⟩) (n+1) cK],.int .i64 0,.int .i64 n] w fun e w'=> ∃v',e= .returned v'∧AG B v' (C5 x 0 n)∧Sat (B*F) w'):=hcut
 have HM:Aside (n≤11):=(by omega:n≤11)
 have bi:(n:Int)≤11:=by omega
 have bu:(n:Int)<(n:Int)+1:=by omega
 have bv:=Bc (k-1) (by omega)
 haveI:=q1.i
 clear hx hE hK hk hn O K hcut a9 d mx p HR HU c1
 go_upto_region 4 with (fail)
 go_cut [10,11] (fun az b0 wx=> ∃(c:List Kd)(rh:Int)(s2:TS)(G:Ac)(I:Option Addr)(c5:Nat),az= .slice I c.length c5∧b0= .int .i64 rh∧Aside (M.bind (Bv Ak (both (C5 x 0 n) ⟨false,[],c⟩)) (fun out=>M.pure (out,k)) s2=R)∧Aside (AR G (.slice I c.length c5) c∧c.length≤2)∧
  Sat (Ae h s2*(G*(B*(Sl.block w1.heap.size C0 [.bool false,.slice aE ne cE,.slice (some ⟨kb,ko,none⟩) (n+1) cK]*(Sl.block w.heap.size D5 [.int .i64 H,.int .i64 a2,.int .i64 a3,.int .i64 a4,.int .i64 k]*F))))) wx)
 case first =>
  go_region_law (first
   |(
      go_simp
      go_at_call 145
      with_reducible refine Calls.mono (c2 _ _ (Af (Ae h s1))) ?_
      rintro e w2 h2
      obtain ⟨r2,j⟩: ∃r,r=Ct Ai Ak f ⟨⟨z1,z2,z3,z4⟩,k-1⟩ ⟨⟨V,b2,W,X⟩,Y⟩ s1:=⟨_,rfl⟩
      rw[←j] at h2
      rcases r2 with ⟨rr,s2⟩|⟨T,s2⟩|_
      rotate_left
      · obtain ⟨rfl,q2⟩:=h2
        haveI:=q2.i
        have o:=Bn m.out j.symm
        subst o
        exact ⟨rfl,rfl,Ap _ _⟩
      · exact absurd (Ch m.out j.symm) HB.out
      obtain ⟨v2,G,rfl,⟨vk,rfl,D⟩,q2⟩:=h2
      have a7:=AW m.out j.symm
      have P:=Mn j.symm
      obtain ⟨c,rh⟩:=rr
      simp only at D P
      have g:Aside (M.bind (Bv Ak (both (C5 x 0 n) ⟨false,[],c⟩)) (fun out=>M.pure (out,k)) s2=R):=a7
      obtain ⟨I,c5,rfl,bt,_⟩:=Al.v D
      haveI:=q2.i
      have l:Aside (AR G (.slice I c.length c5) c∧c.length≤2):=⟨D,P⟩
      clear D a7 j P))
  all_goals
   go_wp2
   go_meet
   exact ⟨c,rh,s2,G,I,c5,rfl,rfl,g,l,Fx _ _ _ _ _ _⟩
 obtain ⟨c,rh,s2,G,I,c5,rfl,rfl,g,l,q9⟩:=hcut
 haveI:=q9.i
 have aj:Aside (many (both (C5 x 0 n) ⟨false,[],c⟩)≤65536):=by
  have h1:=(Hc y.out.2.1 0 n).2.2
  have h2:=y.out.2.2
  have h3:=HM.out
  have h4:=l.out.2
  have Z:many (⟨false,[],c⟩:Nd)=c.length:=by simp[many]
  show many _≤_
  rw[Fa,Z]
  omega
 clear q1 k1 k2 k3 k4 c2 m
 go_upto_region 5 with (fail)
 go_region_law (first
  |(
     go_simp
     go_at_call 166
     with_reducible refine Calls.mono (U.out _ _ (Af B)) ?_
     rintro e w3 ⟨v3,rfl,aa,q3⟩
     haveI:=q3.i
     have c4:=fun F w q=>Nw (C5 x 0 n) ⟨false,[],c⟩ v3 (.agg #[.bool false,.slice none 0 0,.slice I c.length c5]) (B*G) F w (AG.left aa) (AG.right (Js l.out.1)) q (by have:=Hc y.out.2.1 0 n;omega) (by simp) (by have:=Hc y.out.2.1 0 n;have:=y.out.2.2;have:=HM.out;omega) (by show c.length≤65536;have:=l.out.2;omega)
     clear aa)
  |(
     go_simp
     go_at_call 169
     with_reducible refine Calls.mono (c4 _ _ (T' B G)) ?_
     rintro e w4 ⟨v4,G4,rfl,ab,q4⟩
     haveI:=q4.i
     have al:=fun F w q=>Gh h s2 (both (C5 x 0 n) ⟨false,[],c⟩) v4 G4 F w ab q (ZK y.out.2.1 0 n c) aj.out (AX g.out HB.out)
     clear ab)
  |(
     go_simp
     go_at_call 137
     with_reducible refine Calls.mono (al _ _ (AP (Ae h s2) G4)) ?_
     rintro e w5 Z
     obtain ⟨r5,u⟩: ∃r,r=Bv Ak (both (C5 x 0 n) ⟨false,[],c⟩) s2:=⟨_,rfl⟩
     rw[←u] at Z
     rcases r5 with ⟨out,s5⟩|⟨T,s5⟩|_
     rotate_left
     · obtain ⟨rfl,q5⟩:=Z
       haveI:=q5.i
       have o:=Bn g.out u.symm
       subst o
       exact ⟨rfl,rfl,Ap _ _⟩
     · exact absurd (Ch g.out u.symm) HB.out
     obtain ⟨v5,G5,rfl,ac,q5⟩:=Z
     have au:AR G5 v5 out:=ac
     haveI:=q5.i
     have a8:=AW g.out u.symm
     have ap:R= .ok (out,k) s5:=a8.symm
     clear ac u a8))
 all_goals
  subst ap
  go_wp2
  go_ret2
  exact ⟨_,G5,rfl,⟨v5,rfl,au⟩,AD _ _ _⟩
theorem aD(f : Nat)(IH : Y3 f)(h : Th)(s : TS)(a b : BG)(F : Ac)(w : World)(hs : Sat (Ae h s * F) w)(a6 : a.Am < b.Am)(a8 : -1 ≤ a.Am)(ar : b.Am ≤ 1000)(hb : Ct Ai Ak (f + 1) a b s ≠ .bad) :
 Calls Tryz.prog 145 #[.pointer (some ⟨h.t,0,none⟩),Bd a,Bd b] w (DE h F (Ct Ai Ak (f+1) a b s) Wc):=by
 obtain ⟨⟨W,X,Y,Z⟩,T⟩:=a
 obtain ⟨⟨J,b2,b3,b4⟩,j⟩:=b
 simp only at a6 a8 ar
 obtain ⟨R,K⟩:=Aq (Ct Ai Ak (f+1) ⟨⟨W,X,Y,Z⟩,T⟩ ⟨⟨J,b2,b3,b4⟩,j⟩ s)
 rw[K] at hb⊢
 have HB:Aside (R≠ .bad):=hb
 unfold Ct at K
 have a7: ¬j<T:=by omega
 simp only[a6,a7,if_true,if_false] at K
 have Q:=AX K hb
 have c1:=fun F w q=>Cw h s J F w q Q
 have HR:Aside (∀x s1,Ai J s= .ok x s1→ ∃i z,x.kids=z::i∧x.leaf=false∧M.bind (Ct Ai Ak f ⟨⟨W,X,Y,Z⟩,T⟩ ⟨z,j-1⟩) (fun r=>M.bind (Bv Ak (both ⟨false,[],r.1⟩ (C5 x 1 x.kids.length))) fun out=>M.pure (out,j)) s1=R):=fun x s1 hm=>by
  have O:=AW K hm
  cases hz:x.kids with
  |nil=>simp only[hz] at O;exact absurd O.symm hb
  | cons z i =>
    simp only[hz] at O
    by_cases d:x.leaf=true
    · rw[if_pos d] at O;exact absurd O.symm hb
    rw[if_neg d] at O
    exact ⟨i,z,rfl,by simpa using d,O⟩
 have HU:Aside ((∀U s1,Ai J s= .fault U s1→R= .fault U s1)∧Ai J s≠ .bad):=⟨fun U s1 hm=>Bn K hm,Q⟩
 unfold Bd
 haveI:=hs.i
 clear hb K Q
 go_enter Tryz.func145,Tryz.ntmps145
 go_wp2_with fail
 with_reducible refine Calls.mono (c1 _ _ (Af (Ae h s))) ?_
 rintro e w1 h1
 obtain ⟨r1,p⟩: ∃r,r=Ai J s:=⟨_,rfl⟩
 rw[←p] at h1
 rcases r1 with ⟨x,s1⟩|⟨U,s1⟩|_
 rotate_left
 · obtain ⟨rfl,q1⟩:=h1
   haveI:=q1.i
   have o:=HU.out.1 _ _ p.symm
   subst o
   exact ⟨rfl,rfl,Ap _ _⟩
 · exact absurd p.symm HU.out.2
 obtain ⟨v1,B,rfl,⟨hx,mx⟩,q1⟩:=h1
 obtain ⟨i,z,hk,d,L⟩:=HR.out _ _ p.symm
 obtain ⟨vE,vK,rfl,hE,hK⟩:=id hx
 obtain ⟨aE,cE,rfl,ao,br⟩:=hE.v
 obtain ⟨aK,cK,rfl,bs,bt⟩:=hK.v
 obtain ⟨n,hn⟩:=Aq i.length
 have G:x.kids.length=n+1:=by rw[hk];simp[hn]
 have bq:=(Cs mx).2
 obtain ⟨kb,ko,rfl,k1,k2,k3,k4⟩:=Co hK (i:=0) (x:=z) (by rw[hk];rfl)
 rw[G] at L
 rw[d,G] at hx⊢
 have y:Aside (AG B (.agg #[.bool false,.slice aE x.Ag.length cE,.slice (some ⟨kb,ko,none⟩) (n+1) cK]) x∧x.leaf=false∧x.kids.length=n+1):=⟨hx,d,G⟩
 obtain ⟨ne,ab⟩:=Aq x.Ag.length
 rw[ab] at y ao⊢
 obtain ⟨z1,z2,z3,z4⟩:=z
 have m:Aside (M.bind (Ct Ai Ak f ⟨⟨W,X,Y,Z⟩,T⟩ ⟨⟨z1,z2,z3,z4⟩,j-1⟩) (fun r=>M.bind (Bv Ak (both ⟨false,[],r.1⟩ (C5 x 1 (n+1)))) fun out=>M.pure (out,j)) s1=R):=L
 have c2:=fun F w q=>IH h s1 ⟨⟨W,X,Y,Z⟩,T⟩ ⟨⟨z1,z2,z3,z4⟩,j-1⟩ F w q a8 (by simp only;omega) (by simp only;omega) (by simp only;omega) (AX m.out HB.out)
 unfold Bd at c2
 simp only at c2 k1 k2 k3 k4
 have hcut:=fun F w q=>OR x 1 (n+1) _ B F w y.out.1 q (by omega) (by rw[y.out.2.1,y.out.2.2];simp)
 have V:Aside (∀F w,Sat (B*F) w→Calls Tryz.prog 166 #[.agg #[.bool false,.slice aE ne cE,.slice (some ⟨kb,ko,none⟩) (n+1) cK],.int .i64 1,.int .i64 ((n:Int)+1)] w fun e w'=> ∃v',e= .returned v'∧AG B v' (C5 x 1 (n+1))∧Sat (B*F) w'):=by rw[Int.natCast_add] at hcut;exact hcut
 have HM:Aside (n≤11):=(by omega:n≤11)
 have bg:(n:Int)≤11:=by omega
 have bv:(n:Int)<(n:Int)+1:=by omega
 have bw:=Bc (j-1) (by omega)
 haveI:=q1.i
 clear hx hE hK hk hn G L hcut ab d mx p HR HU c1
 go_upto_region 8 with (fail)
 go_cut [13,14] (fun az b0 wx=> ∃(c:List Kd)(rh:Int)(s2:TS)(H:Ac)(I:Option Addr)(c5:Nat),az= .slice I c.length c5∧b0= .int .i64 rh∧Aside (M.bind (Bv Ak (both ⟨false,[],c⟩ (C5 x 1 (n+1)))) (fun out=>M.pure (out,j)) s2=R)∧Aside (AR H (.slice I c.length c5) c∧c.length≤2)∧
  Sat (Ae h s2*(H*(B*(Sl.block w1.heap.size C0 [.bool false,.slice aE ne cE,.slice (some ⟨kb,ko,none⟩) (n+1) cK]*(Sl.block (w.heap.size+1) D5 [.int .i64 J,.int .i64 b2,.int .i64 b3,.int .i64 b4,.int .i64 j]*F))))) wx)
 case first =>
  go_region_law (first
   |(
      go_simp
      go_at_call 145
      with_reducible refine Calls.mono (c2 _ _ (Af (Ae h s1))) ?_
      rintro e w2 h2
      obtain ⟨r2,k⟩: ∃r,r=Ct Ai Ak f ⟨⟨W,X,Y,Z⟩,T⟩ ⟨⟨z1,z2,z3,z4⟩,j-1⟩ s1:=⟨_,rfl⟩
      rw[←k] at h2
      rcases r2 with ⟨rr,s2⟩|⟨U,s2⟩|_
      rotate_left
      · obtain ⟨rfl,q2⟩:=h2
        haveI:=q2.i
        have o:=Bn m.out k.symm
        subst o
        exact ⟨rfl,rfl,Ap _ _⟩
      · exact absurd (Ch m.out k.symm) HB.out
      obtain ⟨v2,H,rfl,⟨vk,rfl,D⟩,q2⟩:=h2
      have a9:=AW m.out k.symm
      have P:=Mn k.symm
      obtain ⟨c,rh⟩:=rr
      simp only at D P
      have g:Aside (M.bind (Bv Ak (both ⟨false,[],c⟩ (C5 x 1 (n+1)))) (fun out=>M.pure (out,j)) s2=R):=a9
      obtain ⟨I,c5,rfl,bu,_⟩:=Al.v D
      haveI:=q2.i
      have l:Aside (AR H (.slice I c.length c5) c∧c.length≤2):=⟨D,P⟩
      clear D a9 k P))
  all_goals
   go_wp2
   go_meet
   exact ⟨c,rh,s2,H,I,c5,rfl,rfl,g,l,Fx _ _ _ _ _ _⟩
 obtain ⟨c,rh,s2,H,I,c5,rfl,rfl,g,l,q9⟩:=hcut
 haveI:=q9.i
 have ak:Aside (many (both ⟨false,[],c⟩ (C5 x 1 (n+1)))≤65536):=by
  have h1:=(Hc y.out.2.1 1 (n+1)).2.2
  have h2:=y.out.2.2
  have h3:=HM.out
  have h4:=l.out.2
  have h5:many (⟨false,[],c⟩:Nd)=c.length:=by simp[many]
  show many _≤_
  rw[Fa,h5]
  omega
 clear q1 k1 k2 k3 k4 c2 m
 go_upto_region 9 with (fail)
 go_region_law (first
  |(
     go_simp
     go_at_call 166
     with_reducible refine Calls.mono (V.out _ _ (Af B)) ?_
     rintro e w3 ⟨v3,rfl,ac,q3⟩
     haveI:=q3.i
     have c4:=fun F w q=>Nw ⟨false,[],c⟩ (C5 x 1 (n+1)) (.agg #[.bool false,.slice none 0 0,.slice I c.length c5]) v3 (B*H) F w (AG.right (Js l.out.1)) (AG.left ac) q (by simp) (by have:=Hc y.out.2.1 1 (n+1);omega) (by show c.length≤65536;have:=l.out.2;omega) (by have:=Hc y.out.2.1 1 (n+1);have:=y.out.2.2;have:=HM.out;omega)
     clear ac)
  |(
     go_simp
     go_at_call 169
     with_reducible refine Calls.mono (c4 _ _ (T' B H)) ?_
     rintro e w4 ⟨v4,G4,rfl,ad,q4⟩
     haveI:=q4.i
     have am:=fun F w q=>Gh h s2 (both ⟨false,[],c⟩ (C5 x 1 (n+1))) v4 G4 F w ad q (XX y.out.2.1 1 (n+1) c) ak.out (AX g.out HB.out)
     clear ad)
  |(
     go_simp
     go_at_call 137
     with_reducible refine Calls.mono (am _ _ (AP (Ae h s2) G4)) ?_
     rintro e w5 h5
     obtain ⟨r5,u⟩: ∃r,r=Bv Ak (both ⟨false,[],c⟩ (C5 x 1 (n+1))) s2:=⟨_,rfl⟩
     rw[←u] at h5
     rcases r5 with ⟨out,s5⟩|⟨U,s5⟩|_
     rotate_left
     · obtain ⟨rfl,q5⟩:=h5
       haveI:=q5.i
       have o:=Bn g.out u.symm
       subst o
       exact ⟨rfl,rfl,Ap _ _⟩
     · exact absurd (Ch g.out u.symm) HB.out
     obtain ⟨v5,G5,rfl,ae,q5⟩:=h5
     have av:AR G5 v5 out:=ae
     haveI:=q5.i
     have aa:=AW g.out u.symm
     have aq:R= .ok (out,j) s5:=aa.symm
     clear ae u aa))
 all_goals
  subst aq
  go_wp2
  go_ret2
  exact ⟨_,G5,rfl,⟨v5,rfl,av⟩,AD _ _ _⟩
theorem Oq: ∀f:Nat,Y3 f
 |0=>fun h s a b F w hs _ _ _ _ hb=>absurd rfl hb
 | f + 1 => fun h s a b F w hs h1 d e g hb => by
  rcases Int.lt_trichotomy a.Am b.Am with c|c|c
  ·exact aD f (Oq f) h s a b F w hs c h1 g hb
  ·exact XJ f h s a b F w hs c hb
  exact aC f (Oq f) h s a b F w hs c e d hb
theorem LA{σ:Type}{rd:Int→M σ Nd}{wt:Nd→M σ Kd} : ∀(f:Nat)(a b:BG)(s:σ)(r:List Kd×Int)(s':σ),Ct rd wt f a b s= .ok r s'→r.2=a.Am∨r.2=b.Am
 |0,a,b,s,r,s',h=>by cases h
 | f + 1, a, b, s, r, s', h => by
  unfold Ct at h
  split at h
  ·obtain ⟨x,s1,h1,h⟩:=Ay h
   cases d:x.kids.getLast? with
   |none=>simp only[d] at h;cases h
   | some z =>
    simp only[d] at h
    by_cases c:x.leaf=true
    ·rw[if_pos c] at h;cases h
    rw[if_neg c] at h
    obtain ⟨q,s2,e,h⟩:=Ay h
    obtain ⟨o,s3,g,h⟩:=Ay h
    cases h
    exact .inl rfl
  split at h
  ·obtain ⟨x,s1,h1,h⟩:=Ay h
   cases d:x.kids with
   |nil=>simp only[d] at h;cases h
   | cons z zs =>
    simp only[d] at h
    by_cases c:x.leaf=true
    ·rw[if_pos c] at h;cases h
    rw[if_neg c] at h
    obtain ⟨q,s2,e,h⟩:=Ay h
    obtain ⟨o,s3,g,h⟩:=Ay h
    cases h
    exact .inr rfl
  obtain ⟨x,s1,h1,h⟩:=Ay h
  obtain ⟨y,s2,e,h⟩:=Ay h
  by_cases c:x.leaf=y.leaf
  ·rw[if_pos c] at h
   obtain ⟨o,s3,g,h⟩:=Ay h
   cases h
   exact .inl rfl
  rw[if_neg c] at h
  cases h
theorem Lw(h:Th)(s:TS)(a b:BG)(F:Ac)(w:World)(hs:Sat (Ae h s*F) w)(ha: -1000≤a.Am)(p:a.Am≤1000)(hb: -1000≤b.Am)(u:b.Am≤1000)(l:E4 Ai Ak a b s≠ .bad):
 Calls Tryz.prog 99 #[.pointer (some ⟨h.t,0,none⟩),Bd a,Bd b] w (DE h F (E4 Ai Ak a b s) P9):=by
 obtain ⟨R,f⟩:=Aq (E4 Ai Ak a b s)
 rw[f] at l⊢
 have o:Aside (R≠ .bad):=l
 have c:=fun(p1: -1≤a.Am)(p2: -1≤b.Am) F w q n=>Oq (Kj a b) h s a b F w q p1 p p2 u n
 unfold E4 at f
 have HA:Aside (Kj a b=Kj a b):=rfl
 obtain ⟨d,hd⟩:=Aq (Kj a b)
 rw[hd] at c f
 have D:Aside (∀r s',Ct Ai Ak d a b s= .ok r s'→r.1.length≤65536∧ -1000≤r.2∧r.2≤1000):=fun r s' h=>by
  have h1:=Mn h
  rcases LA d a b s r s' h with j|j<;>exact ⟨by omega,by omega,by omega⟩
 obtain ⟨m,hm⟩:=Aq (Ct Ai Ak d a b s)
 obtain ⟨⟨Q,T,U,V⟩,I⟩:=a
 obtain ⟨⟨W,b2,X,Y⟩,J⟩:=b
 simp only at f ha p hb u
 unfold Bd at c⊢
 simp only at c
 haveI:=hs.i
 clear l hd HA
 by_cases h1:I<0
 · rw[if_pos h1] at f
   have g:R= .ok ⟨⟨W,b2,X,Y⟩,J⟩ s:=f.symm
   subst g
   clear f c D o hm
   go_enter Tryz.func99,Tryz.ntmps99
   go_wp2
   go_returns
   exact ⟨_,1,rfl,⟨rfl,rfl⟩,by rw[Aw];exact Ap _ _⟩
 rw[if_neg h1] at f
 by_cases j:J<0
 · rw[if_pos j] at f
   have g:R= .ok ⟨⟨Q,T,U,V⟩,I⟩ s:=f.symm
   subst g
   clear f c D o hm
   go_enter Tryz.func99,Tryz.ntmps99
   go_wp2
   go_returns
   exact ⟨_,1,rfl,⟨rfl,rfl⟩,by rw[Aw];exact Ap _ _⟩
 rw[if_neg j] at f
 have H:Aside (M.bind (Ct Ai Ak d ⟨⟨Q,T,U,V⟩,I⟩ ⟨⟨W,b2,X,Y⟩,J⟩) (fun r=>grown Ak r.1 r.2) s=R):=f
 have L:=AX H.out o.out
 replace c:=c (by omega) (by omega)
 rw[hm] at c L
 have G:Aside (Ct Ai Ak d ⟨⟨Q,T,U,V⟩,I⟩ ⟨⟨W,b2,X,Y⟩,J⟩ s=m):=hm
 clear f hm
 go_enter Tryz.func99,Tryz.ntmps99
 go_wp2_with fail
 with_reducible refine Calls.mono (c _ _ (Af (Ae h s)) L) ?_
 rintro e w2 j
 cases m with
 |bad=>exact absurd rfl L
 | fault er s2 =>
   obtain ⟨rfl,z⟩:=j
   haveI:=z.i
   have g:=Bn H.out G.out
   subst g
   exact ⟨rfl,rfl,Ap _ _⟩
 | ok r s2 =>
   obtain ⟨v2,P,rfl,⟨vk,rfl,K⟩,z⟩:=j
   obtain ⟨r1,rh⟩:=r
   simp only at K
   obtain ⟨a5,c5,rfl,_,_⟩:=Al.v K
   have y:=AW H.out G.out
   have k:grown Ak r1 rh s2=R:=y
   obtain ⟨Z,g2,g3⟩:=D.out _ _ G.out
   have hg:=fun v B F w q1 z=>LO h s2 r1 rh v B F w q1 z Z (by simp only at g2;omega) (by simp only at g3;omega) (by rw[k];exact o.out)
   rw[k] at hg
   have HK:Aside (AR P (.slice a5 r1.length c5) r1):=K
   haveI:=z.i
   clear c K k y Z g2 g3 H G D L
   go_wp2_with fail
   with_reducible refine Calls.mono (hg _ P _ _ HK.out (AP (Ae h s2) P)) ?_
   rintro e w3 h3
   cases R with
   |bad=>exact absurd rfl o.out
   | fault er s3 =>
    obtain ⟨rfl,O⟩:=h3
    haveI:=O.i
    exact ⟨rfl,rfl,Ap _ _⟩
   | ok x s3 =>
    obtain ⟨v3,G3,rfl,⟨rfl,rfl⟩,O⟩:=h3
    rw[Aw] at O
    haveI:=O.i
    unfold Bd
    go_wp2
    go_returns
    exact ⟨_,1,rfl,⟨rfl,rfl⟩,by rw[Aw];exact Ap _ _⟩
section
variable {σ:Type} {rd:Int→M σ Nd} {wt:Nd→M σ Kd}
theorem Kg: ∀(f:Nat)(ks:List Kd)(h:Int)(s:σ)(t:BG)(s':σ),EH wt f ks h s= .ok t s'→t.Am= -1∨(h≤t.Am∧t.Am≤h+f)
 | f, [], h, s, t, s', e => by
  have:t=C4:=by cases f<;>(cases e;rfl)
  subst this
  exact .inl rfl
 | f, [k], h, s, t, s', e => by
  have:t=⟨k,h⟩:=by cases f<;>(cases e;rfl)
  subst this
  exact .inr ⟨by simp only;omega,by simp only;omega⟩
 |0,a::b::l,h,s,t,s',e=>by cases e
 | f + 1, a :: b :: l, h, s, t, s', e => by
  have e':M.bind (Bv wt ⟨false,[],a::b::l⟩) (fun ks=>EH wt f ks (h+1)) s= .ok t s':=e
  obtain ⟨ks,s1,h1,d⟩:=Ay e'
  rcases Kg f ks (h+1) s1 t s' d with c|⟨c,g⟩
  ·exact .inl c
  exact .inr ⟨by omega,by omega⟩
theorem Ic{ks:List Kd}{h:Int}{s:σ}{t:BG}{s':σ}(e:grown wt ks h s= .ok t s'):t.Am= -1∨(h≤t.Am∧t.Am≤h+ks.length):=Kg ks.length ks h s t s' e
theorem DZ{ks:List Kd}{h:Int}{s:σ}{t:BG}{s':σ}(e:CP wt ks h s= .ok t s'):t.Am= -1∨(h-1≤t.Am∧t.Am≤h-1+ks.length):=Ic e
theorem Gi{l:List Au}{s:σ}{t:BG}{s':σ}(e:BV wt l s= .ok t s'):t.Am= -1∨(0≤t.Am∧t.Am≤(l.length+11)/12):=by
 unfold BV at e
 obtain ⟨ks,s1,h1,b⟩:=Ay e
 have c:=E8 h1
 rcases Ic b with a|⟨a,d⟩
 ·exact .inl a
 refine .inr ⟨a,?_⟩
 have:many (⟨true,l,[]⟩:Nd)=l.length:=by simp[many]
 omega
theorem J7(c: ∀p s n s',rd p s= .ok n s'→many n≤12){a b:BG}{s:σ}{t:BG}{s':σ}(e:E4 rd wt a b s= .ok t s')(L U:Int)(o:L≤ -1)(q: -1≤U)(g:L≤a.Am)(i:a.Am≤U)(j:L≤b.Am)(b2:b.Am≤U):
 L≤t.Am∧t.Am≤U+2:=by
 unfold E4 at e
 split at e
 ·cases e;omega
 split at e
 ·cases e;omega
 obtain ⟨r,s1,h1,d⟩:=Ay e
 have k:=LA _ _ _ _ _ _ h1
 have l:=JP c _ _ _ _ _ _ h1
 rcases Ic d with f|⟨f,m⟩
 ·omega
 omega
theorem EJ(d: ∀p s n s',rd p s= .ok n s'→may n=true): ∀(f:Nat)(x:BG)(n:Int)(s:σ)(p:BG×BG)(s':σ),Bi rd wt f x n s= .ok p s'→ ∀(L U:Int),L≤ -1→0≤U→L≤x.Am-f→x.Am≤U→
 (L≤p.1.Am∧p.1.Am≤U+14*(f+1))∧(L≤p.2.Am∧p.2.Am≤U+14*(f+1))
 | f, x, n, s, p, s', e, L, U, l, w, h1, H => by
  have j:C4.Am= -1:=rfl
  have c: ∀p s n s',rd p s= .ok n s'→many n≤12:=fun p s n s' h=>(Hf (d p s n s' h)).1
  unfold Bi at e
  by_cases c1:n≤0
  ·rw[if_pos c1] at e
   cases e
   simp only[j]
   omega
  rw[if_neg c1] at e
  by_cases c2:x.DT.bytes≤n
  ·rw[if_pos c2] at e
   cases e
   simp only[j]
   omega
  rw[if_neg c2] at e
  cases f with
  |zero=>cases e
  | succ f =>
   simp only at e
   obtain ⟨y,s1,o,e⟩:=Ay e
   have hy:=Cs (d _ _ _ _ o)
   by_cases hl:y.leaf=true
   ·rw[if_pos hl] at e
    cases hp:EW y.Ag n 0 with
    |none=>rw[hp] at e;cases e
    | some k =>
     rw[hp] at e
     simp only at e
     obtain ⟨a,s2,g,e⟩:=Ay e
     obtain ⟨b,s3,i,e⟩:=Ay e
     cases e
     have ha:=Gi g
     have hb:=Gi i
     rw[List.length_take] at ha
     rw[List.length_drop] at hb
     simp only
     omega
   rw[if_neg hl] at e
   cases hp:Hj y.kids n 0 with
   |none=>rw[hp] at e;cases e
   | some G =>
    obtain ⟨k,r⟩:=G
    rw[hp] at e
    simp only at e
    by_cases hr:r=0
    ·rw[if_pos hr] at e
     obtain ⟨a,s2,g,e⟩:=Ay e
     obtain ⟨b,s3,i,e⟩:=Ay e
     cases e
     have ha:=DZ g
     have hb:=DZ i
     rw[List.length_take] at ha
     rw[List.length_drop] at hb
     simp only
     omega
    rw[if_neg hr] at e
    cases m:y.kids[k]? with
    |none=>rw[m] at e;cases e
    | some z =>
     rw[m] at e
     simp only at e
     obtain ⟨q,s2,g,e⟩:=Ay e
     obtain ⟨a,s3,i,e⟩:=Ay e
     obtain ⟨a',s4,t,e⟩:=Ay e
     obtain ⟨b,s5,u,e⟩:=Ay e
     obtain ⟨b',s6,v,e⟩:=Ay e
     cases e
     have hq:=EJ d f ⟨z,x.Am-1⟩ r s1 q s2 g L U l w (by simp only;omega) (by simp only;omega)
     have ha:=DZ i
     have hb:=DZ u
     rw[List.length_take] at ha
     rw[List.length_drop] at hb
     have B:=J7 c t L (U+14*(f+1)) l (by omega) (by omega) (by omega) (by omega) (by omega)
     have D:=J7 c v L (U+14*(f+1)) l (by omega) (by omega) (by omega) (by omega) (by omega)
     simp only
     omega
end
end Go.Proofs.YtfhbmblbidcmmaaGreat
namespace Go.Proofs.YtfhbmblbidcmmaaGreat
open Go.RowKit Go.Sl
theorem dX{b T:Nat}{a c d e f v0 v1 v2 v3 v4:Value}{F:Ac}{w:World}(hs:Sat (Sl.block b T [a,c,d,e,f]*F) w):
 Sat (Sl.block b T [v0,v1,v2,v3,v4]*F) (((((w.setCell ⟨b,0,none⟩ v0).setCell ⟨b,1,none⟩ v1).setCell ⟨b,2,none⟩ v2).setCell ⟨b,3,none⟩ v3).setCell ⟨b,4,none⟩ v4):=by
 haveI:=hs.i
 exact Av (by rfl)
theorem dW{b T:Nat}{a c d e v0 v1 v2 v3:Value}{F:Ac}{w:World}(hs:Sat (Sl.block b T [a,c,d,e]*F) w):
 Sat (Sl.block b T [v0,v1,v2,v3]*F) ((((w.setCell ⟨b,0,none⟩ v0).setCell ⟨b,1,none⟩ v1).setCell ⟨b,2,none⟩ v2).setCell ⟨b,3,none⟩ v3):=by
 haveI:=hs.i
 exact Av (by rfl)
class JY (A:Ac) (b:Nat) (T:outParam Nat) (l:outParam (List Value)) (R:outParam Ac):Prop where
 out:A=Sl.block b T l*R
instance(priority:=1200) takeB_here {b T:Nat} {l:List Value} {R:Ac} :JY (Sl.block b T l*R) b T l R:=⟨rfl⟩
instance(priority:=1100) takeB_self {b T:Nat} {l:List Value} :JY (Sl.block b T l) b T l 1:=⟨by rw[Fz,Aw]⟩
instance(priority:=1000) takeB_right {A B R:Ac} {b T:Nat} {l:List Value} [h:JY B b T l R]:JY (A*B) b T l (A*R):=⟨by rw[h.out];ac_rfl⟩
instance(priority:=900) takeB_left {A B R:Ac} {b T:Nat} {l:List Value} [h:JY A b T l R]:JY (A*B) b T l (R*B):=⟨by rw[h.out];ac_rfl⟩
instance(priority:=30000) store5I {A R:Ac} {b T:Nat} {a0 a1 a2 a3 a4 v0 v1 v2 v3 v4:Value} {w:World} [h:Bg A w] [t:JY A b T [a0,a1,a2,a3,a4] R]:
 Bg (Sl.block b T [v0,v1,v2,v3,v4]*R) (((((w.setCell ⟨b,0,none⟩ v0).setCell ⟨b,1,none⟩ v1).setCell ⟨b,2,none⟩ v2).setCell ⟨b,3,none⟩ v3).setCell ⟨b,4,none⟩ v4):=⟨dX (h.out.eq t.out)⟩
instance(priority:=29000) store4I {A R:Ac} {b T:Nat} {a0 a1 a2 a3 v0 v1 v2 v3:Value} {w:World} [h:Bg A w] [t:JY A b T [a0,a1,a2,a3] R]:
 Bg (Sl.block b T [v0,v1,v2,v3]*R) ((((w.setCell ⟨b,0,none⟩ v0).setCell ⟨b,1,none⟩ v1).setCell ⟨b,2,none⟩ v2).setCell ⟨b,3,none⟩ v3):=⟨dW (h.out.eq t.out)⟩
theorem dU{b T:Nat}{a v:Value}{F:Ac}{w:World}(hs:Sat (Sl.block b T [a]*F) w):Sat (Sl.block b T [v]*F) (w.setCell ⟨b,0,none⟩ v):=by
 haveI:=hs.i
 exact Av (by rfl)
instance(priority:=25000) store1I {A R:Ac} {b T:Nat} {a v:Value} {w:World} [h:Bg A w] [t:JY A b T [a] R]:Bg (Sl.block b T [v]*R) (w.setCell ⟨b,0,none⟩ v):=⟨dU (h.out.eq t.out)⟩
theorem SF{A R R' a b c d e f:Ac}{w:World}[h:Bg A w](X Y Z V U T P Q:Ac)[t:Take A X R][t':Take R Y R'][t'':Take R' Z a][t3:Take a V b][t4:Take b U c][t5:Take c T d][t6:Take d P e][t7:Take e Q f]:Sat (X*(Y*(Z*(V*(U*(T*(P*Q))))))) w:=Sat.Dq (B:=f) ((h.out.IC X Y Z).eq (by rw[t3.out,t4.out,t5.out,t6.out,t7.out];ac_rfl))
theorem PX{A R R' a b c d e f g:Ac}{w:World}[h:Bg A w](X Y Z V U T P Q S:Ac)[t:Take A X R][t':Take R Y R'][t'':Take R' Z a][t3:Take a V b][t4:Take b U c][t5:Take c T d][t6:Take d P e][t7:Take e Q f][t8:Take f S g]:Sat (X*(Y*(Z*(V*(U*(T*(P*(Q*S)))))))) w:=Sat.Dq (B:=g) ((h.out.IC X Y Z).eq (by rw[t3.out,t4.out,t5.out,t6.out,t7.out,t8.out];ac_rfl))
theorem cF{A R R' a b c d e:Ac}{w:World}[h:Bg A w](X Y Z V U T P:Ac)[t:Take A X R][t':Take R Y R'][t'':Take R' Z a][t3:Take a V b][t4:Take b U c][t5:Take c T d][t6:Take d P e]:Sat (X*(Y*(Z*(V*(U*(T*P)))))) w:=Sat.Dq (B:=e) ((h.out.IC X Y Z).eq (by rw[t3.out,t4.out,t5.out,t6.out];ac_rfl))
open Go.Dk Go.Tr
def P6(p:BG×BG)(v:Value)(B:Ac):Prop:=v= .tuple #[Bd p.1,Bd p.2]∧B=1
theorem O7(f:Nat)(h:Th)(s:TS)(x:BG)(n:Int)(F:Ac)(w:World)(hs:Sat (Ae h s*F) w)(h1:n≤0):
 Calls Tryz.prog 98 #[.pointer (some ⟨h.t,0,none⟩),Bd x,.int .i64 n] w (DE h F (Bi Ai Ak f x n s) P6):=by
 have c:Bi Ai Ak f x n s= .ok (C4,x) s:=by unfold Bi;rw[if_pos h1];rfl
 rw[c]
 clear c
 obtain ⟨⟨g,j,k,l⟩,m⟩:=x
 have a:=Ll
 unfold Bd C4 eK at a
 unfold Bd
 simp only at a
 haveI:=hs.i
 go_enter Tryz.func98,Tryz.ntmps98
 go_upto_region 2 with (fail)
 obtain ⟨N,o⟩:=Aq w.heap.size
 have b:Sat (Ae h s*(Sl.block (N+2) D5 [.int .i64 0,.int .i64 0,.int .i64 0,.int .i64 0,.int .i64 0]*(Sl.block (N+1) D5 [.int .i64 0,.int .i64 0,.int .i64 0,.int .i64 0,.int .i64 0]*(Sl.block N D5 [.int .i64 g,.int .i64 j,.int .i64 k,.int .i64 l,.int .i64 m]*F)))) (((w.alloc (.cells #[.int .i64 g,.int .i64 j,.int .i64 k,.int .i64 l,.int .i64 m] D5)).alloc (.cells #[.int .i64 0,.int .i64 0,.int .i64 0,.int .i64 0,.int .i64 0] D5)).alloc (.cells #[.int .i64 0,.int .i64 0,.int .i64 0,.int .i64 0,.int .i64 0] D5)):=by
  rw[←o]
  exact Av (by ac_rfl)
 rw[o]
 generalize ((w.alloc (.cells #[.int .i64 g,.int .i64 j,.int .i64 k,.int .i64 l,.int .i64 m] D5)).alloc (.cells #[.int .i64 0,.int .i64 0,.int .i64 0,.int .i64 0,.int .i64 0] D5)).alloc (.cells #[.int .i64 0,.int .i64 0,.int .i64 0,.int .i64 0,.int .i64 0] D5)=w0 at b⊢
 have d:Sat (Ae h s*(Sl.block (N+1+1) D5 [.int .i64 0,.int .i64 0,.int .i64 0,.int .i64 0,.int .i64 0]*(Sl.block (N+1) D5 [.int .i64 0,.int .i64 0,.int .i64 0,.int .i64 0,.int .i64 0]*(Sl.block N D5 [.int .i64 g,.int .i64 j,.int .i64 k,.int .i64 l,.int .i64 m]*F)))) w0:=b
 clear o hs this b
 have b:=d
 clear d
 haveI:=b.i
 go_region_law (first
  |(
   go_simp
   go_at_call 143
   with_reducible refine Calls.mono (a _ _ b) ?_
   rintro e p ⟨rfl,d⟩
   haveI:=d.i))
 all_goals
  go_wp2
  go_returns
  exact ⟨_,1,rfl,⟨rfl,rfl⟩,by rw[Aw];exact Ap _ _⟩
theorem MG(f:Nat)(h:Th)(s:TS)(x:BG)(n:Int)(F:Ac)(w:World)(hs:Sat (Ae h s*F) w)(h1: ¬n≤0)(p:x.DT.bytes≤n):
 Calls Tryz.prog 98 #[.pointer (some ⟨h.t,0,none⟩),Bd x,.int .i64 n] w (DE h F (Bi Ai Ak f x n s) P6):=by
 have c:Bi Ai Ak f x n s= .ok (x,C4) s:=by unfold Bi;rw[if_neg h1,if_pos p];rfl
 rw[c]
 clear c
 obtain ⟨⟨g,j,k,l⟩,m⟩:=x
 simp only at p
 have a:=Ll
 unfold Bd C4 eK at a
 unfold Bd
 simp only at a
 haveI:=hs.i
 go_enter Tryz.func98,Tryz.ntmps98
 go_upto_region 4 with (fail)
 obtain ⟨N,o⟩:=Aq w.heap.size
 have b:Sat (Ae h s*(Sl.block (N+2) D5 [.int .i64 0,.int .i64 0,.int .i64 0,.int .i64 0,.int .i64 0]*(Sl.block (N+1) D5 [.int .i64 0,.int .i64 0,.int .i64 0,.int .i64 0,.int .i64 0]*(Sl.block N D5 [.int .i64 g,.int .i64 j,.int .i64 k,.int .i64 l,.int .i64 m]*F)))) (((w.alloc (.cells #[.int .i64 g,.int .i64 j,.int .i64 k,.int .i64 l,.int .i64 m] D5)).alloc (.cells #[.int .i64 0,.int .i64 0,.int .i64 0,.int .i64 0,.int .i64 0] D5)).alloc (.cells #[.int .i64 0,.int .i64 0,.int .i64 0,.int .i64 0,.int .i64 0] D5)):=by
  rw[←o]
  exact Av (by ac_rfl)
 rw[o]
 generalize ((w.alloc (.cells #[.int .i64 g,.int .i64 j,.int .i64 k,.int .i64 l,.int .i64 m] D5)).alloc (.cells #[.int .i64 0,.int .i64 0,.int .i64 0,.int .i64 0,.int .i64 0] D5)).alloc (.cells #[.int .i64 0,.int .i64 0,.int .i64 0,.int .i64 0,.int .i64 0] D5)=w0 at b⊢
 have d:Sat (Ae h s*(Sl.block (N+1+1) D5 [.int .i64 0,.int .i64 0,.int .i64 0,.int .i64 0,.int .i64 0]*(Sl.block (N+1) D5 [.int .i64 0,.int .i64 0,.int .i64 0,.int .i64 0,.int .i64 0]*(Sl.block N D5 [.int .i64 g,.int .i64 j,.int .i64 k,.int .i64 l,.int .i64 m]*F)))) w0:=b
 clear o hs this b
 have b:=d
 clear d
 haveI:=b.i
 go_region_law (first
  |(
   go_simp
   go_at_call 143
   with_reducible refine Calls.mono (a _ _ b) ?_
   rintro e q ⟨rfl,d⟩
   haveI:=d.i))
 all_goals
  go_wp2
  go_returns
  exact ⟨_,1,rfl,⟨rfl,rfl⟩,by rw[Aw];exact Ap _ _⟩
