/- censusPages holds for every input. No condition. (part 32) -/
import Derived.Test.YtfhbmblbidcmmaaGreatVa31
set_option linter.all false
set_option maxRecDepth 100000
set_option maxHeartbeats 6400000
namespace Go.Proofs.YtfhbmblbidcmmaaGreat
open Go.RowKit Go.Sl Go.Dk Go.Tr
theorem Wp{α:Type}{l:List α}{z:α}(h:l.getLast?=some z): ∃i,l=i++ [z]:=by
 refine ⟨l.dropLast,?_⟩
 have a:l≠ []:=by rintro rfl;cases h
 rw[List.getLast?_eq_some_getLast a] at h
 cases h
 exact (List.dropLast_concat_getLast a).symm
theorem bY{x:Nd}(hl:x.leaf=false)(i j:Nat)(ks:List Kd):Pure (both (C4 x i j) ⟨false,[],ks⟩):=by
 unfold Pure both C4 many
 rw[hl]
 simp
theorem ZA{x:Nd}(hl:x.leaf=false)(i j:Nat)(ks:List Kd):Pure (both ⟨false,[],ks⟩ (C4 x i j)):=by
 unfold Pure both C4 many
 rw[hl]
 simp
theorem Hr{x:Nd}(hl:x.leaf=false)(i j:Nat):(C4 x i j).Ag.length=0∧(C4 x i j).kids.length≤x.kids.length∧many (C4 x i j)≤x.kids.length:=by
 unfold C4 many
 rw[hl]
 simp[sub]
 omega
theorem fM(f : Nat)(IH : O' f)(h : Th)(s : TS)(a b : BJ)(F : Ab)(w : World)(hs : Sat (Ad h s * F) w)(a0 : b.Am < a.Am)(a6 : -1 ≤ b.Am)(aq : a.Am ≤ 1000)(hb : Cu Ah Al (f + 1) a b s ≠ .bad) :
 Calls Tryz.prog 145 #[.pointer (some ⟨h.t,0,none⟩),Bj a,Bj b] w (DT h F (Cu Ah Al (f+1) a b s) X5):=by
 obtain ⟨⟨H,a2,a3,a4⟩,k⟩:=a
 obtain ⟨⟨V,b2,W,X⟩,Y⟩:=b
 simp only at a0 a6 aq
 obtain ⟨R,J⟩:=Aq (Cu Ah Al (f+1) ⟨⟨H,a2,a3,a4⟩,k⟩ ⟨⟨V,b2,W,X⟩,Y⟩ s)
 rw[J] at hb⊢
 have HB:Aside (R≠ .bad):=hb
 unfold Cu at J
 simp only[a0,if_true] at J
 have Q:=Bi J hb
 have c1:=fun F w q=>Cw h s H F w q Q
 have HR:Aside (∀x s1,Ah H s= .ok x s1→ ∃i z,x.kids=i++ [z]∧x.leaf=false∧M.bind (Cu Ah Al f ⟨z,k-1⟩ ⟨⟨V,b2,W,X⟩,Y⟩) (fun r=>M.bind (B6 Al (both (C4 x 0 i.length) ⟨false,[],r.1⟩)) fun out=>M.pure (out,k)) s1=R):=fun x s1 hm=>by
  have L:=Be J hm
  cases hz:x.kids.getLast? with
  |none=>simp only[hz] at L;exact absurd L.symm hb
  | some z =>
    obtain ⟨i,hi⟩:=Wp hz
    simp only[hz] at L
    by_cases d:x.leaf=true
    · rw[if_pos d] at L;exact absurd L.symm hb
    rw[if_neg d] at L
    refine ⟨i,z,hi,by simpa using d,?_⟩
    have e:i.length=x.kids.length-1:=by rw[hi];simp
    rw[e]
    exact L
 have HU:Aside ((∀T s1,Ah H s= .fault T s1→R= .fault T s1)∧Ah H s≠ .bad):=⟨fun T s1 hm=>B4 J hm,Q⟩
 unfold Bj
 haveI:=hs.i
 clear hb J Q
 go_enter Tryz.func145,Tryz.ntmps145
 go_wp2_with fail
 with_reducible refine Calls.mono (c1 _ _ (Ae (Ad h s))) ?_
 rintro e w1 h1
 obtain ⟨r1,p⟩: ∃r,r=Ah H s:=⟨_,rfl⟩
 rw[←p] at h1
 rcases r1 with ⟨x,s1⟩|⟨T,s1⟩|_
 rotate_left
 · obtain ⟨rfl,q1⟩:=h1
   haveI:=q1.i
   have o:=HU.out.1 _ _ p.symm
   subst o
   exact ⟨rfl,rfl,Ao _ _⟩
 · exact absurd p.symm HU.out.2
 obtain ⟨v1,B,rfl,⟨hx,mx⟩,q1⟩:=h1
 obtain ⟨i,z,hk,d,K⟩:=HR.out _ _ p.symm
 obtain ⟨vE,vK,rfl,hE,hK⟩:=id hx
 obtain ⟨aE,cE,rfl,an,bq⟩:=hE.v
 obtain ⟨aK,cK,rfl,br,bs⟩:=hK.v
 obtain ⟨n,hn⟩:=Aq i.length
 have O:x.kids.length=n+1:=by rw[hk];simp[hn]
 have bp:=(Cm mx).2
 obtain ⟨kb,ko,rfl,k1,k2,k3,k4⟩:=Co hK (i:=n) (x:=z) (by rw[hk,←hn];simp)
 rw[hn] at K
 rw[d,O] at hx⊢
 have y:Aside (AJ B (.agg #[.bool false,.slice aE x.Ag.length cE,.slice (some ⟨kb,ko,none⟩) (n+1) cK]) x∧x.leaf=false∧x.kids.length=n+1):=⟨hx,d,O⟩
 obtain ⟨ne,a9⟩:=Aq x.Ag.length
 rw[a9] at y an⊢
 obtain ⟨z1,z2,z3,z4⟩:=z
 have m:Aside (M.bind (Cu Ah Al f ⟨⟨z1,z2,z3,z4⟩,k-1⟩ ⟨⟨V,b2,W,X⟩,Y⟩) (fun r=>M.bind (B6 Al (both (C4 x 0 n) ⟨false,[],r.1⟩)) fun out=>M.pure (out,k)) s1=R):=K
 have c2:=fun F w q=>IH h s1 ⟨⟨z1,z2,z3,z4⟩,k-1⟩ ⟨⟨V,b2,W,X⟩,Y⟩ F w q (by simp only;omega) (by simp only;omega) a6 (by simp only;omega) (Bi m.out HB.out)
 unfold Bj at c2
 simp only at c2 k1 k2 k3 k4
 have hcut:=fun F w q=>PL x 0 n _ B F w y.out.1 q (by omega) (by rw[y.out.2.1,y.out.2.2];simp)
 have U:Aside (∀F w,Sat (B*F) w→Calls Tryz.prog 166 #[.agg #[.bool false,.slice aE ne cE,.slice (some ⟨kb,ko,none⟩) (n+1) cK],.int .i64 0,.int .i64 n] w fun e w'=> ∃v',e= .returned v'∧AJ B v' (C4 x 0 n)∧Sat (B*F) w'):=hcut
 have HM:Aside (n≤11):=(by omega:n≤11)
 have bi:(n:Int)≤11:=by omega
 have bu:(n:Int)<(n:Int)+1:=by omega
 have bv:=Bg (k-1) (by omega)
 haveI:=q1.i
 clear hx hE hK hk hn O K hcut a9 d mx p HR HU c1
 go_upto_region 4 with (fail)
 go_cut [10,11] (fun az b0 wx=> ∃(c:List Kd)(rh:Int)(s2:TS)(G:Ab)(I:Option Addr)(c5:Nat),az= .slice I c.length c5∧b0= .int .i64 rh∧Aside (M.bind (B6 Al (both (C4 x 0 n) ⟨false,[],c⟩)) (fun out=>M.pure (out,k)) s2=R)∧Aside (AS G (.slice I c.length c5) c∧c.length≤2)∧
  Sat (Ad h s2*(G*(B*(Sl.block w1.heap.size C1 [.bool false,.slice aE ne cE,.slice (some ⟨kb,ko,none⟩) (n+1) cK]*(Sl.block w.heap.size DH [.int .i64 H,.int .i64 a2,.int .i64 a3,.int .i64 a4,.int .i64 k]*F))))) wx)
 case first =>
  go_region_law (first
   |(
      go_simp
      go_at_call 145
      with_reducible refine Calls.mono (c2 _ _ (Ae (Ad h s1))) ?_
      rintro e w2 h2
      obtain ⟨r2,j⟩: ∃r,r=Cu Ah Al f ⟨⟨z1,z2,z3,z4⟩,k-1⟩ ⟨⟨V,b2,W,X⟩,Y⟩ s1:=⟨_,rfl⟩
      rw[←j] at h2
      rcases r2 with ⟨rr,s2⟩|⟨T,s2⟩|_
      rotate_left
      · obtain ⟨rfl,q2⟩:=h2
        haveI:=q2.i
        have o:=B4 m.out j.symm
        subst o
        exact ⟨rfl,rfl,Ao _ _⟩
      · exact absurd (Cg m.out j.symm) HB.out
      obtain ⟨v2,G,rfl,⟨vk,rfl,D⟩,q2⟩:=h2
      have a7:=Be m.out j.symm
      have P:=MS j.symm
      obtain ⟨c,rh⟩:=rr
      simp only at D P
      have g:Aside (M.bind (B6 Al (both (C4 x 0 n) ⟨false,[],c⟩)) (fun out=>M.pure (out,k)) s2=R):=a7
      obtain ⟨I,c5,rfl,bt,_⟩:=Aj.v D
      haveI:=q2.i
      have l:Aside (AS G (.slice I c.length c5) c∧c.length≤2):=⟨D,P⟩
      clear D a7 j P))
  all_goals
   go_wp2
   go_meet
   exact ⟨c,rh,s2,G,I,c5,rfl,rfl,g,l,E3 _ _ _ _ _ _⟩
 obtain ⟨c,rh,s2,G,I,c5,rfl,rfl,g,l,q9⟩:=hcut
 haveI:=q9.i
 have aj:Aside (many (both (C4 x 0 n) ⟨false,[],c⟩)≤65536):=by
  have h1:=(Hr y.out.2.1 0 n).2.2
  have h2:=y.out.2.2
  have h3:=HM.out
  have h4:=l.out.2
  have Z:many (⟨false,[],c⟩:Nd)=c.length:=by simp[many]
  show many _≤_
  rw[Fs,Z]
  omega
 clear q1 k1 k2 k3 k4 c2 m
 go_upto_region 5 with (fail)
 go_region_law (first
  |(
     go_simp
     go_at_call 166
     with_reducible refine Calls.mono (U.out _ _ (Ae B)) ?_
     rintro e w3 ⟨v3,rfl,aa,q3⟩
     haveI:=q3.i
     have c4:=fun F w q=>Ow (C4 x 0 n) ⟨false,[],c⟩ v3 (.agg #[.bool false,.slice none 0 0,.slice I c.length c5]) (B*G) F w (AJ.left aa) (AJ.right (J9 l.out.1)) q (by have:=Hr y.out.2.1 0 n;omega) (by simp) (by have:=Hr y.out.2.1 0 n;have:=y.out.2.2;have:=HM.out;omega) (by show c.length≤65536;have:=l.out.2;omega)
     clear aa)
  |(
     go_simp
     go_at_call 169
     with_reducible refine Calls.mono (c4 _ _ (dK B G)) ?_
     rintro e w4 ⟨v4,G4,rfl,ab,q4⟩
     haveI:=q4.i
     have al:=fun F w q=>Gw h s2 (both (C4 x 0 n) ⟨false,[],c⟩) v4 G4 F w ab q (bY y.out.2.1 0 n c) aj.out (Bi g.out HB.out)
     clear ab)
  |(
     go_simp
     go_at_call 137
     with_reducible refine Calls.mono (al _ _ (Bh (Ad h s2) G4)) ?_
     rintro e w5 Z
     obtain ⟨r5,u⟩: ∃r,r=B6 Al (both (C4 x 0 n) ⟨false,[],c⟩) s2:=⟨_,rfl⟩
     rw[←u] at Z
     rcases r5 with ⟨out,s5⟩|⟨T,s5⟩|_
     rotate_left
     · obtain ⟨rfl,q5⟩:=Z
       haveI:=q5.i
       have o:=B4 g.out u.symm
       subst o
       exact ⟨rfl,rfl,Ao _ _⟩
     · exact absurd (Cg g.out u.symm) HB.out
     obtain ⟨v5,G5,rfl,ac,q5⟩:=Z
     have au:AS G5 v5 out:=ac
     haveI:=q5.i
     have a8:=Be g.out u.symm
     have ap:R= .ok (out,k) s5:=a8.symm
     clear ac u a8))
 all_goals
  subst ap
  go_wp2
  go_ret2
  exact ⟨_,G5,rfl,⟨v5,rfl,au⟩,AD _ _ _⟩
theorem fN(f : Nat)(IH : O' f)(h : Th)(s : TS)(a b : BJ)(F : Ab)(w : World)(hs : Sat (Ad h s * F) w)(a6 : a.Am < b.Am)(a8 : -1 ≤ a.Am)(ar : b.Am ≤ 1000)(hb : Cu Ah Al (f + 1) a b s ≠ .bad) :
 Calls Tryz.prog 145 #[.pointer (some ⟨h.t,0,none⟩),Bj a,Bj b] w (DT h F (Cu Ah Al (f+1) a b s) X5):=by
 obtain ⟨⟨W,X,Y,Z⟩,T⟩:=a
 obtain ⟨⟨J,b2,b3,b4⟩,j⟩:=b
 simp only at a6 a8 ar
 obtain ⟨R,K⟩:=Aq (Cu Ah Al (f+1) ⟨⟨W,X,Y,Z⟩,T⟩ ⟨⟨J,b2,b3,b4⟩,j⟩ s)
 rw[K] at hb⊢
 have HB:Aside (R≠ .bad):=hb
 unfold Cu at K
 have a7: ¬j<T:=by omega
 simp only[a6,a7,if_true,if_false] at K
 have Q:=Bi K hb
 have c1:=fun F w q=>Cw h s J F w q Q
 have HR:Aside (∀x s1,Ah J s= .ok x s1→ ∃i z,x.kids=z::i∧x.leaf=false∧M.bind (Cu Ah Al f ⟨⟨W,X,Y,Z⟩,T⟩ ⟨z,j-1⟩) (fun r=>M.bind (B6 Al (both ⟨false,[],r.1⟩ (C4 x 1 x.kids.length))) fun out=>M.pure (out,j)) s1=R):=fun x s1 hm=>by
  have O:=Be K hm
  cases hz:x.kids with
  |nil=>simp only[hz] at O;exact absurd O.symm hb
  | cons z i =>
    simp only[hz] at O
    by_cases d:x.leaf=true
    · rw[if_pos d] at O;exact absurd O.symm hb
    rw[if_neg d] at O
    exact ⟨i,z,rfl,by simpa using d,O⟩
 have HU:Aside ((∀U s1,Ah J s= .fault U s1→R= .fault U s1)∧Ah J s≠ .bad):=⟨fun U s1 hm=>B4 K hm,Q⟩
 unfold Bj
 haveI:=hs.i
 clear hb K Q
 go_enter Tryz.func145,Tryz.ntmps145
 go_wp2_with fail
 with_reducible refine Calls.mono (c1 _ _ (Ae (Ad h s))) ?_
 rintro e w1 h1
 obtain ⟨r1,p⟩: ∃r,r=Ah J s:=⟨_,rfl⟩
 rw[←p] at h1
 rcases r1 with ⟨x,s1⟩|⟨U,s1⟩|_
 rotate_left
 · obtain ⟨rfl,q1⟩:=h1
   haveI:=q1.i
   have o:=HU.out.1 _ _ p.symm
   subst o
   exact ⟨rfl,rfl,Ao _ _⟩
 · exact absurd p.symm HU.out.2
 obtain ⟨v1,B,rfl,⟨hx,mx⟩,q1⟩:=h1
 obtain ⟨i,z,hk,d,L⟩:=HR.out _ _ p.symm
 obtain ⟨vE,vK,rfl,hE,hK⟩:=id hx
 obtain ⟨aE,cE,rfl,ao,br⟩:=hE.v
 obtain ⟨aK,cK,rfl,bs,bt⟩:=hK.v
 obtain ⟨n,hn⟩:=Aq i.length
 have G:x.kids.length=n+1:=by rw[hk];simp[hn]
 have bq:=(Cm mx).2
 obtain ⟨kb,ko,rfl,k1,k2,k3,k4⟩:=Co hK (i:=0) (x:=z) (by rw[hk];rfl)
 rw[G] at L
 rw[d,G] at hx⊢
 have y:Aside (AJ B (.agg #[.bool false,.slice aE x.Ag.length cE,.slice (some ⟨kb,ko,none⟩) (n+1) cK]) x∧x.leaf=false∧x.kids.length=n+1):=⟨hx,d,G⟩
 obtain ⟨ne,ab⟩:=Aq x.Ag.length
 rw[ab] at y ao⊢
 obtain ⟨z1,z2,z3,z4⟩:=z
 have m:Aside (M.bind (Cu Ah Al f ⟨⟨W,X,Y,Z⟩,T⟩ ⟨⟨z1,z2,z3,z4⟩,j-1⟩) (fun r=>M.bind (B6 Al (both ⟨false,[],r.1⟩ (C4 x 1 (n+1)))) fun out=>M.pure (out,j)) s1=R):=L
 have c2:=fun F w q=>IH h s1 ⟨⟨W,X,Y,Z⟩,T⟩ ⟨⟨z1,z2,z3,z4⟩,j-1⟩ F w q a8 (by simp only;omega) (by simp only;omega) (by simp only;omega) (Bi m.out HB.out)
 unfold Bj at c2
 simp only at c2 k1 k2 k3 k4
 have hcut:=fun F w q=>PL x 1 (n+1) _ B F w y.out.1 q (by omega) (by rw[y.out.2.1,y.out.2.2];simp)
 have V:Aside (∀F w,Sat (B*F) w→Calls Tryz.prog 166 #[.agg #[.bool false,.slice aE ne cE,.slice (some ⟨kb,ko,none⟩) (n+1) cK],.int .i64 1,.int .i64 ((n:Int)+1)] w fun e w'=> ∃v',e= .returned v'∧AJ B v' (C4 x 1 (n+1))∧Sat (B*F) w'):=by rw[Int.natCast_add] at hcut;exact hcut
 have HM:Aside (n≤11):=(by omega:n≤11)
 have bg:(n:Int)≤11:=by omega
 have bv:(n:Int)<(n:Int)+1:=by omega
 have bw:=Bg (j-1) (by omega)
 haveI:=q1.i
 clear hx hE hK hk hn G L hcut ab d mx p HR HU c1
 go_upto_region 8 with (fail)
 go_cut [13,14] (fun az b0 wx=> ∃(c:List Kd)(rh:Int)(s2:TS)(H:Ab)(I:Option Addr)(c5:Nat),az= .slice I c.length c5∧b0= .int .i64 rh∧Aside (M.bind (B6 Al (both ⟨false,[],c⟩ (C4 x 1 (n+1)))) (fun out=>M.pure (out,j)) s2=R)∧Aside (AS H (.slice I c.length c5) c∧c.length≤2)∧
  Sat (Ad h s2*(H*(B*(Sl.block w1.heap.size C1 [.bool false,.slice aE ne cE,.slice (some ⟨kb,ko,none⟩) (n+1) cK]*(Sl.block (w.heap.size+1) DH [.int .i64 J,.int .i64 b2,.int .i64 b3,.int .i64 b4,.int .i64 j]*F))))) wx)
 case first =>
  go_region_law (first
   |(
      go_simp
      go_at_call 145
      with_reducible refine Calls.mono (c2 _ _ (Ae (Ad h s1))) ?_
      rintro e w2 h2
      obtain ⟨r2,k⟩: ∃r,r=Cu Ah Al f ⟨⟨W,X,Y,Z⟩,T⟩ ⟨⟨z1,z2,z3,z4⟩,j-1⟩ s1:=⟨_,rfl⟩
      rw[←k] at h2
      rcases r2 with ⟨rr,s2⟩|⟨U,s2⟩|_
      rotate_left
      · obtain ⟨rfl,q2⟩:=h2
        haveI:=q2.i
        have o:=B4 m.out k.symm
        subst o
        exact ⟨rfl,rfl,Ao _ _⟩
      · exact absurd (Cg m.out k.symm) HB.out
      obtain ⟨v2,H,rfl,⟨vk,rfl,D⟩,q2⟩:=h2
      have a9:=Be m.out k.symm
      have P:=MS k.symm
      obtain ⟨c,rh⟩:=rr
      simp only at D P
      have g:Aside (M.bind (B6 Al (both ⟨false,[],c⟩ (C4 x 1 (n+1)))) (fun out=>M.pure (out,j)) s2=R):=a9
      obtain ⟨I,c5,rfl,bu,_⟩:=Aj.v D
      haveI:=q2.i
      have l:Aside (AS H (.slice I c.length c5) c∧c.length≤2):=⟨D,P⟩
      clear D a9 k P))
  all_goals
   go_wp2
   go_meet
   exact ⟨c,rh,s2,H,I,c5,rfl,rfl,g,l,E3 _ _ _ _ _ _⟩
 obtain ⟨c,rh,s2,H,I,c5,rfl,rfl,g,l,q9⟩:=hcut
 haveI:=q9.i
 have ak:Aside (many (both ⟨false,[],c⟩ (C4 x 1 (n+1)))≤65536):=by
  have h1:=(Hr y.out.2.1 1 (n+1)).2.2
  have h2:=y.out.2.2
  have h3:=HM.out
  have h4:=l.out.2
  have h5:many (⟨false,[],c⟩:Nd)=c.length:=by simp[many]
  show many _≤_
  rw[Fs,h5]
  omega
 clear q1 k1 k2 k3 k4 c2 m
 go_upto_region 9 with (fail)
 go_region_law (first
  |(
     go_simp
     go_at_call 166
     with_reducible refine Calls.mono (V.out _ _ (Ae B)) ?_
     rintro e w3 ⟨v3,rfl,ac,q3⟩
     haveI:=q3.i
     have c4:=fun F w q=>Ow ⟨false,[],c⟩ (C4 x 1 (n+1)) (.agg #[.bool false,.slice none 0 0,.slice I c.length c5]) v3 (B*H) F w (AJ.right (J9 l.out.1)) (AJ.left ac) q (by simp) (by have:=Hr y.out.2.1 1 (n+1);omega) (by show c.length≤65536;have:=l.out.2;omega) (by have:=Hr y.out.2.1 1 (n+1);have:=y.out.2.2;have:=HM.out;omega)
     clear ac)
  |(
     go_simp
     go_at_call 169
     with_reducible refine Calls.mono (c4 _ _ (dK B H)) ?_
     rintro e w4 ⟨v4,G4,rfl,ad,q4⟩
     haveI:=q4.i
     have am:=fun F w q=>Gw h s2 (both ⟨false,[],c⟩ (C4 x 1 (n+1))) v4 G4 F w ad q (ZA y.out.2.1 1 (n+1) c) ak.out (Bi g.out HB.out)
     clear ad)
  |(
     go_simp
     go_at_call 137
     with_reducible refine Calls.mono (am _ _ (Bh (Ad h s2) G4)) ?_
     rintro e w5 h5
     obtain ⟨r5,u⟩: ∃r,r=B6 Al (both ⟨false,[],c⟩ (C4 x 1 (n+1))) s2:=⟨_,rfl⟩
     rw[←u] at h5
     rcases r5 with ⟨out,s5⟩|⟨U,s5⟩|_
     rotate_left
     · obtain ⟨rfl,q5⟩:=h5
       haveI:=q5.i
       have o:=B4 g.out u.symm
       subst o
       exact ⟨rfl,rfl,Ao _ _⟩
     · exact absurd (Cg g.out u.symm) HB.out
     obtain ⟨v5,G5,rfl,ae,q5⟩:=h5
     have av:AS G5 v5 out:=ae
     haveI:=q5.i
     have aa:=Be g.out u.symm
     have aq:R= .ok (out,j) s5:=aa.symm
     clear ae u aa))
 all_goals
  subst aq
  go_wp2
  go_ret2
  exact ⟨_,G5,rfl,⟨v5,rfl,av⟩,AD _ _ _⟩
theorem Ph: ∀f:Nat,O' f
 |0=>fun h s a b F w hs _ _ _ _ hb=>absurd rfl hb
 | f + 1 => fun h s a b F w hs h1 d e g hb => by
  rcases Int.lt_trichotomy a.Am b.Am with c|c|c
  ·exact fN f (Ph f) h s a b F w hs c h1 g hb
  ·exact Zu f h s a b F w hs c hb
  exact fM f (Ph f) h s a b F w hs c e d hb
theorem Me{σ:Type}{rd:Int→M σ Nd}{wt:Nd→M σ Kd} : ∀(f:Nat)(a b:BJ)(s:σ)(r:List Kd×Int)(s':σ),Cu rd wt f a b s= .ok r s'→r.2=a.Am∨r.2=b.Am
 |0,a,b,s,r,s',h=>by cases h
 | f + 1, a, b, s, r, s', h => by
  unfold Cu at h
  split at h
  ·obtain ⟨x,s1,h1,h⟩:=A1 h
   cases d:x.kids.getLast? with
   |none=>simp only[d] at h;cases h
   | some z =>
    simp only[d] at h
    by_cases c:x.leaf=true
    ·rw[if_pos c] at h;cases h
    rw[if_neg c] at h
    obtain ⟨q,s2,e,h⟩:=A1 h
    obtain ⟨o,s3,g,h⟩:=A1 h
    cases h
    exact .inl rfl
  split at h
  ·obtain ⟨x,s1,h1,h⟩:=A1 h
   cases d:x.kids with
   |nil=>simp only[d] at h;cases h
   | cons z zs =>
    simp only[d] at h
    by_cases c:x.leaf=true
    ·rw[if_pos c] at h;cases h
    rw[if_neg c] at h
    obtain ⟨q,s2,e,h⟩:=A1 h
    obtain ⟨o,s3,g,h⟩:=A1 h
    cases h
    exact .inr rfl
  obtain ⟨x,s1,h1,h⟩:=A1 h
  obtain ⟨y,s2,e,h⟩:=A1 h
  by_cases c:x.leaf=y.leaf
  ·rw[if_pos c] at h
   obtain ⟨o,s3,g,h⟩:=A1 h
   cases h
   exact .inl rfl
  rw[if_neg c] at h
  cases h
theorem LS(h:Th)(s:TS)(a b:BJ)(F:Ab)(w:World)(hs:Sat (Ad h s*F) w)(ha: -1000≤a.Am)(p:a.Am≤1000)(hb: -1000≤b.Am)(u:b.Am≤1000)(l:EK Ah Al a b s≠ .bad):
 Calls Tryz.prog 99 #[.pointer (some ⟨h.t,0,none⟩),Bj a,Bj b] w (DT h F (EK Ah Al a b s) Q3):=by
 obtain ⟨R,f⟩:=Aq (EK Ah Al a b s)
 rw[f] at l⊢
 have o:Aside (R≠ .bad):=l
 have c:=fun(p1: -1≤a.Am)(p2: -1≤b.Am) F w q n=>Ph (KB a b) h s a b F w q p1 p p2 u n
 unfold EK at f
 have HA:Aside (KB a b=KB a b):=rfl
 obtain ⟨d,hd⟩:=Aq (KB a b)
 rw[hd] at c f
 have D:Aside (∀r s',Cu Ah Al d a b s= .ok r s'→r.1.length≤65536∧ -1000≤r.2∧r.2≤1000):=fun r s' h=>by
  have h1:=MS h
  rcases Me d a b s r s' h with j|j<;>exact ⟨by omega,by omega,by omega⟩
 obtain ⟨m,hm⟩:=Aq (Cu Ah Al d a b s)
 obtain ⟨⟨Q,T,U,V⟩,I⟩:=a
 obtain ⟨⟨W,b2,X,Y⟩,J⟩:=b
 simp only at f ha p hb u
 unfold Bj at c⊢
 simp only at c
 haveI:=hs.i
 clear l hd HA
 by_cases h1:I<0
 · rw[if_pos h1] at f
   have g:R= .ok ⟨⟨W,b2,X,Y⟩,J⟩ s:=f.symm
   subst g
   clear f c D o hm
   go_enter Tryz.func99,Tryz.ntmps99
   go_wp2
   go_returns
   exact ⟨_,1,rfl,⟨rfl,rfl⟩,by rw[Aw];exact Ao _ _⟩
 rw[if_neg h1] at f
 by_cases j:J<0
 · rw[if_pos j] at f
   have g:R= .ok ⟨⟨Q,T,U,V⟩,I⟩ s:=f.symm
   subst g
   clear f c D o hm
   go_enter Tryz.func99,Tryz.ntmps99
   go_wp2
   go_returns
   exact ⟨_,1,rfl,⟨rfl,rfl⟩,by rw[Aw];exact Ao _ _⟩
 rw[if_neg j] at f
 have H:Aside (M.bind (Cu Ah Al d ⟨⟨Q,T,U,V⟩,I⟩ ⟨⟨W,b2,X,Y⟩,J⟩) (fun r=>grown Al r.1 r.2) s=R):=f
 have L:=Bi H.out o.out
 replace c:=c (by omega) (by omega)
 rw[hm] at c L
 have G:Aside (Cu Ah Al d ⟨⟨Q,T,U,V⟩,I⟩ ⟨⟨W,b2,X,Y⟩,J⟩ s=m):=hm
 clear f hm
 go_enter Tryz.func99,Tryz.ntmps99
 go_wp2_with fail
 with_reducible refine Calls.mono (c _ _ (Ae (Ad h s)) L) ?_
 rintro e w2 j
 cases m with
 |bad=>exact absurd rfl L
 | fault er s2 =>
   obtain ⟨rfl,z⟩:=j
   haveI:=z.i
   have g:=B4 H.out G.out
   subst g
   exact ⟨rfl,rfl,Ao _ _⟩
 | ok r s2 =>
   obtain ⟨v2,P,rfl,⟨vk,rfl,K⟩,z⟩:=j
   obtain ⟨r1,rh⟩:=r
   simp only at K
   obtain ⟨a5,c5,rfl,_,_⟩:=Aj.v K
   have y:=Be H.out G.out
   have k:grown Al r1 rh s2=R:=y
   obtain ⟨Z,g2,g3⟩:=D.out _ _ G.out
   have hg:=fun v B F w q1 z=>Mz h s2 r1 rh v B F w q1 z Z (by simp only at g2;omega) (by simp only at g3;omega) (by rw[k];exact o.out)
   rw[k] at hg
   have HK:Aside (AS P (.slice a5 r1.length c5) r1):=K
   haveI:=z.i
   clear c K k y Z g2 g3 H G D L
   go_wp2_with fail
   with_reducible refine Calls.mono (hg _ P _ _ HK.out (Bh (Ad h s2) P)) ?_
   rintro e w3 h3
   cases R with
   |bad=>exact absurd rfl o.out
   | fault er s3 =>
    obtain ⟨rfl,O⟩:=h3
    haveI:=O.i
    exact ⟨rfl,rfl,Ao _ _⟩
   | ok x s3 =>
    obtain ⟨v3,G3,rfl,⟨rfl,rfl⟩,O⟩:=h3
    rw[Aw] at O
    haveI:=O.i
    unfold Bj
    go_wp2
    go_returns
    exact ⟨_,1,rfl,⟨rfl,rfl⟩,by rw[Aw];exact Ao _ _⟩
section
variable {σ:Type} {rd:Int→M σ Nd} {wt:Nd→M σ Kd}
theorem Kz: ∀(f:Nat)(ks:List Kd)(h:Int)(s:σ)(t:BJ)(s':σ),Fc wt f ks h s= .ok t s'→t.Am= -1∨(h≤t.Am∧t.Am≤h+f)
 | f, [], h, s, t, s', e => by
  have:t=C2:=by cases f<;>(cases e;rfl)
  subst this
  exact .inl rfl
 | f, [k], h, s, t, s', e => by
  have:t=⟨k,h⟩:=by cases f<;>(cases e;rfl)
  subst this
  exact .inr ⟨by simp only;omega,by simp only;omega⟩
 |0,a::b::l,h,s,t,s',e=>by cases e
 | f + 1, a :: b :: l, h, s, t, s', e => by
  have e':M.bind (B6 wt ⟨false,[],a::b::l⟩) (fun ks=>Fc wt f ks (h+1)) s= .ok t s':=e
  obtain ⟨ks,s1,h1,d⟩:=A1 e'
  rcases Kz f ks (h+1) s1 t s' d with c|⟨c,g⟩
  ·exact .inl c
  exact .inr ⟨by omega,by omega⟩
theorem Iy{ks:List Kd}{h:Int}{s:σ}{t:BJ}{s':σ}(e:grown wt ks h s= .ok t s'):t.Am= -1∨(h≤t.Am∧t.Am≤h+ks.length):=Kz ks.length ks h s t s' e
theorem Es{ks:List Kd}{h:Int}{s:σ}{t:BJ}{s':σ}(e:CU wt ks h s= .ok t s'):t.Am= -1∨(h-1≤t.Am∧t.Am≤h-1+ks.length):=Iy e
theorem Gx{l:List Ar}{s:σ}{t:BJ}{s':σ}(e:BT wt l s= .ok t s'):t.Am= -1∨(0≤t.Am∧t.Am≤(l.length+11)/12):=by
 unfold BT at e
 obtain ⟨ks,s1,h1,b⟩:=A1 e
 have c:=ER h1
 rcases Iy b with a|⟨a,d⟩
 ·exact .inl a
 refine .inr ⟨a,?_⟩
 have:many (⟨true,l,[]⟩:Nd)=l.length:=by simp[many]
 omega
theorem JM(c: ∀p s n s',rd p s= .ok n s'→many n≤12){a b:BJ}{s:σ}{t:BJ}{s':σ}(e:EK rd wt a b s= .ok t s')(L U:Int)(o:L≤ -1)(q: -1≤U)(g:L≤a.Am)(i:a.Am≤U)(j:L≤b.Am)(b2:b.Am≤U):
 L≤t.Am∧t.Am≤U+2:=by
 unfold EK at e
 split at e
 ·cases e;omega
 split at e
 ·cases e;omega
 obtain ⟨r,s1,h1,d⟩:=A1 e
 have k:=Me _ _ _ _ _ _ h1
 have l:=Ki c _ _ _ _ _ _ h1
 rcases Iy d with f|⟨f,m⟩
 ·omega
 omega
theorem Fe(d: ∀p s n s',rd p s= .ok n s'→may n=true): ∀(f:Nat)(x:BJ)(n:Int)(s:σ)(p:BJ×BJ)(s':σ),Br rd wt f x n s= .ok p s'→ ∀(L U:Int),L≤ -1→0≤U→L≤x.Am-f→x.Am≤U→
 (L≤p.1.Am∧p.1.Am≤U+14*(f+1))∧(L≤p.2.Am∧p.2.Am≤U+14*(f+1))
 | f, x, n, s, p, s', e, L, U, l, w, h1, H => by
  have j:C2.Am= -1:=rfl
  have c: ∀p s n s',rd p s= .ok n s'→many n≤12:=fun p s n s' h=>(Hu (d p s n s' h)).1
  unfold Br at e
  by_cases c1:n≤0
  ·rw[if_pos c1] at e
   cases e
   simp only[j]
   omega
  rw[if_neg c1] at e
  by_cases c2:x.E8.bytes≤n
  ·rw[if_pos c2] at e
   cases e
   simp only[j]
   omega
  rw[if_neg c2] at e
  cases f with
  |zero=>cases e
  | succ f =>
   simp only at e
   obtain ⟨y,s1,o,e⟩:=A1 e
   have hy:=Cm (d _ _ _ _ o)
   by_cases hl:y.leaf=true
   ·rw[if_pos hl] at e
    cases hp:Fp y.Ag n 0 with
    |none=>rw[hp] at e;cases e
    | some k =>
     rw[hp] at e
     simp only at e
     obtain ⟨a,s2,g,e⟩:=A1 e
     obtain ⟨b,s3,i,e⟩:=A1 e
     cases e
     have ha:=Gx g
     have hb:=Gx i
     rw[List.length_take] at ha
     rw[List.length_drop] at hb
     simp only
     omega
   rw[if_neg hl] at e
   cases hp:Hx y.kids n 0 with
   |none=>rw[hp] at e;cases e
   | some G =>
    obtain ⟨k,r⟩:=G
    rw[hp] at e
    simp only at e
    by_cases hr:r=0
    ·rw[if_pos hr] at e
     obtain ⟨a,s2,g,e⟩:=A1 e
     obtain ⟨b,s3,i,e⟩:=A1 e
     cases e
     have ha:=Es g
     have hb:=Es i
     rw[List.length_take] at ha
     rw[List.length_drop] at hb
     simp only
     omega
    rw[if_neg hr] at e
    cases m:y.kids[k]? with
    |none=>rw[m] at e;cases e
    | some z =>
     rw[m] at e
     simp only at e
     obtain ⟨q,s2,g,e⟩:=A1 e
     obtain ⟨a,s3,i,e⟩:=A1 e
     obtain ⟨a',s4,t,e⟩:=A1 e
     obtain ⟨b,s5,u,e⟩:=A1 e
     obtain ⟨b',s6,v,e⟩:=A1 e
     cases e
     have hq:=Fe d f ⟨z,x.Am-1⟩ r s1 q s2 g L U l w (by simp only;omega) (by simp only;omega)
     have ha:=Es i
     have hb:=Es u
     rw[List.length_take] at ha
     rw[List.length_drop] at hb
     have B:=JM c t L (U+14*(f+1)) l (by omega) (by omega) (by omega) (by omega) (by omega)
     have D:=JM c v L (U+14*(f+1)) l (by omega) (by omega) (by omega) (by omega) (by omega)
     simp only
     omega
end
end Go.Proofs.YtfhbmblbidcmmaaGreat
namespace Go.Proofs.YtfhbmblbidcmmaaGreat
open Go.RowKit Go.Sl
theorem kD{b T:Nat}{a c d e f v0 v1 v2 v3 v4:Value}{F:Ab}{w:World}(hs:Sat (Sl.block b T [a,c,d,e,f]*F) w):
 Sat (Sl.block b T [v0,v1,v2,v3,v4]*F) (((((w.setCell ⟨b,0,none⟩ v0).setCell ⟨b,1,none⟩ v1).setCell ⟨b,2,none⟩ v2).setCell ⟨b,3,none⟩ v3).setCell ⟨b,4,none⟩ v4):=by
 haveI:=hs.i
 exact Av (by rfl)
theorem kC{b T:Nat}{a c d e v0 v1 v2 v3:Value}{F:Ab}{w:World}(hs:Sat (Sl.block b T [a,c,d,e]*F) w):
 Sat (Sl.block b T [v0,v1,v2,v3]*F) ((((w.setCell ⟨b,0,none⟩ v0).setCell ⟨b,1,none⟩ v1).setCell ⟨b,2,none⟩ v2).setCell ⟨b,3,none⟩ v3):=by
 haveI:=hs.i
 exact Av (by rfl)
class Ks (A:Ab) (b:Nat) (T:outParam Nat) (l:outParam (List Value)) (R:outParam Ab):Prop where
 out:A=Sl.block b T l*R
instance(priority:=1200) takeB_here {b T:Nat} {l:List Value} {R:Ab} :Ks (Sl.block b T l*R) b T l R:=⟨rfl⟩
instance(priority:=1100) takeB_self {b T:Nat} {l:List Value} :Ks (Sl.block b T l) b T l 1:=⟨by rw[FA,Aw]⟩
instance(priority:=1000) takeB_right {A B R:Ab} {b T:Nat} {l:List Value} [h:Ks B b T l R]:Ks (A*B) b T l (A*R):=⟨by rw[h.out];ac_rfl⟩
instance(priority:=900) takeB_left {A B R:Ab} {b T:Nat} {l:List Value} [h:Ks A b T l R]:Ks (A*B) b T l (R*B):=⟨by rw[h.out];ac_rfl⟩
instance(priority:=30000) store5I {A R:Ab} {b T:Nat} {a0 a1 a2 a3 a4 v0 v1 v2 v3 v4:Value} {w:World} [h:AV A w] [t:Ks A b T [a0,a1,a2,a3,a4] R]:
 AV (Sl.block b T [v0,v1,v2,v3,v4]*R) (((((w.setCell ⟨b,0,none⟩ v0).setCell ⟨b,1,none⟩ v1).setCell ⟨b,2,none⟩ v2).setCell ⟨b,3,none⟩ v3).setCell ⟨b,4,none⟩ v4):=⟨kD (h.out.eq t.out)⟩
instance(priority:=29000) store4I {A R:Ab} {b T:Nat} {a0 a1 a2 a3 v0 v1 v2 v3:Value} {w:World} [h:AV A w] [t:Ks A b T [a0,a1,a2,a3] R]:
 AV (Sl.block b T [v0,v1,v2,v3]*R) ((((w.setCell ⟨b,0,none⟩ v0).setCell ⟨b,1,none⟩ v1).setCell ⟨b,2,none⟩ v2).setCell ⟨b,3,none⟩ v3):=⟨kC (h.out.eq t.out)⟩
theorem kB{b T:Nat}{a v:Value}{F:Ab}{w:World}(hs:Sat (Sl.block b T [a]*F) w):Sat (Sl.block b T [v]*F) (w.setCell ⟨b,0,none⟩ v):=by
 haveI:=hs.i
 exact Av (by rfl)
instance(priority:=25000) store1I {A R:Ab} {b T:Nat} {a v:Value} {w:World} [h:AV A w] [t:Ks A b T [a] R]:AV (Sl.block b T [v]*R) (w.setCell ⟨b,0,none⟩ v):=⟨kB (h.out.eq t.out)⟩
theorem aF{A R R' a b c d e f:Ab}{w:World}[h:AV A w](X Y Z V U T P Q:Ab)[t:Take A X R][t':Take R Y R'][t'':Take R' Z a][t3:Take a V b][t4:Take b U c][t5:Take c T d][t6:Take d P e][t7:Take e Q f]:Sat (X*(Y*(Z*(V*(U*(T*(P*Q))))))) w:=Sat.Dn (B:=f) ((h.out.K1 X Y Z).eq (by rw[t3.out,t4.out,t5.out,t6.out,t7.out];ac_rfl))
theorem Nn{A R R' a b c d e f g:Ab}{w:World}[h:AV A w](X Y Z V U T P Q S:Ab)[t:Take A X R][t':Take R Y R'][t'':Take R' Z a][t3:Take a V b][t4:Take b U c][t5:Take c T d][t6:Take d P e][t7:Take e Q f][t8:Take f S g]:Sat (X*(Y*(Z*(V*(U*(T*(P*(Q*S)))))))) w:=Sat.Dn (B:=g) ((h.out.K1 X Y Z).eq (by rw[t3.out,t4.out,t5.out,t6.out,t7.out,t8.out];ac_rfl))
theorem iD{A R R' a b c d e:Ab}{w:World}[h:AV A w](X Y Z V U T P:Ab)[t:Take A X R][t':Take R Y R'][t'':Take R' Z a][t3:Take a V b][t4:Take b U c][t5:Take c T d][t6:Take d P e]:Sat (X*(Y*(Z*(V*(U*(T*P)))))) w:=Sat.Dn (B:=e) ((h.out.K1 X Y Z).eq (by rw[t3.out,t4.out,t5.out,t6.out];ac_rfl))
open Go.Dk Go.Tr
def Qz(p:BJ×BJ)(v:Value)(B:Ab):Prop:=v= .tuple #[Bj p.1,Bj p.2]∧B=1
theorem P0(f:Nat)(h:Th)(s:TS)(x:BJ)(n:Int)(F:Ab)(w:World)(hs:Sat (Ad h s*F) w)(h1:n≤0):
 Calls Tryz.prog 98 #[.pointer (some ⟨h.t,0,none⟩),Bj x,.int .i64 n] w (DT h F (Br Ah Al f x n s) Qz):=by
 have c:Br Ah Al f x n s= .ok (C2,x) s:=by unfold Br;rw[if_pos h1];rfl
 rw[c]
 clear c
 obtain ⟨⟨g,j,k,l⟩,m⟩:=x
 have a:=LF
 unfold Bj C2 kQ at a
 unfold Bj
 simp only at a
 haveI:=hs.i
 go_enter Tryz.func98,Tryz.ntmps98
 go_upto_region 2 with (fail)
 obtain ⟨N,o⟩:=Aq w.heap.size
 have b:Sat (Ad h s*(Sl.block (N+2) DH [.int .i64 0,.int .i64 0,.int .i64 0,.int .i64 0,.int .i64 0]*(Sl.block (N+1) DH [.int .i64 0,.int .i64 0,.int .i64 0,.int .i64 0,.int .i64 0]*(Sl.block N DH [.int .i64 g,.int .i64 j,.int .i64 k,.int .i64 l,.int .i64 m]*F)))) (((w.alloc (.cells #[.int .i64 g,.int .i64 j,.int .i64 k,.int .i64 l,.int .i64 m] DH)).alloc (.cells #[.int .i64 0,.int .i64 0,.int .i64 0,.int .i64 0,.int .i64 0] DH)).alloc (.cells #[.int .i64 0,.int .i64 0,.int .i64 0,.int .i64 0,.int .i64 0] DH)):=by
  rw[←o]
  exact Av (by ac_rfl)
 rw[o]
 generalize ((w.alloc (.cells #[.int .i64 g,.int .i64 j,.int .i64 k,.int .i64 l,.int .i64 m] DH)).alloc (.cells #[.int .i64 0,.int .i64 0,.int .i64 0,.int .i64 0,.int .i64 0] DH)).alloc (.cells #[.int .i64 0,.int .i64 0,.int .i64 0,.int .i64 0,.int .i64 0] DH)=w0 at b⊢
 have d:Sat (Ad h s*(Sl.block (N+1+1) DH [.int .i64 0,.int .i64 0,.int .i64 0,.int .i64 0,.int .i64 0]*(Sl.block (N+1) DH [.int .i64 0,.int .i64 0,.int .i64 0,.int .i64 0,.int .i64 0]*(Sl.block N DH [.int .i64 g,.int .i64 j,.int .i64 k,.int .i64 l,.int .i64 m]*F)))) w0:=b
 clear o hs this b
 have b:=d
 clear d
 haveI:=b.i
 go_region_law (first
  |(
   go_simp
   go_at_call 143
   with_reducible refine Calls.mono (a _ _ b) ?_
   rintro e p ⟨rfl,d⟩
   haveI:=d.i))
 all_goals
  go_wp2
  go_returns
  exact ⟨_,1,rfl,⟨rfl,rfl⟩,by rw[Aw];exact Ao _ _⟩
theorem Nx(f:Nat)(h:Th)(s:TS)(x:BJ)(n:Int)(F:Ab)(w:World)(hs:Sat (Ad h s*F) w)(h1: ¬n≤0)(p:x.E8.bytes≤n):
 Calls Tryz.prog 98 #[.pointer (some ⟨h.t,0,none⟩),Bj x,.int .i64 n] w (DT h F (Br Ah Al f x n s) Qz):=by
 have c:Br Ah Al f x n s= .ok (x,C2) s:=by unfold Br;rw[if_neg h1,if_pos p];rfl
 rw[c]
 clear c
 obtain ⟨⟨g,j,k,l⟩,m⟩:=x
 simp only at p
 have a:=LF
 unfold Bj C2 kQ at a
 unfold Bj
 simp only at a
 haveI:=hs.i
 go_enter Tryz.func98,Tryz.ntmps98
 go_upto_region 4 with (fail)
 obtain ⟨N,o⟩:=Aq w.heap.size
 have b:Sat (Ad h s*(Sl.block (N+2) DH [.int .i64 0,.int .i64 0,.int .i64 0,.int .i64 0,.int .i64 0]*(Sl.block (N+1) DH [.int .i64 0,.int .i64 0,.int .i64 0,.int .i64 0,.int .i64 0]*(Sl.block N DH [.int .i64 g,.int .i64 j,.int .i64 k,.int .i64 l,.int .i64 m]*F)))) (((w.alloc (.cells #[.int .i64 g,.int .i64 j,.int .i64 k,.int .i64 l,.int .i64 m] DH)).alloc (.cells #[.int .i64 0,.int .i64 0,.int .i64 0,.int .i64 0,.int .i64 0] DH)).alloc (.cells #[.int .i64 0,.int .i64 0,.int .i64 0,.int .i64 0,.int .i64 0] DH)):=by
  rw[←o]
  exact Av (by ac_rfl)
 rw[o]
 generalize ((w.alloc (.cells #[.int .i64 g,.int .i64 j,.int .i64 k,.int .i64 l,.int .i64 m] DH)).alloc (.cells #[.int .i64 0,.int .i64 0,.int .i64 0,.int .i64 0,.int .i64 0] DH)).alloc (.cells #[.int .i64 0,.int .i64 0,.int .i64 0,.int .i64 0,.int .i64 0] DH)=w0 at b⊢
 have d:Sat (Ad h s*(Sl.block (N+1+1) DH [.int .i64 0,.int .i64 0,.int .i64 0,.int .i64 0,.int .i64 0]*(Sl.block (N+1) DH [.int .i64 0,.int .i64 0,.int .i64 0,.int .i64 0,.int .i64 0]*(Sl.block N DH [.int .i64 g,.int .i64 j,.int .i64 k,.int .i64 l,.int .i64 m]*F)))) w0:=b
 clear o hs this b
 have b:=d
 clear d
 haveI:=b.i
 go_region_law (first
  |(
   go_simp
   go_at_call 143
   with_reducible refine Calls.mono (a _ _ b) ?_
   rintro e q ⟨rfl,d⟩
   haveI:=d.i))
 all_goals
  go_wp2
  go_returns
  exact ⟨_,1,rfl,⟨rfl,rfl⟩,by rw[Aw];exact Ao _ _⟩
