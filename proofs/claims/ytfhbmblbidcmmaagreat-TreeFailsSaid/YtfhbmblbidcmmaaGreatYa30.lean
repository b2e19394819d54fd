/- treeFails holds for every input. No condition. (part 30) -/
import Derived.Test.YtfhbmblbidcmmaaGreatYa29
set_option linter.all false
set_option maxRecDepth 100000
set_option maxHeartbeats 6400000
namespace Go.Proofs.YtfhbmblbidcmmaaGreat
open Go.RowKit Go.Sl Go.Dk Go.Tr
theorem YB(f : Nat)(IH : VY f)(h : Th)(s : TS)(a b : BH)(F : Ac)(w : World)(hs : Sat (Ad h s * F) w)(a7 : a.An < b.An)(a9 : -1 ≤ a.An)(ax : b.An ≤ 1000)(hb : Cd Ah Ag (f + 1) a b s ≠ .bad) :
 Calls Tryz.prog 145 #[.pointer (some ⟨h.t,0,none⟩),AH a,AH b] w (D4 h F (Cd Ah Ag (f+1) a b s) TQ):=by
 obtain ⟨⟨X,Y,Z,a4⟩,U⟩:=a
 obtain ⟨⟨J,b2,b3,b4⟩,g⟩:=b
 simp only at a7 a9 ax
 obtain ⟨R,L⟩: ∃R,Cd Ah Ag (f+1) ⟨⟨X,Y,Z,a4⟩,U⟩ ⟨⟨J,b2,b3,b4⟩,g⟩ s=R:=⟨_,rfl⟩
 rw[L] at hb⊢
 have HB:Aside (R≠ .bad):=hb
 unfold Cd at L
 have a8: ¬g<U:=by omega
 simp only[a7,a8,if_true,if_false] at L
 have T:=AK L hb
 have c1:=fun F w q=>C7 h s J F w q T
 have HR:Aside (∀x s1,Ah J s= .ok x s1→ ∃i z,x.kids=z::i∧x.leaf=false∧M.bind (Cd Ah Ag f ⟨⟨X,Y,Z,a4⟩,U⟩ ⟨z,g-1⟩) (fun r=>M.bind (Bt Ag (both ⟨false,[],r.1⟩ (Cq x 1 x.kids.length))) fun out=>M.pure (out,g)) s1=R):=fun x s1 hm=>by
  have P:=AJ L hm
  cases hz:x.kids with
  |nil=>simp only[hz] at P;exact absurd P.symm hb
  | cons z i =>
    simp only[hz] at P
    by_cases d:x.leaf=true
    · rw[if_pos d] at P;exact absurd P.symm hb
    rw[if_neg d] at P
    exact ⟨i,z,rfl,by simpa using d,P⟩
 have HU:Aside ((∀V s1,Ah J s= .fault V s1→R= .fault V s1)∧Ah J s≠ .bad):=⟨fun V s1 hm=>AL L hm,T⟩
 unfold AH
 haveI:=hs.i
 clear hb L T
 go_enter Tryz.func145,Tryz.ntmps145
 go_wp2_with fail
 with_reducible refine Calls.mono (c1 _ _ (Ae (Ad h s))) ?_
 rintro e w1 h1
 obtain ⟨r1,p⟩: ∃r,r=Ah J s:=⟨_,rfl⟩
 rw[←p] at h1
 rcases r1 with ⟨x,s1⟩|⟨V,s1⟩|_
 rotate_left
 · obtain ⟨rfl,q1⟩:=h1
   haveI:=q1.i
   have o:=HU.out.1 _ _ p.symm
   subst o
   exact ⟨rfl,rfl,Av _ _⟩
 · exact absurd p.symm HU.out.2
 obtain ⟨v1,B,rfl,⟨hx,mx⟩,q1⟩:=h1
 obtain ⟨i,z,hk,d,O⟩:=HR.out _ _ p.symm
 obtain ⟨vE,vK,rfl,hE,hK⟩:=id hx
 obtain ⟨aE,cE,rfl,au,bz⟩:=hE.v
 obtain ⟨aK,cK,rfl,c0,c3⟩:=hK.v
 obtain ⟨n,hn⟩: ∃n,i.length=n:=⟨_,rfl⟩
 have G:x.kids.length=n+1:=by rw[hk];simp[hn]
 have bx:=(Cl mx).2
 obtain ⟨kb,ko,rfl,k1,k2,k3,k4⟩:=Dc hK (i:=0) (x:=z) (by rw[hk];rfl)
 rw[G] at O
 rw[d,G] at hx⊢
 have y:Aside (AN B (.agg #[.bool false,.slice aE x.Ao.length cE,.slice (some ⟨kb,ko,none⟩) (n+1) cK]) x∧x.leaf=false∧x.kids.length=n+1):=⟨hx,d,G⟩
 obtain ⟨ne,ac⟩: ∃ne,x.Ao.length=ne:=⟨_,rfl⟩
 rw[ac] at y au⊢
 obtain ⟨z1,z2,z3,z4⟩:=z
 have m:Aside (M.bind (Cd Ah Ag f ⟨⟨X,Y,Z,a4⟩,U⟩ ⟨⟨z1,z2,z3,z4⟩,g-1⟩) (fun r=>M.bind (Bt Ag (both ⟨false,[],r.1⟩ (Cq x 1 (n+1)))) fun out=>M.pure (out,g)) s1=R):=O
 have c2:=fun F w q=>IH h s1 ⟨⟨X,Y,Z,a4⟩,U⟩ ⟨⟨z1,z2,z3,z4⟩,g-1⟩ F w q a9 (by simp only;omega) (by simp only;omega) (by simp only;omega) (AK m.out HB.out)
 unfold AH at c2
 simp only at c2 k1 k2 k3 k4
 have hcut:=fun F w q=>NS x 1 (n+1) _ B F w y.out.1 q (by omega) (by rw[y.out.2.1,y.out.2.2];simp)
 have W:Aside (∀F w,Sat (B*F) w→Calls Tryz.prog 166 #[.agg #[.bool false,.slice aE ne cE,.slice (some ⟨kb,ko,none⟩) (n+1) cK],.int .i64 1,.int .i64 ((n:Int)+1)] w fun e w'=> ∃v',e= .returned v'∧AN B v' (Cq x 1 (n+1))∧Sat (B*F) w'):=by rw[Int.natCast_add] at hcut;exact hcut
 have HM:Aside (n≤11):=(by omega:n≤11)
 have bm:(n:Int)≤11:=by omega
 have c7:(n:Int)<(n:Int)+1:=by omega
 have c8:IntKind.i64.wrap (g-1)=g-1:=IntWalk.i64_in _ (by omega)
 haveI:=q1.i
 clear hx hE hK hk hn G O hcut ac d mx p HR HU c1
 go_upto_region 8 with (fail)
 go_cut [13,14] (fun b7 b8 wx=> ∃(c:List Kd)(rh:Int)(s2:TS)(H:Ac)(I:Option Addr)(K:Nat),b7= .slice I c.length K∧b8= .int .i64 rh∧Aside (M.bind (Bt Ag (both ⟨false,[],c⟩ (Cq x 1 (n+1)))) (fun out=>M.pure (out,g)) s2=R)∧Aside (B1 H (.slice I c.length K) c∧c.length≤2)∧
  Sat (Ad h s2*(H*(B*(Sl.block w1.heap.size Ev [.bool false,.slice aE ne cE,.slice (some ⟨kb,ko,none⟩) (n+1) cK]*(Sl.block (w.heap.size+1) CG [.int .i64 J,.int .i64 b2,.int .i64 b3,.int .i64 b4,.int .i64 g]*F))))) wx)
 case first =>
  go_region_law (first
   |(
      go_simp
      go_at_call 145
      with_reducible refine Calls.mono (c2 _ _ (Ae (Ad h s1))) ?_
      rintro e w2 h2
      obtain ⟨r2,k⟩: ∃r,r=Cd Ah Ag f ⟨⟨X,Y,Z,a4⟩,U⟩ ⟨⟨z1,z2,z3,z4⟩,g-1⟩ s1:=⟨_,rfl⟩
      rw[←k] at h2
      rcases r2 with ⟨rr,s2⟩|⟨V,s2⟩|_
      rotate_left
      · obtain ⟨rfl,q2⟩:=h2
        haveI:=q2.i
        have o:=AL m.out k.symm
        subst o
        exact ⟨rfl,rfl,Av _ _⟩
      · exact absurd (B3 m.out k.symm) HB.out
      obtain ⟨v2,H,rfl,⟨vk,rfl,D⟩,q2⟩:=h2
      have aa:=AJ m.out k.symm
      have Q:=LK k.symm
      obtain ⟨c,rh⟩:=rr
      simp only at D Q
      have j:Aside (M.bind (Bt Ag (both ⟨false,[],c⟩ (Cq x 1 (n+1)))) (fun out=>M.pure (out,g)) s2=R):=aa
      obtain ⟨I,K,rfl,c6,_⟩:=Al.v D
      haveI:=q2.i
      have l:Aside (B1 H (.slice I c.length K) c∧c.length≤2):=⟨D,Q⟩
      clear D aa k Q))
  all_goals
   go_wp2
   go_meet
   exact ⟨c,rh,s2,H,I,K,rfl,rfl,j,l,EH _ _ _ _ _ _⟩
 obtain ⟨c,rh,s2,H,I,K,rfl,rfl,j,l,q9⟩:=hcut
 haveI:=q9.i
 have am:Aside (many (both ⟨false,[],c⟩ (Cq x 1 (n+1)))≤65536):=by
  have h1:=(GJ y.out.2.1 1 (n+1)).2.2
  have h2:=y.out.2.2
  have h3:=HM.out
  have h4:=l.out.2
  have h5:many (⟨false,[],c⟩:Nd)=c.length:=by simp[many]
  show many _≤_
  rw[EL,h5]
  omega
 clear q1 k1 k2 k3 k4 c2 m
 go_upto_region 9 with (fail)
 go_region_law (first
  |(
     go_simp
     go_at_call 166
     with_reducible refine Calls.mono (W.out _ _ (Ae B)) ?_
     rintro e w3 ⟨v3,rfl,ad,q3⟩
     haveI:=q3.i
     have c4:=fun F w q=>MD ⟨false,[],c⟩ (Cq x 1 (n+1)) (.agg #[.bool false,.slice none 0 0,.slice I c.length K]) v3 (B*H) F w (AN.right (IJ l.out.1)) (AN.left ad) q (by simp) (by have:=GJ y.out.2.1 1 (n+1);omega) (by show c.length≤65536;have:=l.out.2;omega) (by have:=GJ y.out.2.1 1 (n+1);have:=y.out.2.2;have:=HM.out;omega)
     clear ad)
  |(
     go_simp
     go_at_call 169
     with_reducible refine Calls.mono (c4 _ _ (XN B H)) ?_
     rintro e w4 ⟨v4,G4,rfl,ae,q4⟩
     haveI:=q4.i
     have ap:=fun F w q=>FY h s2 (both ⟨false,[],c⟩ (Cq x 1 (n+1))) v4 G4 F w ae q (V3 y.out.2.1 1 (n+1) c) am.out (AK j.out HB.out)
     clear ae)
  |(
     go_simp
     go_at_call 137
     with_reducible refine Calls.mono (ap _ _ (AY (Ad h s2) G4)) ?_
     rintro e w5 h5
     obtain ⟨r5,u⟩: ∃r,r=Bt Ag (both ⟨false,[],c⟩ (Cq x 1 (n+1))) s2:=⟨_,rfl⟩
     rw[←u] at h5
     rcases r5 with ⟨out,s5⟩|⟨V,s5⟩|_
     rotate_left
     · obtain ⟨rfl,q5⟩:=h5
       haveI:=q5.i
       have o:=AL j.out u.symm
       subst o
       exact ⟨rfl,rfl,Av _ _⟩
     · exact absurd (B3 j.out u.symm) HB.out
     obtain ⟨v5,G5,rfl,af,q5⟩:=h5
     have az:B1 G5 v5 out:=af
     haveI:=q5.i
     have ab:=AJ j.out u.symm
     have aw:R= .ok (out,g) s5:=ab.symm
     clear af u ab))
 all_goals
  subst aw
  go_wp2
  go_ret2
  exact ⟨_,G5,rfl,⟨v5,rfl,az⟩,AR _ _ _⟩
theorem Nj: ∀f:Nat,VY f
 |0=>fun h s a b F w hs _ _ _ _ hb=>absurd rfl hb
 | f + 1 => fun h s a b F w hs d e g i hb => by
  rcases Int.lt_trichotomy a.An b.An with c|c|c
  ·exact YB f (Nj f) h s a b F w hs c d i hb
  ·exact Vq f h s a b F w hs c hb
  exact YA f (Nj f) h s a b F w hs c g e hb
