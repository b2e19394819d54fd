/- treeFails holds for every input. No condition. (part 29) -/
import Derived.Test.YtfhbmblbidcmmaaGreatYa28
set_option linter.all false
set_option maxRecDepth 100000
set_option maxHeartbeats 6400000
namespace Go.Proofs.YtfhbmblbidcmmaaGreat
open Go.RowKit Go.Sl Go.Dk Go.Tr
theorem SN{α:Type}{l:List α}{z:α}(h:l.getLast?=some z): ∃i,l=i++ [z]:=by
 refine ⟨l.dropLast,?_⟩
 have a:l≠ []:=by rintro rfl;cases h
 rw[List.getLast?_eq_some_getLast a] at h
 cases h
 exact (List.dropLast_concat_getLast a).symm
theorem Xt{x:Nd}(hl:x.leaf=false)(i j:Nat)(ks:List Kd):Pure (both (Cq x i j) ⟨false,[],ks⟩):=by
 unfold Pure both Cq many
 rw[hl]
 simp
theorem V3{x:Nd}(hl:x.leaf=false)(i j:Nat)(ks:List Kd):Pure (both ⟨false,[],ks⟩ (Cq x i j)):=by
 unfold Pure both Cq many
 rw[hl]
 simp
theorem GJ{x:Nd}(hl:x.leaf=false)(i j:Nat):(Cq x i j).Ao.length=0∧(Cq x i j).kids.length≤x.kids.length∧many (Cq x i j)≤x.kids.length:=by
 unfold Cq many
 rw[hl]
 simp[sub]
 omega
theorem YA(f : Nat)(IH : VY f)(h : Th)(s : TS)(a b : BH)(F : Ac)(w : World)(hs : Sat (Ad h s * F) w)(a6 : b.An < a.An)(a7 : -1 ≤ b.An)(aw : a.An ≤ 1000)(hb : Cd Ah Ag (f + 1) a b s ≠ .bad) :
 Calls Tryz.prog 145 #[.pointer (some ⟨h.t,0,none⟩),AH a,AH b] w (D4 h F (Cd Ah Ag (f+1) a b s) TQ):=by
 obtain ⟨⟨H,a2,a3,a4⟩,j⟩:=a
 obtain ⟨⟨W,b2,X,Y⟩,Z⟩:=b
 simp only at a6 a7 aw
 obtain ⟨R,K⟩: ∃R,Cd Ah Ag (f+1) ⟨⟨H,a2,a3,a4⟩,j⟩ ⟨⟨W,b2,X,Y⟩,Z⟩ s=R:=⟨_,rfl⟩
 rw[K] at hb⊢
 have HB:Aside (R≠ .bad):=hb
 unfold Cd at K
 simp only[a6,if_true] at K
 have T:=AK K hb
 have c1:=fun F w q=>C7 h s H F w q T
 have HR:Aside (∀x s1,Ah H s= .ok x s1→ ∃i z,x.kids=i++ [z]∧x.leaf=false∧M.bind (Cd Ah Ag f ⟨z,j-1⟩ ⟨⟨W,b2,X,Y⟩,Z⟩) (fun r=>M.bind (Bt Ag (both (Cq x 0 i.length) ⟨false,[],r.1⟩)) fun out=>M.pure (out,j)) s1=R):=fun x s1 hm=>by
  have O:=AJ K hm
  cases hz:x.kids.getLast? with
  |none=>simp only[hz] at O;exact absurd O.symm hb
  | some z =>
    obtain ⟨i,hi⟩:=SN hz
    simp only[hz] at O
    by_cases d:x.leaf=true
    · rw[if_pos d] at O;exact absurd O.symm hb
    rw[if_neg d] at O
    refine ⟨i,z,hi,by simpa using d,?_⟩
    have e:i.length=x.kids.length-1:=by rw[hi];simp
    rw[e]
    exact O
 have HU:Aside ((∀U s1,Ah H s= .fault U s1→R= .fault U s1)∧Ah H s≠ .bad):=⟨fun U s1 hm=>AL K hm,T⟩
 unfold AH
 haveI:=hs.i
 clear hb K T
 go_enter Tryz.func145,Tryz.ntmps145
 go_wp2_with fail
 with_reducible refine Calls.mono (c1 _ _ (Ae (Ad h s))) ?_
 rintro e w1 h1
 obtain ⟨r1,p⟩: ∃r,r=Ah H s:=⟨_,rfl⟩
 rw[←p] at h1
 rcases r1 with ⟨x,s1⟩|⟨U,s1⟩|_
 rotate_left
 · obtain ⟨rfl,q1⟩:=h1
   haveI:=q1.i
   have o:=HU.out.1 _ _ p.symm
   subst o
   exact ⟨rfl,rfl,Av _ _⟩
 · exact absurd p.symm HU.out.2
 obtain ⟨v1,B,rfl,⟨hx,mx⟩,q1⟩:=h1
 obtain ⟨i,z,hk,d,L⟩:=HR.out _ _ p.symm
 obtain ⟨vE,vK,rfl,hE,hK⟩:=id hx
 obtain ⟨aE,cE,rfl,ar,bx⟩:=hE.v
 obtain ⟨aK,cK,rfl,bz,c0⟩:=hK.v
 obtain ⟨n,hn⟩: ∃n,i.length=n:=⟨_,rfl⟩
 have P:x.kids.length=n+1:=by rw[hk];simp[hn]
 have bw:=(Cl mx).2
 obtain ⟨kb,ko,rfl,k1,k2,k3,k4⟩:=Dc hK (i:=n) (x:=z) (by rw[hk,←hn];simp)
 rw[hn] at L
 rw[d,P] at hx⊢
 have y:Aside (AN B (.agg #[.bool false,.slice aE x.Ao.length cE,.slice (some ⟨kb,ko,none⟩) (n+1) cK]) x∧x.leaf=false∧x.kids.length=n+1):=⟨hx,d,P⟩
 obtain ⟨ne,aa⟩: ∃ne,x.Ao.length=ne:=⟨_,rfl⟩
 rw[aa] at y ar⊢
 obtain ⟨z1,z2,z3,z4⟩:=z
 have m:Aside (M.bind (Cd Ah Ag f ⟨⟨z1,z2,z3,z4⟩,j-1⟩ ⟨⟨W,b2,X,Y⟩,Z⟩) (fun r=>M.bind (Bt Ag (both (Cq x 0 n) ⟨false,[],r.1⟩)) fun out=>M.pure (out,j)) s1=R):=L
 have c2:=fun F w q=>IH h s1 ⟨⟨z1,z2,z3,z4⟩,j-1⟩ ⟨⟨W,b2,X,Y⟩,Z⟩ F w q (by simp only;omega) (by simp only;omega) a7 (by simp only;omega) (AK m.out HB.out)
 unfold AH at c2
 simp only at c2 k1 k2 k3 k4
 have hcut:=fun F w q=>NS x 0 n _ B F w y.out.1 q (by omega) (by rw[y.out.2.1,y.out.2.2];simp)
 have V:Aside (∀F w,Sat (B*F) w→Calls Tryz.prog 166 #[.agg #[.bool false,.slice aE ne cE,.slice (some ⟨kb,ko,none⟩) (n+1) cK],.int .i64 0,.int .i64 n] w fun e w'=> ∃v',e= .returned v'∧AN B v' (Cq x 0 n)∧Sat (B*F) w'):=hcut
 have HM:Aside (n≤11):=(by omega:n≤11)
 have bn:(n:Int)≤11:=by omega
 have c6:(n:Int)<(n:Int)+1:=by omega
 have c7:IntKind.i64.wrap (j-1)=j-1:=IntWalk.i64_in _ (by omega)
 haveI:=q1.i
 clear hx hE hK hk hn P L hcut aa d mx p HR HU c1
 go_upto_region 4 with (fail)
 go_cut [10,11] (fun b7 b8 wx=> ∃(c:List Kd)(rh:Int)(s2:TS)(G:Ac)(I:Option Addr)(J:Nat),b7= .slice I c.length J∧b8= .int .i64 rh∧Aside (M.bind (Bt Ag (both (Cq x 0 n) ⟨false,[],c⟩)) (fun out=>M.pure (out,j)) s2=R)∧Aside (B1 G (.slice I c.length J) c∧c.length≤2)∧
  Sat (Ad h s2*(G*(B*(Sl.block w1.heap.size Ev [.bool false,.slice aE ne cE,.slice (some ⟨kb,ko,none⟩) (n+1) cK]*(Sl.block w.heap.size CG [.int .i64 H,.int .i64 a2,.int .i64 a3,.int .i64 a4,.int .i64 j]*F))))) wx)
 case first =>
  go_region_law (first
   |(
      go_simp
      go_at_call 145
      with_reducible refine Calls.mono (c2 _ _ (Ae (Ad h s1))) ?_
      rintro e w2 h2
      obtain ⟨r2,k⟩: ∃r,r=Cd Ah Ag f ⟨⟨z1,z2,z3,z4⟩,j-1⟩ ⟨⟨W,b2,X,Y⟩,Z⟩ s1:=⟨_,rfl⟩
      rw[←k] at h2
      rcases r2 with ⟨rr,s2⟩|⟨U,s2⟩|_
      rotate_left
      · obtain ⟨rfl,q2⟩:=h2
        haveI:=q2.i
        have o:=AL m.out k.symm
        subst o
        exact ⟨rfl,rfl,Av _ _⟩
      · exact absurd (B3 m.out k.symm) HB.out
      obtain ⟨v2,G,rfl,⟨vk,rfl,D⟩,q2⟩:=h2
      have a8:=AJ m.out k.symm
      have Q:=LK k.symm
      obtain ⟨c,rh⟩:=rr
      simp only at D Q
      have g:Aside (M.bind (Bt Ag (both (Cq x 0 n) ⟨false,[],c⟩)) (fun out=>M.pure (out,j)) s2=R):=a8
      obtain ⟨I,J,rfl,c3,_⟩:=Al.v D
      haveI:=q2.i
      have l:Aside (B1 G (.slice I c.length J) c∧c.length≤2):=⟨D,Q⟩
      clear D a8 k Q))
  all_goals
   go_wp2
   go_meet
   exact ⟨c,rh,s2,G,I,J,rfl,rfl,g,l,EH _ _ _ _ _ _⟩
 obtain ⟨c,rh,s2,G,I,J,rfl,rfl,g,l,q9⟩:=hcut
 haveI:=q9.i
 have al:Aside (many (both (Cq x 0 n) ⟨false,[],c⟩)≤65536):=by
  have h1:=(GJ y.out.2.1 0 n).2.2
  have h2:=y.out.2.2
  have h3:=HM.out
  have h4:=l.out.2
  have h5:many (⟨false,[],c⟩:Nd)=c.length:=by simp[many]
  show many _≤_
  rw[EL,h5]
  omega
 clear q1 k1 k2 k3 k4 c2 m
 go_upto_region 5 with (fail)
 go_region_law (first
  |(
     go_simp
     go_at_call 166
     with_reducible refine Calls.mono (V.out _ _ (Ae B)) ?_
     rintro e w3 ⟨v3,rfl,ab,q3⟩
     haveI:=q3.i
     have c4:=fun F w q=>MD (Cq x 0 n) ⟨false,[],c⟩ v3 (.agg #[.bool false,.slice none 0 0,.slice I c.length J]) (B*G) F w (AN.left ab) (AN.right (IJ l.out.1)) q (by have:=GJ y.out.2.1 0 n;omega) (by simp) (by have:=GJ y.out.2.1 0 n;have:=y.out.2.2;have:=HM.out;omega) (by show c.length≤65536;have:=l.out.2;omega)
     clear ab)
  |(
     go_simp
     go_at_call 169
     with_reducible refine Calls.mono (c4 _ _ (XN B G)) ?_
     rintro e w4 ⟨v4,G4,rfl,ac,q4⟩
     haveI:=q4.i
     have ao:=fun F w q=>FY h s2 (both (Cq x 0 n) ⟨false,[],c⟩) v4 G4 F w ac q (Xt y.out.2.1 0 n c) al.out (AK g.out HB.out)
     clear ac)
  |(
     go_simp
     go_at_call 137
     with_reducible refine Calls.mono (ao _ _ (AY (Ad h s2) G4)) ?_
     rintro e w5 h5
     obtain ⟨r5,u⟩: ∃r,r=Bt Ag (both (Cq x 0 n) ⟨false,[],c⟩) s2:=⟨_,rfl⟩
     rw[←u] at h5
     rcases r5 with ⟨out,s5⟩|⟨U,s5⟩|_
     rotate_left
     · obtain ⟨rfl,q5⟩:=h5
       haveI:=q5.i
       have o:=AL g.out u.symm
       subst o
       exact ⟨rfl,rfl,Av _ _⟩
     · exact absurd (B3 g.out u.symm) HB.out
     obtain ⟨v5,G5,rfl,ad,q5⟩:=h5
     have ay:B1 G5 v5 out:=ad
     haveI:=q5.i
     have a9:=AJ g.out u.symm
     have av:R= .ok (out,j) s5:=a9.symm
     clear ad u a9))
 all_goals
  subst av
  go_wp2
  go_ret2
  exact ⟨_,G5,rfl,⟨v5,rfl,ay⟩,AR _ _ _⟩
