/- treeFails holds for every input. No condition. (part 32) -/
import Derived.Test.YtfhbmblbidcmmaaGreatYa31
import Derived.Deep.RegionHeld2
set_option linter.all false
set_option maxRecDepth 100000
set_option maxHeartbeats 12800000
namespace Go.Tr
theorem Xp{l:List As}{n:Int}{k r:Nat}(h:EJ l n k=some r)(a:0<n): ∃x b,l=x::b∧EJ b (n-x.len) (k+1)=some r:=by
 cases l with
 |nil=>unfold EJ at h;simp only[if_pos a] at h;cases h
 |cons x l=>unfold EJ at h;simp only[if_pos a] at h;exact ⟨x,l,rfl,h⟩
theorem Ti{l:List As}{n:Int}{k r:Nat}(h:EJ l n k=some r)(a: ¬0<n):r=k:=by
 cases l with
 |nil=>unfold EJ at h;simp only[if_neg a] at h;exact (Option.some.inj h).symm
 |cons x l=>unfold EJ at h;simp only[if_neg a] at h;exact (Option.some.inj h).symm
theorem Ud{α:Type}{l b:List α}{x:α}{j:Nat}(h:l.drop j=x::b):l[j]?=some x∧l.drop (j+1)=b∧j<l.length:=by
 have c:l[j]?=some x:=by
  have:=congrArg List.head? h
  simpa using this
 refine ⟨c,?_,?_⟩
 · have:=congrArg List.tail h
   simpa using this
 rcases Nat.lt_or_ge j l.length with a|a
 · exact a
 rw[List.drop_of_length_le a] at h;cases h
end Go.Tr
namespace Go.Proofs.YtfhbmblbidcmmaaGreat
open Go.RowKit Go.Sl Go.Dk Go.Tr
theorem R3(f:Nat)(h:Th)(s:TS)(x:BH)(n:Int)(F:Ac)(w:World)(hs:Sat (Ad h s*F) w)(h1: ¬n≤0)(h2: ¬x.DK.bytes≤n)(bp:n≤1099511627776)
 (o: ∀y s2,Ah x.DK.Ay s= .ok y s2→y.leaf=true) (hb:Be Ah Ag (f+1) x n s≠ .bad):
 Calls Tryz.prog 98 #[.pointer (some ⟨h.t,0,none⟩),AH x,.int .i64 n] w (D4 h F (Be Ah Ag (f+1) x n s) Ox):=by
 obtain ⟨i0,E⟩:=FK
 obtain ⟨R,Q⟩: ∃R,Be Ah Ag (f+1) x n s=R:=⟨_,rfl⟩
 rw[Q] at hb⊢
 have HB:Aside (R≠ .bad):=hb
 unfold Be at Q
 rw[if_neg h1,if_neg h2] at Q
 obtain ⟨⟨x1,x2,x3,x4⟩,xh⟩:=x
 simp only at h2 Q o
 have V:=AK Q hb
 have c1:=fun F w q=>C7 h s x1 F w q V
 have HR:Aside (∀y s2,Ah x1 s= .ok y s2→y.leaf=true∧ ∃k,EJ y.Ao n 0=some k∧M.bind (BO Ag (y.Ao.take k)) (fun a=>M.bind (BO Ag (y.Ao.drop k)) fun b=>M.pure (a,b)) s2=R):=fun y s2 hm=>by
  have K:=AJ Q hm
  rw[if_pos (o y s2 hm)] at K
  refine ⟨o y s2 hm,?_⟩
  cases hp:EJ y.Ao n 0 with
  |none=>rw[hp] at K;exact absurd K.symm hb
  |some k=>rw[hp] at K;exact ⟨k,rfl,K⟩
 have HU:Aside ((∀er s1,Ah x1 s= .fault er s1→R= .fault er s1)∧Ah x1 s≠ .bad):=⟨fun er s1 hm=>AL Q hm,V⟩
 unfold AH
 haveI:=hs.i
 clear hb Q V o
 go_enter Tryz.func98,Tryz.ntmps98
 go_wp2_with fail
 with_reducible refine Calls.mono (c1 _ _ (Ae (Ad h s))) ?_
 rintro e w1 Z
 obtain ⟨r1,u⟩: ∃r,r=Ah x1 s:=⟨_,rfl⟩
 rw[←u] at Z
 rcases r1 with ⟨y,s2⟩|⟨er,s2⟩|_
 rotate_left
 · obtain ⟨rfl,q1⟩:=Z
   haveI:=q1.i
   have p:=HU.out.1 _ _ u.symm
   subst p
   exact ⟨rfl,rfl,Av _ _⟩
 · exact absurd u.symm HU.out.2
 obtain ⟨v1,O,rfl,⟨hx,U⟩,q1⟩:=Z
 obtain ⟨o,k,X,K⟩:=HR.out _ _ u.symm
 obtain ⟨se,sk,rfl,hE,hK⟩:=hx
 obtain ⟨J,d,rfl,a5,bl⟩:=hE.v
 obtain ⟨a2,c2,rfl,aw,bm⟩:=Al.v hK
 obtain ⟨aa,ab⟩:=Cl U
 have a4:Aside (may y=true):=U
 obtain ⟨lf,es,ks⟩:=y
 simp only at hE aa ab a5 X K o⊢
 subst o
 obtain ⟨ne,W⟩: ∃ne,es.length=ne:=⟨_,rfl⟩
 obtain ⟨nk,ad⟩: ∃nk,ks.length=nk:=⟨_,rfl⟩
 have H:Aside (Aq O (.slice J es.length d) es∧es.length=ne):=⟨hE,W⟩
 rw[W] at aa a5⊢
 rw[ad] at ab aw⊢
 have HP:Aside (EJ es n 0=some k∧M.bind (BO Ag (es.take k)) (fun a=>M.bind (BO Ag (es.drop k)) fun b=>M.pure (a,b)) s2=R):=⟨X,K⟩
 haveI:=q1.i
 clear hE hK U W ad X K u HR HU c1
 go_wp2_with fail
 have T:Sat (Ad h s2*(O*(Sl.block w1.heap.size Ev [.bool true,.slice J ne d,.slice a2 nk c2]*(Sl.block (w.heap.size+1+1) CG [.int .i64 0,.int .i64 0,.int .i64 0,.int .i64 0,.int .i64 0]*(Sl.block (w.heap.size+1) CG [.int .i64 0,.int .i64 0,.int .i64 0,.int .i64 0,.int .i64 0]*F))))) (w1.alloc (.cells #[.bool true,.slice J ne d,.slice a2 nk c2] Ev)):=Br (C:=Sl.block w.heap.size CG [.int .i64 x1,.int .i64 x2,.int .i64 x3,.int .i64 x4,.int .i64 xh]) (by ac_rfl)
 obtain ⟨N,hN⟩: ∃N,w.heap.size=N:=⟨_,rfl⟩
 obtain ⟨N8,a6⟩: ∃N,w1.heap.size=N:=⟨_,rfl⟩
 rw[hN,a6] at T⊢
 clear hN a6 q1 hs this
 go_loopg [2,9] ne (fun g t2 t9 wr=> ∃(j:Nat)(G:Int),t2= .int .i64 G∧t9= .int .i64 j∧j≤ne∧G≤1099511627776∧ -1048576≤G∧Aside (g=ne-j∧EJ (es.drop j) G j=some k)∧
  Sat (Ad h s2*(O*(Sl.block N8 Ev [.bool true,.slice J ne d,.slice a2 nk c2]*(Sl.block (N+1+1) CG [.int .i64 0,.int .i64 0,.int .i64 0,.int .i64 0,.int .i64 0]*(Sl.block (N+1) CG [.int .i64 0,.int .i64 0,.int .i64 0,.int .i64 0,.int .i64 0]*F))))) wr)
 case atStart=>exact ⟨0,n,rfl,rfl,by omega,by omega,by omega,⟨rfl,HP.out.1⟩,T⟩
 obtain ⟨j,G,rfl,rfl,hj,bn,bo,A,b2⟩:=hrel
 clear T
 haveI:=b2.i
 by_cases ac:0<G
 · obtain ⟨y,l',hd,Y⟩:=Xp A.out.2 ac
   obtain ⟨hy,a7,b1⟩:=Ud hd
   rw[H.out.2] at b1
   have bg:(j:Int)<ne:=by omega
   rw[←a7] at Y
   have HS:Aside (EJ (es.drop (j+1)) (G-y.len) (j+1)=some k):=Y
   obtain ⟨b,q,rfl,r1,r2,r3,r4⟩:=BW H.out.1 hy
   have L:=((Db a4.out).1 y (List.mem_of_getElem? hy)).2
   unfold Ai at L
   simp only[decide_eq_true_eq] at L
   obtain ⟨y1,y2,y3,y4⟩:=y
   simp only at L r1 r2 r3 r4 HS
   have br:1≤y3:=by omega
   have bs:y3≤1048576:=by omega
   have bq:IntKind.i64.wrap (G-y3)=G-y3:=IntWalk.i64_in _ (by omega)
   clear L hy hd a7 Y
   go_wp2
   go_roundg (ne-(j+1))
   case measure=>have:=A.out.1;omega
   case rel=>exact ⟨j+1,G-y3,rfl,by go_num,by omega,by omega,by omega,⟨rfl,HS.out⟩,EH _ _ _ _ _ _⟩
 obtain rfl:=Ti A.out.2 ac
 have HQ:Aside (M.bind (BO Ag (es.take k)) (fun a=>M.bind (BO Ag (es.drop k)) fun b=>M.pure (a,b)) s2=R):=HP.out.2
 have l:=Ka H.out.1 (i:=0) (j:=k) (by omega) (by rw[H.out.2];exact hj)
 have m:=Ka H.out.1 (i:=k) (j:=es.length) (by rw[H.out.2];exact hj) (Nat.le_refl _)
 have e1:sub es 0 k=es.take k:=by simp[sub]
 have e2:sub es k es.length=es.drop k:=by unfold sub;rw[←List.length_drop,List.take_length]
 rw[e1,Nat.sub_zero,Nat.sub_zero] at l
 rw[e2,H.out.2] at m
 have ay:=LP (P:=Tryz.prog) E (a:=J) (n:=ne) (c:=d) k (by omega)
 have az:=Gb (P:=Tryz.prog) E (a:=J) (n:=ne) (c:=d) k hj
 obtain ⟨z1,ae⟩: ∃z,BP J d 0 4=z:=⟨_,rfl⟩
 obtain ⟨z2,af⟩: ∃z,BP J d k 4=z:=⟨_,rfl⟩
 rw[ae] at ay l
 rw[af] at az m
 have aq:=fun F w q=>FR h s2 (es.take k) _ O F w l q (by rw[List.length_take,H.out.2];omega) (AK HQ.out HB.out)
 have HC:Aside (Aq O (.slice z2 (ne-k) (d-k)) (es.drop k)):=m
 clear l m e1 e2 ae af A HP a4
 go_wp2_with fail
 go_region_held2 (fun w'=>w'.cell? ⟨N8,1,none⟩=some (.slice J ne d)) (first|exact Aa _ _ _) (first
  |(
    go_at_call 84
    with_reducible refine Calls.mono (aq _ _ (AY (Ad h s2) O)) ?_
    rintro e w3 h3
    obtain ⟨r3,B⟩: ∃r,r=BO Ag (es.take k) s2:=⟨_,rfl⟩
    rw[←B] at h3
    rcases r3 with ⟨ta,s3⟩|⟨er,s3⟩|_
    rotate_left
    ·obtain ⟨rfl,q3⟩:=h3
     haveI:=q3.i
     have p:=AL HQ.out B.symm
     subst p
     exact ⟨rfl,rfl,Av _ _⟩
    ·exact absurd (B3 HQ.out B.symm) HB.out
    obtain ⟨v3,G3,rfl,⟨rfl,rfl⟩,q3⟩:=h3
    rw[Am] at q3
    haveI:=q3.i
    have a8:=AJ HQ.out B.symm
    have I:Aside (M.bind (BO Ag (es.drop k)) (fun b=>M.pure (ta,b)) s3=R):=a8
    have ar:=fun F w q=>FR h s3 (es.drop k) _ O F w HC.out q (by rw[List.length_drop,H.out.2];omega) (AK I.out HB.out)
    clear a8 B
    obtain ⟨⟨p1,p2,p3,p4⟩,ph⟩:=ta
    unfold AH)
  |(
    go_at_call 84
    with_reducible refine Calls.mono (ar _ _ (AY (Ad h s3) O)) ?_
    rintro e w4 h4
    obtain ⟨r4,D⟩: ∃r,r=BO Ag (es.drop k) s3:=⟨_,rfl⟩
    rw[←D] at h4
    rcases r4 with ⟨tb,s4⟩|⟨er,s4⟩|_
    rotate_left
    ·obtain ⟨rfl,T⟩:=h4
     haveI:=T.i
     have p:=AL I.out D.symm
     subst p
     exact ⟨rfl,rfl,Av _ _⟩
    ·exact absurd (B3 I.out D.symm) HB.out
    obtain ⟨v4,G4,rfl,⟨rfl,rfl⟩,T⟩:=h4
    rw[Am] at T
    haveI:=T.i
    have a9:=AJ I.out D.symm
    have ax:R= .ok (⟨⟨p1,p2,p3,p4⟩,ph⟩,tb) s4:=a9.symm
    clear a9 D
    obtain ⟨⟨o1,o2,o3,o4⟩,oh⟩:=tb
    unfold AH))
 all_goals
  subst ax
  go_wp2
  go_returns
  exact ⟨_,1,rfl,⟨rfl,rfl⟩,by rw[Am];exact Av _ _⟩
end Go.Proofs.YtfhbmblbidcmmaaGreat
namespace Go.Tr
theorem Xq{l:List Kd}{n:Int}{k:Nat}{r:Nat×Int}(h:GO l n k=some r): ∃x b,l=x::b∧((x.bytes≤n∧GO b (n-x.bytes) (k+1)=some r)∨(¬x.bytes≤n∧r=(k,n))):=by
 cases l with
 |nil=>cases h
 | cons x l =>
  unfold GO at h
  by_cases a:x.bytes≤n
  ·rw[if_pos a] at h;exact ⟨x,l,rfl,.inl ⟨a,h⟩⟩
  rw[if_neg a] at h;exact ⟨x,l,rfl,.inr ⟨a,(Option.some.inj h).symm⟩⟩
end Go.Tr
namespace Go.Proofs.YtfhbmblbidcmmaaGreat
open Go.RowKit Go.Sl Go.Dk Go.Tr
def Ry(f : Nat)(c : Int)(ks : List Kd)(k : Nat)(r : Int) : M TS (BH × BH) :=
 if r=0 then M.bind (CE Ag (ks.take k) c) fun a=>M.bind (CE Ag (ks.drop k) c) fun b=>M.pure (a,b)
 else match ks[k]? with
  |none=>M.bad
  | some z => M.bind (Be Ah Ag f ⟨z, c - 1⟩ r) fun p =>
   M.bind (CE Ag (ks.take k) c) fun a=>M.bind (DT Ah Ag a p.1) fun a=>
   M.bind (CE Ag (ks.drop (k+1)) c) fun b=>M.bind (DT Ah Ag p.2 b) fun b=>M.pure (a,b)
def PD(f:Nat):Prop:= ∀(h:Th)(s:TS)(x:BH)(n:Int)(F:Ac)(w:World),Sat (Ad h s*F) w→(f:Int)-700≤x.An→x.An≤500→f≤30→n≤1099511627776→Be Ah Ag f x n s≠ .bad→
 Calls Tryz.prog 98 #[.pointer (some ⟨h.t,0,none⟩),AH x,.int .i64 n] w (D4 h F (Be Ah Ag f x n s) Ox)
theorem Vz(f : Nat)(ih : PD f)(h : Th)(s : TS)(x : BH)(n : Int)(F : Ac)(w : World)(hs : Sat (Ad h s * F) w)(h1 : ¬ n ≤ 0)(h2 : ¬ x.DK.bytes ≤ n)(e9 : n ≤ 1099511627776)
 (cq:(f:Int)-699≤x.An) (cr:x.An≤500) (hf:f≤29)
 (K: ∀y s2,Ah x.DK.Ay s= .ok y s2→y.leaf=false) (hb:Be Ah Ag (f+1) x n s≠ .bad):
 Calls Tryz.prog 98 #[.pointer (some ⟨h.t,0,none⟩),AH x,.int .i64 n] w (D4 h F (Be Ah Ag (f+1) x n s) Ox):=by
 obtain ⟨i1,E⟩:=MH
 obtain ⟨R,hR⟩: ∃R,Be Ah Ag (f+1) x n s=R:=⟨_,rfl⟩
 rw[hR] at hb⊢
 have O:Aside (R≠ .bad):=hb
 have HI:Aside (PD f):=ih
 unfold Be at hR
 rw[if_neg h1,if_neg h2] at hR
 obtain ⟨⟨x1,x2,x3,x4⟩,l⟩:=x
 simp only at h2 hR K cq cr
 have b4:=AK hR hb
 have c1:=fun F w q=>C7 h s x1 F w q b4
 have HR:Aside (∀y s2,Ah x1 s= .ok y s2→y.leaf=false∧ ∃k r,GO y.kids n 0=some (k,r)∧Ry f l y.kids k r s2=R):=fun y s2 hm=>by
  have hg:=AJ hR hm
  rw[if_neg (by rw[K y s2 hm];simp)] at hg
  refine ⟨K y s2 hm,?_⟩
  cases hp:GO y.kids n 0 with
  |none=>rw[hp] at hg;exact absurd hg.symm hb
  |some kr=>rw[hp] at hg;exact ⟨kr.1,kr.2,rfl,hg⟩
 have HU:Aside ((∀er s1,Ah x1 s= .fault er s1→R= .fault er s1)∧Ah x1 s≠ .bad):=⟨fun er s1 hm=>AL hR hm,b4⟩
 unfold AH
 haveI:=hs.i
 clear hb hR b4 K ih
 go_enter Tryz.func98,Tryz.ntmps98
 go_wp2_with fail
 with_reducible refine Calls.mono (c1 _ _ (Ae (Ad h s))) ?_
 rintro e w1 b7
 obtain ⟨r1,aa⟩: ∃r,r=Ah x1 s:=⟨_,rfl⟩
 rw[←aa] at b7
 rcases r1 with ⟨y,s2⟩|⟨er,s2⟩|_
 rotate_left
 · obtain ⟨rfl,q1⟩:=b7
   haveI:=q1.i
   have m:=HU.out.1 _ _ aa.symm
   subst m
   exact ⟨rfl,rfl,Av _ _⟩
 · exact absurd aa.symm HU.out.2
 obtain ⟨v1,J,rfl,⟨hx,b3⟩,q1⟩:=b7
 obtain ⟨K,k,r,b6,hg⟩:=HR.out _ _ aa.symm
 obtain ⟨se,sk,rfl,hE,hK⟩:=hx
 obtain ⟨a1,aj,rfl,bf,e6⟩:=hE.v
 obtain ⟨a2,c2,rfl,ch,e7⟩:=Al.v hK
 obtain ⟨bl,bm⟩:=Cl b3
 have ax:Aside (may y=true):=b3
 obtain ⟨lf,es,ks⟩:=y
 simp only at hK bl bm bf b6 hg K⊢
 subst K
 obtain ⟨ne,bn⟩: ∃ne,es.length=ne:=⟨_,rfl⟩
 obtain ⟨G,b5⟩: ∃G,ks.length=G:=⟨_,rfl⟩
 have I:Aside (B1 J (.slice a2 ks.length c2) ks∧ks.length=G):=⟨hK,b5⟩
 rw[bn] at bl bf⊢
 rw[b5] at bm ch⊢
 have HP:Aside (GO ks n 0=some (k,r)∧Ry f l ks k r s2=R):=⟨b6,hg⟩
 haveI:=q1.i
 clear hE hK b3 bn b5 b6 hg aa HR HU c1
 go_wp2_with fail
 have Z:Sat (Ad h s2*(J*((Sl.block w1.heap.size Ev [.bool false,.slice a1 ne aj,.slice a2 G c2]*(Sl.block (w.heap.size+1+1) CG [.int .i64 0,.int .i64 0,.int .i64 0,.int .i64 0,.int .i64 0]*(Sl.block (w.heap.size+1) CG [.int .i64 0,.int .i64 0,.int .i64 0,.int .i64 0,.int .i64 0]*(Sl.block w.heap.size CG [.int .i64 x1,.int .i64 x2,.int .i64 x3,.int .i64 x4,.int .i64 l]*F))))))) (w1.alloc (.cells #[.bool false,.slice a1 ne aj,.slice a2 G c2] Ev)):=A8 (by ac_rfl)
 obtain ⟨N,hN⟩: ∃N,w.heap.size=N:=⟨_,rfl⟩
 obtain ⟨N8,bg⟩: ∃N,w1.heap.size=N:=⟨_,rfl⟩
 rw[hN,bg] at Z⊢
 clear hN bg q1 hs this
 go_loopg [2,10] G (fun g t2 ct wr=> ∃(j:Nat)(nj:Int),t2= .int .i64 nj∧ct= .int .i64 j∧j≤G∧nj≤1099511627776∧0≤nj∧Aside (g=G-j∧GO (ks.drop j) nj j=some (k,r))∧
  Sat (Ad h s2*(J*(Sl.block N8 Ev [.bool false,.slice a1 ne aj,.slice a2 G c2]*(Sl.block (N+1+1) CG [.int .i64 0,.int .i64 0,.int .i64 0,.int .i64 0,.int .i64 0]*(Sl.block (N+1) CG [.int .i64 0,.int .i64 0,.int .i64 0,.int .i64 0,.int .i64 0]*(Sl.block N CG [.int .i64 x1,.int .i64 x2,.int .i64 x3,.int .i64 x4,.int .i64 l]*F)))))) wr)
 case atStart=>exact ⟨0,n,rfl,rfl,by omega,by omega,by omega,⟨rfl,HP.out.1⟩,Z⟩
 obtain ⟨j,nj,rfl,rfl,hj,ck,e8,A,bo⟩:=hrel
 clear Z
 haveI:=bo.i
 obtain ⟨y,l',hd,U⟩:=Xq A.out.2
 obtain ⟨hy,b2,cl⟩:=Ud hd
 rw[I.out.2] at cl
 have dn:(j:Int)<G:=by omega
 obtain ⟨b,q,rfl,r1,r2,r3,r4⟩:=Dc I.out.1 hy
 have an:=((Db ax.out).2 y (List.mem_of_getElem? hy)).2
 have HY:Aside (ks[j]?=some y):=hy
 unfold AE at an
 simp only[decide_eq_true_eq] at an
 obtain ⟨y1,y2,y3,y4⟩:=y
 simp only at an r1 r2 r3 r4 U
 have ed:1≤y2:=by omega
 have ee:y2≤1048576:=by omega
 clear an hy hd
 rcases U with ⟨cn,U⟩|⟨cn,bk⟩
 · rw[←b2] at U
   have HS:Aside (GO (ks.drop (j+1)) (nj-y2) (j+1)=some (k,r)):=U
   have eb:IntKind.i64.wrap (nj-y2)=nj-y2:=IntWalk.i64_in _ (by omega)
   clear b2 U
   go_wp2
   go_roundg (G-(j+1))
   case measure=>have:=A.out.1;omega
   case rel=>exact ⟨j+1,nj-y2,rfl,by go_num,by omega,by omega,by omega,⟨rfl,HS.out⟩,WM _ _ _ _ _ _ _⟩
 obtain ⟨XZ,cm⟩:=Prod.mk.inj bk
 subst XZ
 subst cm
 have ay:Aside (Ry f l ks k r s2=R):=HP.out.2
 have H:=Hz I.out.1 (i:=0) (j:=k) (by omega) (by rw[I.out.2];exact hj)
 have e1:sub ks 0 k=ks.take k:=by simp[sub]
 rw[e1,Nat.sub_zero,Nat.sub_zero] at H
 have ci:=LP (P:=Tryz.prog) E (a:=some ⟨b,q,none⟩) (n:=G) (c:=c2) k (by omega)
 obtain ⟨z1,bp⟩: ∃z,BP (some ⟨b,q,none⟩) c2 0 4=z:=⟨_,rfl⟩
 rw[bp] at ci H
 have bb:Aside (B1 J (.slice z1 k c2) (ks.take k)):=H
 clear H e1 bp A HP bk b2
 by_cases hz:r=0
 · subst hz
   have d:=Hz I.out.1 (i:=k) (j:=ks.length) (by rw[I.out.2];exact hj) (Nat.le_refl _)
   have e2:sub ks k ks.length=ks.drop k:=by unfold sub;rw[←List.length_drop,List.take_length]
   rw[e2,I.out.2] at d
   have al:=Gb (P:=Tryz.prog) E (a:=some ⟨b,q,none⟩) (n:=G) (c:=c2) k hj
   obtain ⟨z2,ad⟩: ∃z,BP (some ⟨b,q,none⟩) c2 k 4=z:=⟨_,rfl⟩
   rw[ad] at al d
   have aw:Aside (B1 J (.slice z2 (G-k) (c2-k)) (ks.drop k)):=d
   have hQ:=ay.out
   unfold Ry at hQ
   rw[if_pos rfl] at hQ
   have HQ:Aside (M.bind (CE Ag (ks.take k) l) (fun a=>M.bind (CE Ag (ks.drop k) l) fun b=>M.pure (a,b)) s2=R):=hQ
   have c3:=fun F w q=>KP h s2 (ks.take k) l _ J F w bb.out q (by rw[List.length_take,I.out.2];omega) (by omega) (by omega) (AK HQ.out O.out)
   clear d e2 ad hQ ax HI
   go_wp2_with fail
   go_region_held2 (fun D=>D.cell? ⟨N8,2,none⟩=some (.slice (some ⟨b,q,none⟩) G c2)∧D.cell? ⟨N,4,none⟩=some (.int .i64 l)) (first|exact ⟨Aa _ _ _,Aa _ _ _⟩) (first
    |(
       go_at_call 144
       with_reducible refine Calls.mono (c3 _ _ (AY (Ad h s2) J)) ?_
       rintro e w3 h3
       obtain ⟨r3,o⟩: ∃ρ,ρ=CE Ag (ks.take k) l s2:=⟨_,rfl⟩
       rw[←o] at h3
       rcases r3 with ⟨ta,s3⟩|⟨er,s3⟩|_
       rotate_left
       · obtain ⟨rfl,q3⟩:=h3
         haveI:=q3.i
         have m:=AL HQ.out o.symm
         subst m
         exact ⟨rfl,rfl,Av _ _⟩
       · exact absurd (B3 HQ.out o.symm) O.out
       obtain ⟨v3,G3,rfl,⟨rfl,rfl⟩,q3⟩:=h3
       rw[Am] at q3
       haveI:=q3.i
       have a8:=AJ HQ.out o.symm
       have B:Aside (M.bind (CE Ag (ks.drop k) l) (fun b=>M.pure (ta,b)) s3=R):=a8
       have c4:=fun F w q=>KP h s3 (ks.drop k) l _ J F w aw.out q (by rw[List.length_drop,I.out.2];omega) (by omega) (by omega) (AK B.out O.out)
       clear a8 o
       obtain ⟨⟨p1,p2,p3,p4⟩,Q⟩:=ta
       unfold AH
       simp only)
    |(
       go_at_call 144
       with_reducible refine Calls.mono (c4 _ _ (AY (Ad h s3) J)) ?_
       rintro e w4 h4
       obtain ⟨r4,u⟩: ∃ρ,ρ=CE Ag (ks.drop k) l s3:=⟨_,rfl⟩
       rw[←u] at h4
       rcases r4 with ⟨tb,s4⟩|⟨er,s4⟩|_
       rotate_left
       · obtain ⟨rfl,Z⟩:=h4
         haveI:=Z.i
         have m:=AL B.out u.symm
         subst m
         exact ⟨rfl,rfl,Av _ _⟩
       · exact absurd (B3 B.out u.symm) O.out
       obtain ⟨v4,G4,rfl,⟨rfl,rfl⟩,Z⟩:=h4
       rw[Am] at Z
       haveI:=Z.i
       have a9:=AJ B.out u.symm
       have b1:R= .ok (⟨⟨p1,p2,p3,p4⟩,Q⟩,tb) s4:=a9.symm
       clear a9 u
       obtain ⟨⟨V,W,X,Y⟩,L⟩:=tb
       unfold AH
       simp only))
   all_goals
    subst b1
    go_wp2
    go_returns
    exact ⟨_,1,rfl,⟨rfl,rfl⟩,by rw[Am];exact Av _ _⟩
 have ef:((r:Int)==0)=false:=by simpa using hz
 have d:=Hz I.out.1 (i:=k+1) (j:=ks.length) (by rw[I.out.2];omega) (Nat.le_refl _)
 have e2:sub ks (k+1) ks.length=ks.drop (k+1):=by unfold sub;rw[←List.length_drop,List.take_length]
 rw[e2,I.out.2] at d
 have al:=Gb (P:=Tryz.prog) E (a:=some ⟨b,q,none⟩) (n:=G) (c:=c2) (k+1) (by omega)
 have ek:((k+1:Nat):Int)=(k:Int)+1:=by omega
 rw[ek] at al
 obtain ⟨z2,ad⟩: ∃z,BP (some ⟨b,q,none⟩) c2 (k+1) 4=z:=⟨_,rfl⟩
 rw[ad] at al d
 have aw:Aside (B1 J (.slice z2 (G-(k+1)) (c2-(k+1))) (ks.drop (k+1))):=d
 have ea:IntKind.i64.wrap ((k:Int)+1)=(k:Int)+1:=IntWalk.i64_in _ (by omega)
 have ec:IntKind.i64.wrap (l-1)=l-1:=IntWalk.i64_in _ (by omega)
 have hQ:=ay.out
 unfold Ry at hQ
 rw[if_neg hz,HY.out] at hQ
 have HQ:Aside (M.bind (Be Ah Ag f ⟨⟨y1,y2,y3,y4⟩,l-1⟩ r) (fun p=>
  M.bind (CE Ag (ks.take k) l) fun a=>M.bind (DT Ah Ag a p.1) fun a=>
  M.bind (CE Ag (ks.drop (k+1)) l) fun b=>M.bind (DT Ah Ag p.2 b) fun b=>M.pure (a,b)) s2=R):=hQ
 have cP:=fun F w q=>HI.out h s2 ⟨⟨y1,y2,y3,y4⟩,l-1⟩ r F w q (by simp only;omega) (by simp only;omega) (by omega) ck (AK HQ.out O.out)
 unfold AH at cP
 simp only at cP
 clear d e2 ad hQ ax ek HI
 go_upto_region 18 with (fail)
 go_cut [11,12] (fun cu cv wx=> ∃(p1 p2 p3 p4 Q V W X Y L:Int)(s3:TS)(M1 M2:Nat),cu= .pointer (some ⟨M1,0,none⟩)∧cv= .pointer (some ⟨M2,0,none⟩)∧ -1000≤Q∧Q≤1000∧ -1000≤L∧L≤1000∧
  Aside (M.bind (CE Ag (ks.take k) l) (fun a=>M.bind (DT Ah Ag a ⟨⟨p1,p2,p3,p4⟩,Q⟩) fun a=>
  M.bind (CE Ag (ks.drop (k+1)) l) fun b=>M.bind (DT Ah Ag ⟨⟨V,W,X,Y⟩,L⟩ b) fun b=>M.pure (a,b)) s3=R)∧
  Sat (Ad h s3*(J*(Sl.block M1 CG [.int .i64 p1,.int .i64 p2,.int .i64 p3,.int .i64 p4,.int .i64 Q]*(Sl.block M2 CG [.int .i64 V,.int .i64 W,.int .i64 X,.int .i64 Y,.int .i64 L]*(Sl.block N8 Ev [.bool false,.slice a1 ne aj,.slice (some ⟨b,q,none⟩) G c2]*(Sl.block (N+1+1) CG [.int .i64 0,.int .i64 0,.int .i64 0,.int .i64 0,.int .i64 0]*(Sl.block (N+1) CG [.int .i64 0,.int .i64 0,.int .i64 0,.int .i64 0,.int .i64 0]*(Sl.block N CG [.int .i64 x1,.int .i64 x2,.int .i64 x3,.int .i64 x4,.int .i64 l]*F)))))))) wx)
 case first =>
  go_region_held2 (fun D=>D.cell? ⟨N8,2,none⟩=some (.slice (some ⟨b,q,none⟩) G c2)∧D.cell? ⟨N,4,none⟩=some (.int .i64 l)∧D.cell? ⟨b,q+k*4,none⟩=some (.int .i64 y1)∧D.cell? ⟨b,q+k*4+1,none⟩=some (.int .i64 y2)∧D.cell? ⟨b,q+k*4+2,none⟩=some (.int .i64 y3)∧D.cell? ⟨b,q+k*4+3,none⟩=some (.int .i64 y4)) (first|exact ⟨Aa _ _ _,Aa _ _ _,Aa _ _ _,Aa _ _ _,Aa _ _ _,Aa _ _ _⟩) (first
   |(
      go_at_call 98
      with_reducible refine Calls.mono (cP _ _ (Ae (Ad h s2))) ?_
      rintro e w3 h3
      obtain ⟨r3,o⟩: ∃ρ,ρ=Be Ah Ag f ⟨⟨y1,y2,y3,y4⟩,l-1⟩ r s2:=⟨_,rfl⟩
      rw[←o] at h3
      rcases r3 with ⟨tp,s3⟩|⟨er,s3⟩|_
      rotate_left
      · obtain ⟨rfl,q3⟩:=h3
        haveI:=q3.i
        have m:=AL HQ.out o.symm
        subst m
        exact ⟨rfl,rfl,Av _ _⟩
      · exact absurd (B3 HQ.out o.symm) O.out
      obtain ⟨v3,G3,rfl,⟨rfl,rfl⟩,q3⟩:=h3
      rw[Am] at q3
      haveI:=q3.i
      have a8:=AJ HQ.out o.symm
      obtain ⟨u1,u2⟩:=Dd (fun p s n s' h=>C6 h) f ⟨⟨y1,y2,y3,y4⟩,l-1⟩ r s2 tp s3 o.symm (-1000) 500 (by omega) (by omega) (by simp only;omega) (by simp only;omega)
      obtain ⟨⟨⟨p1,p2,p3,p4⟩,Q⟩,⟨⟨V,W,X,Y⟩,L⟩⟩:=tp
      simp only at u1 u2
      have B:Aside (M.bind (CE Ag (ks.take k) l) (fun a=>M.bind (DT Ah Ag a ⟨⟨p1,p2,p3,p4⟩,Q⟩) fun a=>M.bind (CE Ag (ks.drop (k+1)) l) fun b=>M.bind (DT Ah Ag ⟨⟨V,W,X,Y⟩,L⟩ b) fun b=>M.pure (a,b)) s3=R):=a8
      clear a8 o
      unfold AH
      simp only))
  all_goals
   go_wp2
   go_meet
   exact ⟨p1,p2,p3,p4,Q,V,W,X,Y,L,s3,_,_,rfl,rfl,by omega,by omega,by omega,by omega,B,Q' _ _ _ _ _ _ _ _ _⟩
 obtain ⟨p1,p2,p3,p4,Q,V,W,X,Y,L,s3,M1,M2,rfl,rfl,u1,u2,u3,u4,B,q9⟩:=hcut
 haveI:=q9.i
 have c3:=fun F w q=>KP h s3 (ks.take k) l _ J F w bb.out q (by rw[List.length_take,I.out.2];omega) (by omega) (by omega) (AK B.out O.out)
 clear bo cP HQ ay HY r1 r2 r3 r4
 go_upto_region 19 with (fail)
 go_region_held2 (fun D=>D.cell? ⟨N8,2,none⟩=some (.slice (some ⟨b,q,none⟩) G c2)∧D.cell? ⟨N,4,none⟩=some (.int .i64 l)∧D.cell? ⟨M1,0,none⟩=some (.int .i64 p1)∧D.cell? ⟨M1,1,none⟩=some (.int .i64 p2)∧D.cell? ⟨M1,2,none⟩=some (.int .i64 p3)∧D.cell? ⟨M1,3,none⟩=some (.int .i64 p4)∧D.cell? ⟨M1,4,none⟩=some (.int .i64 Q)∧D.cell? ⟨M2,0,none⟩=some (.int .i64 V)∧D.cell? ⟨M2,1,none⟩=some (.int .i64 W)∧D.cell? ⟨M2,2,none⟩=some (.int .i64 X)∧D.cell? ⟨M2,3,none⟩=some (.int .i64 Y)∧D.cell? ⟨M2,4,none⟩=some (.int .i64 L)) (first|exact ⟨Aa _ _ _,Aa _ _ _,Aa _ _ _,Aa _ _ _,Aa _ _ _,Aa _ _ _,Aa _ _ _,Aa _ _ _,Aa _ _ _,Aa _ _ _,Aa _ _ _,Aa _ _ _⟩) (first
  |(
     go_at_call 144
     with_reducible refine Calls.mono (c3 _ _ (AY (Ad h s3) J)) ?_
     rintro e w4 h4
     obtain ⟨r4,u⟩: ∃ρ,ρ=CE Ag (ks.take k) l s3:=⟨_,rfl⟩
     rw[←u] at h4
     rcases r4 with ⟨ta,s4⟩|⟨er,s4⟩|_
     rotate_left
     · obtain ⟨rfl,Z⟩:=h4
       haveI:=Z.i
       have m:=AL B.out u.symm
       subst m
       exact ⟨rfl,rfl,Av _ _⟩
     · exact absurd (B3 B.out u.symm) O.out
     obtain ⟨v4,G4,rfl,⟨rfl,rfl⟩,Z⟩:=h4
     rw[Am] at Z
     haveI:=Z.i
     have a9:=AJ B.out u.symm
     have co:=DM u.symm
     rw[List.length_take,I.out.2] at co
     have ag:Aside (M.bind (DT Ah Ag ta ⟨⟨p1,p2,p3,p4⟩,Q⟩) (fun a=>M.bind (CE Ag (ks.drop (k+1)) l) fun b=>M.bind (DT Ah Ag ⟨⟨V,W,X,Y⟩,L⟩ b) fun b=>M.pure (a,b)) s4=R):=a9
     have c4:=fun F w q=>GV h s4 ta ⟨⟨p1,p2,p3,p4⟩,Q⟩ F w q (by omega) (by omega) u1 u2 (AK ag.out O.out)
     unfold AH at c4
     simp only at c4
     clear a9 u
     obtain ⟨⟨d1,d2,d3,d4⟩,dh⟩:=ta
     unfold AH
     simp only)
  |(
     go_at_call 99
     with_reducible refine Calls.mono (c4 _ _ (Ae (Ad h s4))) ?_
     rintro e w5 h5
     obtain ⟨r5,ab⟩: ∃ρ,ρ=DT Ah Ag ⟨⟨d1,d2,d3,d4⟩,dh⟩ ⟨⟨p1,p2,p3,p4⟩,Q⟩ s4:=⟨_,rfl⟩
     rw[←ab] at h5
     rcases r5 with ⟨tb,s5⟩|⟨er,s5⟩|_
     rotate_left
     · obtain ⟨rfl,q5⟩:=h5
       haveI:=q5.i
       have m:=AL ag.out ab.symm
       subst m
       exact ⟨rfl,rfl,Av _ _⟩
     · exact absurd (B3 ag.out ab.symm) O.out
     obtain ⟨v5,G5,rfl,⟨rfl,rfl⟩,q5⟩:=h5
     rw[Am] at q5
     haveI:=q5.i
     have bh:=AJ ag.out ab.symm
     have ah:Aside (M.bind (CE Ag (ks.drop (k+1)) l) (fun b=>M.bind (DT Ah Ag ⟨⟨V,W,X,Y⟩,L⟩ b) fun b=>M.pure (tb,b)) s5=R):=bh
     have c5:=fun F w q=>KP h s5 (ks.drop (k+1)) l _ J F w aw.out q (by rw[List.length_drop,I.out.2];omega) (by omega) (by omega) (AK ah.out O.out)
     clear bh ab
     obtain ⟨⟨g1,g2,g3,g4⟩,gh⟩:=tb
     unfold AH
     simp only)
  |(
     go_at_call 144
     with_reducible refine Calls.mono (c5 _ _ (AY (Ad h s5) J)) ?_
     rintro e w6 h6
     obtain ⟨r6,T⟩: ∃ρ,ρ=CE Ag (ks.drop (k+1)) l s5:=⟨_,rfl⟩
     rw[←T] at h6
     rcases r6 with ⟨tc,s6⟩|⟨er,s6⟩|_
     rotate_left
     · obtain ⟨rfl,q6⟩:=h6
       haveI:=q6.i
       have m:=AL ah.out T.symm
       subst m
       exact ⟨rfl,rfl,Av _ _⟩
     · exact absurd (B3 ah.out T.symm) O.out
     obtain ⟨v6,G6,rfl,⟨rfl,rfl⟩,q6⟩:=h6
     rw[Am] at q6
     haveI:=q6.i
     have bi:=AJ ah.out T.symm
     have cp:=DM T.symm
     rw[List.length_drop,I.out.2] at cp
     have ai:Aside (M.bind (DT Ah Ag ⟨⟨V,W,X,Y⟩,L⟩ tc) (fun b=>M.pure (⟨⟨g1,g2,g3,g4⟩,gh⟩,b)) s6=R):=bi
     have c6:=fun F w q=>GV h s6 ⟨⟨V,W,X,Y⟩,L⟩ tc F w q u3 u4 (by omega) (by omega) (AK ai.out O.out)
     unfold AH at c6
     simp only at c6
     clear bi T
     obtain ⟨⟨l1,l2,l3,l4⟩,lh⟩:=tc
     unfold AH
     simp only)
  |(
     go_at_call 99
     with_reducible refine Calls.mono (c6 _ _ (Ae (Ad h s6))) ?_
     rintro e w7 h7
     obtain ⟨r7,ac⟩: ∃ρ,ρ=DT Ah Ag ⟨⟨V,W,X,Y⟩,L⟩ ⟨⟨l1,l2,l3,l4⟩,lh⟩ s6:=⟨_,rfl⟩
     rw[←ac] at h7
     rcases r7 with ⟨td,s7⟩|⟨er,s7⟩|_
     rotate_left
     · obtain ⟨rfl,q7⟩:=h7
       haveI:=q7.i
       have m:=AL ai.out ac.symm
       subst m
       exact ⟨rfl,rfl,Av _ _⟩
     · exact absurd (B3 ai.out ac.symm) O.out
     obtain ⟨v7,G7,rfl,⟨rfl,rfl⟩,q7⟩:=h7
     rw[Am] at q7
     haveI:=q7.i
     have bj:=AJ ai.out ac.symm
     have b1:R= .ok (⟨⟨g1,g2,g3,g4⟩,gh⟩,td) s7:=bj.symm
     clear bj ac
     obtain ⟨⟨m1,m2,m3,m4⟩,mh⟩:=td
     unfold AH
     simp only))
 all_goals
  subst b1
  go_wp2
  go_returns
  exact ⟨_,1,rfl,⟨rfl,rfl⟩,by rw[Am];exact Av _ _⟩
theorem Hv(f:Nat):PD f:=by
 induction f with
 | zero =>
  intro h s x n F w hs k g l c hb
  by_cases a:n≤0
  · exact N1 0 h s x n F w hs a
  by_cases c2:x.DK.bytes≤n
  · exact LZ 0 h s x n F w hs a c2
  exact absurd (by unfold Be;rw[if_neg a,if_neg c2];rfl) hb
 | succ f m =>
  intro h s x n F w hs k g l c hb
  by_cases a:n≤0
  · exact N1 (f+1) h s x n F w hs a
  by_cases c2:x.DK.bytes≤n
  · exact LZ (f+1) h s x n F w hs a c2
  by_cases hl: ∃y s2,Ah x.DK.Ay s= .ok y s2∧y.leaf=true
  · obtain ⟨y,s2,i,j⟩:=hl
    exact R3 f h s x n F w hs a c2 c (fun d b e=>by rw[i] at e;cases e;exact j) hb
  exact Vz f m h s x n F w hs a c2 c (by omega) g (by omega) (fun d b e=>by
   cases hy:d.leaf with
   |false=>rfl
   |true=>exact absurd ⟨d,b,e,hy⟩ hl) hb
