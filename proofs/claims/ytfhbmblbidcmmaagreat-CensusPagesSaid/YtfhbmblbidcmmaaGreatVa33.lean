/- censusPages holds for every input. No condition. (part 33) -/
import Derived.Test.YtfhbmblbidcmmaaGreatVa32
import Derived.Deep.RegionHeld2
import Derived.Test.YtfhbmblbidcmmaaGreatVa29
set_option linter.all false
set_option maxRecDepth 100000
set_option maxHeartbeats 12800000
namespace Go.Tr
theorem bS{l:List Ar}{n:Int}{k r:Nat}(h:Fp l n k=some r)(a:0<n): ∃x l',l=x::l'∧Fp l' (n-x.len) (k+1)=some r:=by
 cases l with
 |nil=>unfold Fp at h;simp only[if_pos a] at h;cases h
 |cons x l=>unfold Fp at h;simp only[if_pos a] at h;exact ⟨x,l,rfl,h⟩
theorem WG{l:List Ar}{n:Int}{k r:Nat}(h:Fp l n k=some r)(a: ¬0<n):r=k:=by
 cases l with
 |nil=>unfold Fp at h;simp only[if_neg a] at h;exact (Option.some.inj h).symm
 |cons x l=>unfold Fp at h;simp only[if_neg a] at h;exact (Option.some.inj h).symm
theorem XJ{α:Type}{l l':List α}{x:α}{j:Nat}(h:l.drop j=x::l'):l[j]?=some x∧l.drop (j+1)=l'∧j<l.length:=by
 have h1:l[j]?=some x:=by
  have:=congrArg List.head? h
  simpa using this
 refine ⟨h1,?_,?_⟩
 · have:=congrArg List.tail h
   simpa using this
 rcases Nat.lt_or_ge j l.length with a|a
 · exact a
 rw[List.drop_of_length_le a] at h;cases h
end Go.Tr
namespace Go.Proofs.YtfhbmblbidcmmaaGreat
open Go.RowKit Go.Sl Go.Dk Go.Tr
theorem UB(f:Nat)(h:Th)(s:TS)(x:BJ)(n:Int)(F:Ab)(w:World)(hs:Sat (Ad h s*F) w)(h1: ¬n≤0)(h2: ¬x.E8.bytes≤n)(bn:n≤1099511627776)
 (o: ∀y s2,Ah x.E8.Ap s= .ok y s2→y.leaf=true) (hb:Br Ah Al (f+1) x n s≠ .bad):
 Calls Tryz.prog 98 #[.pointer (some ⟨h.t,0,none⟩),Bj x,.int .i64 n] w (DT h F (Br Ah Al (f+1) x n s) Qz):=by
 obtain ⟨i0,E⟩:=EW
 obtain ⟨R,Q⟩:=Aq (Br Ah Al (f+1) x n s)
 rw[Q] at hb⊢
 have HB:Aside (R≠ .bad):=hb
 unfold Br at Q
 rw[if_neg h1,if_neg h2] at Q
 obtain ⟨⟨x1,x2,x3,x4⟩,xh⟩:=x
 simp only at h2 Q o
 have V:=Bi Q hb
 have c1:=fun F w q=>Cw h s x1 F w q V
 have HR:Aside (∀y s2,Ah x1 s= .ok y s2→y.leaf=true∧ ∃k,Fp y.Ag n 0=some k∧M.bind (BT Al (y.Ag.take k)) (fun a=>M.bind (BT Al (y.Ag.drop k)) fun b=>M.pure (a,b)) s2=R):=fun y s2 hm=>by
  have J:=Be Q hm
  rw[if_pos (o y s2 hm)] at J
  refine ⟨o y s2 hm,?_⟩
  cases hp:Fp y.Ag n 0 with
  |none=>rw[hp] at J;exact absurd J.symm hb
  |some k=>rw[hp] at J;exact ⟨k,rfl,J⟩
 have HU:Aside ((∀er s1,Ah x1 s= .fault er s1→R= .fault er s1)∧Ah x1 s≠ .bad):=⟨fun er s1 hm=>B4 Q hm,V⟩
 unfold Bj
 haveI:=hs.i
 clear hb Q V o
 go_enter Tryz.func98,Tryz.ntmps98
 go_wp2_with fail
 with_reducible refine Calls.mono (c1 _ _ (Ae (Ad h s))) ?_
 rintro e w1 Z
 obtain ⟨r1,z⟩: ∃r,r=Ah x1 s:=⟨_,rfl⟩
 rw[←z] at Z
 rcases r1 with ⟨y,s2⟩|⟨er,s2⟩|_
 rotate_left
 · obtain ⟨rfl,q1⟩:=Z
   haveI:=q1.i
   have u:=HU.out.1 _ _ z.symm
   subst u
   exact ⟨rfl,rfl,Ao _ _⟩
 · exact absurd z.symm HU.out.2
 obtain ⟨v1,O,rfl,⟨hx,U⟩,q1⟩:=Z
 obtain ⟨o,k,X,J⟩:=HR.out _ _ z.symm
 obtain ⟨se,sk,rfl,hE,hK⟩:=hx
 obtain ⟨I,d,rfl,a5,bj⟩:=hE.v
 obtain ⟨a2,c2,rfl,av,bk⟩:=Aj.v hK
 obtain ⟨aa,ab⟩:=Cm U
 have a4:Aside (may y=true):=U
 obtain ⟨lf,es,ks⟩:=y
 simp only at hE aa ab a5 X J o⊢
 subst o
 obtain ⟨ne,W⟩:=Aq es.length
 obtain ⟨nk,ad⟩:=Aq ks.length
 have G:Aside (Au O (.slice I es.length d) es∧es.length=ne):=⟨hE,W⟩
 rw[W] at aa a5⊢
 rw[ad] at ab av⊢
 have HP:Aside (Fp es n 0=some k∧M.bind (BT Al (es.take k)) (fun a=>M.bind (BT Al (es.drop k)) fun b=>M.pure (a,b)) s2=R):=⟨X,J⟩
 haveI:=q1.i
 clear hE hK U W ad X J z HR HU c1
 go_wp2_with fail
 have T:Sat (Ad h s2*(O*(Sl.block w1.heap.size C1 [.bool true,.slice I ne d,.slice a2 nk c2]*(Sl.block (w.heap.size+1+1) DH [.int .i64 0,.int .i64 0,.int .i64 0,.int .i64 0,.int .i64 0]*(Sl.block (w.heap.size+1) DH [.int .i64 0,.int .i64 0,.int .i64 0,.int .i64 0,.int .i64 0]*F))))) (w1.alloc (.cells #[.bool true,.slice I ne d,.slice a2 nk c2] C1)):=A4 (C:=Sl.block w.heap.size DH [.int .i64 x1,.int .i64 x2,.int .i64 x3,.int .i64 x4,.int .i64 xh]) (by ac_rfl)
 obtain ⟨N,hN⟩:=Aq w.heap.size
 obtain ⟨N8,a6⟩:=Aq w1.heap.size
 rw[hN,a6] at T⊢
 clear hN a6 q1 hs this
 go_loopg [2,9] ne (fun g t2 t9 wr=> ∃(j:Nat)(L:Int),t2= .int .i64 L∧t9= .int .i64 j∧j≤ne∧L≤1099511627776∧ -1048576≤L∧Aside (g=ne-j∧Fp (es.drop j) L j=some k)∧
  Sat (Ad h s2*(O*(Sl.block N8 C1 [.bool true,.slice I ne d,.slice a2 nk c2]*(Sl.block (N+1+1) DH [.int .i64 0,.int .i64 0,.int .i64 0,.int .i64 0,.int .i64 0]*(Sl.block (N+1) DH [.int .i64 0,.int .i64 0,.int .i64 0,.int .i64 0,.int .i64 0]*F))))) wr)
 case atStart=>exact ⟨0,n,rfl,rfl,by omega,by omega,by omega,⟨rfl,HP.out.1⟩,T⟩
 obtain ⟨j,L,rfl,rfl,hj,bl,bm,A,b1⟩:=hrel
 clear T
 haveI:=b1.i
 by_cases ac:0<L
 · obtain ⟨y,l',hd,Y⟩:=bS A.out.2 ac
   obtain ⟨hy,a7,b0⟩:=XJ hd
   rw[G.out.2] at b0
   have bf:(j:Int)<ne:=by omega
   rw[←a7] at Y
   have HS:Aside (Fp (es.drop (j+1)) (L-y.len) (j+1)=some k):=Y
   obtain ⟨b,q,rfl,r1,r2,r3,r4⟩:=BN G.out.1 hy
   have K:=((Dx a4.out).1 y (List.mem_of_getElem? hy)).2
   unfold Ai at K
   simp only[decide_eq_true_eq] at K
   obtain ⟨y1,y2,y3,y4⟩:=y
   simp only at K r1 r2 r3 r4 HS
   have hy1:1≤y3:=by omega
   have hy2:y3≤1048576:=by omega
   have hw2:=Bg (L-y3) (by omega)
   clear K hy hd a7 Y
   go_wp2
   go_roundg (ne-(j+1))
   case measure=>have:=A.out.1;omega
   case rel=>exact ⟨j+1,L-y3,rfl,by go_num,by omega,by omega,by omega,⟨rfl,HS.out⟩,E3 _ _ _ _ _ _⟩
 obtain rfl:=WG A.out.2 ac
 have HQ:Aside (M.bind (BT Al (es.take k)) (fun a=>M.bind (BT Al (es.drop k)) fun b=>M.pure (a,b)) s2=R):=HP.out.2
 have l:=KV G.out.1 (i:=0) (j:=k) (by omega) (by rw[G.out.2];exact hj)
 have m:=KV G.out.1 (i:=k) (j:=es.length) (by rw[G.out.2];exact hj) (Nat.le_refl _)
 have e1:sub es 0 k=es.take k:=by simp[sub]
 have e2:sub es k es.length=es.drop k:=by unfold sub;rw[←List.length_drop,List.take_length]
 rw[e1,Nat.sub_zero,Nat.sub_zero] at l
 rw[e2,G.out.2] at m
 have ax:=Ov (P:=Tryz.prog) E (a:=I) (n:=ne) (c:=d) k (by omega)
 have ay:=E7 (P:=Tryz.prog) E (a:=I) (n:=ne) (c:=d) k hj
 obtain ⟨z1,ae⟩:=Aq (AK I d 0 4)
 obtain ⟨z2,af⟩:=Aq (AK I d k 4)
 rw[ae] at ax l
 rw[af] at ay m
 have ap:=fun F w q=>I1 h s2 (es.take k) _ O F w l q (by rw[List.length_take,G.out.2];omega) (Bi HQ.out HB.out)
 have HC:Aside (Au O (.slice z2 (ne-k) (d-k)) (es.drop k)):=m
 clear l m e1 e2 ae af A HP a4
 go_wp2_with fail
 go_region_held2 (fun w'=>w'.cell? ⟨N8,1,none⟩=some (.slice I ne d)) (first|exact Ac _ _ _) (first
  |(
    go_at_call 84
    with_reducible refine Calls.mono (ap _ _ (Bh (Ad h s2) O)) ?_
    rintro e w3 h3
    obtain ⟨r3,B⟩: ∃r,r=BT Al (es.take k) s2:=⟨_,rfl⟩
    rw[←B] at h3
    rcases r3 with ⟨ta,s3⟩|⟨er,s3⟩|_
    rotate_left
    ·obtain ⟨rfl,q3⟩:=h3
     haveI:=q3.i
     have u:=B4 HQ.out B.symm
     subst u
     exact ⟨rfl,rfl,Ao _ _⟩
    ·exact absurd (Cg HQ.out B.symm) HB.out
    obtain ⟨v3,G3,rfl,⟨rfl,rfl⟩,q3⟩:=h3
    rw[Aw] at q3
    haveI:=q3.i
    have a8:=Be HQ.out B.symm
    have H:Aside (M.bind (BT Al (es.drop k)) (fun b=>M.pure (ta,b)) s3=R):=a8
    have aq:=fun F w q=>I1 h s3 (es.drop k) _ O F w HC.out q (by rw[List.length_drop,G.out.2];omega) (Bi H.out HB.out)
    clear a8 B
    obtain ⟨⟨p1,p2,p3,p4⟩,ph⟩:=ta
    unfold Bj)
  |(
    go_at_call 84
    with_reducible refine Calls.mono (aq _ _ (Bh (Ad h s3) O)) ?_
    rintro e w4 h4
    obtain ⟨r4,D⟩: ∃r,r=BT Al (es.drop k) s3:=⟨_,rfl⟩
    rw[←D] at h4
    rcases r4 with ⟨tb,s4⟩|⟨er,s4⟩|_
    rotate_left
    ·obtain ⟨rfl,T⟩:=h4
     haveI:=T.i
     have u:=B4 H.out D.symm
     subst u
     exact ⟨rfl,rfl,Ao _ _⟩
    ·exact absurd (Cg H.out D.symm) HB.out
    obtain ⟨v4,G4,rfl,⟨rfl,rfl⟩,T⟩:=h4
    rw[Aw] at T
    haveI:=T.i
    have a9:=Be H.out D.symm
    have aw:R= .ok (⟨⟨p1,p2,p3,p4⟩,ph⟩,tb) s4:=a9.symm
    clear a9 D
    obtain ⟨⟨o1,o2,o3,o4⟩,oh⟩:=tb
    unfold Bj))
 all_goals
  subst aw
  go_wp2
  go_returns
  exact ⟨_,1,rfl,⟨rfl,rfl⟩,by rw[Aw];exact Ao _ _⟩
end Go.Proofs.YtfhbmblbidcmmaaGreat
namespace Go.Tr
theorem bT{l:List Kd}{n:Int}{k:Nat}{r:Nat×Int}(h:Hx l n k=some r): ∃x l',l=x::l'∧((x.bytes≤n∧Hx l' (n-x.bytes) (k+1)=some r)∨(¬x.bytes≤n∧r=(k,n))):=by
 cases l with
 |nil=>cases h
 | cons x l =>
  unfold Hx at h
  by_cases a:x.bytes≤n
  ·rw[if_pos a] at h;exact ⟨x,l,rfl,.inl ⟨a,h⟩⟩
  rw[if_neg a] at h;exact ⟨x,l,rfl,.inr ⟨a,(Option.some.inj h).symm⟩⟩
end Go.Tr
namespace Go.Proofs.YtfhbmblbidcmmaaGreat
open Go.RowKit Go.Sl Go.Dk Go.Tr
def U8(f : Nat)(c : Int)(ks : List Kd)(k : Nat)(r : Int) : M TS (BJ × BJ) :=
 if r=0 then M.bind (CU Al (ks.take k) c) fun a=>M.bind (CU Al (ks.drop k) c) fun b=>M.pure (a,b)
 else match ks[k]? with
  |none=>M.bad
  | some z => M.bind (Br Ah Al f ⟨z, c - 1⟩ r) fun p =>
   M.bind (CU Al (ks.take k) c) fun a=>M.bind (EK Ah Al a p.1) fun a=>
   M.bind (CU Al (ks.drop (k+1)) c) fun b=>M.bind (EK Ah Al p.2 b) fun b=>M.pure (a,b)
def RM(f:Nat):Prop:= ∀(h:Th)(s:TS)(x:BJ)(n:Int)(F:Ab)(w:World),Sat (Ad h s*F) w→(f:Int)-700≤x.Am→x.Am≤500→f≤30→n≤1099511627776→Br Ah Al f x n s≠ .bad→
 Calls Tryz.prog 98 #[.pointer (some ⟨h.t,0,none⟩),Bj x,.int .i64 n] w (DT h F (Br Ah Al f x n s) Qz)
theorem Z5(f : Nat)(ih : RM f)(h : Th)(s : TS)(x : BJ)(n : Int)(F : Ab)(w : World)(hs : Sat (Ad h s * F) w)(h1 : ¬ n ≤ 0)(h2 : ¬ x.E8.bytes ≤ n)(dy : n ≤ 1099511627776)
 (ck:(f:Int)-699≤x.Am) (cl:x.Am≤500) (hf:f≤29)
 (J: ∀y s2,Ah x.E8.Ap s= .ok y s2→y.leaf=false) (hb:Br Ah Al (f+1) x n s≠ .bad):
 Calls Tryz.prog 98 #[.pointer (some ⟨h.t,0,none⟩),Bj x,.int .i64 n] w (DT h F (Br Ah Al (f+1) x n s) Qz):=by
 obtain ⟨i1,E⟩:=Ms
 obtain ⟨R,hR⟩:=Aq (Br Ah Al (f+1) x n s)
 rw[hR] at hb⊢
 have K:Aside (R≠ .bad):=hb
 have HI:Aside (RM f):=ih
 unfold Br at hR
 rw[if_neg h1,if_neg h2] at hR
 obtain ⟨⟨x1,x2,x3,x4⟩,l⟩:=x
 simp only at h2 hR J ck cl
 have b2:=Bi hR hb
 have c1:=fun F w q=>Cw h s x1 F w q b2
 have HR:Aside (∀y s2,Ah x1 s= .ok y s2→y.leaf=false∧ ∃k r,Hx y.kids n 0=some (k,r)∧U8 f l y.kids k r s2=R):=fun y s2 hm=>by
  have hg:=Be hR hm
  rw[if_neg (by rw[J y s2 hm];simp)] at hg
  refine ⟨J y s2 hm,?_⟩
  cases hp:Hx y.kids n 0 with
  |none=>rw[hp] at hg;exact absurd hg.symm hb
  |some kr=>rw[hp] at hg;exact ⟨kr.1,kr.2,rfl,hg⟩
 have HU:Aside ((∀er s1,Ah x1 s= .fault er s1→R= .fault er s1)∧Ah x1 s≠ .bad):=⟨fun er s1 hm=>B4 hR hm,b2⟩
 unfold Bj
 haveI:=hs.i
 clear hb hR b2 J ih
 go_enter Tryz.func98,Tryz.ntmps98
 go_wp2_with fail
 with_reducible refine Calls.mono (c1 _ _ (Ae (Ad h s))) ?_
 rintro e w1 b5
 obtain ⟨r1,a8⟩: ∃r,r=Ah x1 s:=⟨_,rfl⟩
 rw[←a8] at b5
 rcases r1 with ⟨y,s2⟩|⟨er,s2⟩|_
 rotate_left
 · obtain ⟨rfl,q1⟩:=b5
   haveI:=q1.i
   have m:=HU.out.1 _ _ a8.symm
   subst m
   exact ⟨rfl,rfl,Ao _ _⟩
 · exact absurd a8.symm HU.out.2
 obtain ⟨v1,I,rfl,⟨hx,b1⟩,q1⟩:=b5
 obtain ⟨J,k,r,b4,hg⟩:=HR.out _ _ a8.symm
 obtain ⟨se,sk,rfl,hE,hK⟩:=hx
 obtain ⟨a1,ah,rfl,bc,dv⟩:=hE.v
 obtain ⟨a2,c2,rfl,cb,dw⟩:=Aj.v hK
 obtain ⟨bi,bj⟩:=Cm b1
 have av:Aside (may y=true):=b1
 obtain ⟨lf,es,ks⟩:=y
 simp only at hK bi bj bc b4 hg J⊢
 subst J
 obtain ⟨ne,bk⟩:=Aq es.length
 obtain ⟨G,b3⟩:=Aq ks.length
 have H:Aside (AS I (.slice a2 ks.length c2) ks∧ks.length=G):=⟨hK,b3⟩
 rw[bk] at bi bc⊢
 rw[b3] at bj cb⊢
 have HP:Aside (Hx ks n 0=some (k,r)∧U8 f l ks k r s2=R):=⟨b4,hg⟩
 haveI:=q1.i
 clear hE hK b1 bk b3 b4 hg a8 HR HU c1
 go_wp2_with fail
 have X:Sat (Ad h s2*(I*((Sl.block w1.heap.size C1 [.bool false,.slice a1 ne ah,.slice a2 G c2]*(Sl.block (w.heap.size+1+1) DH [.int .i64 0,.int .i64 0,.int .i64 0,.int .i64 0,.int .i64 0]*(Sl.block (w.heap.size+1) DH [.int .i64 0,.int .i64 0,.int .i64 0,.int .i64 0,.int .i64 0]*(Sl.block w.heap.size DH [.int .i64 x1,.int .i64 x2,.int .i64 x3,.int .i64 x4,.int .i64 l]*F))))))) (w1.alloc (.cells #[.bool false,.slice a1 ne ah,.slice a2 G c2] C1)):=Av (by ac_rfl)
 obtain ⟨N,hN⟩:=Aq w.heap.size
 obtain ⟨N8,bd⟩:=Aq w1.heap.size
 rw[hN,bd] at X⊢
 clear hN bd q1 hs this
 go_loopg [2,10] G (fun g t2 cn wr=> ∃(j:Nat)(nj:Int),t2= .int .i64 nj∧cn= .int .i64 j∧j≤G∧nj≤1099511627776∧0≤nj∧Aside (g=G-j∧Hx (ks.drop j) nj j=some (k,r))∧
  Sat (Ad h s2*(I*(Sl.block N8 C1 [.bool false,.slice a1 ne ah,.slice a2 G c2]*(Sl.block (N+1+1) DH [.int .i64 0,.int .i64 0,.int .i64 0,.int .i64 0,.int .i64 0]*(Sl.block (N+1) DH [.int .i64 0,.int .i64 0,.int .i64 0,.int .i64 0,.int .i64 0]*(Sl.block N DH [.int .i64 x1,.int .i64 x2,.int .i64 x3,.int .i64 x4,.int .i64 l]*F)))))) wr)
 case atStart=>exact ⟨0,n,rfl,rfl,by omega,by omega,by omega,⟨rfl,HP.out.1⟩,X⟩
 obtain ⟨j,nj,rfl,rfl,hj,ce,dx,A,bl⟩:=hrel
 clear X
 haveI:=bl.i
 obtain ⟨y,l',hd,Q⟩:=bT A.out.2
 obtain ⟨hy,b0,cf⟩:=XJ hd
 rw[H.out.2] at cf
 have df:(j:Int)<G:=by omega
 obtain ⟨b,q,rfl,r1,r2,r3,r4⟩:=Co H.out.1 hy
 have al:=((Dx av.out).2 y (List.mem_of_getElem? hy)).2
 have HY:Aside (ks[j]?=some y):=hy
 unfold AB at al
 simp only[decide_eq_true_eq] at al
 obtain ⟨y1,y2,y3,y4⟩:=y
 simp only at al r1 r2 r3 r4 Q
 have hy1:1≤y2:=by omega
 have hy2:y2≤1048576:=by omega
 clear al hy hd
 rcases Q with ⟨ch,Q⟩|⟨ch,bh⟩
 · rw[←b0] at Q
   have HS:Aside (Hx (ks.drop (j+1)) (nj-y2) (j+1)=some (k,r)):=Q
   have hw2:=Bg (nj-y2) (by omega)
   clear b0 Q
   go_wp2
   go_roundg (G-(j+1))
   case measure=>have:=A.out.1;omega
   case rel=>exact ⟨j+1,nj-y2,rfl,by go_num,by omega,by omega,by omega,⟨rfl,HS.out⟩,iD _ _ _ _ _ _ _⟩
 obtain ⟨XO,cg⟩:=Prod.mk.inj bh
 subst XO
 subst cg
 have aw:Aside (U8 f l ks k r s2=R):=HP.out.2
 have D:=IF H.out.1 (i:=0) (j:=k) (by omega) (by rw[H.out.2];exact hj)
 have e1:sub ks 0 k=ks.take k:=by simp[sub]
 rw[e1,Nat.sub_zero,Nat.sub_zero] at D
 have cc:=Ov (P:=Tryz.prog) E (a:=some ⟨b,q,none⟩) (n:=G) (c:=c2) k (by omega)
 obtain ⟨z1,bm⟩:=Aq (AK (some ⟨b,q,none⟩) c2 0 4)
 rw[bm] at cc D
 have b9:Aside (AS I (.slice z1 k c2) (ks.take k)):=D
 clear D e1 bm A HP bh b0
 by_cases hz:r=0
 · subst hz
   have d:=IF H.out.1 (i:=k) (j:=ks.length) (by rw[H.out.2];exact hj) (Nat.le_refl _)
   have e2:sub ks k ks.length=ks.drop k:=by unfold sub;rw[←List.length_drop,List.take_length]
   rw[e2,H.out.2] at d
   have aj:=E7 (P:=Tryz.prog) E (a:=some ⟨b,q,none⟩) (n:=G) (c:=c2) k hj
   obtain ⟨z2,ab⟩:=Aq (AK (some ⟨b,q,none⟩) c2 k 4)
   rw[ab] at aj d
   have au:Aside (AS I (.slice z2 (G-k) (c2-k)) (ks.drop k)):=d
   have hQ:=aw.out
   unfold U8 at hQ
   rw[if_pos rfl] at hQ
   have HQ:Aside (M.bind (CU Al (ks.take k) l) (fun a=>M.bind (CU Al (ks.drop k) l) fun b=>M.pure (a,b)) s2=R):=hQ
   have c3:=fun F w q=>LK h s2 (ks.take k) l _ I F w b9.out q (by rw[List.length_take,H.out.2];omega) (by omega) (by omega) (Bi HQ.out K.out)
   clear d e2 ab hQ av HI
   go_wp2_with fail
   go_region_held2 (fun B=>B.cell? ⟨N8,2,none⟩=some (.slice (some ⟨b,q,none⟩) G c2)∧B.cell? ⟨N,4,none⟩=some (.int .i64 l)) (first|exact ⟨Ac _ _ _,Ac _ _ _⟩) (first
    |(
       go_at_call 144
       with_reducible refine Calls.mono (c3 _ _ (Bh (Ad h s2) I)) ?_
       rintro e w3 h3
       obtain ⟨r3,o⟩: ∃Y,Y=CU Al (ks.take k) l s2:=⟨_,rfl⟩
       rw[←o] at h3
       rcases r3 with ⟨ta,s3⟩|⟨er,s3⟩|_
       rotate_left
       · obtain ⟨rfl,q3⟩:=h3
         haveI:=q3.i
         have m:=B4 HQ.out o.symm
         subst m
         exact ⟨rfl,rfl,Ao _ _⟩
       · exact absurd (Cg HQ.out o.symm) K.out
       obtain ⟨v3,G3,rfl,⟨rfl,rfl⟩,q3⟩:=h3
       rw[Aw] at q3
       haveI:=q3.i
       have a6:=Be HQ.out o.symm
       have z:Aside (M.bind (CU Al (ks.drop k) l) (fun b=>M.pure (ta,b)) s3=R):=a6
       have c4:=fun F w q=>LK h s3 (ks.drop k) l _ I F w au.out q (by rw[List.length_drop,H.out.2];omega) (by omega) (by omega) (Bi z.out K.out)
       clear a6 o
       obtain ⟨⟨Z,p2,p3,p4⟩,L⟩:=ta
       unfold Bj
       simp only)
    |(
       go_at_call 144
       with_reducible refine Calls.mono (c4 _ _ (Bh (Ad h s3) I)) ?_
       rintro e w4 h4
       obtain ⟨r4,u⟩: ∃Y,Y=CU Al (ks.drop k) l s3:=⟨_,rfl⟩
       rw[←u] at h4
       rcases r4 with ⟨tb,s4⟩|⟨er,s4⟩|_
       rotate_left
       · obtain ⟨rfl,X⟩:=h4
         haveI:=X.i
         have m:=B4 z.out u.symm
         subst m
         exact ⟨rfl,rfl,Ao _ _⟩
       · exact absurd (Cg z.out u.symm) K.out
       obtain ⟨v4,G4,rfl,⟨rfl,rfl⟩,X⟩:=h4
       rw[Aw] at X
       haveI:=X.i
       have a7:=Be z.out u.symm
       have az:R= .ok (⟨⟨Z,p2,p3,p4⟩,L⟩,tb) s4:=a7.symm
       clear a7 u
       obtain ⟨⟨T,U,V,W⟩,oh⟩:=tb
       unfold Bj
       simp only))
   all_goals
    subst az
    go_wp2
    go_returns
    exact ⟨_,1,rfl,⟨rfl,rfl⟩,by rw[Aw];exact Ao _ _⟩
 have dz:((r:Int)==0)=false:=by simpa using hz
 have d:=IF H.out.1 (i:=k+1) (j:=ks.length) (by rw[H.out.2];omega) (Nat.le_refl _)
 have e2:sub ks (k+1) ks.length=ks.drop (k+1):=by unfold sub;rw[←List.length_drop,List.take_length]
 rw[e2,H.out.2] at d
 have aj:=E7 (P:=Tryz.prog) E (a:=some ⟨b,q,none⟩) (n:=G) (c:=c2) (k+1) (by omega)
 have ek:((k+1:Nat):Int)=(k:Int)+1:=by omega
 rw[ek] at aj
 obtain ⟨z2,ab⟩:=Aq (AK (some ⟨b,q,none⟩) c2 (k+1) 4)
 rw[ab] at aj d
 have au:Aside (AS I (.slice z2 (G-(k+1)) (c2-(k+1))) (ks.drop (k+1))):=d
 have hw1:=Bg ((k:Int)+1) (by omega)
 have hw3:=Bg (l-1) (by omega)
 have hQ:=aw.out
 unfold U8 at hQ
 rw[if_neg hz,HY.out] at hQ
 have HQ:Aside (M.bind (Br Ah Al f ⟨⟨y1,y2,y3,y4⟩,l-1⟩ r) (fun p=>
  M.bind (CU Al (ks.take k) l) fun a=>M.bind (EK Ah Al a p.1) fun a=>
  M.bind (CU Al (ks.drop (k+1)) l) fun b=>M.bind (EK Ah Al p.2 b) fun b=>M.pure (a,b)) s2=R):=hQ
 have cP:=fun F w q=>HI.out h s2 ⟨⟨y1,y2,y3,y4⟩,l-1⟩ r F w q (by simp only;omega) (by simp only;omega) (by omega) ce (Bi HQ.out K.out)
 unfold Bj at cP
 simp only at cP
 clear d e2 ab hQ av ek HI
 go_upto_region 18 with (fail)
 go_cut [11,12] (fun co cp wx=> ∃(Z p2 p3 p4 L T U V W oh:Int)(s3:TS)(M1 M2:Nat),co= .pointer (some ⟨M1,0,none⟩)∧cp= .pointer (some ⟨M2,0,none⟩)∧ -1000≤L∧L≤1000∧ -1000≤oh∧oh≤1000∧
  Aside (M.bind (CU Al (ks.take k) l) (fun a=>M.bind (EK Ah Al a ⟨⟨Z,p2,p3,p4⟩,L⟩) fun a=>
  M.bind (CU Al (ks.drop (k+1)) l) fun b=>M.bind (EK Ah Al ⟨⟨T,U,V,W⟩,oh⟩ b) fun b=>M.pure (a,b)) s3=R)∧
  Sat (Ad h s3*(I*(Sl.block M1 DH [.int .i64 Z,.int .i64 p2,.int .i64 p3,.int .i64 p4,.int .i64 L]*(Sl.block M2 DH [.int .i64 T,.int .i64 U,.int .i64 V,.int .i64 W,.int .i64 oh]*(Sl.block N8 C1 [.bool false,.slice a1 ne ah,.slice (some ⟨b,q,none⟩) G c2]*(Sl.block (N+1+1) DH [.int .i64 0,.int .i64 0,.int .i64 0,.int .i64 0,.int .i64 0]*(Sl.block (N+1) DH [.int .i64 0,.int .i64 0,.int .i64 0,.int .i64 0,.int .i64 0]*(Sl.block N DH [.int .i64 x1,.int .i64 x2,.int .i64 x3,.int .i64 x4,.int .i64 l]*F)))))))) wx)
 case first =>
  go_region_held2 (fun B=>B.cell? ⟨N8,2,none⟩=some (.slice (some ⟨b,q,none⟩) G c2)∧B.cell? ⟨N,4,none⟩=some (.int .i64 l)∧B.cell? ⟨b,q+k*4,none⟩=some (.int .i64 y1)∧B.cell? ⟨b,q+k*4+1,none⟩=some (.int .i64 y2)∧B.cell? ⟨b,q+k*4+2,none⟩=some (.int .i64 y3)∧B.cell? ⟨b,q+k*4+3,none⟩=some (.int .i64 y4)) (first|exact ⟨Ac _ _ _,Ac _ _ _,Ac _ _ _,Ac _ _ _,Ac _ _ _,Ac _ _ _⟩) (first
   |(
      go_at_call 98
      with_reducible refine Calls.mono (cP _ _ (Ae (Ad h s2))) ?_
      rintro e w3 h3
      obtain ⟨r3,o⟩: ∃Y,Y=Br Ah Al f ⟨⟨y1,y2,y3,y4⟩,l-1⟩ r s2:=⟨_,rfl⟩
      rw[←o] at h3
      rcases r3 with ⟨tp,s3⟩|⟨er,s3⟩|_
      rotate_left
      · obtain ⟨rfl,q3⟩:=h3
        haveI:=q3.i
        have m:=B4 HQ.out o.symm
        subst m
        exact ⟨rfl,rfl,Ao _ _⟩
      · exact absurd (Cg HQ.out o.symm) K.out
      obtain ⟨v3,G3,rfl,⟨rfl,rfl⟩,q3⟩:=h3
      rw[Aw] at q3
      haveI:=q3.i
      have a6:=Be HQ.out o.symm
      obtain ⟨u1,u2⟩:=Fe (fun p s n s' h=>Et h) f ⟨⟨y1,y2,y3,y4⟩,l-1⟩ r s2 tp s3 o.symm (-1000) 500 (by omega) (by omega) (by simp only;omega) (by simp only;omega)
      obtain ⟨⟨⟨Z,p2,p3,p4⟩,L⟩,⟨⟨T,U,V,W⟩,oh⟩⟩:=tp
      simp only at u1 u2
      have z:Aside (M.bind (CU Al (ks.take k) l) (fun a=>M.bind (EK Ah Al a ⟨⟨Z,p2,p3,p4⟩,L⟩) fun a=>M.bind (CU Al (ks.drop (k+1)) l) fun b=>M.bind (EK Ah Al ⟨⟨T,U,V,W⟩,oh⟩ b) fun b=>M.pure (a,b)) s3=R):=a6
      clear a6 o
      unfold Bj
      simp only))
  all_goals
   go_wp2
   go_meet
   exact ⟨Z,p2,p3,p4,L,T,U,V,W,oh,s3,_,_,rfl,rfl,by omega,by omega,by omega,by omega,z,Nn _ _ _ _ _ _ _ _ _⟩
 obtain ⟨Z,p2,p3,p4,L,T,U,V,W,oh,s3,M1,M2,rfl,rfl,u1,u2,u3,u4,z,q9⟩:=hcut
 haveI:=q9.i
 have c3:=fun F w q=>LK h s3 (ks.take k) l _ I F w b9.out q (by rw[List.length_take,H.out.2];omega) (by omega) (by omega) (Bi z.out K.out)
 clear bl cP HQ aw HY r1 r2 r3 r4
 go_upto_region 19 with (fail)
 go_region_held2 (fun B=>B.cell? ⟨N8,2,none⟩=some (.slice (some ⟨b,q,none⟩) G c2)∧B.cell? ⟨N,4,none⟩=some (.int .i64 l)∧B.cell? ⟨M1,0,none⟩=some (.int .i64 Z)∧B.cell? ⟨M1,1,none⟩=some (.int .i64 p2)∧B.cell? ⟨M1,2,none⟩=some (.int .i64 p3)∧B.cell? ⟨M1,3,none⟩=some (.int .i64 p4)∧B.cell? ⟨M1,4,none⟩=some (.int .i64 L)∧B.cell? ⟨M2,0,none⟩=some (.int .i64 T)∧B.cell? ⟨M2,1,none⟩=some (.int .i64 U)∧B.cell? ⟨M2,2,none⟩=some (.int .i64 V)∧B.cell? ⟨M2,3,none⟩=some (.int .i64 W)∧B.cell? ⟨M2,4,none⟩=some (.int .i64 oh)) (first|exact ⟨Ac _ _ _,Ac _ _ _,Ac _ _ _,Ac _ _ _,Ac _ _ _,Ac _ _ _,Ac _ _ _,Ac _ _ _,Ac _ _ _,Ac _ _ _,Ac _ _ _,Ac _ _ _⟩) (first
  |(
     go_at_call 144
     with_reducible refine Calls.mono (c3 _ _ (Bh (Ad h s3) I)) ?_
     rintro e w4 h4
     obtain ⟨r4,u⟩: ∃Y,Y=CU Al (ks.take k) l s3:=⟨_,rfl⟩
     rw[←u] at h4
     rcases r4 with ⟨ta,s4⟩|⟨er,s4⟩|_
     rotate_left
     · obtain ⟨rfl,X⟩:=h4
       haveI:=X.i
       have m:=B4 z.out u.symm
       subst m
       exact ⟨rfl,rfl,Ao _ _⟩
     · exact absurd (Cg z.out u.symm) K.out
     obtain ⟨v4,G4,rfl,⟨rfl,rfl⟩,X⟩:=h4
     rw[Aw] at X
     haveI:=X.i
     have a7:=Be z.out u.symm
     have ci:=Es u.symm
     rw[List.length_take,H.out.2] at ci
     have ae:Aside (M.bind (EK Ah Al ta ⟨⟨Z,p2,p3,p4⟩,L⟩) (fun a=>M.bind (CU Al (ks.drop (k+1)) l) fun b=>M.bind (EK Ah Al ⟨⟨T,U,V,W⟩,oh⟩ b) fun b=>M.pure (a,b)) s4=R):=a7
     have c4:=fun F w q=>LS h s4 ta ⟨⟨Z,p2,p3,p4⟩,L⟩ F w q (by omega) (by omega) u1 u2 (Bi ae.out K.out)
     unfold Bj at c4
     simp only at c4
     clear a7 u
     obtain ⟨⟨d1,d2,d3,d4⟩,dh⟩:=ta
     unfold Bj
     simp only)
  |(
     go_at_call 99
     with_reducible refine Calls.mono (c4 _ _ (Ae (Ad h s4))) ?_
     rintro e w5 h5
     obtain ⟨r5,a9⟩: ∃Y,Y=EK Ah Al ⟨⟨d1,d2,d3,d4⟩,dh⟩ ⟨⟨Z,p2,p3,p4⟩,L⟩ s4:=⟨_,rfl⟩
     rw[←a9] at h5
     rcases r5 with ⟨tb,s5⟩|⟨er,s5⟩|_
     rotate_left
     · obtain ⟨rfl,q5⟩:=h5
       haveI:=q5.i
       have m:=B4 ae.out a9.symm
       subst m
       exact ⟨rfl,rfl,Ao _ _⟩
     · exact absurd (Cg ae.out a9.symm) K.out
     obtain ⟨v5,G5,rfl,⟨rfl,rfl⟩,q5⟩:=h5
     rw[Aw] at q5
     haveI:=q5.i
     have be:=Be ae.out a9.symm
     have af:Aside (M.bind (CU Al (ks.drop (k+1)) l) (fun b=>M.bind (EK Ah Al ⟨⟨T,U,V,W⟩,oh⟩ b) fun b=>M.pure (tb,b)) s5=R):=be
     have c5:=fun F w q=>LK h s5 (ks.drop (k+1)) l _ I F w au.out q (by rw[List.length_drop,H.out.2];omega) (by omega) (by omega) (Bi af.out K.out)
     clear be a9
     obtain ⟨⟨g1,g2,g3,g4⟩,gh⟩:=tb
     unfold Bj
     simp only)
  |(
     go_at_call 144
     with_reducible refine Calls.mono (c5 _ _ (Bh (Ad h s5) I)) ?_
     rintro e w6 h6
     obtain ⟨r6,O⟩: ∃Y,Y=CU Al (ks.drop (k+1)) l s5:=⟨_,rfl⟩
     rw[←O] at h6
     rcases r6 with ⟨tc,s6⟩|⟨er,s6⟩|_
     rotate_left
     · obtain ⟨rfl,q6⟩:=h6
       haveI:=q6.i
       have m:=B4 af.out O.symm
       subst m
       exact ⟨rfl,rfl,Ao _ _⟩
     · exact absurd (Cg af.out O.symm) K.out
     obtain ⟨v6,G6,rfl,⟨rfl,rfl⟩,q6⟩:=h6
     rw[Aw] at q6
     haveI:=q6.i
     have bf:=Be af.out O.symm
     have cj:=Es O.symm
     rw[List.length_drop,H.out.2] at cj
     have ag:Aside (M.bind (EK Ah Al ⟨⟨T,U,V,W⟩,oh⟩ tc) (fun b=>M.pure (⟨⟨g1,g2,g3,g4⟩,gh⟩,b)) s6=R):=bf
     have c6:=fun F w q=>LS h s6 ⟨⟨T,U,V,W⟩,oh⟩ tc F w q u3 u4 (by omega) (by omega) (Bi ag.out K.out)
     unfold Bj at c6
     simp only at c6
     clear bf O
     obtain ⟨⟨l1,l2,l3,l4⟩,lh⟩:=tc
     unfold Bj
     simp only)
  |(
     go_at_call 99
     with_reducible refine Calls.mono (c6 _ _ (Ae (Ad h s6))) ?_
     rintro e w7 h7
     obtain ⟨r7,aa⟩: ∃Y,Y=EK Ah Al ⟨⟨T,U,V,W⟩,oh⟩ ⟨⟨l1,l2,l3,l4⟩,lh⟩ s6:=⟨_,rfl⟩
     rw[←aa] at h7
     rcases r7 with ⟨td,s7⟩|⟨er,s7⟩|_
     rotate_left
     · obtain ⟨rfl,q7⟩:=h7
       haveI:=q7.i
       have m:=B4 ag.out aa.symm
       subst m
       exact ⟨rfl,rfl,Ao _ _⟩
     · exact absurd (Cg ag.out aa.symm) K.out
     obtain ⟨v7,G7,rfl,⟨rfl,rfl⟩,q7⟩:=h7
     rw[Aw] at q7
     haveI:=q7.i
     have bg:=Be ag.out aa.symm
     have az:R= .ok (⟨⟨g1,g2,g3,g4⟩,gh⟩,td) s7:=bg.symm
     clear bg aa
     obtain ⟨⟨m1,m2,m3,m4⟩,mh⟩:=td
     unfold Bj
     simp only))
 all_goals
  subst az
  go_wp2
  go_returns
  exact ⟨_,1,rfl,⟨rfl,rfl⟩,by rw[Aw];exact Ao _ _⟩
theorem Pz(f:Nat):RM f:=by
 induction f with
 | zero =>
  intro h s x n F w hs h1 d j b hb
  by_cases c1:n≤0
  · exact P0 0 h s x n F w hs c1
  by_cases c2:x.E8.bytes≤n
  · exact Nx 0 h s x n F w hs c1 c2
  exact absurd (by unfold Br;rw[if_neg c1,if_neg c2];rfl) hb
 | succ f k =>
  intro h s x n F w hs h1 d j b hb
  by_cases c1:n≤0
  · exact P0 (f+1) h s x n F w hs c1
  by_cases c2:x.E8.bytes≤n
  · exact Nx (f+1) h s x n F w hs c1 c2
  by_cases hl: ∃y s2,Ah x.E8.Ap s= .ok y s2∧y.leaf=true
  · obtain ⟨y,s2,g,i⟩:=hl
    exact UB f h s x n F w hs c1 c2 b (fun c a e=>by rw[g] at e;cases e;exact i) hb
  exact Z5 f k h s x n F w hs c1 c2 b (by omega) d (by omega) (fun c a e=>by
   cases hy:c.leaf with
   |false=>rfl
   |true=>exact absurd ⟨c,a,e,hy⟩ hl) hb
theorem RQ(e:Int)(w:World):Sem.run Tryz.prog (Instr.typeAssert (.iface dV (.agg #[.int .i64 e])) 20 dV true) w= .ok (.tuple #[.agg #[.int .i64 e],.bool true]) w:=by
 kernel_rfl
theorem Hi(e:Int)(F:Ab)(w:World)(hs:Sat F w):
 Calls Tryz.prog 74 #[.iface dV (.agg #[.int .i64 e])] w fun a b=>a= .returned (.int .i64 e)∧Sat F b:=by
 haveI:=hs.i
 go_enter Tryz.func74,Tryz.ntmps74
 have ha:=RQ e
 go_wp2
 go_returns
 exact ⟨rfl,Sat.Dn (B:=Sl.block w.heap.size dV [.int .i64 e]) (Av (by ac_rfl))⟩
abbrev Fz:TypeId:=37
abbrev Qc:TypeId:=3
theorem Xl(s:Sp)(m:Nat):(Eh s m).1.length≤s.taken.length:=by
 unfold Eh Di
 simp only[List.length_mergeSort]
 have:=Il (s.taken.drop m) s.used []
 grind
theorem Sb(l:List Int): ∀s:Ck,(D8 l s).d=s.d∧(D8 l s).nm=s.nm∧(D8 l s).reads=s.reads:=by induction l with
 |nil=>exact fun s=>⟨rfl,rfl,rfl⟩
 | cons a l b =>
  intro s
  have e:(s.forget a).2.d=s.d∧(s.forget a).2.nm=s.nm∧(s.forget a).2.reads=s.reads:=by grind [Ck.forget]
  show (D8 l (s.forget a).2).d=_∧(D8 l (s.forget a).2).nm=_∧(D8 l (s.forget a).2).reads=_
  simp_all
def TS.Ha(s:TS)(m:Nat):TS:=⟨D8 (Eh s.sp m).1 s.ck,(Eh s.sp m).2,s.ops⟩
theorem NP.Ha{s:TS}(h:NP s)(m:Nat):NP (s.Ha m):=by
 obtain ⟨k,d⟩:=h.ck
 obtain ⟨a,b,c⟩:=Sb (Eh s.sp m).1 s.ck
 refine ⟨⟨k,OA _ d⟩,?_,h.ops,h.res,?_⟩
 ·obtain ⟨e,f,g,n4,i⟩:=h.num
  show dU s.ops (D8 _ s.ck)
  exact ⟨by rw[a];exact e,by rw[a];exact f,by rw[a,b];exact g,by rw[c];exact n4,by rw[a,b];exact i⟩
 show (s.sp.taken.take m).length≤s.ops
 have:=h.taken
 grind
theorem PO(t:Value)(mark:Int)(E:Nat)(u:FrameMode)(F:Ab)(w:World)(hs:Sat (Sl.block E Fz [.int .i64 0]*F) w):
 CallsD Tryz.prog 81 #[t,.int .i64 mark,.pointer (some ⟨E,0,none⟩)] u w fun e a b=>a=u∧(e= .returned (.tuple #[])∧Sat (Sl.block E Fz [.int .i64 0]*F) b):=by
 haveI:=hs.i
 go_enter_d Tryz.func81,Tryz.ntmps81
 go_wp2
 go_returns
 exact ⟨rfl,hs⟩
theorem V6(h:Th)(ck:Ck)(sp:Sp)(m:Nat)(E:Nat)(e:Int)(u:FrameMode)(F:Ab)(w:World)(he:e≠0)(y: ∀l,∃k,Bn k (D8 l ck))(hm:m≤sp.taken.length)(W:sp.taken.length≤1099511627776)(d:(Eh sp m).1.length≤1099511627776)
 (hs:Sat (AU h.C h.D ck*(Cd h.S sp*(Sl.block h.t Tn [.pointer (some ⟨h.C,0,none⟩),.pointer (some ⟨h.S,0,none⟩)]*(Sl.block E Fz [.int .i64 e]*F)))) w):
 CallsD Tryz.prog 81 #[.pointer (some ⟨h.t,0,none⟩),.int .i64 m,.pointer (some ⟨E,0,none⟩)] u w fun Q Y Z=>Y=u∧(Q= .returned (.tuple #[])∧
  Sat (AU h.C h.D (D8 (Eh sp m).1 ck)*(Cd h.S (Eh sp m).2*(Sl.block h.t Tn [.pointer (some ⟨h.C,0,none⟩),.pointer (some ⟨h.S,0,none⟩)]*(Sl.block E Fz [.int .i64 e]*F)))) Z):=by
 have U:=Ek y
 have f:=fun F w q=>Xk h.S sp m F w q hm W
 obtain ⟨l,hl⟩:=Aq ((Eh sp m).1)
 obtain ⟨r,z⟩:=Aq ((Eh sp m).2)
 rw[hl] at d
 rw[hl,z] at f⊢
 clear hl z y
 haveI:=hs.i
 go_enter_d Tryz.func81,Tryz.ntmps81
 go_wp2_with fail
 with_reducible refine Calls.mono (f _ _ (Ae (Cd h.S sp))) ?_
 rintro Q w2 ⟨a,c,rfl,B⟩
 haveI:=B.i
 clear f
 go_wp2_with fail
 obtain ⟨n,J⟩:=Aq l.length
 have L:=Ek J
 rw[J] at d B⊢
 clear J this
 haveI:=B.i
 have T:Sat (AU h.C h.D ck*(Cd h.S r*(Sl.block h.t Tn [.pointer (some ⟨h.C,0,none⟩),.pointer (some ⟨h.S,0,none⟩)]*(Sl.block E Fz [.int .i64 e]*(rw Cb 1 (.slice a n c) (ints l)*F))))) w2:=Av (by ac_rfl)
 clear B hs this
 go_loopg [25] n (fun g K wr=> ∃(i:Nat)(b:Ck),K= .int .i64 i∧i≤n∧Aside (g=n-i∧b=D8 (l.take i) ck)∧Sat (AU h.C h.D b*(Cd h.S r*(Sl.block h.t Tn [.pointer (some ⟨h.C,0,none⟩),.pointer (some ⟨h.S,0,none⟩)]*(Sl.block E Fz [.int .i64 e]*(rw Cb 1 (.slice a n c) (ints l)*F))))) wr)
 case atStart=>exact ⟨0,ck,rfl,by omega,⟨rfl,rfl⟩,T⟩
 obtain ⟨i,b,rfl,hi,A,o⟩:=hrel
 clear T
 by_cases V:i<n
 · have x:(i:Int)<n:=by omega
   obtain ⟨no,j⟩: ∃no,l[i]?=some no:=⟨_,List.getElem?_eq_getElem (by have:=L.out;omega)⟩
   have X:Sat (rw Cb 1 (.slice a n c) (ints l)*(AU h.C h.D b*(Cd h.S r*(Sl.block h.t Tn [.pointer (some ⟨h.C,0,none⟩),.pointer (some ⟨h.S,0,none⟩)]*(Sl.block E Fz [.int .i64 e]*F))))) wr:=o.eq (by ac_rfl)
   obtain ⟨g,rfl⟩:=Dh X (by omega)
   have s:(ints l)[i]?=some (.int .i64 no):=by unfold ints;simp[j]
   haveI:At (ints l) i (.int .i64 no):=⟨s⟩
   obtain ⟨k,I⟩:=U.out (l.take i)
   rw[←A.out.2] at I
   have v:=fun F w q=>Wj h.C h.D b k no F w q I
   have O:Aside ((b.forget no).2=D8 (l.take (i+1)) ck):=(by rw[AA j];unfold D8;rw[List.foldl_append,A.out.2];rfl:_=_)
   obtain ⟨G,R⟩:=Aq ((b.forget no).2)
   rw[R] at v O
   haveI:=o.i
   clear s j R I
   go_wp2_with fail
   with_reducible refine D1 (v _ _ (Ae (AU h.C h.D b))) fun w4 q5 _=>?_
   go_wp2_with fail
   go_roundg (n-(i+1))
   case measure=>have:=A.out.1;omega
   case rel=>exact ⟨i+1,G,by go_num,by omega,⟨rfl,O.out⟩,E3 _ _ _ _ _ _⟩
 have x: ¬(i:Int)<n:=by omega
 obtain rfl:i=n:=by omega
 have H:b=D8 l ck:=by have:=A.out.2;rwa [List.take_of_length_le (by rw[L.out];exact Nat.le_refl _)] at this
 haveI:=o.i
 subst H
 go_wp2
 go_returns
 exact ⟨rfl,DE _ _ _ _ _⟩
theorem V5(h:Th)(s:TS)(m:Nat)(E:Nat)(e:Int)(u:FrameMode)(F:Ab)(w:World)(g:e≠0)(hm:m≤s.sp.taken.length)(hs:Sat (Ad h s*(Sl.block E Fz [.int .i64 e]*F)) w):
 CallsD Tryz.prog 81 #[.pointer (some ⟨h.t,0,none⟩),.int .i64 m,.pointer (some ⟨E,0,none⟩)] u w fun a b c=>b=u∧(a= .returned (.tuple #[])∧Sat (Ad h (s.Ha m)*(Sl.block E Fz [.int .i64 e]*F)) c):=by
 obtain ⟨hi,hp⟩:=Ej hs
 obtain ⟨k,i⟩:=hi.ck
 have hl:=Xl s.sp m
 have j:=hi.ops
 have o:=hi.taken
 unfold BG at j
 refine (V6 h s.ck s.sp m E e u F w g (fun l=>⟨k,OA l i⟩) hm (by omega) (by omega) hp).mono ?_
 rintro a b c ⟨h1,d,f⟩
 exact ⟨h1,d,D0 (hi.Ha m) f⟩
theorem Tw(N E:Nat)(w:World):
 CallsD Tryz.prog 83 #[.pointer (some ⟨N,0,none⟩),.pointer (some ⟨E,0,none⟩)] .returning w fun e c d=>e= .returned (.tuple #[])∧c= .returning∧d=w:=by
 refine callsD_of_wpS Tryz.func83 rfl fun a cs b=>?_
 apply wpS_seq
 apply wpS_region
 simp[wpOpsS,go_sem,recoverD,b,Tryz.ntmps83,Exit.thenS]
 apply wpS_seq
 apply wpS_region
 simp[wpOpsS,go_sem,Exit.thenS]
 refine wpS_cond (t:=false) (by simp[Act.eval,Array.replicate]) ?_
 simp only[Bool.false_eq_true,if_false]
 refine wpS_of_wp (wp_skip ?_)
 cases a
 simp_all[bodyPostS,results,Tryz.results83,Exit.thenS]
theorem Qe(N E:Nat)(c:Int)(a b:Value)(F:Ab)(w:World)(hs:Sat (Sl.block N Qc [a]*(Sl.block E Fz [b]*F)) w):
 CallsD Tryz.prog 83 #[.pointer (some ⟨N,0,none⟩),.pointer (some ⟨E,0,none⟩)] (.panicking (CO c)) w fun e g j=>e= .returned (.tuple #[])∧g= .panicking [{ v:= .iface dV (.agg #[.int .i64 c]),recovered:=true }]∧Sat (Sl.block N Qc [.int .i64 0]*(Sl.block E Fz [.int .i64 c]*F)) j:=by
 haveI:=hs.i
 refine callsD_of_wpS Tryz.func83 rfl fun d cs f=>?_
 unfold CO at f
 apply wpS_seq
 apply wpS_region
 simp[wpOpsS,go_sem,recoverD,f,Tryz.ntmps83,Exit.thenS]
 apply wpS_seq
 apply wpS_region
 simp[wpOpsS,go_sem,Exit.thenS]
 refine wpS_cond (t:=true) (by simp[Act.eval,Array.replicate]) ?_
 simp only[if_true]
 refine wpS_of_wp ?_
 go_wp2_with fail
 refine D1 (Hi c _ _ hs) fun l k _=>?_
 go_wp2
 simp[bodyPostS,results,Tryz.results83]
 exact Av (by first|rfl|ac_rfl)
theorem PG(N E:Nat)(w:World):
 CallsD Tryz.prog 138 #[.pointer (some ⟨N,0,none⟩),.pointer (some ⟨E,0,none⟩)] .returning w fun e c d=>e= .returned (.tuple #[])∧c= .returning∧d=w:=by
 refine callsD_of_wpS Tryz.func138 rfl fun a cs b=>?_
 apply wpS_seq
 apply wpS_region
 simp[wpOpsS,go_sem,recoverD,b,Tryz.ntmps138,Exit.thenS]
 apply wpS_seq
 apply wpS_region
 simp[wpOpsS,go_sem,Exit.thenS]
 refine wpS_cond (t:=false) (by simp[Act.eval,Array.replicate]) ?_
 simp only[Bool.false_eq_true,if_false]
 refine wpS_of_wp (wp_skip ?_)
 cases a
 simp_all[bodyPostS,results,Tryz.results138,Exit.thenS]
theorem SR(N E:Nat)(c:Int)(a b:Value)(F:Ab)(w:World)(hs:Sat (Sl.block N Qc [a]*(Sl.block E Fz [b]*F)) w):
 CallsD Tryz.prog 138 #[.pointer (some ⟨N,0,none⟩),.pointer (some ⟨E,0,none⟩)] (.panicking (CO c)) w fun e g j=>e= .returned (.tuple #[])∧g= .panicking [{ v:= .iface dV (.agg #[.int .i64 c]),recovered:=true }]∧Sat (Sl.block N Qc [.int .i64 0]*(Sl.block E Fz [.int .i64 c]*F)) j:=by
 haveI:=hs.i
 refine callsD_of_wpS Tryz.func138 rfl fun d cs f=>?_
 unfold CO at f
 apply wpS_seq
 apply wpS_region
 simp[wpOpsS,go_sem,recoverD,f,Tryz.ntmps138,Exit.thenS]
 apply wpS_seq
 apply wpS_region
 simp[wpOpsS,go_sem,Exit.thenS]
 refine wpS_cond (t:=true) (by simp[Act.eval,Array.replicate]) ?_
 simp only[if_true]
 refine wpS_of_wp ?_
 go_wp2_with fail
 refine D1 (Hi c _ _ hs) fun l k _=>?_
 go_wp2
 simp[bodyPostS,results,Tryz.results138]
 exact Av (by first|rfl|ac_rfl)
theorem Ma(N E:Nat)(w:World):
 CallsD Tryz.prog 93 #[.pointer (some ⟨N,0,none⟩),.pointer (some ⟨E,0,none⟩)] .returning w fun e c d=>e= .returned (.tuple #[])∧c= .returning∧d=w:=by
 refine callsD_of_wpS Tryz.func93 rfl fun a cs b=>?_
 apply wpS_seq
 apply wpS_region
 simp[wpOpsS,go_sem,recoverD,b,Tryz.ntmps93,Exit.thenS]
 apply wpS_seq
 apply wpS_region
 simp[wpOpsS,go_sem,Exit.thenS]
 refine wpS_cond (t:=false) (by simp[Act.eval,Array.replicate]) ?_
 simp only[Bool.false_eq_true,if_false]
 refine wpS_of_wp (wp_skip ?_)
 cases a
 simp_all[bodyPostS,results,Tryz.results93,Exit.thenS]
def G'{α:Type}(h:Th)(F:Ab)(r:Fx TS α)(Bo:α→Value)(bad:Int→Value)(e:Ending)(b:World):Prop:=match r with
 | .ok a s=>e= .returned (Bo a)∧Sat (Ad h s*F) b
 | .fault n s=>e= .returned (bad n)∧Sat (Ad h s*F) b
 | .bad=>False
def On(a b:Int):Value:= .tuple #[.int .i64 a,.int .i64 b]
theorem Ib(h:Th)(s:TS)(root:Int)(F:Ab)(w:World)(hs:Sat (Ad h s*F) w)(hb:FC Ah root s≠ .bad):
 Calls Tryz.prog 86 #[.pointer (some ⟨h.t,0,none⟩),.int .i64 root] w (G' h F (FC Ah root s) (fun z=>On z 0) (fun k=>On 0 k)):=by
 have X: ∀(G:Fn)(first cap:Array Value)(w:World),(Instr.makeFunc G first cap).run Tryz.prog w= .ok (.func G first cap) w:=fun _ _ _ _=>rfl
 obtain ⟨R,c⟩:=Aq (FC Ah root s)
 rw[c] at hb⊢
 have j:Aside (R≠ .bad):=hb
 unfold FC at c
 haveI:=hs.i
 clear hb
 by_cases h0:root=0
 ·rw[if_pos h0] at c
  have a:R= .ok 0 s:=c.symm
  subst a
  subst h0
  clear c j
  go_enter_defers Tryz.func86,Tryz.ntmps86
  go_wp2
  refine leaves_cons (f:=138) (args:= #[.pointer (some ⟨w.heap.size,0,none⟩),.pointer (some ⟨w.heap.size+1,0,none⟩)]) (by simp) (by simp[go_sem]) ?_
  refine (PG _ _ _).mono ?_
  rintro e J x ⟨rfl,rfl,rfl⟩
  simp[Leaves,settle,results,Tryz.results86,go_sem]
  exact ⟨rfl,Ao _ _⟩
 rw[if_neg h0] at c
 have g:Aside (M.bind (Ah root) (fun n=>M.pure (AR n).1) s=R):=c
 have c1:=fun F w q=>Cw h s root F w q (Bi g.out j.out)
 have L:((root:Int)==0)=false:=by simpa using h0
 clear c
 go_enter_defers Tryz.func86,Tryz.ntmps86
 go_wp2_with fail
 with_reducible refine Calls.mono (c1 _ _ (Ae (Ad h s))) ?_
 rintro e B d
 obtain ⟨r1,b⟩: ∃r,r=Ah root s:=⟨_,rfl⟩
 rw[←b] at d
 rcases r1 with ⟨y,s2⟩|⟨k,s2⟩|_
 rotate_left
 ·obtain ⟨rfl,l⟩:=d
  haveI:=l.i
  have a:=B4 g.out b.symm
  subst a
  show bodyPostD _ _ _ (.panic (CO k)) _ B
  refine leaves_cons (f:=138) (args:= #[.pointer (some ⟨w.heap.size,0,none⟩),.pointer (some ⟨w.heap.size+1,0,none⟩)]) (by simp) (by simp[go_sem]) ?_
  refine (SR w.heap.size (w.heap.size+1) k _ _ _ B (Bh (Sl.block w.heap.size Qc [.int .i64 0]) (Sl.block (w.heap.size+1) Fz [.int .i64 0]))).mono ?_
  rintro e J w2 ⟨rfl,rfl,m⟩
  haveI:=m.i
  simp[Leaves,settle,results,Tryz.results86,go_sem]
  exact ⟨rfl,Ao _ _⟩
 ·exact absurd (Cg g.out b.symm) j.out
 obtain ⟨v1,D,rfl,⟨hx,o⟩,l⟩:=d
 obtain ⟨V,W⟩:=Cm o
 have a:R= .ok (AR y).1 s2:=(Be g.out b.symm).symm
 subst a
 have u:=fun F w q=>Ka y v1 D F w hx q (by omega) (by omega)
 obtain ⟨se,sk,rfl,H,I⟩:=hx
 obtain ⟨Z,K,rfl,O,Q⟩:=H.v
 obtain ⟨a2,c2,rfl,T,U⟩:=Aj.v I
 have m:Sat (D*(Ad h s2*(Sl.block (w.heap.size+1) Fz [.int .i64 0]*(Sl.block w.heap.size Qc [.int .i64 0]*F)))) B:=l.eq (by ac_rfl)
 haveI:=m.i
 clear H I g j c1 b l
 go_wp2_with fail
 refine Calls.mono (u _ _ m) ?_
 rintro e w3 ⟨rfl,Y⟩
 haveI:=Y.i
 go_wp2
 refine leaves_cons (f:=138) (args:= #[.pointer (some ⟨w.heap.size,0,none⟩),.pointer (some ⟨w.heap.size+1,0,none⟩)]) (by simp) (by simp[go_sem]) ?_
 refine (PG _ _ _).mono ?_
 rintro e J x ⟨rfl,rfl,rfl⟩
 simp[Leaves,settle,results,Tryz.results86,go_sem]
 exact ⟨rfl,Ao _ _⟩
end Go.Proofs.YtfhbmblbidcmmaaGreat
namespace Go.Tr
section
variable {σ:Type} {α β:Type} {P:σ→σ→Prop}
structure Tg (P:σ→σ→Prop):Prop where
 same: ∀s,P s s
 next: ∀a b c,P a b→P b c→P a c
def Ak(P:σ→σ→Prop)(m:M σ α):Prop:= ∀s,match m s with
 | .ok _ s'=>P s s'
 | .fault _ s'=>P s s'
 | .bad=>True
theorem Ak.pure(h:Tg P)(a:α):Ak P (M.pure a):=fun s=>h.same s
theorem Ak.fail(h:Tg P)(e:Int):Ak P (M.fail e:M σ α):=fun s=>h.same s
theorem Ak.bad:Ak P (M.bad:M σ α):=fun s=>trivial
theorem Ak.bind(h:Tg P){m:M σ α}{f:α→M σ β}(hm:Ak P m)(g: ∀a,Ak P (f a)):Ak P (M.bind m f):=fun s=>by
 have h1:=hm s
 unfold M.bind
 cases hr:m s with
 |bad=>trivial
 |fault e s1=>rw[hr] at h1;exact h1
 | ok a s1 =>
  rw[hr] at h1
  have d:=g a s1
  simp only[Fx.bind] at h1⊢
  cases c:f a s1 with
  |bad=>trivial
  |fault e s2=>rw[c] at d;exact h.next _ _ _ h1 d
  |ok b s2=>rw[c] at d;exact h.next _ _ _ h1 d
theorem Ak.ite{c:Prop}[Decidable c]{m k:M σ α}(h1:Ak P m)(a:Ak P k):Ak P (if c then m else k):=by grind
theorem Ak.ok{m:M σ α}{s s':σ}{a:α}(h:Ak P m)(e:m s= .ok a s'):P s s':=by
 have:=h s
 simp_all
theorem Ak.fault{m:M σ α}{s s':σ}{n:Int}(h:Ak P m)(e:m s= .fault n s'):P s s':=by
 have:=h s
 simp_all
variable (h:Tg P) {rd:Int→M σ Nd} {wt:Nd→M σ Kd} (hr: ∀p,Ak P (rd p)) (hw: ∀n,Ak P (wt n))
include h
include hw in
theorem Ic(n:Nd)(Az:Nat): ∀(c i a:Nat)(out:List Kd),Ak P (Cv wt n Az c i a out)
 |0,_,_,_=>Ak.pure h _
 |c+1,i,a,out=>Ak.bind h (hw _) fun k=>Ic n Az c _ _ _
include hw in
theorem E6(n:Nd):Ak P (B6 wt n):=Ic h hw n _ _ _ _ _
include hw in
theorem Md: ∀(f:Nat)(ks:List Kd)(x:Int),Ak P (Fc wt f ks x)
 |0,[],x=>Ak.pure h _
 |f+1,[],x=>Ak.pure h _
 |0,[k],x=>Ak.pure h _
 |f+1,[k],x=>Ak.pure h _
 |0,a::b::l,x=>Ak.bad
 |f+1,a::b::l,x=>Ak.bind h (E6 h hw _) fun ks=>Md f ks _
include hw in
theorem Jq(ks:List Kd)(x:Int):Ak P (grown wt ks x):=Md h hw _ _ _
include hw in
theorem E5(l:List Ar):Ak P (BT wt l):=Ak.bind h (E6 h hw _) fun ks=>Jq h hw _ _
include hw in
theorem GO(ks:List Kd)(x:Int):Ak P (CU wt ks x):=Jq h hw _ _
include hr hw in
theorem JL: ∀(f:Nat)(a b:BJ),Ak P (Cu rd wt f a b)
 |0,a,b=>Ak.bad
 | f + 1, a, b => by
  unfold Cu
  refine Ak.ite ?_ (Ak.ite ?_ ?_)
  ·refine Ak.bind h (hr _) fun x=>?_
   split
   ·exact Ak.bad
   exact Ak.ite Ak.bad (Ak.bind h (JL f _ _) fun r=>Ak.bind h (E6 h hw _) fun o=>Ak.pure h _)
  ·refine Ak.bind h (hr _) fun x=>?_
   split
   ·exact Ak.bad
   exact Ak.ite Ak.bad (Ak.bind h (JL f _ _) fun r=>Ak.bind h (E6 h hw _) fun o=>Ak.pure h _)
  exact Ak.bind h (hr _) fun x=>Ak.bind h (hr _) fun y=>Ak.ite (Ak.bind h (E6 h hw _) fun o=>Ak.pure h _) Ak.bad
include hr hw in
theorem IV(a b:BJ):Ak P (EK rd wt a b):=Ak.ite (Ak.pure h _) (Ak.ite (Ak.pure h _) (Ak.bind h (JL h hr hw _ _ _) fun r=>Jq h hw _ _))
include hr hw in
theorem GY: ∀(f:Nat)(x:BJ)(n:Int),Ak P (Br rd wt f x n)
 | 0, x, n => by
  unfold Br
  exact Ak.ite (Ak.pure h _) (Ak.ite (Ak.pure h _) Ak.bad)
 | f + 1, x, n => by
  unfold Br
  refine Ak.ite (Ak.pure h _) (Ak.ite (Ak.pure h _) (Ak.bind h (hr _) fun y=>Ak.ite ?_ ?_))
  ·split
   ·exact Ak.bad
   exact Ak.bind h (E5 h hw _) fun a=>Ak.bind h (E5 h hw _) fun b=>Ak.pure h _
  split
  ·exact Ak.bad
  refine Ak.ite (Ak.bind h (GO h hw _ _) fun a=>Ak.bind h (GO h hw _ _) fun b=>Ak.pure h _) ?_
  split
  ·exact Ak.bad
  exact Ak.bind h (GY f _ _) fun p=>Ak.bind h (GO h hw _ _) fun a=>Ak.bind h (IV h hr hw _ _) fun a=>Ak.bind h (GO h hw _ _) fun b=>Ak.bind h (IV h hr hw _ _) fun b=>Ak.pure h _
include hr in
theorem JB: ∀(f:Nat)(n:Nd)(x:Int),Ak P (C7 rd f n x)
 | 0, n, x => by
  unfold C7
  exact Ak.ite (Ak.pure h _) (Ak.fail h _)
 | f + 1, n, x => by
  unfold C7
  refine Ak.ite (Ak.pure h _) ?_
  simp only
  split
  ·exact Ak.bad
  exact Ak.bind h (hr _) fun m=>JB f m _
include hr in
theorem GZ(r:Int):Ak P (EC rd r):=Ak.ite (Ak.pure h _) (Ak.bind h (hr _) fun n=>Ak.bind h (JB h hr _ _ _) fun x=>Ak.pure h _)
include hr in
theorem LZ: ∀(f:Nat)(n:Nd)(x a:Int),Ak P (Eg rd f n x a)
 |0,n,x,a=>Ak.fail h _
 | f + 1, n, x, a => by
  unfold Eg
  split
  ·exact Ak.pure h _
  ·exact Ak.fail h _
  exact Ak.bind h (hr _) fun m=>LZ f m _ _
include hr in
theorem NJ(r x:Int):Ak P (K0 rd r x):=Ak.bind h (hr _) fun n=>LZ h hr _ _ _ _
include hr in
theorem Ei: ∀(f:Nat)(x:BJ)(n:Int),Ak P (CI rd f x n)
 | 0, x, n => by
  unfold CI
  exact Ak.ite (Ak.pure h _) (Ak.ite (Ak.pure h _) Ak.bad)
 | f + 1, x, n => by
  unfold CI
  refine Ak.ite (Ak.pure h _) (Ak.ite (Ak.pure h _) (Ak.bind h (hr _) fun y=>?_))
  split
  ·exact Ak.pure h _
  exact Ak.bind h (Ei f _ _) fun z=>Ak.pure h _
include hr in
theorem Vz(r:Int):Ak P (FC rd r):=Ak.ite (Ak.pure h _) (Ak.bind h (hr _) fun n=>Ak.pure h _)
include hw in
theorem Mc(l:List Ar):Ak P (IU wt l):=Ak.bind h (E5 h hw _) fun t=>Ak.pure h _
include hr in
theorem I2(r x:Int):Ak P (leftOf rd r x):=Ak.ite (Ak.bind h (NJ h hr _ _) fun p=>Ak.pure h _) (Ak.pure h _)
include hr in
theorem GU(r x a:Int):Ak P (FT rd r x a):=Ak.ite (Ak.bind h (NJ h hr _ _) fun p=>Ak.pure h _) (Ak.pure h _)
include hr hw in
theorem Qu(r a n x:Int)(put:List Ar):Ak P (Kj rd wt r a n x put):=
 Ak.bind h (I2 h hr _ _) fun L=>Ak.bind h (GU h hr _ _ _) fun R=>Ak.bind h (GZ h hr _) fun w=>Ak.bind h (Ei h hr _ _ _) fun r1=>Ak.bind h (Ei h hr _ _ _) fun r0=>
 Ak.ite (Ak.fail h _) (Ak.bind h (GY h hr hw _ _ _) fun p=>Ak.bind h (GY h hr hw _ _ _) fun q=>Ak.bind h (E5 h hw _) fun m=>Ak.bind h (IV h hr hw _ _) fun x=>Ak.bind h (IV h hr hw _ _) fun y=>Ak.pure h _)
end
end Go.Tr
namespace Go.Proofs.YtfhbmblbidcmmaaGreat
open Go.RowKit Go.Sl Go.Dk Go.Tr
def Grow(s s':TS):Prop:=(∃l,s'.sp.taken=s.sp.taken++l∧s'.sp.used=s.sp.used++l)∧s'.sp.Ba=s.sp.Ba∧s'.sp.waiting=s.sp.waiting∧s.ops≤s'.ops
theorem BL:Tg Grow where
 same s:=⟨⟨[],by simp,by simp⟩,rfl,rfl,Nat.le_refl _⟩
 next:=by
  rintro a b c ⟨⟨l,h1,d⟩,e,f,o⟩ ⟨⟨m,g,i⟩,j,k,q⟩
  exact ⟨⟨l++m,by rw[g,h1,List.append_assoc],by rw[i,d,List.append_assoc]⟩,j.trans e,k.trans f,by omega⟩
theorem Grow.len{s s':TS}(h:Grow s s'):s.sp.taken.length≤s'.sp.taken.length:=by
 obtain ⟨⟨l,h1,_⟩,_⟩:=h
 simp_all
theorem GG(e:Int):Ak Grow (Fo e):=by
 unfold Fo
 split
 ·exact Ak.pure BL _
 exact Ak.fail BL _
theorem Wu(no:Int):Ak Grow (Un no):=fun s=>by
 unfold Un
 by_cases h:s.ops<BG
 ·rw[if_pos h];exact ⟨⟨[],by simp,by simp⟩,rfl,rfl,by simp only;omega⟩
 grind
theorem Wv(no:Int)(b:List UInt8):Ak Grow (Zq no b):=fun s=>⟨⟨[],by simp,by simp⟩,rfl,rfl,by simp only;omega⟩
theorem Uo:Ak Grow IZ:=fun s=>by
 unfold IZ
 by_cases h:s.ops<BG
 ·rw[if_pos h]
  unfold Sp.take
  cases s.sp.free with
  |none=>exact ⟨⟨[],by simp,by simp⟩,rfl,rfl,by simp only;omega⟩
  |some no=>exact ⟨⟨[no],rfl,rfl⟩,rfl,rfl,by simp only;omega⟩
 grind
theorem FB(p:Int):Ak Grow (Ah p):=by
 refine Ak.bind BL (Wu p) fun r=>Ak.bind BL (GG _) fun _=>?_
 cases CR p r.2 with
 |none=>exact Ak.fail BL _
 |some n=>exact Ak.pure BL _
theorem Ta(n:Nd):Ak Grow (Al n):=by
 refine Ak.ite (Ak.fail BL _) ?_
 exact Ak.bind BL Uo fun t=>Ak.bind BL (GG _) fun _=>Ak.bind BL (GG _) fun _=>Ak.bind BL (Wv _ _) fun e=>Ak.bind BL (GG _) fun _=>Ak.pure BL _
def after(m:Nat){α:Type} :Fx TS α→Fx TS α
 | .fault e s=> .fault e (if e=0 then s else s.Ha m)
 |r=>r
def DO(l:List Ar):M TS Int:=fun s=>if Bf l=false then .fault 1 s else if 1024<(join l).length then .fault 11 s else after s.sp.taken.length (IU Al (join l) s)
theorem YG(a b c d e:Int)(w:World):Sem.run Tryz.prog (Instr.field DH (.agg #[.int .i64 a,.int .i64 b,.int .i64 c,.int .i64 d,.int .i64 e]) 0) w= .ok (.agg #[.int .i64 a,.int .i64 b,.int .i64 c,.int .i64 d]) w:=by kernel_rfl
theorem Wf(a b c d:Int)(w:World):Sem.run Tryz.prog (Instr.field Kr (.agg #[.int .i64 a,.int .i64 b,.int .i64 c,.int .i64 d]) 0) w= .ok (.int .i64 a) w:=by kernel_rfl
theorem QE: ∀(l o:List Ar),(l.foldl A6 o).length≤o.length+l.length
 | [],o=>by simp
 | x :: l, o => by
  have h1:=QE l (A6 o x)
  have a:=KH o x
  grind
theorem OQ(l:List Ar):(join l).length≤l.length:=by
 have:=QE l []
 simp_all[join,List.length_nil,Nat.zero_add]
instance mH{h:Th}{s:TS} :Em (Ad h s) h.t 0 (.pointer (some ⟨h.C,0,none⟩)):=⟨by
 unfold Ad PN
 exact Em.out⟩
instance mI{h:Th}{s:TS} :Em (Ad h s) h.t 1 (.pointer (some ⟨h.S,0,none⟩)):=⟨by
 unfold Ad PN
 exact Em.out⟩
theorem Ra(h:Th)(s:TS)(F:Ab)(w:World)(hs:Sat (Ad h s*F) w):
 Calls Tryz.prog 82 #[.pointer (some ⟨h.S,0,none⟩)] w fun e a=>e= .returned (.int .i64 s.sp.taken.length)∧Sat (Ad h s*F) a:=by
 obtain ⟨hi,hp⟩:=Ej hs
 refine (Xm h.S s.sp _ w (hp.eq (by ac_rfl):Sat (Cd h.S s.sp*(AU h.C h.D s.ck*(Sl.block h.t Tn [.pointer (some ⟨h.C,0,none⟩),.pointer (some ⟨h.S,0,none⟩)]*F))) w)).mono ?_
 rintro e a ⟨h1,b⟩
 exact ⟨h1,D0 hi (b.eq (by ac_rfl))⟩
abbrev PX:TypeId:=29
theorem J8{B:Ab}{v:Value}{l:List Ar}(b:Nat)(a:Au B v l):RO (Sl.block b PX [v]*B) (.slice (some ⟨b,0,none⟩) 1 1) [l]:=by
 refine ⟨[v],⟨rfl,_,_,rfl,Nat.le_refl _,by omega,fun j u c=>⟨b,0,rfl,?_⟩⟩,rfl,fun i x l' hx hl=>?_⟩
 ·haveI:At [v] j u:=⟨c⟩
  rw[Nat.zero_add]
  exact inferInstance
 cases i with
 |zero=>simp at hx hl;subst hx;subst hl;exact Aj.right a
 |succ i=>simp at hx
theorem Ty(h:Th)(s:TS)(l:List Ar)(v:Value)(B F:Ab)(w:World)(b:Au B v l)(hs:Sat (Ad h s*(B*F)) w)(hl:l.length≤65536)(hm:Bf l=false):
 Calls Tryz.prog 23 #[.pointer (some ⟨h.t,0,none⟩),v] w (G' h (B*F) (DO l s) (fun z=>On z 0) (fun e=>On 0 e)):=by
 obtain ⟨j,c0,rfl,f,g⟩:=b.v
 have d:DO l s= .fault 1 s:=by unfold DO;rw[if_pos hm]
 rw[d]
 have a:=fun F w q=>Gz l _ B F w b q (by omega)
 rw[hm] at a
 have c:=hs.eq (by ac_rfl)
 haveI:=c.i
 clear d b hs c
 go_enter_defers Tryz.func23,Tryz.ntmps23
 go_wp2_with fail
 with_reducible refine D1 (a _ _ (Ae B)) fun m k _=>?_
 go_wp2
 simp[bodyPostD,Leaves,settle,results,Tryz.results23,go_sem]
 exact ⟨rfl,AD _ _ _⟩
theorem Ox(h:Th)(s:TS)(l:List Ar)(v:Value)(B F:Ab)(w:World)(m:Au B v l)(hs:Sat (Ad h s*(B*F)) w)(hl:l.length≤65536)(hm:Bf l=true)(hb:DO l s≠ .bad):
 Calls Tryz.prog 23 #[.pointer (some ⟨h.t,0,none⟩),v] w (G' h (B*F) (DO l s) (fun z=>On z 0) (fun a=>On 0 a)):=by
 have au: ∀(fn:Fn)(first cap:Array Value)(w:World),(Instr.makeFunc fn first cap).run Tryz.prog w= .ok (.func fn first cap) w:=fun _ _ _ _=>rfl
 obtain ⟨U,c0,rfl,an,ao⟩:=m.v
 obtain ⟨R,r⟩:=Aq (DO l s)
 rw[r] at hb⊢
 have HB:=Ek hb
 unfold DO at r
 rw[if_neg (by rw[hm];simp)] at r
 have y:=fun F w q=>Gz l _ B F w m q (by omega)
 rw[hm] at y
 have HM:Aside ((∀x∈l,Ai x=true)∧Aa l≤1048576):=by
  rw[EH] at hm
  simp only[Bool.and_eq_true,List.all_eq_true,decide_eq_true_eq] at hm
  exact hm
 have g:=fun b F w q=>Ly [l] (.slice (some ⟨b,0,none⟩) 1 1) (Sl.block b PX [.slice U l.length c0]*B) F w (J8 b m) q (by simp) (by simp;omega) (by simpa using HM.out.1) (by have:=HM.out.2;simp;omega)
 have ef:([l]:List (List Ar)).flatten=l:=by simp
 rw[ef] at g
 have H:=OQ l
 obtain ⟨d,I⟩:=Aq (join l)
 rw[I] at g r H
 obtain ⟨j,Q⟩:=Aq d.length
 rw[Q] at H r
 have k:=Ek Q
 have Y:=Ek r
 have a3:=Ra h s
 have h2:=hs.eq (by ac_rfl)
 haveI:=h2.i
 clear m hs h2 r hb hm I ef
 go_enter_defers Tryz.func23,Tryz.ntmps23
 go_wp2_with fail
 with_reducible refine D1 (y _ _ (Ae B)) fun w2 q2 _=>?_
 go_wp2_with fail
 obtain ⟨N,Z⟩:=Aq w.heap.size
 obtain ⟨N2,o⟩:=Aq w2.heap.size
 have q3:Sat ((Sl.block N2 PX [.slice U l.length c0]*B)*(Sl.block (N+1) Fz [.int .i64 0]*(Sl.block N Qc [.int .i64 0]*(Ad h s*F)))) (w2.alloc (.cells #[.slice U l.length c0] PX)):=by
  rw[←Z,←o]
  exact Av (by ac_rfl)
 rw[o,Z]
 clear o Z q2 this y
 with_reducible refine Calls.mono (g _ _ _ q3) ?_
 rintro e w3 ⟨D,G,rfl,q4⟩
 rw[k.out] at q4⊢
 have q5:Sat (Ad h s*(rw AG 4 (.slice D j G) (AO d)*(Sl.block (N+1) Fz [.int .i64 0]*(Sl.block N Qc [.int .i64 0]*(B*F))))) w3:=Sat.Dn (B:=Sl.block N2 PX [.slice U l.length c0]) (q4.eq (by ac_rfl))
 haveI:=q5.i
 clear g q3 q4
 by_cases J:1024<j
 · have c:R= .fault 11 s:=by have:=Y.out;rw[if_pos J] at this;exact this.symm
   subst c
   have K:(1024:Int)<j:=by omega
   go_wp2
   simp[bodyPostD,Leaves,settle,results,Tryz.results23,go_sem]
   exact ⟨rfl,AD _ _ _⟩
 have K: ¬(1024:Int)<j:=by omega
 have u:after s.sp.taken.length (IU Al d s)=R:=by have:=Y.out;rwa [if_neg J] at this
 have m:Au (rw AG 4 (.slice D j G) (AO d)) (.slice D j G) d:=by
  have:=Aj.rw (F:=Sl.block (N+1) Fz [.int .i64 0]*(Sl.block N Qc [.int .i64 0]*(B*F*Ad h s))) (q5.eq (by ac_rfl)) ⟨D,G,rfl⟩ (n:=j)
  rw[←k.out] at this⊢
  exact this
 obtain ⟨x,hx⟩:=Aq (BT Al d s)
 have O:x≠ .bad:=fun e=>HB.out (by
  rw[←u]
  unfold IU M.bind
  rw[hx,e]
  rfl)
 have L:=fun F w q=>I1 h s d _ (rw AG 4 (.slice D j G) (AO d)) F w m q (by rw[k.out];omega) (by rw[hx];exact O)
 rw[hx] at L
 have a2: ∀a s3,x= .fault a s3→s.sp.taken.length≤s3.sp.taken.length:=fun a s3 e=>(Ak.fault (E5 BL Ta d) (hx.trans e)).len
 have HX:Aside (after s.sp.taken.length (M.bind (fun _=>x) (fun t=>M.pure t.E8.Ap) s)=R):=(by rw[←u];unfold IU M.bind;rw[hx]:_=_)
 clear m u hx Y
 go_wp2_with fail
 with_reducible refine D1 (a3 _ _ (Ae (Ad h s))) fun w4 q6 _=>?_
 clear q5
 go_wp2_with fail
 with_reducible refine Calls.mono (L _ _ (Bh (Ad h s) (rw AG 4 (.slice D j G) (AO d)))) ?_
 rintro e w5 h5
 cases x with
 |bad=>exact absurd rfl O
 | fault a s3 =>
   obtain ⟨rfl,V⟩:=h5
   have hg:=a2 a s3 rfl
   have c:R= .fault a (if a=0 then s3 else s3.Ha s.sp.taken.length):=HX.out.symm
   subst c
   show bodyPostD _ _ _ (.panic (CO a)) _ w5
   haveI:=V.i
   refine leaves_cons (f:=83) (args:= #[.pointer (some ⟨N,0,none⟩),.pointer (some ⟨N+1,0,none⟩)]) (by simp) (by simp[go_sem]) ?_
   refine (Qe N (N+1) a _ _ _ w5 (Bh (Sl.block N Qc [.int .i64 0]) (Sl.block (N+1) Fz [.int .i64 0]))).mono ?_
   rintro e W X ⟨rfl,rfl,q8⟩
   haveI:=q8.i
   show Leaves _ _ _ _ _ .returning X
   refine leaves_cons (f:=81) (args:= #[.pointer (some ⟨h.t,0,none⟩),.int .i64 s.sp.taken.length,.pointer (some ⟨N+1,0,none⟩)]) (by simp) (by simp[go_sem]) ?_
   by_cases he:a=0
   ·subst he
    rw[if_pos rfl]
    refine (PO _ _ (N+1) _ _ X (Ae (Sl.block (N+1) Fz [.int .i64 0]))).mono ?_
    rintro e W w7 ⟨rfl,rfl,T⟩
    haveI:=T.i
    simp[Leaves,settle,results,Tryz.results23,go_sem]
    exact ⟨rfl,AD _ _ _⟩
   rw[if_neg he]
   refine (V5 h s3 s.sp.taken.length (N+1) a _ _ X he hg (Bh (Ad h s3) (Sl.block (N+1) Fz [.int .i64 a]))).mono ?_
   rintro e W w7 ⟨rfl,rfl,T⟩
   haveI:=T.i
   simp[Leaves,settle,results,Tryz.results23,go_sem]
   exact ⟨rfl,AD _ _ _⟩
 | ok t s3 =>
   obtain ⟨v3,G3,rfl,⟨rfl,rfl⟩,V⟩:=h5
   rw[Aw] at V
   have c:R= .ok t.E8.Ap s3:=HX.out.symm
   subst c
   obtain ⟨⟨t1,t2,t3,t4⟩,th⟩:=t
   unfold Bj
   haveI:=V.i
   have ap:=YG t1 t2 t3 t4 th
   have aq:=Wf t1 t2 t3 t4
   go_wp2
   refine leaves_cons (f:=83) (args:= #[.pointer (some ⟨N,0,none⟩),.pointer (some ⟨N+1,0,none⟩)]) (by simp) (by simp[go_sem]) ?_
   refine (Tw _ _ _).mono ?_
   rintro e W X ⟨rfl,rfl,rfl⟩
   show Leaves _ _ _ _ _ .returning _
   refine leaves_cons (f:=81) (args:= #[.pointer (some ⟨h.t,0,none⟩),.int .i64 s.sp.taken.length,.pointer (some ⟨N+1,0,none⟩)]) (by simp) (by simp[go_sem]) ?_
   refine (PO _ _ (N+1) _ _ _ (Ae (Sl.block (N+1) Fz [.int .i64 0]))).mono ?_
   rintro e W w7 ⟨rfl,rfl,T⟩
   haveI:=T.i
   simp[Leaves,settle,results,Tryz.results23,go_sem]
   exact ⟨rfl,AD _ _ _⟩
theorem Y9(h:Th)(s:TS)(l:List Ar)(v:Value)(B F:Ab)(w:World)(a:Au B v l)(hs:Sat (Ad h s*(B*F)) w)(hl:l.length≤65536)(hb:DO l s≠ .bad):
 Calls Tryz.prog 23 #[.pointer (some ⟨h.t,0,none⟩),v] w (G' h (B*F) (DO l s) (fun z=>On z 0) (fun b=>On 0 b)):=by
 cases hm:Bf l with
 |false=>exact Ty h s l v B F w a hs hl hm
 |true=>exact Ox h s l v B F w a hs hl hm hb
