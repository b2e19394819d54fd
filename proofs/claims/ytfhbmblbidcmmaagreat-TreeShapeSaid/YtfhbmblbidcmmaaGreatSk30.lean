/- treeShape holds for every input. No condition. (part 30) -/
import Derived.Test.YtfhbmblbidcmmaaGreatSk29
import Derived.Deep.RegionHeld2
set_option linter.all false
set_option maxRecDepth 100000
set_option maxHeartbeats 12800000
namespace Go.Tr
theorem ZE{l:List Au}{n:Int}{k r:Nat}(h:EW l n k=some r)(a:0<n): ∃x l',l=x::l'∧EW l' (n-x.len) (k+1)=some r:=by
 cases l with
 |nil=>unfold EW at h;simp only[if_pos a] at h;cases h
 |cons x l=>unfold EW at h;simp only[if_pos a] at h;exact ⟨x,l,rfl,h⟩
theorem Vu{l:List Au}{n:Int}{k r:Nat}(h:EW l n k=some r)(a: ¬0<n):r=k:=by
 cases l with
 |nil=>unfold EW at h;simp only[if_neg a] at h;exact (Option.some.inj h).symm
 |cons x l=>unfold EW at h;simp only[if_neg a] at h;exact (Option.some.inj h).symm
theorem Ws{α:Type}{l l':List α}{x:α}{j:Nat}(h:l.drop j=x::l'):l[j]?=some x∧l.drop (j+1)=l'∧j<l.length:=by
 have h1:l[j]?=some x:=by
  have:=congrArg List.head? h
  simpa using this
 refine ⟨h1,?_,?_⟩
 · have:=congrArg List.tail h
   simpa using this
 rcases Nat.lt_or_ge j l.length with a|a
 · exact a
 rw[List.drop_of_length_le a] at h;cases h
end Go.Tr
namespace Go.Proofs.YtfhbmblbidcmmaaGreat
open Go.RowKit Go.Sl Go.Dk Go.Tr
theorem Ty(f:Nat)(h:Th)(s:TS)(x:BG)(n:Int)(F:Ac)(w:World)(hs:Sat (Ae h s*F) w)(h1: ¬n≤0)(h2: ¬x.DT.bytes≤n)(bm:n≤1099511627776)
 (o: ∀y s2,Ai x.DT.As s= .ok y s2→y.leaf=true) (hb:Bi Ai Ak (f+1) x n s≠ .bad):
 Calls Tryz.prog 98 #[.pointer (some ⟨h.t,0,none⟩),Bd x,.int .i64 n] w (DE h F (Bi Ai Ak (f+1) x n s) P6):=by
 obtain ⟨i0,E⟩:=Ey
 obtain ⟨R,O⟩:=Aq (Bi Ai Ak (f+1) x n s)
 rw[O] at hb⊢
 have HB:Aside (R≠ .bad):=hb
 unfold Bi at O
 rw[if_neg h1,if_neg h2] at O
 obtain ⟨⟨x1,x2,x3,x4⟩,xh⟩:=x
 simp only at h2 O o
 have U:=AX O hb
 have c1:=fun F w q=>Cw h s x1 F w q U
 have HR:Aside (∀y s2,Ai x1 s= .ok y s2→y.leaf=true∧ ∃k,EW y.Ag n 0=some k∧M.bind (BV Ak (y.Ag.take k)) (fun a=>M.bind (BV Ak (y.Ag.drop k)) fun b=>M.pure (a,b)) s2=R):=fun y s2 hm=>by
  have I:=AW O hm
  rw[if_pos (o y s2 hm)] at I
  refine ⟨o y s2 hm,?_⟩
  cases hp:EW y.Ag n 0 with
  |none=>rw[hp] at I;exact absurd I.symm hb
  |some k=>rw[hp] at I;exact ⟨k,rfl,I⟩
 have HU:Aside ((∀Z s1,Ai x1 s= .fault Z s1→R= .fault Z s1)∧Ai x1 s≠ .bad):=⟨fun Z s1 hm=>Bn O hm,U⟩
 unfold Bd
 haveI:=hs.i
 clear hb O U o
 go_enter Tryz.func98,Tryz.ntmps98
 go_wp2_with fail
 with_reducible refine Calls.mono (c1 _ _ (Af (Ae h s))) ?_
 rintro e w1 Y
 obtain ⟨r1,u⟩: ∃r,r=Ai x1 s:=⟨_,rfl⟩
 rw[←u] at Y
 rcases r1 with ⟨y,s2⟩|⟨Z,s2⟩|_
 rotate_left
 · obtain ⟨rfl,q1⟩:=Y
   haveI:=q1.i
   have p:=HU.out.1 _ _ u.symm
   subst p
   exact ⟨rfl,rfl,Ap _ _⟩
 · exact absurd u.symm HU.out.2
 obtain ⟨v1,L,rfl,⟨hx,T⟩,q1⟩:=Y
 obtain ⟨o,k,W,I⟩:=HR.out _ _ u.symm
 obtain ⟨se,sk,rfl,hE,hK⟩:=hx
 obtain ⟨H,d,rfl,a4,bi⟩:=hE.v
 obtain ⟨a2,c2,rfl,au,bj⟩:=Al.v hK
 obtain ⟨a9,aa⟩:=Cs T
 have a3:Aside (may y=true):=T
 obtain ⟨lf,es,ks⟩:=y
 simp only at hE a9 aa a4 W I o⊢
 subst o
 obtain ⟨ne,V⟩:=Aq es.length
 obtain ⟨nk,ac⟩:=Aq ks.length
 have D:Aside (An L (.slice H es.length d) es∧es.length=ne):=⟨hE,V⟩
 rw[V] at a9 a4⊢
 rw[ac] at aa au⊢
 have HP:Aside (EW es n 0=some k∧M.bind (BV Ak (es.take k)) (fun a=>M.bind (BV Ak (es.drop k)) fun b=>M.pure (a,b)) s2=R):=⟨W,I⟩
 haveI:=q1.i
 clear hE hK T V ac W I u HR HU c1
 go_wp2_with fail
 have Q:Sat (Ae h s2*(L*(Sl.block w1.heap.size C0 [.bool true,.slice H ne d,.slice a2 nk c2]*(Sl.block (w.heap.size+1+1) D5 [.int .i64 0,.int .i64 0,.int .i64 0,.int .i64 0,.int .i64 0]*(Sl.block (w.heap.size+1) D5 [.int .i64 0,.int .i64 0,.int .i64 0,.int .i64 0,.int .i64 0]*F))))) (w1.alloc (.cells #[.bool true,.slice H ne d,.slice a2 nk c2] C0)):=A6 (C:=Sl.block w.heap.size D5 [.int .i64 x1,.int .i64 x2,.int .i64 x3,.int .i64 x4,.int .i64 xh]) (by ac_rfl)
 obtain ⟨N,hN⟩:=Aq w.heap.size
 obtain ⟨N8,a5⟩:=Aq w1.heap.size
 rw[hN,a5] at Q⊢
 clear hN a5 q1 hs this
 go_loopg [2,9] ne (fun g t2 t9 wr=> ∃(j:Nat)(K:Int),t2= .int .i64 K∧t9= .int .i64 j∧j≤ne∧K≤1099511627776∧ -1048576≤K∧Aside (g=ne-j∧EW (es.drop j) K j=some k)∧
  Sat (Ae h s2*(L*(Sl.block N8 C0 [.bool true,.slice H ne d,.slice a2 nk c2]*(Sl.block (N+1+1) D5 [.int .i64 0,.int .i64 0,.int .i64 0,.int .i64 0,.int .i64 0]*(Sl.block (N+1) D5 [.int .i64 0,.int .i64 0,.int .i64 0,.int .i64 0,.int .i64 0]*F))))) wr)
 case atStart=>exact ⟨0,n,rfl,rfl,by omega,by omega,by omega,⟨rfl,HP.out.1⟩,Q⟩
 obtain ⟨j,K,rfl,rfl,hj,bk,bl,A,b0⟩:=hrel
 clear Q
 haveI:=b0.i
 by_cases ab:0<K
 · obtain ⟨y,l',hd,X⟩:=ZE A.out.2 ab
   obtain ⟨hy,a6,az⟩:=Ws hd
   rw[D.out.2] at az
   have be:(j:Int)<ne:=by omega
   rw[←a6] at X
   have HS:Aside (EW (es.drop (j+1)) (K-y.len) (j+1)=some k):=X
   obtain ⟨b,q,rfl,r1,r2,r3,r4⟩:=BD D.out.1 hy
   have J:=((Dj a3.out).1 y (List.mem_of_getElem? hy)).2
   unfold Ah at J
   simp only[decide_eq_true_eq] at J
   obtain ⟨y1,y2,y3,y4⟩:=y
   simp only at J r1 r2 r3 r4 HS
   have hy1:1≤y3:=by omega
   have hy2:y3≤1048576:=by omega
   have hw2:=Bc (K-y3) (by omega)
   clear J hy hd a6 X
   go_wp2
   go_roundg (ne-(j+1))
   case measure=>have:=A.out.1;omega
   case rel=>exact ⟨j+1,K-y3,rfl,by go_num,by omega,by omega,by omega,⟨rfl,HS.out⟩,Fx _ _ _ _ _ _⟩
 obtain rfl:=Vu A.out.2 ab
 have HQ:Aside (M.bind (BV Ak (es.take k)) (fun a=>M.bind (BV Ak (es.drop k)) fun b=>M.pure (a,b)) s2=R):=HP.out.2
 have l:=K2 D.out.1 (i:=0) (j:=k) (by omega) (by rw[D.out.2];exact hj)
 have m:=K2 D.out.1 (i:=k) (j:=es.length) (by rw[D.out.2];exact hj) (Nat.le_refl _)
 have e1:sub es 0 k=es.take k:=by simp[sub]
 have e2:sub es k es.length=es.drop k:=by unfold sub;rw[←List.length_drop,List.take_length]
 rw[e1,Nat.sub_zero,Nat.sub_zero] at l
 rw[e2,D.out.2] at m
 have aw:=Nv (P:=Tryz.prog) E (a:=H) (n:=ne) (c:=d) k (by omega)
 have ax:=Er (P:=Tryz.prog) E (a:=H) (n:=ne) (c:=d) k hj
 obtain ⟨z1,ad⟩:=Aq (AJ H d 0 4)
 obtain ⟨z2,ae⟩:=Aq (AJ H d k 4)
 rw[ad] at aw l
 rw[ae] at ax m
 have ao:=fun F w q=>Ii h s2 (es.take k) _ L F w l q (by rw[List.length_take,D.out.2];omega) (AX HQ.out HB.out)
 have HC:Aside (An L (.slice z2 (ne-k) (d-k)) (es.drop k)):=m
 clear l m e1 e2 ad ae A HP a3
 go_wp2_with fail
 go_region_held2 (fun w'=>w'.cell? ⟨N8,1,none⟩=some (.slice H ne d)) (first|exact Ab _ _ _) (first
  |(
    go_at_call 84
    with_reducible refine Calls.mono (ao _ _ (AP (Ae h s2) L)) ?_
    rintro e w3 h3
    obtain ⟨r3,z⟩: ∃r,r=BV Ak (es.take k) s2:=⟨_,rfl⟩
    rw[←z] at h3
    rcases r3 with ⟨ta,s3⟩|⟨Z,s3⟩|_
    rotate_left
    ·obtain ⟨rfl,q3⟩:=h3
     haveI:=q3.i
     have p:=Bn HQ.out z.symm
     subst p
     exact ⟨rfl,rfl,Ap _ _⟩
    ·exact absurd (Ch HQ.out z.symm) HB.out
    obtain ⟨v3,G3,rfl,⟨rfl,rfl⟩,q3⟩:=h3
    rw[Aw] at q3
    haveI:=q3.i
    have a7:=AW HQ.out z.symm
    have G:Aside (M.bind (BV Ak (es.drop k)) (fun b=>M.pure (ta,b)) s3=R):=a7
    have ap:=fun F w q=>Ii h s3 (es.drop k) _ L F w HC.out q (by rw[List.length_drop,D.out.2];omega) (AX G.out HB.out)
    clear a7 z
    obtain ⟨⟨p1,p2,p3,p4⟩,ph⟩:=ta
    unfold Bd)
  |(
    go_at_call 84
    with_reducible refine Calls.mono (ap _ _ (AP (Ae h s3) L)) ?_
    rintro e w4 h4
    obtain ⟨r4,B⟩: ∃r,r=BV Ak (es.drop k) s3:=⟨_,rfl⟩
    rw[←B] at h4
    rcases r4 with ⟨tb,s4⟩|⟨Z,s4⟩|_
    rotate_left
    ·obtain ⟨rfl,Q⟩:=h4
     haveI:=Q.i
     have p:=Bn G.out B.symm
     subst p
     exact ⟨rfl,rfl,Ap _ _⟩
    ·exact absurd (Ch G.out B.symm) HB.out
    obtain ⟨v4,G4,rfl,⟨rfl,rfl⟩,Q⟩:=h4
    rw[Aw] at Q
    haveI:=Q.i
    have a8:=AW G.out B.symm
    have av:R= .ok (⟨⟨p1,p2,p3,p4⟩,ph⟩,tb) s4:=a8.symm
    clear a8 B
    obtain ⟨⟨o1,o2,o3,o4⟩,oh⟩:=tb
    unfold Bd))
 all_goals
  subst av
  go_wp2
  go_returns
  exact ⟨_,1,rfl,⟨rfl,rfl⟩,by rw[Aw];exact Ap _ _⟩
end Go.Proofs.YtfhbmblbidcmmaaGreat
namespace Go.Tr
theorem ZF{l:List Kd}{n:Int}{k:Nat}{r:Nat×Int}(h:Hj l n k=some r): ∃x l',l=x::l'∧((x.bytes≤n∧Hj l' (n-x.bytes) (k+1)=some r)∨(¬x.bytes≤n∧r=(k,n))):=by
 cases l with
 |nil=>cases h
 | cons x l =>
  unfold Hj at h
  by_cases a:x.bytes≤n
  ·rw[if_pos a] at h;exact ⟨x,l,rfl,.inl ⟨a,h⟩⟩
  rw[if_neg a] at h;exact ⟨x,l,rfl,.inr ⟨a,(Option.some.inj h).symm⟩⟩
end Go.Tr
namespace Go.Proofs.YtfhbmblbidcmmaaGreat
open Go.RowKit Go.Sl Go.Dk Go.Tr
def Tv(f : Nat)(c : Int)(ks : List Kd)(k : Nat)(r : Int) : M TS (BG × BG) :=
 if r=0 then M.bind (CP Ak (ks.take k) c) fun a=>M.bind (CP Ak (ks.drop k) c) fun b=>M.pure (a,b)
 else match ks[k]? with
  |none=>M.bad
  | some z => M.bind (Bi Ai Ak f ⟨z, c - 1⟩ r) fun p =>
   M.bind (CP Ak (ks.take k) c) fun a=>M.bind (E4 Ai Ak a p.1) fun a=>
   M.bind (CP Ak (ks.drop (k+1)) c) fun b=>M.bind (E4 Ai Ak p.2 b) fun b=>M.pure (a,b)
def QN(f:Nat):Prop:= ∀(h:Th)(s:TS)(x:BG)(n:Int)(F:Ac)(w:World),Sat (Ae h s*F) w→(f:Int)-700≤x.Am→x.Am≤500→f≤30→n≤1099511627776→Bi Ai Ak f x n s≠ .bad→
 Calls Tryz.prog 98 #[.pointer (some ⟨h.t,0,none⟩),Bd x,.int .i64 n] w (DE h F (Bi Ai Ak f x n s) P6)
theorem XS(f : Nat)(ih : QN f)(h : Th)(s : TS)(x : BG)(n : Int)(F : Ac)(w : World)(hs : Sat (Ae h s * F) w)(h1 : ¬ n ≤ 0)(h2 : ¬ x.DT.bytes ≤ n)(dy : n ≤ 1099511627776)
 (ck:(f:Int)-699≤x.Am) (cl:x.Am≤500) (hf:f≤29)
 (J: ∀y s2,Ai x.DT.As s= .ok y s2→y.leaf=false) (hb:Bi Ai Ak (f+1) x n s≠ .bad):
 Calls Tryz.prog 98 #[.pointer (some ⟨h.t,0,none⟩),Bd x,.int .i64 n] w (DE h F (Bi Ai Ak (f+1) x n s) P6):=by
 obtain ⟨i1,E⟩:=LK
 obtain ⟨R,hR⟩:=Aq (Bi Ai Ak (f+1) x n s)
 rw[hR] at hb⊢
 have K:Aside (R≠ .bad):=hb
 have HI:Aside (QN f):=ih
 unfold Bi at hR
 rw[if_neg h1,if_neg h2] at hR
 obtain ⟨⟨x1,x2,x3,x4⟩,l⟩:=x
 simp only at h2 hR J ck cl
 have b2:=AX hR hb
 have c1:=fun F w q=>Cw h s x1 F w q b2
 have HR:Aside (∀y s2,Ai x1 s= .ok y s2→y.leaf=false∧ ∃k r,Hj y.kids n 0=some (k,r)∧Tv f l y.kids k r s2=R):=fun y s2 hm=>by
  have hg:=AW hR hm
  rw[if_neg (by rw[J y s2 hm];simp)] at hg
  refine ⟨J y s2 hm,?_⟩
  cases hp:Hj y.kids n 0 with
  |none=>rw[hp] at hg;exact absurd hg.symm hb
  |some kr=>rw[hp] at hg;exact ⟨kr.1,kr.2,rfl,hg⟩
 have HU:Aside ((∀er s1,Ai x1 s= .fault er s1→R= .fault er s1)∧Ai x1 s≠ .bad):=⟨fun er s1 hm=>Bn hR hm,b2⟩
 unfold Bd
 haveI:=hs.i
 clear hb hR b2 J ih
 go_enter Tryz.func98,Tryz.ntmps98
 go_wp2_with fail
 with_reducible refine Calls.mono (c1 _ _ (Af (Ae h s))) ?_
 rintro e w1 b5
 obtain ⟨r1,a8⟩: ∃r,r=Ai x1 s:=⟨_,rfl⟩
 rw[←a8] at b5
 rcases r1 with ⟨y,s2⟩|⟨er,s2⟩|_
 rotate_left
 · obtain ⟨rfl,q1⟩:=b5
   haveI:=q1.i
   have m:=HU.out.1 _ _ a8.symm
   subst m
   exact ⟨rfl,rfl,Ap _ _⟩
 · exact absurd a8.symm HU.out.2
 obtain ⟨v1,I,rfl,⟨hx,b1⟩,q1⟩:=b5
 obtain ⟨J,k,r,b4,hg⟩:=HR.out _ _ a8.symm
 obtain ⟨se,sk,rfl,hE,hK⟩:=hx
 obtain ⟨a1,ah,rfl,bc,dv⟩:=hE.v
 obtain ⟨a2,c2,rfl,cb,dw⟩:=Al.v hK
 obtain ⟨bi,bj⟩:=Cs b1
 have av:Aside (may y=true):=b1
 obtain ⟨lf,es,ks⟩:=y
 simp only at hK bi bj bc b4 hg J⊢
 subst J
 obtain ⟨ne,bk⟩:=Aq es.length
 obtain ⟨G,b3⟩:=Aq ks.length
 have H:Aside (AR I (.slice a2 ks.length c2) ks∧ks.length=G):=⟨hK,b3⟩
 rw[bk] at bi bc⊢
 rw[b3] at bj cb⊢
 have HP:Aside (Hj ks n 0=some (k,r)∧Tv f l ks k r s2=R):=⟨b4,hg⟩
 haveI:=q1.i
 clear hE hK b1 bk b3 b4 hg a8 HR HU c1
 go_wp2_with fail
 have X:Sat (Ae h s2*(I*((Sl.block w1.heap.size C0 [.bool false,.slice a1 ne ah,.slice a2 G c2]*(Sl.block (w.heap.size+1+1) D5 [.int .i64 0,.int .i64 0,.int .i64 0,.int .i64 0,.int .i64 0]*(Sl.block (w.heap.size+1) D5 [.int .i64 0,.int .i64 0,.int .i64 0,.int .i64 0,.int .i64 0]*(Sl.block w.heap.size D5 [.int .i64 x1,.int .i64 x2,.int .i64 x3,.int .i64 x4,.int .i64 l]*F))))))) (w1.alloc (.cells #[.bool false,.slice a1 ne ah,.slice a2 G c2] C0)):=Av (by ac_rfl)
 obtain ⟨N,hN⟩:=Aq w.heap.size
 obtain ⟨N8,bd⟩:=Aq w1.heap.size
 rw[hN,bd] at X⊢
 clear hN bd q1 hs this
 go_loopg [2,10] G (fun g t2 cn wr=> ∃(j:Nat)(nj:Int),t2= .int .i64 nj∧cn= .int .i64 j∧j≤G∧nj≤1099511627776∧0≤nj∧Aside (g=G-j∧Hj (ks.drop j) nj j=some (k,r))∧
  Sat (Ae h s2*(I*(Sl.block N8 C0 [.bool false,.slice a1 ne ah,.slice a2 G c2]*(Sl.block (N+1+1) D5 [.int .i64 0,.int .i64 0,.int .i64 0,.int .i64 0,.int .i64 0]*(Sl.block (N+1) D5 [.int .i64 0,.int .i64 0,.int .i64 0,.int .i64 0,.int .i64 0]*(Sl.block N D5 [.int .i64 x1,.int .i64 x2,.int .i64 x3,.int .i64 x4,.int .i64 l]*F)))))) wr)
 case atStart=>exact ⟨0,n,rfl,rfl,by omega,by omega,by omega,⟨rfl,HP.out.1⟩,X⟩
 obtain ⟨j,nj,rfl,rfl,hj,ce,dx,A,bl⟩:=hrel
 clear X
 haveI:=bl.i
 obtain ⟨y,l',hd,Q⟩:=ZF A.out.2
 obtain ⟨hy,b0,cf⟩:=Ws hd
 rw[H.out.2] at cf
 have df:(j:Int)<G:=by omega
 obtain ⟨b,q,rfl,r1,r2,r3,r4⟩:=Co H.out.1 hy
 have al:=((Dj av.out).2 y (List.mem_of_getElem? hy)).2
 have HY:Aside (ks[j]?=some y):=hy
 unfold AA at al
 simp only[decide_eq_true_eq] at al
 obtain ⟨y1,y2,y3,y4⟩:=y
 simp only at al r1 r2 r3 r4 Q
 have hy1:1≤y2:=by omega
 have hy2:y2≤1048576:=by omega
 clear al hy hd
 rcases Q with ⟨ch,Q⟩|⟨ch,bh⟩
 · rw[←b0] at Q
   have HS:Aside (Hj (ks.drop (j+1)) (nj-y2) (j+1)=some (k,r)):=Q
   have hw2:=Bc (nj-y2) (by omega)
   clear b0 Q
   go_wp2
   go_roundg (G-(j+1))
   case measure=>have:=A.out.1;omega
   case rel=>exact ⟨j+1,nj-y2,rfl,by go_num,by omega,by omega,by omega,⟨rfl,HS.out⟩,cF _ _ _ _ _ _ _⟩
 obtain ⟨Wx,cg⟩:=Prod.mk.inj bh
 subst Wx
 subst cg
 have aw:Aside (Tv f l ks k r s2=R):=HP.out.2
 have D:=Ix H.out.1 (i:=0) (j:=k) (by omega) (by rw[H.out.2];exact hj)
 have e1:sub ks 0 k=ks.take k:=by simp[sub]
 rw[e1,Nat.sub_zero,Nat.sub_zero] at D
 have cc:=Nv (P:=Tryz.prog) E (a:=some ⟨b,q,none⟩) (n:=G) (c:=c2) k (by omega)
 obtain ⟨z1,bm⟩:=Aq (AJ (some ⟨b,q,none⟩) c2 0 4)
 rw[bm] at cc D
 have b9:Aside (AR I (.slice z1 k c2) (ks.take k)):=D
 clear D e1 bm A HP bh b0
 by_cases hz:r=0
 · subst hz
   have d:=Ix H.out.1 (i:=k) (j:=ks.length) (by rw[H.out.2];exact hj) (Nat.le_refl _)
   have e2:sub ks k ks.length=ks.drop k:=by unfold sub;rw[←List.length_drop,List.take_length]
   rw[e2,H.out.2] at d
   have aj:=Er (P:=Tryz.prog) E (a:=some ⟨b,q,none⟩) (n:=G) (c:=c2) k hj
   obtain ⟨z2,ab⟩:=Aq (AJ (some ⟨b,q,none⟩) c2 k 4)
   rw[ab] at aj d
   have au:Aside (AR I (.slice z2 (G-k) (c2-k)) (ks.drop k)):=d
   have hQ:=aw.out
   unfold Tv at hQ
   rw[if_pos rfl] at hQ
   have HQ:Aside (M.bind (CP Ak (ks.take k) l) (fun a=>M.bind (CP Ak (ks.drop k) l) fun b=>M.pure (a,b)) s2=R):=hQ
   have c3:=fun F w q=>Lq h s2 (ks.take k) l _ I F w b9.out q (by rw[List.length_take,H.out.2];omega) (by omega) (by omega) (AX HQ.out K.out)
   clear d e2 ab hQ av HI
   go_wp2_with fail
   go_region_held2 (fun B=>B.cell? ⟨N8,2,none⟩=some (.slice (some ⟨b,q,none⟩) G c2)∧B.cell? ⟨N,4,none⟩=some (.int .i64 l)) (first|exact ⟨Ab _ _ _,Ab _ _ _⟩) (first
    |(
       go_at_call 144
       with_reducible refine Calls.mono (c3 _ _ (AP (Ae h s2) I)) ?_
       rintro e w3 h3
       obtain ⟨r3,o⟩: ∃Y,Y=CP Ak (ks.take k) l s2:=⟨_,rfl⟩
       rw[←o] at h3
       rcases r3 with ⟨ta,s3⟩|⟨er,s3⟩|_
       rotate_left
       · obtain ⟨rfl,q3⟩:=h3
         haveI:=q3.i
         have m:=Bn HQ.out o.symm
         subst m
         exact ⟨rfl,rfl,Ap _ _⟩
       · exact absurd (Ch HQ.out o.symm) K.out
       obtain ⟨v3,G3,rfl,⟨rfl,rfl⟩,q3⟩:=h3
       rw[Aw] at q3
       haveI:=q3.i
       have a6:=AW HQ.out o.symm
       have z:Aside (M.bind (CP Ak (ks.drop k) l) (fun b=>M.pure (ta,b)) s3=R):=a6
       have c4:=fun F w q=>Lq h s3 (ks.drop k) l _ I F w au.out q (by rw[List.length_drop,H.out.2];omega) (by omega) (by omega) (AX z.out K.out)
       clear a6 o
       obtain ⟨⟨Z,p2,p3,p4⟩,L⟩:=ta
       unfold Bd
       simp only)
    |(
       go_at_call 144
       with_reducible refine Calls.mono (c4 _ _ (AP (Ae h s3) I)) ?_
       rintro e w4 h4
       obtain ⟨r4,u⟩: ∃Y,Y=CP Ak (ks.drop k) l s3:=⟨_,rfl⟩
       rw[←u] at h4
       rcases r4 with ⟨tb,s4⟩|⟨er,s4⟩|_
       rotate_left
       · obtain ⟨rfl,X⟩:=h4
         haveI:=X.i
         have m:=Bn z.out u.symm
         subst m
         exact ⟨rfl,rfl,Ap _ _⟩
       · exact absurd (Ch z.out u.symm) K.out
       obtain ⟨v4,G4,rfl,⟨rfl,rfl⟩,X⟩:=h4
       rw[Aw] at X
       haveI:=X.i
       have a7:=AW z.out u.symm
       have az:R= .ok (⟨⟨Z,p2,p3,p4⟩,L⟩,tb) s4:=a7.symm
       clear a7 u
       obtain ⟨⟨T,U,V,W⟩,oh⟩:=tb
       unfold Bd
       simp only))
   all_goals
    subst az
    go_wp2
    go_returns
    exact ⟨_,1,rfl,⟨rfl,rfl⟩,by rw[Aw];exact Ap _ _⟩
 have dz:((r:Int)==0)=false:=by simpa using hz
 have d:=Ix H.out.1 (i:=k+1) (j:=ks.length) (by rw[H.out.2];omega) (Nat.le_refl _)
 have e2:sub ks (k+1) ks.length=ks.drop (k+1):=by unfold sub;rw[←List.length_drop,List.take_length]
 rw[e2,H.out.2] at d
 have aj:=Er (P:=Tryz.prog) E (a:=some ⟨b,q,none⟩) (n:=G) (c:=c2) (k+1) (by omega)
 have ek:((k+1:Nat):Int)=(k:Int)+1:=by omega
 rw[ek] at aj
 obtain ⟨z2,ab⟩:=Aq (AJ (some ⟨b,q,none⟩) c2 (k+1) 4)
 rw[ab] at aj d
 have au:Aside (AR I (.slice z2 (G-(k+1)) (c2-(k+1))) (ks.drop (k+1))):=d
 have hw1:=Bc ((k:Int)+1) (by omega)
 have hw3:=Bc (l-1) (by omega)
 have hQ:=aw.out
 unfold Tv at hQ
 rw[if_neg hz,HY.out] at hQ
 have HQ:Aside (M.bind (Bi Ai Ak f ⟨⟨y1,y2,y3,y4⟩,l-1⟩ r) (fun p=>
  M.bind (CP Ak (ks.take k) l) fun a=>M.bind (E4 Ai Ak a p.1) fun a=>
  M.bind (CP Ak (ks.drop (k+1)) l) fun b=>M.bind (E4 Ai Ak p.2 b) fun b=>M.pure (a,b)) s2=R):=hQ
 have cP:=fun F w q=>HI.out h s2 ⟨⟨y1,y2,y3,y4⟩,l-1⟩ r F w q (by simp only;omega) (by simp only;omega) (by omega) ce (AX HQ.out K.out)
 unfold Bd at cP
 simp only at cP
 clear d e2 ab hQ av ek HI
 go_upto_region 18 with (fail)
 go_cut [11,12] (fun co cp wx=> ∃(Z p2 p3 p4 L T U V W oh:Int)(s3:TS)(M1 M2:Nat),co= .pointer (some ⟨M1,0,none⟩)∧cp= .pointer (some ⟨M2,0,none⟩)∧ -1000≤L∧L≤1000∧ -1000≤oh∧oh≤1000∧
  Aside (M.bind (CP Ak (ks.take k) l) (fun a=>M.bind (E4 Ai Ak a ⟨⟨Z,p2,p3,p4⟩,L⟩) fun a=>
  M.bind (CP Ak (ks.drop (k+1)) l) fun b=>M.bind (E4 Ai Ak ⟨⟨T,U,V,W⟩,oh⟩ b) fun b=>M.pure (a,b)) s3=R)∧
  Sat (Ae h s3*(I*(Sl.block M1 D5 [.int .i64 Z,.int .i64 p2,.int .i64 p3,.int .i64 p4,.int .i64 L]*(Sl.block M2 D5 [.int .i64 T,.int .i64 U,.int .i64 V,.int .i64 W,.int .i64 oh]*(Sl.block N8 C0 [.bool false,.slice a1 ne ah,.slice (some ⟨b,q,none⟩) G c2]*(Sl.block (N+1+1) D5 [.int .i64 0,.int .i64 0,.int .i64 0,.int .i64 0,.int .i64 0]*(Sl.block (N+1) D5 [.int .i64 0,.int .i64 0,.int .i64 0,.int .i64 0,.int .i64 0]*(Sl.block N D5 [.int .i64 x1,.int .i64 x2,.int .i64 x3,.int .i64 x4,.int .i64 l]*F)))))))) wx)
 case first =>
  go_region_held2 (fun B=>B.cell? ⟨N8,2,none⟩=some (.slice (some ⟨b,q,none⟩) G c2)∧B.cell? ⟨N,4,none⟩=some (.int .i64 l)∧B.cell? ⟨b,q+k*4,none⟩=some (.int .i64 y1)∧B.cell? ⟨b,q+k*4+1,none⟩=some (.int .i64 y2)∧B.cell? ⟨b,q+k*4+2,none⟩=some (.int .i64 y3)∧B.cell? ⟨b,q+k*4+3,none⟩=some (.int .i64 y4)) (first|exact ⟨Ab _ _ _,Ab _ _ _,Ab _ _ _,Ab _ _ _,Ab _ _ _,Ab _ _ _⟩) (first
   |(
      go_at_call 98
      with_reducible refine Calls.mono (cP _ _ (Af (Ae h s2))) ?_
      rintro e w3 h3
      obtain ⟨r3,o⟩: ∃Y,Y=Bi Ai Ak f ⟨⟨y1,y2,y3,y4⟩,l-1⟩ r s2:=⟨_,rfl⟩
      rw[←o] at h3
      rcases r3 with ⟨tp,s3⟩|⟨er,s3⟩|_
      rotate_left
      · obtain ⟨rfl,q3⟩:=h3
        haveI:=q3.i
        have m:=Bn HQ.out o.symm
        subst m
        exact ⟨rfl,rfl,Ap _ _⟩
      · exact absurd (Ch HQ.out o.symm) K.out
      obtain ⟨v3,G3,rfl,⟨rfl,rfl⟩,q3⟩:=h3
      rw[Aw] at q3
      haveI:=q3.i
      have a6:=AW HQ.out o.symm
      obtain ⟨u1,u2⟩:=EJ (fun p s n s' h=>Ea h) f ⟨⟨y1,y2,y3,y4⟩,l-1⟩ r s2 tp s3 o.symm (-1000) 500 (by omega) (by omega) (by simp only;omega) (by simp only;omega)
      obtain ⟨⟨⟨Z,p2,p3,p4⟩,L⟩,⟨⟨T,U,V,W⟩,oh⟩⟩:=tp
      simp only at u1 u2
      have z:Aside (M.bind (CP Ak (ks.take k) l) (fun a=>M.bind (E4 Ai Ak a ⟨⟨Z,p2,p3,p4⟩,L⟩) fun a=>M.bind (CP Ak (ks.drop (k+1)) l) fun b=>M.bind (E4 Ai Ak ⟨⟨T,U,V,W⟩,oh⟩ b) fun b=>M.pure (a,b)) s3=R):=a6
      clear a6 o
      unfold Bd
      simp only))
  all_goals
   go_wp2
   go_meet
   exact ⟨Z,p2,p3,p4,L,T,U,V,W,oh,s3,_,_,rfl,rfl,by omega,by omega,by omega,by omega,z,PX _ _ _ _ _ _ _ _ _⟩
 obtain ⟨Z,p2,p3,p4,L,T,U,V,W,oh,s3,M1,M2,rfl,rfl,u1,u2,u3,u4,z,q9⟩:=hcut
 haveI:=q9.i
 have c3:=fun F w q=>Lq h s3 (ks.take k) l _ I F w b9.out q (by rw[List.length_take,H.out.2];omega) (by omega) (by omega) (AX z.out K.out)
 clear bl cP HQ aw HY r1 r2 r3 r4
 go_upto_region 19 with (fail)
 go_region_held2 (fun B=>B.cell? ⟨N8,2,none⟩=some (.slice (some ⟨b,q,none⟩) G c2)∧B.cell? ⟨N,4,none⟩=some (.int .i64 l)∧B.cell? ⟨M1,0,none⟩=some (.int .i64 Z)∧B.cell? ⟨M1,1,none⟩=some (.int .i64 p2)∧B.cell? ⟨M1,2,none⟩=some (.int .i64 p3)∧B.cell? ⟨M1,3,none⟩=some (.int .i64 p4)∧B.cell? ⟨M1,4,none⟩=some (.int .i64 L)∧B.cell? ⟨M2,0,none⟩=some (.int .i64 T)∧B.cell? ⟨M2,1,none⟩=some (.int .i64 U)∧B.cell? ⟨M2,2,none⟩=some (.int .i64 V)∧B.cell? ⟨M2,3,none⟩=some (.int .i64 W)∧B.cell? ⟨M2,4,none⟩=some (.int .i64 oh)) (first|exact ⟨Ab _ _ _,Ab _ _ _,Ab _ _ _,Ab _ _ _,Ab _ _ _,Ab _ _ _,Ab _ _ _,Ab _ _ _,Ab _ _ _,Ab _ _ _,Ab _ _ _,Ab _ _ _⟩) (first
  |(
     go_at_call 144
     with_reducible refine Calls.mono (c3 _ _ (AP (Ae h s3) I)) ?_
     rintro e w4 h4
     obtain ⟨r4,u⟩: ∃Y,Y=CP Ak (ks.take k) l s3:=⟨_,rfl⟩
     rw[←u] at h4
     rcases r4 with ⟨ta,s4⟩|⟨er,s4⟩|_
     rotate_left
     · obtain ⟨rfl,X⟩:=h4
       haveI:=X.i
       have m:=Bn z.out u.symm
       subst m
       exact ⟨rfl,rfl,Ap _ _⟩
     · exact absurd (Ch z.out u.symm) K.out
     obtain ⟨v4,G4,rfl,⟨rfl,rfl⟩,X⟩:=h4
     rw[Aw] at X
     haveI:=X.i
     have a7:=AW z.out u.symm
     have ci:=DZ u.symm
     rw[List.length_take,H.out.2] at ci
     have ae:Aside (M.bind (E4 Ai Ak ta ⟨⟨Z,p2,p3,p4⟩,L⟩) (fun a=>M.bind (CP Ak (ks.drop (k+1)) l) fun b=>M.bind (E4 Ai Ak ⟨⟨T,U,V,W⟩,oh⟩ b) fun b=>M.pure (a,b)) s4=R):=a7
     have c4:=fun F w q=>Lw h s4 ta ⟨⟨Z,p2,p3,p4⟩,L⟩ F w q (by omega) (by omega) u1 u2 (AX ae.out K.out)
     unfold Bd at c4
     simp only at c4
     clear a7 u
     obtain ⟨⟨d1,d2,d3,d4⟩,dh⟩:=ta
     unfold Bd
     simp only)
  |(
     go_at_call 99
     with_reducible refine Calls.mono (c4 _ _ (Af (Ae h s4))) ?_
     rintro e w5 h5
     obtain ⟨r5,a9⟩: ∃Y,Y=E4 Ai Ak ⟨⟨d1,d2,d3,d4⟩,dh⟩ ⟨⟨Z,p2,p3,p4⟩,L⟩ s4:=⟨_,rfl⟩
     rw[←a9] at h5
     rcases r5 with ⟨tb,s5⟩|⟨er,s5⟩|_
     rotate_left
     · obtain ⟨rfl,q5⟩:=h5
       haveI:=q5.i
       have m:=Bn ae.out a9.symm
       subst m
       exact ⟨rfl,rfl,Ap _ _⟩
     · exact absurd (Ch ae.out a9.symm) K.out
     obtain ⟨v5,G5,rfl,⟨rfl,rfl⟩,q5⟩:=h5
     rw[Aw] at q5
     haveI:=q5.i
     have be:=AW ae.out a9.symm
     have af:Aside (M.bind (CP Ak (ks.drop (k+1)) l) (fun b=>M.bind (E4 Ai Ak ⟨⟨T,U,V,W⟩,oh⟩ b) fun b=>M.pure (tb,b)) s5=R):=be
     have c5:=fun F w q=>Lq h s5 (ks.drop (k+1)) l _ I F w au.out q (by rw[List.length_drop,H.out.2];omega) (by omega) (by omega) (AX af.out K.out)
     clear be a9
     obtain ⟨⟨g1,g2,g3,g4⟩,gh⟩:=tb
     unfold Bd
     simp only)
  |(
     go_at_call 144
     with_reducible refine Calls.mono (c5 _ _ (AP (Ae h s5) I)) ?_
     rintro e w6 h6
     obtain ⟨r6,O⟩: ∃Y,Y=CP Ak (ks.drop (k+1)) l s5:=⟨_,rfl⟩
     rw[←O] at h6
     rcases r6 with ⟨tc,s6⟩|⟨er,s6⟩|_
     rotate_left
     · obtain ⟨rfl,q6⟩:=h6
       haveI:=q6.i
       have m:=Bn af.out O.symm
       subst m
       exact ⟨rfl,rfl,Ap _ _⟩
     · exact absurd (Ch af.out O.symm) K.out
     obtain ⟨v6,G6,rfl,⟨rfl,rfl⟩,q6⟩:=h6
     rw[Aw] at q6
     haveI:=q6.i
     have bf:=AW af.out O.symm
     have cj:=DZ O.symm
     rw[List.length_drop,H.out.2] at cj
     have ag:Aside (M.bind (E4 Ai Ak ⟨⟨T,U,V,W⟩,oh⟩ tc) (fun b=>M.pure (⟨⟨g1,g2,g3,g4⟩,gh⟩,b)) s6=R):=bf
     have c6:=fun F w q=>Lw h s6 ⟨⟨T,U,V,W⟩,oh⟩ tc F w q u3 u4 (by omega) (by omega) (AX ag.out K.out)
     unfold Bd at c6
     simp only at c6
     clear bf O
     obtain ⟨⟨l1,l2,l3,l4⟩,lh⟩:=tc
     unfold Bd
     simp only)
  |(
     go_at_call 99
     with_reducible refine Calls.mono (c6 _ _ (Af (Ae h s6))) ?_
     rintro e w7 h7
     obtain ⟨r7,aa⟩: ∃Y,Y=E4 Ai Ak ⟨⟨T,U,V,W⟩,oh⟩ ⟨⟨l1,l2,l3,l4⟩,lh⟩ s6:=⟨_,rfl⟩
     rw[←aa] at h7
     rcases r7 with ⟨td,s7⟩|⟨er,s7⟩|_
     rotate_left
     · obtain ⟨rfl,q7⟩:=h7
       haveI:=q7.i
       have m:=Bn ag.out aa.symm
       subst m
       exact ⟨rfl,rfl,Ap _ _⟩
     · exact absurd (Ch ag.out aa.symm) K.out
     obtain ⟨v7,G7,rfl,⟨rfl,rfl⟩,q7⟩:=h7
     rw[Aw] at q7
     haveI:=q7.i
     have bg:=AW ag.out aa.symm
     have az:R= .ok (⟨⟨g1,g2,g3,g4⟩,gh⟩,td) s7:=bg.symm
     clear bg aa
     obtain ⟨⟨m1,m2,m3,m4⟩,mh⟩:=td
     unfold Bd
     simp only))
 all_goals
  subst az
  go_wp2
  go_returns
  exact ⟨_,1,rfl,⟨rfl,rfl⟩,by rw[Aw];exact Ap _ _⟩
theorem O6(f:Nat):QN f:=by
 induction f with
 | zero =>
  intro h s x n F w hs h1 d j b hb
  by_cases c1:n≤0
  · exact O7 0 h s x n F w hs c1
  by_cases c2:x.DT.bytes≤n
  · exact MG 0 h s x n F w hs c1 c2
  exact absurd (by unfold Bi;rw[if_neg c1,if_neg c2];rfl) hb
 | succ f k =>
  intro h s x n F w hs h1 d j b hb
  by_cases c1:n≤0
  · exact O7 (f+1) h s x n F w hs c1
  by_cases c2:x.DT.bytes≤n
  · exact MG (f+1) h s x n F w hs c1 c2
  by_cases hl: ∃y s2,Ai x.DT.As s= .ok y s2∧y.leaf=true
  · obtain ⟨y,s2,g,i⟩:=hl
    exact Ty f h s x n F w hs c1 c2 b (fun c a e=>by rw[g] at e;cases e;exact i) hb
  exact XS f k h s x n F w hs c1 c2 b (by omega) d (by omega) (fun c a e=>by
   cases hy:c.leaf with
   |false=>rfl
   |true=>exact absurd ⟨c,a,e,hy⟩ hl) hb
