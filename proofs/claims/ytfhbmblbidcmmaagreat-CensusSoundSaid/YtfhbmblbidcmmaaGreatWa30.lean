/- censusSound holds for every input. No condition. (part 30) -/
import Derived.Test.YtfhbmblbidcmmaaGreatWa29
import Derived.Deep.RegionHeld2
import Derived.Test.YtfhbmblbidcmmaaGreatWa26
set_option linter.all false
set_option maxRecDepth 100000
set_option maxHeartbeats 12800000
namespace Go.Tr
theorem aU{l:List Av}{n:Int}{k r:Nat}(h:F8 l n k=some r)(a:0<n): ∃x l',l=x::l'∧F8 l' (n-x.len) (k+1)=some r:=by
 cases l with
 |nil=>unfold F8 at h;simp only[if_pos a] at h;cases h
 |cons x l=>unfold F8 at h;simp only[if_pos a] at h;exact ⟨x,l,rfl,h⟩
theorem W6{l:List Av}{n:Int}{k r:Nat}(h:F8 l n k=some r)(a: ¬0<n):r=k:=by
 cases l with
 |nil=>unfold F8 at h;simp only[if_neg a] at h;exact (Option.some.inj h).symm
 |cons x l=>unfold F8 at h;simp only[if_neg a] at h;exact (Option.some.inj h).symm
theorem XA{α:Type}{l l':List α}{x:α}{j:Nat}(h:l.drop j=x::l'):l[j]?=some x∧l.drop (j+1)=l'∧j<l.length:=by
 have h1:l[j]?=some x:=by
  have:=congrArg List.head? h
  simpa using this
 refine ⟨h1,?_,?_⟩
 · have:=congrArg List.tail h
   simpa using this
 rcases Nat.lt_or_ge j l.length with a|a
 · exact a
 rw[List.drop_of_length_le a] at h;cases h
end Go.Tr
namespace Go.Proofs.YtfhbmblbidcmmaaGreat
open Go.RowKit Go.Sl Go.Dk Go.Tr
theorem U1(f:Nat)(h:Th)(s:TS)(x:BK)(n:Int)(F:Ab)(w:World)(hs:Sat (Ad h s*F) w)(h1: ¬n≤0)(h2: ¬x.ER.bytes≤n)(bm:n≤1099511627776)
 (o: ∀y s2,Ak x.ER.Au s= .ok y s2→y.leaf=true) (hb:Bq Ak An (f+1) x n s≠ .bad):
 Calls Tryz.prog 98 #[.pointer (some ⟨h.t,0,none⟩),Bi x,.int .i64 n] w (Et h F (Bq Ak An (f+1) x n s) Qq):=by
 obtain ⟨i0,E⟩:=EW
 obtain ⟨R,L⟩:=Aq (Bq Ak An (f+1) x n s)
 rw[L] at hb⊢
 have HB:=As hb
 unfold Bq at L
 rw[if_neg h1,if_neg h2] at L
 obtain ⟨⟨x1,x2,x3,x4⟩,xh⟩:=x
 simp only at h2 L o
 have V:=Bf L hb
 have c1:=fun F w q=>Cu h s x1 F w q V
 have HR:Aside (∀y s2,Ak x1 s= .ok y s2→y.leaf=true∧ ∃k,F8 y.Ag n 0=some k∧M.bind (Cs An (y.Ag.take k)) (fun a=>M.bind (Cs An (y.Ag.drop k)) fun b=>M.pure (a,b)) s2=R):=fun y s2 hm=>by
  have J:=Bd L hm
  rw[if_pos (o y s2 hm)] at J
  refine ⟨o y s2 hm,?_⟩
  cases hp:F8 y.Ag n 0 with
  |none=>rw[hp] at J;exact absurd J.symm hb
  |some k=>rw[hp] at J;exact ⟨k,rfl,J⟩
 have HU:Aside ((∀er s1,Ak x1 s= .fault er s1→R= .fault er s1)∧Ak x1 s≠ .bad):=⟨fun er s1 hm=>B3 L hm,V⟩
 unfold Bi
 haveI:=hs.i
 clear hb L V o
 go_enter Tryz.func98,Tryz.ntmps98
 go_wp2_with fail
 with_reducible refine Calls.mono (c1 _ _ (Ae (Ad h s))) ?_
 rintro e w1 Z
 obtain ⟨r1,z⟩: ∃r,r=Ak x1 s:=⟨_,rfl⟩
 rw[←z] at Z
 rcases r1 with ⟨y,s2⟩|⟨er,s2⟩|_
 rotate_left
 · obtain ⟨rfl,q1⟩:=Z
   haveI:=q1.i
   have u:=HU.out.1 _ _ z.symm
   subst u
   exact ⟨rfl,rfl,Ar _ _⟩
 · exact absurd z.symm HU.out.2
 obtain ⟨v1,T,rfl,⟨hx,U⟩,q1⟩:=Z
 obtain ⟨o,k,X,J⟩:=HR.out _ _ z.symm
 obtain ⟨se,sk,rfl,hE,hK⟩:=hx
 obtain ⟨I,d,rfl,a5,bi⟩:=hE.v
 obtain ⟨a2,c2,rfl,av,bj⟩:=Ai.v hK
 obtain ⟨aa,ab⟩:=Cn U
 have a4:=As U
 obtain ⟨lf,es,ks⟩:=y
 simp only at hE aa ab a5 X J o⊢
 subst o
 obtain ⟨ne,W⟩:=Aq es.length
 obtain ⟨nk,ad⟩:=Aq ks.length
 have G:Aside (A1 T (.slice I es.length d) es∧es.length=ne):=⟨hE,W⟩
 rw[W] at aa a5⊢
 rw[ad] at ab av⊢
 have HP:Aside (F8 es n 0=some k∧M.bind (Cs An (es.take k)) (fun a=>M.bind (Cs An (es.drop k)) fun b=>M.pure (a,b)) s2=R):=⟨X,J⟩
 haveI:=q1.i
 clear hE hK U W ad X J z HR HU c1
 go_wp2_with fail
 have Q:Sat (Ad h s2*(T*(Sl.block w1.heap.size Cy [.bool true,.slice I ne d,.slice a2 nk c2]*(Sl.block (w.heap.size+1+1) DF [.int .i64 0,.int .i64 0,.int .i64 0,.int .i64 0,.int .i64 0]*(Sl.block (w.heap.size+1) DF [.int .i64 0,.int .i64 0,.int .i64 0,.int .i64 0,.int .i64 0]*F))))) (w1.alloc (.cells #[.bool true,.slice I ne d,.slice a2 nk c2] Cy)):=Ax (C:=Sl.block w.heap.size DF [.int .i64 x1,.int .i64 x2,.int .i64 x3,.int .i64 x4,.int .i64 xh]) (by ac_rfl)
 obtain ⟨N,hN⟩:=Aq w.heap.size
 obtain ⟨N8,a6⟩:=Aq w1.heap.size
 rw[hN,a6] at Q⊢
 clear hN a6 q1 hs this
 go_loopg [2,9] ne (fun g t2 t9 wr=> ∃(j:Nat)(O:Int),t2= .int .i64 O∧t9= .int .i64 j∧j≤ne∧O≤1099511627776∧ -1048576≤O∧Aside (g=ne-j∧F8 (es.drop j) O j=some k)∧
  Sat (Ad h s2*(T*(Sl.block N8 Cy [.bool true,.slice I ne d,.slice a2 nk c2]*(Sl.block (N+1+1) DF [.int .i64 0,.int .i64 0,.int .i64 0,.int .i64 0,.int .i64 0]*(Sl.block (N+1) DF [.int .i64 0,.int .i64 0,.int .i64 0,.int .i64 0,.int .i64 0]*F))))) wr)
 case atStart=>exact ⟨0,n,rfl,rfl,by omega,by omega,by omega,⟨rfl,HP.out.1⟩,Q⟩
 obtain ⟨j,O,rfl,rfl,hj,bk,bl,A,b1⟩:=hrel
 clear Q
 haveI:=b1.i
 by_cases ac:0<O
 · obtain ⟨y,l',hd,Y⟩:=aU A.out.2 ac
   obtain ⟨hy,a7,b0⟩:=XA hd
   rw[G.out.2] at b0
   have bf:(j:Int)<ne:=by omega
   rw[←a7] at Y
   have HS:=As Y
   obtain ⟨b,q,rfl,r1,r2,r3,r4⟩:=BH G.out.1 hy
   have K:=((Ds a4.out).1 y (List.mem_of_getElem? hy)).2
   unfold Ah at K
   simp only[decide_eq_true_eq] at K
   obtain ⟨y1,y2,y3,y4⟩:=y
   simp only at K r1 r2 r3 r4 HS
   have hy1:1≤y3:=by omega
   have hy2:y3≤1048576:=by omega
   have hw2:=Bb (O-y3) (by omega)
   clear K hy hd a7 Y
   go_wp2
   go_roundg (ne-(j+1))
   case measure=>have:=A.out.1;omega
   case rel=>exact ⟨j+1,O-y3,rfl,by go_num,by omega,by omega,by omega,⟨rfl,HS.out⟩,DZ _ _ _ _ _ _⟩
 obtain rfl:=W6 A.out.2 ac
 have HQ:=As HP.out.2
 have l:=KV G.out.1 (i:=0) (j:=k) (by omega) (by rw[G.out.2];exact hj)
 have m:=KV G.out.1 (i:=k) (j:=es.length) (by rw[G.out.2];exact hj) (Nat.le_refl _)
 have e1:sub es 0 k=es.take k:=by simp[sub]
 have e2:sub es k es.length=es.drop k:=by unfold sub;rw[←List.length_drop,List.take_length]
 rw[e1,Nat.sub_zero,Nat.sub_zero] at l
 rw[e2,G.out.2] at m
 have ax:=Ln (P:=Tryz.prog) E (a:=I) (n:=ne) (c:=d) k (by omega)
 have ay:=E6 (P:=Tryz.prog) E (a:=I) (n:=ne) (c:=d) k hj
 obtain ⟨z1,ae⟩:=Aq (AH I d 0 4)
 obtain ⟨z2,af⟩:=Aq (AH I d k 4)
 rw[ae] at ax l
 rw[af] at ay m
 have ap:=fun F w q=>I5 h s2 (es.take k) _ T F w l q (by rw[List.length_take,G.out.2];omega) (Bf HQ.out HB.out)
 have HC:=As m
 clear l m e1 e2 ae af A HP a4
 go_wp2_with fail
 go_region_held2 (fun w'=>w'.cell? ⟨N8,1,none⟩=some (.slice I ne d)) (first|exact Ac _ _ _) (first
  |(
    go_at_call 84
    with_reducible refine Calls.mono (ap _ _ (Bh (Ad h s2) T)) ?_
    rintro e w3 h3
    obtain ⟨r3,B⟩: ∃r,r=Cs An (es.take k) s2:=⟨_,rfl⟩
    rw[←B] at h3
    rcases r3 with ⟨ta,s3⟩|⟨er,s3⟩|_
    rotate_left
    ·obtain ⟨rfl,q3⟩:=h3
     haveI:=q3.i
     have u:=B3 HQ.out B.symm
     subst u
     exact ⟨rfl,rfl,Ar _ _⟩
    ·exact absurd (Ci HQ.out B.symm) HB.out
    obtain ⟨v3,G3,rfl,⟨rfl,rfl⟩,q3⟩:=h3
    rw[Ay] at q3
    haveI:=q3.i
    have a8:=Bd HQ.out B.symm
    have H:=As a8
    have aq:=fun F w q=>I5 h s3 (es.drop k) _ T F w HC.out q (by rw[List.length_drop,G.out.2];omega) (Bf H.out HB.out)
    clear a8 B
    obtain ⟨⟨p1,p2,p3,p4⟩,ph⟩:=ta
    unfold Bi)
  |(
    go_at_call 84
    with_reducible refine Calls.mono (aq _ _ (Bh (Ad h s3) T)) ?_
    rintro e w4 h4
    obtain ⟨r4,D⟩: ∃r,r=Cs An (es.drop k) s3:=⟨_,rfl⟩
    rw[←D] at h4
    rcases r4 with ⟨tb,s4⟩|⟨er,s4⟩|_
    rotate_left
    ·obtain ⟨rfl,Q⟩:=h4
     haveI:=Q.i
     have u:=B3 H.out D.symm
     subst u
     exact ⟨rfl,rfl,Ar _ _⟩
    ·exact absurd (Ci H.out D.symm) HB.out
    obtain ⟨v4,G4,rfl,⟨rfl,rfl⟩,Q⟩:=h4
    rw[Ay] at Q
    haveI:=Q.i
    have a9:=Bd H.out D.symm
    have aw:R= .ok (⟨⟨p1,p2,p3,p4⟩,ph⟩,tb) s4:=a9.symm
    clear a9 D
    obtain ⟨⟨o1,o2,o3,o4⟩,oh⟩:=tb
    unfold Bi))
 all_goals
  subst aw
  go_wp2
  go_returns
  exact ⟨_,1,rfl,⟨rfl,rfl⟩,by rw[Ay];exact Ar _ _⟩
end Go.Proofs.YtfhbmblbidcmmaaGreat
namespace Go.Tr
theorem aV{l:List Kd}{n:Int}{k:Nat}{r:Nat×Int}(h:Jh l n k=some r): ∃x l',l=x::l'∧((x.bytes≤n∧Jh l' (n-x.bytes) (k+1)=some r)∨(¬x.bytes≤n∧r=(k,n))):=by
 cases l with
 |nil=>cases h
 | cons x l =>
  unfold Jh at h
  by_cases a:x.bytes≤n
  ·rw[if_pos a] at h;exact ⟨x,l,rfl,.inl ⟨a,h⟩⟩
  rw[if_neg a] at h;exact ⟨x,l,rfl,.inr ⟨a,(Option.some.inj h).symm⟩⟩
end Go.Tr
namespace Go.Proofs.YtfhbmblbidcmmaaGreat
open Go.RowKit Go.Sl Go.Dk Go.Tr
def Yc(f : Nat)(c : Int)(ks : List Kd)(k : Nat)(r : Int) : M TS (BK × BK) :=
 if r=0 then M.bind (Ei An (ks.take k) c) fun a=>M.bind (Ei An (ks.drop k) c) fun b=>M.pure (a,b)
 else match ks[k]? with
  |none=>M.bad
  | some z => M.bind (Bq Ak An f ⟨z, c - 1⟩ r) fun p =>
   M.bind (Ei An (ks.take k) c) fun a=>M.bind (FG Ak An a p.1) fun a=>
   M.bind (Ei An (ks.drop (k+1)) c) fun b=>M.bind (FG Ak An p.2 b) fun b=>M.pure (a,b)
def Xw(f:Nat):Prop:= ∀(h:Th)(s:TS)(x:BK)(n:Int)(F:Ab)(w:World),Sat (Ad h s*F) w→(f:Int)-700≤x.Al→x.Al≤500→f≤30→n≤1099511627776→Bq Ak An f x n s≠ .bad→
 Calls Tryz.prog 98 #[.pointer (some ⟨h.t,0,none⟩),Bi x,.int .i64 n] w (Et h F (Bq Ak An f x n s) Qq)
theorem Zr(f : Nat)(ih : Xw f)(h : Th)(s : TS)(x : BK)(n : Int)(F : Ab)(w : World)(hs : Sat (Ad h s * F) w)(h1 : ¬ n ≤ 0)(h2 : ¬ x.ER.bytes ≤ n)(dx : n ≤ 1099511627776)
 (ck:(f:Int)-699≤x.Al) (cl:x.Al≤500) (hf:f≤29)
 (I: ∀y s2,Ak x.ER.Au s= .ok y s2→y.leaf=false) (hb:Bq Ak An (f+1) x n s≠ .bad):
 Calls Tryz.prog 98 #[.pointer (some ⟨h.t,0,none⟩),Bi x,.int .i64 n] w (Et h F (Bq Ak An (f+1) x n s) Qq):=by
 obtain ⟨i1,E⟩:=Mu
 obtain ⟨R,hR⟩:=Aq (Bq Ak An (f+1) x n s)
 rw[hR] at hb⊢
 have J:=As hb
 have HI:=As ih
 unfold Bq at hR
 rw[if_neg h1,if_neg h2] at hR
 obtain ⟨⟨x1,x2,x3,x4⟩,u⟩:=x
 simp only at h2 hR I ck cl
 have b1:=Bf hR hb
 have c1:=fun F w q=>Cu h s x1 F w q b1
 have HR:Aside (∀y s2,Ak x1 s= .ok y s2→y.leaf=false∧ ∃k r,Jh y.kids n 0=some (k,r)∧Yc f u y.kids k r s2=R):=fun y s2 hm=>by
  have hg:=Bd hR hm
  rw[if_neg (by rw[I y s2 hm];simp)] at hg
  refine ⟨I y s2 hm,?_⟩
  cases hp:Jh y.kids n 0 with
  |none=>rw[hp] at hg;exact absurd hg.symm hb
  |some kr=>rw[hp] at hg;exact ⟨kr.1,kr.2,rfl,hg⟩
 have HU:Aside ((∀V s1,Ak x1 s= .fault V s1→R= .fault V s1)∧Ak x1 s≠ .bad):=⟨fun V s1 hm=>B3 hR hm,b1⟩
 unfold Bi
 haveI:=hs.i
 clear hb hR b1 I ih
 go_enter Tryz.func98,Tryz.ntmps98
 go_wp2_with fail
 with_reducible refine Calls.mono (c1 _ _ (Ae (Ad h s))) ?_
 rintro e w1 b4
 obtain ⟨r1,Y⟩: ∃r,r=Ak x1 s:=⟨_,rfl⟩
 rw[←Y] at b4
 rcases r1 with ⟨y,s2⟩|⟨V,s2⟩|_
 rotate_left
 · obtain ⟨rfl,q1⟩:=b4
   haveI:=q1.i
   have l:=HU.out.1 _ _ Y.symm
   subst l
   exact ⟨rfl,rfl,Ar _ _⟩
 · exact absurd Y.symm HU.out.2
 obtain ⟨v1,T,rfl,⟨hx,b0⟩,q1⟩:=b4
 obtain ⟨I,k,r,b3,hg⟩:=HR.out _ _ Y.symm
 obtain ⟨se,sk,rfl,hE,hK⟩:=hx
 obtain ⟨a1,ac,rfl,bb,du⟩:=hE.v
 obtain ⟨a2,c2,rfl,cb,dv⟩:=Ai.v hK
 obtain ⟨bh,bi⟩:=Cn b0
 have au:=As b0
 obtain ⟨lf,es,ks⟩:=y
 simp only at hK bh bi bb b3 hg I⊢
 subst I
 obtain ⟨ne,bj⟩:=Aq es.length
 obtain ⟨H,b2⟩:=Aq ks.length
 have G:Aside (BE T (.slice a2 ks.length c2) ks∧ks.length=H):=⟨hK,b2⟩
 rw[bj] at bh bb⊢
 rw[b2] at bi cb⊢
 have HP:Aside (Jh ks n 0=some (k,r)∧Yc f u ks k r s2=R):=⟨b3,hg⟩
 haveI:=q1.i
 clear hE hK b0 bj b2 b3 hg Y HR HU c1
 go_wp2_with fail
 have O:Sat (Ad h s2*(T*((Sl.block w1.heap.size Cy [.bool false,.slice a1 ne ac,.slice a2 H c2]*(Sl.block (w.heap.size+1+1) DF [.int .i64 0,.int .i64 0,.int .i64 0,.int .i64 0,.int .i64 0]*(Sl.block (w.heap.size+1) DF [.int .i64 0,.int .i64 0,.int .i64 0,.int .i64 0,.int .i64 0]*(Sl.block w.heap.size DF [.int .i64 x1,.int .i64 x2,.int .i64 x3,.int .i64 x4,.int .i64 u]*F))))))) (w1.alloc (.cells #[.bool false,.slice a1 ne ac,.slice a2 H c2] Cy)):=Ap (by ac_rfl)
 obtain ⟨N,hN⟩:=Aq w.heap.size
 obtain ⟨N8,bc⟩:=Aq w1.heap.size
 rw[hN,bc] at O⊢
 clear hN bc q1 hs this
 go_loopg [2,10] H (fun g t2 cn wr=> ∃(j:Nat)(nj:Int),t2= .int .i64 nj∧cn= .int .i64 j∧j≤H∧nj≤1099511627776∧0≤nj∧Aside (g=H-j∧Jh (ks.drop j) nj j=some (k,r))∧
  Sat (Ad h s2*(T*(Sl.block N8 Cy [.bool false,.slice a1 ne ac,.slice a2 H c2]*(Sl.block (N+1+1) DF [.int .i64 0,.int .i64 0,.int .i64 0,.int .i64 0,.int .i64 0]*(Sl.block (N+1) DF [.int .i64 0,.int .i64 0,.int .i64 0,.int .i64 0,.int .i64 0]*(Sl.block N DF [.int .i64 x1,.int .i64 x2,.int .i64 x3,.int .i64 x4,.int .i64 u]*F)))))) wr)
 case atStart=>exact ⟨0,n,rfl,rfl,by omega,by omega,by omega,⟨rfl,HP.out.1⟩,O⟩
 obtain ⟨j,nj,rfl,rfl,hj,ce,dw,A,bk⟩:=hrel
 clear O
 haveI:=bk.i
 obtain ⟨y,l',hd,L⟩:=aV A.out.2
 obtain ⟨hy,az,cf⟩:=XA hd
 rw[G.out.2] at cf
 have d8:(j:Int)<H:=by omega
 obtain ⟨b,q,rfl,r1,r2,r3,r4⟩:=Cp G.out.1 hy
 have ag:=((Ds au.out).2 y (List.mem_of_getElem? hy)).2
 have HY:=As hy
 unfold AE at ag
 simp only[decide_eq_true_eq] at ag
 obtain ⟨y1,y2,y3,y4⟩:=y
 simp only at ag r1 r2 r3 r4 L
 have hy1:1≤y2:=by omega
 have hy2:y2≤1048576:=by omega
 clear ag hy hd
 rcases L with ⟨ch,L⟩|⟨ch,bg⟩
 · rw[←az] at L
   have HS:=As L
   have hw2:=Bb (nj-y2) (by omega)
   clear az L
   go_wp2
   go_roundg (H-(j+1))
   case measure=>have:=A.out.1;omega
   case rel=>exact ⟨j+1,nj-y2,rfl,by go_num,by omega,by omega,by omega,⟨rfl,HS.out⟩,gO _ _ _ _ _ _ _⟩
 obtain ⟨XF,cg⟩:=Prod.mk.inj bg
 subst XF
 subst cg
 have av:=As HP.out.2
 have D:=IM G.out.1 (i:=0) (j:=k) (by omega) (by rw[G.out.2];exact hj)
 have e1:sub ks 0 k=ks.take k:=by simp[sub]
 rw[e1,Nat.sub_zero,Nat.sub_zero] at D
 have cc:=Ln (P:=Tryz.prog) E (a:=some ⟨b,q,none⟩) (n:=H) (c:=c2) k (by omega)
 obtain ⟨z1,bl⟩:=Aq (AH (some ⟨b,q,none⟩) c2 0 4)
 rw[bl] at cc D
 have b8:=As D
 clear D e1 bl A HP bg az
 by_cases hz:r=0
 · subst hz
   have d:=IM G.out.1 (i:=k) (j:=ks.length) (by rw[G.out.2];exact hj) (Nat.le_refl _)
   have e2:sub ks k ks.length=ks.drop k:=by unfold sub;rw[←List.length_drop,List.take_length]
   rw[e2,G.out.2] at d
   have ae:=E6 (P:=Tryz.prog) E (a:=some ⟨b,q,none⟩) (n:=H) (c:=c2) k hj
   obtain ⟨z2,a3⟩:=Aq (AH (some ⟨b,q,none⟩) c2 k 4)
   rw[a3] at ae d
   have ar:=As d
   have hQ:=av.out
   unfold Yc at hQ
   rw[if_pos rfl] at hQ
   have HQ:=As hQ
   have c3:=fun F w q=>LM h s2 (ks.take k) u _ T F w b8.out q (by rw[List.length_take,G.out.2];omega) (by omega) (by omega) (Bf HQ.out J.out)
   clear d e2 a3 hQ au HI
   go_wp2_with fail
   go_region_held2 (fun B=>B.cell? ⟨N8,2,none⟩=some (.slice (some ⟨b,q,none⟩) H c2)∧B.cell? ⟨N,4,none⟩=some (.int .i64 u)) (first|exact ⟨Ac _ _ _,Ac _ _ _⟩) (first
    |(
       go_at_call 144
       with_reducible refine Calls.mono (c3 _ _ (Bh (Ad h s2) T)) ?_
       rintro e w3 h3
       obtain ⟨r3,m⟩: ∃Q,Q=Ei An (ks.take k) u s2:=⟨_,rfl⟩
       rw[←m] at h3
       rcases r3 with ⟨ta,s3⟩|⟨V,s3⟩|_
       rotate_left
       · obtain ⟨rfl,q3⟩:=h3
         haveI:=q3.i
         have l:=B3 HQ.out m.symm
         subst l
         exact ⟨rfl,rfl,Ar _ _⟩
       · exact absurd (Ci HQ.out m.symm) J.out
       obtain ⟨v3,G3,rfl,⟨rfl,rfl⟩,q3⟩:=h3
       rw[Ay] at q3
       haveI:=q3.i
       have W:=Bd HQ.out m.symm
       have z:=As W
       have c4:=fun F w q=>LM h s3 (ks.drop k) u _ T F w ar.out q (by rw[List.length_drop,G.out.2];omega) (by omega) (by omega) (Bf z.out J.out)
       clear W m
       obtain ⟨⟨p1,p2,p3,p4⟩,U⟩:=ta
       unfold Bi
       simp only)
    |(
       go_at_call 144
       with_reducible refine Calls.mono (c4 _ _ (Bh (Ad h s3) T)) ?_
       rintro e w4 h4
       obtain ⟨r4,o⟩: ∃Q,Q=Ei An (ks.drop k) u s3:=⟨_,rfl⟩
       rw[←o] at h4
       rcases r4 with ⟨tb,s4⟩|⟨V,s4⟩|_
       rotate_left
       · obtain ⟨rfl,O⟩:=h4
         haveI:=O.i
         have l:=B3 z.out o.symm
         subst l
         exact ⟨rfl,rfl,Ar _ _⟩
       · exact absurd (Ci z.out o.symm) J.out
       obtain ⟨v4,G4,rfl,⟨rfl,rfl⟩,O⟩:=h4
       rw[Ay] at O
       haveI:=O.i
       have X:=Bd z.out o.symm
       have ay:R= .ok (⟨⟨p1,p2,p3,p4⟩,U⟩,tb) s4:=X.symm
       clear X o
       obtain ⟨⟨o1,o2,o3,o4⟩,oh⟩:=tb
       unfold Bi
       simp only))
   all_goals
    subst ay
    go_wp2
    go_returns
    exact ⟨_,1,rfl,⟨rfl,rfl⟩,by rw[Ay];exact Ar _ _⟩
 have dy:((r:Int)==0)=false:=by simpa using hz
 have d:=IM G.out.1 (i:=k+1) (j:=ks.length) (by rw[G.out.2];omega) (Nat.le_refl _)
 have e2:sub ks (k+1) ks.length=ks.drop (k+1):=by unfold sub;rw[←List.length_drop,List.take_length]
 rw[e2,G.out.2] at d
 have ae:=E6 (P:=Tryz.prog) E (a:=some ⟨b,q,none⟩) (n:=H) (c:=c2) (k+1) (by omega)
 have ek:((k+1:Nat):Int)=(k:Int)+1:=by omega
 rw[ek] at ae
 obtain ⟨z2,a3⟩:=Aq (AH (some ⟨b,q,none⟩) c2 (k+1) 4)
 rw[a3] at ae d
 have ar:=As d
 have hw1:=Bb ((k:Int)+1) (by omega)
 have hw3:=Bb (u-1) (by omega)
 have hQ:=av.out
 unfold Yc at hQ
 rw[if_neg hz,HY.out] at hQ
 have HQ:Aside (M.bind (Bq Ak An f ⟨⟨y1,y2,y3,y4⟩,u-1⟩ r) (fun p=>
  M.bind (Ei An (ks.take k) u) fun a=>M.bind (FG Ak An a p.1) fun a=>
  M.bind (Ei An (ks.drop (k+1)) u) fun b=>M.bind (FG Ak An p.2 b) fun b=>M.pure (a,b)) s2=R):=hQ
 have cP:=fun F w q=>HI.out h s2 ⟨⟨y1,y2,y3,y4⟩,u-1⟩ r F w q (by simp only;omega) (by simp only;omega) (by omega) ce (Bf HQ.out J.out)
 unfold Bi at cP
 simp only at cP
 clear d e2 a3 hQ au ek HI
 go_upto_region 18 with (fail)
 go_cut [11,12] (fun co cp wx=> ∃(p1 p2 p3 p4 U o1 o2 o3 o4 oh:Int)(s3:TS)(M1 M2:Nat),co= .pointer (some ⟨M1,0,none⟩)∧cp= .pointer (some ⟨M2,0,none⟩)∧ -1000≤U∧U≤1000∧ -1000≤oh∧oh≤1000∧
  Aside (M.bind (Ei An (ks.take k) u) (fun a=>M.bind (FG Ak An a ⟨⟨p1,p2,p3,p4⟩,U⟩) fun a=>
  M.bind (Ei An (ks.drop (k+1)) u) fun b=>M.bind (FG Ak An ⟨⟨o1,o2,o3,o4⟩,oh⟩ b) fun b=>M.pure (a,b)) s3=R)∧
  Sat (Ad h s3*(T*(Sl.block M1 DF [.int .i64 p1,.int .i64 p2,.int .i64 p3,.int .i64 p4,.int .i64 U]*(Sl.block M2 DF [.int .i64 o1,.int .i64 o2,.int .i64 o3,.int .i64 o4,.int .i64 oh]*(Sl.block N8 Cy [.bool false,.slice a1 ne ac,.slice (some ⟨b,q,none⟩) H c2]*(Sl.block (N+1+1) DF [.int .i64 0,.int .i64 0,.int .i64 0,.int .i64 0,.int .i64 0]*(Sl.block (N+1) DF [.int .i64 0,.int .i64 0,.int .i64 0,.int .i64 0,.int .i64 0]*(Sl.block N DF [.int .i64 x1,.int .i64 x2,.int .i64 x3,.int .i64 x4,.int .i64 u]*F)))))))) wx)
 case first =>
  go_region_held2 (fun B=>B.cell? ⟨N8,2,none⟩=some (.slice (some ⟨b,q,none⟩) H c2)∧B.cell? ⟨N,4,none⟩=some (.int .i64 u)∧B.cell? ⟨b,q+k*4,none⟩=some (.int .i64 y1)∧B.cell? ⟨b,q+k*4+1,none⟩=some (.int .i64 y2)∧B.cell? ⟨b,q+k*4+2,none⟩=some (.int .i64 y3)∧B.cell? ⟨b,q+k*4+3,none⟩=some (.int .i64 y4)) (first|exact ⟨Ac _ _ _,Ac _ _ _,Ac _ _ _,Ac _ _ _,Ac _ _ _,Ac _ _ _⟩) (first
   |(
      go_at_call 98
      with_reducible refine Calls.mono (cP _ _ (Ae (Ad h s2))) ?_
      rintro e w3 h3
      obtain ⟨r3,m⟩: ∃Q,Q=Bq Ak An f ⟨⟨y1,y2,y3,y4⟩,u-1⟩ r s2:=⟨_,rfl⟩
      rw[←m] at h3
      rcases r3 with ⟨tp,s3⟩|⟨V,s3⟩|_
      rotate_left
      · obtain ⟨rfl,q3⟩:=h3
        haveI:=q3.i
        have l:=B3 HQ.out m.symm
        subst l
        exact ⟨rfl,rfl,Ar _ _⟩
      · exact absurd (Ci HQ.out m.symm) J.out
      obtain ⟨v3,G3,rfl,⟨rfl,rfl⟩,q3⟩:=h3
      rw[Ay] at q3
      haveI:=q3.i
      have W:=Bd HQ.out m.symm
      obtain ⟨u1,u2⟩:=Fc (fun p s n s' h=>Es h) f ⟨⟨y1,y2,y3,y4⟩,u-1⟩ r s2 tp s3 m.symm (-1000) 500 (by omega) (by omega) (by simp only;omega) (by simp only;omega)
      obtain ⟨⟨⟨p1,p2,p3,p4⟩,U⟩,⟨⟨o1,o2,o3,o4⟩,oh⟩⟩:=tp
      simp only at u1 u2
      have z:=As W
      clear W m
      unfold Bi
      simp only))
  all_goals
   go_wp2
   go_meet
   exact ⟨p1,p2,p3,p4,U,o1,o2,o3,o4,oh,s3,_,_,rfl,rfl,by omega,by omega,by omega,by omega,z,Nn _ _ _ _ _ _ _ _ _⟩
 obtain ⟨p1,p2,p3,p4,U,o1,o2,o3,o4,oh,s3,M1,M2,rfl,rfl,u1,u2,u3,u4,z,q9⟩:=hcut
 haveI:=q9.i
 have c3:=fun F w q=>LM h s3 (ks.take k) u _ T F w b8.out q (by rw[List.length_take,G.out.2];omega) (by omega) (by omega) (Bf z.out J.out)
 clear bk cP HQ av HY r1 r2 r3 r4
 go_upto_region 19 with (fail)
 go_region_held2 (fun B=>B.cell? ⟨N8,2,none⟩=some (.slice (some ⟨b,q,none⟩) H c2)∧B.cell? ⟨N,4,none⟩=some (.int .i64 u)∧B.cell? ⟨M1,0,none⟩=some (.int .i64 p1)∧B.cell? ⟨M1,1,none⟩=some (.int .i64 p2)∧B.cell? ⟨M1,2,none⟩=some (.int .i64 p3)∧B.cell? ⟨M1,3,none⟩=some (.int .i64 p4)∧B.cell? ⟨M1,4,none⟩=some (.int .i64 U)∧B.cell? ⟨M2,0,none⟩=some (.int .i64 o1)∧B.cell? ⟨M2,1,none⟩=some (.int .i64 o2)∧B.cell? ⟨M2,2,none⟩=some (.int .i64 o3)∧B.cell? ⟨M2,3,none⟩=some (.int .i64 o4)∧B.cell? ⟨M2,4,none⟩=some (.int .i64 oh)) (first|exact ⟨Ac _ _ _,Ac _ _ _,Ac _ _ _,Ac _ _ _,Ac _ _ _,Ac _ _ _,Ac _ _ _,Ac _ _ _,Ac _ _ _,Ac _ _ _,Ac _ _ _,Ac _ _ _⟩) (first
  |(
     go_at_call 144
     with_reducible refine Calls.mono (c3 _ _ (Bh (Ad h s3) T)) ?_
     rintro e w4 h4
     obtain ⟨r4,o⟩: ∃Q,Q=Ei An (ks.take k) u s3:=⟨_,rfl⟩
     rw[←o] at h4
     rcases r4 with ⟨ta,s4⟩|⟨V,s4⟩|_
     rotate_left
     · obtain ⟨rfl,O⟩:=h4
       haveI:=O.i
       have l:=B3 z.out o.symm
       subst l
       exact ⟨rfl,rfl,Ar _ _⟩
     · exact absurd (Ci z.out o.symm) J.out
     obtain ⟨v4,G4,rfl,⟨rfl,rfl⟩,O⟩:=h4
     rw[Ay] at O
     haveI:=O.i
     have X:=Bd z.out o.symm
     have ci:=Er o.symm
     rw[List.length_take,G.out.2] at ci
     have a9:=As X
     have c4:=fun F w q=>LV h s4 ta ⟨⟨p1,p2,p3,p4⟩,U⟩ F w q (by omega) (by omega) u1 u2 (Bf a9.out J.out)
     unfold Bi at c4
     simp only at c4
     clear X o
     obtain ⟨⟨d1,d2,d3,d4⟩,dh⟩:=ta
     unfold Bi
     simp only)
  |(
     go_at_call 99
     with_reducible refine Calls.mono (c4 _ _ (Ae (Ad h s4))) ?_
     rintro e w5 h5
     obtain ⟨r5,Z⟩: ∃Q,Q=FG Ak An ⟨⟨d1,d2,d3,d4⟩,dh⟩ ⟨⟨p1,p2,p3,p4⟩,U⟩ s4:=⟨_,rfl⟩
     rw[←Z] at h5
     rcases r5 with ⟨tb,s5⟩|⟨V,s5⟩|_
     rotate_left
     · obtain ⟨rfl,q5⟩:=h5
       haveI:=q5.i
       have l:=B3 a9.out Z.symm
       subst l
       exact ⟨rfl,rfl,Ar _ _⟩
     · exact absurd (Ci a9.out Z.symm) J.out
     obtain ⟨v5,G5,rfl,⟨rfl,rfl⟩,q5⟩:=h5
     rw[Ay] at q5
     haveI:=q5.i
     have bd:=Bd a9.out Z.symm
     have aa:=As bd
     have c5:=fun F w q=>LM h s5 (ks.drop (k+1)) u _ T F w ar.out q (by rw[List.length_drop,G.out.2];omega) (by omega) (by omega) (Bf aa.out J.out)
     clear bd Z
     obtain ⟨⟨g1,g2,g3,g4⟩,gh⟩:=tb
     unfold Bi
     simp only)
  |(
     go_at_call 144
     with_reducible refine Calls.mono (c5 _ _ (Bh (Ad h s5) T)) ?_
     rintro e w6 h6
     obtain ⟨r6,K⟩: ∃Q,Q=Ei An (ks.drop (k+1)) u s5:=⟨_,rfl⟩
     rw[←K] at h6
     rcases r6 with ⟨tc,s6⟩|⟨V,s6⟩|_
     rotate_left
     · obtain ⟨rfl,q6⟩:=h6
       haveI:=q6.i
       have l:=B3 aa.out K.symm
       subst l
       exact ⟨rfl,rfl,Ar _ _⟩
     · exact absurd (Ci aa.out K.symm) J.out
     obtain ⟨v6,G6,rfl,⟨rfl,rfl⟩,q6⟩:=h6
     rw[Ay] at q6
     haveI:=q6.i
     have be:=Bd aa.out K.symm
     have cj:=Er K.symm
     rw[List.length_drop,G.out.2] at cj
     have ab:=As be
     have c6:=fun F w q=>LV h s6 ⟨⟨o1,o2,o3,o4⟩,oh⟩ tc F w q u3 u4 (by omega) (by omega) (Bf ab.out J.out)
     unfold Bi at c6
     simp only at c6
     clear be K
     obtain ⟨⟨l1,l2,l3,l4⟩,lh⟩:=tc
     unfold Bi
     simp only)
  |(
     go_at_call 99
     with_reducible refine Calls.mono (c6 _ _ (Ae (Ad h s6))) ?_
     rintro e w7 h7
     obtain ⟨r7,a0⟩: ∃Q,Q=FG Ak An ⟨⟨o1,o2,o3,o4⟩,oh⟩ ⟨⟨l1,l2,l3,l4⟩,lh⟩ s6:=⟨_,rfl⟩
     rw[←a0] at h7
     rcases r7 with ⟨td,s7⟩|⟨V,s7⟩|_
     rotate_left
     · obtain ⟨rfl,q7⟩:=h7
       haveI:=q7.i
       have l:=B3 ab.out a0.symm
       subst l
       exact ⟨rfl,rfl,Ar _ _⟩
     · exact absurd (Ci ab.out a0.symm) J.out
     obtain ⟨v7,G7,rfl,⟨rfl,rfl⟩,q7⟩:=h7
     rw[Ay] at q7
     haveI:=q7.i
     have bf:=Bd ab.out a0.symm
     have ay:R= .ok (⟨⟨g1,g2,g3,g4⟩,gh⟩,td) s7:=bf.symm
     clear bf a0
     obtain ⟨⟨m1,m2,m3,m4⟩,mh⟩:=td
     unfold Bi
     simp only))
 all_goals
  subst ay
  go_wp2
  go_returns
  exact ⟨_,1,rfl,⟨rfl,rfl⟩,by rw[Ay];exact Ar _ _⟩
theorem Px(f:Nat):Xw f:=by
 induction f with
 | zero =>
  intro h s x n F w hs h1 d j b hb
  by_cases c1:n≤0
  · exact Py 0 h s x n F w hs c1
  by_cases c2:x.ER.bytes≤n
  · exact Nx 0 h s x n F w hs c1 c2
  exact absurd (by unfold Bq;rw[if_neg c1,if_neg c2];rfl) hb
 | succ f k =>
  intro h s x n F w hs h1 d j b hb
  by_cases c1:n≤0
  · exact Py (f+1) h s x n F w hs c1
  by_cases c2:x.ER.bytes≤n
  · exact Nx (f+1) h s x n F w hs c1 c2
  by_cases hl: ∃y s2,Ak x.ER.Au s= .ok y s2∧y.leaf=true
  · obtain ⟨y,s2,g,i⟩:=hl
    exact U1 f h s x n F w hs c1 c2 b (fun c a e=>by rw[g] at e;cases e;exact i) hb
  exact Zr f k h s x n F w hs c1 c2 b (by omega) d (by omega) (fun c a e=>by
   cases hy:c.leaf with
   |false=>rfl
   |true=>exact absurd ⟨c,a,e,hy⟩ hl) hb
theorem RI(e:Int)(w:World):Sem.run Tryz.prog (Instr.typeAssert (.iface cX (.agg #[.int .i64 e])) 20 cX true) w= .ok (.tuple #[.agg #[.int .i64 e],.bool true]) w:=by
 kernel_rfl
theorem Ho(e:Int)(F:Ab)(w:World)(hs:Sat F w):
 Calls Tryz.prog 74 #[.iface cX (.agg #[.int .i64 e])] w fun a b=>a= .returned (.int .i64 e)∧Sat F b:=by
 haveI:=hs.i
 go_enter Tryz.func74,Tryz.ntmps74
 have ha:=RI e
 go_wp2
 go_returns
 exact ⟨rfl,Sat.Dx (B:=Sl.block w.heap.size cX [.int .i64 e]) (Ap (by ac_rfl))⟩
abbrev Fw:TypeId:=37
abbrev PW:TypeId:=3
theorem Xc(s:Sp)(m:Nat):(Eh s m).1.length≤s.taken.length:=by
 unfold Eh Df
 simp only[List.length_mergeSort]
 have:=Ip (s.taken.drop m) s.used []
 grind
theorem RU(l:List Int): ∀s:Ck,(D8 l s).d=s.d∧(D8 l s).nm=s.nm∧(D8 l s).reads=s.reads:=by induction l with
 |nil=>exact fun s=>⟨rfl,rfl,rfl⟩
 | cons a l b =>
  intro s
  have e:(s.forget a).2.d=s.d∧(s.forget a).2.nm=s.nm∧(s.forget a).2.reads=s.reads:=by grind [Ck.forget]
  show (D8 l (s.forget a).2).d=_∧(D8 l (s.forget a).2).nm=_∧(D8 l (s.forget a).2).reads=_
  simp_all
def TS.Jc(s:TS)(m:Nat):TS:=⟨D8 (Eh s.sp m).1 s.ck,(Eh s.sp m).2,s.ops⟩
theorem NP.Jc{s:TS}(h:NP s)(m:Nat):NP (s.Jc m):=by
 obtain ⟨k,d⟩:=h.ck
 obtain ⟨a,b,c⟩:=RU (Eh s.sp m).1 s.ck
 refine ⟨⟨k,O9 _ d⟩,?_,h.ops,h.res,?_⟩
 ·obtain ⟨e,f,g,n4,i⟩:=h.num
  show cW s.ops (D8 _ s.ck)
  exact ⟨by rw[a];exact e,by rw[a];exact f,by rw[a,b];exact g,by rw[c];exact n4,by rw[a,b];exact i⟩
 show (s.sp.taken.take m).length≤s.ops
 have:=h.taken
 grind
theorem PJ(t:Value)(mark:Int)(E:Nat)(u:FrameMode)(F:Ab)(w:World)(hs:Sat (Sl.block E Fw [.int .i64 0]*F) w):
 CallsD Tryz.prog 81 #[t,.int .i64 mark,.pointer (some ⟨E,0,none⟩)] u w fun e a b=>a=u∧(e= .returned (.tuple #[])∧Sat (Sl.block E Fw [.int .i64 0]*F) b):=by
 haveI:=hs.i
 go_enter_d Tryz.func81,Tryz.ntmps81
 go_wp2
 go_returns
 exact ⟨rfl,hs⟩
theorem Vv(h:Th)(ck:Ck)(sp:Sp)(m:Nat)(E:Nat)(e:Int)(u:FrameMode)(F:Ab)(w:World)(he:e≠0)(y: ∀l,∃k,Bm k (D8 l ck))(hm:m≤sp.taken.length)(W:sp.taken.length≤1099511627776)(d:(Eh sp m).1.length≤1099511627776)
 (hs:Sat (Be h.C h.D ck*(Cf h.S sp*(Sl.block h.t Tg [.pointer (some ⟨h.C,0,none⟩),.pointer (some ⟨h.S,0,none⟩)]*(Sl.block E Fw [.int .i64 e]*F)))) w):
 CallsD Tryz.prog 81 #[.pointer (some ⟨h.t,0,none⟩),.int .i64 m,.pointer (some ⟨E,0,none⟩)] u w fun Q Y Z=>Y=u∧(Q= .returned (.tuple #[])∧
  Sat (Be h.C h.D (D8 (Eh sp m).1 ck)*(Cf h.S (Eh sp m).2*(Sl.block h.t Tg [.pointer (some ⟨h.C,0,none⟩),.pointer (some ⟨h.S,0,none⟩)]*(Sl.block E Fw [.int .i64 e]*F)))) Z):=by
 have U:=As y
 have f:=fun F w q=>Xb h.S sp m F w q hm W
 obtain ⟨l,hl⟩:=Aq ((Eh sp m).1)
 obtain ⟨r,z⟩:=Aq ((Eh sp m).2)
 rw[hl] at d
 rw[hl,z] at f⊢
 clear hl z y
 haveI:=hs.i
 go_enter_d Tryz.func81,Tryz.ntmps81
 go_wp2_with fail
 with_reducible refine Calls.mono (f _ _ (Ae (Cf h.S sp))) ?_
 rintro Q w2 ⟨a,c,rfl,B⟩
 haveI:=B.i
 clear f
 go_wp2_with fail
 obtain ⟨n,J⟩:=Aq l.length
 have L:=As J
 rw[J] at d B⊢
 clear J this
 haveI:=B.i
 have T:Sat (Be h.C h.D ck*(Cf h.S r*(Sl.block h.t Tg [.pointer (some ⟨h.C,0,none⟩),.pointer (some ⟨h.S,0,none⟩)]*(Sl.block E Fw [.int .i64 e]*(rw CN 1 (.slice a n c) (ints l)*F))))) w2:=Ap (by ac_rfl)
 clear B hs this
 go_loopg [25] n (fun g K wr=> ∃(i:Nat)(b:Ck),K= .int .i64 i∧i≤n∧Aside (g=n-i∧b=D8 (l.take i) ck)∧Sat (Be h.C h.D b*(Cf h.S r*(Sl.block h.t Tg [.pointer (some ⟨h.C,0,none⟩),.pointer (some ⟨h.S,0,none⟩)]*(Sl.block E Fw [.int .i64 e]*(rw CN 1 (.slice a n c) (ints l)*F))))) wr)
 case atStart=>exact ⟨0,ck,rfl,by omega,⟨rfl,rfl⟩,T⟩
 obtain ⟨i,b,rfl,hi,A,o⟩:=hrel
 clear T
 by_cases V:i<n
 · have x:(i:Int)<n:=by omega
   obtain ⟨no,j⟩: ∃no,l[i]?=some no:=⟨_,List.getElem?_eq_getElem (by have:=L.out;omega)⟩
   have X:Sat (rw CN 1 (.slice a n c) (ints l)*(Be h.C h.D b*(Cf h.S r*(Sl.block h.t Tg [.pointer (some ⟨h.C,0,none⟩),.pointer (some ⟨h.S,0,none⟩)]*(Sl.block E Fw [.int .i64 e]*F))))) wr:=o.eq (by ac_rfl)
   obtain ⟨g,rfl⟩:=Dv X (by omega)
   have s:(ints l)[i]?=some (.int .i64 no):=by unfold ints;simp[j]
   haveI:At (ints l) i (.int .i64 no):=⟨s⟩
   obtain ⟨k,I⟩:=U.out (l.take i)
   rw[←A.out.2] at I
   have v:=fun F w q=>Wb h.C h.D b k no F w q I
   have O:Aside ((b.forget no).2=D8 (l.take (i+1)) ck):=(by rw[AB j];unfold D8;rw[List.foldl_append,A.out.2];rfl:_=_)
   obtain ⟨G,R⟩:=Aq ((b.forget no).2)
   rw[R] at v O
   haveI:=o.i
   clear s j R I
   go_wp2_with fail
   with_reducible refine Dz (v _ _ (Ae (Be h.C h.D b))) fun w4 q5 _=>?_
   go_wp2_with fail
   go_roundg (n-(i+1))
   case measure=>have:=A.out.1;omega
   case rel=>exact ⟨i+1,G,by go_num,by omega,⟨rfl,O.out⟩,DZ _ _ _ _ _ _⟩
 have x: ¬(i:Int)<n:=by omega
 obtain rfl:i=n:=by omega
 have H:b=D8 l ck:=by have:=A.out.2;rwa [List.take_of_length_le (by rw[L.out];exact Nat.le_refl _)] at this
 haveI:=o.i
 subst H
 go_wp2
 go_returns
 exact ⟨rfl,DC _ _ _ _ _⟩
theorem Vu(h:Th)(s:TS)(m:Nat)(E:Nat)(e:Int)(u:FrameMode)(F:Ab)(w:World)(g:e≠0)(hm:m≤s.sp.taken.length)(hs:Sat (Ad h s*(Sl.block E Fw [.int .i64 e]*F)) w):
 CallsD Tryz.prog 81 #[.pointer (some ⟨h.t,0,none⟩),.int .i64 m,.pointer (some ⟨E,0,none⟩)] u w fun a b c=>b=u∧(a= .returned (.tuple #[])∧Sat (Ad h (s.Jc m)*(Sl.block E Fw [.int .i64 e]*F)) c):=by
 obtain ⟨hi,hp⟩:=Ek hs
 obtain ⟨k,i⟩:=hi.ck
 have hl:=Xc s.sp m
 have j:=hi.ops
 have o:=hi.taken
 unfold BG at j
 refine (Vv h s.ck s.sp m E e u F w g (fun l=>⟨k,O9 l i⟩) hm (by omega) (by omega) hp).mono ?_
 rintro a b c ⟨h1,d,f⟩
 exact ⟨h1,d,Dw (hi.Jc m) f⟩
theorem To(N E:Nat)(w:World):
 CallsD Tryz.prog 83 #[.pointer (some ⟨N,0,none⟩),.pointer (some ⟨E,0,none⟩)] .returning w fun e c d=>e= .returned (.tuple #[])∧c= .returning∧d=w:=by
 refine callsD_of_wpS Tryz.func83 rfl fun a cs b=>?_
 apply wpS_seq
 apply wpS_region
 simp[wpOpsS,go_sem,recoverD,b,Tryz.ntmps83,Exit.thenS]
 apply wpS_seq
 apply wpS_region
 simp[wpOpsS,go_sem,Exit.thenS]
 refine wpS_cond (t:=false) (by simp[Act.eval,Array.replicate]) ?_
 simp only[Bool.false_eq_true,if_false]
 refine wpS_of_wp (wp_skip ?_)
 cases a
 simp_all[bodyPostS,results,Tryz.results83,Exit.thenS]
theorem PY(N E:Nat)(c:Int)(a b:Value)(F:Ab)(w:World)(hs:Sat (Sl.block N PW [a]*(Sl.block E Fw [b]*F)) w):
 CallsD Tryz.prog 83 #[.pointer (some ⟨N,0,none⟩),.pointer (some ⟨E,0,none⟩)] (.panicking (CM c)) w fun e g j=>e= .returned (.tuple #[])∧g= .panicking [{ v:= .iface cX (.agg #[.int .i64 c]),recovered:=true }]∧Sat (Sl.block N PW [.int .i64 0]*(Sl.block E Fw [.int .i64 c]*F)) j:=by
 haveI:=hs.i
 refine callsD_of_wpS Tryz.func83 rfl fun d cs f=>?_
 unfold CM at f
 apply wpS_seq
 apply wpS_region
 simp[wpOpsS,go_sem,recoverD,f,Tryz.ntmps83,Exit.thenS]
 apply wpS_seq
 apply wpS_region
 simp[wpOpsS,go_sem,Exit.thenS]
 refine wpS_cond (t:=true) (by simp[Act.eval,Array.replicate]) ?_
 simp only[if_true]
 refine wpS_of_wp ?_
 go_wp2_with fail
 refine Dz (Ho c _ _ hs) fun l k _=>?_
 go_wp2
 simp[bodyPostS,results,Tryz.results83]
 exact Ap (by first|rfl|ac_rfl)
theorem PC(N E:Nat)(w:World):
 CallsD Tryz.prog 138 #[.pointer (some ⟨N,0,none⟩),.pointer (some ⟨E,0,none⟩)] .returning w fun e c d=>e= .returned (.tuple #[])∧c= .returning∧d=w:=by
 refine callsD_of_wpS Tryz.func138 rfl fun a cs b=>?_
 apply wpS_seq
 apply wpS_region
 simp[wpOpsS,go_sem,recoverD,b,Tryz.ntmps138,Exit.thenS]
 apply wpS_seq
 apply wpS_region
 simp[wpOpsS,go_sem,Exit.thenS]
 refine wpS_cond (t:=false) (by simp[Act.eval,Array.replicate]) ?_
 simp only[Bool.false_eq_true,if_false]
 refine wpS_of_wp (wp_skip ?_)
 cases a
 simp_all[bodyPostS,results,Tryz.results138,Exit.thenS]
theorem SH(N E:Nat)(c:Int)(a b:Value)(F:Ab)(w:World)(hs:Sat (Sl.block N PW [a]*(Sl.block E Fw [b]*F)) w):
 CallsD Tryz.prog 138 #[.pointer (some ⟨N,0,none⟩),.pointer (some ⟨E,0,none⟩)] (.panicking (CM c)) w fun e g j=>e= .returned (.tuple #[])∧g= .panicking [{ v:= .iface cX (.agg #[.int .i64 c]),recovered:=true }]∧Sat (Sl.block N PW [.int .i64 0]*(Sl.block E Fw [.int .i64 c]*F)) j:=by
 haveI:=hs.i
 refine callsD_of_wpS Tryz.func138 rfl fun d cs f=>?_
 unfold CM at f
 apply wpS_seq
 apply wpS_region
 simp[wpOpsS,go_sem,recoverD,f,Tryz.ntmps138,Exit.thenS]
 apply wpS_seq
 apply wpS_region
 simp[wpOpsS,go_sem,Exit.thenS]
 refine wpS_cond (t:=true) (by simp[Act.eval,Array.replicate]) ?_
 simp only[if_true]
 refine wpS_of_wp ?_
 go_wp2_with fail
 refine Dz (Ho c _ _ hs) fun l k _=>?_
 go_wp2
 simp[bodyPostS,results,Tryz.results138]
 exact Ap (by first|rfl|ac_rfl)
theorem Mc(N E:Nat)(w:World):
 CallsD Tryz.prog 93 #[.pointer (some ⟨N,0,none⟩),.pointer (some ⟨E,0,none⟩)] .returning w fun e c d=>e= .returned (.tuple #[])∧c= .returning∧d=w:=by
 refine callsD_of_wpS Tryz.func93 rfl fun a cs b=>?_
 apply wpS_seq
 apply wpS_region
 simp[wpOpsS,go_sem,recoverD,b,Tryz.ntmps93,Exit.thenS]
 apply wpS_seq
 apply wpS_region
 simp[wpOpsS,go_sem,Exit.thenS]
 refine wpS_cond (t:=false) (by simp[Act.eval,Array.replicate]) ?_
 simp only[Bool.false_eq_true,if_false]
 refine wpS_of_wp (wp_skip ?_)
 cases a
 simp_all[bodyPostS,results,Tryz.results93,Exit.thenS]
def ZL{α:Type}(h:Th)(F:Ab)(r:Fu TS α)(Bn:α→Value)(bad:Int→Value)(e:Ending)(b:World):Prop:=match r with
 | .ok a s=>e= .returned (Bn a)∧Sat (Ad h s*F) b
 | .fault n s=>e= .returned (bad n)∧Sat (Ad h s*F) b
 | .bad=>False
def Oo(a b:Int):Value:= .tuple #[.int .i64 a,.int .i64 b]
theorem Ih(h:Th)(s:TS)(root:Int)(F:Ab)(w:World)(hs:Sat (Ad h s*F) w)(hb:FB Ak root s≠ .bad):
 Calls Tryz.prog 86 #[.pointer (some ⟨h.t,0,none⟩),.int .i64 root] w (ZL h F (FB Ak root s) (fun z=>Oo z 0) (fun k=>Oo 0 k)):=by
 have X: ∀(G:Fn)(first cap:Array Value)(w:World),(Instr.makeFunc G first cap).run Tryz.prog w= .ok (.func G first cap) w:=fun _ _ _ _=>rfl
 obtain ⟨R,c⟩:=Aq (FB Ak root s)
 rw[c] at hb⊢
 have j:=As hb
 unfold FB at c
 haveI:=hs.i
 clear hb
 by_cases h0:root=0
 ·rw[if_pos h0] at c
  have a:R= .ok 0 s:=c.symm
  subst a
  subst h0
  clear c j
  go_enter_defers Tryz.func86,Tryz.ntmps86
  go_wp2
  refine leaves_cons (f:=138) (args:= #[.pointer (some ⟨w.heap.size,0,none⟩),.pointer (some ⟨w.heap.size+1,0,none⟩)]) (by simp) (by simp[go_sem]) ?_
  refine (PC _ _ _).mono ?_
  rintro e J x ⟨rfl,rfl,rfl⟩
  simp[Leaves,settle,results,Tryz.results86,go_sem]
  exact ⟨rfl,Ar _ _⟩
 rw[if_neg h0] at c
 have g:=As c
 have c1:=fun F w q=>Cu h s root F w q (Bf g.out j.out)
 have L:((root:Int)==0)=false:=by simpa using h0
 clear c
 go_enter_defers Tryz.func86,Tryz.ntmps86
 go_wp2_with fail
 with_reducible refine Calls.mono (c1 _ _ (Ae (Ad h s))) ?_
 rintro e B d
 obtain ⟨r1,b⟩: ∃r,r=Ak root s:=⟨_,rfl⟩
 rw[←b] at d
 rcases r1 with ⟨y,s2⟩|⟨k,s2⟩|_
 rotate_left
 ·obtain ⟨rfl,l⟩:=d
  haveI:=l.i
  have a:=B3 g.out b.symm
  subst a
  show bodyPostD _ _ _ (.panic (CM k)) _ B
  refine leaves_cons (f:=138) (args:= #[.pointer (some ⟨w.heap.size,0,none⟩),.pointer (some ⟨w.heap.size+1,0,none⟩)]) (by simp) (by simp[go_sem]) ?_
  refine (SH w.heap.size (w.heap.size+1) k _ _ _ B (Bh (Sl.block w.heap.size PW [.int .i64 0]) (Sl.block (w.heap.size+1) Fw [.int .i64 0]))).mono ?_
  rintro e J w2 ⟨rfl,rfl,m⟩
  haveI:=m.i
  simp[Leaves,settle,results,Tryz.results86,go_sem]
  exact ⟨rfl,Ar _ _⟩
 ·exact absurd (Ci g.out b.symm) j.out
 obtain ⟨v1,D,rfl,⟨hx,o⟩,l⟩:=d
 obtain ⟨V,W⟩:=Cn o
 have a:R= .ok (AZ y).1 s2:=(Bd g.out b.symm).symm
 subst a
 have u:=fun F w q=>Kf y v1 D F w hx q (by omega) (by omega)
 obtain ⟨se,sk,rfl,H,I⟩:=hx
 obtain ⟨Z,K,rfl,O,Q⟩:=H.v
 obtain ⟨a2,c2,rfl,T,U⟩:=Ai.v I
 have m:Sat (D*(Ad h s2*(Sl.block (w.heap.size+1) Fw [.int .i64 0]*(Sl.block w.heap.size PW [.int .i64 0]*F)))) B:=l.eq (by ac_rfl)
 haveI:=m.i
 clear H I g j c1 b l
 go_wp2_with fail
 refine Calls.mono (u _ _ m) ?_
 rintro e w3 ⟨rfl,Y⟩
 haveI:=Y.i
 go_wp2
 refine leaves_cons (f:=138) (args:= #[.pointer (some ⟨w.heap.size,0,none⟩),.pointer (some ⟨w.heap.size+1,0,none⟩)]) (by simp) (by simp[go_sem]) ?_
 refine (PC _ _ _).mono ?_
 rintro e J x ⟨rfl,rfl,rfl⟩
 simp[Leaves,settle,results,Tryz.results86,go_sem]
 exact ⟨rfl,Ar _ _⟩
end Go.Proofs.YtfhbmblbidcmmaaGreat
namespace Go.Tr
section
variable {σ:Type} {α β:Type} {P:σ→σ→Prop}
structure Ta (P:σ→σ→Prop):Prop where
 same: ∀s,P s s
 next: ∀a b c,P a b→P b c→P a c
def Aj(P:σ→σ→Prop)(m:M σ α):Prop:= ∀s,match m s with
 | .ok _ s'=>P s s'
 | .fault _ s'=>P s s'
 | .bad=>True
theorem Aj.pure(h:Ta P)(a:α):Aj P (M.pure a):=fun s=>h.same s
theorem Aj.fail(h:Ta P)(e:Int):Aj P (M.fail e:M σ α):=fun s=>h.same s
theorem Aj.bad:Aj P (M.bad:M σ α):=fun s=>trivial
theorem Aj.bind(h:Ta P){m:M σ α}{f:α→M σ β}(hm:Aj P m)(g: ∀a,Aj P (f a)):Aj P (M.bind m f):=fun s=>by
 have h1:=hm s
 unfold M.bind
 cases hr:m s with
 |bad=>trivial
 |fault e s1=>rw[hr] at h1;exact h1
 | ok a s1 =>
  rw[hr] at h1
  have d:=g a s1
  simp only[Fu.bind] at h1⊢
  cases c:f a s1 with
  |bad=>trivial
  |fault e s2=>rw[c] at d;exact h.next _ _ _ h1 d
  |ok b s2=>rw[c] at d;exact h.next _ _ _ h1 d
theorem Aj.ite{c:Prop}[Decidable c]{m k:M σ α}(h1:Aj P m)(a:Aj P k):Aj P (if c then m else k):=by grind
theorem Aj.ok{m:M σ α}{s s':σ}{a:α}(h:Aj P m)(e:m s= .ok a s'):P s s':=by
 have:=h s
 simp_all
theorem Aj.fault{m:M σ α}{s s':σ}{n:Int}(h:Aj P m)(e:m s= .fault n s'):P s s':=by
 have:=h s
 simp_all
variable (h:Ta P) {rd:Int→M σ Nd} {wt:Nd→M σ Kd} (hr: ∀p,Aj P (rd p)) (hw: ∀n,Aj P (wt n))
include h
include hw in
theorem Ii(n:Nd)(A7:Nat): ∀(c i a:Nat)(out:List Kd),Aj P (C4 wt n A7 c i a out)
 |0,_,_,_=>Aj.pure h _
 |c+1,i,a,out=>Aj.bind h (hw _) fun k=>Ii n A7 c _ _ _
include hw in
theorem E4(n:Nd):Aj P (BT wt n):=Ii h hw n _ _ _ _ _
include hw in
theorem Mf: ∀(f:Nat)(ks:List Kd)(x:Int),Aj P (Fb wt f ks x)
 |0,[],x=>Aj.pure h _
 |f+1,[],x=>Aj.pure h _
 |0,[k],x=>Aj.pure h _
 |f+1,[k],x=>Aj.pure h _
 |0,a::b::l,x=>Aj.bad
 |f+1,a::b::l,x=>Aj.bind h (E4 h hw _) fun ks=>Mf f ks _
include hw in
theorem Jx(ks:List Kd)(x:Int):Aj P (grown wt ks x):=Mf h hw _ _ _
include hw in
theorem E3(l:List Av):Aj P (Cs wt l):=Aj.bind h (E4 h hw _) fun ks=>Jx h hw _ _
include hw in
theorem GP(ks:List Kd)(x:Int):Aj P (Ei wt ks x):=Jx h hw _ _
include hr hw in
theorem JP: ∀(f:Nat)(a b:BK),Aj P (C7 rd wt f a b)
 |0,a,b=>Aj.bad
 | f + 1, a, b => by
  unfold C7
  refine Aj.ite ?_ (Aj.ite ?_ ?_)
  ·refine Aj.bind h (hr _) fun x=>?_
   split
   ·exact Aj.bad
   exact Aj.ite Aj.bad (Aj.bind h (JP f _ _) fun r=>Aj.bind h (E4 h hw _) fun o=>Aj.pure h _)
  ·refine Aj.bind h (hr _) fun x=>?_
   split
   ·exact Aj.bad
   exact Aj.ite Aj.bad (Aj.bind h (JP f _ _) fun r=>Aj.bind h (E4 h hw _) fun o=>Aj.pure h _)
  exact Aj.bind h (hr _) fun x=>Aj.bind h (hr _) fun y=>Aj.ite (Aj.bind h (E4 h hw _) fun o=>Aj.pure h _) Aj.bad
include hr hw in
theorem Jb(a b:BK):Aj P (FG rd wt a b):=Aj.ite (Aj.pure h _) (Aj.ite (Aj.pure h _) (Aj.bind h (JP h hr hw _ _ _) fun r=>Jx h hw _ _))
include hr hw in
theorem Hb: ∀(f:Nat)(x:BK)(n:Int),Aj P (Bq rd wt f x n)
 | 0, x, n => by
  unfold Bq
  exact Aj.ite (Aj.pure h _) (Aj.ite (Aj.pure h _) Aj.bad)
 | f + 1, x, n => by
  unfold Bq
  refine Aj.ite (Aj.pure h _) (Aj.ite (Aj.pure h _) (Aj.bind h (hr _) fun y=>Aj.ite ?_ ?_))
  ·split
   ·exact Aj.bad
   exact Aj.bind h (E3 h hw _) fun a=>Aj.bind h (E3 h hw _) fun b=>Aj.pure h _
  split
  ·exact Aj.bad
  refine Aj.ite (Aj.bind h (GP h hw _ _) fun a=>Aj.bind h (GP h hw _ _) fun b=>Aj.pure h _) ?_
  split
  ·exact Aj.bad
  exact Aj.bind h (Hb f _ _) fun p=>Aj.bind h (GP h hw _ _) fun a=>Aj.bind h (Jb h hr hw _ _) fun a=>Aj.bind h (GP h hw _ _) fun b=>Aj.bind h (Jb h hr hw _ _) fun b=>Aj.pure h _
include hr in
theorem JG: ∀(f:Nat)(n:Nd)(x:Int),Aj P (C6 rd f n x)
 | 0, n, x => by
  unfold C6
  exact Aj.ite (Aj.pure h _) (Aj.fail h _)
 | f + 1, n, x => by
  unfold C6
  refine Aj.ite (Aj.pure h _) ?_
  simp only
  split
  ·exact Aj.bad
  exact Aj.bind h (hr _) fun m=>JG f m _
include hr in
theorem Hc(r:Int):Aj P (EB rd r):=Aj.ite (Aj.pure h _) (Aj.bind h (hr _) fun n=>Aj.bind h (JG h hr _ _ _) fun x=>Aj.pure h _)
include hr in
theorem Mb: ∀(f:Nat)(n:Nd)(x a:Int),Aj P (Fs rd f n x a)
 |0,n,x,a=>Aj.fail h _
 | f + 1, n, x, a => by
  unfold Fs
  split
  ·exact Aj.pure h _
  ·exact Aj.fail h _
  exact Aj.bind h (hr _) fun m=>Mb f m _ _
include hr in
theorem NJ(r x:Int):Aj P (K5 rd r x):=Aj.bind h (hr _) fun n=>Mb h hr _ _ _ _
include hr in
theorem Ej: ∀(f:Nat)(x:BK)(n:Int),Aj P (CR rd f x n)
 | 0, x, n => by
  unfold CR
  exact Aj.ite (Aj.pure h _) (Aj.ite (Aj.pure h _) Aj.bad)
 | f + 1, x, n => by
  unfold CR
  refine Aj.ite (Aj.pure h _) (Aj.ite (Aj.pure h _) (Aj.bind h (hr _) fun y=>?_))
  split
  ·exact Aj.pure h _
  exact Aj.bind h (Ej f _ _) fun z=>Aj.pure h _
include hr in
theorem Vo(r:Int):Aj P (FB rd r):=Aj.ite (Aj.pure h _) (Aj.bind h (hr _) fun n=>Aj.pure h _)
include hw in
theorem Me(l:List Av):Aj P (Ja wt l):=Aj.bind h (E3 h hw _) fun t=>Aj.pure h _
include hr in
theorem I6(r x:Int):Aj P (leftOf rd r x):=Aj.ite (Aj.bind h (NJ h hr _ _) fun p=>Aj.pure h _) (Aj.pure h _)
include hr in
theorem GX(r x a:Int):Aj P (FO rd r x a):=Aj.ite (Aj.bind h (NJ h hr _ _) fun p=>Aj.pure h _) (Aj.pure h _)
include hr hw in
theorem Qm(r a n x:Int)(put:List Av):Aj P (Km rd wt r a n x put):=
 Aj.bind h (I6 h hr _ _) fun L=>Aj.bind h (GX h hr _ _ _) fun R=>Aj.bind h (Hc h hr _) fun w=>Aj.bind h (Ej h hr _ _ _) fun r1=>Aj.bind h (Ej h hr _ _ _) fun r0=>
 Aj.ite (Aj.fail h _) (Aj.bind h (Hb h hr hw _ _ _) fun p=>Aj.bind h (Hb h hr hw _ _ _) fun q=>Aj.bind h (E3 h hw _) fun m=>Aj.bind h (Jb h hr hw _ _) fun x=>Aj.bind h (Jb h hr hw _ _) fun y=>Aj.pure h _)
end
end Go.Tr
namespace Go.Proofs.YtfhbmblbidcmmaaGreat
open Go.RowKit Go.Sl Go.Dk Go.Tr
def Grow(s s':TS):Prop:=(∃l,s'.sp.taken=s.sp.taken++l∧s'.sp.used=s.sp.used++l)∧s'.sp.AX=s.sp.AX∧s'.sp.waiting=s.sp.waiting∧s.ops≤s'.ops
theorem BM:Ta Grow where
 same s:=⟨⟨[],by simp,by simp⟩,rfl,rfl,Nat.le_refl _⟩
 next:=by
  rintro a b c ⟨⟨l,h1,d⟩,e,f,o⟩ ⟨⟨m,g,i⟩,j,k,q⟩
  exact ⟨⟨l++m,by rw[g,h1,List.append_assoc],by rw[i,d,List.append_assoc]⟩,j.trans e,k.trans f,by omega⟩
theorem Grow.len{s s':TS}(h:Grow s s'):s.sp.taken.length≤s'.sp.taken.length:=by
 obtain ⟨⟨l,h1,_⟩,_⟩:=h
 simp_all
theorem GG(e:Int):Aj Grow (Fi e):=by
 unfold Fi
 split
 ·exact Aj.pure BM _
 exact Aj.fail BM _
theorem Wk(no:Int):Aj Grow (Ue no):=fun s=>by
 unfold Ue
 by_cases h:s.ops<BG
 ·rw[if_pos h];exact ⟨⟨[],by simp,by simp⟩,rfl,rfl,by simp only;omega⟩
 grind
theorem Wl(no:Int)(b:List UInt8):Aj Grow (Zb no b):=fun s=>⟨⟨[],by simp,by simp⟩,rfl,rfl,by simp only;omega⟩
theorem Uf:Aj Grow Jg:=fun s=>by
 unfold Jg
 by_cases h:s.ops<BG
 ·rw[if_pos h]
  unfold Sp.take
  cases s.sp.free with
  |none=>exact ⟨⟨[],by simp,by simp⟩,rfl,rfl,by simp only;omega⟩
  |some no=>exact ⟨⟨[no],rfl,rfl⟩,rfl,rfl,by simp only;omega⟩
 grind
theorem FA(p:Int):Aj Grow (Ak p):=by
 refine Aj.bind BM (Wk p) fun r=>Aj.bind BM (GG _) fun _=>?_
 cases CU p r.2 with
 |none=>exact Aj.fail BM _
 |some n=>exact Aj.pure BM _
theorem SQ(n:Nd):Aj Grow (An n):=by
 refine Aj.ite (Aj.fail BM _) ?_
 exact Aj.bind BM Uf fun t=>Aj.bind BM (GG _) fun _=>Aj.bind BM (GG _) fun _=>Aj.bind BM (Wl _ _) fun e=>Aj.bind BM (GG _) fun _=>Aj.pure BM _
def after(m:Nat){α:Type} :Fu TS α→Fu TS α
 | .fault e s=> .fault e (if e=0 then s else s.Jc m)
 |r=>r
def DM(l:List Av):M TS Int:=fun s=>if Bk l=false then .fault 1 s else if 1024<(join l).length then .fault 11 s else after s.sp.taken.length (Ja An (join l) s)
theorem Y4(a b c d e:Int)(w:World):Sem.run Tryz.prog (Instr.field DF (.agg #[.int .i64 a,.int .i64 b,.int .i64 c,.int .i64 d,.int .i64 e]) 0) w= .ok (.agg #[.int .i64 a,.int .i64 b,.int .i64 c,.int .i64 d]) w:=by kernel_rfl
theorem VW(a b c d:Int)(w:World):Sem.run Tryz.prog (Instr.field Lh (.agg #[.int .i64 a,.int .i64 b,.int .i64 c,.int .i64 d]) 0) w= .ok (.int .i64 a) w:=by kernel_rfl
theorem Q7: ∀(l o:List Av),(l.foldl A8 o).length≤o.length+l.length
 | [],o=>by simp
 | x :: l, o => by
  have h1:=Q7 l (A8 o x)
  have a:=KG o x
  grind
theorem OO(l:List Av):(join l).length≤l.length:=by
 have:=Q7 l []
 simp_all[join,List.length_nil,Nat.zero_add]
instance lT{h:Th}{s:TS} :El (Ad h s) h.t 0 (.pointer (some ⟨h.C,0,none⟩)):=⟨by
 unfold Ad PI
 exact El.out⟩
instance lU{h:Th}{s:TS} :El (Ad h s) h.t 1 (.pointer (some ⟨h.S,0,none⟩)):=⟨by
 unfold Ad PI
 exact El.out⟩
theorem QS(h:Th)(s:TS)(F:Ab)(w:World)(hs:Sat (Ad h s*F) w):
 Calls Tryz.prog 82 #[.pointer (some ⟨h.S,0,none⟩)] w fun e a=>e= .returned (.int .i64 s.sp.taken.length)∧Sat (Ad h s*F) a:=by
 obtain ⟨hi,hp⟩:=Ek hs
 refine (Xd h.S s.sp _ w (hp.eq (by ac_rfl):Sat (Cf h.S s.sp*(Be h.C h.D s.ck*(Sl.block h.t Tg [.pointer (some ⟨h.C,0,none⟩),.pointer (some ⟨h.S,0,none⟩)]*F))) w)).mono ?_
 rintro e a ⟨h1,b⟩
 exact ⟨h1,Dw hi (b.eq (by ac_rfl))⟩
abbrev PT:TypeId:=29
theorem JD{B:Ab}{v:Value}{l:List Av}(b:Nat)(a:A1 B v l):RG (Sl.block b PT [v]*B) (.slice (some ⟨b,0,none⟩) 1 1) [l]:=by
 refine ⟨[v],⟨rfl,_,_,rfl,Nat.le_refl _,by omega,fun j u c=>⟨b,0,rfl,?_⟩⟩,rfl,fun i x l' hx hl=>?_⟩
 ·haveI:At [v] j u:=⟨c⟩
  rw[Nat.zero_add]
  exact inferInstance
 cases i with
 |zero=>simp at hx hl;subst hx;subst hl;exact Ai.right a
 |succ i=>simp at hx
theorem Tq(h:Th)(s:TS)(l:List Av)(v:Value)(B F:Ab)(w:World)(b:A1 B v l)(hs:Sat (Ad h s*(B*F)) w)(hl:l.length≤65536)(hm:Bk l=false):
 Calls Tryz.prog 23 #[.pointer (some ⟨h.t,0,none⟩),v] w (ZL h (B*F) (DM l s) (fun z=>Oo z 0) (fun e=>Oo 0 e)):=by
 obtain ⟨j,c0,rfl,f,g⟩:=b.v
 have d:DM l s= .fault 1 s:=by unfold DM;rw[if_pos hm]
 rw[d]
 have a:=fun F w q=>Gt l _ B F w b q (by omega)
 rw[hm] at a
 have c:=hs.eq (by ac_rfl)
 haveI:=c.i
 clear d b hs c
 go_enter_defers Tryz.func23,Tryz.ntmps23
 go_wp2_with fail
 with_reducible refine Dz (a _ _ (Ae B)) fun m k _=>?_
 go_wp2
 simp[bodyPostD,Leaves,settle,results,Tryz.results23,go_sem]
 exact ⟨rfl,AD _ _ _⟩
theorem Ox(h:Th)(s:TS)(l:List Av)(v:Value)(B F:Ab)(w:World)(m:A1 B v l)(hs:Sat (Ad h s*(B*F)) w)(hl:l.length≤65536)(hm:Bk l=true)(hb:DM l s≠ .bad):
 Calls Tryz.prog 23 #[.pointer (some ⟨h.t,0,none⟩),v] w (ZL h (B*F) (DM l s) (fun z=>Oo z 0) (fun a=>Oo 0 a)):=by
 have au: ∀(fn:Fn)(first cap:Array Value)(w:World),(Instr.makeFunc fn first cap).run Tryz.prog w= .ok (.func fn first cap) w:=fun _ _ _ _=>rfl
 obtain ⟨U,c0,rfl,an,ao⟩:=m.v
 obtain ⟨R,r⟩:=Aq (DM l s)
 rw[r] at hb⊢
 have HB:=As hb
 unfold DM at r
 rw[if_neg (by rw[hm];simp)] at r
 have y:=fun F w q=>Gt l _ B F w m q (by omega)
 rw[hm] at y
 have HM:Aside ((∀x∈l,Ah x=true)∧Aa l≤1048576):=by
  rw[EG] at hm
  simp only[Bool.and_eq_true,List.all_eq_true,decide_eq_true_eq] at hm
  exact hm
 have g:=fun b F w q=>L0 [l] (.slice (some ⟨b,0,none⟩) 1 1) (Sl.block b PT [.slice U l.length c0]*B) F w (JD b m) q (by simp) (by simp;omega) (by simpa using HM.out.1) (by have:=HM.out.2;simp;omega)
 have ef:([l]:List (List Av)).flatten=l:=by simp
 rw[ef] at g
 have H:=OO l
 obtain ⟨d,I⟩:=Aq (join l)
 rw[I] at g r H
 obtain ⟨j,Q⟩:=Aq d.length
 rw[Q] at H r
 have k:=As Q
 have Y:=As r
 have a3:=QS h s
 have h2:=hs.eq (by ac_rfl)
 haveI:=h2.i
 clear m hs h2 r hb hm I ef
 go_enter_defers Tryz.func23,Tryz.ntmps23
 go_wp2_with fail
 with_reducible refine Dz (y _ _ (Ae B)) fun w2 q2 _=>?_
 go_wp2_with fail
 obtain ⟨N,Z⟩:=Aq w.heap.size
 obtain ⟨N2,o⟩:=Aq w2.heap.size
 have q3:Sat ((Sl.block N2 PT [.slice U l.length c0]*B)*(Sl.block (N+1) Fw [.int .i64 0]*(Sl.block N PW [.int .i64 0]*(Ad h s*F)))) (w2.alloc (.cells #[.slice U l.length c0] PT)):=by
  rw[←Z,←o]
  exact Ap (by ac_rfl)
 rw[o,Z]
 clear o Z q2 this y
 with_reducible refine Calls.mono (g _ _ _ q3) ?_
 rintro e w3 ⟨D,G,rfl,q4⟩
 rw[k.out] at q4⊢
 have q5:Sat (Ad h s*(rw AK 4 (.slice D j G) (AQ d)*(Sl.block (N+1) Fw [.int .i64 0]*(Sl.block N PW [.int .i64 0]*(B*F))))) w3:=Sat.Dx (B:=Sl.block N2 PT [.slice U l.length c0]) (q4.eq (by ac_rfl))
 haveI:=q5.i
 clear g q3 q4
 by_cases J:1024<j
 · have c:R= .fault 11 s:=by have:=Y.out;rw[if_pos J] at this;exact this.symm
   subst c
   have K:(1024:Int)<j:=by omega
   go_wp2
   simp[bodyPostD,Leaves,settle,results,Tryz.results23,go_sem]
   exact ⟨rfl,AD _ _ _⟩
 have K: ¬(1024:Int)<j:=by omega
 have u:after s.sp.taken.length (Ja An d s)=R:=by have:=Y.out;rwa [if_neg J] at this
 have m:A1 (rw AK 4 (.slice D j G) (AQ d)) (.slice D j G) d:=by
  have:=Ai.rw (F:=Sl.block (N+1) Fw [.int .i64 0]*(Sl.block N PW [.int .i64 0]*(B*F*Ad h s))) (q5.eq (by ac_rfl)) ⟨D,G,rfl⟩ (n:=j)
  rw[←k.out] at this⊢
  exact this
 obtain ⟨x,hx⟩:=Aq (Cs An d s)
 have O:x≠ .bad:=fun e=>HB.out (by
  rw[←u]
  unfold Ja M.bind
  rw[hx,e]
  rfl)
 have L:=fun F w q=>I5 h s d _ (rw AK 4 (.slice D j G) (AQ d)) F w m q (by rw[k.out];omega) (by rw[hx];exact O)
 rw[hx] at L
 have a2: ∀a s3,x= .fault a s3→s.sp.taken.length≤s3.sp.taken.length:=fun a s3 e=>(Aj.fault (E3 BM SQ d) (hx.trans e)).len
 have HX:Aside (after s.sp.taken.length (M.bind (fun _=>x) (fun t=>M.pure t.ER.Au) s)=R):=(by rw[←u];unfold Ja M.bind;rw[hx]:_=_)
 clear m u hx Y
 go_wp2_with fail
 with_reducible refine Dz (a3 _ _ (Ae (Ad h s))) fun w4 q6 _=>?_
 clear q5
 go_wp2_with fail
 with_reducible refine Calls.mono (L _ _ (Bh (Ad h s) (rw AK 4 (.slice D j G) (AQ d)))) ?_
 rintro e w5 h5
 cases x with
 |bad=>exact absurd rfl O
 | fault a s3 =>
   obtain ⟨rfl,V⟩:=h5
   have hg:=a2 a s3 rfl
   have c:R= .fault a (if a=0 then s3 else s3.Jc s.sp.taken.length):=HX.out.symm
   subst c
   show bodyPostD _ _ _ (.panic (CM a)) _ w5
   haveI:=V.i
   refine leaves_cons (f:=83) (args:= #[.pointer (some ⟨N,0,none⟩),.pointer (some ⟨N+1,0,none⟩)]) (by simp) (by simp[go_sem]) ?_
   refine (PY N (N+1) a _ _ _ w5 (Bh (Sl.block N PW [.int .i64 0]) (Sl.block (N+1) Fw [.int .i64 0]))).mono ?_
   rintro e W X ⟨rfl,rfl,q8⟩
   haveI:=q8.i
   show Leaves _ _ _ _ _ .returning X
   refine leaves_cons (f:=81) (args:= #[.pointer (some ⟨h.t,0,none⟩),.int .i64 s.sp.taken.length,.pointer (some ⟨N+1,0,none⟩)]) (by simp) (by simp[go_sem]) ?_
   by_cases he:a=0
   ·subst he
    rw[if_pos rfl]
    refine (PJ _ _ (N+1) _ _ X (Ae (Sl.block (N+1) Fw [.int .i64 0]))).mono ?_
    rintro e W w7 ⟨rfl,rfl,T⟩
    haveI:=T.i
    simp[Leaves,settle,results,Tryz.results23,go_sem]
    exact ⟨rfl,AD _ _ _⟩
   rw[if_neg he]
   refine (Vu h s3 s.sp.taken.length (N+1) a _ _ X he hg (Bh (Ad h s3) (Sl.block (N+1) Fw [.int .i64 a]))).mono ?_
   rintro e W w7 ⟨rfl,rfl,T⟩
   haveI:=T.i
   simp[Leaves,settle,results,Tryz.results23,go_sem]
   exact ⟨rfl,AD _ _ _⟩
 | ok t s3 =>
   obtain ⟨v3,G3,rfl,⟨rfl,rfl⟩,V⟩:=h5
   rw[Ay] at V
   have c:R= .ok t.ER.Au s3:=HX.out.symm
   subst c
   obtain ⟨⟨t1,t2,t3,t4⟩,th⟩:=t
   unfold Bi
   haveI:=V.i
   have ap:=Y4 t1 t2 t3 t4 th
   have aq:=VW t1 t2 t3 t4
   go_wp2
   refine leaves_cons (f:=83) (args:= #[.pointer (some ⟨N,0,none⟩),.pointer (some ⟨N+1,0,none⟩)]) (by simp) (by simp[go_sem]) ?_
   refine (To _ _ _).mono ?_
   rintro e W X ⟨rfl,rfl,rfl⟩
   show Leaves _ _ _ _ _ .returning _
   refine leaves_cons (f:=81) (args:= #[.pointer (some ⟨h.t,0,none⟩),.int .i64 s.sp.taken.length,.pointer (some ⟨N+1,0,none⟩)]) (by simp) (by simp[go_sem]) ?_
   refine (PJ _ _ (N+1) _ _ _ (Ae (Sl.block (N+1) Fw [.int .i64 0]))).mono ?_
   rintro e W w7 ⟨rfl,rfl,T⟩
   haveI:=T.i
   simp[Leaves,settle,results,Tryz.results23,go_sem]
   exact ⟨rfl,AD _ _ _⟩
theorem Yx(h:Th)(s:TS)(l:List Av)(v:Value)(B F:Ab)(w:World)(a:A1 B v l)(hs:Sat (Ad h s*(B*F)) w)(hl:l.length≤65536)(hb:DM l s≠ .bad):
 Calls Tryz.prog 23 #[.pointer (some ⟨h.t,0,none⟩),v] w (ZL h (B*F) (DM l s) (fun z=>Oo z 0) (fun b=>Oo 0 b)):=by
 cases hm:Bk l with
 |false=>exact Tq h s l v B F w a hs hl hm
 |true=>exact Ox h s l v B F w a hs hl hm hb
