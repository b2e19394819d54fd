/- censusPages holds for every input. No condition. (part 34) -/
import Derived.Test.YtfhbmblbidcmmaaGreatVa32
set_option linter.all false
set_option maxRecDepth 100000
set_option maxHeartbeats 3200000
namespace Go.Tr
theorem WN(l:List Ar)(y:Ar)(n r:Int):CH (l++ [y]) n r=((CH l n r).1-y.len,if 0<(CH l n r).1 then (CH l n r).2+1 else (CH l n r).2):=by
 induction l generalizing n r with
 |nil=>simp only[List.nil_append,CH];rfl
 |cons a l b=>simp only[List.cons_append,CH];rw[b];rfl
theorem UT(l:List Ar)(n r:Int)(h: ∀y∈l,1≤y.len∧y.len≤1048576):(CH l n r).1≤n∧n-1048576*l.length≤(CH l n r).1∧r≤(CH l n r).2∧(CH l n r).2≤r+l.length:=by
 induction l generalizing n r with
 |nil=>simp[CH]
 | cons a l b =>
  have ha:=h a (List.mem_cons_self ..)
  have hi:=b (n-a.len) (if 0<n then r+1 else r) fun y hy=>h y (List.mem_cons_of_mem _ hy)
  simp only[CH,List.length_cons]
  have:((l.length+1:Nat):Int)=l.length+1:=by omega
  rw[this]
  split at hi<;>rename_i h0
  ·rw[if_pos h0];omega
  rw[if_neg h0];omega
theorem ZF(l:List Kd)(n r:Int)(M:Int)(d:0≤M)(h: ∀k∈l,0≤k.A7∧k.A7≤M):match FI l n r with
 | .inr b=>r≤b∧b≤r+M*l.length
 | .inl (k,_,b)=>k∈l∧r≤b∧b≤r+M*l.length:=by
 induction l generalizing n r with
 |nil=>simp[FI]
 | cons a l f =>
  have ha:=h a (List.mem_cons_self ..)
  have hi:=f (n-a.bytes) (r+a.A7) fun y hy=>h y (List.mem_cons_of_mem _ hy)
  have e:M*((l.length+1:Nat):Int)=M*l.length+M:=by
   have:((l.length+1:Nat):Int)=l.length+1:=by omega
   rw[this,Int.mul_add,Int.mul_one]
  have h0:0≤M*(l.length:Int):=Int.mul_nonneg d (by omega)
  simp only[FI,List.length_cons]
  rw[e]
  by_cases c:n<a.bytes
  · rw[if_pos c]
    exact ⟨List.mem_cons_self ..,by omega,by omega⟩
  rw[if_neg c]
  revert hi
  cases FI l (n-a.bytes) (r+a.A7) with
  |inr b=>intro hi;simp only at hi⊢;omega
  |inl p=>obtain ⟨k,m,b⟩:=p;intro hi;simp only at hi⊢;exact ⟨List.mem_cons_of_mem _ hi.1,by omega,by omega⟩
end Go.Tr
namespace Go.Proofs.YtfhbmblbidcmmaaGreat
open Go.Tr
theorem IC{σ:Type}{rd:Int→M σ Nd}(c: ∀p s n s',rd p s= .ok n s'→may n=true)(T:Int)(g:12582924≤T): ∀(f:Nat)(x:BJ)(n:Int)(s:σ)(z:Int)(s':σ),0≤x.E8.A7→x.E8.A7≤T→CI rd f x n s= .ok z s'→0≤z∧z≤T*(f+1:Nat)
 | f, x, n, s, z, s', h1, i, h => by
  have l:T≤T*((f+1:Nat):Int):=by
   have e:((f+1:Nat):Int)=f+1:=by omega
   rw[e,Int.mul_add,Int.mul_one]
   have:0≤T*(f:Int):=Int.mul_nonneg (by omega) (by omega)
   omega
  unfold CI at h
  by_cases c1:n≤0∨x.Am<0
  · rw[if_pos c1] at h;cases h;omega
  rw[if_neg c1] at h
  by_cases c2:x.E8.bytes≤n
  · rw[if_pos c2] at h;cases h;omega
  rw[if_neg c2] at h
  cases f with
  |zero=>cases h
  | succ f =>
    obtain ⟨y,s1,hy,h⟩:=A1 h
    have hm:=c _ _ _ _ hy
    obtain ⟨l1,l2⟩:=Cm hm
    obtain ⟨m1,d⟩:=Dx hm
    have j:=UT y.Ag n 0 fun x hx=>by
     have:=(m1 x hx).2
     unfold Ai at this
     simp only[decide_eq_true_eq] at this
     omega
    have a:=ZF y.kids (CH y.Ag n 0).1 (CH y.Ag n 0).2 1048576 (by omega) fun k a=>by
     have:=(d k a).2
     unfold AB at this
     simp only[decide_eq_true_eq] at this
     omega
    revert h a
    cases FI y.kids (CH y.Ag n 0).1 (CH y.Ag n 0).2 with
    |inr r=>intro h a;cases h;simp only at a;omega
    | inl p =>
      obtain ⟨k,m,r⟩:=p
      intro h a
      obtain ⟨q,s2,hq,h⟩:=A1 h
      cases h
      simp only at a
      have b:=(d k a.1).2
      unfold AB at b
      simp only[decide_eq_true_eq] at b
      have:=IC c T g f ⟨k,x.Am-1⟩ m s1 q _ (by simp only;omega) (by simp only;omega) hq
      have e:((f+1+1:Nat):Int)=(f+1:Nat)+1:=by omega
      rw[e,Int.mul_add,Int.mul_one]
      omega
open Go.Dk Go.RowKit Go.Sl
def eC(z:Int)(v:Value)(B:Ab):Prop:=v= .int .i64 z∧B=1
def Yn(f:Nat)(a:Int):(Kd×Int×Int) ⊕ Int→M TS Int
 | .inr r=>M.pure r
 | .inl (k,m,r)=>M.bind (CI Ah f ⟨k,a-1⟩ m) fun z=>M.pure (r+z)
def S'(f:Nat):Prop:= ∀(h:Th)(s:TS)(x:BJ)(n:Int)(F:Ab)(w:World),Sat (Ad h s*F) w→ -1≤x.Am→x.Am≤1000→0≤x.E8.A7→x.E8.A7≤16777216→n≤1099511627776→f≤1000→CI Ah f x n s≠ .bad→
 Calls Tryz.prog 97 #[.pointer (some ⟨h.t,0,none⟩),Bj x,.int .i64 n] w (DT h F (CI Ah f x n s) eC)
theorem UY(f:Nat)(h:Th)(s:TS)(x:BJ)(n:Int)(F:Ab)(w:World)(hs:Sat (Ad h s*F) w)(b:n≤0∨x.Am<0):
 Calls Tryz.prog 97 #[.pointer (some ⟨h.t,0,none⟩),Bj x,.int .i64 n] w (DT h F (CI Ah f x n s) eC):=by
 have a:CI Ah f x n s= .ok 0 s:=by unfold CI;rw[if_pos b];rfl
 rw[a]
 clear a
 obtain ⟨⟨e,g,j,k⟩,c⟩:=x
 simp only at b
 unfold Bj
 simp only
 haveI:=hs.i
 by_cases h1:n≤0
 ·clear b
  go_enter Tryz.func97,Tryz.ntmps97
  go_wp2
  go_returns
  exact ⟨_,1,rfl,⟨rfl,rfl⟩,by rw[Aw];exact Ao _ _⟩
 have d:c<0:=by omega
 clear b
 go_enter Tryz.func97,Tryz.ntmps97
 go_wp2
 go_returns
 exact ⟨_,1,rfl,⟨rfl,rfl⟩,by rw[Aw];exact Ao _ _⟩
theorem Rv(f:Nat)(h:Th)(s:TS)(x:BJ)(n:Int)(F:Ab)(w:World)(hs:Sat (Ad h s*F) w)(h1:0<n)(c:0≤x.Am)(b:x.E8.bytes≤n):
 Calls Tryz.prog 97 #[.pointer (some ⟨h.t,0,none⟩),Bj x,.int .i64 n] w (DT h F (CI Ah f x n s) eC):=by
 have a:CI Ah f x n s= .ok x.E8.A7 s:=by unfold CI;rw[if_neg (by omega),if_pos b];rfl
 rw[a]
 clear a
 obtain ⟨⟨j,k,l,m⟩,d⟩:=x
 simp only at c b
 unfold Bj
 simp only
 have e: ¬n≤0:=by omega
 have g: ¬d<0:=by omega
 haveI:=hs.i
 go_enter Tryz.func97,Tryz.ntmps97
 go_wp2
 go_returns
 exact ⟨_,1,rfl,⟨rfl,rfl⟩,by rw[Aw];exact Ao _ _⟩
theorem fX(f:Nat)(ih:S' f)(h:Th)(s:TS)(x:BJ)(n:Int)(F:Ab)(w:World)(hs:Sat (Ad h s*F) w)(h1:0<n)(h2:0≤x.Am)(au:x.Am≤1000)(h3: ¬x.E8.bytes≤n)(c4:n≤1099511627776)(hf:f≤999)(hb:CI Ah (f+1) x n s≠ .bad):
 Calls Tryz.prog 97 #[.pointer (some ⟨h.t,0,none⟩),Bj x,.int .i64 n] w (DT h F (CI Ah (f+1) x n s) eC):=by
 obtain ⟨R,hR⟩:=Aq (CI Ah (f+1) x n s)
 rw[hR] at hb⊢
 have HB:=Ek hb
 have HI:=Ek ih
 unfold CI at hR
 rw[if_neg (by omega),if_neg h3] at hR
 have HR:Aside (M.bind (Ah x.E8.Ap) (fun y=>match FI y.kids (CH y.Ag n 0).1 (CH y.Ag n 0).2 with
  | .inr r=>M.pure r
  | .inl (k,m,r)=>M.bind (CI Ah f ⟨k,x.Am-1⟩ m) fun z=>M.pure (r+z)) s=R):=hR
 clear hR hb ih
 obtain ⟨⟨x1,x2,x3,x4⟩,D⟩:=x
 simp only at h2 au h3 HR
 unfold Bj
 simp only
 obtain ⟨m,hm⟩:=Aq (Ah x1 s)
 have H:=Bi HR.out HB.out
 have T:=fun F w q n=>Cw h s x1 F w q n
 rw[hm] at H T
 have K:=Ek hm
 have g1: ¬n≤0:=by omega
 have g2: ¬D<0:=by omega
 clear hm
 haveI:=hs.i
 go_enter Tryz.func97,Tryz.ntmps97
 go_wp2_with fail
 with_reducible refine Calls.mono (T _ _ (Ae (Ad h s)) H) ?_
 rintro e w2 h4
 cases m with
 |bad=>exact absurd rfl H
 | fault er s2 =>
   obtain ⟨rfl,q2⟩:=h4
   haveI:=q2.i
   have o:=B4 HR.out K.out
   subst o
   exact ⟨rfl,rfl,Ao _ _⟩
 | ok y s2 =>
   obtain ⟨v2,X,rfl,⟨hN,O⟩,q2⟩:=h4
   have L:=Be HR.out K.out
   clear T H HR K
   obtain ⟨se,sk,rfl,hE,hK⟩:=hN
   obtain ⟨a1,c1,rfl,a6,bl⟩:=hE.v
   obtain ⟨a2,c2,rfl,a7,bm⟩:=Aj.v hK
   obtain ⟨ac,ad⟩:=Cm O
   have Y:=Ek O
   obtain ⟨lf,es,ks⟩:=y
   simp only at hE hK ac ad a6 a7 L⊢
   obtain ⟨ne,P⟩:=Aq es.length
   obtain ⟨u,Q⟩:=Aq ks.length
   have HE:Aside (Au X (.slice a1 es.length c1) es∧es.length=ne):=⟨hE,P⟩
   have HK:Aside (AS X (.slice a2 ks.length c2) ks∧ks.length=u):=⟨hK,Q⟩
   rw[P] at ac a6⊢
   rw[Q] at ad a7⊢
   haveI:=q2.i
   clear hE hK O P Q
   have HP:=Ek L
   clear L
   go_wp2_with fail
   have q4:Sat (Ad h s2*(X*(Sl.block w2.heap.size C1 [.bool lf,.slice a1 ne c1,.slice a2 u c2]*(Sl.block w.heap.size DH [.int .i64 x1,.int .i64 x2,.int .i64 x3,.int .i64 x4,.int .i64 D]*F)))) (w2.alloc (.cells #[.bool lf,.slice a1 ne c1,.slice a2 u c2] C1)):=Av (by ac_rfl)
   obtain ⟨N4,a8⟩:=Aq w.heap.size
   obtain ⟨N7,a9⟩:=Aq w2.heap.size
   rw[a8,a9] at q4⊢
   clear a8 a9 q2 hs this
   go_loopg [2,8,36] ne (fun g t2 t8 b4 wr=> ∃(i:Nat)(a d:Int),b4= .int .i64 i∧t2= .int .i64 a∧t8= .int .i64 d∧i≤ne∧a≤1099511627776∧ -1048576*(i:Int)≤a∧0≤d∧d≤i∧Aside (g=ne-i∧CH (es.take i) n 0=(a,d))∧
    Sat (Ad h s2*(X*(Sl.block N7 C1 [.bool lf,.slice a1 ne c1,.slice a2 u c2]*(Sl.block N4 DH [.int .i64 x1,.int .i64 x2,.int .i64 x3,.int .i64 x4,.int .i64 D]*F)))) wr)
   case atStart=>exact ⟨0,n,0,rfl,rfl,rfl,by omega,by omega,by omega,by omega,by omega,⟨rfl,rfl⟩,q4⟩
   obtain ⟨i,a,d,rfl,rfl,rfl,hi,bp,bq,br,bs,A,U⟩:=hrel
   clear q4
   haveI:=U.i
   by_cases bx:i<ne
   · have af:(i:Int)<ne:=by omega
     obtain ⟨y,hy⟩: ∃y,es[i]?=some y:=⟨_,List.getElem?_eq_getElem (by have:=HE.out.2;omega)⟩
     obtain ⟨b,q,rfl,r1,r2,r3,r4⟩:=BN HE.out.1 hy
     have I:=((Dx Y.out).1 y (List.mem_of_getElem? hy)).2
     have B:Aside (CH (es.take (i+1)) n 0=(a-y.len,if 0<a then d+1 else d)):=(by rw[AA hy,WN,A.out.2]:_=_)
     unfold Ai at I
     simp only[decide_eq_true_eq] at I
     obtain ⟨y1,y2,y3,y4⟩:=y
     simp only at I r1 r2 r3 r4 B
     have hy1:1≤y3:=by omega
     have hy2:y3≤1048576:=by omega
     have hw1:=Bg (d+1) (by omega)
     have hw2:=Bg (a-y3) (by omega)
     clear I hy
     by_cases hp:0<a
     · rw[if_pos hp] at B
       go_wp2
       go_roundg (ne-(i+1))
       case measure=>have:=A.out.1;omega
       case rel=>exact ⟨i+1,a-y3,d+1,by go_num,rfl,rfl,by omega,by omega,by omega,by omega,by omega,⟨rfl,B.out⟩,DE _ _ _ _ _⟩
     rw[if_neg hp] at B
     go_wp2
     go_roundg (ne-(i+1))
     case measure=>have:=A.out.1;omega
     case rel=>exact ⟨i+1,a-y3,d,by go_num,rfl,rfl,by omega,by omega,by omega,by omega,by omega,⟨rfl,B.out⟩,DE _ _ _ _ _⟩
   have af: ¬(i:Int)<ne:=by omega
   obtain rfl:i=ne:=by omega
   have l:=A.out.2
   rw[List.take_of_length_le (by rw[HE.out.2];exact Nat.le_refl _)] at l
   have Z:Aside (Yn f D (FI ks a d) s2=R):=(by have:=HP.out;rw[l] at this;exact this:_=_)
   clear l HP A
   go_wp2_with fail
   go_loopg [2,8,53] u (fun g t2 t8 b5 wr=> ∃(j:Nat)(a d:Int),b5= .int .i64 j∧t2= .int .i64 a∧t8= .int .i64 d∧j≤u∧a≤1099511627776∧ -12582912≤a∧0≤d∧d≤12+1048576*(j:Int)∧Aside (g=u-j∧Yn f D (FI (ks.drop j) a d) s2=R)∧
    Sat (Ad h s2*(X*(Sl.block N7 C1 [.bool lf,.slice a1 i c1,.slice a2 u c2]*(Sl.block N4 DH [.int .i64 x1,.int .i64 x2,.int .i64 x3,.int .i64 x4,.int .i64 D]*F)))) wr)
   case atStart=>exact ⟨0,a,d,rfl,rfl,rfl,by omega,by omega,by omega,by omega,by omega,⟨rfl,Z.out⟩,U⟩
   obtain ⟨j,W,kj,rfl,rfl,rfl,bo,av,bz,c0,c3,A,ag⟩:=hrel
   clear U Z this
   haveI:=ag.i
   by_cases bw:j<u
   · have ae:(j:Int)<u:=by omega
     obtain ⟨k,hk⟩: ∃k,ks[j]?=some k:=⟨_,List.getElem?_eq_getElem (by have:=HK.out.2;omega)⟩
     obtain ⟨b,q,rfl,r1,r2,r3,r4⟩:=Co HK.out.1 hk
     have G:=((Dx Y.out).2 k (List.mem_of_getElem? hk)).2
     have hd:ks.drop j=k::ks.drop (j+1):=by
      obtain ⟨u1,u2⟩:=List.getElem?_eq_some_iff.1 hk
      rw[List.drop_eq_getElem_cons u1,u2]
     have l:=A.out.2
     rw[hd,FI] at l
     unfold AB at G
     simp only[decide_eq_true_eq] at G
     obtain ⟨k1,J,k3,V⟩:=k
     simp only at G r1 r2 r3 r4 l
     have XO:1≤J:=by omega
     have bt:J≤1048576:=by omega
     have bu:1≤V:=by omega
     have bv:V≤1048576:=by omega
     have HA:=Ek A.out.1
     clear G hk hd A
     by_cases hp:W<J
     · rw[if_pos hp] at l
       have B:=Ek l
       obtain ⟨m,hm⟩:=Aq (CI Ah f ⟨⟨k1,J,k3,V⟩,D-1⟩ W s2)
       have H:=Bi B.out HB.out
       have c:=fun F w q n=>HI.out h s2 ⟨⟨k1,J,k3,V⟩,D-1⟩ W F w q (by simp only;omega) (by simp only;omega) (by simp only;omega) (by simp only;omega) av (by omega) n
       have HZ:Aside (∀z s',m= .ok z s'→0≤z∧z≤16777216*((f+1:Nat):Int)):=fun z s' e=>IC (fun p s n s' h=>Et h) 16777216 (by omega) f ⟨⟨k1,J,k3,V⟩,D-1⟩ W s2 z s' (by simp only;omega) (by simp only;omega) (hm.trans e)
       rw[hm] at H c
       have K:=Ek hm
       unfold Bj at c
       simp only at c
       have hw3:=Bg (D-1) (by omega)
       clear hm l
       go_wp2_with fail
       with_reducible refine Calls.mono (c _ _ (Ae (Ad h s2)) H) ?_
       rintro e w4 h4
       cases m with
       |bad=>exact absurd rfl H
       | fault er s3 =>
        obtain ⟨rfl,q5⟩:=h4
        haveI:=q5.i
        have o:=B4 B.out K.out
        subst o
        exact ⟨rfl,rfl,Ao _ _⟩
       | ok z s3 =>
        obtain ⟨v5,B5,rfl,⟨rfl,rfl⟩,q5⟩:=h4
        rw[Aw] at q5
        obtain ⟨z1,z2⟩:=HZ.out z s3 rfl
        have hw4:=Bg (kj+z) (by omega)
        have ab:=Be B.out K.out
        have o:=ab.symm
        subst o
        haveI:=q5.i
        clear c H B K HZ HB HI ab z1 z2
        go_wp2
        go_returns
        exact ⟨_,1,rfl,⟨rfl,rfl⟩,by rw[Aw];exact Ao _ _⟩
     rw[if_neg hp] at l
     have B:=Ek l
     have hw1:=Bg (kj+V) (by omega)
     have hw2:=Bg (W-J) (by omega)
     clear l
     go_wp2_with fail
     go_quiet (fail)
     go_wp2
     go_roundg (u-(j+1))
     case measure=>have:=HA.out;omega
     case rel=>exact ⟨j+1,W-J,kj+V,by go_num,rfl,rfl,by omega,by omega,by omega,by omega,by omega,⟨rfl,B.out⟩,DE _ _ _ _ _⟩
   have ae: ¬(j:Int)<u:=by omega
   obtain rfl:j=u:=by omega
   have l:=A.out.2
   rw[List.drop_of_length_le (by rw[HK.out.2];exact Nat.le_refl _)] at l
   have o:=l.symm
   subst o
   clear l A HB HI
   go_wp2
   go_returns
   exact ⟨_,1,rfl,⟨rfl,rfl⟩,by rw[Aw];exact Ao _ _⟩
theorem UX(f:Nat):S' f:=by induction f with
 | zero =>
  intro h s x n F w hs h1 c e g d i hb
  by_cases b:n≤0∨x.Am<0
  ·exact UY 0 h s x n F w hs b
  by_cases a:x.E8.bytes≤n
  ·exact Rv 0 h s x n F w hs (by omega) (by omega) a
  exact absurd (by unfold CI;rw[if_neg b,if_neg a];rfl) hb
 | succ f j =>
  intro h s x n F w hs h1 c e g d i hb
  by_cases b:n≤0∨x.Am<0
  ·exact UY (f+1) h s x n F w hs b
  by_cases a:x.E8.bytes≤n
  ·exact Rv (f+1) h s x n F w hs (by omega) (by omega) a
  exact fX f j h s x n F w hs (by omega) (by omega) c a d (by omega) hb
def kZ(z:Ar×Int)(v:Value)(B:Ab):Prop:=v= .tuple #[.agg #[.int .i64 z.1.src,.int .i64 z.1.pos,.int .i64 z.1.len,.int .i64 z.1.lines],.int .i64 z.2]∧B=1
def PF(f:Nat)(n:Int):kM→M TS (Ar×Int)
 | .here x a=>M.pure (x,a)
 | .Z6=>M.fail 13
 | .below p a=>M.bind (Ah p) fun m=>Eg Ah f m n a
def y'(ks:List Kd)(n:Int):kM ⊕ Int→kM
 | .inl h=>h
 | .inr a=>M0 ks n a
theorem Vo(f:Nat)(m:Nd)(n a:Int)(s:TS):Eg Ah (f+1) m n a s=PF f n (y' m.kids n (KG m.Ag n a)) s:=by rfl
theorem Vp(h : Th)(s : TS)(root n : Int)(F : Ab)(w : World)(hs : Sat (Ad h s * F) w)(hb : K0 Ah root n s ≠ .bad) :
 Calls Tryz.prog 94 #[.pointer (some ⟨h.t,0,none⟩),.int .i64 root,.int .i64 n] w (DT h F (K0 Ah root n s) kZ):=by
 obtain ⟨R,hR⟩:=Aq (K0 Ah root n s)
 rw[hR] at hb⊢
 have Z:=Ek hb
 unfold K0 at hR
 have HR:=Ek hR
 clear hR hb
 obtain ⟨m,hm⟩:=Aq (Ah root s)
 have K:=Bi HR.out Z.out
 have d:=fun F w q n=>Cw h s root F w q n
 rw[hm] at K d
 have T:=Ek hm
 clear hm
 haveI:=hs.i
 go_enter Tryz.func94,Tryz.ntmps94
 go_wp2_with fail
 go_step3
 go_wp2_with fail
 with_reducible refine Calls.mono (d _ _ (Ae (Ad h s)) K) ?_
 rintro e w2 h4
 cases m with
 |bad=>exact absurd rfl K
 | fault er s2 =>
  obtain ⟨rfl,q2⟩:=h4
  haveI:=q2.i
  have c:=B4 HR.out T.out
  subst c
  exact ⟨rfl,rfl,Ao _ _⟩
 | ok y s2 =>
  obtain ⟨v2,B2,rfl,⟨hN,af⟩,q2⟩:=h4
  have a9:=Be HR.out T.out
  have HG:=Ek a9
  clear d K HR T a9
  obtain ⟨se,sk,rfl,B,D⟩:=hN
  obtain ⟨u,c1,rfl,b2,b3⟩:=B.v
  obtain ⟨z,c2,rfl,b4,b5⟩:=Aj.v D
  have HN:Aside (may y=true∧AJ B2 (.agg #[.bool y.leaf,.slice u y.Ag.length c1,.slice z y.kids.length c2]) y):=⟨af,_,_,rfl,B,D⟩
  haveI:=q2.i
  clear B D af
  go_wp2_with fail
  go_step3
  go_wp2_with fail
  have q4:Sat (Ad h s2*(B2*(Sl.block w2.heap.size C1 [.bool y.leaf,.slice u y.Ag.length c1,.slice z y.kids.length c2]*(Sl.block w.heap.size AG [.int .i64 0,.int .i64 0,.int .i64 0,.int .i64 0]*F)))) (w2.alloc (.cells #[.bool y.leaf,.slice u y.Ag.length c1,.slice z y.kids.length c2] C1)):=Av (by ac_rfl)
  obtain ⟨N6,a4⟩:=Aq w.heap.size
  obtain ⟨N9,a5⟩:=Aq w2.heap.size
  rw[a4,a5] at q4⊢
  clear a4 a5 q2 hs this
  go_loopg [8,17] 22 (fun g t8 bc wr=> ∃(i f:Nat)(m:Nd)(X:Int)(u:Option Addr)(c1:Nat)(z:Option Addr)(c2:Nat)(G:Ab)(s':TS),t8= .int .i64 X∧bc= .int .i64 i∧i+f=22∧0≤X∧X≤25165824*(i:Int)∧Aside (g=f∧Eg Ah f m n X s'=R)∧Aside (may m=true∧AJ G (.agg #[.bool m.leaf,.slice u m.Ag.length c1,.slice z m.kids.length c2]) m)∧
   Sat (Ad h s'*(G*(Sl.block N9 C1 [.bool m.leaf,.slice u m.Ag.length c1,.slice z m.kids.length c2]*(Sl.block N6 AG [.int .i64 0,.int .i64 0,.int .i64 0,.int .i64 0]*F)))) wr)
  case atStart=>exact ⟨0,22,y,0,u,c1,z,c2,B2,s2,rfl,rfl,by omega,by omega,by omega,⟨rfl,HG.out⟩,HN.out,q4⟩
  obtain ⟨i,f,m,X,u,c1,z,c2,G,s',rfl,rfl,bu,bs,bt,A,I,l⟩:=hrel
  clear q4 HN HG
  cases f with
  | zero =>
    have c:=A.out.2.symm
    subst c
    obtain rfl:i=22:=by omega
    haveI:=l.i
    clear A I Z
    go_wp2_with fail
    exact ⟨rfl,rfl,Ao _ _⟩
  | succ f =>
    have bn:(i:Int)<22:=by omega
    have a:=A.out.2
    rw[Vo] at a
    have HA:=Ek A.out.1
    obtain ⟨vE,vK,hv,B,D⟩:=I.out.2
    cases hv
    obtain ⟨lf,es,ks⟩:=m
    have U:=Ek I.out.1
    obtain ⟨ab,ac⟩:=Cm U.out
    simp only at B D ab ac a l⊢
    obtain ⟨ne,V⟩:=Aq es.length
    obtain ⟨x,W⟩:=Aq ks.length
    have HE:Aside (Au G (.slice u es.length c1) es∧es.length=ne):=⟨B,V⟩
    have HK:Aside (AS G (.slice z ks.length c2) ks∧ks.length=x):=⟨D,W⟩
    have HP:=Ek a
    rw[V] at ab l
    rw[W] at ac l
    haveI:=l.i
    clear B D V W a A I
    go_wp2_with fail
    go_loopg [8,22] ne (fun g t8 bd wx=> ∃(j:Nat)(p:Int),t8= .int .i64 p∧bd= .int .i64 j∧j≤ne∧0≤p∧p≤25165824*(i:Int)+1048576*(j:Int)∧Aside (g=ne-j∧PF f n (y' ks n (KG (es.drop j) n p)) s'=R)∧
     Sat (Ad h s'*(G*(Sl.block N9 C1 [.bool lf,.slice u ne c1,.slice z x c2]*(Sl.block N6 AG [.int .i64 0,.int .i64 0,.int .i64 0,.int .i64 0]*F)))) wx)
    case atStart=>exact ⟨0,X,rfl,rfl,by omega,by omega,by omega,⟨rfl,HP.out⟩,l⟩
    obtain ⟨j,p,rfl,rfl,hj,bv,bw,A,H⟩:=hrel
    clear l HP this
    haveI:=H.i
    by_cases bz:j<ne
    · have ad:(j:Int)<ne:=by omega
      obtain ⟨y,hy⟩: ∃y,es[j]?=some y:=⟨_,List.getElem?_eq_getElem (by have:=HE.out.2;omega)⟩
      obtain ⟨b,q,rfl,r1,r2,r3,r4⟩:=BN HE.out.1 hy
      have L:=((Dx U.out).1 y (List.mem_of_getElem? hy)).2
      have hd:es.drop j=y::es.drop (j+1):=by
       obtain ⟨u1,u2⟩:=List.getElem?_eq_some_iff.1 hy
       rw[List.drop_eq_getElem_cons u1,u2]
      have a:=A.out.2
      rw[hd,KG] at a
      have Q:=Ek A.out.1
      unfold Ai at L
      simp only[decide_eq_true_eq] at L
      obtain ⟨y1,y2,y3,y4⟩:=y
      simp only at L r1 r2 r3 r4 a
      have hy1:1≤y3:=by omega
      have hy2:y3≤1048576:=by omega
      have hw1:=Bg (p+y3) (by omega)
      clear L hy hd A
      by_cases hp:n<p+y3
      · rw[if_pos hp] at a
        have c:=a.symm
        subst c
        clear a Z
        go_wp2
        try rw[Exit.noGoto_ret]
        go_returns
        exact ⟨_,1,rfl,⟨rfl,rfl⟩,by rw[Aw];exact Ao _ _⟩
      rw[if_neg hp] at a
      have O:=Ek a
      clear a
      go_wp2
      go_roundg (ne-(j+1))
      case measure=>have:=Q.out;omega
      case rel=>exact ⟨j+1,p+y3,rfl,by go_num,by omega,by omega,by omega,⟨rfl,O.out⟩,DE _ _ _ _ _⟩
    have ad: ¬(j:Int)<ne:=by omega
    obtain rfl:j=ne:=by omega
    have a:=A.out.2
    rw[List.drop_of_length_le (by rw[HE.out.2];exact Nat.le_refl _)] at a
    have a0:=Ek a
    clear a A
    go_wp2_with fail
    go_loopg [8,44] x (fun g t8 be wx=> ∃(o:Nat)(p:Int),t8= .int .i64 p∧be= .int .i64 o∧o≤x∧0≤p∧p≤25165824*(i:Int)+12582912+1048576*(o:Int)∧Aside (g=x-o∧PF f n (M0 (ks.drop o) n p) s'=R)∧
     Sat (Ad h s'*(G*(Sl.block N9 C1 [.bool lf,.slice u j c1,.slice z x c2]*(Sl.block N6 AG [.int .i64 0,.int .i64 0,.int .i64 0,.int .i64 0]*F)))) wx)
    case atStart=>exact ⟨0,p,rfl,rfl,by omega,by omega,by omega,⟨rfl,a0.out⟩,H⟩
    obtain ⟨o,bj,rfl,rfl,Y,XO,bx,A,ag⟩:=hrel
    clear H a0 this
    haveI:=ag.i
    by_cases c0:o<x
    · have ae:(o:Int)<x:=by omega
      obtain ⟨k,Y⟩: ∃k,ks[o]?=some k:=⟨_,List.getElem?_eq_getElem (by have:=HK.out.2;omega)⟩
      obtain ⟨b,q,rfl,r1,r2,r3,r4⟩:=Co HK.out.1 Y
      have J:=((Dx U.out).2 k (List.mem_of_getElem? Y)).2
      have hd:ks.drop o=k::ks.drop (o+1):=by
       obtain ⟨u1,u2⟩:=List.getElem?_eq_some_iff.1 Y
       rw[List.drop_eq_getElem_cons u1,u2]
      have a:=A.out.2
      rw[hd,M0] at a
      have Q:=Ek A.out.1
      unfold AB at J
      simp only[decide_eq_true_eq] at J
      obtain ⟨k1,k2,k3,k4⟩:=k
      simp only at J r1 r2 r3 r4 a
      have hy1:1≤k2:=by omega
      have hy2:k2≤1048576:=by omega
      have hw1:=Bg (bj+k2) (by omega)
      clear J hd A
      by_cases hp:n<bj+k2
      · rw[if_pos hp] at a
        have O:=Ek a
        obtain ⟨r,hr⟩:=Aq (Ah k1 s')
        have K:=Bi O.out Z.out
        have d:=fun F w q n=>Cw h s' k1 F w q n
        rw[hr] at K d
        have T:=Ek hr
        clear hr a Y
        go_wp2_with fail
        with_reducible refine Calls.mono (d _ _ (Ae (Ad h s')) K) ?_
        rintro e w4 h4
        cases r with
        |bad=>exact absurd rfl K
        | fault er s3 =>
         obtain ⟨rfl,q5⟩:=h4
         haveI:=q5.i
         have c:=B4 O.out T.out
         subst c
         exact ⟨rfl,rfl,Ao _ _⟩
        | ok M s3 =>
         obtain ⟨v5,B5,rfl,⟨b6,P⟩,q5⟩:=h4
         have aa:=Be O.out T.out
         have ax:=Ek aa
         obtain ⟨se,sk,rfl,B,D⟩:=b6
         obtain ⟨a7,c7,rfl,b2,b3⟩:=B.v
         obtain ⟨a8,c8,rfl,b4,b5⟩:=Aj.v D
         have az:Aside (may M=true∧AJ B5 (.agg #[.bool M.leaf,.slice a7 M.Ag.length c7,.slice a8 M.kids.length c8]) M):=⟨P,_,_,rfl,B,D⟩
         haveI:=q5.i
         clear d K O T aa B D P
         go_wp2_with fail
         go_roundg f
         case measure=>have:=HA.out;omega
         refine ⟨i+1,f,M,bj,a7,c7,a8,c8,B5,s3,rfl,by go_num,by omega,by omega,by omega,⟨rfl,ax.out⟩,az.out,?_⟩
         show Sat (Ad h s3*(B5*(Sl.block N9 C1 ((([.bool lf,.slice u j c1,.slice (some ⟨b,q,none⟩) x c2].set 0 (.bool M.leaf)).set 1 (.slice a7 M.Ag.length c7)).set 2 (.slice a8 M.kids.length c8))*(Sl.block N6 AG [.int .i64 0,.int .i64 0,.int .i64 0,.int .i64 0]*F)))) _
         exact DE _ _ _ _ _
      rw[if_neg hp] at a
      have O:=Ek a
      clear a Y
      go_wp2
      go_roundg (x-(o+1))
      case measure=>have:=Q.out;omega
      case rel=>exact ⟨o+1,bj+k2,rfl,by go_num,by omega,by omega,by omega,⟨rfl,O.out⟩,DE _ _ _ _ _⟩
    have ae: ¬(o:Int)<x:=by omega
    obtain rfl:o=x:=by omega
    have a:=A.out.2
    rw[List.drop_of_length_le (by rw[HK.out.2];exact Nat.le_refl _)] at a
    have c:=a.symm
    subst c
    clear a A Z
    go_wp2_with fail
    exact ⟨rfl,rfl,Ao _ _⟩
