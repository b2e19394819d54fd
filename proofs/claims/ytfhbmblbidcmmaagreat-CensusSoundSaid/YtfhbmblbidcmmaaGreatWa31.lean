/- censusSound holds for every input. No condition. (part 31) -/
import Derived.Test.YtfhbmblbidcmmaaGreatWa29
set_option linter.all false
set_option maxRecDepth 100000
set_option maxHeartbeats 3200000
namespace Go.Tr
theorem WD(l:List Av)(y:Av)(n r:Int):CQ (l++ [y]) n r=((CQ l n r).1-y.len,if 0<(CQ l n r).1 then (CQ l n r).2+1 else (CQ l n r).2):=by
 induction l generalizing n r with
 |nil=>simp only[List.nil_append,CQ];rfl
 |cons a l b=>simp only[List.cons_append,CQ];rw[b];rfl
theorem UJ(l:List Av)(n r:Int)(h: ∀y∈l,1≤y.len∧y.len≤1048576):(CQ l n r).1≤n∧n-1048576*l.length≤(CQ l n r).1∧r≤(CQ l n r).2∧(CQ l n r).2≤r+l.length:=by
 induction l generalizing n r with
 |nil=>simp[CQ]
 | cons a l b =>
  have ha:=h a (List.mem_cons_self ..)
  have hi:=b (n-a.len) (if 0<n then r+1 else r) fun y hy=>h y (List.mem_cons_of_mem _ hy)
  simp only[CQ,List.length_cons]
  have:((l.length+1:Nat):Int)=l.length+1:=by omega
  rw[this]
  split at hi<;>rename_i h0
  ·rw[if_pos h0];omega
  rw[if_neg h0];omega
theorem Z1(l:List Kd)(n r:Int)(M:Int)(d:0≤M)(h: ∀k∈l,0≤k.AA∧k.AA≤M):match GM l n r with
 | .inr b=>r≤b∧b≤r+M*l.length
 | .inl (k,_,b)=>k∈l∧r≤b∧b≤r+M*l.length:=by
 induction l generalizing n r with
 |nil=>simp[GM]
 | cons a l f =>
  have ha:=h a (List.mem_cons_self ..)
  have hi:=f (n-a.bytes) (r+a.AA) fun y hy=>h y (List.mem_cons_of_mem _ hy)
  have e:M*((l.length+1:Nat):Int)=M*l.length+M:=by
   have:((l.length+1:Nat):Int)=l.length+1:=by omega
   rw[this,Int.mul_add,Int.mul_one]
  have h0:0≤M*(l.length:Int):=Int.mul_nonneg d (by omega)
  simp only[GM,List.length_cons]
  rw[e]
  by_cases c:n<a.bytes
  · rw[if_pos c]
    exact ⟨List.mem_cons_self ..,by omega,by omega⟩
  rw[if_neg c]
  revert hi
  cases GM l (n-a.bytes) (r+a.AA) with
  |inr b=>intro hi;simp only at hi⊢;omega
  |inl p=>obtain ⟨k,m,b⟩:=p;intro hi;simp only at hi⊢;exact ⟨List.mem_cons_of_mem _ hi.1,by omega,by omega⟩
end Go.Tr
namespace Go.Proofs.YtfhbmblbidcmmaaGreat
open Go.Tr
theorem II{σ:Type}{rd:Int→M σ Nd}(c: ∀p s n s',rd p s= .ok n s'→may n=true)(T:Int)(g:12582924≤T): ∀(f:Nat)(x:BK)(n:Int)(s:σ)(z:Int)(s':σ),0≤x.ER.AA→x.ER.AA≤T→CR rd f x n s= .ok z s'→0≤z∧z≤T*(f+1:Nat)
 | f, x, n, s, z, s', h1, i, h => by
  have l:T≤T*((f+1:Nat):Int):=by
   have e:((f+1:Nat):Int)=f+1:=by omega
   rw[e,Int.mul_add,Int.mul_one]
   have:0≤T*(f:Int):=Int.mul_nonneg (by omega) (by omega)
   omega
  unfold CR at h
  by_cases c1:n≤0∨x.Al<0
  · rw[if_pos c1] at h;cases h;omega
  rw[if_neg c1] at h
  by_cases c2:x.ER.bytes≤n
  · rw[if_pos c2] at h;cases h;omega
  rw[if_neg c2] at h
  cases f with
  |zero=>cases h
  | succ f =>
    obtain ⟨y,s1,hy,h⟩:=A5 h
    have hm:=c _ _ _ _ hy
    obtain ⟨l1,l2⟩:=Cn hm
    obtain ⟨m1,d⟩:=Ds hm
    have j:=UJ y.Ag n 0 fun x hx=>by
     have:=(m1 x hx).2
     unfold Ah at this
     simp only[decide_eq_true_eq] at this
     omega
    have a:=Z1 y.kids (CQ y.Ag n 0).1 (CQ y.Ag n 0).2 1048576 (by omega) fun k a=>by
     have:=(d k a).2
     unfold AE at this
     simp only[decide_eq_true_eq] at this
     omega
    revert h a
    cases GM y.kids (CQ y.Ag n 0).1 (CQ y.Ag n 0).2 with
    |inr r=>intro h a;cases h;simp only at a;omega
    | inl p =>
      obtain ⟨k,m,r⟩:=p
      intro h a
      obtain ⟨q,s2,hq,h⟩:=A5 h
      cases h
      simp only at a
      have b:=(d k a.1).2
      unfold AE at b
      simp only[decide_eq_true_eq] at b
      have:=II c T g f ⟨k,x.Al-1⟩ m s1 q _ (by simp only;omega) (by simp only;omega) hq
      have e:((f+1+1:Nat):Int)=(f+1:Nat)+1:=by omega
      rw[e,Int.mul_add,Int.mul_one]
      omega
open Go.Dk Go.RowKit Go.Sl
def dG(z:Int)(v:Value)(B:Ab):Prop:=v= .int .i64 z∧B=1
def gS(f:Nat)(a:Int):(Kd×Int×Int) ⊕ Int→M TS Int
 | .inr r=>M.pure r
 | .inl (k,m,r)=>M.bind (CR Ak f ⟨k,a-1⟩ m) fun z=>M.pure (r+z)
def gC(f:Nat):Prop:= ∀(h:Th)(s:TS)(x:BK)(n:Int)(F:Ab)(w:World),Sat (Ad h s*F) w→ -1≤x.Al→x.Al≤1000→0≤x.ER.AA→x.ER.AA≤16777216→n≤1099511627776→f≤1000→CR Ak f x n s≠ .bad→
 Calls Tryz.prog 97 #[.pointer (some ⟨h.t,0,none⟩),Bi x,.int .i64 n] w (Et h F (CR Ak f x n s) dG)
theorem UN(f:Nat)(h:Th)(s:TS)(x:BK)(n:Int)(F:Ab)(w:World)(hs:Sat (Ad h s*F) w)(b:n≤0∨x.Al<0):
 Calls Tryz.prog 97 #[.pointer (some ⟨h.t,0,none⟩),Bi x,.int .i64 n] w (Et h F (CR Ak f x n s) dG):=by
 have a:CR Ak f x n s= .ok 0 s:=by unfold CR;rw[if_pos b];rfl
 rw[a]
 clear a
 obtain ⟨⟨e,g,j,k⟩,c⟩:=x
 simp only at b
 unfold Bi
 simp only
 haveI:=hs.i
 by_cases h1:n≤0
 ·clear b
  go_enter Tryz.func97,Tryz.ntmps97
  go_wp2
  go_returns
  exact ⟨_,1,rfl,⟨rfl,rfl⟩,by rw[Ay];exact Ar _ _⟩
 have d:c<0:=by omega
 clear b
 go_enter Tryz.func97,Tryz.ntmps97
 go_wp2
 go_returns
 exact ⟨_,1,rfl,⟨rfl,rfl⟩,by rw[Ay];exact Ar _ _⟩
theorem Rn(f:Nat)(h:Th)(s:TS)(x:BK)(n:Int)(F:Ab)(w:World)(hs:Sat (Ad h s*F) w)(h1:0<n)(c:0≤x.Al)(b:x.ER.bytes≤n):
 Calls Tryz.prog 97 #[.pointer (some ⟨h.t,0,none⟩),Bi x,.int .i64 n] w (Et h F (CR Ak f x n s) dG):=by
 have a:CR Ak f x n s= .ok x.ER.AA s:=by unfold CR;rw[if_neg (by omega),if_pos b];rfl
 rw[a]
 clear a
 obtain ⟨⟨j,k,l,m⟩,d⟩:=x
 simp only at c b
 unfold Bi
 simp only
 have e: ¬n≤0:=by omega
 have g: ¬d<0:=by omega
 haveI:=hs.i
 go_enter Tryz.func97,Tryz.ntmps97
 go_wp2
 go_returns
 exact ⟨_,1,rfl,⟨rfl,rfl⟩,by rw[Ay];exact Ar _ _⟩
theorem fC(f:Nat)(ih:gC f)(h:Th)(s:TS)(x:BK)(n:Int)(F:Ab)(w:World)(hs:Sat (Ad h s*F) w)(h1:0<n)(h2:0≤x.Al)(au:x.Al≤1000)(h3: ¬x.ER.bytes≤n)(c4:n≤1099511627776)(hf:f≤999)(hb:CR Ak (f+1) x n s≠ .bad):
 Calls Tryz.prog 97 #[.pointer (some ⟨h.t,0,none⟩),Bi x,.int .i64 n] w (Et h F (CR Ak (f+1) x n s) dG):=by
 obtain ⟨R,hR⟩:=Aq (CR Ak (f+1) x n s)
 rw[hR] at hb⊢
 have HB:=As hb
 have HI:=As ih
 unfold CR at hR
 rw[if_neg (by omega),if_neg h3] at hR
 have HR:Aside (M.bind (Ak x.ER.Au) (fun y=>match GM y.kids (CQ y.Ag n 0).1 (CQ y.Ag n 0).2 with
  | .inr r=>M.pure r
  | .inl (k,m,r)=>M.bind (CR Ak f ⟨k,x.Al-1⟩ m) fun z=>M.pure (r+z)) s=R):=hR
 clear hR hb ih
 obtain ⟨⟨x1,x2,x3,x4⟩,D⟩:=x
 simp only at h2 au h3 HR
 unfold Bi
 simp only
 obtain ⟨m,hm⟩:=Aq (Ak x1 s)
 have H:=Bf HR.out HB.out
 have T:=fun F w q n=>Cu h s x1 F w q n
 rw[hm] at H T
 have K:=As hm
 have g1: ¬n≤0:=by omega
 have g2: ¬D<0:=by omega
 clear hm
 haveI:=hs.i
 go_enter Tryz.func97,Tryz.ntmps97
 go_wp2_with fail
 with_reducible refine Calls.mono (T _ _ (Ae (Ad h s)) H) ?_
 rintro e w2 h4
 cases m with
 |bad=>exact absurd rfl H
 | fault er s2 =>
   obtain ⟨rfl,q2⟩:=h4
   haveI:=q2.i
   have o:=B3 HR.out K.out
   subst o
   exact ⟨rfl,rfl,Ar _ _⟩
 | ok y s2 =>
   obtain ⟨v2,X,rfl,⟨hN,O⟩,q2⟩:=h4
   have L:=Bd HR.out K.out
   clear T H HR K
   obtain ⟨se,sk,rfl,hE,hK⟩:=hN
   obtain ⟨a1,c1,rfl,a6,bl⟩:=hE.v
   obtain ⟨a2,c2,rfl,a7,bm⟩:=Ai.v hK
   obtain ⟨ac,ad⟩:=Cn O
   have Y:=As O
   obtain ⟨lf,es,ks⟩:=y
   simp only at hE hK ac ad a6 a7 L⊢
   obtain ⟨ne,P⟩:=Aq es.length
   obtain ⟨u,Q⟩:=Aq ks.length
   have HE:Aside (A1 X (.slice a1 es.length c1) es∧es.length=ne):=⟨hE,P⟩
   have HK:Aside (BE X (.slice a2 ks.length c2) ks∧ks.length=u):=⟨hK,Q⟩
   rw[P] at ac a6⊢
   rw[Q] at ad a7⊢
   haveI:=q2.i
   clear hE hK O P Q
   have HP:=As L
   clear L
   go_wp2_with fail
   have q4:Sat (Ad h s2*(X*(Sl.block w2.heap.size Cy [.bool lf,.slice a1 ne c1,.slice a2 u c2]*(Sl.block w.heap.size DF [.int .i64 x1,.int .i64 x2,.int .i64 x3,.int .i64 x4,.int .i64 D]*F)))) (w2.alloc (.cells #[.bool lf,.slice a1 ne c1,.slice a2 u c2] Cy)):=Ap (by ac_rfl)
   obtain ⟨N4,a8⟩:=Aq w.heap.size
   obtain ⟨N7,a9⟩:=Aq w2.heap.size
   rw[a8,a9] at q4⊢
   clear a8 a9 q2 hs this
   go_loopg [2,8,36] ne (fun g t2 t8 b4 wr=> ∃(i:Nat)(a d:Int),b4= .int .i64 i∧t2= .int .i64 a∧t8= .int .i64 d∧i≤ne∧a≤1099511627776∧ -1048576*(i:Int)≤a∧0≤d∧d≤i∧Aside (g=ne-i∧CQ (es.take i) n 0=(a,d))∧
    Sat (Ad h s2*(X*(Sl.block N7 Cy [.bool lf,.slice a1 ne c1,.slice a2 u c2]*(Sl.block N4 DF [.int .i64 x1,.int .i64 x2,.int .i64 x3,.int .i64 x4,.int .i64 D]*F)))) wr)
   case atStart=>exact ⟨0,n,0,rfl,rfl,rfl,by omega,by omega,by omega,by omega,by omega,⟨rfl,rfl⟩,q4⟩
   obtain ⟨i,a,d,rfl,rfl,rfl,hi,bp,bq,br,bs,A,U⟩:=hrel
   clear q4
   haveI:=U.i
   by_cases bx:i<ne
   · have af:(i:Int)<ne:=by omega
     obtain ⟨y,hy⟩: ∃y,es[i]?=some y:=⟨_,List.getElem?_eq_getElem (by have:=HE.out.2;omega)⟩
     obtain ⟨b,q,rfl,r1,r2,r3,r4⟩:=BH HE.out.1 hy
     have I:=((Ds Y.out).1 y (List.mem_of_getElem? hy)).2
     have B:Aside (CQ (es.take (i+1)) n 0=(a-y.len,if 0<a then d+1 else d)):=(by rw[AB hy,WD,A.out.2]:_=_)
     unfold Ah at I
     simp only[decide_eq_true_eq] at I
     obtain ⟨y1,y2,y3,y4⟩:=y
     simp only at I r1 r2 r3 r4 B
     have hy1:1≤y3:=by omega
     have hy2:y3≤1048576:=by omega
     have hw1:=Bb (d+1) (by omega)
     have hw2:=Bb (a-y3) (by omega)
     clear I hy
     by_cases hp:0<a
     · rw[if_pos hp] at B
       go_wp2
       go_roundg (ne-(i+1))
       case measure=>have:=A.out.1;omega
       case rel=>exact ⟨i+1,a-y3,d+1,by go_num,rfl,rfl,by omega,by omega,by omega,by omega,by omega,⟨rfl,B.out⟩,DC _ _ _ _ _⟩
     rw[if_neg hp] at B
     go_wp2
     go_roundg (ne-(i+1))
     case measure=>have:=A.out.1;omega
     case rel=>exact ⟨i+1,a-y3,d,by go_num,rfl,rfl,by omega,by omega,by omega,by omega,by omega,⟨rfl,B.out⟩,DC _ _ _ _ _⟩
   have af: ¬(i:Int)<ne:=by omega
   obtain rfl:i=ne:=by omega
   have l:=A.out.2
   rw[List.take_of_length_le (by rw[HE.out.2];exact Nat.le_refl _)] at l
   have Z:Aside (gS f D (GM ks a d) s2=R):=(by have:=HP.out;rw[l] at this;exact this:_=_)
   clear l HP A
   go_wp2_with fail
   go_loopg [2,8,53] u (fun g t2 t8 b5 wr=> ∃(j:Nat)(a d:Int),b5= .int .i64 j∧t2= .int .i64 a∧t8= .int .i64 d∧j≤u∧a≤1099511627776∧ -12582912≤a∧0≤d∧d≤12+1048576*(j:Int)∧Aside (g=u-j∧gS f D (GM (ks.drop j) a d) s2=R)∧
    Sat (Ad h s2*(X*(Sl.block N7 Cy [.bool lf,.slice a1 i c1,.slice a2 u c2]*(Sl.block N4 DF [.int .i64 x1,.int .i64 x2,.int .i64 x3,.int .i64 x4,.int .i64 D]*F)))) wr)
   case atStart=>exact ⟨0,a,d,rfl,rfl,rfl,by omega,by omega,by omega,by omega,by omega,⟨rfl,Z.out⟩,U⟩
   obtain ⟨j,W,kj,rfl,rfl,rfl,bo,av,bz,c0,c3,A,ag⟩:=hrel
   clear U Z this
   haveI:=ag.i
   by_cases bw:j<u
   · have ae:(j:Int)<u:=by omega
     obtain ⟨k,hk⟩: ∃k,ks[j]?=some k:=⟨_,List.getElem?_eq_getElem (by have:=HK.out.2;omega)⟩
     obtain ⟨b,q,rfl,r1,r2,r3,r4⟩:=Cp HK.out.1 hk
     have G:=((Ds Y.out).2 k (List.mem_of_getElem? hk)).2
     have hd:ks.drop j=k::ks.drop (j+1):=by
      obtain ⟨u1,u2⟩:=List.getElem?_eq_some_iff.1 hk
      rw[List.drop_eq_getElem_cons u1,u2]
     have l:=A.out.2
     rw[hd,GM] at l
     unfold AE at G
     simp only[decide_eq_true_eq] at G
     obtain ⟨k1,J,k3,V⟩:=k
     simp only at G r1 r2 r3 r4 l
     have XF:1≤J:=by omega
     have bt:J≤1048576:=by omega
     have bu:1≤V:=by omega
     have bv:V≤1048576:=by omega
     have HA:=As A.out.1
     clear G hk hd A
     by_cases hp:W<J
     · rw[if_pos hp] at l
       have B:=As l
       obtain ⟨m,hm⟩:=Aq (CR Ak f ⟨⟨k1,J,k3,V⟩,D-1⟩ W s2)
       have H:=Bf B.out HB.out
       have c:=fun F w q n=>HI.out h s2 ⟨⟨k1,J,k3,V⟩,D-1⟩ W F w q (by simp only;omega) (by simp only;omega) (by simp only;omega) (by simp only;omega) av (by omega) n
       have HZ:Aside (∀z s',m= .ok z s'→0≤z∧z≤16777216*((f+1:Nat):Int)):=fun z s' e=>II (fun p s n s' h=>Es h) 16777216 (by omega) f ⟨⟨k1,J,k3,V⟩,D-1⟩ W s2 z s' (by simp only;omega) (by simp only;omega) (hm.trans e)
       rw[hm] at H c
       have K:=As hm
       unfold Bi at c
       simp only at c
       have hw3:=Bb (D-1) (by omega)
       clear hm l
       go_wp2_with fail
       with_reducible refine Calls.mono (c _ _ (Ae (Ad h s2)) H) ?_
       rintro e w4 h4
       cases m with
       |bad=>exact absurd rfl H
       | fault er s3 =>
        obtain ⟨rfl,q5⟩:=h4
        haveI:=q5.i
        have o:=B3 B.out K.out
        subst o
        exact ⟨rfl,rfl,Ar _ _⟩
       | ok z s3 =>
        obtain ⟨v5,B5,rfl,⟨rfl,rfl⟩,q5⟩:=h4
        rw[Ay] at q5
        obtain ⟨z1,z2⟩:=HZ.out z s3 rfl
        have hw4:=Bb (kj+z) (by omega)
        have ab:=Bd B.out K.out
        have o:=ab.symm
        subst o
        haveI:=q5.i
        clear c H B K HZ HB HI ab z1 z2
        go_wp2
        go_returns
        exact ⟨_,1,rfl,⟨rfl,rfl⟩,by rw[Ay];exact Ar _ _⟩
     rw[if_neg hp] at l
     have B:=As l
     have hw1:=Bb (kj+V) (by omega)
     have hw2:=Bb (W-J) (by omega)
     clear l
     go_wp2_with fail
     go_quiet (fail)
     go_wp2
     go_roundg (u-(j+1))
     case measure=>have:=HA.out;omega
     case rel=>exact ⟨j+1,W-J,kj+V,by go_num,rfl,rfl,by omega,by omega,by omega,by omega,by omega,⟨rfl,B.out⟩,DC _ _ _ _ _⟩
   have ae: ¬(j:Int)<u:=by omega
   obtain rfl:j=u:=by omega
   have l:=A.out.2
   rw[List.drop_of_length_le (by rw[HK.out.2];exact Nat.le_refl _)] at l
   have o:=l.symm
   subst o
   clear l A HB HI
   go_wp2
   go_returns
   exact ⟨_,1,rfl,⟨rfl,rfl⟩,by rw[Ay];exact Ar _ _⟩
theorem UM(f:Nat):gC f:=by induction f with
 | zero =>
  intro h s x n F w hs h1 c e g d i hb
  by_cases b:n≤0∨x.Al<0
  ·exact UN 0 h s x n F w hs b
  by_cases a:x.ER.bytes≤n
  ·exact Rn 0 h s x n F w hs (by omega) (by omega) a
  exact absurd (by unfold CR;rw[if_neg b,if_neg a];rfl) hb
 | succ f j =>
  intro h s x n F w hs h1 c e g d i hb
  by_cases b:n≤0∨x.Al<0
  ·exact UN (f+1) h s x n F w hs b
  by_cases a:x.ER.bytes≤n
  ·exact Rn (f+1) h s x n F w hs (by omega) (by omega) a
  exact fC f j h s x n F w hs (by omega) (by omega) c a d (by omega) hb
def kJ(z:Av×Int)(v:Value)(B:Ab):Prop:=v= .tuple #[.agg #[.int .i64 z.1.src,.int .i64 z.1.pos,.int .i64 z.1.len,.int .i64 z.1.lines],.int .i64 z.2]∧B=1
def bU(f:Nat)(n:Int):jY→M TS (Av×Int)
 | .here x a=>M.pure (x,a)
 | .Zs=>M.fail 13
 | .below p a=>M.bind (Ak p) fun m=>Fs Ak f m n a
def iT(ks:List Kd)(n:Int):jY ⊕ Int→jY
 | .inl h=>h
 | .inr a=>OG ks n a
theorem Vd(f:Nat)(m:Nd)(n a:Int)(s:TS):Fs Ak (f+1) m n a s=bU f n (iT m.kids n (M4 m.Ag n a)) s:=by rfl
theorem Ve(h : Th)(s : TS)(root n : Int)(F : Ab)(w : World)(hs : Sat (Ad h s * F) w)(hb : K5 Ak root n s ≠ .bad) :
 Calls Tryz.prog 94 #[.pointer (some ⟨h.t,0,none⟩),.int .i64 root,.int .i64 n] w (Et h F (K5 Ak root n s) kJ):=by
 obtain ⟨R,hR⟩:=Aq (K5 Ak root n s)
 rw[hR] at hb⊢
 have Z:=As hb
 unfold K5 at hR
 have HR:=As hR
 clear hR hb
 obtain ⟨m,hm⟩:=Aq (Ak root s)
 have K:=Bf HR.out Z.out
 have d:=fun F w q n=>Cu h s root F w q n
 rw[hm] at K d
 have T:=As hm
 clear hm
 haveI:=hs.i
 go_enter Tryz.func94,Tryz.ntmps94
 go_wp2_with fail
 go_step3
 go_wp2_with fail
 with_reducible refine Calls.mono (d _ _ (Ae (Ad h s)) K) ?_
 rintro e w2 h4
 cases m with
 |bad=>exact absurd rfl K
 | fault er s2 =>
  obtain ⟨rfl,q2⟩:=h4
  haveI:=q2.i
  have c:=B3 HR.out T.out
  subst c
  exact ⟨rfl,rfl,Ar _ _⟩
 | ok y s2 =>
  obtain ⟨v2,B2,rfl,⟨hN,af⟩,q2⟩:=h4
  have a9:=Bd HR.out T.out
  have HG:=As a9
  clear d K HR T a9
  obtain ⟨se,sk,rfl,B,D⟩:=hN
  obtain ⟨u,c1,rfl,b2,b3⟩:=B.v
  obtain ⟨z,c2,rfl,b4,b5⟩:=Ai.v D
  have HN:Aside (may y=true∧AN B2 (.agg #[.bool y.leaf,.slice u y.Ag.length c1,.slice z y.kids.length c2]) y):=⟨af,_,_,rfl,B,D⟩
  haveI:=q2.i
  clear B D af
  go_wp2_with fail
  go_step3
  go_wp2_with fail
  have q4:Sat (Ad h s2*(B2*(Sl.block w2.heap.size Cy [.bool y.leaf,.slice u y.Ag.length c1,.slice z y.kids.length c2]*(Sl.block w.heap.size AK [.int .i64 0,.int .i64 0,.int .i64 0,.int .i64 0]*F)))) (w2.alloc (.cells #[.bool y.leaf,.slice u y.Ag.length c1,.slice z y.kids.length c2] Cy)):=Ap (by ac_rfl)
  obtain ⟨N6,a4⟩:=Aq w.heap.size
  obtain ⟨N9,a5⟩:=Aq w2.heap.size
  rw[a4,a5] at q4⊢
  clear a4 a5 q2 hs this
  go_loopg [8,17] 22 (fun g t8 bc wr=> ∃(i f:Nat)(m:Nd)(X:Int)(u:Option Addr)(c1:Nat)(z:Option Addr)(c2:Nat)(G:Ab)(s':TS),t8= .int .i64 X∧bc= .int .i64 i∧i+f=22∧0≤X∧X≤25165824*(i:Int)∧Aside (g=f∧Fs Ak f m n X s'=R)∧Aside (may m=true∧AN G (.agg #[.bool m.leaf,.slice u m.Ag.length c1,.slice z m.kids.length c2]) m)∧
   Sat (Ad h s'*(G*(Sl.block N9 Cy [.bool m.leaf,.slice u m.Ag.length c1,.slice z m.kids.length c2]*(Sl.block N6 AK [.int .i64 0,.int .i64 0,.int .i64 0,.int .i64 0]*F)))) wr)
  case atStart=>exact ⟨0,22,y,0,u,c1,z,c2,B2,s2,rfl,rfl,by omega,by omega,by omega,⟨rfl,HG.out⟩,HN.out,q4⟩
  obtain ⟨i,f,m,X,u,c1,z,c2,G,s',rfl,rfl,bu,bs,bt,A,I,l⟩:=hrel
  clear q4 HN HG
  cases f with
  | zero =>
    have c:=A.out.2.symm
    subst c
    obtain rfl:i=22:=by omega
    haveI:=l.i
    clear A I Z
    go_wp2_with fail
    exact ⟨rfl,rfl,Ar _ _⟩
  | succ f =>
    have bn:(i:Int)<22:=by omega
    have a:=A.out.2
    rw[Vd] at a
    have HA:=As A.out.1
    obtain ⟨vE,vK,hv,B,D⟩:=I.out.2
    cases hv
    obtain ⟨lf,es,ks⟩:=m
    have U:=As I.out.1
    obtain ⟨ab,ac⟩:=Cn U.out
    simp only at B D ab ac a l⊢
    obtain ⟨ne,V⟩:=Aq es.length
    obtain ⟨x,W⟩:=Aq ks.length
    have HE:Aside (A1 G (.slice u es.length c1) es∧es.length=ne):=⟨B,V⟩
    have HK:Aside (BE G (.slice z ks.length c2) ks∧ks.length=x):=⟨D,W⟩
    have HP:=As a
    rw[V] at ab l
    rw[W] at ac l
    haveI:=l.i
    clear B D V W a A I
    go_wp2_with fail
    go_loopg [8,22] ne (fun g t8 bd wx=> ∃(j:Nat)(p:Int),t8= .int .i64 p∧bd= .int .i64 j∧j≤ne∧0≤p∧p≤25165824*(i:Int)+1048576*(j:Int)∧Aside (g=ne-j∧bU f n (iT ks n (M4 (es.drop j) n p)) s'=R)∧
     Sat (Ad h s'*(G*(Sl.block N9 Cy [.bool lf,.slice u ne c1,.slice z x c2]*(Sl.block N6 AK [.int .i64 0,.int .i64 0,.int .i64 0,.int .i64 0]*F)))) wx)
    case atStart=>exact ⟨0,X,rfl,rfl,by omega,by omega,by omega,⟨rfl,HP.out⟩,l⟩
    obtain ⟨j,p,rfl,rfl,hj,bv,bw,A,H⟩:=hrel
    clear l HP this
    haveI:=H.i
    by_cases bz:j<ne
    · have ad:(j:Int)<ne:=by omega
      obtain ⟨y,hy⟩: ∃y,es[j]?=some y:=⟨_,List.getElem?_eq_getElem (by have:=HE.out.2;omega)⟩
      obtain ⟨b,q,rfl,r1,r2,r3,r4⟩:=BH HE.out.1 hy
      have L:=((Ds U.out).1 y (List.mem_of_getElem? hy)).2
      have hd:es.drop j=y::es.drop (j+1):=by
       obtain ⟨u1,u2⟩:=List.getElem?_eq_some_iff.1 hy
       rw[List.drop_eq_getElem_cons u1,u2]
      have a:=A.out.2
      rw[hd,M4] at a
      have Q:=As A.out.1
      unfold Ah at L
      simp only[decide_eq_true_eq] at L
      obtain ⟨y1,y2,y3,y4⟩:=y
      simp only at L r1 r2 r3 r4 a
      have hy1:1≤y3:=by omega
      have hy2:y3≤1048576:=by omega
      have hw1:=Bb (p+y3) (by omega)
      clear L hy hd A
      by_cases hp:n<p+y3
      · rw[if_pos hp] at a
        have c:=a.symm
        subst c
        clear a Z
        go_wp2
        try rw[Exit.noGoto_ret]
        go_returns
        exact ⟨_,1,rfl,⟨rfl,rfl⟩,by rw[Ay];exact Ar _ _⟩
      rw[if_neg hp] at a
      have O:=As a
      clear a
      go_wp2
      go_roundg (ne-(j+1))
      case measure=>have:=Q.out;omega
      case rel=>exact ⟨j+1,p+y3,rfl,by go_num,by omega,by omega,by omega,⟨rfl,O.out⟩,DC _ _ _ _ _⟩
    have ad: ¬(j:Int)<ne:=by omega
    obtain rfl:j=ne:=by omega
    have a:=A.out.2
    rw[List.drop_of_length_le (by rw[HE.out.2];exact Nat.le_refl _)] at a
    have a0:=As a
    clear a A
    go_wp2_with fail
    go_loopg [8,44] x (fun g t8 be wx=> ∃(o:Nat)(p:Int),t8= .int .i64 p∧be= .int .i64 o∧o≤x∧0≤p∧p≤25165824*(i:Int)+12582912+1048576*(o:Int)∧Aside (g=x-o∧bU f n (OG (ks.drop o) n p) s'=R)∧
     Sat (Ad h s'*(G*(Sl.block N9 Cy [.bool lf,.slice u j c1,.slice z x c2]*(Sl.block N6 AK [.int .i64 0,.int .i64 0,.int .i64 0,.int .i64 0]*F)))) wx)
    case atStart=>exact ⟨0,p,rfl,rfl,by omega,by omega,by omega,⟨rfl,a0.out⟩,H⟩
    obtain ⟨o,bj,rfl,rfl,Y,XF,bx,A,ag⟩:=hrel
    clear H a0 this
    haveI:=ag.i
    by_cases c0:o<x
    · have ae:(o:Int)<x:=by omega
      obtain ⟨k,Y⟩: ∃k,ks[o]?=some k:=⟨_,List.getElem?_eq_getElem (by have:=HK.out.2;omega)⟩
      obtain ⟨b,q,rfl,r1,r2,r3,r4⟩:=Cp HK.out.1 Y
      have J:=((Ds U.out).2 k (List.mem_of_getElem? Y)).2
      have hd:ks.drop o=k::ks.drop (o+1):=by
       obtain ⟨u1,u2⟩:=List.getElem?_eq_some_iff.1 Y
       rw[List.drop_eq_getElem_cons u1,u2]
      have a:=A.out.2
      rw[hd,OG] at a
      have Q:=As A.out.1
      unfold AE at J
      simp only[decide_eq_true_eq] at J
      obtain ⟨k1,k2,k3,k4⟩:=k
      simp only at J r1 r2 r3 r4 a
      have hy1:1≤k2:=by omega
      have hy2:k2≤1048576:=by omega
      have hw1:=Bb (bj+k2) (by omega)
      clear J hd A
      by_cases hp:n<bj+k2
      · rw[if_pos hp] at a
        have O:=As a
        obtain ⟨r,hr⟩:=Aq (Ak k1 s')
        have K:=Bf O.out Z.out
        have d:=fun F w q n=>Cu h s' k1 F w q n
        rw[hr] at K d
        have T:=As hr
        clear hr a Y
        go_wp2_with fail
        with_reducible refine Calls.mono (d _ _ (Ae (Ad h s')) K) ?_
        rintro e w4 h4
        cases r with
        |bad=>exact absurd rfl K
        | fault er s3 =>
         obtain ⟨rfl,q5⟩:=h4
         haveI:=q5.i
         have c:=B3 O.out T.out
         subst c
         exact ⟨rfl,rfl,Ar _ _⟩
        | ok M s3 =>
         obtain ⟨v5,B5,rfl,⟨b6,P⟩,q5⟩:=h4
         have aa:=Bd O.out T.out
         have ax:=As aa
         obtain ⟨se,sk,rfl,B,D⟩:=b6
         obtain ⟨a7,c7,rfl,b2,b3⟩:=B.v
         obtain ⟨a8,c8,rfl,b4,b5⟩:=Ai.v D
         have az:Aside (may M=true∧AN B5 (.agg #[.bool M.leaf,.slice a7 M.Ag.length c7,.slice a8 M.kids.length c8]) M):=⟨P,_,_,rfl,B,D⟩
         haveI:=q5.i
         clear d K O T aa B D P
         go_wp2_with fail
         go_roundg f
         case measure=>have:=HA.out;omega
         refine ⟨i+1,f,M,bj,a7,c7,a8,c8,B5,s3,rfl,by go_num,by omega,by omega,by omega,⟨rfl,ax.out⟩,az.out,?_⟩
         show Sat (Ad h s3*(B5*(Sl.block N9 Cy ((([.bool lf,.slice u j c1,.slice (some ⟨b,q,none⟩) x c2].set 0 (.bool M.leaf)).set 1 (.slice a7 M.Ag.length c7)).set 2 (.slice a8 M.kids.length c8))*(Sl.block N6 AK [.int .i64 0,.int .i64 0,.int .i64 0,.int .i64 0]*F)))) _
         exact DC _ _ _ _ _
      rw[if_neg hp] at a
      have O:=As a
      clear a Y
      go_wp2
      go_roundg (x-(o+1))
      case measure=>have:=Q.out;omega
      case rel=>exact ⟨o+1,bj+k2,rfl,by go_num,by omega,by omega,by omega,⟨rfl,O.out⟩,DC _ _ _ _ _⟩
    have ae: ¬(o:Int)<x:=by omega
    obtain rfl:o=x:=by omega
    have a:=A.out.2
    rw[List.drop_of_length_le (by rw[HK.out.2];exact Nat.le_refl _)] at a
    have c:=a.symm
    subst c
    clear a A Z
    go_wp2_with fail
    exact ⟨rfl,rfl,Ar _ _⟩
