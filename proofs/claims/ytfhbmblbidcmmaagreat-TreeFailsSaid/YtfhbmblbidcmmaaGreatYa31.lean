/- treeFails holds for every input. No condition. (part 31) -/
import Derived.Test.YtfhbmblbidcmmaaGreatYa30
set_option linter.all false
set_option maxRecDepth 100000
set_option maxHeartbeats 3200000
namespace Go.Proofs.YtfhbmblbidcmmaaGreat
open Go.RowKit Go.Sl Go.Dk Go.Tr
theorem Lh{σ:Type}{rd:Int→M σ Nd}{wt:Nd→M σ Kd} : ∀(f:Nat)(a b:BH)(s:σ)(r:List Kd×Int)(s':σ),Cd rd wt f a b s= .ok r s'→r.2=a.An∨r.2=b.An
 |0,a,b,s,r,s',h=>by cases h
 | f + 1, a, b, s, r, s', h => by
  unfold Cd at h
  split at h
  ·obtain ⟨x,s1,e,h⟩:=Aw h
   cases d:x.kids.getLast? with
   |none=>simp only[d] at h;cases h
   | some z =>
    simp only[d] at h
    by_cases c:x.leaf=true
    ·rw[if_pos c] at h;cases h
    rw[if_neg c] at h
    obtain ⟨q,s2,g,h⟩:=Aw h
    obtain ⟨o,s3,i,h⟩:=Aw h
    cases h
    exact .inl rfl
  split at h
  ·obtain ⟨x,s1,e,h⟩:=Aw h
   cases d:x.kids with
   |nil=>simp only[d] at h;cases h
   | cons z zs =>
    simp only[d] at h
    by_cases c:x.leaf=true
    ·rw[if_pos c] at h;cases h
    rw[if_neg c] at h
    obtain ⟨q,s2,g,h⟩:=Aw h
    obtain ⟨o,s3,i,h⟩:=Aw h
    cases h
    exact .inr rfl
  obtain ⟨x,s1,e,h⟩:=Aw h
  obtain ⟨y,s2,g,h⟩:=Aw h
  by_cases c:x.leaf=y.leaf
  ·rw[if_pos c] at h
   obtain ⟨o,s3,i,h⟩:=Aw h
   cases h
   exact .inl rfl
  rw[if_neg c] at h
  cases h
theorem GV(h:Th)(s:TS)(a b:BH)(F:Ac)(w:World)(hs:Sat (Ad h s*F) w)(ha: -1000≤a.An)(p:a.An≤1000)(hb: -1000≤b.An)(u:b.An≤1000)(l:DT Ah Ag a b s≠ .bad):
 Calls Tryz.prog 99 #[.pointer (some ⟨h.t,0,none⟩),AH a,AH b] w (D4 h F (DT Ah Ag a b s) J0):=by
 obtain ⟨R,f⟩: ∃R,DT Ah Ag a b s=R:=⟨_,rfl⟩
 rw[f] at l⊢
 have o:Aside (R≠ .bad):=l
 have c:=fun(p1: -1≤a.An)(p2: -1≤b.An) F w q n=>Nj (JF a b) h s a b F w q p1 p p2 u n
 unfold DT at f
 have HA:Aside (JF a b=JF a b):=rfl
 obtain ⟨d,hd⟩: ∃d,JF a b=d:=⟨_,rfl⟩
 rw[hd] at c f
 have D:Aside (∀r s',Cd Ah Ag d a b s= .ok r s'→r.1.length≤65536∧ -1000≤r.2∧r.2≤1000):=fun r s' h=>by
  have Z:=LK h
  rcases Lh d a b s r s' h with j|j<;>exact ⟨by omega,by omega,by omega⟩
 obtain ⟨m,hm⟩: ∃m,Cd Ah Ag d a b s=m:=⟨_,rfl⟩
 obtain ⟨⟨Q,T,U,V⟩,I⟩:=a
 obtain ⟨⟨W,b2,X,Y⟩,J⟩:=b
 simp only at f ha p hb u
 unfold AH at c⊢
 simp only at c
 haveI:=hs.i
 clear l hd HA
 by_cases Z:I<0
 · rw[if_pos Z] at f
   have g:R= .ok ⟨⟨W,b2,X,Y⟩,J⟩ s:=f.symm
   subst g
   clear f c D o hm
   go_enter Tryz.func99,Tryz.ntmps99
   go_wp2
   go_returns
   exact ⟨_,1,rfl,⟨rfl,rfl⟩,by rw[Am];exact Av _ _⟩
 rw[if_neg Z] at f
 by_cases j:J<0
 · rw[if_pos j] at f
   have g:R= .ok ⟨⟨Q,T,U,V⟩,I⟩ s:=f.symm
   subst g
   clear f c D o hm
   go_enter Tryz.func99,Tryz.ntmps99
   go_wp2
   go_returns
   exact ⟨_,1,rfl,⟨rfl,rfl⟩,by rw[Am];exact Av _ _⟩
 rw[if_neg j] at f
 have H:Aside (M.bind (Cd Ah Ag d ⟨⟨Q,T,U,V⟩,I⟩ ⟨⟨W,b2,X,Y⟩,J⟩) (fun r=>grown Ag r.1 r.2) s=R):=f
 have L:=AK H.out o.out
 replace c:=c (by omega) (by omega)
 rw[hm] at c L
 have G:Aside (Cd Ah Ag d ⟨⟨Q,T,U,V⟩,I⟩ ⟨⟨W,b2,X,Y⟩,J⟩ s=m):=hm
 clear f hm
 go_enter Tryz.func99,Tryz.ntmps99
 go_wp2_with fail
 with_reducible refine Calls.mono (c _ _ (Ae (Ad h s)) L) ?_
 rintro e w2 j
 cases m with
 |bad=>exact absurd rfl L
 | fault er s2 =>
   obtain ⟨rfl,z⟩:=j
   haveI:=z.i
   have g:=AL H.out G.out
   subst g
   exact ⟨rfl,rfl,Av _ _⟩
 | ok r s2 =>
   obtain ⟨v2,P,rfl,⟨vk,rfl,K⟩,z⟩:=j
   obtain ⟨r1,rh⟩:=r
   simp only at K
   obtain ⟨a5,c5,rfl,_,_⟩:=Al.v K
   have y:=AJ H.out G.out
   have k:grown Ag r1 rh s2=R:=y
   obtain ⟨g1,g2,g3⟩:=D.out _ _ G.out
   have hg:=fun v B F w q1 z=>Lw h s2 r1 rh v B F w q1 z g1 (by simp only at g2;omega) (by simp only at g3;omega) (by rw[k];exact o.out)
   rw[k] at hg
   have HK:Aside (B1 P (.slice a5 r1.length c5) r1):=K
   haveI:=z.i
   clear c K k y g1 g2 g3 H G D L
   go_wp2_with fail
   with_reducible refine Calls.mono (hg _ P _ _ HK.out (AY (Ad h s2) P)) ?_
   rintro e w3 h3
   cases R with
   |bad=>exact absurd rfl o.out
   | fault er s3 =>
    obtain ⟨rfl,O⟩:=h3
    haveI:=O.i
    exact ⟨rfl,rfl,Av _ _⟩
   | ok x s3 =>
    obtain ⟨v3,G3,rfl,⟨rfl,rfl⟩,O⟩:=h3
    rw[Am] at O
    haveI:=O.i
    unfold AH
    go_wp2
    go_returns
    exact ⟨_,1,rfl,⟨rfl,rfl⟩,by rw[Am];exact Av _ _⟩
section
variable {σ:Type} {rd:Int→M σ Nd} {wt:Nd→M σ Kd}
theorem JB: ∀(f:Nat)(ks:List Kd)(h:Int)(s:σ)(t:BH)(s':σ),DS wt f ks h s= .ok t s'→t.An= -1∨(h≤t.An∧t.An≤h+f)
 | f, [], h, s, t, s', e => by
  have:t=Co:=by cases f<;>(cases e;rfl)
  subst this
  exact .inl rfl
 | f, [k], h, s, t, s', e => by
  have:t=⟨k,h⟩:=by cases f<;>(cases e;rfl)
  subst this
  exact .inr ⟨by simp only;omega,by simp only;omega⟩
 |0,a::b::l,h,s,t,s',e=>by cases e
 | f + 1, a :: b :: l, h, s, t, s', e => by
  have e':M.bind (Bt wt ⟨false,[],a::b::l⟩) (fun ks=>DS wt f ks (h+1)) s= .ok t s':=e
  obtain ⟨ks,s1,g,d⟩:=Aw e'
  rcases JB f ks (h+1) s1 t s' d with c|⟨c,i⟩
  ·exact .inl c
  exact .inr ⟨by omega,by omega⟩
theorem Hl{ks:List Kd}{h:Int}{s:σ}{t:BH}{s':σ}(e:grown wt ks h s= .ok t s'):t.An= -1∨(h≤t.An∧t.An≤h+ks.length):=JB ks.length ks h s t s' e
theorem DM{ks:List Kd}{h:Int}{s:σ}{t:BH}{s':σ}(e:CE wt ks h s= .ok t s'):t.An= -1∨(h-1≤t.An∧t.An≤h-1+ks.length):=Hl e
theorem EA{l:List As}{s:σ}{t:BH}{s':σ}(e:BO wt l s= .ok t s'):t.An= -1∨(0≤t.An∧t.An≤(l.length+11)/12):=by
 unfold BO at e
 obtain ⟨ks,s1,b,c⟩:=Aw e
 have d:=Eo b
 rcases Hl c with a|⟨a,f⟩
 ·exact .inl a
 refine .inr ⟨a,?_⟩
 have:many (⟨true,l,[]⟩:Nd)=l.length:=by simp[many]
 omega
theorem Gr(c: ∀p s n s',rd p s= .ok n s'→many n≤12){a b:BH}{s:σ}{t:BH}{s':σ}(e:DT rd wt a b s= .ok t s')(L U:Int)(q:L≤ -1)(u: -1≤U)(i:L≤a.An)(j:a.An≤U)(k:L≤b.An)(b2:b.An≤U):
 L≤t.An∧t.An≤U+2:=by
 unfold DT at e
 split at e
 ·cases e;omega
 split at e
 ·cases e;omega
 obtain ⟨r,s1,d,f⟩:=Aw e
 have l:=Lh _ _ _ _ _ _ d
 have m:=Jr c _ _ _ _ _ _ d
 rcases Hl f with g|⟨g,o⟩
 ·omega
 omega
theorem Dd(d: ∀p s n s',rd p s= .ok n s'→may n=true): ∀(f:Nat)(x:BH)(n:Int)(s:σ)(p:BH×BH)(s':σ),Be rd wt f x n s= .ok p s'→ ∀(L U:Int),L≤ -1→0≤U→L≤x.An-f→x.An≤U→
 (L≤p.1.An∧p.1.An≤U+14*(f+1))∧(L≤p.2.An∧p.2.An≤U+14*(f+1))
 | f, x, n, s, p, s', e, L, U, l, B, I, J => by
  have j:Co.An= -1:=rfl
  have c: ∀p s n s',rd p s= .ok n s'→many n≤12:=fun p s n s' h=>(GM (d p s n s' h)).1
  unfold Be at e
  by_cases m:n≤0
  ·rw[if_pos m] at e
   cases e
   simp only[j]
   omega
  rw[if_neg m] at e
  by_cases c2:x.DK.bytes≤n
  ·rw[if_pos c2] at e
   cases e
   simp only[j]
   omega
  rw[if_neg c2] at e
  cases f with
  |zero=>cases e
  | succ f =>
   simp only at e
   obtain ⟨y,s1,t,e⟩:=Aw e
   have hy:=Cl (d _ _ _ _ t)
   by_cases hl:y.leaf=true
   ·rw[if_pos hl] at e
    cases hp:EJ y.Ao n 0 with
    |none=>rw[hp] at e;cases e
    | some k =>
     rw[hp] at e
     simp only at e
     obtain ⟨a,s2,g,e⟩:=Aw e
     obtain ⟨b,s3,i,e⟩:=Aw e
     cases e
     have ha:=EA g
     have hb:=EA i
     rw[List.length_take] at ha
     rw[List.length_drop] at hb
     simp only
     omega
   rw[if_neg hl] at e
   cases hp:GO y.kids n 0 with
   |none=>rw[hp] at e;cases e
   | some H =>
    obtain ⟨k,r⟩:=H
    rw[hp] at e
    simp only at e
    by_cases hr:r=0
    ·rw[if_pos hr] at e
     obtain ⟨a,s2,g,e⟩:=Aw e
     obtain ⟨b,s3,i,e⟩:=Aw e
     cases e
     have ha:=DM g
     have hb:=DM i
     rw[List.length_take] at ha
     rw[List.length_drop] at hb
     simp only
     omega
    rw[if_neg hr] at e
    cases o:y.kids[k]? with
    |none=>rw[o] at e;cases e
    | some z =>
     rw[o] at e
     simp only at e
     obtain ⟨q,s2,g,e⟩:=Aw e
     obtain ⟨a,s3,i,e⟩:=Aw e
     obtain ⟨a',s4,u,e⟩:=Aw e
     obtain ⟨b,s5,v,e⟩:=Aw e
     obtain ⟨b',s6,w,e⟩:=Aw e
     cases e
     have hq:=Dd d f ⟨z,x.An-1⟩ r s1 q s2 g L U l B (by simp only;omega) (by simp only;omega)
     have ha:=DM i
     have hb:=DM v
     rw[List.length_take] at ha
     rw[List.length_drop] at hb
     have D:=Gr c u L (U+14*(f+1)) l (by omega) (by omega) (by omega) (by omega) (by omega)
     have G:=Gr c w L (U+14*(f+1)) l (by omega) (by omega) (by omega) (by omega) (by omega)
     simp only
     omega
end
end Go.Proofs.YtfhbmblbidcmmaaGreat
namespace Go.Proofs.YtfhbmblbidcmmaaGreat
open Go.RowKit Go.Sl
theorem ZN{b T:Nat}{g j k l m a c d e f:Value}{F:Ac}{w:World}(hs:Sat (Sl.block b T [g,j,k,l,m]*F) w):
 Sat (Sl.block b T [a,c,d,e,f]*F) (((((w.setCell ⟨b,0,none⟩ a).setCell ⟨b,1,none⟩ c).setCell ⟨b,2,none⟩ d).setCell ⟨b,3,none⟩ e).setCell ⟨b,4,none⟩ f):=by
 haveI:=hs.i
 exact A8 (by rfl)
class Ko (A:Ac) (b:Nat) (T:outParam Nat) (l:outParam (List Value)) (R:outParam Ac):Prop where
 out:A=Sl.block b T l*R
instance(priority:=1200) takeB_here {b T:Nat} {l:List Value} {R:Ac} :Ko (Sl.block b T l*R) b T l R:=⟨rfl⟩
instance(priority:=1100) takeB_self {b T:Nat} {l:List Value} :Ko (Sl.block b T l) b T l 1:=⟨by rw[Fu,Am]⟩
instance(priority:=1000) takeB_right {A B R:Ac} {b T:Nat} {l:List Value} [h:Ko B b T l R]:Ko (A*B) b T l (A*R):=⟨by rw[h.out];ac_rfl⟩
instance(priority:=900) takeB_left {A B R:Ac} {b T:Nat} {l:List Value} [h:Ko A b T l R]:Ko (A*B) b T l (R*B):=⟨by rw[h.out];ac_rfl⟩
instance(priority:=30000) store5I {A R:Ac} {b T:Nat} {a0 a1 a2 a3 a4 v0 v1 v2 v3 v4:Value} {w:World} [h:BG A w] [t:Ko A b T [a0,a1,a2,a3,a4] R]:
 BG (Sl.block b T [v0,v1,v2,v3,v4]*R) (((((w.setCell ⟨b,0,none⟩ v0).setCell ⟨b,1,none⟩ v1).setCell ⟨b,2,none⟩ v2).setCell ⟨b,3,none⟩ v3).setCell ⟨b,4,none⟩ v4):=⟨ZN (h.out.eq t.out)⟩
theorem ZM{b T:Nat}{a v:Value}{F:Ac}{w:World}(hs:Sat (Sl.block b T [a]*F) w):Sat (Sl.block b T [v]*F) (w.setCell ⟨b,0,none⟩ v):=by
 haveI:=hs.i
 exact A8 (by rfl)
instance(priority:=25000) store1I {A R:Ac} {b T:Nat} {a v:Value} {w:World} [h:BG A w] [t:Ko A b T [a] R]:BG (Sl.block b T [v]*R) (w.setCell ⟨b,0,none⟩ v):=⟨ZM (h.out.eq t.out)⟩
theorem Q'{A R R' a b c d e f g:Ac}{w:World}[h:BG A w](X Y Z V U T P Q S:Ac)[t:Take A X R][t':Take R Y R'][t'':Take R' Z a][t3:Take a V b][t4:Take b U c][t5:Take c T d][t6:Take d P e][t7:Take e Q f][t8:Take f S g]:Sat (X*(Y*(Z*(V*(U*(T*(P*(Q*S)))))))) w:=Sat.CR (B:=g) ((h.out.Mi X Y Z).eq (by rw[t3.out,t4.out,t5.out,t6.out,t7.out,t8.out];ac_rfl))
theorem WM{A R R' a b c d e:Ac}{w:World}[h:BG A w](X Y Z V U T P:Ac)[t:Take A X R][t':Take R Y R'][t'':Take R' Z a][t3:Take a V b][t4:Take b U c][t5:Take c T d][t6:Take d P e]:Sat (X*(Y*(Z*(V*(U*(T*P)))))) w:=Sat.CR (B:=e) ((h.out.Mi X Y Z).eq (by rw[t3.out,t4.out,t5.out,t6.out];ac_rfl))
open Go.Dk Go.Tr
def Ox(p:BH×BH)(v:Value)(B:Ac):Prop:=v= .tuple #[AH p.1,AH p.2]∧B=1
theorem N1(f:Nat)(h:Th)(s:TS)(x:BH)(n:Int)(F:Ac)(w:World)(hs:Sat (Ad h s*F) w)(p:n≤0):
 Calls Tryz.prog 98 #[.pointer (some ⟨h.t,0,none⟩),AH x,.int .i64 n] w (D4 h F (Be Ah Ag f x n s) Ox):=by
 have c:Be Ah Ag f x n s= .ok (Co,x) s:=by unfold Be;rw[if_pos p];rfl
 rw[c]
 clear c
 obtain ⟨⟨g,j,k,l⟩,m⟩:=x
 have a:=KM
 unfold AH Co D' at a
 unfold AH
 simp only at a
 haveI:=hs.i
 go_enter Tryz.func98,Tryz.ntmps98
 go_upto_region 2 with (fail)
 obtain ⟨N,o⟩: ∃N,w.heap.size=N:=⟨_,rfl⟩
 have b:Sat (Ad h s*(Sl.block (N+2) CG [.int .i64 0,.int .i64 0,.int .i64 0,.int .i64 0,.int .i64 0]*(Sl.block (N+1) CG [.int .i64 0,.int .i64 0,.int .i64 0,.int .i64 0,.int .i64 0]*(Sl.block N CG [.int .i64 g,.int .i64 j,.int .i64 k,.int .i64 l,.int .i64 m]*F)))) (((w.alloc (.cells #[.int .i64 g,.int .i64 j,.int .i64 k,.int .i64 l,.int .i64 m] CG)).alloc (.cells #[.int .i64 0,.int .i64 0,.int .i64 0,.int .i64 0,.int .i64 0] CG)).alloc (.cells #[.int .i64 0,.int .i64 0,.int .i64 0,.int .i64 0,.int .i64 0] CG)):=by
  rw[←o]
  exact A8 (by ac_rfl)
 rw[o]
 generalize ((w.alloc (.cells #[.int .i64 g,.int .i64 j,.int .i64 k,.int .i64 l,.int .i64 m] CG)).alloc (.cells #[.int .i64 0,.int .i64 0,.int .i64 0,.int .i64 0,.int .i64 0] CG)).alloc (.cells #[.int .i64 0,.int .i64 0,.int .i64 0,.int .i64 0,.int .i64 0] CG)=w0 at b⊢
 have d:Sat (Ad h s*(Sl.block (N+1+1) CG [.int .i64 0,.int .i64 0,.int .i64 0,.int .i64 0,.int .i64 0]*(Sl.block (N+1) CG [.int .i64 0,.int .i64 0,.int .i64 0,.int .i64 0,.int .i64 0]*(Sl.block N CG [.int .i64 g,.int .i64 j,.int .i64 k,.int .i64 l,.int .i64 m]*F)))) w0:=b
 clear o hs this b
 have b:=d
 clear d
 haveI:=b.i
 go_region_law (first
  |(
   go_simp
   go_at_call 143
   with_reducible refine Calls.mono (a _ _ b) ?_
   rintro e q ⟨rfl,d⟩
   haveI:=d.i))
 all_goals
  go_wp2
  go_returns
  exact ⟨_,1,rfl,⟨rfl,rfl⟩,by rw[Am];exact Av _ _⟩
theorem LZ(f:Nat)(h:Th)(s:TS)(x:BH)(n:Int)(F:Ac)(w:World)(hs:Sat (Ad h s*F) w)(q: ¬n≤0)(p:x.DK.bytes≤n):
 Calls Tryz.prog 98 #[.pointer (some ⟨h.t,0,none⟩),AH x,.int .i64 n] w (D4 h F (Be Ah Ag f x n s) Ox):=by
 have c:Be Ah Ag f x n s= .ok (x,Co) s:=by unfold Be;rw[if_neg q,if_pos p];rfl
 rw[c]
 clear c
 obtain ⟨⟨g,j,k,l⟩,m⟩:=x
 simp only at p
 have a:=KM
 unfold AH Co D' at a
 unfold AH
 simp only at a
 haveI:=hs.i
 go_enter Tryz.func98,Tryz.ntmps98
 go_upto_region 4 with (fail)
 obtain ⟨N,o⟩: ∃N,w.heap.size=N:=⟨_,rfl⟩
 have b:Sat (Ad h s*(Sl.block (N+2) CG [.int .i64 0,.int .i64 0,.int .i64 0,.int .i64 0,.int .i64 0]*(Sl.block (N+1) CG [.int .i64 0,.int .i64 0,.int .i64 0,.int .i64 0,.int .i64 0]*(Sl.block N CG [.int .i64 g,.int .i64 j,.int .i64 k,.int .i64 l,.int .i64 m]*F)))) (((w.alloc (.cells #[.int .i64 g,.int .i64 j,.int .i64 k,.int .i64 l,.int .i64 m] CG)).alloc (.cells #[.int .i64 0,.int .i64 0,.int .i64 0,.int .i64 0,.int .i64 0] CG)).alloc (.cells #[.int .i64 0,.int .i64 0,.int .i64 0,.int .i64 0,.int .i64 0] CG)):=by
  rw[←o]
  exact A8 (by ac_rfl)
 rw[o]
 generalize ((w.alloc (.cells #[.int .i64 g,.int .i64 j,.int .i64 k,.int .i64 l,.int .i64 m] CG)).alloc (.cells #[.int .i64 0,.int .i64 0,.int .i64 0,.int .i64 0,.int .i64 0] CG)).alloc (.cells #[.int .i64 0,.int .i64 0,.int .i64 0,.int .i64 0,.int .i64 0] CG)=w0 at b⊢
 have d:Sat (Ad h s*(Sl.block (N+1+1) CG [.int .i64 0,.int .i64 0,.int .i64 0,.int .i64 0,.int .i64 0]*(Sl.block (N+1) CG [.int .i64 0,.int .i64 0,.int .i64 0,.int .i64 0,.int .i64 0]*(Sl.block N CG [.int .i64 g,.int .i64 j,.int .i64 k,.int .i64 l,.int .i64 m]*F)))) w0:=b
 clear o hs this b
 have b:=d
 clear d
 haveI:=b.i
 go_region_law (first
  |(
   go_simp
   go_at_call 143
   with_reducible refine Calls.mono (a _ _ b) ?_
   rintro e r ⟨rfl,d⟩
   haveI:=d.i))
 all_goals
  go_wp2
  go_returns
  exact ⟨_,1,rfl,⟨rfl,rfl⟩,by rw[Am];exact Av _ _⟩
