/- treeFails holds for every input. No condition. (part 46) -/
import Derived.Test.YtfhbmblbidcmmaaGreatYa44
import Derived.Test.YtfhbmblbidcmmaaGreatYa45
set_option linter.all false
set_option maxRecDepth 100000
set_option maxHeartbeats 3200000
namespace Go.Tr
variable {V:Int→Option Nd}
def Pt(V:Int→Option Nd):Nat→Int→List Int→Prop
 |0=>fun no ps=>(∃n,V no=some n∧n.kids= [])∧ps= [no]
 |h+1=>fun no ps=> ∃(n:Nd)(a:List (List Int)),V no=some n∧n.kids≠ []∧F2 (fun(k:Kd) b=>Pt V h k.Ay b) n.kids a∧ps=no::a.flatten
theorem F2.eq{α β:Type}{R R':α→β→Prop}(e: ∀a b c,R a b→R' a c→b=c): ∀{l:List α}{m m':List β},F2 R l m→F2 R' l m'→m=m'
 | [],[],[],_,_=>rfl
 |a::l,b::m,c::m',h,d=>by rw[e a b c h.1 d.1,F2.eq e h.2 d.2]
 | [],_::_,_,h,_=>h.elim
 | [],[],_::_,_,h=>h.elim
 |_::_,[],_,h,_=>h.elim
 |_::_,_::_,[],_,h=>h.elim
theorem F2.mem{α β:Type}{R:α→β→Prop} : ∀{l:List α}{m:List β},F2 R l m→ ∀b∈m,∃a∈l,R a b
 | [],[],_,b,h=>by cases h
 | a :: l, c :: m, h, b, hb => by
  rcases List.mem_cons.1 hb with rfl|hb
  ·exact ⟨a,List.mem_cons_self,h.1⟩
  obtain ⟨x,hx,hr⟩:=F2.mem h.2 b hb
  exact ⟨x,List.mem_cons_of_mem _ hx,hr⟩
 | [],_::_,h,_,_=>h.elim
 |_::_,[],h,_,_=>h.elim
theorem Pt.node{h:Nat}{no:Int}{ps:List Int}(hp:Pt V h no ps): ∃n,V no=some n:=by
 cases h with
 |zero=>exact ⟨_,hp.1.choose_spec.1⟩
 |succ h=>obtain ⟨n,_,e,_⟩:=hp;exact ⟨n,e⟩
theorem Pt.mem: ∀{h:Nat}{no:Int}{ps:List Int},Pt V h no ps→ ∀x∈ps,∃d c,d≤h∧Pt V d x c
 | 0, no, ps, hp, x, hx => by
  have e:=hp.2
  rw[e,List.mem_singleton] at hx
  subst hx
  exact ⟨0,ps,Nat.le_refl _,hp⟩
 | h + 1, no, ps, hp, x, hx => by
  obtain ⟨n,m,a,b,f,e⟩:=id hp
  rw[e] at hx
  rcases List.mem_cons.1 hx with rfl|hx
  ·exact ⟨h+1,ps,Nat.le_refl _,hp⟩
  obtain ⟨l,g,hx⟩:=List.mem_flatten.1 hx
  obtain ⟨k,_,j⟩:=f.mem l g
  obtain ⟨d,c,o,i⟩:=Pt.mem j x hx
  exact ⟨d,c,by omega,i⟩
theorem Pt.DK{h:Nat}{no:Int}{n:Nd}{a:List (List Int)}(f:F2 (fun(k:Kd) c=>Pt V h k.Ay c) n.kids a): ∀x∈a.flatten,∃e d,e≤h∧Pt V e x d:=fun x hx=>by
 obtain ⟨c,b,hx⟩:=List.mem_flatten.1 hx
 obtain ⟨k,_,g⟩:=f.mem c b
 exact Pt.mem g x hx
def p9(V:Int→Option Nd)(h:Nat)(l:List Int):Prop:= ∀p∈l,∀a ps,a≤h→Pt V a p ps→ ∀x∈ps,x∈l
theorem p9.nil(h:Nat):p9 V h []:=fun p hp=>by cases hp
open Go.Proofs.YtfhbmblbidcmmaaGreat
variable [G1]
end Go.Tr
namespace Go.Proofs.YtfhbmblbidcmmaaGreat
open Go.RowKit Go.Sl Go.Dk Go.Tr
variable [G1]
theorem Ro(C S:Nat)(F:Ac)(w:World)(hs:Sat F w):
 Calls Tryz.prog 47 #[.pointer (some ⟨C,0,none⟩),.pointer (some ⟨S,0,none⟩)] w fun e a=> ∃t:Nat,e= .returned (.tuple #[.pointer (some ⟨t,0,none⟩),.int .i64 0])∧Sat (Sl.block t St [.pointer (some ⟨C,0,none⟩),.pointer (some ⟨S,0,none⟩)]*F) a:=by
 haveI:=hs.i
 go_enter Tryz.func47,Tryz.ntmps47
 go_wp2
 go_ret2
 exact ⟨_,rfl,Av _ _⟩
abbrev TU:TypeId:=43
theorem U2(room cap:Int)(F:Ac)(w:World)(hs:Sat F w)(j:0≤room)(k:room≤1099511627776)(l:1≤cap)(m:cap≤4096):
 Calls Tryz.prog 11 #[.int .i64 room,.int .i64 cap] w fun e p=> ∃(b:Nat)(h:Th),e= .returned (.pointer (some ⟨b,0,none⟩))∧Sat (Sl.block b TU [.pointer (some ⟨h.D,0,none⟩),.pointer (some ⟨h.C,0,none⟩),.pointer (some ⟨h.S,0,none⟩),.pointer (some ⟨h.t,0,none⟩)]*(Ad h (Jz room cap)*F)) p:=by
 have c:=(U8 room cap j k l m false (by simp)).ts
 have a:Dk.named He=true:=by decide+kernel
 go_enter Tryz.func11,Tryz.ntmps11
 go_wp2_with fail
 with_reducible refine Calls.mono (Xe room F _ hs j k) ?_
 rintro e r ⟨D,rfl,d⟩
 haveI:=d.i
 go_wp2_with fail
 refine Calls.mono (Rn D (Dk.new room) He cap F _ d a l m) ?_
 rintro e s ⟨C,rfl,f⟩
 haveI:=f.i
 go_wp2_with fail
 with_reducible refine Calls.mono (VD 1 _ _ (by omega) (by omega) f) ?_
 rintro e u ⟨S,rfl,g⟩
 haveI:=g.i
 go_wp2_with fail
 with_reducible refine Calls.mono (Ro C S _ _ g) ?_
 rintro e q ⟨t,rfl,n⟩
 have o:Sat (Ad ⟨t,C,S,D⟩ (Jz room cap)*F) q:=CM c (n.eq (by show _=AD C D (O3 room cap)*_;unfold O3;ac_rfl))
 haveI:=o.i
 clear d f g n
 go_wp2
 go_ret
 exact ⟨_,⟨t,C,S,D⟩,rfl,AR _ _ _⟩
end Go.Proofs.YtfhbmblbidcmmaaGreat
namespace Go.Tr
def Dq{σ:Type}(rd:Int→M σ Nd)(k:Kd)(f:Nat)(n:Nd)(h:Int):M σ BH:=M.bind (Cw rd f n h) fun h=>M.pure ⟨k,h⟩
theorem YN{σ:Type}{rd:Int→M σ Nd}{k:Kd}{n:Nd}(hl:n.leaf=true)(f:Nat)(h:Int)(s:σ):Dq rd k f n h s= .ok ⟨k,h⟩ s:=by
 unfold Dq M.bind
 cases f<;>(unfold Cw;rw[if_pos hl];rfl)
theorem YP{σ:Type}{rd:Int→M σ Nd}{k:Kd}{n:Nd}(hl:n.leaf=false)(h:Int)(s:σ):Dq rd k 0 n h s= .fault 13 s:=by
 unfold Dq M.bind Cw
 rw[if_neg (by rw[hl];exact Bool.false_ne_true)]
 rfl
theorem ZH{σ:Type}{rd:Int→M σ Nd}{k:Kd}{n:Nd}(hl:n.leaf=false)(a:n.kids= [])(f:Nat)(h:Int)(s:σ):Dq rd k (f+1) n h s= .bad:=by
 unfold Dq M.bind Cw
 rw[if_neg (by rw[hl];exact Bool.false_ne_true),a]
 rfl
theorem YO{σ:Type}{rd:Int→M σ Nd}{k:Kd}{n:Nd}{z:Kd}{zs:List Kd}(hl:n.leaf=false)(a:n.kids=z::zs)(f:Nat)(h:Int)(s:σ):Dq rd k (f+1) n h s=M.bind (rd z.Ay) (fun m=>Dq rd k f m (h+1)) s:=by
 unfold Dq
 rw[Cw]
 rw[if_neg (by rw[hl];exact Bool.false_ne_true),a]
 unfold M.bind
 simp only
 cases rd z.Ay s<;>rfl
end Go.Tr
namespace Go.Proofs.YtfhbmblbidcmmaaGreat
open Go.RowKit Go.Sl Go.Dk Go.Tr
theorem NJ(h:Th)(s:TS)(root:Int)(F:Ac)(w:World)(hs:Sat (Ad h s*F) w)(X:DN Ah root s≠ .bad):
 Calls Tryz.prog 96 #[.pointer (some ⟨h.t,0,none⟩),.int .i64 root] w (D4 h F (DN Ah root s) J0):=by
 obtain ⟨R,O⟩: ∃R,DN Ah root s=R:=⟨_,rfl⟩
 rw[O] at X⊢
 have Y:Aside (R≠ .bad):=X
 clear X
 unfold DN at O
 haveI:=hs.i
 by_cases h0:root=0
 ·rw[if_pos h0] at O
  have a:R= .ok Co s:=O.symm
  subst a
  subst h0
  clear O Y
  go_enter Tryz.func96,Tryz.ntmps96
  go_wp2_with fail
  with_reducible refine Calls.mono (KM _ _ (Ae (Ad h s))) ?_
  rintro e w2 ⟨rfl,Z⟩
  haveI:=Z.i
  unfold AH Co D'
  go_wp2
  go_returns
  exact ⟨_,1,rfl,⟨rfl,rfl⟩,by rw[Am];exact Av _ _⟩
 rw[if_neg h0] at O
 have HR:Aside (M.bind (Ah root) (fun n=>Dq Ah (Jx root n) 20 n 0) s=R):=O
 obtain ⟨m,hm⟩: ∃m,Ah root s=m:=⟨_,rfl⟩
 have K:=AK HR.out Y.out
 have d:=fun F w q n=>C7 h s root F w q n
 rw[hm] at K d
 have U:Aside (Ah root s=m):=hm
 clear O hm
 go_enter Tryz.func96,Tryz.ntmps96
 go_wp2_with fail
 with_reducible refine Calls.mono (d _ _ (Ae (Ad h s)) K) ?_
 rintro e w2 h2
 cases m with
 |bad=>exact absurd rfl K
 | fault er s2 =>
  obtain ⟨rfl,Z⟩:=h2
  haveI:=Z.i
  have a:=AL HR.out U.out
  subst a
  exact ⟨rfl,rfl,Av _ _⟩
 | ok n s2 =>
  obtain ⟨v2,B2,rfl,⟨hN,W⟩,Z⟩:=h2
  have o:=AJ HR.out U.out
  have HG:Aside (Dq Ah (Jx root n) 20 n 0 s2=R):=o
  clear o d K HR U
  have a3:Aside (may n=true):=W
  obtain ⟨se,sk,rfl,y,l⟩:=hN
  obtain ⟨H,I,rfl,am,an⟩:=y.v
  obtain ⟨L,c2,rfl,ao,ap⟩:=Al.v l
  obtain ⟨bd,be⟩:=Cl W
  have Q:=fun F w q=>L6 n (.agg #[.bool n.leaf,.slice H n.Ao.length I,.slice L n.kids.length c2]) B2 F w ⟨_,_,rfl,y,l⟩ q (by omega) (by omega)
  have HN:Aside (AN (1*B2) (.agg #[.bool n.leaf,.slice H n.Ao.length I,.slice L n.kids.length c2]) n):=by
   refine ⟨_,_,rfl,?_,?_⟩
   · exact Al.right y
   exact Al.right l
  haveI:=Z.i
  clear y l W
  go_wp2_with fail
  with_reducible refine Calls.mono (Q _ _ (Ae B2)) ?_
  rintro e w3 ⟨rfl,q3⟩
  haveI:=q3.i
  clear Q
  go_wp2_with fail
  have T:Aside (Dq Ah ⟨root,(Bl n).1,(Bl n).2.1,(Bl n).2.2⟩ 20 n 0 s2=R):=HG.out
  obtain ⟨p,a6⟩: ∃p,(Bl n).1=p:=⟨_,rfl⟩
  obtain ⟨b2,a9⟩: ∃b2,(Bl n).2.1=b2:=⟨_,rfl⟩
  obtain ⟨u,aa⟩: ∃u,(Bl n).2.2=u:=⟨_,rfl⟩
  rw[a6,a9,aa] at T⊢
  clear a6 a9 aa HG
  have q4:Sat (Ad h s2*((1*B2)*(Sl.block w3.heap.size CG [.int .i64 root,.int .i64 p,.int .i64 b2,.int .i64 u,.int .i64 0]*(Sl.block w2.heap.size Ev [.bool n.leaf,.slice H n.Ao.length I,.slice L n.kids.length c2]*(Sl.block w.heap.size CG [.int .i64 0,.int .i64 0,.int .i64 0,.int .i64 0,.int .i64 0]*F)))))
   (w3.alloc (.cells #[.int .i64 root,.int .i64 p,.int .i64 b2,.int .i64 u,.int .i64 0] CG)):=by rw[Am];exact A8 (by ac_rfl)
  obtain ⟨N0,a4⟩: ∃N,w.heap.size=N:=⟨_,rfl⟩
  obtain ⟨N5,J⟩: ∃N,w2.heap.size=N:=⟨_,rfl⟩
  obtain ⟨N9,a5⟩: ∃N,w3.heap.size=N:=⟨_,rfl⟩
  rw[a4,J,a5] at q4⊢
  clear a4 J a5 q3 Z hs this
  go_loopg [28] 20 (fun g bi wr=> ∃(f:Nat)(m:Nd)(c:Int)(H:Option Addr)(I:Nat)(L:Option Addr)(c2:Nat)(G:Ac)(s':TS),0≤c∧c+f=20∧Aside (g=f∧Dq Ah ⟨root,p,b2,u⟩ f m c s'=R)∧Aside (may m=true∧AN G (.agg #[.bool m.leaf,.slice H m.Ao.length I,.slice L m.kids.length c2]) m)∧
   Sat (Ad h s'*(G*(Sl.block N9 CG [.int .i64 root,.int .i64 p,.int .i64 b2,.int .i64 u,.int .i64 c]*(Sl.block N5 Ev [.bool m.leaf,.slice H m.Ao.length I,.slice L m.kids.length c2]*(Sl.block N0 CG [.int .i64 0,.int .i64 0,.int .i64 0,.int .i64 0,.int .i64 0]*F))))) wr)
  case atStart=>exact ⟨20,n,0,H,I,L,c2,1*B2,s2,by omega,by omega,⟨rfl,T.out⟩,⟨a3.out,HN.out⟩,q4⟩
  obtain ⟨f,m,c,H,I,L,c2,G,s',bb,bc,A,D,k⟩:=hrel
  clear q4 HN a3 T
  haveI:=k.i
  cases j:m.leaf with
  | true =>
    have a:R= .ok ⟨⟨root,p,b2,u⟩,c⟩ s':=by rw[←A.out.2,YN j]
    subst a
    rw[j] at k
    haveI:=k.i
    clear A D Y
    go_wp2
    go_returns
    exact ⟨_,1,rfl,⟨rfl,rfl⟩,by rw[Am];exact Av _ _⟩
  | false =>
    have hw:IntKind.i64.wrap (c+1)=c+1:=IntWalk.i64_in _ (by omega)
    rw[j] at k
    haveI:=k.i
    cases f with
    | zero =>
      have a:R= .fault 13 s':=by rw[←A.out.2,YP j]
      subst a
      have aq:(20:Int)<c+1:=by omega
      clear A D Y
      go_wp2_with fail
      exact ⟨rfl,rfl,Av _ _⟩
    | succ f =>
      have aq: ¬(20:Int)<c+1:=by omega
      have HA:Aside (gk=f+1):=A.out.1
      cases hk:m.kids with
      |nil=>exact absurd ((ZH j hk f c s').symm.trans A.out.2).symm Y.out
      | cons z zs =>
       have HS:Aside (M.bind (Ah z.Ay) (fun m=>Dq Ah ⟨root,p,b2,u⟩ f m (c+1)) s'=R):=(by rw[←YO j hk];exact A.out.2:_=_)
       obtain ⟨vE,vK,hv,y,l⟩:=D.out.2
       cases hv
       obtain ⟨b,q,rfl,r1,r2,r3,r4⟩:=Dc l (i:=0) (x:=z) (by rw[hk];rfl)
       have b6:(0:Int)<(m.kids.length:Nat):=by rw[hk];simp
       obtain ⟨r,hr⟩: ∃r,Ah z.Ay s'=r:=⟨_,rfl⟩
       have K:=AK HS.out Y.out
       have d:=fun F w q n=>C7 h s' z.Ay F w q n
       rw[hr] at K d
       have U:Aside (Ah z.Ay s'=r):=hr
       obtain ⟨z1,z2,z3,z4⟩:=z
       clear A y l hk D hr
       haveI:=k.i
       go_wp2_with fail
       with_reducible refine Calls.mono (d _ _ (Ae (Ad h s')) K) ?_
       rintro e w4 h4
       cases r with
       |bad=>exact absurd rfl K
       | fault er s3 =>
        obtain ⟨rfl,q5⟩:=h4
        haveI:=q5.i
        have a:=AL HS.out U.out
        subst a
        exact ⟨rfl,rfl,Av _ _⟩
       | ok B s3 =>
        obtain ⟨v5,B5,rfl,⟨J,P⟩,q5⟩:=h4
        have o:=AJ HS.out U.out
        have HG:Aside (Dq Ah ⟨root,p,b2,u⟩ f B (c+1) s3=R):=o
        obtain ⟨se,sk,rfl,y,l⟩:=J
        obtain ⟨a7,c7,rfl,am,an⟩:=y.v
        obtain ⟨a8,c8,rfl,ao,ap⟩:=Al.v l
        have ag:Aside (may B=true∧AN B5 (.agg #[.bool B.leaf,.slice a7 B.Ao.length c7,.slice a8 B.kids.length c8]) B):=⟨P,_,_,rfl,y,l⟩
        haveI:=q5.i
        clear o d K HS U y l P
        go_wp2_with fail
        go_roundg f
        case measure=>have:=HA.out;omega
        refine ⟨f,B,c+1,a7,c7,a8,c8,B5,s3,by omega,by omega,⟨rfl,HG.out⟩,ag.out,?_⟩
        show Sat (Ad h s3*(B5*(Sl.block N9 CG ([.int .i64 root,.int .i64 p,.int .i64 b2,.int .i64 u,.int .i64 c].set 4 (.int .i64 (c+1)))*(Sl.block N5 Ev ((([.bool false,.slice H m.Ao.length I,.slice (some ⟨b,q,none⟩) m.kids.length c2].set 0 (.bool B.leaf)).set 1 (.slice a7 B.Ao.length c7)).set 2 (.slice a8 B.kids.length c8))*(Sl.block N0 CG [.int .i64 0,.int .i64 0,.int .i64 0,.int .i64 0,.int .i64 0]*F))))) _
        exact EH _ _ _ _ _ _
