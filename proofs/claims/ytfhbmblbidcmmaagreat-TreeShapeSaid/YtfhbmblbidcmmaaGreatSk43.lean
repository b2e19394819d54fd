/- treeShape holds for every input. No condition. (part 43) -/
import Derived.Test.YtfhbmblbidcmmaaGreatSk29
set_option linter.all false
set_option maxRecDepth 100000
set_option maxHeartbeats 3200000
namespace Go.Tr
def Dz{σ:Type}(rd:Int→M σ Nd)(k:Kd)(f:Nat)(n:Nd)(h:Int):M σ BG:=M.bind (CB rd f n h) fun h=>M.pure ⟨k,h⟩
theorem aW{σ:Type}{rd:Int→M σ Nd}{k:Kd}{n:Nd}(hl:n.leaf=true)(f:Nat)(h:Int)(s:σ):Dz rd k f n h s= .ok ⟨k,h⟩ s:=by
 unfold Dz M.bind
 cases f<;>(unfold CB;rw[if_pos hl];rfl)
theorem aY{σ:Type}{rd:Int→M σ Nd}{k:Kd}{n:Nd}(hl:n.leaf=false)(h:Int)(s:σ):Dz rd k 0 n h s= .fault 13 s:=by
 unfold Dz M.bind CB
 rw[if_neg (by rw[hl];exact Bool.false_ne_true)]
 rfl
theorem dR{σ:Type}{rd:Int→M σ Nd}{k:Kd}{n:Nd}(hl:n.leaf=false)(a:n.kids= [])(f:Nat)(h:Int)(s:σ):Dz rd k (f+1) n h s= .bad:=by
 unfold Dz M.bind CB
 rw[if_neg (by rw[hl];exact Bool.false_ne_true),a]
 rfl
theorem aX{σ:Type}{rd:Int→M σ Nd}{k:Kd}{n:Nd}{z:Kd}{zs:List Kd}(hl:n.leaf=false)(a:n.kids=z::zs)(f:Nat)(h:Int)(s:σ):Dz rd k (f+1) n h s=M.bind (rd z.As) (fun m=>Dz rd k f m (h+1)) s:=by
 unfold Dz
 rw[CB]
 rw[if_neg (by rw[hl];exact Bool.false_ne_true),a]
 unfold M.bind
 simp only
 cases rd z.As s<;>rfl
end Go.Tr
namespace Go.Proofs.YtfhbmblbidcmmaaGreat
open Go.RowKit Go.Sl Go.Dk Go.Tr
theorem VD(h:Th)(s:TS)(root:Int)(F:Ac)(w:World)(hs:Sat (Ae h s*F) w)(V:Ev Ai root s≠ .bad):
 Calls Tryz.prog 96 #[.pointer (some ⟨h.t,0,none⟩),.int .i64 root] w (DE h F (Ev Ai root s) P9):=by
 obtain ⟨R,L⟩:=Aq (Ev Ai root s)
 rw[L] at V⊢
 have W:Aside (R≠ .bad):=V
 clear V
 unfold Ev at L
 haveI:=hs.i
 by_cases h0:root=0
 ·rw[if_pos h0] at L
  have a:R= .ok C4 s:=L.symm
  subst a
  subst h0
  clear L W
  go_enter Tryz.func96,Tryz.ntmps96
  go_wp2_with fail
  with_reducible refine Calls.mono (Ll _ _ (Af (Ae h s))) ?_
  rintro e w2 ⟨rfl,X⟩
  haveI:=X.i
  unfold Bd C4 eK
  go_wp2
  go_returns
  exact ⟨_,1,rfl,⟨rfl,rfl⟩,by rw[Aw];exact Ap _ _⟩
 rw[if_neg h0] at L
 have HR:Aside (M.bind (Ai root) (fun n=>Dz Ai (IZ root n) 20 n 0) s=R):=L
 obtain ⟨m,hm⟩:=Aq (Ai root s)
 have H:=AX HR.out W.out
 have c:=fun F w q n=>Cw h s root F w q n
 rw[hm] at H c
 have T:Aside (Ai root s=m):=hm
 clear L hm
 go_enter Tryz.func96,Tryz.ntmps96
 go_wp2_with fail
 with_reducible refine Calls.mono (c _ _ (Af (Ae h s)) H) ?_
 rintro e w2 h2
 cases m with
 |bad=>exact absurd rfl H
 | fault er s2 =>
  obtain ⟨rfl,X⟩:=h2
  haveI:=X.i
  have a:=Bn HR.out T.out
  subst a
  exact ⟨rfl,rfl,Ap _ _⟩
 | ok n s2 =>
  obtain ⟨v2,Y,rfl,⟨hN,U⟩,X⟩:=h2
  have o:=AW HR.out T.out
  have HG:Aside (Dz Ai (IZ root n) 20 n 0 s2=R):=o
  clear o c H HR T
  have Z:Aside (may n=true):=U
  obtain ⟨se,sk,rfl,p,l⟩:=hN
  obtain ⟨B,c1,rfl,ah,ai⟩:=p.v
  obtain ⟨I,c2,rfl,aj,ak⟩:=Al.v l
  obtain ⟨b7,b8⟩:=Cs U
  have P:=fun F w q=>JJ n (.agg #[.bool n.leaf,.slice B n.Ag.length c1,.slice I n.kids.length c2]) Y F w ⟨_,_,rfl,p,l⟩ q (by omega) (by omega)
  have HN:Aside (AG (1*Y) (.agg #[.bool n.leaf,.slice B n.Ag.length c1,.slice I n.kids.length c2]) n):=by
   refine ⟨_,_,rfl,?_,?_⟩
   · exact Al.right p
   exact Al.right l
  haveI:=X.i
  clear p l U
  go_wp2_with fail
  with_reducible refine Calls.mono (P _ _ (Af Y)) ?_
  rintro e w3 ⟨rfl,q3⟩
  haveI:=q3.i
  clear P
  go_wp2_with fail
  have Q:Aside (Dz Ai ⟨root,(AS n).1,(AS n).2.1,(AS n).2.2⟩ 20 n 0 s2=R):=HG.out
  obtain ⟨J,a4⟩:=Aq ((AS n).1)
  obtain ⟨b2,a5⟩:=Aq ((AS n).2.1)
  obtain ⟨K,a6⟩:=Aq ((AS n).2.2)
  rw[a4,a5,a6] at Q⊢
  clear a4 a5 a6 HG
  have q4:Sat (Ae h s2*((1*Y)*(Sl.block w3.heap.size D5 [.int .i64 root,.int .i64 J,.int .i64 b2,.int .i64 K,.int .i64 0]*(Sl.block w2.heap.size C0 [.bool n.leaf,.slice B n.Ag.length c1,.slice I n.kids.length c2]*(Sl.block w.heap.size D5 [.int .i64 0,.int .i64 0,.int .i64 0,.int .i64 0,.int .i64 0]*F)))))
   (w3.alloc (.cells #[.int .i64 root,.int .i64 J,.int .i64 b2,.int .i64 K,.int .i64 0] D5)):=by rw[Aw];exact Av (by ac_rfl)
  obtain ⟨N0,a0⟩:=Aq w.heap.size
  obtain ⟨N5,D⟩:=Aq w2.heap.size
  obtain ⟨N9,a3⟩:=Aq w3.heap.size
  rw[a0,D,a3] at q4⊢
  clear a0 D a3 q3 X hs this
  go_loopg [28] 20 (fun g bc wr=> ∃(f:Nat)(m:Nd)(d:Int)(B:Option Addr)(c1:Nat)(I:Option Addr)(c2:Nat)(G:Ac)(s':TS),0≤d∧d+f=20∧Aside (g=f∧Dz Ai ⟨root,J,b2,K⟩ f m d s'=R)∧Aside (may m=true∧AG G (.agg #[.bool m.leaf,.slice B m.Ag.length c1,.slice I m.kids.length c2]) m)∧
   Sat (Ae h s'*(G*(Sl.block N9 D5 [.int .i64 root,.int .i64 J,.int .i64 b2,.int .i64 K,.int .i64 d]*(Sl.block N5 C0 [.bool m.leaf,.slice B m.Ag.length c1,.slice I m.kids.length c2]*(Sl.block N0 D5 [.int .i64 0,.int .i64 0,.int .i64 0,.int .i64 0,.int .i64 0]*F))))) wr)
  case atStart=>exact ⟨20,n,0,B,c1,I,c2,1*Y,s2,by omega,by omega,⟨rfl,Q.out⟩,⟨Z.out,HN.out⟩,q4⟩
  obtain ⟨f,m,d,B,c1,I,c2,G,s',b5,b6,A,y,k⟩:=hrel
  clear q4 HN Z Q
  haveI:=k.i
  cases j:m.leaf with
  | true =>
    have a:R= .ok ⟨⟨root,J,b2,K⟩,d⟩ s':=by rw[←A.out.2,aW j]
    subst a
    rw[j] at k
    haveI:=k.i
    clear A y W
    go_wp2
    go_returns
    exact ⟨_,1,rfl,⟨rfl,rfl⟩,by rw[Aw];exact Ap _ _⟩
  | false =>
    have hw:=Bc (d+1) (by omega)
    rw[j] at k
    haveI:=k.i
    cases f with
    | zero =>
      have a:R= .fault 13 s':=by rw[←A.out.2,aY j]
      subst a
      have Zh:(20:Int)<d+1:=by omega
      clear A y W
      go_wp2_with fail
      exact ⟨rfl,rfl,Ap _ _⟩
    | succ f =>
      have Zh: ¬(20:Int)<d+1:=by omega
      have HA:Aside (gk=f+1):=A.out.1
      cases hk:m.kids with
      |nil=>exact absurd ((dR j hk f d s').symm.trans A.out.2).symm W.out
      | cons z zs =>
       have HS:Aside (M.bind (Ai z.As) (fun m=>Dz Ai ⟨root,J,b2,K⟩ f m (d+1)) s'=R):=(by rw[←aX j hk];exact A.out.2:_=_)
       obtain ⟨vE,vK,hv,p,l⟩:=y.out.2
       cases hv
       obtain ⟨b,q,rfl,r1,r2,r3,r4⟩:=Co l (i:=0) (x:=z) (by rw[hk];rfl)
       have ax:(0:Int)<(m.kids.length:Nat):=by rw[hk];simp
       obtain ⟨r,hr⟩:=Aq (Ai z.As s')
       have H:=AX HS.out W.out
       have c:=fun F w q n=>Cw h s' z.As F w q n
       rw[hr] at H c
       have T:Aside (Ai z.As s'=r):=hr
       obtain ⟨z1,z2,z3,z4⟩:=z
       clear A p l hk y hr
       haveI:=k.i
       go_wp2_with fail
       with_reducible refine Calls.mono (c _ _ (Af (Ae h s')) H) ?_
       rintro e w4 h4
       cases r with
       |bad=>exact absurd rfl H
       | fault er s3 =>
        obtain ⟨rfl,q5⟩:=h4
        haveI:=q5.i
        have a:=Bn HS.out T.out
        subst a
        exact ⟨rfl,rfl,Ap _ _⟩
       | ok u s3 =>
        obtain ⟨v5,B5,rfl,⟨D,O⟩,q5⟩:=h4
        have o:=AW HS.out T.out
        have HG:Aside (Dz Ai ⟨root,J,b2,K⟩ f u (d+1) s3=R):=o
        obtain ⟨se,sk,rfl,p,l⟩:=D
        obtain ⟨a7,c7,rfl,ah,ai⟩:=p.v
        obtain ⟨a8,c8,rfl,aj,ak⟩:=Al.v l
        have ae:Aside (may u=true∧AG B5 (.agg #[.bool u.leaf,.slice a7 u.Ag.length c7,.slice a8 u.kids.length c8]) u):=⟨O,_,_,rfl,p,l⟩
        haveI:=q5.i
        clear o c H HS T p l O
        go_wp2_with fail
        go_roundg f
        case measure=>have:=HA.out;omega
        refine ⟨f,u,d+1,a7,c7,a8,c8,B5,s3,by omega,by omega,⟨rfl,HG.out⟩,ae.out,?_⟩
        show Sat (Ae h s3*(B5*(Sl.block N9 D5 ([.int .i64 root,.int .i64 J,.int .i64 b2,.int .i64 K,.int .i64 d].set 4 (.int .i64 (d+1)))*(Sl.block N5 C0 ((([.bool false,.slice B m.Ag.length c1,.slice (some ⟨b,q,none⟩) m.kids.length c2].set 0 (.bool u.leaf)).set 1 (.slice a7 u.Ag.length c7)).set 2 (.slice a8 u.kids.length c8))*(Sl.block N0 D5 [.int .i64 0,.int .i64 0,.int .i64 0,.int .i64 0,.int .i64 0]*F))))) _
        exact Fx _ _ _ _ _ _
