/- censusPages holds for every input. No condition. (part 36) -/
import Derived.Test.YtfhbmblbidcmmaaGreatVa32
set_option linter.all false
set_option maxRecDepth 100000
set_option maxHeartbeats 3200000
namespace Go.Tr
def DB{σ:Type}(rd:Int→M σ Nd)(k:Kd)(f:Nat)(n:Nd)(h:Int):M σ BJ:=M.bind (C7 rd f n h) fun h=>M.pure ⟨k,h⟩
theorem gA{σ:Type}{rd:Int→M σ Nd}{k:Kd}{n:Nd}(hl:n.leaf=true)(f:Nat)(h:Int)(s:σ):DB rd k f n h s= .ok ⟨k,h⟩ s:=by
 unfold DB M.bind
 cases f<;>(unfold C7;rw[if_pos hl];rfl)
theorem gC{σ:Type}{rd:Int→M σ Nd}{k:Kd}{n:Nd}(hl:n.leaf=false)(h:Int)(s:σ):DB rd k 0 n h s= .fault 13 s:=by
 unfold DB M.bind C7
 rw[if_neg (by rw[hl];exact Bool.false_ne_true)]
 rfl
theorem jW{σ:Type}{rd:Int→M σ Nd}{k:Kd}{n:Nd}(hl:n.leaf=false)(a:n.kids= [])(f:Nat)(h:Int)(s:σ):DB rd k (f+1) n h s= .bad:=by
 unfold DB M.bind C7
 rw[if_neg (by rw[hl];exact Bool.false_ne_true),a]
 rfl
theorem gB{σ:Type}{rd:Int→M σ Nd}{k:Kd}{n:Nd}{z:Kd}{zs:List Kd}(hl:n.leaf=false)(a:n.kids=z::zs)(f:Nat)(h:Int)(s:σ):DB rd k (f+1) n h s=M.bind (rd z.Ap) (fun m=>DB rd k f m (h+1)) s:=by
 unfold DB
 rw[C7]
 rw[if_neg (by rw[hl];exact Bool.false_ne_true),a]
 unfold M.bind
 simp only
 cases rd z.Ap s<;>rfl
end Go.Tr
namespace Go.Proofs.YtfhbmblbidcmmaaGreat
open Go.RowKit Go.Sl Go.Dk Go.Tr
theorem Xe(h:Th)(s:TS)(root:Int)(F:Ab)(w:World)(hs:Sat (Ad h s*F) w)(V:EC Ah root s≠ .bad):
 Calls Tryz.prog 96 #[.pointer (some ⟨h.t,0,none⟩),.int .i64 root] w (DT h F (EC Ah root s) Q3):=by
 obtain ⟨R,L⟩:=Aq (EC Ah root s)
 rw[L] at V⊢
 have W:Aside (R≠ .bad):=V
 clear V
 unfold EC at L
 haveI:=hs.i
 by_cases h0:root=0
 ·rw[if_pos h0] at L
  have a:R= .ok C2 s:=L.symm
  subst a
  subst h0
  clear L W
  go_enter Tryz.func96,Tryz.ntmps96
  go_wp2_with fail
  with_reducible refine Calls.mono (LF _ _ (Ae (Ad h s))) ?_
  rintro e w2 ⟨rfl,X⟩
  haveI:=X.i
  unfold Bj C2 kQ
  go_wp2
  go_returns
  exact ⟨_,1,rfl,⟨rfl,rfl⟩,by rw[Aw];exact Ao _ _⟩
 rw[if_neg h0] at L
 have HR:Aside (M.bind (Ah root) (fun n=>DB Ah (Js root n) 20 n 0) s=R):=L
 obtain ⟨m,hm⟩:=Aq (Ah root s)
 have H:=Bi HR.out W.out
 have c:=fun F w q n=>Cw h s root F w q n
 rw[hm] at H c
 have T:Aside (Ah root s=m):=hm
 clear L hm
 go_enter Tryz.func96,Tryz.ntmps96
 go_wp2_with fail
 with_reducible refine Calls.mono (c _ _ (Ae (Ad h s)) H) ?_
 rintro e w2 h2
 cases m with
 |bad=>exact absurd rfl H
 | fault er s2 =>
  obtain ⟨rfl,X⟩:=h2
  haveI:=X.i
  have a:=B4 HR.out T.out
  subst a
  exact ⟨rfl,rfl,Ao _ _⟩
 | ok n s2 =>
  obtain ⟨v2,Y,rfl,⟨hN,U⟩,X⟩:=h2
  have o:=Be HR.out T.out
  have HG:Aside (DB Ah (Js root n) 20 n 0 s2=R):=o
  clear o c H HR T
  have Z:Aside (may n=true):=U
  obtain ⟨se,sk,rfl,p,l⟩:=hN
  obtain ⟨B,c1,rfl,ah,ai⟩:=p.v
  obtain ⟨I,c2,rfl,aj,ak⟩:=Aj.v l
  obtain ⟨b7,b8⟩:=Cm U
  have P:=fun F w q=>Ka n (.agg #[.bool n.leaf,.slice B n.Ag.length c1,.slice I n.kids.length c2]) Y F w ⟨_,_,rfl,p,l⟩ q (by omega) (by omega)
  have HN:Aside (AJ (1*Y) (.agg #[.bool n.leaf,.slice B n.Ag.length c1,.slice I n.kids.length c2]) n):=by
   refine ⟨_,_,rfl,?_,?_⟩
   · exact Aj.right p
   exact Aj.right l
  haveI:=X.i
  clear p l U
  go_wp2_with fail
  with_reducible refine Calls.mono (P _ _ (Ae Y)) ?_
  rintro e w3 ⟨rfl,q3⟩
  haveI:=q3.i
  clear P
  go_wp2_with fail
  have Q:Aside (DB Ah ⟨root,(AR n).1,(AR n).2.1,(AR n).2.2⟩ 20 n 0 s2=R):=HG.out
  obtain ⟨J,a4⟩:=Aq ((AR n).1)
  obtain ⟨b2,a5⟩:=Aq ((AR n).2.1)
  obtain ⟨K,a6⟩:=Aq ((AR n).2.2)
  rw[a4,a5,a6] at Q⊢
  clear a4 a5 a6 HG
  have q4:Sat (Ad h s2*((1*Y)*(Sl.block w3.heap.size DH [.int .i64 root,.int .i64 J,.int .i64 b2,.int .i64 K,.int .i64 0]*(Sl.block w2.heap.size C1 [.bool n.leaf,.slice B n.Ag.length c1,.slice I n.kids.length c2]*(Sl.block w.heap.size DH [.int .i64 0,.int .i64 0,.int .i64 0,.int .i64 0,.int .i64 0]*F)))))
   (w3.alloc (.cells #[.int .i64 root,.int .i64 J,.int .i64 b2,.int .i64 K,.int .i64 0] DH)):=by rw[Aw];exact Av (by ac_rfl)
  obtain ⟨N0,a0⟩:=Aq w.heap.size
  obtain ⟨N5,D⟩:=Aq w2.heap.size
  obtain ⟨N9,a3⟩:=Aq w3.heap.size
  rw[a0,D,a3] at q4⊢
  clear a0 D a3 q3 X hs this
  go_loopg [28] 20 (fun g bc wr=> ∃(f:Nat)(m:Nd)(d:Int)(B:Option Addr)(c1:Nat)(I:Option Addr)(c2:Nat)(G:Ab)(s':TS),0≤d∧d+f=20∧Aside (g=f∧DB Ah ⟨root,J,b2,K⟩ f m d s'=R)∧Aside (may m=true∧AJ G (.agg #[.bool m.leaf,.slice B m.Ag.length c1,.slice I m.kids.length c2]) m)∧
   Sat (Ad h s'*(G*(Sl.block N9 DH [.int .i64 root,.int .i64 J,.int .i64 b2,.int .i64 K,.int .i64 d]*(Sl.block N5 C1 [.bool m.leaf,.slice B m.Ag.length c1,.slice I m.kids.length c2]*(Sl.block N0 DH [.int .i64 0,.int .i64 0,.int .i64 0,.int .i64 0,.int .i64 0]*F))))) wr)
  case atStart=>exact ⟨20,n,0,B,c1,I,c2,1*Y,s2,by omega,by omega,⟨rfl,Q.out⟩,⟨Z.out,HN.out⟩,q4⟩
  obtain ⟨f,m,d,B,c1,I,c2,G,s',b5,b6,A,y,k⟩:=hrel
  clear q4 HN Z Q
  haveI:=k.i
  cases j:m.leaf with
  | true =>
    have a:R= .ok ⟨⟨root,J,b2,K⟩,d⟩ s':=by rw[←A.out.2,gA j]
    subst a
    rw[j] at k
    haveI:=k.i
    clear A y W
    go_wp2
    go_returns
    exact ⟨_,1,rfl,⟨rfl,rfl⟩,by rw[Aw];exact Ao _ _⟩
  | false =>
    have hw:=Bg (d+1) (by omega)
    rw[j] at k
    haveI:=k.i
    cases f with
    | zero =>
      have a:R= .fault 13 s':=by rw[←A.out.2,gC j]
      subst a
      have dW:(20:Int)<d+1:=by omega
      clear A y W
      go_wp2_with fail
      exact ⟨rfl,rfl,Ao _ _⟩
    | succ f =>
      have dW: ¬(20:Int)<d+1:=by omega
      have HA:Aside (gk=f+1):=A.out.1
      cases hk:m.kids with
      |nil=>exact absurd ((jW j hk f d s').symm.trans A.out.2).symm W.out
      | cons z zs =>
       have HS:Aside (M.bind (Ah z.Ap) (fun m=>DB Ah ⟨root,J,b2,K⟩ f m (d+1)) s'=R):=(by rw[←gB j hk];exact A.out.2:_=_)
       obtain ⟨vE,vK,hv,p,l⟩:=y.out.2
       cases hv
       obtain ⟨b,q,rfl,r1,r2,r3,r4⟩:=Co l (i:=0) (x:=z) (by rw[hk];rfl)
       have ax:(0:Int)<(m.kids.length:Nat):=by rw[hk];simp
       obtain ⟨r,hr⟩:=Aq (Ah z.Ap s')
       have H:=Bi HS.out W.out
       have c:=fun F w q n=>Cw h s' z.Ap F w q n
       rw[hr] at H c
       have T:Aside (Ah z.Ap s'=r):=hr
       obtain ⟨z1,z2,z3,z4⟩:=z
       clear A p l hk y hr
       haveI:=k.i
       go_wp2_with fail
       with_reducible refine Calls.mono (c _ _ (Ae (Ad h s')) H) ?_
       rintro e w4 h4
       cases r with
       |bad=>exact absurd rfl H
       | fault er s3 =>
        obtain ⟨rfl,q5⟩:=h4
        haveI:=q5.i
        have a:=B4 HS.out T.out
        subst a
        exact ⟨rfl,rfl,Ao _ _⟩
       | ok u s3 =>
        obtain ⟨v5,B5,rfl,⟨D,O⟩,q5⟩:=h4
        have o:=Be HS.out T.out
        have HG:Aside (DB Ah ⟨root,J,b2,K⟩ f u (d+1) s3=R):=o
        obtain ⟨se,sk,rfl,p,l⟩:=D
        obtain ⟨a7,c7,rfl,ah,ai⟩:=p.v
        obtain ⟨a8,c8,rfl,aj,ak⟩:=Aj.v l
        have ae:Aside (may u=true∧AJ B5 (.agg #[.bool u.leaf,.slice a7 u.Ag.length c7,.slice a8 u.kids.length c8]) u):=⟨O,_,_,rfl,p,l⟩
        haveI:=q5.i
        clear o c H HS T p l O
        go_wp2_with fail
        go_roundg f
        case measure=>have:=HA.out;omega
        refine ⟨f,u,d+1,a7,c7,a8,c8,B5,s3,by omega,by omega,⟨rfl,HG.out⟩,ae.out,?_⟩
        show Sat (Ad h s3*(B5*(Sl.block N9 DH ([.int .i64 root,.int .i64 J,.int .i64 b2,.int .i64 K,.int .i64 d].set 4 (.int .i64 (d+1)))*(Sl.block N5 C1 ((([.bool false,.slice B m.Ag.length c1,.slice (some ⟨b,q,none⟩) m.kids.length c2].set 0 (.bool u.leaf)).set 1 (.slice a7 u.Ag.length c7)).set 2 (.slice a8 u.kids.length c8))*(Sl.block N0 DH [.int .i64 0,.int .i64 0,.int .i64 0,.int .i64 0,.int .i64 0]*F))))) _
        exact E3 _ _ _ _ _ _
