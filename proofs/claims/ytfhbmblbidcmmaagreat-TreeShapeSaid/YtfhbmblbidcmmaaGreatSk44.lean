/- treeShape holds for every input. No condition. (part 44) -/
import Derived.Test.YtfhbmblbidcmmaaGreatSk42
import Derived.Test.YtfhbmblbidcmmaaGreatSk43
import Derived.Test.YtfhbmblbidcmmaaGreatSk40
set_option linter.all false
set_option maxRecDepth 100000
set_option maxHeartbeats 12800000
namespace Go.Proofs.YtfhbmblbidcmmaaGreat
open Go.RowKit Go.Sl Go.Dk Go.Tr
theorem S0{l:List Au}(h:l.length≤1)(hm: ∀x∈l,Ah x=true):0≤Aa l∧Aa l≤1048576:=by
 match l,h with
 | [],_=>simp[Aa]
 | [a],_=>
  have:=C9.1 (hm a (by simp))
  have e:Aa [a]=a.len:=by simp[Aa]
  rw[e]
  omega
theorem eE{A R R' a b:Ac}{w:World}[h:Bg A w](X Y Z V:Ac)[t:Take A X R][t':Take R Y R'][t'':Take R' Z a][t3:Take a V b]:Sat (X*(Y*(Z*V))*b) w:=(h.out.IC X Y Z).eq (by rw[t3.out];ac_rfl)
theorem Pz{X Y Z:Ac}{x y z:Value}{l m k:List Au}(b:Nat)(h1:An X x l)(a:An Y y m)(c:An Z z k):QP (Sl.block b OZ [x,y,z]*(X*(Y*Z))) (.slice (some ⟨b,0,none⟩) 3 3) [l,m,k]:=by
 refine ⟨[x,y,z],⟨rfl,_,_,rfl,Nat.le_refl _,by omega,fun j u d=>⟨b,0,rfl,?_⟩⟩,rfl,fun i u l' hx hl=>?_⟩
 ·haveI:At [x,y,z] j u:=⟨d⟩
  rw[Nat.zero_add]
  exact inferInstance
 match i with
 |0=>simp at hx hl;subst hx;subst hl;exact Al.right (Al.left h1)
 |1=>simp at hx hl;subst hx;subst hl;exact Al.right (Al.right (Al.left a))
 |2=>simp at hx hl;subst hx;subst hl;exact Al.right (Al.right (Al.right c))
 |i+3=>simp at hx
structure gH (s1:TS) (root at_ n all:Int) (L R:List Au×Int) (whole:BG) (r1 r0:Int) (s2 s3 s4 s5 s6:TS):Prop where
 hl:Go.Tr.leftOf Ai root at_ s1= .ok L s2
 hr:Go.Tr.FJ Ai root (at_+n) all s2= .ok R s3
 hw:Ev Ai root s3= .ok whole s4
 Wx:CG Ai 30 whole R.2 s4= .ok r1 s5
 bY:CG Ai 30 whole L.2 s5= .ok r0 s6
structure gI (whole:BG) (L R:List Au×Int) (put:List Au) (p q:BG×BG) (m x y:BG) (s6 s7 s8 s9 s10 s11:TS):Prop where
 hp:Bi Ai Ak 30 whole L.2 s6= .ok p s7
 hq:Bi Ai Ak 30 p.2 (R.2-L.2) s7= .ok q s8
 hm:BV Ak (join (L.1++put++R.1)) s8= .ok m s9
 hx:E4 Ai Ak p.1 m s9= .ok x s10
 hy:E4 Ai Ak x q.2 s10= .ok y s11
theorem J1(h : Th)(s : TS)(root at_ n : Int)(put : List Au)(v : Value)(B F : Ac)(w : World)(hE : An B v put)(hs : Sat (Ae h s * (B * F)) w)(hl : put.length ≤ 1000)
 (hm:Bh put=true) (all:Int) (s1:TS) (hz:Ec Ai root s= .ok all s1) (k1: ¬at_<0) (k2: ¬n<0) (k3: ¬all<at_) (k4: ¬all-at_<n) (k5: ¬1048576<all-n+Aa put) (k6:n=0→put≠ [])
 (L R:List Au×Int) (whole:BG) (r1 r0:Int) (s2 s3 s4 s5 s6:TS) (HA:gH s1 root at_ n all L R whole r1 r0 s2 s3 s4 s5 s6) (Q:EX TS Int)
 (au:1024<whole.DT.A4-r1+r0+(join (L.1++put++R.1)).length→Q= .fault 11 (s6.GN s1.sp.taken.length))
 (c7: ¬1024<whole.DT.A4-r1+r0+(join (L.1++put++R.1)).length→ ∃p q m x y s7 s8 s9 s10 s11,gI whole L R put p q m x y s6 s7 s8 s9 s10 s11∧Q= .ok y.DT.As s11):
 Calls Tryz.prog 33 #[.pointer (some ⟨h.t,0,none⟩),.int .i64 root,.int .i64 at_,.int .i64 n,v] w (WY h (B*F) Q (fun z=>KC z 0) (fun er=>KC 0 er)):=by
 have fd: ∀(fn:Fn)(first cap:Array Value)(w:World),(Instr.makeFunc fn first cap).run Tryz.prog w= .ok (.func fn first cap) w:=fun _ _ _ _=>rfl
 have dg:Aside (1024<whole.DT.A4-r1+r0+(join (L.1++put++R.1)).length→Q= .fault 11 (s6.GN s1.sp.taken.length)):=au
 have dh:Aside (¬1024<whole.DT.A4-r1+r0+(join (L.1++put++R.1)).length→ ∃p q m x y s7 s8 s9 s10 s11,gI whole L R put p q m x y s6 s7 s8 s9 s10 s11∧Q= .ok y.DT.As s11):=c7
 obtain ⟨HL,HR,HW,ad,ac⟩:=HA
 have a4:s1.sp.taken.length≤s6.sp.taken.length:=by
  have g1:=(Aj.ok (Ij BJ F1 root at_) HL).len
  have g2:=(Aj.ok (GH BJ F1 root (at_+n) all) HR).len
  have g3:=(Aj.ok (GM BJ F1 root) HW).len
  have g4:=(Aj.ok (DQ BJ F1 30 whole R.2) ad).len
  have g5:=(Aj.ok (DQ BJ F1 30 whole L.2) ac).len
  omega
 obtain ⟨ch,bb,fi,fj⟩:=Re (by omega) HL
 obtain ⟨co,bg,fm,fo⟩:=P0 (by omega) HR
 obtain ⟨aa,bh,H,cs⟩:=RG HW
 have cg:=Iu (fun p s n s' h=>Ea h) 16777216 (by omega) 30 whole R.2 s4 r1 s5 H (by omega) ad
 have cf:=Iu (fun p s n s' h=>Ea h) 16777216 (by omega) 30 whole L.2 s5 r0 s6 H (by omega) ac
 obtain ⟨a0,c0,rfl,dp,fc⟩:=hE.v
 have ag:=fun F w q=>Gj put _ B F w hE q (by omega)
 rw[hm] at ag
 have c1:=fun F w q=>FR h s root F w q (by rw[hz];simp)
 rw[hz] at c1
 have dw:=I1 hz
 have D:=Cy hm
 have av:=fun x hx=>DJ (D.1 x hx)
 have cb:=Bx D.1
 have o:=fun F w q=>Mq put _ B F w hE q (by omega) (fun x hx=>by have:=av x hx;have:=C9.1 (D.1 x hx);omega)
 have hw:=Bc (all-at_) (by omega)
 have hw2:=Bc (all-n) (by omega)
 have ay:Aside ((∀x∈put,Ah x=true)∧Aa put≤1048576):=D
 obtain ⟨ej,cc⟩:=Aq (Aa put)
 rw[cc] at o D cb k5
 obtain ⟨c9,eu⟩:=D
 have hw3:=Bc (all-n+ej) (by omega)
 have hw4:=Bc (at_+n) (by omega)
 obtain ⟨np,ai⟩:=Aq put.length
 have ae:Aside (put.length=np∧(n=0→np≠0)):=⟨ai,fun V e2=>k6 V (List.length_eq_zero_iff.1 (ai.trans e2))⟩
 have br:Aside (An B (.slice a0 put.length c0) put):=hE
 rw[ai] at hl dp ag o cb⊢
 have h2:Sat (B*(Ae h s*F)) w:=hs.eq (by ac_rfl)
 haveI:=h2.i
 unfold KC at c1
 clear hs h2 c9 av hE hm au c7 k6 ai hz cc
 go_enter_defers Tryz.func33,Tryz.ntmps33
 go_wp2_with fail
 with_reducible refine Calls.mono (ag _ _ (Af B)) ?_
 rintro e w2 ⟨rfl,q2⟩
 obtain ⟨N,hN⟩:=Aq w.heap.size
 rw[hN] at q2⊢
 haveI:=q2.i
 clear hN ag
 go_wp2_with fail
 with_reducible refine Calls.mono (c1 _ _ (Af (Ae h s))) ?_
 rintro e w3 ⟨rfl,q3⟩
 haveI:=q3.i
 clear c1 q2
 go_wp2_with fail
 with_reducible refine Calls.mono (o _ _ (Af B)) ?_
 rintro e w4 ⟨rfl,q4⟩
 haveI:=q4.i
 clear o q3
 go_upto_region 10 with (fail)
 go_cut [75] from 28 to 185 (fun ei wx=>ei= .bool false∧Sat (Ae h s1*(B*(Sl.block (N+1) EN [.int .i64 0]*(Sl.block N MU [.int .i64 0]*F)))) wx)
 case first=>
  by_cases ca:n=0
  · subst ca
    have ev: ¬np=0:=ae.out.2 rfl
    have ew:((np:Int)==0)=false:=by simp;omega
    go_wp2
    go_meet
    exact ⟨rfl,EE _ _ _ _ _⟩
  have fe:((n:Int)==0)=false:=by simpa using ca
  go_wp2
  go_meet
  exact ⟨rfl,EE _ _ _ _ _⟩
 obtain ⟨rfl,q5⟩:=hcut
 haveI:=q5.i
 clear q4
 go_wp2_with fail
 with_reducible refine Calls.mono (Qi h s1 _ _ (Af (Ae h s1))) ?_
 rintro e w5 ⟨rfl,q6⟩
 haveI:=q6.i
 clear q5
 go_upto_if 89 with (fail)
 go_cut [13,15] from 28 to 185 (fun ed ef wx=> ∃(al:Option Addr)(nl cl:Nat)(GL:Ac),ed= .int .i64 L.2∧ef= .slice al nl cl∧nl=L.1.length∧Aside (An GL (.slice al nl cl) L.1)∧Sat (Ae h s2*(GL*(B*(Sl.block (N+1) EN [.int .i64 0]*(Sl.block N MU [.int .i64 0]*F))))) wx)
 case first=>
  have hL:=HL
  unfold Go.Tr.leftOf at hL
  by_cases a2:0<at_
  · rw[if_pos a2] at hL
    obtain ⟨z,am,V,e2⟩:=Ay hL
    have l:=fun F w q=>OK h s1 root (at_-1) F w q (by rw[V];simp)
    rw[V] at l
    obtain ⟨b1,b2,b3,b4⟩:=I0 (by omega) V
    have b5:=C9.1 b1
    obtain ⟨⟨z1,z2,J,z4⟩,za⟩:=z
    simp only at b1 b2 b3 b4 b5 e2
    have k:=fun F w q=>Tw ⟨z1,z2,J,z4⟩ 0 (at_-za) F w q (by simp only;omega) (by omega) (by omega)
    have HP:Aside (L=(Go.Tr.part ⟨z1,z2,J,z4⟩ 0 (at_-za),za)∧am=s2):=by
     cases e2
     exact ⟨rfl,rfl⟩
    have cd:=Bc (at_-1) (by omega)
    have ce:=Bc (at_-za) (by omega)
    unfold o7 at k
    simp only at k
    clear V e2 b1 b5 hL
    go_wp2_with fail
    with_reducible refine Calls.mono (l _ _ (Af (Ae h s1))) ?_
    rintro e w6 ⟨v6,G6,rfl,⟨rfl,rfl⟩,q7⟩
    rw[Aw] at q7
    haveI:=q7.i
    clear l q6
    go_wp2_with fail
    with_reducible refine Calls.mono (k _ _ E3) ?_
    rintro e w7 ⟨v7,G7,rfl,a7,q8⟩
    obtain ⟨al,cl,rfl,_,_⟩:=a7.v
    haveI:=q8.i
    obtain ⟨e3,e4⟩:=HP.out
    subst e3
    subst e4
    go_wp2
    go_meet
    exact ⟨al,_,cl,G7,rfl,rfl,rfl,a7,Fx _ _ _ _ _ _⟩
  rw[if_neg a2] at hL
  have HP:Aside (L=([],at_)∧s1=s2):=by
   cases hL
   exact ⟨rfl,rfl⟩
  clear hL
  go_wp2
  go_meet
  obtain ⟨e3,e4⟩:=HP.out
  subst e3
  subst e4
  exact ⟨none,0,0,1,rfl,rfl,rfl,Al.nil 4 _,by rw[Aw];exact EE _ _ _ _ _⟩
 obtain ⟨al,nl,cl,GL,rfl,rfl,dr,bs,q7⟩:=hcut
 subst dr
 haveI:=q7.i
 clear q6
 go_upto_if 108 with (fail)
 go_cut [14,16] from 28 to 185 (fun ee eg wx=> ∃(ar:Option Addr)(nr cr:Nat)(GR:Ac),ee= .int .i64 R.2∧eg= .slice ar nr cr∧nr=R.1.length∧Aside (An GR (.slice ar nr cr) R.1)∧Sat (Ae h s3*(GR*(GL*(B*(Sl.block (N+1) EN [.int .i64 0]*(Sl.block N MU [.int .i64 0]*F)))))) wx)
 case first=>
  have hR:=HR
  unfold Go.Tr.FJ at hR
  by_cases a2:at_+n<all
  · rw [if_pos a2] at hR
    obtain ⟨z,am,V,e2⟩:=Ay hR
    have l:=fun F w q=>OK h s2 root (at_+n) F w q (by rw[V];simp)
    rw[V] at l
    obtain ⟨b1,b2,b3,b4⟩:=I0 (by omega) V
    have b5:=C9.1 b1
    obtain ⟨⟨z1,z2,J,z4⟩,za⟩:=z
    simp only at b1 b2 b3 b4 b5 e2
    have k:=fun F w q=>Tw ⟨z1,z2,J,z4⟩ (at_+n-za) J F w q (by simp only;omega) (by omega) (by omega)
    have HP:Aside (R=(Go.Tr.part ⟨z1,z2,J,z4⟩ (at_+n-za) J,za+J)∧am=s3):=by
     cases e2
     exact ⟨rfl,rfl⟩
    have cd:=Bc (at_+n-za) (by omega)
    have ce:=Bc (za+J) (by omega)
    unfold o7 at k
    simp only at k
    clear V e2 b1 b5 hR
    go_wp2_with fail
    with_reducible refine Calls.mono (l _ _ (Af (Ae h s2))) ?_
    rintro e w6 ⟨v6,G6,rfl,⟨rfl,rfl⟩,q8⟩
    rw[Aw] at q8
    haveI:=q8.i
    obtain ⟨O,W⟩:=Aq w6.heap.size
    clear l q7
    go_upto_region 21 with (fail)
    try rw[W]
    have q9:Sat (Sl.block O AM [.int .i64 z1,.int .i64 z2,.int .i64 J,.int .i64 z4]*(Ae h am*(GL*(B*(Sl.block (N+1) EN [.int .i64 0]*(Sl.block N MU [.int .i64 0]*F)))))) (w6.alloc (.cells #[.int .i64 z1,.int .i64 z2,.int .i64 J,.int .i64 z4] AM)):=by
     rw[←W]
     exact Av (by ac_rfl)
    clear W q8
    generalize w6.alloc (.cells #[.int .i64 z1,.int .i64 z2,.int .i64 J,.int .i64 z4] AM)=w66 at q9⊢
    haveI:=q9.i
    go_region_held3 (fun a=>a.cell? ⟨O,0,none⟩=some (.int .i64 z1)∧a.cell? ⟨O,1,none⟩=some (.int .i64 z2)∧a.cell? ⟨O,2,none⟩=some (.int .i64 J)∧a.cell? ⟨O,3,none⟩=some (.int .i64 z4)) (first|exact ⟨Ab _ _ _,Ab _ _ _,Ab _ _ _,Ab _ _ _⟩) (first
     |(
       go_at_call 95
       with_reducible refine Calls.mono (k _ _ E3) ?_
       rintro e w7 ⟨v7,G7,rfl,a7,a8⟩
       obtain ⟨ar,cr,rfl,_,_⟩:=a7.v
       haveI:=a8.i))
    all_goals
     obtain ⟨e3,e4⟩:=HP.out
     subst e3
     subst e4
     go_wp2
     go_meet
     exact ⟨ar,_,cr,G7,rfl,rfl,rfl,a7,cF _ _ _ _ _ _ _⟩
  rw[if_neg a2] at hR
  have HP:Aside (R=([],at_+n)∧s2=s3):=by
   cases hR
   exact ⟨rfl,rfl⟩
  clear hR
  go_wp2
  go_meet
  obtain ⟨e3,e4⟩:=HP.out
  subst e3
  subst e4
  exact ⟨none,0,0,1,rfl,rfl,rfl,Al.nil 4 _,by rw[Aw];exact Fx _ _ _ _ _ _⟩
 obtain ⟨ar,nr,cr,GR,rfl,rfl,ds,bt,q8⟩:=hcut
 haveI:=q8.i
 subst ds
 clear q7
 obtain ⟨dx,dy⟩:=S0 ch bb
 obtain ⟨eb,ec⟩:=S0 co bg
 have a3:([L.1,put,R.1]:List (List Au)).flatten=L.1++put++R.1:=by simp
 have c2:An B (.slice a0 np c0) put:=by have:=br.out;rw[ae.out.1] at this;exact this
 have a6 := fun b F w q => KW [L.1, put, R.1] (.slice (some ⟨b, 0, none⟩) 3 3) (Sl.block b OZ [.slice al L.1.length cl, .slice a0 np c0, .slice ar R.1.length cr] * (GL * (B * GR))) F w (Pz b bs.out c2 bt.out) q (by simp)
  (by rw[a3];simp only[List.length_append];rw[ae.out.1];omega)
  (by
    rw[a3]
    intro x hx
    rcases List.mem_append.1 hx with hx|hx
    · rcases List.mem_append.1 hx with hx|hx
      ·exact bb x hx
      exact ay.out.1 x hx
    exact bg x hx)
  (by rw[a3,Go.Tr.Ao,Go.Tr.Ao];have:=ay.out.2;omega)
 rw[a3] at a6
 have a5:=Oa (L.1++put++R.1)
 simp only[List.length_append] at a5
 rw[ae.out.1] at a5
 obtain ⟨r,ba⟩:=Aq (join (L.1++put++R.1))
 have ax:Aside (join (L.1++put++R.1)=r):=ba
 rw[ba] at a6 a5
 obtain ⟨c,ah⟩:=Aq r.length
 have K:Aside (r.length=c):=ah
 rw[ah] at a5
 have et:c≤1002:=by omega
 rw[ah] at a6
 have c3:=fun F w q=>VD h s3 root F w q (by rw[HW];simp)
 rw[HW] at c3
 have c4:=fun F w q=>TR 30 h s4 whole R.2 F w q aa (by omega) H (by omega) (by omega) (by omega) (by rw[ad];simp)
 rw[ad] at c4
 have c5:=fun F w q=>TR 30 h s5 whole L.2 F w q aa (by omega) H (by omega) (by omega) (by omega) (by rw[ac];simp)
 rw[ac] at c5
 have c6:=fun F w q nb=>O6 30 h s6 whole L.2 F w q (by omega) (by omega) (by omega) (by omega) nb
 obtain ⟨⟨x1,x2,x3,I⟩,xh⟩:=whole
 unfold Bd at c4 c5 c6
 simp only at c4 c5 c6 aa bh H cs cg cf
 have cd:=Bc (I-r1) (by omega)
 have ce:=Bc (I-r1+r0) (by omega)
 have ff:IntKind.i64.wrap (I-r1+r0+(c:Int))=I-r1+r0+c:=IntWalk.i64_in _ (by omega)
 have fg:=Bc (R.2-L.2) (by omega)
 have df:Aside (-1≤xh∧xh≤20∧R.2-L.2≤1099511627776):=⟨aa,bh,by omega⟩
 have bu:Aside (s1.sp.taken.length≤s6.sp.taken.length):=a4
 clear dx dy eb ec a3 c2 ba a5 ah cg cf aa bh H cs a4 ch bb co bg bs bt br ay dw
 go_wp2_with fail
 with_reducible refine Calls.mono (a6 _ _ _ (eE _ _ _ _)) ?_
 rintro e w7 ⟨P,T,rfl,q9⟩
 haveI:=q9.i
 clear a6
 have a8:Sat (Ae h s3*(rw AM 4 (.slice P c T) (Bb r)*(Sl.block (N+1) EN [.int .i64 0]*(Sl.block N MU [.int .i64 0]*(B*F))))) w7:=Fx _ _ _ _ _ _
 haveI:=a8.i
 have hJ:An (rw AM 4 (.slice P c T) (Bb r)) (.slice P c T) r:=by
  have:=Al.rw (F:=Ae h s3*(Sl.block (N+1) EN [.int .i64 0]*(Sl.block N MU [.int .i64 0]*(B*F)))) (a8.eq (by ac_rfl)) ⟨P,T,rfl⟩ (n:=c)
  rw[←K.out] at this⊢
  exact this
 have HJ:Aside (An (rw AM 4 (.slice P c T) (Bb r)) (.slice P c T) r):=hJ
 clear hJ q8 q9
 go_wp2_with fail
 with_reducible refine Calls.mono (c3 _ _ (Af (Ae h s3))) ?_
 rintro e w8 ⟨v8,G8,rfl,⟨rfl,rfl⟩,bc⟩
 rw[Aw] at bc
 haveI:=bc.i
 obtain ⟨g,Y⟩:=Aq w8.heap.size
 unfold Bd
 clear a8 c3
 go_upto_region 24 with (fail)
 try rw[Y]
 have bd:Sat (Sl.block g D5 [.int .i64 x1,.int .i64 x2,.int .i64 x3,.int .i64 I,.int .i64 xh]*(Ae h s4*(rw AM 4 (.slice P c T) (Bb r)*(Sl.block (N+1) EN [.int .i64 0]*(Sl.block N MU [.int .i64 0]*(B*F)))))) (w8.alloc (.cells #[.int .i64 x1,.int .i64 x2,.int .i64 x3,.int .i64 I,.int .i64 xh] D5)):=by
  rw[←Y]
  exact Av (by ac_rfl)
 clear Y bc
 generalize w8.alloc (.cells #[.int .i64 x1,.int .i64 x2,.int .i64 x3,.int .i64 I,.int .i64 xh] D5)=w88 at bd⊢
 haveI:=bd.i
 go_cut [157] from 28 to 185 (fun cp wx=>cp= .bool (decide (1024<I-r1+r0+(c:Int)))∧Sat (Sl.block g D5 [.int .i64 x1,.int .i64 x2,.int .i64 x3,.int .i64 I,.int .i64 xh]*(Ae h s6*(rw AM 4 (.slice P c T) (Bb r)*(Sl.block (N+1) EN [.int .i64 0]*(Sl.block N MU [.int .i64 0]*(B*F)))))) wx)
 case first =>
  go_region_held3 (fun a=>a.cell? ⟨g,0,none⟩=some (.int .i64 x1)∧a.cell? ⟨g,1,none⟩=some (.int .i64 x2)∧a.cell? ⟨g,2,none⟩=some (.int .i64 x3)∧a.cell? ⟨g,3,none⟩=some (.int .i64 I)∧a.cell? ⟨g,4,none⟩=some (.int .i64 xh)) (first|exact ⟨Ab _ _ _,Ab _ _ _,Ab _ _ _,Ab _ _ _,Ab _ _ _⟩) (first
   |(
      go_at_call 97
      with_reducible refine Calls.mono (c4 _ _ (Af (Ae h s4))) ?_
      rintro e w9 ⟨v9,G9,rfl,⟨rfl,rfl⟩,a9⟩
      rw[Aw] at a9
      haveI:=a9.i)
   |(
      go_at_call 97
      with_reducible refine Calls.mono (c5 _ _ (Af (Ae h s5))) ?_
      rintro e fq ⟨v10,f2,rfl,⟨rfl,rfl⟩,d⟩
      rw[Aw] at d
      haveI:=d.i))
  all_goals
   go_wp2
   go_meet
   exact ⟨rfl,Fx _ _ _ _ _ _⟩
 obtain ⟨rfl,a9⟩:=hcut
 haveI:=a9.i
 clear bd c4 c5
 by_cases hb:1024<I-r1+r0+(c:Int)
 · have hQ:=dg.out (by rw[ax.out,K.out];omega)
   subst hQ
   have hd:decide (1024<I-r1+r0+(c:Int))=true:=decide_eq_true hb
   rw[hd]
   go_wp2
   refine leaves_cons (f:=93) (args:= #[.pointer (some ⟨N,0,none⟩),.pointer (some ⟨N+1,0,none⟩)]) (by simp) (by simp[go_sem]) ?_
   refine (L7 _ _ _).mono ?_
   rintro e u' cq ⟨rfl,rfl,rfl⟩
   show Leaves _ _ _ _ _ .returning _
   refine leaves_cons (f:=81) (args:= #[.pointer (some ⟨h.t,0,none⟩),.int .i64 s1.sp.taken.length,.pointer (some ⟨N+1,0,none⟩)]) (by simp) (by simp[go_sem]) ?_
   refine (U0 h s6 s1.sp.taken.length (N+1) 11 _ _ _ (by omega) bu.out (AP (Ae h s6) (Sl.block (N+1) EN [.int .i64 11]))).mono ?_
   rintro e u' G ⟨rfl,rfl,d⟩
   haveI:=d.i
   simp[Leaves,settle,results,Tryz.results33,go_sem]
   exact ⟨rfl,AD _ _ _⟩
 obtain ⟨p,q,m,x,y,s7,s8,s9,s10,s11,⟨hp,hq,hm,hx,hy⟩,hQ⟩:=dh.out (by rw[ax.out,K.out];omega)
 have hd:decide (1024<I-r1+r0+(c:Int))=false:=decide_eq_false hb
 rw[ax.out] at hm
 obtain ⟨w1,fv,w3⟩:=df.out
 have dt:=EJ (fun p s n s' h=>Ea h) 30 _ _ _ _ _ hp (-31) 20 (by omega) (by omega) (by simp only;omega) (by simp only;omega)
 have du:=EJ (fun p s n s' h=>Ea h) 30 _ _ _ _ _ hq (-62) 454 (by omega) (by omega) (by omega) (by omega)
 have c8:=Gi hm
 rw[K.out] at c8
 have dv:=J7 (fun p s n s' h=>OP h) hx (-31) 454 (by omega) (by omega) (by omega) (by omega) (by omega) (by omega)
 have d6:=fun F w q=>c6 F w q (by rw[hp];simp)
 rw[hp] at d6
 have d7:=fun F w q=>O6 30 h s7 p.2 (R.2-L.2) F w q (by omega) (by omega) (by omega) w3 (by rw[hq];simp)
 rw[hq] at d7
 have d8:=fun F w q=>Ii h s8 r _ _ F w HJ.out q (by rw[K.out];omega) (by rw[hm];simp)
 rw[hm] at d8
 have d9:=fun F w q=>Lw h s9 p.1 m F w q (by omega) (by omega) (by omega) (by omega) (by rw[hx];simp)
 rw[hx] at d9
 have U:=fun F w q'=>Lw h s10 x q.2 F w q' (by omega) (by omega) (by omega) (by omega) (by rw[hy];simp)
 rw[hy] at U
 obtain ⟨⟨⟨p1,p2,p3,p4⟩,ph⟩,⟨⟨o1,o2,o3,o4⟩,oh⟩⟩:=p
 obtain ⟨⟨⟨g1,g2,g3,g4⟩,gh⟩,⟨⟨l1,l2,l3,l4⟩,lh⟩⟩:=q
 obtain ⟨⟨m1,m2,m3,m4⟩,mh⟩:=m
 obtain ⟨⟨u1,u2,u3,u4⟩,uh⟩:=x
 obtain ⟨⟨y1,y2,y3,y4⟩,yh⟩:=y
 unfold P6 at d6 d7
 unfold P9 at d8 d9 U
 unfold Bd at d6 d7 d8 d9 U
 simp only at d6 d7 d8 d9 U hQ
 subst hQ
 rw[hd]
 clear hp hq hm hx hy dt du c8 dv c6
 go_wp2_with fail
 with_reducible refine Calls.mono (d6 _ _ (Af (Ae h s6))) ?_
 rintro e cq ⟨v14,f3,rfl,⟨rfl,rfl⟩,d⟩
 rw[Aw] at d
 haveI:=d.i
 obtain ⟨j,Z⟩:=Aq cq.heap.size
 clear a9
 go_wp2_with fail
 with_reducible refine Calls.mono (d7 _ _ (Af (Ae h s7))) ?_
 rintro e G ⟨fp,f4,rfl,⟨rfl,rfl⟩,be⟩
 rw[Aw] at be
 haveI:=be.i
 have ci:Sat (Ae h s8*(rw AM 4 (.slice P c T) (Bb r)*(Sl.block j D5 [.int .i64 p1,.int .i64 p2,.int .i64 p3,.int .i64 p4,.int .i64 ph]*(Sl.block (N+1) EN [.int .i64 0]*(Sl.block N MU [.int .i64 0]*(B*F)))))) G:=by
  rw[←Z]
  exact Fx _ _ _ _ _ _
 obtain ⟨u,a1⟩:=Aq G.heap.size
 haveI:=ci.i
 clear d be d6 d7
 try rw[Z]
 clear Z
 go_upto_region 28 with (fail)
 try rw[a1]
 have bf:Sat (Sl.block (u+1) D5 [.int .i64 l1,.int .i64 l2,.int .i64 l3,.int .i64 l4,.int .i64 lh]*(Ae h s8*(rw AM 4 (.slice P c T) (Bb r)*(Sl.block j D5 [.int .i64 p1,.int .i64 p2,.int .i64 p3,.int .i64 p4,.int .i64 ph]*(Sl.block (N+1) EN [.int .i64 0]*(Sl.block N MU [.int .i64 0]*(B*F))))))) ((G.alloc (.cells #[.int .i64 g1,.int .i64 g2,.int .i64 g3,.int .i64 g4,.int .i64 gh] D5)).alloc (.cells #[.int .i64 l1,.int .i64 l2,.int .i64 l3,.int .i64 l4,.int .i64 lh] D5)):=by
  rw[←a1]
  exact A6 (C:=Sl.block G.heap.size D5 [.int .i64 g1,.int .i64 g2,.int .i64 g3,.int .i64 g4,.int .i64 gh]) (by ac_rfl)
 clear a1 ci
 generalize (G.alloc (.cells #[.int .i64 g1,.int .i64 g2,.int .i64 g3,.int .i64 g4,.int .i64 gh] D5)).alloc (.cells #[.int .i64 l1,.int .i64 l2,.int .i64 l3,.int .i64 l4,.int .i64 lh] D5)=w55 at bf⊢
 haveI:=bf.i
 go_cut [27] from 28 to 185 (fun eh wx=> ∃M:Nat,eh= .pointer (some ⟨M,0,none⟩)∧Sat (Sl.block M D5 [.int .i64 y1,.int .i64 y2,.int .i64 y3,.int .i64 y4,.int .i64 yh]*(Ae h s11*(Sl.block (N+1) EN [.int .i64 0]*(Sl.block N MU [.int .i64 0]*(B*F))))) wx)
 case first =>
  go_region_held3 (fun a=>a.cell? ⟨j,0,none⟩=some (.int .i64 p1)∧a.cell? ⟨j,1,none⟩=some (.int .i64 p2)∧a.cell? ⟨j,2,none⟩=some (.int .i64 p3)∧a.cell? ⟨j,3,none⟩=some (.int .i64 p4)∧a.cell? ⟨j,4,none⟩=some (.int .i64 ph)∧a.cell? ⟨u+1,0,none⟩=some (.int .i64 l1)∧a.cell? ⟨u+1,1,none⟩=some (.int .i64 l2)∧a.cell? ⟨u+1,2,none⟩=some (.int .i64 l3)∧a.cell? ⟨u+1,3,none⟩=some (.int .i64 l4)∧a.cell? ⟨u+1,4,none⟩=some (.int .i64 lh)) (first|exact ⟨Ab _ _ _,Ab _ _ _,Ab _ _ _,Ab _ _ _,Ab _ _ _,Ab _ _ _,Ab _ _ _,Ab _ _ _,Ab _ _ _,Ab _ _ _⟩) (first
   |(
      go_at_call 84
      with_reducible refine Calls.mono (d8 _ _ (AP (Ae h s8) (rw AM 4 (.slice P c T) (Bb r)))) ?_
      rintro e fr ⟨v16,f5,rfl,⟨rfl,rfl⟩,ak⟩
      rw[Aw] at ak
      haveI:=ak.i)
   |(
      go_at_call 99
      with_reducible refine Calls.mono (d9 _ _ (Af (Ae h s9))) ?_
      rintro e fs ⟨v17,f6,rfl,⟨rfl,rfl⟩,ck⟩
      rw[Aw] at ck
      haveI:=ck.i)
   |(
      go_at_call 99
      with_reducible refine Calls.mono (U _ _ (Af (Ae h s10))) ?_
      rintro e ft ⟨v18,f7,rfl,⟨rfl,rfl⟩,cm⟩
      rw[Aw] at cm
      haveI:=cm.i))
  all_goals
   go_wp2
   go_meet
   exact ⟨_,rfl,Fx _ _ _ _ _ _⟩
 obtain ⟨M,rfl,ak⟩:=hcut
 haveI:=ak.i
 clear bf
 go_wp2
 refine leaves_cons (f:=93) (args:= #[.pointer (some ⟨N,0,none⟩),.pointer (some ⟨N+1,0,none⟩)]) (by simp) (by simp[go_sem]) ?_
 refine (L7 _ _ _).mono ?_
 rintro e u' fu ⟨rfl,rfl,rfl⟩
 show Leaves _ _ _ _ _ .returning _
 refine leaves_cons (f:=81) (args:= #[.pointer (some ⟨h.t,0,none⟩),.int .i64 s1.sp.taken.length,.pointer (some ⟨N+1,0,none⟩)]) (by simp) (by simp[go_sem]) ?_
 refine (OU _ _ (N+1) _ _ _ (Af (Sl.block (N+1) EN [.int .i64 0]))).mono ?_
 rintro e u' fw ⟨rfl,rfl,e9⟩
 haveI:=e9.i
 simp[Leaves,settle,results,Tryz.results33,go_sem]
 exact ⟨rfl,AD _ _ _⟩
end Go.Proofs.YtfhbmblbidcmmaaGreat
namespace Go.Tr
section
variable {σ:Type}
def eC(rd:Int→M σ Nd)(root at_ n all:Int):M σ ((List Au×Int)×(List Au×Int)×BG×Int×Int):=
 M.bind (leftOf rd root at_) fun L=>M.bind (FJ rd root (at_+n) all) fun R=>
 M.bind (Ev rd root) fun whole=>M.bind (CG rd 30 whole R.2) fun r1=>M.bind (CG rd 30 whole L.2) fun r0=>M.pure (L,R,whole,r1,r0)
variable {X:Env σ} (hX:X.Ok)
include hX in
theorem dN{root:Int}{l put:List Au}{s:σ}(K:X.inv s)(hr:Rt (X.V s) root l)(m:AF l)(L:Nat)(M:L≤4)(k: ∀h:Nat,2*4^h≤l.length→h≤L){at_ n:Int}(h0:0≤at_)(O:0≤n)(h1:at_+n≤Aa l):
 Step X s (5*L+5) 0 (eC X.rd root at_ n (Aa l)) (fun q s'=>q.2.2.1.DT.A4-q.2.2.2.1+q.2.2.2.2+((join (q.1.1++put++q.2.1.1)).length:Int)=((DY l at_ n put).length:Int)):=by
 have hm:=hr.fit.1
 unfold eC
 refine (Step.bind (R2:=L+1+(L+1+(L+1+(L+1+0)))) (W2:=0)
  (LU hX K hr m L k h0 (by omega)) ?_).mono (by omega) (by omega) fun _ _ _ _ x=>x
 rintro p s1 e a ⟨A,y⟩
 refine Step.bind (W1:=0) (W2:=0) (K6 hX e (hr.le a) m L k («to» :=at_+n) (by omega) h1) ?_
 rintro q s2 f b ⟨C,B,d⟩
 obtain ⟨o,D,r,t⟩:=I3 (put:=put) hm m h0 O y d
 have u:=(hr.le a).le b
 refine Step.bind (W1:=0) (W2:=0) (Mk hX f u L k) ?_
 rintro whole s3 g z ⟨v,H⟩
 have w:=d.1
 have I:=d.2.1
 have J:=y.2.1
 rw[I,J]
 have hw1:Tl (X.V s3) whole (C++B):=by rw[←w];exact v
 refine Step.bind (W1:=0) (W2:=0) ((Iv hX 30 (h:=L) (by omega) g hw1 H)) ?_
 rintro r1 s4 i c rfl
 have hw2:Tl (X.V s4) whole (A++(D++B)):=by rw[←t];exact v.le c
 refine Step.bind (W1:=0) (W2:=0) (R2:=0) ((Iv hX 30 (h:=L) (by omega) i hw2 H)) ?_
 rintro r0 s5 j G rfl
 refine Step.ret j ?_
 simp only
 rw[v.A4,o,w,r]
 simp only[List.length_append]
 omega
end
end Go.Tr
namespace Go.Proofs.YtfhbmblbidcmmaaGreat
open Go.RowKit Go.Sl Go.Dk Go.Tr
variable [EZ]
theorem J4{α:Type}{s:TS}{R W:Nat}{m:M TS α}{Q:α→TS→Prop}(h:Step (o8 true) s R W m Q)(hw:W≤Cn s.sp)(hl:R+W≤AL s):
 ∃a s',m s= .ok a s'∧Fs true s'∧Le (nodeAt s) (nodeAt s')∧s'.ck.reads.toNat≤s.ck.reads.toNat+R∧Cn s.sp≤Cn s'.sp+W∧AL s≤AL s'+(R+W)∧Q a s':=by
 rcases h with h|h
 ·have:Cn s.sp<W:=h
  omega
 cases hm:m s with
 | ok a s' =>
  rw[hm] at h
  obtain ⟨h1,b,c,d,f,g⟩:=h
  exact ⟨a,s',rfl,h1,b,c,d,f,g⟩
 | fault e s' =>
  rw[hm] at h
  obtain ⟨h1,_⟩:=h
  rcases h1 with ⟨h1,_⟩|h1
  ·grind
  have:Cn s.sp<W:=h1
  omega
 | bad =>
  rw[hm] at h
  have:AL s<R+W:=h
  omega
structure Cg (a b:Ck):Prop where
 cap:b.cap=a.cap
 nm:b.nm=a.nm
 Ji: ∀n,n≠a.nm→b.d.get n=a.d.get n
theorem Cg.same(a:Ck):Cg a a:=⟨rfl,rfl,fun _ _=>rfl⟩
theorem Cg.next{a b c:Ck}(h:Cg a b)(k:Cg b c):Cg a c:=⟨k.cap.trans h.cap,k.nm.trans h.nm,fun n d=>(k.Ji n (by rw[h.nm];exact d)).trans (h.Ji n d)⟩
theorem KL(d:Dk)(nm:ByteArray)(k:Int)(b:List UInt8)(n:ByteArray)(h:n≠nm):(d.write nm k b).2.get n=d.get n:=by
 unfold Dk.write
 split
 ·rfl
 split
 ·rfl
 split
 ·rfl
 split
 ·rfl
 split
 ·rfl
 unfold Dk.get Dk.written Dk.put
 rw[CH,if_neg h]
 rfl
theorem QG(s:Ck)(no:Int):Cg s (s.Bw no).2:=by
 unfold Ck.Bw
 split<;>exact ⟨rfl,rfl,fun n a=>KL _ _ _ _ _ a⟩
theorem OX(s:Ck)(no:Int):Cg s (s.write no).2:=by
 unfold Ck.write
 split
 ·exact Cg.same s
 split
 ·have h1:Cg s { s with d:=(s.pad no).2 } :=⟨rfl,rfl,fun n a=>KL _ _ _ _ _ a⟩
  split
  ·exact h1.next (QG _ no)
  omega
 exact QG s no
theorem V6(s:Ck)(no:Int):Cg s (s.release no).2:=by
 have h:=OX s no
 unfold Ck.release
 split
 ·exact ⟨h.cap,h.nm,h.Ji⟩
 omega
theorem bA(s:Ck):Cg s s.room.2:=by
 unfold Ck.room
 split
 ·exact Cg.same s
 split
 ·exact Cg.same s
 exact V6 s _
theorem WR(s:Ck)(no:Int)(b:List UInt8):Cg s (s.take no b).2:=by
 have h:=bA s
 unfold Ck.take
 split
 ·exact ⟨h.cap,h.nm,h.Ji⟩
 omega
theorem dA(s:Ck)(no:Int):Cg s (s.get no).2.2:=by
 unfold Ck.get
 split
 ·exact Cg.same s
 split
 ·exact ⟨rfl,rfl,fun _ _=>rfl⟩
 simp only
 split
 ·have h:=WR s no (s.d.read s.nm (no*256) 256).2
  split
  ·exact ⟨h.cap,h.nm,h.Ji⟩
  omega
 exact Cg.same s
theorem dO(s:Ck)(no:Int)(b:List UInt8):Cg s (s.put no b).2:=by
 unfold Ck.put
 split
 ·exact Cg.same s
 split
 ·exact ⟨rfl,rfl,fun _ _=>rfl⟩
 have h:=WR s no b
 split
 ·exact ⟨h.cap,h.nm,h.Ji⟩
 omega
def UC(s s':TS):Prop:=s'.sp=s.sp∧Cg s.ck s'.ck
theorem BT:RY UC where
 same s:=⟨rfl,Cg.same _⟩
 next a b c h1 h2:=⟨h2.1.trans h1.1,h1.2.next h2.2⟩
def JB(s s':TS):Prop:=Cg s.ck s'.ck
theorem Bq:RY JB where
 same s:=Cg.same _
 next a b c h1 h2:=Cg.next h1 h2
theorem Lc(P:TS→TS→Prop)(h:RY P)(e:Int):Aj P (EU e):=by
 unfold EU
 split
 ·exact Aj.pure h _
 exact Aj.fail h _
theorem Hu(p:Int):Aj UC (Ai p):=by
 refine Aj.bind BT (fun s=>?_) fun r=>Aj.bind BT (Lc _ BT _) fun _=>?_
 ·unfold Rk
  by_cases h:s.ops<B8
  ·rw[if_pos h];exact ⟨rfl,dA _ _⟩
  grind
 cases CR p r.2 with
 |none=>exact Aj.fail BT _
 |some n=>exact Aj.pure BT _
theorem Mp(p:Int):Aj JB (Ai p):=fun s=>by
 have:=Hu p s
 cases h:Ai p s with
 |ok a s'=>rw[h] at this;exact this.2
 |fault e s'=>rw[h] at this;exact this.2
 |bad=>trivial
theorem OQ(n:Nd):Aj JB (Ak n):=by
 refine Aj.ite (Aj.fail Bq _) ?_
 refine Aj.bind Bq (fun s=>?_) fun t=>Aj.bind Bq (Lc _ Bq _) fun _=>Aj.bind Bq (Lc _ Bq _) fun _=>Aj.bind Bq (fun s=>dO _ _ _) fun e=>Aj.bind Bq (Lc _ Bq _) fun _=>Aj.pure Bq _
 unfold IA
 by_cases h:s.ops<B8
 ·rw[if_pos h];exact Cg.same _
 grind
theorem U2{s:TS}{m:Nat}(h:s.sp.taken.length=m):s.GN m=s:=by
 subst h
 unfold TS.GN DP
 simp only[List.drop_length,List.take_length]
 have e:(Cb [] s.sp.used [])=(s.sp.used,[]):=rfl
 rw[e]
 have a:Em ([]:List Int)= []:=by simp[Em]
 rw[a]
 rfl
end Go.Proofs.YtfhbmblbidcmmaaGreat
namespace Go.Proofs.YtfhbmblbidcmmaaGreat
open Go.RowKit Go.Sl Go.Dk Go.Tr
variable [EZ]
def Ex(l:List Au):Int×List Au:=if Bh l=false then (1,[]) else if 1024<(join l).length then (11,[]) else (0,join l)
def D0(l:List Au)(at_ n:Int)(put:List Au):Int×List Au:=
 if Bh put=false then (1,[]) else
 if at_<0∨n<0∨Aa l<at_∨Aa l-at_<n then (2,[]) else
 if 1048576<Aa l-n+Aa put then (10,[]) else
 if n=0∧put= [] then (0,l) else
 if 1024<(DY l at_ n put).length then (11,[]) else (0,DY l at_ n put)
structure LB (s s':TS) (R W:Nat):Prop where
 inv:Fs true s'
 le:Le (nodeAt s) (nodeAt s')
 reads:s'.ck.reads.toNat≤s.ck.reads.toNat+R
 room:Cn s.sp≤Cn s'.sp+W
 left:AL s≤AL s'+(R+W)
 cap:JB s s'
theorem LB.refl{s:TS}(h:Fs true s):LB s s 0 0:=⟨h,Le.Mg _,Nat.le_refl _,Nat.le_refl _,Nat.le_refl _,Bq.same s⟩
theorem LB.more{s s':TS}{R W R' a:Nat}(h:LB s s' R W)(h1:R≤R')(b:W≤a):LB s s' R' a:=⟨h.inv,h.le,by have:=h.reads;omega,by have:=h.room;omega,by have:=h.left;omega,h.cap⟩
theorem LB.trans{s s1 s2:TS}{R1 W1 R2 W2:Nat}(h:LB s s1 R1 W1)(k:LB s1 s2 R2 W2):LB s s2 (R1+R2) (W1+W2):=
 ⟨k.inv,h.le.trans k.le,by have:=h.reads;have:=k.reads;omega,by have:=h.room;have:=k.room;omega,by have:=h.left;have:=k.left;omega,Bq.next _ _ _ h.cap k.cap⟩
theorem RI{v:Int→Option Nd}{r:Int}{l:List Au}(h:Rt v r l):r=0↔l= []:=by
 rcases h with ⟨rfl,rfl⟩|⟨h,k,rfl,hs⟩
 ·simp
 have h1:=hs.Cp.ne
 have a:=Dy hs.Cp.may
 grind
theorem YZ{l:List Au}(hm:Bh l=true)(h: ¬1024<(join l).length):Fit (join l):=by
 obtain ⟨h1,a⟩:=Cy hm
 exact ⟨NZ h1 a,by rw[IM];exact a,by omega⟩
theorem Wk(h:Th)(s:TS)(l:List Au)(v:Value)(B F:Ac)(w:World)(g:An B v l)(hs:Sat (Ae h s*(B*F)) w)(i:Fs true s)(hl:l.length≤65536)(hr:2048≤Cn s.sp)(q:2048≤AL s):
 Calls Tryz.prog 23 #[.pointer (some ⟨h.t,0,none⟩),v] w fun e f=> ∃(r:Int)(s':TS),e= .returned (KC r (Ex l).1)∧Sat (Ae h s'*(B*F)) f∧LB s s' 0 2048∧((Ex l).1=0→Rt (nodeAt s') r (Ex l).2)∧((Ex l).1≠0→r=0):=by
 unfold Ex
 by_cases hm:Bh l=false
 ·rw[if_pos hm]
  refine (Sm h s l v B F w g hs hl hm).mono fun e f hx=>?_
  unfold Eg at hx
  rw[if_pos hm] at hx
  exact ⟨0,s,hx.1,hx.2,(LB.refl i).more (by omega) (by omega),fun e=>absurd e (by decide),fun _=>rfl⟩
 rw[if_neg hm]
 have a:Bh l=true:=by simpa using hm
 by_cases b:1024<(join l).length
 ·rw[if_pos b]
  refine (Ny h s l v B F w g hs hl a (by unfold Eg;rw[if_neg hm,if_pos b];simp)).mono fun e f hx=>?_
  unfold Eg at hx
  rw[if_neg hm,if_pos b] at hx
  exact ⟨0,s,hx.1,hx.2,(LB.refl i).more (by omega) (by omega),fun e=>absurd e (by decide),fun _=>rfl⟩
 rw[if_neg b]
 obtain ⟨r,s',hx,h1,k,m,n,o,p⟩:=J4 (YH (KO true) (s:=s) i (YZ a b)) hr (by omega)
 have d:J5 Ak (join l) s= .ok r s':=hx
 have j:Eg l s= .ok r s':=by unfold Eg;rw[if_neg hm,if_neg b,d];rfl
 have c:=Aj.ok (RU Bq OQ (join l)) d
 refine (Ny h s l v B F w g hs hl a (by rw[j];simp)).mono fun e f hy=>?_
 rw[j] at hy
 exact ⟨r,s',hy.1,hy.2,⟨h1,k,m,n,o,c⟩,fun _=>p,fun e=>absurd rfl e⟩
theorem RO(h:Th)(s:TS)(root:Int)(l:List Au)(F:Ac)(w:World)(hs:Sat (Ae h s*F) w)(f:Fs true s)(g:Rt (nodeAt s) root l)(i:1≤AL s):
 ∃s',Ec Ai root s= .ok (Aa l) s'∧LB s s' 1 0:=by
 obtain ⟨r,s',hx,h1,b,c,d,e,rfl⟩:=J4 (bI (KO true) (s:=s) f g) (Nat.zero_le _) (by omega)
 have a:=hx
 exact ⟨s',a,h1,b,c,d,e,(show JB s s' from Aj.ok (Uv Bq Mp root) a)⟩
theorem Yh(h:Th)(s:TS)(root:Int)(l:List Au)(F:Ac)(w:World)(hs:Sat (Ae h s*F) w)(b:Fs true s)(c:Rt (nodeAt s) root l)(d:1≤AL s):
 Calls Tryz.prog 86 #[.pointer (some ⟨h.t,0,none⟩),.int .i64 root] w fun e a=> ∃s',e= .returned (KC (Aa l) 0)∧Sat (Ae h s'*F) a∧LB s s' 1 0:=by
 obtain ⟨s',hx,f⟩:=RO h s root l F w hs b c d
 refine (FR h s root F w hs (by rw[hx];simp)).mono fun e a hy=>?_
 rw[hx] at hy
 exact ⟨s',hy.1,hy.2,f⟩
def Nt(l:List Au)(at_:Int)(x:Au)(a e:Int):Prop:=
 if at_<0∨Aa l≤at_ then x=⟨0,0,0,0⟩∧a=0∧e=2 else e=0∧ ∃l1 l2,l=l1++x::l2∧a=Aa l1∧Aa l1≤at_∧at_<Aa l1+x.len
theorem Yf(h:Th)(s:TS)(root at_:Int)(l:List Au)(F:Ac)(w:World)(hs:Sat (Ae h s*F) w)(r:Fs true s)(j:Rt (nodeAt s) root l)(L:Nat)(u: ∀h:Nat,2*4^h≤l.length→h≤L)(y:L+2≤AL s):
 Calls Tryz.prog 116 #[.pointer (some ⟨h.t,0,none⟩),.int .i64 root,.int .i64 at_] w fun k i=> ∃(x:Au)(a e:Int)(s':TS),k= .returned (Ui x a e)∧Sat (Ae h s'*F) i∧LB s s' (L+2) 0∧Nt l at_ x a e:=by
 obtain ⟨s1,hx,d⟩:=RO h s root l F w hs r j (by omega)
 unfold Nt
 by_cases g:at_<0∨Aa l≤at_
 ·have b:MA root at_ s= .fault 2 s1:=by unfold MA M.bind;rw[hx];simp only[EX.bind];rw[if_pos g];rfl
  refine (Q9 h s root at_ F w hs (by rw[b];simp)).mono fun e i hy=>?_
  rw[b] at hy
  exact ⟨_,_,_,s1,hy.1,hy.2,d.more (by omega) (by omega),by rw[if_pos g];exact ⟨rfl,rfl,rfl⟩⟩
 obtain ⟨z,s2,v,h1,m,n,o,p,q⟩:=J4 (RN (KO true) d.inv (j.le d.le) L u at_ (by omega) (by omega)) (Nat.zero_le _) (by have:=d.left;omega)
 have f:=v
 have b:MA root at_ s= .ok z s2:=by unfold MA M.bind;rw[hx];simp only[EX.bind];rw[if_neg g];exact f
 have c:=Aj.ok (J8 Bq Mp root at_) f
 refine (Q9 h s root at_ F w hs (by rw[b];simp)).mono fun e i hy=>?_
 rw[b] at hy
 exact ⟨z.1,z.2,0,s2,hy.1,hy.2,(d.trans ⟨h1,m,n,o,p,c⟩).more (by omega) (by omega),by rw[if_neg g];exact ⟨rfl,q⟩⟩
theorem Un(h:Th)(s:TS)(root at_ n:Int)(l put:List Au)(v:Value)(B F:Ac)(w:World)(H:An B v put)(hs:Sat (Ae h s*(B*F)) w)(hl:put.length≤1000)(hI:Fs true s)(Q:Rt (nodeAt s) root l)(hj:AF l)
 (L:Nat) (k:L≤4) (hL: ∀h:Nat,2*4^h≤l.length→h≤L) (hr:2600≤Cn s.sp) (hf:2800≤AL s):
 Calls Tryz.prog 33 #[.pointer (some ⟨h.t,0,none⟩),.int .i64 root,.int .i64 at_,.int .i64 n,v] w fun e D=> ∃(r:Int)(s':TS),e= .returned (KC r (D0 l at_ n put).1)∧Sat (Ae h s'*(B*F)) D∧LB s s' (2*(L*L)+17*L+20) 2600∧
  ((D0 l at_ n put).1=0→Rt (nodeAt s') r (D0 l at_ n put).2)∧((D0 l at_ n put).1≠0→r=0)∧((D0 l at_ n put).1=0→n=0→put= []→r=root):=by
 have aq:L*L≤16:=by have:=Nat.mul_le_mul k k;omega
 unfold D0
 by_cases hm:Bh put=false
 · rw[if_pos hm]
   refine (VQ h s root at_ n put v B F w H hs (by omega) hm).mono fun e D hx=>?_
   exact ⟨0,s,hx.1,hx.2,(LB.refl hI).more (by omega) (by omega),fun e=>absurd e (by decide),fun _=>rfl,fun e=>absurd e (by decide)⟩
 rw[if_neg hm]
 have c:Bh put=true:=by simpa using hm
 obtain ⟨s1,P,d⟩:=RO h s root l (B*F) w hs hI Q (by omega)
 by_cases W:at_<0∨n<0∨Aa l<at_∨Aa l-at_<n
 · rw[if_pos W]
   refine (RS h s root at_ n put v B F w H hs (by omega) c _ s1 P W).mono fun e D hx=>?_
   exact ⟨0,s1,hx.1,hx.2,d.more (by omega) (by omega),fun e=>absurd e (by decide),fun _=>rfl,fun e=>absurd e (by decide)⟩
 rw[if_neg W]
 by_cases b:1048576<Aa l-n+Aa put
 · rw[if_pos b]
   refine (VO h s root at_ n put v B F w H hs (by omega) c _ s1 P (by omega) (by omega) (by omega) (by omega) b).mono fun e D hx=>?_
   exact ⟨0,s1,hx.1,hx.2,d.more (by omega) (by omega),fun e=>absurd e (by decide),fun _=>rfl,fun e=>absurd e (by decide)⟩
 rw[if_neg b]
 by_cases a:n=0∧put= []
 · rw[if_pos a]
   refine (Uo h s root at_ n put v B F w H hs (by omega) c _ s1 P (by omega) (by omega) (by omega) (by omega) b a.1 a.2).mono fun e D hx=>?_
   exact ⟨root,s1,hx.1,hx.2,d.more (by omega) (by omega),fun _=>Q.le d.le,fun e=>absurd rfl e,fun _ _ _=>rfl⟩
 rw[if_neg a]
 have K:=(Cy c).1
 have ar:=d.left
 have au:=d.room
 obtain ⟨⟨u,G,whole,r1,r0⟩,s6,J,p1,p2,p3,p4,p5,R⟩:=J4 (dN (put:=put) (KO true) d.inv (Q.le d.le) hj L k hL (at_:=at_) (n:=n) (by omega) (by omega) (by omega)) (Nat.zero_le _) (by omega)
 simp only at R
 have g:=J
 unfold eC at g
 obtain ⟨a1,s2,i,g1⟩:=Ay g
 obtain ⟨a2,s3,j,g2⟩:=Ay g1
 obtain ⟨a3,s4,T,g3⟩:=Ay g2
 obtain ⟨a4,s5,U,g4⟩:=Ay g3
 obtain ⟨a5,bk,V,g5⟩:=Ay g4
 cases g5
 have Z:gH s1 root at_ n (Aa l) u G whole r1 r0 s2 s3 s4 s5 s6:=⟨i,j,T,U,V⟩
 have O:UC s1 s6:=by
  have q1:=Aj.ok (Ij BT Hu root at_) i
  have q2:=Aj.ok (GH BT Hu root (at_+n) (Aa l)) j
  have q3:=Aj.ok (GM BT Hu root) T
  have q4:=Aj.ok (DQ BT Hu 30 whole G.2) U
  have q5:=Aj.ok (DQ BT Hu 30 whole u.2) V
  exact BT.next _ _ _ q1 (BT.next _ _ _ q2 (BT.next _ _ _ q3 (BT.next _ _ _ q4 q5)))
 by_cases f:1024<(DY l at_ n put).length
 · rw[if_pos f]
   have hu:=U2 (by rw[O.1])
   refine (J1 h s root at_ n put v B F w H hs hl c _ s1 P (by omega) (by omega) (by omega) (by omega) b (fun i j=>a ⟨i,j⟩) u G whole r1 r0 s2 s3 s4 s5 s6 Z (.fault 11 s6) (fun _=>by rw[hu]) (fun hq=>absurd (by rw[R];omega) hq)).mono fun e D hx=>?_
   exact ⟨0,s6,hx.1,hx.2,(d.trans ⟨p1,p2,p3,p4,p5,O.2⟩).more (by omega) (by omega),fun e=>absurd e (by decide),fun _=>rfl,fun e=>absurd e (by decide)⟩
 rw[if_neg f]
 obtain ⟨r,s11,Y,b1,b2,b3,b4,b5,b6⟩:=J4 ((Yn (KO true) d.inv (Q.le d.le) hj L k hL (at_:=at_) (n:=n) (by omega) (by omega) (by omega) K (by omega)).1 (by omega)) (by omega) (by omega)
 have o:=Y
 have I:=Aj.ok (P1 Bq Mp OQ root at_ n (Aa l) put) o
 have z:M.bind (Bi Ai Ak 30 whole u.2) (fun p=>M.bind (Bi Ai Ak 30 p.2 (G.2-u.2)) fun q=>M.bind (BV Ak (join (u.1++put++G.1))) fun m=>M.bind (E4 Ai Ak p.1 m) fun x=>M.bind (E4 Ai Ak x q.2) fun y=>M.pure y.DT.As) s6= .ok r s11:=by
  have hh:=o
  unfold GB at hh
  have i1:=AW hh i
  have i2:=AW i1 j
  have i3:=AW i2 T
  have i4:=AW i3 U
  have i5:=AW i4 V
  rw[if_neg (by rw[R];omega)] at i5
  exact i5
 obtain ⟨p,s7,f1,j1⟩:=Ay z
 obtain ⟨q,s8,f2,j2⟩:=Ay j1
 obtain ⟨m,s9,f3,j3⟩:=Ay j2
 obtain ⟨x,s10,f4,j4⟩:=Ay j3
 obtain ⟨y,aa,f5,j5⟩:=Ay j4
 cases j5
 refine (J1 h s root at_ n put v B F w H hs hl c _ s1 P (by omega) (by omega) (by omega) (by omega) b (fun i j=>a ⟨i,j⟩) u G whole r1 r0 s2 s3 s4 s5 s6 Z (.ok y.DT.As s11) (fun hq=>absurd hq (by rw[R];omega)) (fun _=>⟨p,q,m,x,y,s7,s8,s9,s10,s11,⟨f1,f2,f3,f4,f5⟩,rfl⟩)).mono fun e D hx=>?_
 exact ⟨_,s11,hx.1,hx.2,(d.trans ⟨b1,b2,b3,b4,b5,I⟩).more (by omega) (by omega),fun _=>b6,fun e=>absurd rfl e,fun _ i j=>absurd ⟨i,j⟩ a⟩
end Go.Proofs.YtfhbmblbidcmmaaGreat
namespace Go.Proofs.YtfhbmblbidcmmaaGreat
open Go.RowKit Go.Sl Go.Dk Go.Tr
variable [EZ]
theorem O'(d:Dk)(nm n:ByteArray)(h:n≠nm):(d.sync nm).2.get n=d.get n:=by
 unfold Dk.sync
 split
 ·rfl
 split
 ·rfl
 unfold Dk.get Dk.settled Dk.put
 rw[CH,if_neg h]
 rfl
theorem bJ(d:Dk)(nm:ByteArray):Bp 1 nm d (d.sync nm).2:=by
 have same:Bp 1 nm d d:=(Bp.Mg nm d).more (by omega)
 unfold Dk.sync
 split
 ·omega
 split
 ·exact ⟨same.changes,same.left,same.BM,same.len,same.cap⟩
 obtain ⟨f,c⟩:=Aq ((d.get nm).getD Dk.KF)
 have b:((d.BW.put nm { f with safe:=f.now,sure:=true }).settled nm).get nm=some { f with safe:=f.now,sure:=true } :=by simp[Dk.get,Dk.settled,Dk.put,CH]
 have a:A0 ((d.BW.put nm { f with safe:=f.now,sure:=true }).settled nm) nm=A0 d nm:=by simp[b,c,A0]
 rw[c]
 refine ⟨by show d.changes+1≤_;omega,by show d.left≤d.left-1+_;omega,?_,by simp only[a];omega,by simp only[a];omega⟩
 simp only[a]
 have:((d.BW.put nm { f with safe:=f.now,sure:=true }).settled nm).BM.length≤d.BM.length:=List.length_filter_le _ _
 omega
theorem QI: ∀(l:List Int){m:Nat}{s:Ck},Bf m s→(∀k∈l,Bo s.its k=true)→Bp (2*l.length) s.nm s.d (Ck.writes l s).2.d∧(Ck.writes l s).2.reads=s.reads∧Cg s (Ck.writes l s).2
 | [],m,s,ok,_=>⟨Bp.Mg _ _,rfl,Cg.same s⟩
 | k :: l, m, s, ok, h => by
  have a:=h k (by simp)
  obtain ⟨b,_,_,h0,h1⟩:=ok.key a
  have hb:=U4 ok k h1
  have hs:=BX s k
  unfold Ck.writes
  split
  ·obtain ⟨c1,c2,c3⟩:=QI l (F3 ok a) fun j c=>by rw[JT];exact h j (by simp[c])
   rw[hs.1] at c1
   exact ⟨(hb.trans c1).more (by rw[List.length_cons];omega),c2.trans hs.2.2.1,(OX s k).next c3⟩
  exact ⟨hb.more (by rw[List.length_cons];omega),hs.2.2.1,OX s k⟩
theorem Zb{m:Nat}{s:Ck}(ok:Bf m s):Bp (2*s.its.length+1) s.nm s.d s.flush.2.d∧s.flush.2.reads=s.reads∧Cg s s.flush.2:=by
 obtain ⟨h1,e,b⟩:=QI (BE s.its) ok fun k c=>Ff c
 have hl:=Om s.its
 have f:=(Hw (BE s.its) ok fun k c=>Ff c).2
 unfold Ck.flush
 simp only
 split
 ·have:=bJ (Ck.writes (BE s.its) s).2.d (Ck.writes (BE s.its) s).2.nm
  rw[f] at this⊢
  exact ⟨(h1.trans this).more (by omega),e,b.cap,rfl,fun n a=>(O' _ _ _ a).trans (b.Ji n a)⟩
 exact ⟨h1.more (by omega),e,b⟩
theorem Xr{m:Nat}{s:Ck}(ok:Bf m s):s.flush.2.nm=s.nm:=by
 have b:=(Hw (BE s.its) ok fun k a=>Ff a).2
 grind [Ck.flush]
theorem S3{m T:Nat}{s:Ck}(ok:Bf m s)(g:Good T s)(h0:s.flush.1=0):Clean s.flush.2:=by
 have h:=NK ok g
 have a:=S4 ok
 intro n c
 cases hm:n.Jg with
 |false=>rfl
 | true =>
  exfalso
  have d:=Bj.2 (List.mem_map.2 ⟨n,c,rfl⟩)
  obtain ⟨b,hb,_⟩:=a.key d
  exact (h.kept h0).CD n c hm b (h.ED h0 _ _ (.inl hb))
def TS.QX(s:TS):TS:=⟨s.ck.flush.2,s.sp,s.ops+s.ck.its.length+1⟩
structure cS (s s':TS):Prop where
 zero:s.ck.flush.1=0
 inv:Fs true s'
 clean:Clean s'.ck
 le:Le (nodeAt s) (nodeAt s')
 cap:JB s s'
 sp:s'.sp=s.sp
 left:AL s≤AL s'+2049
theorem S5{s:TS}(h:Fs true s)(g:s.ops+4100≤B8):cS s s.QX:=by
 obtain ⟨m,hm⟩:=h.ts.ck
 have a:=NK hm h.Bk
 obtain ⟨b,b2,c⟩:=Zb hm
 obtain ⟨z,f⟩:=a.roomy (h.roomy rfl)
 have hl:=hm.LC.len
 have e:=Xr hm
 obtain ⟨i,j,k,n4,l⟩:=h.ts.num
 obtain ⟨c1,c2,c3,c4,c5⟩:=b
 refine ⟨z,⟨⟨⟨_,S4 hm⟩,⟨?_,?_,?_,?_,?_⟩,?_,h.ts.res,?_⟩,a.Bk,h.res,h.used,fun _=>f⟩,S3 hm h.Bk z,FO fun p n hs=>KA (no:=0) hs a.has,c,rfl,?_⟩
 ·show s.ck.flush.2.d.changes≤2*(s.ops+s.ck.its.length+1:Nat);omega
 ·show-(2*(s.ops+s.ck.its.length+1:Nat):Int)≤s.ck.flush.2.d.left;omega
 ·show s.ck.flush.2.d.BM.length≤512*(s.ops+s.ck.its.length+1)+(A0 s.ck.flush.2.d s.ck.flush.2.nm).length
  grind
 ·show s.ck.flush.2.reads≤((s.ops+s.ck.its.length+1:Nat):Int);omega
 ·show (A0 s.ck.flush.2.d s.ck.flush.2.nm).length≤_
  simp_all
 ·show s.ops+s.ck.its.length+1≤_;omega
 ·show s.sp.taken.length≤s.ops+s.ck.its.length+1;have:=h.ts.taken;omega
 show (B8-s.ops)/2≤(B8-(s.ops+s.ck.its.length+1))/2+2049;omega
theorem YN{s:TS}(h:Fs true s)(c:Clean s.ck):Le (nodeAt s) (Ax (fileOf s)):=by
 intro p n d
 obtain ⟨e,b,hb,f⟩:=Fi.1 d
 obtain ⟨i,j⟩:=h.used p e
 have g:=h.res
 have k:=LF
 have a:=LI h.ts.ok h.Bk.pf c hb
 unfold Ax fileOf
 rw[if_neg (by have:=a.2.1;omega),a.2.2]
 omega
theorem Xh{s:TS}(h:Fs true s)(a:Clean s.ck):GC (Ax (fileOf s)) (AL s) s:=⟨h.ts,h.Bk.pf,h.Bk.Cp.down,.inl ⟨a,rfl⟩,Nat.le_refl _⟩
theorem IV{l:List UInt8}{p:Int}{n:Nd}(h:Ax l p=some n):1≤p∧p<1048576∧256*p+256≤l.length:=by simp_all[Ax]
theorem UQ(h:Th)(s:TS)(F:Ac)(w:World)(a:Fs true s)(d:s.ops+4100≤B8)(i:s.ck.cap≤1000)(hs:Sat (Ae h s*F) w):
 Calls Tryz.prog 36 #[.pointer (some ⟨h.C,0,none⟩)] w fun e c=>e= .returned (.int .i64 0)∧Sat (Ae h s.QX*F) c:=by
 have b:=S5 a d
 obtain ⟨hi,f⟩:=DR hs
 have hm:=a.ts.ok
 refine (Xq h.C h.D s.ck 137438953472 _ w f hm (by have:=hm.most;unfold U;omega)).mono ?_
 rintro e c ⟨rfl,g⟩
 rw[b.zero]
 exact ⟨rfl,Dp b.inv.ts g⟩
end Go.Proofs.YtfhbmblbidcmmaaGreat
namespace Go.Proofs.YtfhbmblbidcmmaaGreat
open Go.RowKit Go.Sl Go.Dk Go.Tr
open Go.QK (A8)
variable [EZ]
theorem VR(h:Th)(s:TS)(F:Ac)(w:World)(hs:Sat (Ae h s*F) w)(i:F4 s.ck.d JW):
 Calls Tryz.prog 49 #[.pointer (some ⟨h.D,0,none⟩),.string JW,.int .i64 0,.int .i64 (A0 s.ck.d JW).length] w fun e k=> ∃(a:Option Addr)(c:Nat)(m:Int),e= .returned (.tuple #[.slice a (A0 s.ck.d JW).length c,.int .i64 m])∧Sat (rw TB 1 (.slice a (A0 s.ck.d JW).length c) (A1 (A0 s.ck.d JW))*(Ae h s*F)) k:=by
 obtain ⟨hi,x⟩:=DR hs
 obtain ⟨L,PM,ps,hp,l⟩:=Sat.Cu x
 unfold BI at l
 have y:Sat (B6 h.D s.ck.d*(coreC h.C L h.D PM s.ck*(C8 L s.ck.cap s.ck.its*(mp A8 PM (ps.map JE)*(AV ps*(BQ h.S s.sp*(Sl.block h.t Sd [.pointer (some ⟨h.C,0,none⟩),.pointer (some ⟨h.S,0,none⟩)]*F))))))) w:=l.eq (by ac_rfl)
 have g: ∀p∈s.ck.d.files,p.2.now.length≤Pn:=fun p hp=>(hi.ok.dk.sz p hp).1
 have r:(s.ck.d.read JW 0 ((A0 s.ck.d JW).length:Nat)).2=A0 s.ck.d JW:=by
  unfold Dk.read
  cases b:s.ck.d.get JW with
  | none =>
   have q:=Im i.Aq i.down b
   rw[if_pos (by rw[q];decide)]
   unfold A0
   rw[b]
   rfl
  | some f =>
   have hm:=Fh (t:=true) i.Aq i.down b
   rw[if_neg (by simp[hm])]
   have e:A0 s.ck.d JW=f.now:=by unfold A0;rw[b];rfl
   rw[e]
   simp only
   simp only[Option.getD_some]
   rw[if_neg (by omega)]
   simp
 refine (TU h.D s.ck.d JW 0 ((A0 s.ck.d JW).length:Nat) _ w y (by decide) g).mono ?_
 rintro e k ⟨v,rfl,j⟩
 rw[r] at j
 obtain ⟨a,n,c,rfl,o,_⟩:=MS j
 have u:(A0 s.ck.d JW).length=n:=by rw[Cr] at o;omega
 subst u
 refine ⟨a,c,_,rfl,?_⟩
 have z:Sat (coreC h.C L h.D PM s.ck*(C8 L s.ck.cap s.ck.its*(B6 h.D s.ck.d*(mp A8 PM (ps.map JE)*AV ps)))*(rw TB 1 (.slice a (A0 s.ck.d JW).length c) (A1 (A0 s.ck.d JW))*(BQ h.S s.sp*(Sl.block h.t Sd [.pointer (some ⟨h.C,0,none⟩),.pointer (some ⟨h.S,0,none⟩)]*F)))) k:=j.eq (by ac_rfl)
 have B:=Sat.AZ (L:=L) (PM:=PM) (ps:=ps) hp z
 exact (Dp hi (B.eq (show _=AN h.C h.D s.ck*(BQ h.S s.sp*(Sl.block h.t Sd [.pointer (some ⟨h.C,0,none⟩),.pointer (some ⟨h.S,0,none⟩)]*(rw TB 1 (.slice a (A0 s.ck.d JW).length c) (A1 (A0 s.ck.d JW))*F))) by ac_rfl))).eq (by ac_rfl)
theorem VS(h:Th)(s:TS)(nm:ByteArray)(F:Ac)(w:World)(hs:Sat (Ae h s*F) w)(b:nm.size≤9223372036854775807):
 Calls Tryz.prog 50 #[.pointer (some ⟨h.D,0,none⟩),.string nm] w fun e f=>e= .returned (.int .i64 (s.ck.d.size nm))∧w=f:=by
 obtain ⟨hi,c⟩:=DR hs
 obtain ⟨L,PM,ps,hp,a⟩:=Sat.Cu c
 unfold BI at a
 exact Uk h.D s.ck.d nm _ w (a.eq (show _=B6 h.D s.ck.d*(coreC h.C L h.D PM s.ck*(C8 L s.ck.cap s.ck.its*(mp A8 PM (ps.map JE)*(AV ps*(BQ h.S s.sp*(Sl.block h.t Sd [.pointer (some ⟨h.C,0,none⟩),.pointer (some ⟨h.S,0,none⟩)]*F)))))) by ac_rfl)) b
theorem Yr(h:Th)(s:TS)(F:Ac)(w:World)(hs:Sat (Ae h s*F) w)(f:Fs true s)(hr:0<Cn s.sp):
 Calls Tryz.prog 38 #[.pointer (some ⟨h.S,0,none⟩)] w fun e g=> ∃a:List (Int×Int),F7 a∧(∀x,Gm a x↔x∈s.sp.used)∧a.length≤1048576∧ ∃(a':Option Addr)(b:Nat),e= .returned (.slice a' a.length b)∧
  Sat (rw Cc 2 (.slice a' a.length b) (Cf a)*(Ae h s*F)) g:=by
 obtain ⟨hi,i⟩:=DR hs
 have n:=LF
 have hl:s.sp.used.length≤1048576:=by unfold Cn at hr;omega
 have c: ∀k∈s.sp.used,0≤k∧k<1099511627776:=fun k c=>by have:=f.used k c;have:=f.res;omega
 refine (VN h.S s.sp _ w (i.eq (show _=BQ h.S s.sp*(AN h.C h.D s.ck*(Sl.block h.t Sd [.pointer (some ⟨h.C,0,none⟩),.pointer (some ⟨h.S,0,none⟩)]*F)) by ac_rfl)) c hl).mono ?_
 rintro e g ⟨a,h1,d,a',b,rfl,j⟩
 refine ⟨a,h1,d,?_,a',b,rfl,(Dp hi (j.eq (show _=AN h.C h.D s.ck*(BQ h.S s.sp*(Sl.block h.t Sd [.pointer (some ⟨h.C,0,none⟩),.pointer (some ⟨h.S,0,none⟩)]*(rw Cc 2 (.slice a' a.length b) (Cf a)*F))) by ac_rfl))).eq (by ac_rfl)⟩
 have l:=Tp h1
 have m:=List.Nodup.length_le_of_subset ((Gz h1).imp fun h=>by omega) fun x hx=>(d x).1 ((Jh a x).1 hx)
 omega
end Go.Proofs.YtfhbmblbidcmmaaGreat
namespace Go.Proofs.YtfhbmblbidcmmaaGreat
open Go.RowKit Go.Sl Go.Dk Go.Tr
open Go.QK (A8)
def Mo{σ:Type}(rd:Int→M σ Nd)(root:Int):M σ (List Int):=if root=0 then M.pure [] else BF rd 21 root []
def Y4(h:Th)(F:Ac)(r:EX TS (List Int))(e:Ending)(b:World):Prop:=match r with
 | .ok l s=> ∃ns:List Int,ns.Pairwise (· < ·)∧(∀x,x∈ns↔x∈l)∧ ∃(a:Option Addr)(c:Nat),e= .returned (.tuple #[.slice a ns.length c,.int .i64 0])∧Sat (rw B3 1 (.slice a ns.length c) (ints ns)*(Ae h s*F)) b
 | .fault n s=>e= .returned (.tuple #[.slice none 0 0,.int .i64 n])∧Sat (Ae h s*F) b
 | .bad=>False
theorem Rl{A:Ac}{w:World}{n:Nat}[q:Bg A w][z:Sz w n]:Bg (mp A8 n (GX [])*A) (w.alloc (.map #[] 0)):=⟨by
 have h:=q.out.Dh (.map #[] 0)
 rw[z.out] at h
 exact Sat.Es (kf:=A8) (ms:= []) (b:=n) (o:= .map #[] 0) ⟨#[],0,rfl,rfl,by simp,by simp⟩ h⟩
attribute [local instance 20000] Rl
theorem Vt(h : Th)(s : TS)(root : Int)(F : Ac)(w : World)(hs : Sat (Ae h s * F) w)(hb : Mo Ai root s ≠ .bad) :
 Calls Tryz.prog 51 #[.pointer (some ⟨h.t,0,none⟩),.int .i64 root] w (Y4 h F (Mo Ai root s)):=by
 have ba: ∀(fn:Fn)(first cap:Array Value)(w:World),(Instr.makeFunc fn first cap).run Tryz.prog w= .ok (.func fn first cap) w:=fun _ _ _ _=>rfl
 have bc:= @run_makeMap Tryz.prog
 obtain ⟨R,j⟩:=Aq (Mo Ai root s)
 rw[j] at hb⊢
 have HB:=FK hb
 unfold Mo at j
 have h0:=Sat.AH (e:=Cc) (s:=2) (hs.AH (e:=B3) (s:=1))
 haveI:=h0.i
 clear hb hs
 by_cases hz:root=0
 · rw[if_pos hz] at j
   have ae:=j.symm
   subst ae
   subst hz
   clear j HB
   go_enter_defers Tryz.func51,Tryz.ntmps51
   go_wp2
   refine leaves_cons (f:=118) (args:= #[.pointer (some ⟨w.heap.size,0,none⟩),.pointer (some ⟨w.heap.size+1,0,none⟩)]) (by simp) (by simp[go_sem]) ?_
   refine (T2 _ _ _).mono ?_
   rintro e u' bi ⟨rfl,rfl,rfl⟩
   simp[Leaves,settle,results,Tryz.results51,go_sem]
   refine ⟨[],List.Pairwise.nil,fun x=>Iff.rfl,none,0,rfl,?_⟩
   show Sat (rw B3 1 (.slice none 0 0) []*(Ae h s*F)) _
   exact AD _ _ _
 rw[if_neg hz] at j
 have bf:((root:Int)==0)=false:=by simpa using hz
 have ab:=FK j
 have K:=fun S M N F w q=>Yt 21 h s root [] S M N (.slice none 0 0) F w (by omega) q (by rw[j];exact HB.out)
 rw[j,show (21:Int)-((21:Nat):Int)=0 from rfl] at K
 obtain ⟨N,hN⟩:=Aq w.heap.size
 clear j
 go_enter_defers Tryz.func51,Tryz.ntmps51
 go_wp2_with fail
 have q1:Sat (Ae h s*(II (N+3) (N+2) (N+4) (.slice none 0 0) []*(Sl.block N Y9 [.slice none 0 0]*(rw B3 1 (.slice none 0 0) []*(Sl.block (N+1) EN [.int .i64 0]*F))))) (((((w.alloc (.cells #[.slice none 0 0] Y9)).alloc (.cells #[.int .i64 0] EN)).alloc (.map #[] 0)).alloc (.cells #[.map (some (N+2))] Pm)).alloc (.cells #[.slice none 0 0] Wg)):=by
  rw[←hN]
  show Sat (Ae h s*(Sl.block (w.heap.size+1+1+1) Pm [.map (some (w.heap.size+2))]*(mp A8 (w.heap.size+1+1) (GX [])*(Sl.block (w.heap.size+1+1+1+1) Wg [.slice none 0 0]*rw Cc 2 (.slice none 0 0) []))*_)) _
  exact Av (by ac_rfl)
 try rw[hN]
 clear hN
 with_reducible refine Calls.mono (K (N+3) (N+2) (N+4) _ _ q1) ?_
 rintro e w2 h2
 cases R with
 |bad=>exact absurd rfl HB.out
 | fault er s2 =>
   obtain ⟨rfl,v2,o2,q2⟩:=h2
   haveI:=q2.i
   show bodyPostD _ _ _ (.panic (C1 er)) _ w2
   refine leaves_cons (f:=118) (args:= #[.pointer (some ⟨N,0,none⟩),.pointer (some ⟨N+1,0,none⟩)]) (by simp) (by simp[go_sem]) ?_
   refine (Vv N (N+1) er _ _ _ w2 (AP (Sl.block N Y9 [.slice none 0 0]) (Sl.block (N+1) EN [.int .i64 0]))).mono ?_
   rintro e u' w3 ⟨rfl,rfl,Z⟩
   haveI:=Z.i
   simp[Leaves,settle,results,Tryz.results51,go_sem]
   exact ⟨rfl,Ap _ _⟩
 | ok l s2 =>
   obtain ⟨rfl,v2,q2⟩:=h2
   have I:=Vs ab.out
   have Z:Sat (rw Cc 2 v2 (Cf (CA l))*(Ae h s2*(Sl.block (N+3) Pm [.map (some (N+2))]*(mp A8 (N+2) (GX l)*(Sl.block (N+4) Wg [v2]*(Sl.block N Y9 [.slice none 0 0]*(rw B3 1 (.slice none 0 0) []*(Sl.block (N+1) EN [.int .i64 0]*F)))))))) w2:=q2.eq (by unfold II;ac_rfl)
   obtain ⟨D,o,c2,rfl,h3,_⟩:=MS Z
   have hm:(CA l).length=o:=by rw[Eu] at h3;omega
   have bb:o≤1048577:=by rw[←hm];unfold CA;rw[List.length_map];exact I.1
   have H:=fun F w q=>Qo D c2 (CA l) F w (by rw[hm];omega) q
   rw[hm] at H
   have P:Aside (∀(F0:Ac)(w:World),Sat (rw Cc 2 (.slice D o c2) (Cf (CA l))*F0) w→Calls Tryz.prog 120 #[.slice D o c2] w fun e w'=> ∃l':List (Int×Int),l'.Perm (Cq (CA l))∧bR l'∧ ∃(a':Option Addr)(c':Nat),e= .returned (.slice a' (C7 [] l').length c')∧
    Sat (rw Cc 2 (.slice a' (C7 [] l').length c') (Cf (C7 [] l'))*(rw Cc 2 (.slice D o c2) (Cf (CA l))*F0)) w'):=H
   have HL:=FK I
   clear H I q2 q1 h3 hm K this
   haveI:=Z.i
   go_wp2_with fail
   with_reducible refine Calls.mono (P.out _ _ (Af (rw Cc 2 (.slice D o c2) (Cf (CA l))))) ?_
   rintro e w4 ⟨l',V,W,a4,c4,rfl,q4⟩
   have b:=O0 V W
   obtain ⟨a,J⟩:=Aq (C7 [] l')
   rw[J] at b q4
   rw[J]
   have d: ∀x,x∈Eh a↔x∈l:=fun x=>by
    rw[Jh,b.2 x,Sr]
    exact ⟨fun h=>h.2,fun h=>⟨(HL.out.2 x h).1,h⟩⟩
   have B:Aside (F7 a∧(∀x,x∈Eh a↔x∈l)∧eP a):=⟨b.1,d,bC b.1 (fun x hx=>HL.out.2 x ((d x).1 hx)) (Nat.le_trans (List.Nodup.length_le_of_subset ((Gz b.1).imp fun h=>by omega) fun x hx=>(d x).1 hx) HL.out.1)⟩
   obtain ⟨c,n⟩:=Aq a.length
   have r:=FK n
   have ax:c≤1048577:=by
    rw[←n]
    exact Nat.le_trans (Tp b.1) (Nat.le_trans (List.Nodup.length_le_of_subset ((Gz b.1).imp fun h=>by omega) fun x hx=>(d x).1 hx) HL.out.1)
   rw[n] at q4⊢
   have q5:=(q4.eq (show _=Sl.block N Y9 [.slice none 0 0]*(rw B3 1 (.slice none 0 0) []*(rw Cc 2 (.slice a4 c c4) (Cf a)*(Sl.block (N+1) EN [.int .i64 0]*(Ae h s2*F))))*(rw Cc 2 (.slice D o c2) (Cf (CA l))*(Sl.block (N+3) Pm [.map (some (N+2))]*(mp A8 (N+2) (GX l)*Sl.block (N+4) Wg [.slice D o c2]))) by ac_rfl)).Dq
   haveI:=q5.i
   obtain ⟨iI,EI⟩:=IP
   clear V W b J d n Z q4 P
   go_wp2_with fail
   go_loopg [24] c (fun g al wr=> ∃(i:Nat)(x:Option Addr)(k G:Nat),al= .int .i64 i∧i≤c∧Aside (g=c-i∧(Eh (a.take i)).length=k)∧Sat (Sl.block N Y9 [.slice x k G]*(rw B3 1 (.slice x k G) (ints (Eh (a.take i)))*(rw Cc 2 (.slice a4 c c4) (Cf a)*(Sl.block (N+1) EN [.int .i64 0]*(Ae h s2*F))))) wr)
   case atStart=>exact ⟨0,none,0,0,rfl,by omega,⟨rfl,rfl⟩,q5⟩
   obtain ⟨i,x,k,G,rfl,hi,A,L⟩:=hrel
   clear q5
   haveI:=L.i
   by_cases ag:i<c
   · have U:(i:Int)<c:=by omega
     obtain ⟨⟨y,z⟩,hp⟩: ∃p,a[i]?=some p:=⟨_,List.getElem?_eq_getElem (by rw[r.out];exact ag)⟩
     obtain ⟨g0,rfl⟩:=BN (L.take (rw Cc 2 (.slice a4 c c4) (Cf a))) (by omega)
     haveI:=L.i
     haveI:At (Cf a) (i*2) (.int .i64 y):=⟨Mh hp 0 (by omega)⟩
     haveI:At (Cf a) (i*2+1) (.int .i64 z):=⟨Mh hp 1 (by omega)⟩
     obtain ⟨b1,b2,b3,b4⟩:=B.out.2.2 i y z hp
     have HP:=FK hp
     clear hp
     go_wp2_with fail
     obtain ⟨T,hT⟩:=Aq wr.heap.size
     have q8:Sat (Sl.block N Y9 [.slice x k G]*(rw B3 1 (.slice x k G) (ints (Eh (a.take i)++El (y,y)))*(Sl.block T Cc [.int .i64 y,.int .i64 z]*(rw Cc 2 (.slice (some ⟨g0,0,none⟩) c c4) (Cf a)*(Sl.block (N+1) EN [.int .i64 0]*(Ae h s2*F)))))) (wr.alloc (.cells #[.int .i64 y,.int .i64 z] Cc)):=by
      rw[Qq,List.append_nil,←hT]
      exact Av (by ac_rfl)
     try rw[hT]
     generalize wr.alloc (.cells #[.int .i64 y,.int .i64 z] Cc)=wq at q8⊢
     clear hT L
     haveI:=q8.i
     go_loopg [10] (z-y).toNat (fun g ak an=> ∃(u:Int)(xa:Option Addr)(m Q:Nat),ak= .int .i64 u∧y≤u∧u≤z∧Aside (g=(z-u).toNat∧(Eh (a.take i)++El (y,u)).length=m)∧Sat (Sl.block N Y9 [.slice xa m Q]*(rw B3 1 (.slice xa m Q) (ints (Eh (a.take i)++El (y,u)))*(Sl.block T Cc [.int .i64 y,.int .i64 z]*(rw Cc 2 (.slice (some ⟨g0,0,none⟩) c c4) (Cf a)*(Sl.block (N+1) EN [.int .i64 0]*(Ae h s2*F)))))) an)
     case atStart=>exact ⟨y,x,k,G,rfl,Int.le_refl _,by omega,⟨rfl,by rw[Qq,List.append_nil];exact A.out.2⟩,q8⟩
     obtain ⟨u,xa,m,Q,rfl,ah,bd,A3,q9⟩:=hrel
     clear q8
     haveI:=q9.i
     by_cases be:u<z
     · have b9:m≤1048577:=by
        have:=A3.out.2
        rw[List.length_append,Qp] at this
        omega
       have hw:=Bc (u+1) (by omega)
       have O:Aside ((Eh (a.take i)++El (y,u+1)).length=m+1∧ints (Eh (a.take i)++El (y,u+1))=ints (Eh (a.take i)++El (y,u))++ [.int .i64 u]):=by
        rw[←Vp ah,←List.append_assoc]
        exact ⟨by rw[List.length_append,A3.out.2];rfl,by simp[ints]⟩
       have HM:Aside ((z-(u+1)).toNat<(z-u).toNat):=(by omega:(z-(u+1)).toNat<(z-u).toNat)
       go_wp2_with (at_builtin;refine Ad EI rfl (.tmp 36) (.tmp 38) rfl rfl rfl (Af (rw B3 1 (.slice xa m Q) (ints (Eh (a.take i)++El (y,u))))) (Src.new (e:=B3) (s:=1) (vs:= [.int .i64 u]) (Af (Sl.block _ B3 [.int .i64 u])) rfl (by intro v hv;simp at hv;rcases hv with rfl;rfl)) (by unfold maxLen;omega) (by omega) ?_;intro a7 c7 w7 q7 z7;clear z7;haveI:=q7.i)
       go_roundg ((z-(u+1)).toNat)
       case measure=>have:=A3.out.1;have:=HM.out;omega
       case rel=>exact ⟨u+1,a7,m+1,c7,by go_num,by omega,by omega,⟨rfl,O.out.1⟩,by rw[O.out.2];exact Fx _ _ _ _ _ _⟩
     have Y:u=z:=by omega
     subst Y
     have O:Aside ((Eh (a.take (i+1))).length=m∧Eh (a.take i)++El (y,u)=Eh (a.take (i+1))):=by
      rw[Qr HP.out]
      exact ⟨A3.out.2,rfl⟩
     rw[O.out.2] at q9
     haveI:=q9.i
     go_wp2_with fail
     go_roundg (c-(i+1))
     case measure=>have:=A.out.1;omega
     case rel=>exact ⟨i+1,xa,m,Q,by go_num,by omega,⟨rfl,O.out.1⟩,EE _ _ _ _ _⟩
   have U: ¬(i:Int)<c:=by omega
   obtain rfl:i=c:=by omega
   have HF:Aside ((Eh a).length=k):=by have:=A.out.2;rwa [List.take_of_length_le (by rw[r.out];exact Nat.le_refl _)] at this
   rw[List.take_of_length_le (by rw[r.out];exact Nat.le_refl _)] at L
   haveI:=L.i
   clear A
   go_wp2
   refine leaves_cons (f:=118) (args:= #[.pointer (some ⟨N,0,none⟩),.pointer (some ⟨N+1,0,none⟩)]) (by simp) (by simp[go_sem]) ?_
   refine (T2 _ _ _).mono ?_
   rintro e u' w3 ⟨rfl,rfl,rfl⟩
   simp[Leaves,settle,results,Tryz.results51,go_sem]
   refine ⟨Eh a,Gz B.out.1,B.out.2.1,x,G,?_,?_⟩
   · rw[HF.out]
   rw[HF.out]
   exact AD _ _ _
