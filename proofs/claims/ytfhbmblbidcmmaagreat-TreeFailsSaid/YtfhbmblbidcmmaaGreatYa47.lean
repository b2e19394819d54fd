/- treeFails holds for every input. No condition. (part 47) -/
import Derived.Test.YtfhbmblbidcmmaaGreatYa46
set_option linter.all false
set_option maxRecDepth 100000
set_option maxHeartbeats 12800000
namespace Go.Proofs.YtfhbmblbidcmmaaGreat
open Go.RowKit Go.Sl Go.Dk Go.Tr
theorem Kw{l:List As}(h:l.length≤1)(hm: ∀x∈l,Ai x=true):0≤Ab l∧Ab l≤1048576:=by
 match l,h with
 | [],_=>simp[Ab]
 | [a],_=>
  have:=BS.1 (hm a (by simp))
  have e:Ab [a]=a.len:=by simp[Ab]
  rw[e]
  omega
theorem XO{A R R' a b:Ac}{w:World}[h:BG A w](X Y Z V:Ac)[t:Take A X R][t':Take R Y R'][t'':Take R' Z a][t3:Take a V b]:Sat (X*(Y*(Z*V))*b) w:=(h.out.Mi X Y Z).eq (by rw[t3.out];ac_rfl)
theorem J6{X Y Z:Ac}{x y z:Value}{l m k:List As}(b:Nat)(a:Aq X x l)(c:Aq Y y m)(d:Aq Z z k):PE (Sl.block b M9 [x,y,z]*(X*(Y*Z))) (.slice (some ⟨b,0,none⟩) 3 3) [l,m,k]:=by
 refine ⟨[x,y,z],⟨rfl,_,_,rfl,Nat.le_refl _,by omega,fun j u e=>⟨b,0,rfl,?_⟩⟩,rfl,fun i u f hx hl=>?_⟩
 ·haveI:At [x,y,z] j u:=⟨e⟩
  rw[Nat.zero_add]
  exact inferInstance
 match i with
 |0=>simp at hx hl;subst hx;subst hl;exact Al.right (Al.left a)
 |1=>simp at hx hl;subst hx;subst hl;exact Al.right (Al.right (Al.left c))
 |2=>simp at hx hl;subst hx;subst hl;exact Al.right (Al.right (Al.right d))
 |i+3=>simp at hx
structure x6 (s1:TS) (root at_ n all:Int) (L R:List As×Int) (whole:BH) (r1 r0:Int) (s2 s3 s4 s5 s6:TS):Prop where
 hl:Go.Tr.leftOf Ah root at_ s1= .ok L s2
 hr:Go.Tr.DL Ah root (at_+n) all s2= .ok R s3
 hw:DN Ah root s3= .ok whole s4
 XZ:Cu Ah 30 whole R.2 s4= .ok r1 s5
 P':Cu Ah 30 whole L.2 s5= .ok r0 s6
structure o9 (whole:BH) (L R:List As×Int) (put:List As) (p q:BH×BH) (m x y:BH) (s6 s7 s8 s9 s10 s11:TS):Prop where
 hp:Be Ah Ag 30 whole L.2 s6= .ok p s7
 hq:Be Ah Ag 30 p.2 (R.2-L.2) s7= .ok q s8
 hm:BO Ag (join (L.1++put++R.1)) s8= .ok m s9
 hx:DT Ah Ag p.1 m s9= .ok x s10
 hy:DT Ah Ag x q.2 s10= .ok y s11
theorem RW(h : Th)(s : TS)(root at_ n : Int)(put : List As)(v : Value)(B F : Ac)(w : World)(hE : Aq B v put)(hs : Sat (Ad h s * (B * F)) w)(hl : put.length ≤ 1000)
 (hm:BD put=true) (all:Int) (s1:TS) (hz:En Ah root s= .ok all s1) (k1: ¬at_<0) (k2: ¬n<0) (k3: ¬all<at_) (k4: ¬all-at_<n) (k5: ¬1048576<all-n+Ab put) (k6:n=0→put≠ [])
 (L R:List As×Int) (whole:BH) (r1 r0:Int) (s2 s3 s4 s5 s6:TS) (HA:x6 s1 root at_ n all L R whole r1 r0 s2 s3 s4 s5 s6) (Q:DR TS Int)
 (aq:1024<whole.DK.A7-r1+r0+(join (L.1++put++R.1)).length→Q= .fault 11 (s6.Ds s1.sp.taken.length))
 (c9: ¬1024<whole.DK.A7-r1+r0+(join (L.1++put++R.1)).length→ ∃p q m x y s7 s8 s9 s10 s11,o9 whole L R put p q m x y s6 s7 s8 s9 s10 s11∧Q= .ok y.DK.Ay s11):
 Calls Tryz.prog 33 #[.pointer (some ⟨h.t,0,none⟩),.int .i64 root,.int .i64 at_,.int .i64 n,v] w (Su h (B*F) Q (fun z=>Ki z 0) (fun er=>Ki 0 er)):=by
 have fj: ∀(fn:Fn)(first cap:Array Value)(w:World),(Instr.makeFunc fn first cap).run Tryz.prog w= .ok (.func fn first cap) w:=fun _ _ _ _=>rfl
 have dl:Aside (1024<whole.DK.A7-r1+r0+(join (L.1++put++R.1)).length→Q= .fault 11 (s6.Ds s1.sp.taken.length)):=aq
 have dm:Aside (¬1024<whole.DK.A7-r1+r0+(join (L.1++put++R.1)).length→ ∃p q m x y s7 s8 s9 s10 s11,o9 whole L R put p q m x y s6 s7 s8 s9 s10 s11∧Q= .ok y.DK.Ay s11):=c9
 obtain ⟨HL,HR,HW,ac,ab⟩:=HA
 have a4:s1.sp.taken.length≤s6.sp.taken.length:=by
  have g1:=(Af.ok (K7 Bw DH root at_) HL).len
  have g2:=(Af.ok (J9 Bw DH root (at_+n) all) HR).len
  have g3:=(Af.ok (JC Bw DH root) HW).len
  have g4:=(Af.ok (Fv Bw DH 30 whole R.2) ac).len
  have g5:=(Af.ok (Fv Bw DH 30 whole L.2) ab).len
  omega
 obtain ⟨ck,bb,fs,ft⟩:=K6 (by omega) HL
 obtain ⟨cq,bg,fw,fx⟩:=J8 (by omega) HR
 obtain ⟨aa,bh,J,cv⟩:=KY HW
 have ci:=EY (fun p s n s' h=>C6 h) 16777216 (by omega) 30 whole R.2 s4 r1 s5 J (by omega) ac
 have ch:=EY (fun p s n s' h=>C6 h) 16777216 (by omega) 30 whole L.2 s5 r0 s6 J (by omega) ab
 obtain ⟨a0,c0,rfl,dw,fi⟩:=hE.v
 have af:=fun F w q=>Fw put _ B F w hE q (by omega)
 rw[hm] at af
 have c1:=fun F w q=>GY h s root F w q (by rw[hz];simp)
 rw[hz] at c1
 have e7:=H2 hz
 have H:=D0 hm
 have au:=fun x hx=>CP (H.1 x hx)
 have cd:=Bq H.1
 have u:=fun F w q=>Js put _ B F w hE q (by omega) (fun x hx=>by have:=au x hx;have:=BS.1 (H.1 x hx);omega)
 have hw:IntKind.i64.wrap (all-at_)=all-at_:=IntWalk.i64_in _ (by omega)
 have fo:IntKind.i64.wrap (all-n)=all-n:=IntWalk.i64_in _ (by omega)
 have ay:Aside ((∀x∈put,Ai x=true)∧Ab put≤1048576):=H
 obtain ⟨ct,ce⟩: ∃t,Ab put=t:=⟨_,rfl⟩
 rw[ce] at u H cd k5
 obtain ⟨cb,f0⟩:=H
 have fp:IntKind.i64.wrap (all-n+ct)=all-n+ct:=IntWalk.i64_in _ (by omega)
 have fq:IntKind.i64.wrap (at_+n)=at_+n:=IntWalk.i64_in _ (by omega)
 obtain ⟨np,ah⟩: ∃np,put.length=np:=⟨_,rfl⟩
 have ad:Aside (put.length=np∧(n=0→np≠0)):=⟨ah,fun W e2=>k6 W (List.length_eq_zero_iff.1 (ah.trans e2))⟩
 have br:Aside (Aq B (.slice a0 put.length c0) put):=hE
 rw[ah] at hl dw af u cd⊢
 have h2:Sat (B*(Ad h s*F)) w:=hs.eq (by ac_rfl)
 haveI:=h2.i
 unfold Ki at c1
 clear hs h2 cb au hE hm aq c9 k6 ah hz ce
 go_enter_defers Tryz.func33,Tryz.ntmps33
 go_wp2_with fail
 with_reducible refine Calls.mono (af _ _ (Ae B)) ?_
 rintro e w2 ⟨rfl,q2⟩
 obtain ⟨N,hN⟩: ∃N,w.heap.size=N:=⟨_,rfl⟩
 rw[hN] at q2⊢
 haveI:=q2.i
 clear hN af
 go_wp2_with fail
 with_reducible refine Calls.mono (c1 _ _ (Ae (Ad h s))) ?_
 rintro e w3 ⟨rfl,q3⟩
 haveI:=q3.i
 clear c1 q2
 go_wp2_with fail
 with_reducible refine Calls.mono (u _ _ (Ae B)) ?_
 rintro e w4 ⟨rfl,q4⟩
 haveI:=q4.i
 clear u q3
 go_upto_region 10 with (fail)
 go_cut [75] from 28 to 185 (fun ep wx=>ep= .bool false∧Sat (Ad h s1*(B*(Sl.block (N+1) Eu [.int .i64 0]*(Sl.block N Il [.int .i64 0]*F)))) wx)
 case first=>
  by_cases cc:n=0
  · subst cc
    have f1: ¬np=0:=ad.out.2 rfl
    have f2:((np:Int)==0)=false:=by simp;omega
    go_wp2
    go_meet
    exact ⟨rfl,BL _ _ _ _ _⟩
  have fk:((n:Int)==0)=false:=by simpa using cc
  go_wp2
  go_meet
  exact ⟨rfl,BL _ _ _ _ _⟩
 obtain ⟨rfl,q5⟩:=hcut
 haveI:=q5.i
 clear q4
 go_wp2_with fail
 with_reducible refine Calls.mono (L1 h s1 _ _ (Ae (Ad h s1))) ?_
 rintro e w5 ⟨rfl,q6⟩
 haveI:=q6.i
 clear q5
 go_upto_if 89 with (fail)
 go_cut [13,15] from 28 to 185 (fun ek em wx=> ∃(al:Option Addr)(nl cl:Nat)(GL:Ac),ek= .int .i64 L.2∧em= .slice al nl cl∧nl=L.1.length∧Aside (Aq GL (.slice al nl cl) L.1)∧Sat (Ad h s2*(GL*(B*(Sl.block (N+1) Eu [.int .i64 0]*(Sl.block N Il [.int .i64 0]*F))))) wx)
 case first=>
  have hL:=HL
  unfold Go.Tr.leftOf at hL
  by_cases a2:0<at_
  · rw[if_pos a2] at hL
    obtain ⟨z,ak,W,e2⟩:=Aw hL
    have o:=fun F w q=>GX h s1 root (at_-1) F w q (by rw[W];simp)
    rw[W] at o
    obtain ⟨b1,b2,b3,b4⟩:=Fa (by omega) W
    have b5:=BS.1 b1
    obtain ⟨⟨z1,z2,D,z4⟩,K⟩:=z
    simp only at b1 b2 b3 b4 b5 e2
    have l:=fun F w q=>KQ ⟨z1,z2,D,z4⟩ 0 (at_-K) F w q (by simp only;omega) (by omega) (by omega)
    have HP:Aside (L=(Go.Tr.part ⟨z1,z2,D,z4⟩ 0 (at_-K),K)∧ak=s2):=by
     cases e2
     exact ⟨rfl,rfl⟩
    have cf:IntKind.i64.wrap (at_-1)=at_-1:=IntWalk.i64_in _ (by omega)
    have cg:IntKind.i64.wrap (at_-K)=at_-K:=IntWalk.i64_in _ (by omega)
    unfold UK at l
    simp only at l
    clear W e2 b1 b5 hL
    go_wp2_with fail
    with_reducible refine Calls.mono (o _ _ (Ae (Ad h s1))) ?_
    rintro e w6 ⟨v6,G6,rfl,⟨rfl,rfl⟩,q7⟩
    rw[Am] at q7
    haveI:=q7.i
    clear o q6
    go_wp2_with fail
    with_reducible refine Calls.mono (l _ _ Es) ?_
    rintro e w7 ⟨v7,G7,rfl,a7,q8⟩
    obtain ⟨al,cl,rfl,_,_⟩:=a7.v
    haveI:=q8.i
    obtain ⟨e3,e4⟩:=HP.out
    subst e3
    subst e4
    go_wp2
    go_meet
    exact ⟨al,_,cl,G7,rfl,rfl,rfl,a7,EH _ _ _ _ _ _⟩
  rw[if_neg a2] at hL
  have HP:Aside (L=([],at_)∧s1=s2):=by
   cases hL
   exact ⟨rfl,rfl⟩
  clear hL
  go_wp2
  go_meet
  obtain ⟨e3,e4⟩:=HP.out
  subst e3
  subst e4
  exact ⟨none,0,0,1,rfl,rfl,rfl,Al.nil 4 _,by rw[Am];exact BL _ _ _ _ _⟩
 obtain ⟨al,nl,cl,GL,rfl,rfl,dy,bs,q7⟩:=hcut
 subst dy
 haveI:=q7.i
 clear q6
 go_upto_if 108 with (fail)
 go_cut [14,16] from 28 to 185 (fun el en wx=> ∃(ar:Option Addr)(nr cr:Nat)(GR:Ac),el= .int .i64 R.2∧en= .slice ar nr cr∧nr=R.1.length∧Aside (Aq GR (.slice ar nr cr) R.1)∧Sat (Ad h s3*(GR*(GL*(B*(Sl.block (N+1) Eu [.int .i64 0]*(Sl.block N Il [.int .i64 0]*F)))))) wx)
 case first=>
  have hR:=HR
  unfold Go.Tr.DL at hR
  by_cases a2:at_+n<all
  · rw [if_pos a2] at hR
    obtain ⟨z,ak,W,e2⟩:=Aw hR
    have o:=fun F w q=>GX h s2 root (at_+n) F w q (by rw[W];simp)
    rw[W] at o
    obtain ⟨b1,b2,b3,b4⟩:=Fa (by omega) W
    have b5:=BS.1 b1
    obtain ⟨⟨z1,z2,D,z4⟩,K⟩:=z
    simp only at b1 b2 b3 b4 b5 e2
    have l:=fun F w q=>KQ ⟨z1,z2,D,z4⟩ (at_+n-K) D F w q (by simp only;omega) (by omega) (by omega)
    have HP:Aside (R=(Go.Tr.part ⟨z1,z2,D,z4⟩ (at_+n-K) D,K+D)∧ak=s3):=by
     cases e2
     exact ⟨rfl,rfl⟩
    have cf:IntKind.i64.wrap (at_+n-K)=at_+n-K:=IntWalk.i64_in _ (by omega)
    have cg:IntKind.i64.wrap (K+D)=K+D:=IntWalk.i64_in _ (by omega)
    unfold UK at l
    simp only at l
    clear W e2 b1 b5 hR
    go_wp2_with fail
    with_reducible refine Calls.mono (o _ _ (Ae (Ad h s2))) ?_
    rintro e w6 ⟨v6,G6,rfl,⟨rfl,rfl⟩,q8⟩
    rw[Am] at q8
    haveI:=q8.i
    obtain ⟨P,X⟩: ∃M,w6.heap.size=M:=⟨_,rfl⟩
    clear o q7
    go_upto_region 21 with (fail)
    try rw[X]
    have q9:Sat (Sl.block P A9 [.int .i64 z1,.int .i64 z2,.int .i64 D,.int .i64 z4]*(Ad h ak*(GL*(B*(Sl.block (N+1) Eu [.int .i64 0]*(Sl.block N Il [.int .i64 0]*F)))))) (w6.alloc (.cells #[.int .i64 z1,.int .i64 z2,.int .i64 D,.int .i64 z4] A9)):=by
     rw[←X]
     exact A8 (by ac_rfl)
    clear X q8
    generalize w6.alloc (.cells #[.int .i64 z1,.int .i64 z2,.int .i64 D,.int .i64 z4] A9)=w66 at q9⊢
    haveI:=q9.i
    go_region_held3 (fun c=>c.cell? ⟨P,0,none⟩=some (.int .i64 z1)∧c.cell? ⟨P,1,none⟩=some (.int .i64 z2)∧c.cell? ⟨P,2,none⟩=some (.int .i64 D)∧c.cell? ⟨P,3,none⟩=some (.int .i64 z4)) (first|exact ⟨Aa _ _ _,Aa _ _ _,Aa _ _ _,Aa _ _ _⟩) (first
     |(
       go_at_call 95
       with_reducible refine Calls.mono (l _ _ Es) ?_
       rintro e w7 ⟨v7,G7,rfl,a7,a8⟩
       obtain ⟨ar,cr,rfl,_,_⟩:=a7.v
       haveI:=a8.i))
    all_goals
     obtain ⟨e3,e4⟩:=HP.out
     subst e3
     subst e4
     go_wp2
     go_meet
     exact ⟨ar,_,cr,G7,rfl,rfl,rfl,a7,WM _ _ _ _ _ _ _⟩
  rw[if_neg a2] at hR
  have HP:Aside (R=([],at_+n)∧s2=s3):=by
   cases hR
   exact ⟨rfl,rfl⟩
  clear hR
  go_wp2
  go_meet
  obtain ⟨e3,e4⟩:=HP.out
  subst e3
  subst e4
  exact ⟨none,0,0,1,rfl,rfl,rfl,Al.nil 4 _,by rw[Am];exact EH _ _ _ _ _ _⟩
 obtain ⟨ar,nr,cr,GR,rfl,rfl,dz,bt,q8⟩:=hcut
 haveI:=q8.i
 subst dz
 clear q7
 obtain ⟨e8,e9⟩:=Kw ck bb
 obtain ⟨ei,ej⟩:=Kw cq bg
 have a3:([L.1,put,R.1]:List (List As)).flatten=L.1++put++R.1:=by simp
 have c8:Aq B (.slice a0 np c0) put:=by have:=br.out;rw[ad.out.1] at this;exact this
 have a6 := fun b F w q => MV [L.1, put, R.1] (.slice (some ⟨b, 0, none⟩) 3 3) (Sl.block b M9 [.slice al L.1.length cl, .slice a0 np c0, .slice ar R.1.length cr] * (GL * (B * GR))) F w (J6 b bs.out c8 bt.out) q (by simp)
  (by rw[a3];simp only[List.length_append];rw[ad.out.1];omega)
  (by
    rw[a3]
    intro x hx
    rcases List.mem_append.1 hx with hx|hx
    · rcases List.mem_append.1 hx with hx|hx
      ·exact bb x hx
      exact ay.out.1 x hx
    exact bg x hx)
  (by rw[a3,Go.Tr.Ak,Go.Tr.Ak];have:=ay.out.2;omega)
 rw[a3] at a6
 have a5:=Hm (L.1++put++R.1)
 simp only[List.length_append] at a5
 rw[ad.out.1] at a5
 obtain ⟨g,ba⟩: ∃g,join (L.1++put++R.1)=g:=⟨_,rfl⟩
 have ax:Aside (join (L.1++put++R.1)=g):=ba
 rw[ba] at a6 a5
 obtain ⟨a,ag⟩: ∃a,g.length=a:=⟨_,rfl⟩
 have O:Aside (g.length=a):=ag
 rw[ag] at a5
 have ez:a≤1002:=by omega
 rw[ag] at a6
 have c3:=fun F w q=>NJ h s3 root F w q (by rw[HW];simp)
 rw[HW] at c3
 have c4:=fun F w q=>KV 30 h s4 whole R.2 F w q aa (by omega) J (by omega) (by omega) (by omega) (by rw[ac];simp)
 rw[ac] at c4
 have c5:=fun F w q=>KV 30 h s5 whole L.2 F w q aa (by omega) J (by omega) (by omega) (by omega) (by rw[ab];simp)
 rw[ab] at c5
 have c6:=fun F w q nb=>Hv 30 h s6 whole L.2 F w q (by omega) (by omega) (by omega) (by omega) nb
 obtain ⟨⟨x1,x2,x3,r⟩,xh⟩:=whole
 unfold AH at c4 c5 c6
 simp only at c4 c5 c6 aa bh J cv ci ch
 have cf:IntKind.i64.wrap (r-r1)=r-r1:=IntWalk.i64_in _ (by omega)
 have cg:IntKind.i64.wrap (r-r1+r0)=r-r1+r0:=IntWalk.i64_in _ (by omega)
 have fl:IntKind.i64.wrap (r-r1+r0+(a:Int))=r-r1+r0+a:=IntWalk.i64_in _ (by omega)
 have fm:IntKind.i64.wrap (R.2-L.2)=R.2-L.2:=IntWalk.i64_in _ (by omega)
 have dk:Aside (-1≤xh∧xh≤20∧R.2-L.2≤1099511627776):=⟨aa,bh,by omega⟩
 have bu:Aside (s1.sp.taken.length≤s6.sp.taken.length):=a4
 clear e8 e9 ei ej a3 c8 ba a5 ag ci ch aa bh J cv a4 ck bb cq bg bs bt br ay e7
 go_wp2_with fail
 with_reducible refine Calls.mono (a6 _ _ _ (XO _ _ _ _)) ?_
 rintro e w7 ⟨T,U,rfl,q9⟩
 haveI:=q9.i
 clear a6
 have a8:Sat (Ad h s3*(rw A9 4 (.slice T a U) (AQ g)*(Sl.block (N+1) Eu [.int .i64 0]*(Sl.block N Il [.int .i64 0]*(B*F))))) w7:=EH _ _ _ _ _ _
 haveI:=a8.i
 have hJ:Aq (rw A9 4 (.slice T a U) (AQ g)) (.slice T a U) g:=by
  have:=Al.rw (F:=Ad h s3*(Sl.block (N+1) Eu [.int .i64 0]*(Sl.block N Il [.int .i64 0]*(B*F)))) (a8.eq (by ac_rfl)) ⟨T,U,rfl⟩ (n:=a)
  rw[←O.out] at this⊢
  exact this
 have HJ:Aside (Aq (rw A9 4 (.slice T a U) (AQ g)) (.slice T a U) g):=hJ
 clear hJ q8 q9
 go_wp2_with fail
 with_reducible refine Calls.mono (c3 _ _ (Ae (Ad h s3))) ?_
 rintro e w8 ⟨v8,G8,rfl,⟨rfl,rfl⟩,bc⟩
 rw[Am] at bc
 haveI:=bc.i
 obtain ⟨j,Y⟩: ∃M,w8.heap.size=M:=⟨_,rfl⟩
 unfold AH
 clear a8 c3
 go_upto_region 24 with (fail)
 try rw[Y]
 have bd:Sat (Sl.block j CG [.int .i64 x1,.int .i64 x2,.int .i64 x3,.int .i64 r,.int .i64 xh]*(Ad h s4*(rw A9 4 (.slice T a U) (AQ g)*(Sl.block (N+1) Eu [.int .i64 0]*(Sl.block N Il [.int .i64 0]*(B*F)))))) (w8.alloc (.cells #[.int .i64 x1,.int .i64 x2,.int .i64 x3,.int .i64 r,.int .i64 xh] CG)):=by
  rw[←Y]
  exact A8 (by ac_rfl)
 clear Y bc
 generalize w8.alloc (.cells #[.int .i64 x1,.int .i64 x2,.int .i64 x3,.int .i64 r,.int .i64 xh] CG)=w88 at bd⊢
 haveI:=bd.i
 go_cut [157] from 28 to 185 (fun cs wx=>cs= .bool (decide (1024<r-r1+r0+(a:Int)))∧Sat (Sl.block j CG [.int .i64 x1,.int .i64 x2,.int .i64 x3,.int .i64 r,.int .i64 xh]*(Ad h s6*(rw A9 4 (.slice T a U) (AQ g)*(Sl.block (N+1) Eu [.int .i64 0]*(Sl.block N Il [.int .i64 0]*(B*F)))))) wx)
 case first =>
  go_region_held3 (fun c=>c.cell? ⟨j,0,none⟩=some (.int .i64 x1)∧c.cell? ⟨j,1,none⟩=some (.int .i64 x2)∧c.cell? ⟨j,2,none⟩=some (.int .i64 x3)∧c.cell? ⟨j,3,none⟩=some (.int .i64 r)∧c.cell? ⟨j,4,none⟩=some (.int .i64 xh)) (first|exact ⟨Aa _ _ _,Aa _ _ _,Aa _ _ _,Aa _ _ _,Aa _ _ _⟩) (first
   |(
      go_at_call 97
      with_reducible refine Calls.mono (c4 _ _ (Ae (Ad h s4))) ?_
      rintro e w9 ⟨v9,G9,rfl,⟨rfl,rfl⟩,a9⟩
      rw[Am] at a9
      haveI:=a9.i)
   |(
      go_at_call 97
      with_reducible refine Calls.mono (c5 _ _ (Ae (Ad h s5))) ?_
      rintro e gb ⟨fy,f8,rfl,⟨rfl,rfl⟩,d⟩
      rw[Am] at d
      haveI:=d.i))
  all_goals
   go_wp2
   go_meet
   exact ⟨rfl,EH _ _ _ _ _ _⟩
 obtain ⟨rfl,a9⟩:=hcut
 haveI:=a9.i
 clear bd c4 c5
 by_cases hb:1024<r-r1+r0+(a:Int)
 · have hQ:=dl.out (by rw[ax.out,O.out];omega)
   subst hQ
   have hd:decide (1024<r-r1+r0+(a:Int))=true:=decide_eq_true hb
   rw[hd]
   go_wp2
   refine leaves_cons (f:=93) (args:= #[.pointer (some ⟨N,0,none⟩),.pointer (some ⟨N+1,0,none⟩)]) (by simp) (by simp[go_sem]) ?_
   refine (F6 _ _ _).mono ?_
   rintro e u' cu ⟨rfl,rfl,rfl⟩
   show Leaves _ _ _ _ _ .returning _
   refine leaves_cons (f:=81) (args:= #[.pointer (some ⟨h.t,0,none⟩),.int .i64 s1.sp.taken.length,.pointer (some ⟨N+1,0,none⟩)]) (by simp) (by simp[go_sem]) ?_
   refine (Li h s6 s1.sp.taken.length (N+1) 11 _ _ _ (by omega) bu.out (AY (Ad h s6) (Sl.block (N+1) Eu [.int .i64 11]))).mono ?_
   rintro e u' I ⟨rfl,rfl,d⟩
   haveI:=d.i
   simp[Leaves,settle,results,Tryz.results33,go_sem]
   exact ⟨rfl,AR _ _ _⟩
 obtain ⟨p,q,m,x,y,s7,s8,s9,s10,s11,⟨hp,hq,hm,hx,hy⟩,hQ⟩:=dm.out (by rw[ax.out,O.out];omega)
 have hd:decide (1024<r-r1+r0+(a:Int))=false:=decide_eq_false hb
 rw[ax.out] at hm
 obtain ⟨w1,gg,w3⟩:=dk.out
 have e0:=Dd (fun p s n s' h=>C6 h) 30 _ _ _ _ _ hp (-31) 20 (by omega) (by omega) (by simp only;omega) (by simp only;omega)
 have e5:=Dd (fun p s n s' h=>C6 h) 30 _ _ _ _ _ hq (-62) 454 (by omega) (by omega) (by omega) (by omega)
 have ca:=EA hm
 rw[O.out] at ca
 have e6:=Gr (fun p s n s' h=>Kf h) hx (-31) 454 (by omega) (by omega) (by omega) (by omega) (by omega) (by omega)
 have d6:=fun F w q=>c6 F w q (by rw[hp];simp)
 rw[hp] at d6
 have d7:=fun F w q=>Hv 30 h s7 p.2 (R.2-L.2) F w q (by omega) (by omega) (by omega) w3 (by rw[hq];simp)
 rw[hq] at d7
 have d8:=fun F w q=>FR h s8 g _ _ F w HJ.out q (by rw[O.out];omega) (by rw[hm];simp)
 rw[hm] at d8
 have d9:=fun F w q=>GV h s9 p.1 m F w q (by omega) (by omega) (by omega) (by omega) (by rw[hx];simp)
 rw[hx] at d9
 have V:=fun F w q'=>GV h s10 x q.2 F w q' (by omega) (by omega) (by omega) (by omega) (by rw[hy];simp)
 rw[hy] at V
 obtain ⟨⟨⟨p1,p2,p3,p4⟩,ph⟩,⟨⟨o1,o2,o3,o4⟩,oh⟩⟩:=p
 obtain ⟨⟨⟨g1,g2,g3,g4⟩,gh⟩,⟨⟨l1,l2,l3,l4⟩,lh⟩⟩:=q
 obtain ⟨⟨m1,m2,m3,m4⟩,mh⟩:=m
 obtain ⟨⟨u1,u2,u3,u4⟩,uh⟩:=x
 obtain ⟨⟨y1,y2,y3,y4⟩,yh⟩:=y
 unfold Ox at d6 d7
 unfold J0 at d8 d9 V
 unfold AH at d6 d7 d8 d9 V
 simp only at d6 d7 d8 d9 V hQ
 subst hQ
 rw[hd]
 clear hp hq hm hx hy e0 e5 ca e6 c6
 go_wp2_with fail
 with_reducible refine Calls.mono (d6 _ _ (Ae (Ad h s6))) ?_
 rintro e cu ⟨fz,f9,rfl,⟨rfl,rfl⟩,d⟩
 rw[Am] at d
 haveI:=d.i
 obtain ⟨k,Z⟩: ∃M,cu.heap.size=M:=⟨_,rfl⟩
 clear a9
 go_wp2_with fail
 with_reducible refine Calls.mono (d7 _ _ (Ae (Ad h s7))) ?_
 rintro e I ⟨g0,fa,rfl,⟨rfl,rfl⟩,be⟩
 rw[Am] at be
 haveI:=be.i
 have cm:Sat (Ad h s8*(rw A9 4 (.slice T a U) (AQ g)*(Sl.block k CG [.int .i64 p1,.int .i64 p2,.int .i64 p3,.int .i64 p4,.int .i64 ph]*(Sl.block (N+1) Eu [.int .i64 0]*(Sl.block N Il [.int .i64 0]*(B*F)))))) I:=by
  rw[←Z]
  exact EH _ _ _ _ _ _
 obtain ⟨G,a1⟩: ∃M,I.heap.size=M:=⟨_,rfl⟩
 haveI:=cm.i
 clear d be d6 d7
 try rw[Z]
 clear Z
 go_upto_region 28 with (fail)
 try rw[a1]
 have bf:Sat (Sl.block (G+1) CG [.int .i64 l1,.int .i64 l2,.int .i64 l3,.int .i64 l4,.int .i64 lh]*(Ad h s8*(rw A9 4 (.slice T a U) (AQ g)*(Sl.block k CG [.int .i64 p1,.int .i64 p2,.int .i64 p3,.int .i64 p4,.int .i64 ph]*(Sl.block (N+1) Eu [.int .i64 0]*(Sl.block N Il [.int .i64 0]*(B*F))))))) ((I.alloc (.cells #[.int .i64 g1,.int .i64 g2,.int .i64 g3,.int .i64 g4,.int .i64 gh] CG)).alloc (.cells #[.int .i64 l1,.int .i64 l2,.int .i64 l3,.int .i64 l4,.int .i64 lh] CG)):=by
  rw[←a1]
  exact Br (C:=Sl.block I.heap.size CG [.int .i64 g1,.int .i64 g2,.int .i64 g3,.int .i64 g4,.int .i64 gh]) (by ac_rfl)
 clear a1 cm
 generalize (I.alloc (.cells #[.int .i64 g1,.int .i64 g2,.int .i64 g3,.int .i64 g4,.int .i64 gh] CG)).alloc (.cells #[.int .i64 l1,.int .i64 l2,.int .i64 l3,.int .i64 l4,.int .i64 lh] CG)=w55 at bf⊢
 haveI:=bf.i
 go_cut [27] from 28 to 185 (fun eo wx=> ∃M:Nat,eo= .pointer (some ⟨M,0,none⟩)∧Sat (Sl.block M CG [.int .i64 y1,.int .i64 y2,.int .i64 y3,.int .i64 y4,.int .i64 yh]*(Ad h s11*(Sl.block (N+1) Eu [.int .i64 0]*(Sl.block N Il [.int .i64 0]*(B*F))))) wx)
 case first =>
  go_region_held3 (fun c=>c.cell? ⟨k,0,none⟩=some (.int .i64 p1)∧c.cell? ⟨k,1,none⟩=some (.int .i64 p2)∧c.cell? ⟨k,2,none⟩=some (.int .i64 p3)∧c.cell? ⟨k,3,none⟩=some (.int .i64 p4)∧c.cell? ⟨k,4,none⟩=some (.int .i64 ph)∧c.cell? ⟨G+1,0,none⟩=some (.int .i64 l1)∧c.cell? ⟨G+1,1,none⟩=some (.int .i64 l2)∧c.cell? ⟨G+1,2,none⟩=some (.int .i64 l3)∧c.cell? ⟨G+1,3,none⟩=some (.int .i64 l4)∧c.cell? ⟨G+1,4,none⟩=some (.int .i64 lh)) (first|exact ⟨Aa _ _ _,Aa _ _ _,Aa _ _ _,Aa _ _ _,Aa _ _ _,Aa _ _ _,Aa _ _ _,Aa _ _ _,Aa _ _ _,Aa _ _ _⟩) (first
   |(
      go_at_call 84
      with_reducible refine Calls.mono (d8 _ _ (AY (Ad h s8) (rw A9 4 (.slice T a U) (AQ g)))) ?_
      rintro e gc ⟨g6,fb,rfl,⟨rfl,rfl⟩,ai⟩
      rw[Am] at ai
      haveI:=ai.i)
   |(
      go_at_call 99
      with_reducible refine Calls.mono (d9 _ _ (Ae (Ad h s9))) ?_
      rintro e gd ⟨g7,fc,rfl,⟨rfl,rfl⟩,cn⟩
      rw[Am] at cn
      haveI:=cn.i)
   |(
      go_at_call 99
      with_reducible refine Calls.mono (V _ _ (Ae (Ad h s10))) ?_
      rintro e ge ⟨g8,fd,rfl,⟨rfl,rfl⟩,co⟩
      rw[Am] at co
      haveI:=co.i))
  all_goals
   go_wp2
   go_meet
   exact ⟨_,rfl,EH _ _ _ _ _ _⟩
 obtain ⟨M,rfl,ai⟩:=hcut
 haveI:=ai.i
 clear bf
 go_wp2
 refine leaves_cons (f:=93) (args:= #[.pointer (some ⟨N,0,none⟩),.pointer (some ⟨N+1,0,none⟩)]) (by simp) (by simp[go_sem]) ?_
 refine (F6 _ _ _).mono ?_
 rintro e u' gf ⟨rfl,rfl,rfl⟩
 show Leaves _ _ _ _ _ .returning _
 refine leaves_cons (f:=81) (args:= #[.pointer (some ⟨h.t,0,none⟩),.int .i64 s1.sp.taken.length,.pointer (some ⟨N+1,0,none⟩)]) (by simp) (by simp[go_sem]) ?_
 refine (Ja _ _ (N+1) _ _ _ (Ae (Sl.block (N+1) Eu [.int .i64 0]))).mono ?_
 rintro e u' gi ⟨rfl,rfl,eg⟩
 haveI:=eg.i
 simp[Leaves,settle,results,Tryz.results33,go_sem]
 exact ⟨rfl,AR _ _ _⟩
