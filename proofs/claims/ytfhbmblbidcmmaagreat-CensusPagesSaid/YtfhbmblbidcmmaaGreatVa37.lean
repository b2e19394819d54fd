/- censusPages holds for every input. No condition. (part 37) -/
import Derived.Test.YtfhbmblbidcmmaaGreatVa35
import Derived.Test.YtfhbmblbidcmmaaGreatVa36
set_option linter.all false
set_option maxRecDepth 100000
set_option maxHeartbeats 12800000
namespace Go.Proofs.YtfhbmblbidcmmaaGreat
open Go.RowKit Go.Sl Go.Dk Go.Tr
theorem T4{l:List Ar}(h:l.length≤1)(hm: ∀x∈l,Ai x=true):0≤Aa l∧Aa l≤1048576:=by
 match l,h with
 | [],_=>simp[Aa]
 | [a],_=>
  have:=Cl.1 (hm a (by simp))
  have e:Aa [a]=a.len:=by simp[Aa]
  rw[e]
  omega
theorem kI{A R R' a b:Ab}{w:World}[h:AV A w](X Y Z V:Ab)[t:Take A X R][t':Take R Y R'][t'':Take R' Z a][t3:Take a V b]:Sat (X*(Y*(Z*V))*b) w:=(h.out.K1 X Y Z).eq (by rw[t3.out];ac_rfl)
theorem Qr{X Y Z:Ab}{x y z:Value}{l m k:List Ar}(b:Nat)(h1:Au X x l)(a:Au Y y m)(c:Au Z z k):RO (Sl.block b PX [x,y,z]*(X*(Y*Z))) (.slice (some ⟨b,0,none⟩) 3 3) [l,m,k]:=by
 refine ⟨[x,y,z],⟨rfl,_,_,rfl,Nat.le_refl _,by omega,fun j u d=>⟨b,0,rfl,?_⟩⟩,rfl,fun i u l' hx hl=>?_⟩
 ·haveI:At [x,y,z] j u:=⟨d⟩
  rw[Nat.zero_add]
  exact inferInstance
 match i with
 |0=>simp at hx hl;subst hx;subst hl;exact Aj.right (Aj.left h1)
 |1=>simp at hx hl;subst hx;subst hl;exact Aj.right (Aj.right (Aj.left a))
 |2=>simp at hx hl;subst hx;subst hl;exact Aj.right (Aj.right (Aj.right c))
 |i+3=>simp at hx
structure nJ (s1:TS) (root at_ n all:Int) (L R:List Ar×Int) (whole:BJ) (r1 r0:Int) (s2 s3 s4 s5 s6:TS):Prop where
 hl:Go.Tr.leftOf Ah root at_ s1= .ok L s2
 hr:Go.Tr.FT Ah root (at_+n) all s2= .ok R s3
 hw:EC Ah root s3= .ok whole s4
 XO:CI Ah 30 whole R.2 s4= .ok r1 s5
 mT:CI Ah 30 whole L.2 s5= .ok r0 s6
structure nL (whole:BJ) (L R:List Ar×Int) (put:List Ar) (p q:BJ×BJ) (m x y:BJ) (s6 s7 s8 s9 s10 s11:TS):Prop where
 hp:Br Ah Al 30 whole L.2 s6= .ok p s7
 hq:Br Ah Al 30 p.2 (R.2-L.2) s7= .ok q s8
 hm:BT Al (join (L.1++put++R.1)) s8= .ok m s9
 hx:EK Ah Al p.1 m s9= .ok x s10
 hy:EK Ah Al x q.2 s10= .ok y s11
theorem NH(h : Th)(s : TS)(root at_ n : Int)(put : List Ar)(v : Value)(B F : Ab)(w : World)(hE : Au B v put)(hs : Sat (Ad h s * (B * F)) w)(hl : put.length ≤ 1000)
 (hm:Bf put=true) (all:Int) (s1:TS) (hz:FC Ah root s= .ok all s1) (k1: ¬at_<0) (k2: ¬n<0) (k3: ¬all<at_) (k4: ¬all-at_<n) (k5: ¬1048576<all-n+Aa put) (k6:n=0→put≠ [])
 (L R:List Ar×Int) (whole:BJ) (r1 r0:Int) (s2 s3 s4 s5 s6:TS) (HA:nJ s1 root at_ n all L R whole r1 r0 s2 s3 s4 s5 s6) (Q:Fx TS Int)
 (au:1024<whole.E8.A7-r1+r0+(join (L.1++put++R.1)).length→Q= .fault 11 (s6.Ha s1.sp.taken.length))
 (c7: ¬1024<whole.E8.A7-r1+r0+(join (L.1++put++R.1)).length→ ∃p q m x y s7 s8 s9 s10 s11,nL whole L R put p q m x y s6 s7 s8 s9 s10 s11∧Q= .ok y.E8.Ap s11):
 Calls Tryz.prog 33 #[.pointer (some ⟨h.t,0,none⟩),.int .i64 root,.int .i64 at_,.int .i64 n,v] w (G' h (B*F) Q (fun z=>On z 0) (fun er=>On 0 er)):=by
 have fd: ∀(fn:Fn)(first cap:Array Value)(w:World),(Instr.makeFunc fn first cap).run Tryz.prog w= .ok (.func fn first cap) w:=fun _ _ _ _=>rfl
 have dg:Aside (1024<whole.E8.A7-r1+r0+(join (L.1++put++R.1)).length→Q= .fault 11 (s6.Ha s1.sp.taken.length)):=au
 have dh:Aside (¬1024<whole.E8.A7-r1+r0+(join (L.1++put++R.1)).length→ ∃p q m x y s7 s8 s9 s10 s11,nL whole L R put p q m x y s6 s7 s8 s9 s10 s11∧Q= .ok y.E8.Ap s11):=c7
 obtain ⟨HL,HR,HW,ad,ac⟩:=HA
 have a4:s1.sp.taken.length≤s6.sp.taken.length:=by
  have g1:=(Ak.ok (I2 BL FB root at_) HL).len
  have g2:=(Ak.ok (GU BL FB root (at_+n) all) HR).len
  have g3:=(Ak.ok (GZ BL FB root) HW).len
  have g4:=(Ak.ok (Ei BL FB 30 whole R.2) ad).len
  have g5:=(Ak.ok (Ei BL FB 30 whole L.2) ac).len
  omega
 obtain ⟨ch,bb,fi,fj⟩:=Sh (by omega) HL
 obtain ⟨co,bg,fm,fo⟩:=Qs (by omega) HR
 obtain ⟨aa,bh,H,cs⟩:=SM HW
 have cg:=IC (fun p s n s' h=>Et h) 16777216 (by omega) 30 whole R.2 s4 r1 s5 H (by omega) ad
 have cf:=IC (fun p s n s' h=>Et h) 16777216 (by omega) 30 whole L.2 s5 r0 s6 H (by omega) ac
 obtain ⟨a0,c0,rfl,dp,fc⟩:=hE.v
 have ag:=fun F w q=>Gz put _ B F w hE q (by omega)
 rw[hm] at ag
 have c1:=fun F w q=>Ib h s root F w q (by rw[hz];simp)
 rw[hz] at c1
 have dw:=IM hz
 have D:=Cz hm
 have av:=fun x hx=>Eb (D.1 x hx)
 have cb:=Bq D.1
 have o:=fun F w q=>MT put _ B F w hE q (by omega) (fun x hx=>by have:=av x hx;have:=Cl.1 (D.1 x hx);omega)
 have hw:=Bg (all-at_) (by omega)
 have hw2:=Bg (all-n) (by omega)
 have ay:Aside ((∀x∈put,Ai x=true)∧Aa put≤1048576):=D
 obtain ⟨ej,cc⟩:=Aq (Aa put)
 rw[cc] at o D cb k5
 obtain ⟨c9,eu⟩:=D
 have hw3:=Bg (all-n+ej) (by omega)
 have hw4:=Bg (at_+n) (by omega)
 obtain ⟨np,ai⟩:=Aq put.length
 have ae:Aside (put.length=np∧(n=0→np≠0)):=⟨ai,fun V e2=>k6 V (List.length_eq_zero_iff.1 (ai.trans e2))⟩
 have br:Aside (Au B (.slice a0 put.length c0) put):=hE
 rw[ai] at hl dp ag o cb⊢
 have h2:Sat (B*(Ad h s*F)) w:=hs.eq (by ac_rfl)
 haveI:=h2.i
 unfold On at c1
 clear hs h2 c9 av hE hm au c7 k6 ai hz cc
 go_enter_defers Tryz.func33,Tryz.ntmps33
 go_wp2_with fail
 with_reducible refine Calls.mono (ag _ _ (Ae B)) ?_
 rintro e w2 ⟨rfl,q2⟩
 obtain ⟨N,hN⟩:=Aq w.heap.size
 rw[hN] at q2⊢
 haveI:=q2.i
 clear hN ag
 go_wp2_with fail
 with_reducible refine Calls.mono (c1 _ _ (Ae (Ad h s))) ?_
 rintro e w3 ⟨rfl,q3⟩
 haveI:=q3.i
 clear c1 q2
 go_wp2_with fail
 with_reducible refine Calls.mono (o _ _ (Ae B)) ?_
 rintro e w4 ⟨rfl,q4⟩
 haveI:=q4.i
 clear o q3
 go_upto_region 10 with (fail)
 go_cut [75] from 28 to 185 (fun ei wx=>ei= .bool false∧Sat (Ad h s1*(B*(Sl.block (N+1) Fz [.int .i64 0]*(Sl.block N Qc [.int .i64 0]*F)))) wx)
 case first=>
  by_cases ca:n=0
  · subst ca
    have ev: ¬np=0:=ae.out.2 rfl
    have ew:((np:Int)==0)=false:=by simp;omega
    go_wp2
    go_meet
    exact ⟨rfl,DE _ _ _ _ _⟩
  have fe:((n:Int)==0)=false:=by simpa using ca
  go_wp2
  go_meet
  exact ⟨rfl,DE _ _ _ _ _⟩
 obtain ⟨rfl,q5⟩:=hcut
 haveI:=q5.i
 clear q4
 go_wp2_with fail
 with_reducible refine Calls.mono (Ra h s1 _ _ (Ae (Ad h s1))) ?_
 rintro e w5 ⟨rfl,q6⟩
 haveI:=q6.i
 clear q5
 go_upto_if 89 with (fail)
 go_cut [13,15] from 28 to 185 (fun ed ef wx=> ∃(al:Option Addr)(nl cl:Nat)(GL:Ab),ed= .int .i64 L.2∧ef= .slice al nl cl∧nl=L.1.length∧Aside (Au GL (.slice al nl cl) L.1)∧Sat (Ad h s2*(GL*(B*(Sl.block (N+1) Fz [.int .i64 0]*(Sl.block N Qc [.int .i64 0]*F))))) wx)
 case first=>
  have hL:=HL
  unfold Go.Tr.leftOf at hL
  by_cases a2:0<at_
  · rw[if_pos a2] at hL
    obtain ⟨z,am,V,e2⟩:=A1 hL
    have l:=fun F w q=>Vp h s1 root (at_-1) F w q (by rw[V];simp)
    rw[V] at l
    obtain ⟨b1,b2,b3,b4⟩:=IL (by omega) V
    have b5:=Cl.1 b1
    obtain ⟨⟨z1,z2,J,z4⟩,za⟩:=z
    simp only at b1 b2 b3 b4 b5 e2
    have k:=fun F w q=>U9 ⟨z1,z2,J,z4⟩ 0 (at_-za) F w q (by simp only;omega) (by omega) (by omega)
    have HP:Aside (L=(Go.Tr.part ⟨z1,z2,J,z4⟩ 0 (at_-za),za)∧am=s2):=by
     cases e2
     exact ⟨rfl,rfl⟩
    have cd:=Bg (at_-1) (by omega)
    have ce:=Bg (at_-za) (by omega)
    unfold eT at k
    simp only at k
    clear V e2 b1 b5 hL
    go_wp2_with fail
    with_reducible refine Calls.mono (l _ _ (Ae (Ad h s1))) ?_
    rintro e w6 ⟨v6,G6,rfl,⟨rfl,rfl⟩,q7⟩
    rw[Aw] at q7
    haveI:=q7.i
    clear l q6
    go_wp2_with fail
    with_reducible refine Calls.mono (k _ _ ES) ?_
    rintro e w7 ⟨v7,G7,rfl,a7,q8⟩
    obtain ⟨al,cl,rfl,_,_⟩:=a7.v
    haveI:=q8.i
    obtain ⟨e3,e4⟩:=HP.out
    subst e3
    subst e4
    go_wp2
    go_meet
    exact ⟨al,_,cl,G7,rfl,rfl,rfl,a7,E3 _ _ _ _ _ _⟩
  rw[if_neg a2] at hL
  have HP:Aside (L=([],at_)∧s1=s2):=by
   cases hL
   exact ⟨rfl,rfl⟩
  clear hL
  go_wp2
  go_meet
  obtain ⟨e3,e4⟩:=HP.out
  subst e3
  subst e4
  exact ⟨none,0,0,1,rfl,rfl,rfl,Aj.nil 4 _,by rw[Aw];exact DE _ _ _ _ _⟩
 obtain ⟨al,nl,cl,GL,rfl,rfl,dr,bs,q7⟩:=hcut
 subst dr
 haveI:=q7.i
 clear q6
 go_upto_if 108 with (fail)
 go_cut [14,16] from 28 to 185 (fun ee eg wx=> ∃(ar:Option Addr)(nr cr:Nat)(GR:Ab),ee= .int .i64 R.2∧eg= .slice ar nr cr∧nr=R.1.length∧Aside (Au GR (.slice ar nr cr) R.1)∧Sat (Ad h s3*(GR*(GL*(B*(Sl.block (N+1) Fz [.int .i64 0]*(Sl.block N Qc [.int .i64 0]*F)))))) wx)
 case first=>
  have hR:=HR
  unfold Go.Tr.FT at hR
  by_cases a2:at_+n<all
  · rw [if_pos a2] at hR
    obtain ⟨z,am,V,e2⟩:=A1 hR
    have l:=fun F w q=>Vp h s2 root (at_+n) F w q (by rw[V];simp)
    rw[V] at l
    obtain ⟨b1,b2,b3,b4⟩:=IL (by omega) V
    have b5:=Cl.1 b1
    obtain ⟨⟨z1,z2,J,z4⟩,za⟩:=z
    simp only at b1 b2 b3 b4 b5 e2
    have k:=fun F w q=>U9 ⟨z1,z2,J,z4⟩ (at_+n-za) J F w q (by simp only;omega) (by omega) (by omega)
    have HP:Aside (R=(Go.Tr.part ⟨z1,z2,J,z4⟩ (at_+n-za) J,za+J)∧am=s3):=by
     cases e2
     exact ⟨rfl,rfl⟩
    have cd:=Bg (at_+n-za) (by omega)
    have ce:=Bg (za+J) (by omega)
    unfold eT at k
    simp only at k
    clear V e2 b1 b5 hR
    go_wp2_with fail
    with_reducible refine Calls.mono (l _ _ (Ae (Ad h s2))) ?_
    rintro e w6 ⟨v6,G6,rfl,⟨rfl,rfl⟩,q8⟩
    rw[Aw] at q8
    haveI:=q8.i
    obtain ⟨O,W⟩:=Aq w6.heap.size
    clear l q7
    go_upto_region 21 with (fail)
    try rw[W]
    have q9:Sat (Sl.block O AG [.int .i64 z1,.int .i64 z2,.int .i64 J,.int .i64 z4]*(Ad h am*(GL*(B*(Sl.block (N+1) Fz [.int .i64 0]*(Sl.block N Qc [.int .i64 0]*F)))))) (w6.alloc (.cells #[.int .i64 z1,.int .i64 z2,.int .i64 J,.int .i64 z4] AG)):=by
     rw[←W]
     exact Av (by ac_rfl)
    clear W q8
    generalize w6.alloc (.cells #[.int .i64 z1,.int .i64 z2,.int .i64 J,.int .i64 z4] AG)=w66 at q9⊢
    haveI:=q9.i
    go_region_held3 (fun a=>a.cell? ⟨O,0,none⟩=some (.int .i64 z1)∧a.cell? ⟨O,1,none⟩=some (.int .i64 z2)∧a.cell? ⟨O,2,none⟩=some (.int .i64 J)∧a.cell? ⟨O,3,none⟩=some (.int .i64 z4)) (first|exact ⟨Ac _ _ _,Ac _ _ _,Ac _ _ _,Ac _ _ _⟩) (first
     |(
       go_at_call 95
       with_reducible refine Calls.mono (k _ _ ES) ?_
       rintro e w7 ⟨v7,G7,rfl,a7,a8⟩
       obtain ⟨ar,cr,rfl,_,_⟩:=a7.v
       haveI:=a8.i))
    all_goals
     obtain ⟨e3,e4⟩:=HP.out
     subst e3
     subst e4
     go_wp2
     go_meet
     exact ⟨ar,_,cr,G7,rfl,rfl,rfl,a7,iD _ _ _ _ _ _ _⟩
  rw[if_neg a2] at hR
  have HP:Aside (R=([],at_+n)∧s2=s3):=by
   cases hR
   exact ⟨rfl,rfl⟩
  clear hR
  go_wp2
  go_meet
  obtain ⟨e3,e4⟩:=HP.out
  subst e3
  subst e4
  exact ⟨none,0,0,1,rfl,rfl,rfl,Aj.nil 4 _,by rw[Aw];exact E3 _ _ _ _ _ _⟩
 obtain ⟨ar,nr,cr,GR,rfl,rfl,ds,bt,q8⟩:=hcut
 haveI:=q8.i
 subst ds
 clear q7
 obtain ⟨dx,dy⟩:=T4 ch bb
 obtain ⟨eb,ec⟩:=T4 co bg
 have a3:([L.1,put,R.1]:List (List Ar)).flatten=L.1++put++R.1:=by simp
 have c2:Au B (.slice a0 np c0) put:=by have:=br.out;rw[ae.out.1] at this;exact this
 have a6 := fun b F w q => Ly [L.1, put, R.1] (.slice (some ⟨b, 0, none⟩) 3 3) (Sl.block b PX [.slice al L.1.length cl, .slice a0 np c0, .slice ar R.1.length cr] * (GL * (B * GR))) F w (Qr b bs.out c2 bt.out) q (by simp)
  (by rw[a3];simp only[List.length_append];rw[ae.out.1];omega)
  (by
    rw[a3]
    intro x hx
    rcases List.mem_append.1 hx with hx|hx
    · rcases List.mem_append.1 hx with hx|hx
      ·exact bb x hx
      exact ay.out.1 x hx
    exact bg x hx)
  (by rw[a3,Go.Tr.An,Go.Tr.An];have:=ay.out.2;omega)
 rw[a3] at a6
 have a5:=OQ (L.1++put++R.1)
 simp only[List.length_append] at a5
 rw[ae.out.1] at a5
 obtain ⟨r,ba⟩:=Aq (join (L.1++put++R.1))
 have ax:Aside (join (L.1++put++R.1)=r):=ba
 rw[ba] at a6 a5
 obtain ⟨c,ah⟩:=Aq r.length
 have K:Aside (r.length=c):=ah
 rw[ah] at a5
 have et:c≤1002:=by omega
 rw[ah] at a6
 have c3:=fun F w q=>Xe h s3 root F w q (by rw[HW];simp)
 rw[HW] at c3
 have c4:=fun F w q=>UX 30 h s4 whole R.2 F w q aa (by omega) H (by omega) (by omega) (by omega) (by rw[ad];simp)
 rw[ad] at c4
 have c5:=fun F w q=>UX 30 h s5 whole L.2 F w q aa (by omega) H (by omega) (by omega) (by omega) (by rw[ac];simp)
 rw[ac] at c5
 have c6:=fun F w q nb=>Pz 30 h s6 whole L.2 F w q (by omega) (by omega) (by omega) (by omega) nb
 obtain ⟨⟨x1,x2,x3,I⟩,xh⟩:=whole
 unfold Bj at c4 c5 c6
 simp only at c4 c5 c6 aa bh H cs cg cf
 have cd:=Bg (I-r1) (by omega)
 have ce:=Bg (I-r1+r0) (by omega)
 have ff:IntKind.i64.wrap (I-r1+r0+(c:Int))=I-r1+r0+c:=IntWalk.i64_in _ (by omega)
 have fg:=Bg (R.2-L.2) (by omega)
 have df:Aside (-1≤xh∧xh≤20∧R.2-L.2≤1099511627776):=⟨aa,bh,by omega⟩
 have bu:Aside (s1.sp.taken.length≤s6.sp.taken.length):=a4
 clear dx dy eb ec a3 c2 ba a5 ah cg cf aa bh H cs a4 ch bb co bg bs bt br ay dw
 go_wp2_with fail
 with_reducible refine Calls.mono (a6 _ _ _ (kI _ _ _ _)) ?_
 rintro e w7 ⟨P,T,rfl,q9⟩
 haveI:=q9.i
 clear a6
 have a8:Sat (Ad h s3*(rw AG 4 (.slice P c T) (AO r)*(Sl.block (N+1) Fz [.int .i64 0]*(Sl.block N Qc [.int .i64 0]*(B*F))))) w7:=E3 _ _ _ _ _ _
 haveI:=a8.i
 have hJ:Au (rw AG 4 (.slice P c T) (AO r)) (.slice P c T) r:=by
  have:=Aj.rw (F:=Ad h s3*(Sl.block (N+1) Fz [.int .i64 0]*(Sl.block N Qc [.int .i64 0]*(B*F)))) (a8.eq (by ac_rfl)) ⟨P,T,rfl⟩ (n:=c)
  rw[←K.out] at this⊢
  exact this
 have HJ:Aside (Au (rw AG 4 (.slice P c T) (AO r)) (.slice P c T) r):=hJ
 clear hJ q8 q9
 go_wp2_with fail
 with_reducible refine Calls.mono (c3 _ _ (Ae (Ad h s3))) ?_
 rintro e w8 ⟨v8,G8,rfl,⟨rfl,rfl⟩,bc⟩
 rw[Aw] at bc
 haveI:=bc.i
 obtain ⟨g,Y⟩:=Aq w8.heap.size
 unfold Bj
 clear a8 c3
 go_upto_region 24 with (fail)
 try rw[Y]
 have bd:Sat (Sl.block g DH [.int .i64 x1,.int .i64 x2,.int .i64 x3,.int .i64 I,.int .i64 xh]*(Ad h s4*(rw AG 4 (.slice P c T) (AO r)*(Sl.block (N+1) Fz [.int .i64 0]*(Sl.block N Qc [.int .i64 0]*(B*F)))))) (w8.alloc (.cells #[.int .i64 x1,.int .i64 x2,.int .i64 x3,.int .i64 I,.int .i64 xh] DH)):=by
  rw[←Y]
  exact Av (by ac_rfl)
 clear Y bc
 generalize w8.alloc (.cells #[.int .i64 x1,.int .i64 x2,.int .i64 x3,.int .i64 I,.int .i64 xh] DH)=w88 at bd⊢
 haveI:=bd.i
 go_cut [157] from 28 to 185 (fun cp wx=>cp= .bool (decide (1024<I-r1+r0+(c:Int)))∧Sat (Sl.block g DH [.int .i64 x1,.int .i64 x2,.int .i64 x3,.int .i64 I,.int .i64 xh]*(Ad h s6*(rw AG 4 (.slice P c T) (AO r)*(Sl.block (N+1) Fz [.int .i64 0]*(Sl.block N Qc [.int .i64 0]*(B*F)))))) wx)
 case first =>
  go_region_held3 (fun a=>a.cell? ⟨g,0,none⟩=some (.int .i64 x1)∧a.cell? ⟨g,1,none⟩=some (.int .i64 x2)∧a.cell? ⟨g,2,none⟩=some (.int .i64 x3)∧a.cell? ⟨g,3,none⟩=some (.int .i64 I)∧a.cell? ⟨g,4,none⟩=some (.int .i64 xh)) (first|exact ⟨Ac _ _ _,Ac _ _ _,Ac _ _ _,Ac _ _ _,Ac _ _ _⟩) (first
   |(
      go_at_call 97
      with_reducible refine Calls.mono (c4 _ _ (Ae (Ad h s4))) ?_
      rintro e w9 ⟨v9,G9,rfl,⟨rfl,rfl⟩,a9⟩
      rw[Aw] at a9
      haveI:=a9.i)
   |(
      go_at_call 97
      with_reducible refine Calls.mono (c5 _ _ (Ae (Ad h s5))) ?_
      rintro e ft ⟨v10,f2,rfl,⟨rfl,rfl⟩,d⟩
      rw[Aw] at d
      haveI:=d.i))
  all_goals
   go_wp2
   go_meet
   exact ⟨rfl,E3 _ _ _ _ _ _⟩
 obtain ⟨rfl,a9⟩:=hcut
 haveI:=a9.i
 clear bd c4 c5
 by_cases hb:1024<I-r1+r0+(c:Int)
 · have hQ:=dg.out (by rw[ax.out,K.out];omega)
   subst hQ
   have hd:decide (1024<I-r1+r0+(c:Int))=true:=decide_eq_true hb
   rw[hd]
   go_wp2
   refine leaves_cons (f:=93) (args:= #[.pointer (some ⟨N,0,none⟩),.pointer (some ⟨N+1,0,none⟩)]) (by simp) (by simp[go_sem]) ?_
   refine (Ma _ _ _).mono ?_
   rintro e u' cq ⟨rfl,rfl,rfl⟩
   show Leaves _ _ _ _ _ .returning _
   refine leaves_cons (f:=81) (args:= #[.pointer (some ⟨h.t,0,none⟩),.int .i64 s1.sp.taken.length,.pointer (some ⟨N+1,0,none⟩)]) (by simp) (by simp[go_sem]) ?_
   refine (V5 h s6 s1.sp.taken.length (N+1) 11 _ _ _ (by omega) bu.out (Bh (Ad h s6) (Sl.block (N+1) Fz [.int .i64 11]))).mono ?_
   rintro e u' G ⟨rfl,rfl,d⟩
   haveI:=d.i
   simp[Leaves,settle,results,Tryz.results33,go_sem]
   exact ⟨rfl,AD _ _ _⟩
 obtain ⟨p,q,m,x,y,s7,s8,s9,s10,s11,⟨hp,hq,hm,hx,hy⟩,hQ⟩:=dh.out (by rw[ax.out,K.out];omega)
 have hd:decide (1024<I-r1+r0+(c:Int))=false:=decide_eq_false hb
 rw[ax.out] at hm
 obtain ⟨w1,fy,w3⟩:=df.out
 have dt:=Fe (fun p s n s' h=>Et h) 30 _ _ _ _ _ hp (-31) 20 (by omega) (by omega) (by simp only;omega) (by simp only;omega)
 have du:=Fe (fun p s n s' h=>Et h) 30 _ _ _ _ _ hq (-62) 454 (by omega) (by omega) (by omega) (by omega)
 have c8:=Gx hm
 rw[K.out] at c8
 have dv:=JM (fun p s n s' h=>PK h) hx (-31) 454 (by omega) (by omega) (by omega) (by omega) (by omega) (by omega)
 have d6:=fun F w q=>c6 F w q (by rw[hp];simp)
 rw[hp] at d6
 have d7:=fun F w q=>Pz 30 h s7 p.2 (R.2-L.2) F w q (by omega) (by omega) (by omega) w3 (by rw[hq];simp)
 rw[hq] at d7
 have d8:=fun F w q=>I1 h s8 r _ _ F w HJ.out q (by rw[K.out];omega) (by rw[hm];simp)
 rw[hm] at d8
 have d9:=fun F w q=>LS h s9 p.1 m F w q (by omega) (by omega) (by omega) (by omega) (by rw[hx];simp)
 rw[hx] at d9
 have U:=fun F w q'=>LS h s10 x q.2 F w q' (by omega) (by omega) (by omega) (by omega) (by rw[hy];simp)
 rw[hy] at U
 obtain ⟨⟨⟨p1,p2,p3,p4⟩,ph⟩,⟨⟨o1,o2,o3,o4⟩,oh⟩⟩:=p
 obtain ⟨⟨⟨g1,g2,g3,g4⟩,gh⟩,⟨⟨l1,l2,l3,l4⟩,lh⟩⟩:=q
 obtain ⟨⟨m1,m2,m3,m4⟩,mh⟩:=m
 obtain ⟨⟨u1,u2,u3,u4⟩,uh⟩:=x
 obtain ⟨⟨y1,y2,y3,y4⟩,yh⟩:=y
 unfold Qz at d6 d7
 unfold Q3 at d8 d9 U
 unfold Bj at d6 d7 d8 d9 U
 simp only at d6 d7 d8 d9 U hQ
 subst hQ
 rw[hd]
 clear hp hq hm hx hy dt du c8 dv c6
 go_wp2_with fail
 with_reducible refine Calls.mono (d6 _ _ (Ae (Ad h s6))) ?_
 rintro e cq ⟨v14,f3,rfl,⟨rfl,rfl⟩,d⟩
 rw[Aw] at d
 haveI:=d.i
 obtain ⟨j,Z⟩:=Aq cq.heap.size
 clear a9
 go_wp2_with fail
 with_reducible refine Calls.mono (d7 _ _ (Ae (Ad h s7))) ?_
 rintro e G ⟨fp,f4,rfl,⟨rfl,rfl⟩,be⟩
 rw[Aw] at be
 haveI:=be.i
 have ci:Sat (Ad h s8*(rw AG 4 (.slice P c T) (AO r)*(Sl.block j DH [.int .i64 p1,.int .i64 p2,.int .i64 p3,.int .i64 p4,.int .i64 ph]*(Sl.block (N+1) Fz [.int .i64 0]*(Sl.block N Qc [.int .i64 0]*(B*F)))))) G:=by
  rw[←Z]
  exact E3 _ _ _ _ _ _
 obtain ⟨u,a1⟩:=Aq G.heap.size
 haveI:=ci.i
 clear d be d6 d7
 try rw[Z]
 clear Z
 go_upto_region 28 with (fail)
 try rw[a1]
 have bf:Sat (Sl.block (u+1) DH [.int .i64 l1,.int .i64 l2,.int .i64 l3,.int .i64 l4,.int .i64 lh]*(Ad h s8*(rw AG 4 (.slice P c T) (AO r)*(Sl.block j DH [.int .i64 p1,.int .i64 p2,.int .i64 p3,.int .i64 p4,.int .i64 ph]*(Sl.block (N+1) Fz [.int .i64 0]*(Sl.block N Qc [.int .i64 0]*(B*F))))))) ((G.alloc (.cells #[.int .i64 g1,.int .i64 g2,.int .i64 g3,.int .i64 g4,.int .i64 gh] DH)).alloc (.cells #[.int .i64 l1,.int .i64 l2,.int .i64 l3,.int .i64 l4,.int .i64 lh] DH)):=by
  rw[←a1]
  exact A4 (C:=Sl.block G.heap.size DH [.int .i64 g1,.int .i64 g2,.int .i64 g3,.int .i64 g4,.int .i64 gh]) (by ac_rfl)
 clear a1 ci
 generalize (G.alloc (.cells #[.int .i64 g1,.int .i64 g2,.int .i64 g3,.int .i64 g4,.int .i64 gh] DH)).alloc (.cells #[.int .i64 l1,.int .i64 l2,.int .i64 l3,.int .i64 l4,.int .i64 lh] DH)=w55 at bf⊢
 haveI:=bf.i
 go_cut [27] from 28 to 185 (fun eh wx=> ∃M:Nat,eh= .pointer (some ⟨M,0,none⟩)∧Sat (Sl.block M DH [.int .i64 y1,.int .i64 y2,.int .i64 y3,.int .i64 y4,.int .i64 yh]*(Ad h s11*(Sl.block (N+1) Fz [.int .i64 0]*(Sl.block N Qc [.int .i64 0]*(B*F))))) wx)
 case first =>
  go_region_held3 (fun a=>a.cell? ⟨j,0,none⟩=some (.int .i64 p1)∧a.cell? ⟨j,1,none⟩=some (.int .i64 p2)∧a.cell? ⟨j,2,none⟩=some (.int .i64 p3)∧a.cell? ⟨j,3,none⟩=some (.int .i64 p4)∧a.cell? ⟨j,4,none⟩=some (.int .i64 ph)∧a.cell? ⟨u+1,0,none⟩=some (.int .i64 l1)∧a.cell? ⟨u+1,1,none⟩=some (.int .i64 l2)∧a.cell? ⟨u+1,2,none⟩=some (.int .i64 l3)∧a.cell? ⟨u+1,3,none⟩=some (.int .i64 l4)∧a.cell? ⟨u+1,4,none⟩=some (.int .i64 lh)) (first|exact ⟨Ac _ _ _,Ac _ _ _,Ac _ _ _,Ac _ _ _,Ac _ _ _,Ac _ _ _,Ac _ _ _,Ac _ _ _,Ac _ _ _,Ac _ _ _⟩) (first
   |(
      go_at_call 84
      with_reducible refine Calls.mono (d8 _ _ (Bh (Ad h s8) (rw AG 4 (.slice P c T) (AO r)))) ?_
      rintro e fu ⟨fq,f5,rfl,⟨rfl,rfl⟩,ak⟩
      rw[Aw] at ak
      haveI:=ak.i)
   |(
      go_at_call 99
      with_reducible refine Calls.mono (d9 _ _ (Ae (Ad h s9))) ?_
      rintro e fv ⟨fr,f6,rfl,⟨rfl,rfl⟩,ck⟩
      rw[Aw] at ck
      haveI:=ck.i)
   |(
      go_at_call 99
      with_reducible refine Calls.mono (U _ _ (Ae (Ad h s10))) ?_
      rintro e fw ⟨fs,f7,rfl,⟨rfl,rfl⟩,cm⟩
      rw[Aw] at cm
      haveI:=cm.i))
  all_goals
   go_wp2
   go_meet
   exact ⟨_,rfl,E3 _ _ _ _ _ _⟩
 obtain ⟨M,rfl,ak⟩:=hcut
 haveI:=ak.i
 clear bf
 go_wp2
 refine leaves_cons (f:=93) (args:= #[.pointer (some ⟨N,0,none⟩),.pointer (some ⟨N+1,0,none⟩)]) (by simp) (by simp[go_sem]) ?_
 refine (Ma _ _ _).mono ?_
 rintro e u' fx ⟨rfl,rfl,rfl⟩
 show Leaves _ _ _ _ _ .returning _
 refine leaves_cons (f:=81) (args:= #[.pointer (some ⟨h.t,0,none⟩),.int .i64 s1.sp.taken.length,.pointer (some ⟨N+1,0,none⟩)]) (by simp) (by simp[go_sem]) ?_
 refine (PO _ _ (N+1) _ _ _ (Ae (Sl.block (N+1) Fz [.int .i64 0]))).mono ?_
 rintro e u' fz ⟨rfl,rfl,e9⟩
 haveI:=e9.i
 simp[Leaves,settle,results,Tryz.results33,go_sem]
 exact ⟨rfl,AD _ _ _⟩
end Go.Proofs.YtfhbmblbidcmmaaGreat
namespace Go.Tr
section
variable {σ:Type}
def kH(rd:Int→M σ Nd)(root at_ n all:Int):M σ ((List Ar×Int)×(List Ar×Int)×BJ×Int×Int):=
 M.bind (leftOf rd root at_) fun L=>M.bind (FT rd root (at_+n) all) fun R=>
 M.bind (EC rd root) fun whole=>M.bind (CI rd 30 whole R.2) fun r1=>M.bind (CI rd 30 whole L.2) fun r0=>M.pure (L,R,whole,r1,r0)
variable {X:Env σ} (hX:X.Ok)
include hX in
theorem jT{root:Int}{l put:List Ar}{s:σ}(K:X.inv s)(hr:Rt (X.V s) root l)(m:AH l)(L:Nat)(M:L≤4)(k: ∀h:Nat,2*4^h≤l.length→h≤L){at_ n:Int}(h0:0≤at_)(O:0≤n)(h1:at_+n≤Aa l):
 Step X s (5*L+5) 0 (kH X.rd root at_ n (Aa l)) (fun q s'=>q.2.2.1.E8.A7-q.2.2.2.1+q.2.2.2.2+((join (q.1.1++put++q.2.1.1)).length:Int)=((Er l at_ n put).length:Int)):=by
 have hm:=hr.fit.1
 unfold kH
 refine (Step.bind (R2:=L+1+(L+1+(L+1+(L+1+0)))) (W2:=0)
  (M6 hX K hr m L k h0 (by omega)) ?_).mono (by omega) (by omega) fun _ _ _ _ x=>x
 rintro p s1 e a ⟨A,y⟩
 refine Step.bind (W1:=0) (W2:=0) (KY hX e (hr.le a) m L k («to» :=at_+n) (by omega) h1) ?_
 rintro q s2 f b ⟨C,B,d⟩
 obtain ⟨o,D,r,t⟩:=IQ (put:=put) hm m h0 O y d
 have u:=(hr.le a).le b
 refine Step.bind (W1:=0) (W2:=0) (MN hX f u L k) ?_
 rintro whole s3 g z ⟨v,H⟩
 have w:=d.1
 have I:=d.2.1
 have J:=y.2.1
 rw[I,J]
 have hw1:Tl (X.V s3) whole (C++B):=by rw[←w];exact v
 refine Step.bind (W1:=0) (W2:=0) ((ID hX 30 (h:=L) (by omega) g hw1 H)) ?_
 rintro r1 s4 i c rfl
 have hw2:Tl (X.V s4) whole (A++(D++B)):=by rw[←t];exact v.le c
 refine Step.bind (W1:=0) (W2:=0) (R2:=0) ((ID hX 30 (h:=L) (by omega) i hw2 H)) ?_
 rintro r0 s5 j G rfl
 refine Step.ret j ?_
 simp only
 rw[v.A7,o,w,r]
 simp only[List.length_append]
 omega
end
end Go.Tr
namespace Go.Proofs.YtfhbmblbidcmmaaGreat
open Go.RowKit Go.Sl Go.Dk Go.Tr
variable [En]
theorem JK{α:Type}{s:TS}{R W:Nat}{m:M TS α}{Q:α→TS→Prop}(h:Step (eU true) s R W m Q)(hw:W≤CB s.sp)(hl:R+W≤AQ s):
 ∃a s',m s= .ok a s'∧GP true s'∧Le (nodeAt s) (nodeAt s')∧s'.ck.reads.toNat≤s.ck.reads.toNat+R∧CB s.sp≤CB s'.sp+W∧AQ s≤AQ s'+(R+W)∧Q a s':=by
 rcases h with h|h
 ·have:CB s.sp<W:=h
  omega
 cases hm:m s with
 | ok a s' =>
  rw[hm] at h
  obtain ⟨h1,b,c,d,f,g⟩:=h
  exact ⟨a,s',rfl,h1,b,c,d,f,g⟩
 | fault e s' =>
  rw[hm] at h
  obtain ⟨h1,_⟩:=h
  rcases h1 with ⟨h1,_⟩|h1
  ·grind
  have:CB s.sp<W:=h1
  omega
 | bad =>
  rw[hm] at h
  have:AQ s<R+W:=h
  omega
structure Cf (a b:Ck):Prop where
 cap:b.cap=a.cap
 nm:b.nm=a.nm
 Je: ∀n,n≠a.nm→b.d.get n=a.d.get n
theorem Cf.same(a:Ck):Cf a a:=⟨rfl,rfl,fun _ _=>rfl⟩
theorem Cf.next{a b c:Ck}(h:Cf a b)(k:Cf b c):Cf a c:=⟨k.cap.trans h.cap,k.nm.trans h.nm,fun n d=>(k.Je n (by rw[h.nm];exact d)).trans (h.Je n d)⟩
theorem Lo(d:Dk)(nm:ByteArray)(k:Int)(b:List UInt8)(n:ByteArray)(h:n≠nm):(d.write nm k b).2.get n=d.get n:=by
 unfold Dk.write
 split
 ·rfl
 split
 ·rfl
 split
 ·rfl
 split
 ·rfl
 split
 ·rfl
 unfold Dk.get Dk.written Dk.put
 rw[CK,if_neg h]
 rfl
theorem RE(s:Ck)(no:Int):Cf s (s.B7 no).2:=by
 unfold Ck.B7
 split<;>exact ⟨rfl,rfl,fun n a=>Lo _ _ _ _ _ a⟩
theorem PU(s:Ck)(no:Int):Cf s (s.write no).2:=by
 unfold Ck.write
 split
 ·exact Cf.same s
 split
 ·have h1:Cf s { s with d:=(s.pad no).2 } :=⟨rfl,rfl,fun n a=>Lo _ _ _ _ _ a⟩
  split
  ·exact h1.next (RE _ no)
  omega
 exact RE s no
theorem WX(s:Ck)(no:Int):Cf s (s.release no).2:=by
 have h:=PU s no
 unfold Ck.release
 split
 ·exact ⟨h.cap,h.nm,h.Je⟩
 omega
theorem gE(s:Ck):Cf s s.room.2:=by
 unfold Ck.room
 split
 ·exact Cf.same s
 split
 ·exact Cf.same s
 exact WX s _
theorem Yw(s:Ck)(no:Int)(b:List UInt8):Cf s (s.take no b).2:=by
 have h:=gE s
 unfold Ck.take
 split
 ·exact ⟨h.cap,h.nm,h.Je⟩
 omega
theorem jF(s:Ck)(no:Int):Cf s (s.get no).2.2:=by
 unfold Ck.get
 split
 ·exact Cf.same s
 split
 ·exact ⟨rfl,rfl,fun _ _=>rfl⟩
 simp only
 split
 ·have h:=Yw s no (s.d.read s.nm (no*256) 256).2
  split
  ·exact ⟨h.cap,h.nm,h.Je⟩
  omega
 exact Cf.same s
theorem jU(s:Ck)(no:Int)(b:List UInt8):Cf s (s.put no b).2:=by
 unfold Ck.put
 split
 ·exact Cf.same s
 split
 ·exact ⟨rfl,rfl,fun _ _=>rfl⟩
 have h:=Yw s no b
 split
 ·exact ⟨h.cap,h.nm,h.Je⟩
 omega
def VK(s s':TS):Prop:=s'.sp=s.sp∧Cf s.ck s'.ck
theorem BQ:Tg VK where
 same s:=⟨rfl,Cf.same _⟩
 next a b c h1 h2:=⟨h2.1.trans h1.1,h1.2.next h2.2⟩
def Fy(s s':TS):Prop:=Cf s.ck s'.ck
theorem AZ:Tg Fy where
 same s:=Cf.same _
 next a b c h1 h2:=Cf.next h1 h2
theorem L6(P:TS→TS→Prop)(h:Tg P)(e:Int):Ak P (Fo e):=by
 unfold Fo
 split
 ·exact Ak.pure h _
 exact Ak.fail h _
theorem Ig(p:Int):Ak VK (Ah p):=by
 refine Ak.bind BQ (fun s=>?_) fun r=>Ak.bind BQ (L6 _ BQ _) fun _=>?_
 ·unfold Un
  by_cases h:s.ops<BG
  ·rw[if_pos h];exact ⟨rfl,jF _ _⟩
  grind
 cases CR p r.2 with
 |none=>exact Ak.fail BQ _
 |some n=>exact Ak.pure BQ _
theorem RA(p:Int):Ak Fy (Ah p):=fun s=>by
 have:=Ig p s
 cases h:Ah p s with
 |ok a s'=>rw[h] at this;exact this.2
 |fault e s'=>rw[h] at this;exact this.2
 |bad=>trivial
theorem Ld(n:Nd):Ak Fy (Al n):=by
 refine Ak.ite (Ak.fail AZ _) ?_
 refine Ak.bind AZ (fun s=>?_) fun t=>Ak.bind AZ (L6 _ AZ _) fun _=>Ak.bind AZ (L6 _ AZ _) fun _=>Ak.bind AZ (fun s=>jU _ _ _) fun e=>Ak.bind AZ (L6 _ AZ _) fun _=>Ak.pure AZ _
 unfold IZ
 by_cases h:s.ops<BG
 ·rw[if_pos h];exact Cf.same _
 grind
theorem V7{s:TS}{m:Nat}(h:s.sp.taken.length=m):s.Ha m=s:=by
 subst h
 unfold TS.Ha Eh
 simp only[List.drop_length,List.take_length]
 have e:(Cc [] s.sp.used [])=(s.sp.used,[]):=rfl
 rw[e]
 have a:Di ([]:List Int)= []:=by simp[Di]
 rw[a]
 rfl
end Go.Proofs.YtfhbmblbidcmmaaGreat
namespace Go.Proofs.YtfhbmblbidcmmaaGreat
open Go.RowKit Go.Sl Go.Dk Go.Tr
variable [En]
def CV(l:List Ar):Int×List Ar:=if Bf l=false then (1,[]) else if 1024<(join l).length then (11,[]) else (0,join l)
def Cn(l:List Ar)(at_ n:Int)(put:List Ar):Int×List Ar:=
 if Bf put=false then (1,[]) else
 if at_<0∨n<0∨Aa l<at_∨Aa l-at_<n then (2,[]) else
 if 1048576<Aa l-n+Aa put then (10,[]) else
 if n=0∧put= [] then (0,l) else
 if 1024<(Er l at_ n put).length then (11,[]) else (0,Er l at_ n put)
structure Qa (s s':TS) (R W:Nat):Prop where
 inv:GP true s'
 le:Le (nodeAt s) (nodeAt s')
 reads:s'.ck.reads.toNat≤s.ck.reads.toNat+R
 room:CB s.sp≤CB s'.sp+W
 left:AQ s≤AQ s'+(R+W)
 cap:Fy s s'
theorem Qa.refl{s:TS}(h:GP true s):Qa s s 0 0:=⟨h,Le.MJ _,Nat.le_refl _,Nat.le_refl _,Nat.le_refl _,AZ.same s⟩
theorem Qa.more{s s':TS}{R W R' a:Nat}(h:Qa s s' R W)(h1:R≤R')(b:W≤a):Qa s s' R' a:=⟨h.inv,h.le,by have:=h.reads;omega,by have:=h.room;omega,by have:=h.left;omega,h.cap⟩
theorem Qa.trans{s s1 s2:TS}{R1 W1 R2 W2:Nat}(h:Qa s s1 R1 W1)(k:Qa s1 s2 R2 W2):Qa s s2 (R1+R2) (W1+W2):=
 ⟨k.inv,h.le.trans k.le,by have:=h.reads;have:=k.reads;omega,by have:=h.room;have:=k.room;omega,by have:=h.left;have:=k.left;omega,AZ.next _ _ _ h.cap k.cap⟩
theorem T7{l:List Ar}(hm:Bf l=true)(h: ¬1024<(join l).length):Fit (join l):=by
 obtain ⟨h1,a⟩:=Cz hm
 exact ⟨OP h1 a,by rw[Jl];exact a,by omega⟩
theorem eL(h:Th)(s:TS)(l:List Ar)(v:Value)(B F:Ab)(w:World)(g:Au B v l)(hs:Sat (Ad h s*(B*F)) w)(i:GP true s)(hl:l.length≤65536)(hr:2048≤CB s.sp)(q:2048≤AQ s):
 Calls Tryz.prog 23 #[.pointer (some ⟨h.t,0,none⟩),v] w fun e f=> ∃(r:Int)(s':TS),e= .returned (On r (CV l).1)∧Sat (Ad h s'*(B*F)) f∧Qa s s' 0 2048∧((CV l).1=0→Rt (nodeAt s') r (CV l).2)∧((CV l).1≠0→r=0):=by
 unfold CV
 by_cases hm:Bf l=false
 ·rw[if_pos hm]
  refine (Ty h s l v B F w g hs hl hm).mono fun e f hx=>?_
  unfold DO at hx
  rw[if_pos hm] at hx
  exact ⟨0,s,hx.1,hx.2,(Qa.refl i).more (by omega) (by omega),fun e=>absurd e (by decide),fun _=>rfl⟩
 rw[if_neg hm]
 have a:Bf l=true:=by simpa using hm
 by_cases b:1024<(join l).length
 ·rw[if_pos b]
  refine (Ox h s l v B F w g hs hl a (by unfold DO;rw[if_neg hm,if_pos b];simp)).mono fun e f hx=>?_
  unfold DO at hx
  rw[if_neg hm,if_pos b] at hx
  exact ⟨0,s,hx.1,hx.2,(Qa.refl i).more (by omega) (by omega),fun e=>absurd e (by decide),fun _=>rfl⟩
 rw[if_neg b]
 obtain ⟨r,s',hx,h1,k,m,n,o,p⟩:=JK (Tz (Lr true) (s:=s) i (T7 a b)) hr (by omega)
 have d:IU Al (join l) s= .ok r s':=hx
 have j:DO l s= .ok r s':=by unfold DO;rw[if_neg hm,if_neg b,d];rfl
 have c:=Ak.ok (Mc AZ Ld (join l)) d
 refine (Ox h s l v B F w g hs hl a (by rw[j];simp)).mono fun e f hy=>?_
 rw[j] at hy
 exact ⟨r,s',hy.1,hy.2,⟨h1,k,m,n,o,c⟩,fun _=>p,fun e=>absurd rfl e⟩
theorem gJ(h:Th)(s:TS)(root:Int)(l:List Ar)(F:Ab)(w:World)(hs:Sat (Ad h s*F) w)(f:GP true s)(g:Rt (nodeAt s) root l)(i:1≤AQ s):
 ∃s',FC Ah root s= .ok (Aa l) s'∧Qa s s' 1 0:=by
 obtain ⟨r,s',hx,h1,b,c,d,e,rfl⟩:=JK (gL (Lr true) (s:=s) f g) (Nat.zero_le _) (by omega)
 have a:=hx
 exact ⟨s',a,h1,b,c,d,e,(show Fy s s' from Ak.ok (Vz AZ RA root) a)⟩
theorem Vt(h:Th)(s:TS)(root at_ n:Int)(l put:List Ar)(v:Value)(B F:Ab)(w:World)(H:Au B v put)(hs:Sat (Ad h s*(B*F)) w)(hl:put.length≤1000)(hI:GP true s)(Q:Rt (nodeAt s) root l)(hj:AH l)
 (L:Nat) (k:L≤4) (hL: ∀h:Nat,2*4^h≤l.length→h≤L) (hr:2600≤CB s.sp) (hf:2800≤AQ s):
 Calls Tryz.prog 33 #[.pointer (some ⟨h.t,0,none⟩),.int .i64 root,.int .i64 at_,.int .i64 n,v] w fun e D=> ∃(r:Int)(s':TS),e= .returned (On r (Cn l at_ n put).1)∧Sat (Ad h s'*(B*F)) D∧Qa s s' (2*(L*L)+17*L+20) 2600∧
  ((Cn l at_ n put).1=0→Rt (nodeAt s') r (Cn l at_ n put).2)∧((Cn l at_ n put).1≠0→r=0)∧((Cn l at_ n put).1=0→n=0→put= []→r=root):=by
 have aq:L*L≤16:=by have:=Nat.mul_le_mul k k;omega
 unfold Cn
 by_cases hm:Bf put=false
 · rw[if_pos hm]
   refine (Xp h s root at_ n put v B F w H hs (by omega) hm).mono fun e D hx=>?_
   exact ⟨0,s,hx.1,hx.2,(Qa.refl hI).more (by omega) (by omega),fun e=>absurd e (by decide),fun _=>rfl,fun e=>absurd e (by decide)⟩
 rw[if_neg hm]
 have c:Bf put=true:=by simpa using hm
 obtain ⟨s1,P,d⟩:=gJ h s root l (B*F) w hs hI Q (by omega)
 by_cases W:at_<0∨n<0∨Aa l<at_∨Aa l-at_<n
 · rw[if_pos W]
   refine (SY h s root at_ n put v B F w H hs (by omega) c _ s1 P W).mono fun e D hx=>?_
   exact ⟨0,s1,hx.1,hx.2,d.more (by omega) (by omega),fun e=>absurd e (by decide),fun _=>rfl,fun e=>absurd e (by decide)⟩
 rw[if_neg W]
 by_cases b:1048576<Aa l-n+Aa put
 · rw[if_pos b]
   refine (Xn h s root at_ n put v B F w H hs (by omega) c _ s1 P (by omega) (by omega) (by omega) (by omega) b).mono fun e D hx=>?_
   exact ⟨0,s1,hx.1,hx.2,d.more (by omega) (by omega),fun e=>absurd e (by decide),fun _=>rfl,fun e=>absurd e (by decide)⟩
 rw[if_neg b]
 by_cases a:n=0∧put= []
 · rw[if_pos a]
   refine (Vu h s root at_ n put v B F w H hs (by omega) c _ s1 P (by omega) (by omega) (by omega) (by omega) b a.1 a.2).mono fun e D hx=>?_
   exact ⟨root,s1,hx.1,hx.2,d.more (by omega) (by omega),fun _=>Q.le d.le,fun e=>absurd rfl e,fun _ _ _=>rfl⟩
 rw[if_neg a]
 have K:=(Cz c).1
 have ar:=d.left
 have au:=d.room
 obtain ⟨⟨u,G,whole,r1,r0⟩,s6,J,p1,p2,p3,p4,p5,R⟩:=JK (jT (put:=put) (Lr true) d.inv (Q.le d.le) hj L k hL (at_:=at_) (n:=n) (by omega) (by omega) (by omega)) (Nat.zero_le _) (by omega)
 simp only at R
 have g:=J
 unfold kH at g
 obtain ⟨a1,s2,i,g1⟩:=A1 g
 obtain ⟨a2,s3,j,g2⟩:=A1 g1
 obtain ⟨a3,s4,T,g3⟩:=A1 g2
 obtain ⟨a4,s5,U,g4⟩:=A1 g3
 obtain ⟨a5,bk,V,g5⟩:=A1 g4
 cases g5
 have Z:nJ s1 root at_ n (Aa l) u G whole r1 r0 s2 s3 s4 s5 s6:=⟨i,j,T,U,V⟩
 have O:VK s1 s6:=by
  have q1:=Ak.ok (I2 BQ Ig root at_) i
  have q2:=Ak.ok (GU BQ Ig root (at_+n) (Aa l)) j
  have q3:=Ak.ok (GZ BQ Ig root) T
  have q4:=Ak.ok (Ei BQ Ig 30 whole G.2) U
  have q5:=Ak.ok (Ei BQ Ig 30 whole u.2) V
  exact BQ.next _ _ _ q1 (BQ.next _ _ _ q2 (BQ.next _ _ _ q3 (BQ.next _ _ _ q4 q5)))
 by_cases f:1024<(Er l at_ n put).length
 · rw[if_pos f]
   have hu:=V7 (by rw[O.1])
   refine (NH h s root at_ n put v B F w H hs hl c _ s1 P (by omega) (by omega) (by omega) (by omega) b (fun i j=>a ⟨i,j⟩) u G whole r1 r0 s2 s3 s4 s5 s6 Z (.fault 11 s6) (fun _=>by rw[hu]) (fun hq=>absurd (by rw[R];omega) hq)).mono fun e D hx=>?_
   exact ⟨0,s6,hx.1,hx.2,(d.trans ⟨p1,p2,p3,p4,p5,O.2⟩).more (by omega) (by omega),fun e=>absurd e (by decide),fun _=>rfl,fun e=>absurd e (by decide)⟩
 rw[if_neg f]
 obtain ⟨r,s11,Y,b1,b2,b3,b4,b5,b6⟩:=JK ((ZR (Lr true) d.inv (Q.le d.le) hj L k hL (at_:=at_) (n:=n) (by omega) (by omega) (by omega) K (by omega)).1 (by omega)) (by omega) (by omega)
 have o:=Y
 have I:=Ak.ok (Qu AZ RA Ld root at_ n (Aa l) put) o
 have z:M.bind (Br Ah Al 30 whole u.2) (fun p=>M.bind (Br Ah Al 30 p.2 (G.2-u.2)) fun q=>M.bind (BT Al (join (u.1++put++G.1))) fun m=>M.bind (EK Ah Al p.1 m) fun x=>M.bind (EK Ah Al x q.2) fun y=>M.pure y.E8.Ap) s6= .ok r s11:=by
  have hh:=o
  unfold Kj at hh
  have i1:=Be hh i
  have i2:=Be i1 j
  have i3:=Be i2 T
  have i4:=Be i3 U
  have i5:=Be i4 V
  rw[if_neg (by rw[R];omega)] at i5
  exact i5
 obtain ⟨p,s7,f1,j1⟩:=A1 z
 obtain ⟨q,s8,f2,j2⟩:=A1 j1
 obtain ⟨m,s9,f3,j3⟩:=A1 j2
 obtain ⟨x,s10,f4,j4⟩:=A1 j3
 obtain ⟨y,aa,f5,j5⟩:=A1 j4
 cases j5
 refine (NH h s root at_ n put v B F w H hs hl c _ s1 P (by omega) (by omega) (by omega) (by omega) b (fun i j=>a ⟨i,j⟩) u G whole r1 r0 s2 s3 s4 s5 s6 Z (.ok y.E8.Ap s11) (fun hq=>absurd hq (by rw[R];omega)) (fun _=>⟨p,q,m,x,y,s7,s8,s9,s10,s11,⟨f1,f2,f3,f4,f5⟩,rfl⟩)).mono fun e D hx=>?_
 exact ⟨_,s11,hx.1,hx.2,(d.trans ⟨b1,b2,b3,b4,b5,I⟩).more (by omega) (by omega),fun _=>b6,fun e=>absurd rfl e,fun _ i j=>absurd ⟨i,j⟩ a⟩
