/- treeFails holds for every input. No condition. (part 50) -/
import Derived.Test.YtfhbmblbidcmmaaGreatYa49
import Derived.Test.YtfhbmblbidcmmaaGreatYa48
set_option linter.all false
set_option maxRecDepth 100000
set_option maxHeartbeats 12800000
namespace Go.Tr
theorem Kp{σ α β:Type}{m:M σ α}{g:α→β}{s s':σ}{e:Int}(h:M.bind m (fun a=>M.pure (g a)) s= .fault e s'):m s= .fault e s':=by
 unfold M.bind at h
 cases hm:m s with
 |ok a s1=>rw[hm] at h;cases h
 |fault b s1=>rw[hm] at h;cases h;rfl
 |bad=>rw[hm] at h;cases h
end Go.Tr
namespace Go.Proofs.YtfhbmblbidcmmaaGreat
open Go.RowKit Go.Sl Go.Dk Go.Tr
def YY(h:Th)(N m:Nat):List Deferred:= [⟨.fn (.func 93) #[.pointer (some ⟨N,0,none⟩),.pointer (some ⟨N+1,0,none⟩)], #[]⟩,⟨.fn (.func 81) #[], #[.pointer (some ⟨h.t,0,none⟩),.int .i64 m,.pointer (some ⟨N+1,0,none⟩)]⟩]
def S0(h:Th)(N:Nat)(B F:Ac)(X:DR TS Int)(c:List PanicEntry)(w:World):Prop:= ∃(a:Int)(s':TS),X= .fault a s'∧c=D2 a∧Sat (Ad h s'*(Sl.block (N+1) Eu [.int .i64 0]*(Sl.block N Il [.int .i64 0]*(B*F)))) w
def Ow(N:Nat)(D:List Deferred)(PP:List PanicEntry→World→Prop):Exit→Act→World→Prop
 | .panic c,a,w=>a.defers=D∧a.tmps[10]?=some (.pointer (some ⟨N,0,none⟩))∧a.tmps[11]?=some (.pointer (some ⟨N+1,0,none⟩))∧PP c w
 |_,_,_=>False
theorem CX{h:Th}{N m:Nat}{B F:Ac}{X:DR TS Int}{b:Int}{s':TS}{a:Act}{w:World}(e:a.defers=YY h N m)(c:a.tmps[10]?=some (.pointer (some ⟨N,0,none⟩)))(d:a.tmps[11]?=some (.pointer (some ⟨N+1,0,none⟩)))(hX:X= .fault b s')(hs:Sat (Ad h s'*(Sl.block (N+1) Eu [.int .i64 0]*(Sl.block N Il [.int .i64 0]*(B*F)))) w):
 Ow N (YY h N m) (S0 h N B F X) (.panic (D2 b)) a w:=⟨e,c,d,b,s',hX,rfl,hs⟩
theorem Az{N:Nat}{D:List Deferred}{PP:List PanicEntry→World→Prop}{d:Option Tmp}{v:Value}(j:d≠some 10)(l:d≠some 11)(c:List PanicEntry)(a:Act)(w:World)(h:Ow N D PP (.panic c) (a.put d v) w):Ow N D PP (.panic c) a w:=by
 cases d with
 |none=>exact h
 | some k =>
  obtain ⟨g,b,f,i⟩:=h
  have m:k≠10:=fun e=>j (by rw[e])
  have n:k≠11:=fun e=>l (by rw[e])
  simp only[Act.put,Array.getElem?_setIfInBounds_ne m] at b
  simp only[Act.put,Array.getElem?_setIfInBounds_ne n] at f
  exact ⟨g,b,f,i⟩
theorem Fs{P:Program}{d:Nat}{ops:Array Oper}{b:Bool}{Q:Exit→Act→World→Prop}{a:Act}{w:World}{N:Nat}{D:List Deferred}{PP:List PanicEntry→World→Prop}(hq: ∀c a w,Ow N D PP (.panic c) a w→Q (.panic c) a w)(h:(Code.region d ops b).wp P (Ow N D PP) a w):(Code.region d ops b).wp P Q a w:=
 Code.wp_mono (fun e a w h=>by
  cases e with
  |panic c=>exact hq c a w h
  |_=>exact h.elim) h
theorem Cz{h:Th}{N m:Nat}{B F:Ac}{X:DR TS Int}{c:List PanicEntry}{a:Act}{w:World}(r: ∀b s',X= .fault b s'→m≤s'.sp.taken.length)(q:Ow N (YY h N m) (S0 h N B F X) (.panic c) a w):
 bodyPostD Tryz.prog Tryz.f33 (Su h (B*F) (after m X) (fun z=>Ki z 0) (fun b=>Ki 0 b)) (.panic c) a w:=by
 obtain ⟨p,d,g,b,s',hX,rfl,hs⟩:=q
 have hm:=r b s' hX
 subst hX
 show Leaves _ _ a.tmps _ a.defers (.panicking (D2 b)) w
 rw[p]
 unfold YY
 haveI:=hs.i
 refine leaves_cons (f:=93) (args:= #[.pointer (some ⟨N,0,none⟩),.pointer (some ⟨N+1,0,none⟩)]) (by simp) (by simp[go_sem]) ?_
 refine (NQ N (N+1) b _ _ _ w (AY (Sl.block N Il [.int .i64 0]) (Sl.block (N+1) Eu [.int .i64 0]))).mono ?_
 rintro e o n ⟨rfl,rfl,s⟩
 haveI:=s.i
 show Leaves _ _ _ _ _ .returning n
 refine leaves_cons (f:=81) (args:= #[.pointer (some ⟨h.t,0,none⟩),.int .i64 m,.pointer (some ⟨N+1,0,none⟩)]) (by simp) (by simp[go_sem]) ?_
 by_cases k:b=0
 · subst k
   refine (Ja _ _ (N+1) _ _ n (Ae (Sl.block (N+1) Eu [.int .i64 0]))).mono ?_
   rintro e o u ⟨rfl,rfl,l⟩
   haveI:=l.i
   have j:after m (DR.fault 0 s':DR TS Int)= .fault 0 s':=by
    show DR.fault 0 (if (0:Int)=0 then s' else s'.Ds m)=_
    rw[if_pos rfl]
   rw[j]
   simp[Leaves,settle,results,Tryz.results33,go_sem,d,g]
   exact ⟨rfl,AR _ _ _⟩
 refine (Li h s' m (N+1) b _ _ n k hm (AY (Ad h s') (Sl.block (N+1) Eu [.int .i64 b]))).mono ?_
 rintro e o u ⟨rfl,rfl,l⟩
 haveI:=l.i
 have j:after m (DR.fault b s':DR TS Int)= .fault b (s'.Ds m):=by
  show DR.fault b (if b=0 then s' else s'.Ds m)=_
  rw[if_neg k]
 rw[j]
 simp[Leaves,settle,results,Tryz.results33,go_sem,d,g]
 exact ⟨rfl,AR _ _ _⟩
theorem T4(h : Th)(s : TS)(root at_ n : Int)(put : List As)(v : Value)(B F : Ac)(w : World)(hE : Aq B v put)(hs : Sat (Ad h s * (B * F)) w)(hl : put.length ≤ 1000)
 (hm:BD put=true) (all:Int) (s1:TS) (hz:En Ah root s= .ok all s1) (k1: ¬at_<0) (k2: ¬n<0) (k3: ¬all<at_) (k4: ¬all-at_<n) (k5: ¬1048576<all-n+Ab put) (k6:n=0→put≠ [])
 (X:DR TS Int) (hX:EB Ah Ag root at_ n all put s1=X) (hb:X≠ .bad):
 Calls Tryz.prog 33 #[.pointer (some ⟨h.t,0,none⟩),.int .i64 root,.int .i64 at_,.int .i64 n,v] w (Su h (B*F) (after s1.sp.taken.length X) (fun z=>Ki z 0) (fun I=>Ki 0 I)):=by
 have h3: ∀(fn:Fn)(first cap:Array Value)(w:World),(Instr.makeFunc fn first cap).run Tryz.prog w= .ok (.func fn first cap) w:=fun _ _ _ _=>rfl
 have HG:Aside (∀I s',X= .fault I s'→s1.sp.taken.length≤s'.sp.taken.length):=fun I s' e=>(Af.fault (Fh Bw DH F8 root at_ n all put) (hX.trans e)).len
 have HB:Aside (X≠ .bad):=hb
 unfold EB at hX
 have cu:Aside (M.bind (Go.Tr.leftOf Ah root at_) (fun L=>M.bind (Go.Tr.DL Ah root (at_+n) all) fun R=>M.bind (DN Ah root) fun whole=>M.bind (Cu Ah 30 whole R.2) fun r1=>M.bind (Cu Ah 30 whole L.2) fun r0=>
  if 1024<whole.DK.A7-r1+r0+(join (L.1++put++R.1)).length then M.fail 11 else
  M.bind (Be Ah Ag 30 whole L.2) fun p=>M.bind (Be Ah Ag 30 p.2 (R.2-L.2)) fun q=>
  M.bind (BO Ag (join (L.1++put++R.1))) fun m=>M.bind (DT Ah Ag p.1 m) fun x=>M.bind (DT Ah Ag x q.2) fun y=>M.pure y.DK.Ay) s1=X):=hX
 obtain ⟨a0,c0,rfl,f7,gw⟩:=hE.v
 have bu:=fun F w q=>Fw put _ B F w hE q (by omega)
 rw[hm] at bu
 have c1:=fun F w q=>GY h s root F w q (by rw[hz];simp)
 rw[hz] at c1
 have fl:=H2 hz
 have an:=D0 hm
 have cf:=fun x hx=>CP (an.1 x hx)
 have e9:=Bq an.1
 have ag:=fun F w q=>Js put _ B F w hE q (by omega) (fun x hx=>by have:=cf x hx;have:=BS.1 (an.1 x hx);omega)
 have hw:IntKind.i64.wrap (all-at_)=all-at_:=IntWalk.i64_in _ (by omega)
 have h7:IntKind.i64.wrap (all-n)=all-n:=IntWalk.i64_in _ (by omega)
 have cq:Aside ((∀x∈put,Ai x=true)∧Ab put≤1048576):=an
 obtain ⟨ej,eb⟩: ∃t,Ab put=t:=⟨_,rfl⟩
 rw[eb] at ag an e9 k5
 obtain ⟨e7,ge⟩:=an
 have h8:IntKind.i64.wrap (all-n+ej)=all-n+ej:=IntWalk.i64_in _ (by omega)
 have h9:IntKind.i64.wrap (at_+n)=at_+n:=IntWalk.i64_in _ (by omega)
 obtain ⟨np,bv⟩: ∃np,put.length=np:=⟨_,rfl⟩
 have br:Aside (put.length=np∧(n=0→np≠0)):=⟨bv,fun Y e2=>k6 Y (List.length_eq_zero_iff.1 (bv.trans e2))⟩
 have dt:Aside (Aq B (.slice a0 put.length c0) put):=hE
 rw[bv] at hl f7 bu ag e9⊢
 have h2:Sat (B*(Ad h s*F)) w:=hs.eq (by ac_rfl)
 haveI:=h2.i
 unfold Ki at c1
 clear hs h2 e7 cf hE hm k6 bv hz eb hX hb
 go_enter_defers Tryz.func33,Tryz.ntmps33
 go_wp2_with fail
 with_reducible refine Calls.mono (bu _ _ (Ae B)) ?_
 rintro e w2 ⟨rfl,q2⟩
 obtain ⟨N,hN⟩: ∃N,w.heap.size=N:=⟨_,rfl⟩
 rw[hN] at q2⊢
 haveI:=q2.i
 clear hN bu
 go_wp2_with fail
 with_reducible refine Calls.mono (c1 _ _ (Ae (Ad h s))) ?_
 rintro e w3 ⟨rfl,q3⟩
 haveI:=q3.i
 clear c1 q2
 go_wp2_with fail
 with_reducible refine Calls.mono (ag _ _ (Ae B)) ?_
 rintro e w4 ⟨rfl,q4⟩
 haveI:=q4.i
 clear ag q3
 go_upto_region 10 with (fail)
 go_cut [75] from 28 to 185 (fun g5 wx=>g5= .bool false∧Sat (Ad h s1*(B*(Sl.block (N+1) Eu [.int .i64 0]*(Sl.block N Il [.int .i64 0]*F)))) wx)
 case first=>
  by_cases e8:n=0
  · subst e8
    have gf: ¬np=0:=br.out.2 rfl
    have gg:((np:Int)==0)=false:=by simp;omega
    go_wp2
    go_meet
    exact ⟨rfl,BL _ _ _ _ _⟩
  have h4:((n:Int)==0)=false:=by simpa using e8
  go_wp2
  go_meet
  exact ⟨rfl,BL _ _ _ _ _⟩
 case rest => as_aux_lemma =>
  obtain ⟨rfl,q5⟩:=hcut
  haveI:=q5.i
  clear q4
  go_wp2_with fail
  with_reducible refine Calls.mono (L1 h s1 _ _ (Ae (Ad h s1))) ?_
  rintro e w5 ⟨rfl,q6⟩
  haveI:=q6.i
  clear q5
  go_upto_if 89 with (fail)
  obtain ⟨rL,U⟩: ∃r,r=Go.Tr.leftOf Ah root at_ s1:=⟨_,rfl⟩
  rcases rL with ⟨L,s2⟩|⟨I,s2⟩|_
  rotate_left
  · have f9:Aside (X= .fault I s2):=AL cu.out U.symm
    unfold Go.Tr.leftOf at U
    by_cases O:0<at_
    · rw[if_pos O] at U
      have Y:=Kp U.symm
      have G:=fun F w q=>GX h s1 root (at_-1) F w q (by rw[Y];simp)
      rw[Y] at G
      have d2:IntKind.i64.wrap (at_-1)=at_-1:=IntWalk.i64_in _ (by omega)
      clear U Y
      go_wp2_with fail
      with_reducible refine Calls.mono (G _ _ (Ae (Ad h s1))) ?_
      rintro e w6 af
      obtain ⟨rfl,u⟩:=af
      haveI:=u.i
      exact Cz HG.out (CX rfl rfl rfl f9.out (BL _ _ _ _ _))
    rw[if_neg O] at U
    cases U
  · exact absurd (B3 cu.out U.symm) HB.out
  have HL:Go.Tr.leftOf Ah root at_ s1= .ok L s2:=U.symm
  have ai:=AJ cu.out HL
  replace ai:Aside (_=X):=ai
  obtain ⟨ed,d4,he,hf⟩:=K6 (by omega) HL
  clear U
  go_cut [13,15] from 28 to 185 (fun fw fy wx=> ∃(al:Option Addr)(nl cl:Nat)(GL:Ac),fw= .int .i64 L.2∧fy= .slice al nl cl∧nl=L.1.length∧Aside (Aq GL (.slice al nl cl) L.1)∧Sat (Ad h s2*(GL*(B*(Sl.block (N+1) Eu [.int .i64 0]*(Sl.block N Il [.int .i64 0]*F))))) wx)
  case first=>
   have hL:=HL
   unfold Go.Tr.leftOf at hL
   by_cases O:0<at_
   · rw[if_pos O] at hL
     obtain ⟨z,c7,Y,e2⟩:=Aw hL
     have G:=fun F w q=>GX h s1 root (at_-1) F w q (by rw[Y];simp)
     rw[Y] at G
     obtain ⟨b1,b2,b3,b4⟩:=Fa (by omega) Y
     have b5:=BS.1 b1
     obtain ⟨⟨z1,z2,z3,z4⟩,za⟩:=z
     simp only at b1 b2 b3 b4 b5 e2
     have aa:=fun F w q=>KQ ⟨z1,z2,z3,z4⟩ 0 (at_-za) F w q (by simp only;omega) (by omega) (by omega)
     have HP:Aside (L=(Go.Tr.part ⟨z1,z2,z3,z4⟩ 0 (at_-za),za)∧c7=s2):=by
      cases e2
      exact ⟨rfl,rfl⟩
     have d2:IntKind.i64.wrap (at_-1)=at_-1:=IntWalk.i64_in _ (by omega)
     have ec:IntKind.i64.wrap (at_-za)=at_-za:=IntWalk.i64_in _ (by omega)
     unfold UK at aa
     simp only at aa
     clear Y e2 b1 b5 hL HL
     go_wp2_with fail
     with_reducible refine Calls.mono (G _ _ (Ae (Ad h s1))) ?_
     rintro e w6 ⟨v6,G6,rfl,⟨rfl,rfl⟩,q7⟩
     rw[Am] at q7
     haveI:=q7.i
     clear G q6
     go_wp2_with fail
     with_reducible refine Calls.mono (aa _ _ Es) ?_
     rintro e w7 ⟨v7,G7,rfl,bh,q8⟩
     obtain ⟨al,cl,rfl,_,_⟩:=bh.v
     haveI:=q8.i
     obtain ⟨e3,e4⟩:=HP.out
     subst e3
     subst e4
     go_wp2
     go_meet
     exact ⟨al,_,cl,G7,rfl,rfl,rfl,bh,EH _ _ _ _ _ _⟩
   rw[if_neg O] at hL
   have HP:Aside (L=([],at_)∧s1=s2):=by
    cases hL
    exact ⟨rfl,rfl⟩
   clear hL HL
   go_wp2
   go_meet
   obtain ⟨e3,e4⟩:=HP.out
   subst e3
   subst e4
   exact ⟨none,0,0,1,rfl,rfl,rfl,Al.nil 4 _,by rw[Am];exact BL _ _ _ _ _⟩
  case rest => as_aux_lemma =>
   obtain ⟨al,nl,cl,GL,rfl,rfl,fh,du,q7⟩:=hcut
   subst fh
   haveI:=q7.i
   clear q6 HL
   go_upto_if 108 with (fail)
   obtain ⟨rR,V⟩: ∃r,r=Go.Tr.DL Ah root (at_+n) all s2:=⟨_,rfl⟩
   rcases rR with ⟨R,s3⟩|⟨I,s3⟩|_
   rotate_left
   · have fa:Aside (X= .fault I s3):=AL ai.out V.symm
     unfold Go.Tr.DL at V
     by_cases O:at_+n<all
     · rw[if_pos O] at V
       have Y:=Kp V.symm
       have G:=fun F w q=>GX h s2 root (at_+n) F w q (by rw[Y];simp)
       rw[Y] at G
       clear V Y
       go_wp2_with fail
       with_reducible refine Calls.mono (G _ _ (Ae (Ad h s2))) ?_
       rintro e w6 af
       obtain ⟨rfl,u⟩:=af
       haveI:=u.i
       exact Cz HG.out (CX rfl rfl rfl fa.out (BL _ _ _ _ _))
     rw[if_neg O] at V
     cases V
   · exact absurd (B3 ai.out V.symm) HB.out
   have HR:Go.Tr.DL Ah root (at_+n) all s2= .ok R s3:=V.symm
   have Z:=AJ ai.out HR
   replace Z:Aside (_=X):=Z
   obtain ⟨eh,dd,hv,hy⟩:=J8 (by omega) HR
   clear V ai
   go_cut [14,16] from 28 to 185 (fun fx fz wx=> ∃(ar:Option Addr)(nr cr:Nat)(GR:Ac),fx= .int .i64 R.2∧fz= .slice ar nr cr∧nr=R.1.length∧Aside (Aq GR (.slice ar nr cr) R.1)∧Sat (Ad h s3*(GR*(GL*(B*(Sl.block (N+1) Eu [.int .i64 0]*(Sl.block N Il [.int .i64 0]*F)))))) wx)
   case first=>
    have hR:=HR
    unfold Go.Tr.DL at hR
    by_cases O:at_+n<all
    · rw [if_pos O] at hR
      obtain ⟨z,c7,Y,e2⟩:=Aw hR
      have G:=fun F w q=>GX h s2 root (at_+n) F w q (by rw[Y];simp)
      rw[Y] at G
      obtain ⟨b1,b2,b3,b4⟩:=Fa (by omega) Y
      have b5:=BS.1 b1
      obtain ⟨⟨z1,z2,z3,z4⟩,za⟩:=z
      simp only at b1 b2 b3 b4 b5 e2
      have aa:=fun F w q=>KQ ⟨z1,z2,z3,z4⟩ (at_+n-za) z3 F w q (by simp only;omega) (by omega) (by omega)
      have HP:Aside (R=(Go.Tr.part ⟨z1,z2,z3,z4⟩ (at_+n-za) z3,za+z3)∧c7=s3):=by
       cases e2
       exact ⟨rfl,rfl⟩
      have d2:IntKind.i64.wrap (at_+n-za)=at_+n-za:=IntWalk.i64_in _ (by omega)
      have ec:IntKind.i64.wrap (za+z3)=za+z3:=IntWalk.i64_in _ (by omega)
      unfold UK at aa
      simp only at aa
      clear Y e2 b1 b5 hR HR
      go_wp2_with fail
      with_reducible refine Calls.mono (G _ _ (Ae (Ad h s2))) ?_
      rintro e w6 ⟨v6,G6,rfl,⟨rfl,rfl⟩,q8⟩
      rw[Am] at q8
      haveI:=q8.i
      obtain ⟨ay,b0⟩: ∃M,w6.heap.size=M:=⟨_,rfl⟩
      clear G q7
      go_upto_region 21 with (fail)
      try rw[b0]
      have q9:Sat (Sl.block ay A9 [.int .i64 z1,.int .i64 z2,.int .i64 z3,.int .i64 z4]*(Ad h c7*(GL*(B*(Sl.block (N+1) Eu [.int .i64 0]*(Sl.block N Il [.int .i64 0]*F)))))) (w6.alloc (.cells #[.int .i64 z1,.int .i64 z2,.int .i64 z3,.int .i64 z4] A9)):=by
       rw[←b0]
       exact A8 (by ac_rfl)
      clear b0 q8
      generalize w6.alloc (.cells #[.int .i64 z1,.int .i64 z2,.int .i64 z3,.int .i64 z4] A9)=w66 at q9⊢
      haveI:=q9.i
      go_region_held3 (fun d=>d.cell? ⟨ay,0,none⟩=some (.int .i64 z1)∧d.cell? ⟨ay,1,none⟩=some (.int .i64 z2)∧d.cell? ⟨ay,2,none⟩=some (.int .i64 z3)∧d.cell? ⟨ay,3,none⟩=some (.int .i64 z4)) (first|exact ⟨Aa _ _ _,Aa _ _ _,Aa _ _ _,Aa _ _ _⟩) (first
       |(
          go_at_call 95
          with_reducible refine Calls.mono (aa _ _ Es) ?_
          rintro e w7 ⟨v7,G7,rfl,bh,bk⟩
          obtain ⟨ar,cr,rfl,_,_⟩:=bh.v
          haveI:=bk.i))
      all_goals
       obtain ⟨e3,e4⟩:=HP.out
       subst e3
       subst e4
       go_wp2
       go_meet
       exact ⟨ar,_,cr,G7,rfl,rfl,rfl,bh,WM _ _ _ _ _ _ _⟩
    rw[if_neg O] at hR
    have HP:Aside (R=([],at_+n)∧s2=s3):=by
     cases hR
     exact ⟨rfl,rfl⟩
    clear hR HR
    go_wp2
    go_meet
    obtain ⟨e3,e4⟩:=HP.out
    subst e3
    subst e4
    exact ⟨none,0,0,1,rfl,rfl,rfl,Al.nil 4 _,by rw[Am];exact EH _ _ _ _ _ _⟩
   case rest => as_aux_lemma =>
    obtain ⟨ar,nr,cr,GR,rfl,rfl,fi,dv,q8⟩:=hcut
    haveI:=q8.i
    subst fi
    clear q7 HR
    obtain ⟨fp,fq⟩:=Kw ed d4
    obtain ⟨fu,fv⟩:=Kw eh dd
    have ba:([L.1,put,R.1]:List (List As)).flatten=L.1++put++R.1:=by simp
    have dz:Aq B (.slice a0 np c0) put:=by have:=dt.out;rw[br.out.1] at this;exact this
    have bc := fun b F w q => MV [L.1, put, R.1] (.slice (some ⟨b, 0, none⟩) 3 3) (Sl.block b M9 [.slice al L.1.length cl, .slice a0 np c0, .slice ar R.1.length cr] * (GL * (B * GR))) F w (J6 b du.out dz dv.out) q (by simp)
     (by rw[ba];simp only[List.length_append];rw[br.out.1];omega)
     (by
       rw[ba]
       intro x hx
       rcases List.mem_append.1 hx with hx|hx
       · rcases List.mem_append.1 hx with hx|hx
         · exact d4 x hx
         exact cq.out.1 x hx
       exact dd x hx)
     (by rw[ba,Go.Tr.Ak,Go.Tr.Ak];have:=cq.out.2;omega)
    rw[ba] at bc
    have bb:=Hm (L.1++put++R.1)
    simp only[List.length_append] at bb
    rw[br.out.1] at bb
    obtain ⟨Q,d1⟩: ∃Q,join (L.1++put++R.1)=Q:=⟨_,rfl⟩
    have bw:=Z.out
    simp only[d1] at bw
    rw[d1] at bc bb
    obtain ⟨H,bd⟩: ∃H,Q.length=H:=⟨_,rfl⟩
    simp only[bd] at bw
    replace Z:Aside (_=X):=bw
    have cs:Aside (Q.length=H):=bd
    rw[bd] at bb
    have gd:H≤1002:=by omega
    rw[bd] at bc
    have h6:IntKind.i64.wrap (R.2-L.2)=R.2-L.2:=IntWalk.i64_in _ (by omega)
    have ds:Aside (R.2-L.2≤1099511627776∧0≤L.2∧L.2≤1099511627776∧0≤R.2∧R.2≤1099511627776):=⟨by omega,by omega,by omega,by omega,by omega⟩
    clear fp fq fu fv ba dz d1 bb bd ed d4 eh dd du dv dt cq fl bw
    go_wp2_with fail
    with_reducible refine Calls.mono (bc _ _ _ (XO _ _ _ _)) ?_
    rintro e w7 ⟨aj,cj,rfl,q9⟩
    haveI:=q9.i
    clear bc
    have bk:Sat (Ad h s3*(rw A9 4 (.slice aj H cj) (AQ Q)*(Sl.block (N+1) Eu [.int .i64 0]*(Sl.block N Il [.int .i64 0]*(B*F))))) w7:=EH _ _ _ _ _ _
    haveI:=bk.i
    have hJ:Aq (rw A9 4 (.slice aj H cj) (AQ Q)) (.slice aj H cj) Q:=by
     have:=Al.rw (F:=Ad h s3*(Sl.block (N+1) Eu [.int .i64 0]*(Sl.block N Il [.int .i64 0]*(B*F)))) (bk.eq (by ac_rfl)) ⟨aj,cj,rfl⟩ (n:=H)
     rw[←cs.out] at this⊢
     exact this
    have HJ:Aside (Aq (rw A9 4 (.slice aj H cj) (AQ Q)) (.slice aj H cj) Q):=hJ
    clear hJ q8 q9
    obtain ⟨rW,bg⟩: ∃r,r=DN Ah root s3:=⟨_,rfl⟩
    have c3:=fun F w q=>NJ h s3 root F w q (AK Z.out HB.out)
    rw[←bg] at c3
    go_wp2_with fail
    with_reducible refine Calls.mono (c3 _ _ (Ae (Ad h s3))) ?_
    rintro e w8 d3
    clear c3
    rcases rW with ⟨whole,s4⟩|⟨I,s4⟩|_
    rotate_left
    · have fb:Aside (X= .fault I s4):=AL Z.out bg.symm
      obtain ⟨rfl,u⟩:=d3
      haveI:=u.i
      exact Cz HG.out (CX rfl rfl rfl fb.out (BL _ _ _ _ _))
    · exact (show False from d3).elim
    have a6:=AJ Z.out bg.symm
    replace a6:Aside (_=X):=a6
    obtain ⟨bl,dg,aq,el⟩:=KY bg.symm
    obtain ⟨v8,G8,rfl,⟨rfl,rfl⟩,d5⟩:=d3
    rw[Am] at d5
    haveI:=d5.i
    obtain ⟨gx,gy,gz,h0,h1⟩:=ds.out
    have c4:=fun F w q=>KV 30 h s4 whole R.2 F w q bl (by omega) aq (by omega) (by omega) (by omega) (AK a6.out HB.out)
    obtain ⟨rA,ab⟩: ∃r,r=Cu Ah 30 whole R.2 s4:=⟨_,rfl⟩
    rw[←ab] at c4
    obtain ⟨⟨x1,x2,x3,W⟩,xh⟩:=whole
    unfold AH at c4
    simp only at c4 bl dg aq el
    obtain ⟨l,b6⟩: ∃M,w8.heap.size=M:=⟨_,rfl⟩
    unfold AH
    clear bk Z bg
    go_upto_region 24 with (fail)
    try rw[b6]
    have da:Sat (Sl.block l CG [.int .i64 x1,.int .i64 x2,.int .i64 x3,.int .i64 W,.int .i64 xh]*(Ad h s4*(rw A9 4 (.slice aj H cj) (AQ Q)*(Sl.block (N+1) Eu [.int .i64 0]*(Sl.block N Il [.int .i64 0]*(B*F)))))) (w8.alloc (.cells #[.int .i64 x1,.int .i64 x2,.int .i64 x3,.int .i64 W,.int .i64 xh] CG)):=by
     rw[←b6]
     exact A8 (by ac_rfl)
    clear b6 d5
    generalize w8.alloc (.cells #[.int .i64 x1,.int .i64 x2,.int .i64 x3,.int .i64 W,.int .i64 xh] CG)=w88 at da⊢
    haveI:=da.i
    rcases rA with ⟨r1,s5⟩|⟨I,s5⟩|_
    rotate_left
    · as_aux_lemma=>
      have fc:Aside (X= .fault I s5):=AL a6.out ab.symm
      clear ab
      refine Fs (N:=N) (D:=YY h N s1.sp.taken.length) (PP:=S0 h N B F X) (fun c a w h=>Cz HG.out h) ?_
      refine Dr.Hc (fun d=>d.cell? ⟨l,0,none⟩=some (.int .i64 x1)∧d.cell? ⟨l,1,none⟩=some (.int .i64 x2)∧d.cell? ⟨l,2,none⟩=some (.int .i64 x3)∧d.cell? ⟨l,3,none⟩=some (.int .i64 W)∧d.cell? ⟨l,4,none⟩=some (.int .i64 xh)) [] (by kernel_rfl) ⟨Aa _ _ _,Aa _ _ _,Aa _ _ _,Aa _ _ _,Aa _ _ _⟩ (fun g=>?_)
      refine Dr.Bk 0 (v:=?v0a) (by simp only[List.getElem?_toArray,List.getElem?_cons_succ,List.getElem?_cons_zero];rfl) (by kernel_rfl) ?hQ0a (.inl ⟨?hw0a,fun d=>?hy0a⟩) ?_
      case hy0a=>go_simp;try (with_reducible rfl)
      case hQ0a=>exact fun c a w h=>Az (by decide) (by decide) c a w h
      case hw0a=>rfl
      simp only[Act.put,List.setIfInBounds_toArray,List.set_cons_zero,List.set_cons_succ]
      refine Dr.Bk 1 (v:=?v1a) (by simp only[List.getElem?_toArray,List.getElem?_cons_succ,List.getElem?_cons_zero];rfl) (by kernel_rfl) ?hQ1a (.inl ⟨?hw1a,fun d=>?hy1a⟩) ?_
      case hy1a=>go_simp;try (with_reducible rfl)
      case hQ1a=>exact fun c a w h=>Az (by decide) (by decide) c a w h
      case hw1a=>rfl
      simp only[Act.put,List.setIfInBounds_toArray,List.set_cons_zero,List.set_cons_succ]
      refine Dr.Bk 3 (v:=?v3a) (by simp only[List.getElem?_toArray,List.getElem?_cons_succ,List.getElem?_cons_zero];rfl) (by kernel_rfl) ?hQ3a (.inl ⟨?hw3a,fun d=>?hy3a⟩) ?_
      case hy3a=>go_simp;try (with_reducible rfl)
      case hQ3a=>exact fun c a w h=>Az (by decide) (by decide) c a w h
      case hw3a=>rfl
      simp only[Act.put,List.setIfInBounds_toArray,List.set_cons_zero,List.set_cons_succ]
      refine Dr.Bk 5 (v:=?v5a) (by simp only[List.getElem?_toArray,List.getElem?_cons_succ,List.getElem?_cons_zero];rfl) (by kernel_rfl) ?hQ5a (.inl ⟨?hw5a,fun d=>?hy5a⟩) ?_
      case hy5a=>go_simp;try (with_reducible rfl)
      case hQ5a=>exact fun c a w h=>Az (by decide) (by decide) c a w h
      case hw5a=>rfl
      simp only[Act.put,List.setIfInBounds_toArray,List.set_cons_zero,List.set_cons_succ]
      refine Dr.Bk 8 (v:=?v8a) (by simp only[List.getElem?_toArray,List.getElem?_cons_succ,List.getElem?_cons_zero];rfl) (by kernel_rfl) ?hQ8a (.inl ⟨?hw8a,fun d=>?hy8a⟩) ?_
      case hy8a=>go_simp;try (with_reducible rfl)
      case hQ8a=>exact fun c a w h=>Az (by decide) (by decide) c a w h
      case hw8a=>rfl
      simp only[Act.put,List.setIfInBounds_toArray,List.set_cons_zero,List.set_cons_succ]
      refine Dr.Bk 10 (v:=?v10a) (by simp only[List.getElem?_toArray,List.getElem?_cons_succ,List.getElem?_cons_zero];rfl) (by kernel_rfl) ?hQ10a (.inl ⟨?hw10a,fun d=>?hy10a⟩) ?_
      case hy10a=>go_simp;try (with_reducible rfl)
      case hQ10a=>exact fun c a w h=>Az (by decide) (by decide) c a w h
      case hw10a=>rfl
      simp only[Act.put,List.setIfInBounds_toArray,List.set_cons_zero,List.set_cons_succ]
      refine Dr.Bk 13 (v:=?v13a) (by simp only[List.getElem?_toArray,List.getElem?_cons_succ,List.getElem?_cons_zero];rfl) (by kernel_rfl) ?hQ13a (.inl ⟨?hw13a,fun d=>?hy13a⟩) ?_
      case hy13a=>go_simp;try (with_reducible rfl)
      case hQ13a=>exact fun c a w h=>Az (by decide) (by decide) c a w h
      case hw13a=>rfl
      simp only[Act.put,List.setIfInBounds_toArray,List.set_cons_zero,List.set_cons_succ]
      refine Dr.Bk 14 (v:=?v14a) (by simp only[List.getElem?_toArray,List.getElem?_cons_succ,List.getElem?_cons_zero];rfl) (by kernel_rfl) ?hQ14a (.inl ⟨?hw14a,fun d=>?hy14a⟩) ?_
      case hy14a=>go_simp;try (with_reducible rfl)
      case hQ14a=>exact fun c a w h=>Az (by decide) (by decide) c a w h
      case hw14a=>rfl
      simp only[Act.put,List.setIfInBounds_toArray,List.set_cons_zero,List.set_cons_succ]
      refine Dr.Dz 2 (v:=?v2a) (by simp only[List.getElem?_toArray,List.getElem?_cons_succ,List.getElem?_cons_zero];rfl) (by kernel_rfl) ?hQ2a (.inl ⟨?hw2a,fun d hw=>?hy2a⟩) g ?_
      case hy2a=>(try dsimp only at hw);go_simp;try (with_reducible rfl)
      case hQ2a=>exact fun c a w h=>Az (by decide) (by decide) c a w h
      case hw2a=>rfl
      simp only[Act.put,List.setIfInBounds_toArray,List.set_cons_zero,List.set_cons_succ]
      refine Dr.Dz 4 (v:=?v4a) (by simp only[List.getElem?_toArray,List.getElem?_cons_succ,List.getElem?_cons_zero];rfl) (by kernel_rfl) ?hQ4a (.inl ⟨?hw4a,fun d hw=>?hy4a⟩) g ?_
      case hy4a=>(try dsimp only at hw);go_simp;try (with_reducible rfl)
      case hQ4a=>exact fun c a w h=>Az (by decide) (by decide) c a w h
      case hw4a=>rfl
      simp only[Act.put,List.setIfInBounds_toArray,List.set_cons_zero,List.set_cons_succ]
      refine Dr.Dz 9 (v:=?v9a) (by simp only[List.getElem?_toArray,List.getElem?_cons_succ,List.getElem?_cons_zero];rfl) (by kernel_rfl) ?hQ9a (.inl ⟨?hw9a,fun d hw=>?hy9a⟩) g ?_
      case hy9a=>(try dsimp only at hw);go_simp;try (with_reducible rfl)
      case hQ9a=>exact fun c a w h=>Az (by decide) (by decide) c a w h
      case hw9a=>rfl
      simp only[Act.put,List.setIfInBounds_toArray,List.set_cons_zero,List.set_cons_succ]
      refine Dr.DO 6 (by simp only[List.getElem?_toArray,List.getElem?_cons_succ,List.getElem?_cons_zero];rfl) (by kernel_rfl) ?_
      go_wp2_with fail
      with_reducible refine Calls.mono (c4 _ _ (Ae (Ad h s4))) ?_
      rintro e wz ⟨rfl,u⟩
      haveI:=u.i
      exact CX rfl rfl rfl fc.out (BL _ _ _ _ _)
    · exact absurd (B3 a6.out ab.symm) HB.out
    have a7:=AJ a6.out ab.symm
    replace a7:Aside (_=X):=a7
    have fo:=EY (fun p s n s' h=>C6 h) 16777216 (by omega) 30 _ R.2 s4 r1 s5 aq (by simp only;omega) ab.symm
    have c5:=fun F w q=>KV 30 h s5 ⟨⟨x1,x2,x3,W⟩,xh⟩ L.2 F w q bl (by simp only;omega) aq (by simp only;omega) (by omega) (by omega) (AK a7.out HB.out)
    obtain ⟨rC,ac⟩: ∃r,r=Cu Ah 30 ⟨⟨x1,x2,x3,W⟩,xh⟩ L.2 s5:=⟨_,rfl⟩
    rw[←ac] at c5
    unfold AH at c5
    simp only at c5
    have d2:IntKind.i64.wrap (W-r1)=W-r1:=IntWalk.i64_in _ (by omega)
    clear ab a6
    rcases rC with ⟨r0,s6⟩|⟨I,s6⟩|_
    rotate_left
    · as_aux_lemma=>
      have fd:Aside (X= .fault I s6):=AL a7.out ac.symm
      clear ac
      refine Fs (N:=N) (D:=YY h N s1.sp.taken.length) (PP:=S0 h N B F X) (fun c a w h=>Cz HG.out h) ?_
      refine Dr.Hc (fun d=>d.cell? ⟨l,0,none⟩=some (.int .i64 x1)∧d.cell? ⟨l,1,none⟩=some (.int .i64 x2)∧d.cell? ⟨l,2,none⟩=some (.int .i64 x3)∧d.cell? ⟨l,3,none⟩=some (.int .i64 W)∧d.cell? ⟨l,4,none⟩=some (.int .i64 xh)) [] (by kernel_rfl) ⟨Aa _ _ _,Aa _ _ _,Aa _ _ _,Aa _ _ _,Aa _ _ _⟩ (fun g=>?_)
      refine Dr.Bk 0 (v:=?v0b) (by simp only[List.getElem?_toArray,List.getElem?_cons_succ,List.getElem?_cons_zero];rfl) (by kernel_rfl) ?hQ0b (.inl ⟨?hw0b,fun d=>?hy0b⟩) ?_
      case hy0b=>go_simp;try (with_reducible rfl)
      case hQ0b=>exact fun c a w h=>Az (by decide) (by decide) c a w h
      case hw0b=>rfl
      simp only[Act.put,List.setIfInBounds_toArray,List.set_cons_zero,List.set_cons_succ]
      refine Dr.Bk 1 (v:=?v1b) (by simp only[List.getElem?_toArray,List.getElem?_cons_succ,List.getElem?_cons_zero];rfl) (by kernel_rfl) ?hQ1b (.inl ⟨?hw1b,fun d=>?hy1b⟩) ?_
      case hy1b=>go_simp;try (with_reducible rfl)
      case hQ1b=>exact fun c a w h=>Az (by decide) (by decide) c a w h
      case hw1b=>rfl
      simp only[Act.put,List.setIfInBounds_toArray,List.set_cons_zero,List.set_cons_succ]
      refine Dr.Bk 3 (v:=?v3b) (by simp only[List.getElem?_toArray,List.getElem?_cons_succ,List.getElem?_cons_zero];rfl) (by kernel_rfl) ?hQ3b (.inl ⟨?hw3b,fun d=>?hy3b⟩) ?_
      case hy3b=>go_simp;try (with_reducible rfl)
      case hQ3b=>exact fun c a w h=>Az (by decide) (by decide) c a w h
      case hw3b=>rfl
      simp only[Act.put,List.setIfInBounds_toArray,List.set_cons_zero,List.set_cons_succ]
      refine Dr.Bk 5 (v:=?v5b) (by simp only[List.getElem?_toArray,List.getElem?_cons_succ,List.getElem?_cons_zero];rfl) (by kernel_rfl) ?hQ5b (.inl ⟨?hw5b,fun d=>?hy5b⟩) ?_
      case hy5b=>go_simp;try (with_reducible rfl)
      case hQ5b=>exact fun c a w h=>Az (by decide) (by decide) c a w h
      case hw5b=>rfl
      simp only[Act.put,List.setIfInBounds_toArray,List.set_cons_zero,List.set_cons_succ]
      refine Dr.Bk 8 (v:=?v8b) (by simp only[List.getElem?_toArray,List.getElem?_cons_succ,List.getElem?_cons_zero];rfl) (by kernel_rfl) ?hQ8b (.inl ⟨?hw8b,fun d=>?hy8b⟩) ?_
      case hy8b=>go_simp;try (with_reducible rfl)
      case hQ8b=>exact fun c a w h=>Az (by decide) (by decide) c a w h
      case hw8b=>rfl
      simp only[Act.put,List.setIfInBounds_toArray,List.set_cons_zero,List.set_cons_succ]
      refine Dr.Bk 10 (v:=?v10b) (by simp only[List.getElem?_toArray,List.getElem?_cons_succ,List.getElem?_cons_zero];rfl) (by kernel_rfl) ?hQ10b (.inl ⟨?hw10b,fun d=>?hy10b⟩) ?_
      case hy10b=>go_simp;try (with_reducible rfl)
      case hQ10b=>exact fun c a w h=>Az (by decide) (by decide) c a w h
      case hw10b=>rfl
      simp only[Act.put,List.setIfInBounds_toArray,List.set_cons_zero,List.set_cons_succ]
      refine Dr.Bk 13 (v:=?v13b) (by simp only[List.getElem?_toArray,List.getElem?_cons_succ,List.getElem?_cons_zero];rfl) (by kernel_rfl) ?hQ13b (.inl ⟨?hw13b,fun d=>?hy13b⟩) ?_
      case hy13b=>go_simp;try (with_reducible rfl)
      case hQ13b=>exact fun c a w h=>Az (by decide) (by decide) c a w h
      case hw13b=>rfl
      simp only[Act.put,List.setIfInBounds_toArray,List.set_cons_zero,List.set_cons_succ]
      refine Dr.Bk 14 (v:=?v14b) (by simp only[List.getElem?_toArray,List.getElem?_cons_succ,List.getElem?_cons_zero];rfl) (by kernel_rfl) ?hQ14b (.inl ⟨?hw14b,fun d=>?hy14b⟩) ?_
      case hy14b=>go_simp;try (with_reducible rfl)
      case hQ14b=>exact fun c a w h=>Az (by decide) (by decide) c a w h
      case hw14b=>rfl
      simp only[Act.put,List.setIfInBounds_toArray,List.set_cons_zero,List.set_cons_succ]
      refine Dr.Dz 2 (v:=?v2b) (by simp only[List.getElem?_toArray,List.getElem?_cons_succ,List.getElem?_cons_zero];rfl) (by kernel_rfl) ?hQ2b (.inl ⟨?hw2b,fun d hw=>?hy2b⟩) g ?_
      case hy2b=>(try dsimp only at hw);go_simp;try (with_reducible rfl)
      case hQ2b=>exact fun c a w h=>Az (by decide) (by decide) c a w h
      case hw2b=>rfl
      simp only[Act.put,List.setIfInBounds_toArray,List.set_cons_zero,List.set_cons_succ]
      refine Dr.Dz 4 (v:=?v4b) (by simp only[List.getElem?_toArray,List.getElem?_cons_succ,List.getElem?_cons_zero];rfl) (by kernel_rfl) ?hQ4b (.inl ⟨?hw4b,fun d hw=>?hy4b⟩) g ?_
      case hy4b=>(try dsimp only at hw);go_simp;try (with_reducible rfl)
      case hQ4b=>exact fun c a w h=>Az (by decide) (by decide) c a w h
      case hw4b=>rfl
      simp only[Act.put,List.setIfInBounds_toArray,List.set_cons_zero,List.set_cons_succ]
      refine Dr.Dz 9 (v:=?v9b) (by simp only[List.getElem?_toArray,List.getElem?_cons_succ,List.getElem?_cons_zero];rfl) (by kernel_rfl) ?hQ9b (.inl ⟨?hw9b,fun d hw=>?hy9b⟩) g ?_
      case hy9b=>(try dsimp only at hw);go_simp;try (with_reducible rfl)
      case hQ9b=>exact fun c a w h=>Az (by decide) (by decide) c a w h
      case hw9b=>rfl
      simp only[Act.put,List.setIfInBounds_toArray,List.set_cons_zero,List.set_cons_succ]
      refine Dr.DO 6 (by simp only[List.getElem?_toArray,List.getElem?_cons_succ,List.getElem?_cons_zero];rfl) (by kernel_rfl) ?_
      go_wp2_with fail
      with_reducible refine Calls.mono (c4 _ _ (Ae (Ad h s4))) ?_
      rintro e w9 ⟨v9,G9,rfl,⟨rfl,rfl⟩,a3⟩
      rw[Am] at a3
      haveI:=a3.i
      go_wp2_with fail
      refine Dr.D6 ⟨⟨Aa _ _ _,Aa _ _ _,Aa _ _ _,Aa _ _ _,Aa _ _ _⟩,?_⟩
      refine Dr.Bk 7 (v:=?v7b) (by simp only[List.getElem?_toArray,List.getElem?_cons_succ,List.getElem?_cons_zero];rfl) (by kernel_rfl) ?hQ7b (.inl ⟨?hw7b,fun d=>?hy7b⟩) ?_
      case hy7b=>go_simp;try (with_reducible rfl)
      case hQ7b=>exact fun c a w h=>Az (by decide) (by decide) c a w h
      case hw7b=>rfl
      simp only[Act.put,List.setIfInBounds_toArray,List.set_cons_zero,List.set_cons_succ]
      refine Dr.DO 11 (by simp only[List.getElem?_toArray,List.getElem?_cons_succ,List.getElem?_cons_zero];rfl) (by kernel_rfl) ?_
      go_wp2_with fail
      with_reducible refine Calls.mono (c5 _ _ (Ae (Ad h s5))) ?_
      rintro e wz ⟨rfl,u⟩
      haveI:=u.i
      exact CX rfl rfl rfl fd.out (BL _ _ _ _ _)
    · exact absurd (B3 a7.out ac.symm) HB.out
    have ax:=AJ a7.out ac.symm
    replace ax:Aside (_=X):=ax
    have fm:=EY (fun p s n s' h=>C6 h) 16777216 (by omega) 30 _ L.2 s5 r0 s6 aq (by simp only;omega) ac.symm
    have c6:=fun F w q nb=>Hv 30 h s6 ⟨⟨x1,x2,x3,W⟩,xh⟩ L.2 F w q (by simp only;omega) (by simp only;omega) (by omega) (by omega) nb
    unfold AH at c6
    simp only at c6
    have ec:IntKind.i64.wrap (W-r1+r0)=W-r1+r0:=IntWalk.i64_in _ (by omega)
    have h5:IntKind.i64.wrap (W-r1+r0+(H:Int))=W-r1+r0+H:=IntWalk.i64_in _ (by omega)
    have ev:Aside (-1≤xh∧xh≤20):=⟨bl,dg⟩
    clear ac a7 fo fm bl dg aq el
    go_cut [157] from 28 to 185 (fun ei wx=>ei= .bool (decide (1024<W-r1+r0+(H:Int)))∧Sat (Sl.block l CG [.int .i64 x1,.int .i64 x2,.int .i64 x3,.int .i64 W,.int .i64 xh]*(Ad h s6*(rw A9 4 (.slice aj H cj) (AQ Q)*(Sl.block (N+1) Eu [.int .i64 0]*(Sl.block N Il [.int .i64 0]*(B*F)))))) wx)
    case first =>
     go_region_held3 (fun d=>d.cell? ⟨l,0,none⟩=some (.int .i64 x1)∧d.cell? ⟨l,1,none⟩=some (.int .i64 x2)∧d.cell? ⟨l,2,none⟩=some (.int .i64 x3)∧d.cell? ⟨l,3,none⟩=some (.int .i64 W)∧d.cell? ⟨l,4,none⟩=some (.int .i64 xh)) (first|exact ⟨Aa _ _ _,Aa _ _ _,Aa _ _ _,Aa _ _ _,Aa _ _ _⟩) (first
      |(
         go_at_call 97
         with_reducible refine Calls.mono (c4 _ _ (Ae (Ad h s4))) ?_
         rintro e w9 ⟨v9,G9,rfl,⟨rfl,rfl⟩,a3⟩
         rw[Am] at a3
         haveI:=a3.i)
      |(
         go_at_call 97
         with_reducible refine Calls.mono (c5 _ _ (Ae (Ad h s5))) ?_
         rintro e i7 ⟨i0,go,rfl,⟨rfl,rfl⟩,a4⟩
         rw[Am] at a4
         haveI:=a4.i))
     all_goals
      go_wp2
      go_meet
      exact ⟨rfl,EH _ _ _ _ _ _⟩
    case rest => as_aux_lemma =>
     obtain ⟨rfl,a3⟩:=hcut
     haveI:=a3.i
     clear da c4 c5
     by_cases hb:1024<W-r1+r0+(H:Int)
     · have e0:X= .fault 11 s6:=by have:=ax.out;rw[if_pos hb] at this;exact this.symm
       have f8:=HG.out 11 s6 e0
       have hd:decide (1024<W-r1+r0+(H:Int))=true:=decide_eq_true hb
       rw[hd]
       go_wp2
       refine leaves_cons (f:=93) (args:= #[.pointer (some ⟨N,0,none⟩),.pointer (some ⟨N+1,0,none⟩)]) (by simp) (by simp[go_sem]) ?_
       refine (F6 _ _ _).mono ?_
       rintro e u' ek ⟨rfl,rfl,rfl⟩
       show Leaves _ _ _ _ _ .returning _
       refine leaves_cons (f:=81) (args:= #[.pointer (some ⟨h.t,0,none⟩),.int .i64 s1.sp.taken.length,.pointer (some ⟨N+1,0,none⟩)]) (by simp) (by simp[go_sem]) ?_
       refine (Li h s6 s1.sp.taken.length (N+1) 11 _ _ _ (by omega) f8 (AY (Ad h s6) (Sl.block (N+1) Eu [.int .i64 11]))).mono ?_
       rintro e u' ap ⟨rfl,rfl,a4⟩
       haveI:=a4.i
       subst e0
       have ea:after s1.sp.taken.length (DR.fault 11 s6:DR TS Int)= .fault 11 (s6.Ds s1.sp.taken.length):=by
        show DR.fault 11 (if (11:Int)=0 then s6 else s6.Ds s1.sp.taken.length)=_
        rw[if_neg (by omega)]
       rw[ea]
       simp[Leaves,settle,results,Tryz.results33,go_sem]
       exact ⟨rfl,AR _ _ _⟩
     have af:=ax.out
     rw[if_neg hb] at af
     have bs:Aside (_=X):=af
     have hd:decide (1024<W-r1+r0+(H:Int))=false:=decide_eq_false hb
     obtain ⟨w1,ia⟩:=ev.out
     have w3:=ds.out.1
     obtain ⟨rP,be⟩: ∃r,r=Be Ah Ag 30 ⟨⟨x1,x2,x3,W⟩,xh⟩ L.2 s6:=⟨_,rfl⟩
     have d6:=fun F w q=>c6 F w q (AK bs.out HB.out)
     rw[←be] at d6
     rw[hd]
     clear af c6 ax
     go_wp2_with fail
     with_reducible refine Calls.mono (d6 _ _ (Ae (Ad h s6))) ?_
     rintro e ek bi
     clear d6
     rcases rP with ⟨p,s7⟩|⟨I,s7⟩|_
     rotate_left
     · have fe:Aside (X= .fault I s7):=AL bs.out be.symm
       obtain ⟨rfl,u⟩:=bi
       haveI:=u.i
       exact Cz HG.out (CX rfl rfl rfl fe.out (BL _ _ _ _ _))
     · exact (show False from bi).elim
     have ak:=AJ bs.out be.symm
     replace ak:Aside (_=X):=ak
     have fj:=Dd (fun p s n s' h=>C6 h) 30 _ _ _ _ _ be.symm (-31) 20 (by omega) (by omega) (by simp only;omega) (by simp only;omega)
     obtain ⟨i1,gp,rfl,⟨rfl,rfl⟩,a4⟩:=bi
     rw[Am] at a4
     haveI:=a4.i
     have d7:=fun F w q=>Hv 30 h s7 p.2 (R.2-L.2) F w q (by omega) (by omega) (by omega) w3 (AK ak.out HB.out)
     obtain ⟨rQ,bf⟩: ∃r,r=Be Ah Ag 30 p.2 (R.2-L.2) s7:=⟨_,rfl⟩
     rw[←bf] at d7
     obtain ⟨⟨⟨p1,p2,p3,p4⟩,ph⟩,⟨⟨o1,o2,o3,o4⟩,oh⟩⟩:=p
     unfold AH at d7⊢
     simp only at d7 fj
     obtain ⟨j,b7⟩: ∃M,ek.heap.size=M:=⟨_,rfl⟩
     clear a3 be bs
     go_wp2_with fail
     with_reducible refine Calls.mono (d7 _ _ (Ae (Ad h s7))) ?_
     rintro e ap bj
     clear d7
     rcases rQ with ⟨q,s8⟩|⟨I,s8⟩|_
     rotate_left
     · have ff:Aside (X= .fault I s8):=AL ak.out bf.symm
       obtain ⟨rfl,u⟩:=bj
       haveI:=u.i
       exact Cz HG.out (CX rfl rfl rfl ff.out (BL _ _ _ _ _))
     · exact (show False from bj).elim
     have a8:=AJ ak.out bf.symm
     replace a8:Aside (_=X):=a8
     have fk:=Dd (fun p s n s' h=>C6 h) 30 _ _ _ _ _ bf.symm (-62) 454 (by omega) (by omega) (by simp only;omega) (by simp only;omega)
     obtain ⟨i2,gq,rfl,⟨rfl,rfl⟩,db⟩:=bj
     rw[Am] at db
     haveI:=db.i
     have ee:Sat (Ad h s8*(rw A9 4 (.slice aj H cj) (AQ Q)*(Sl.block j CG [.int .i64 p1,.int .i64 p2,.int .i64 p3,.int .i64 p4,.int .i64 ph]*(Sl.block (N+1) Eu [.int .i64 0]*(Sl.block N Il [.int .i64 0]*(B*F)))))) ap:=by
      rw[←b7]
      exact EH _ _ _ _ _ _
     have d8:=fun F w q=>FR h s8 Q _ _ F w HJ.out q (by rw[cs.out];omega) (AK a8.out HB.out)
     obtain ⟨rM,ad⟩: ∃r,r=BO Ag Q s8:=⟨_,rfl⟩
     rw[←ad] at d8
     obtain ⟨⟨⟨g1,g2,g3,g4⟩,gh⟩,⟨⟨l1,l2,l3,l4⟩,lh⟩⟩:=q
     unfold AH
     simp only at fk
     obtain ⟨k,b8⟩: ∃M,ap.heap.size=M:=⟨_,rfl⟩
     haveI:=ee.i
     clear a4 db bf ak
     try rw[b7]
     clear b7
     go_upto_region 28 with (fail)
     try rw[b8]
     have dc:Sat (Sl.block (k+1) CG [.int .i64 l1,.int .i64 l2,.int .i64 l3,.int .i64 l4,.int .i64 lh]*(Ad h s8*(rw A9 4 (.slice aj H cj) (AQ Q)*(Sl.block j CG [.int .i64 p1,.int .i64 p2,.int .i64 p3,.int .i64 p4,.int .i64 ph]*(Sl.block (N+1) Eu [.int .i64 0]*(Sl.block N Il [.int .i64 0]*(B*F))))))) ((ap.alloc (.cells #[.int .i64 g1,.int .i64 g2,.int .i64 g3,.int .i64 g4,.int .i64 gh] CG)).alloc (.cells #[.int .i64 l1,.int .i64 l2,.int .i64 l3,.int .i64 l4,.int .i64 lh] CG)):=by
      rw[←b8]
      exact Br (C:=Sl.block ap.heap.size CG [.int .i64 g1,.int .i64 g2,.int .i64 g3,.int .i64 g4,.int .i64 gh]) (by ac_rfl)
     clear b8 ee
     generalize (ap.alloc (.cells #[.int .i64 g1,.int .i64 g2,.int .i64 g3,.int .i64 g4,.int .i64 gh] CG)).alloc (.cells #[.int .i64 l1,.int .i64 l2,.int .i64 l3,.int .i64 l4,.int .i64 lh] CG)=w55 at dc⊢
     haveI:=dc.i
     rcases rM with ⟨m,s9⟩|⟨I,s9⟩|_
     rotate_left
     · as_aux_lemma=>
       have e5:Aside (X= .fault I s9):=AL a8.out ad.symm
       clear ad
       refine Fs (N:=N) (D:=YY h N s1.sp.taken.length) (PP:=S0 h N B F X) (fun c a w h=>Cz HG.out h) ?_
       refine Dr.Hc (fun d=>d.cell? ⟨j,0,none⟩=some (.int .i64 p1)∧d.cell? ⟨j,1,none⟩=some (.int .i64 p2)∧d.cell? ⟨j,2,none⟩=some (.int .i64 p3)∧d.cell? ⟨j,3,none⟩=some (.int .i64 p4)∧d.cell? ⟨j,4,none⟩=some (.int .i64 ph)∧d.cell? ⟨(k+1),0,none⟩=some (.int .i64 l1)∧d.cell? ⟨(k+1),1,none⟩=some (.int .i64 l2)∧d.cell? ⟨(k+1),2,none⟩=some (.int .i64 l3)∧d.cell? ⟨(k+1),3,none⟩=some (.int .i64 l4)∧d.cell? ⟨(k+1),4,none⟩=some (.int .i64 lh)) [] (by kernel_rfl) ⟨Aa _ _ _,Aa _ _ _,Aa _ _ _,Aa _ _ _,Aa _ _ _,Aa _ _ _,Aa _ _ _,Aa _ _ _,Aa _ _ _,Aa _ _ _⟩ (fun g=>?_)
       refine Dr.Bk 0 (v:=?v0c) (by simp only[List.getElem?_toArray,List.getElem?_cons_succ,List.getElem?_cons_zero];rfl) (by kernel_rfl) ?hQ0c (.inl ⟨?hw0c,fun d=>?hy0c⟩) ?_
       case hy0c=>go_simp;try (with_reducible rfl)
       case hQ0c=>exact fun c a w h=>Az (by decide) (by decide) c a w h
       case hw0c=>rfl
       simp only[Act.put,List.setIfInBounds_toArray,List.set_cons_zero,List.set_cons_succ]
       refine Dr.Bk 1 (v:=?v1c) (by simp only[List.getElem?_toArray,List.getElem?_cons_succ,List.getElem?_cons_zero];rfl) (by kernel_rfl) ?hQ1c (.inl ⟨?hw1c,fun d=>?hy1c⟩) ?_
       case hy1c=>go_simp;try (with_reducible rfl)
       case hQ1c=>exact fun c a w h=>Az (by decide) (by decide) c a w h
       case hw1c=>rfl
       simp only[Act.put,List.setIfInBounds_toArray,List.set_cons_zero,List.set_cons_succ]
       refine Dr.Bk 3 (v:=?v3c) (by simp only[List.getElem?_toArray,List.getElem?_cons_succ,List.getElem?_cons_zero];rfl) (by kernel_rfl) ?hQ3c (.inl ⟨?hw3c,fun d=>?hy3c⟩) ?_
       case hy3c=>go_simp;try (with_reducible rfl)
       case hQ3c=>exact fun c a w h=>Az (by decide) (by decide) c a w h
       case hw3c=>rfl
       simp only[Act.put,List.setIfInBounds_toArray,List.set_cons_zero,List.set_cons_succ]
       refine Dr.Bk 4 (v:=?v4c) (by simp only[List.getElem?_toArray,List.getElem?_cons_succ,List.getElem?_cons_zero];rfl) (by kernel_rfl) ?hQ4c (.inl ⟨?hw4c,fun d=>?hy4c⟩) ?_
       case hy4c=>go_simp;try (with_reducible rfl)
       case hQ4c=>exact fun c a w h=>Az (by decide) (by decide) c a w h
       case hw4c=>rfl
       simp only[Act.put,List.setIfInBounds_toArray,List.set_cons_zero,List.set_cons_succ]
       refine Dr.Dz 2 (v:=?v2c) (by simp only[List.getElem?_toArray,List.getElem?_cons_succ,List.getElem?_cons_zero];rfl) (by kernel_rfl) ?hQ2c (.inl ⟨?hw2c,fun d hw=>?hy2c⟩) g ?_
       case hy2c=>(try dsimp only at hw);go_simp;try (with_reducible rfl)
       case hQ2c=>exact fun c a w h=>Az (by decide) (by decide) c a w h
       case hw2c=>rfl
       simp only[Act.put,List.setIfInBounds_toArray,List.set_cons_zero,List.set_cons_succ]
       refine Dr.Dz 7 (v:=?v7c) (by simp only[List.getElem?_toArray,List.getElem?_cons_succ,List.getElem?_cons_zero];rfl) (by kernel_rfl) ?hQ7c (.inl ⟨?hw7c,fun d hw=>?hy7c⟩) g ?_
       case hy7c=>(try dsimp only at hw);go_simp;try (with_reducible rfl)
       case hQ7c=>exact fun c a w h=>Az (by decide) (by decide) c a w h
       case hw7c=>rfl
       simp only[Act.put,List.setIfInBounds_toArray,List.set_cons_zero,List.set_cons_succ]
       refine Dr.Jt 5 9 (by simp only[List.getElem?_toArray,List.getElem?_cons_succ,List.getElem?_cons_zero];rfl) (by simp only[List.getElem?_toArray,List.getElem?_cons_succ,List.getElem?_cons_zero];rfl) (by kernel_rfl) ?_ ?_
       · go_wp2_with fail
         with_reducible refine Calls.mono (d8 _ _ (AY (Ad h s8) (rw A9 4 (.slice aj H cj) (AQ Q)))) ?_
         rintro e wz ⟨rfl,u⟩
         haveI:=u.i
         exact CX rfl rfl rfl e5.out (BL _ _ _ _ _)
       go_wp2_with (fail)
       refine Dr.D6 ⟨⟨Aa _ _ _,Aa _ _ _,Aa _ _ _,Aa _ _ _,Aa _ _ _,Aa _ _ _,Aa _ _ _,Aa _ _ _,Aa _ _ _,Aa _ _ _⟩,?_⟩
       refine Dr.DO 5 (by simp only[List.getElem?_toArray,List.getElem?_cons_succ,List.getElem?_cons_zero];rfl) (by kernel_rfl) ?_
       go_wp2_with fail
       with_reducible refine Calls.mono (d8 _ _ (AY (Ad h s8) (rw A9 4 (.slice aj H cj) (AQ Q)))) ?_
       rintro e wz ⟨rfl,u⟩
       haveI:=u.i
       exact CX rfl rfl rfl e5.out (BL _ _ _ _ _)
     · exact absurd (B3 a8.out ad.symm) HB.out
     have a9:=AJ a8.out ad.symm
     replace a9:Aside (_=X):=a9
     have e6:=EA ad.symm
     rw[cs.out] at e6
     unfold J0 at d8
     have d9:=fun F w q=>GV h s9 ⟨⟨p1,p2,p3,p4⟩,ph⟩ m F w q (by simp only;omega) (by simp only;omega) (by omega) (by omega) (AK a9.out HB.out)
     obtain ⟨rX,ae⟩: ∃r,r=DT Ah Ag ⟨⟨p1,p2,p3,p4⟩,ph⟩ m s9:=⟨_,rfl⟩
     rw[←ae] at d9
     obtain ⟨⟨m1,m2,m3,m4⟩,mh⟩:=m
     unfold AH at d8 d9
     simp only at d8 d9 e6
     clear ad a8
     rcases rX with ⟨x,s10⟩|⟨I,s10⟩|_
     rotate_left
     · as_aux_lemma=>
       have b9:Aside (X= .fault I s10):=AL a9.out ae.symm
       clear ae
       refine Fs (N:=N) (D:=YY h N s1.sp.taken.length) (PP:=S0 h N B F X) (fun c a w h=>Cz HG.out h) ?_
       refine Dr.Hc (fun d=>d.cell? ⟨j,0,none⟩=some (.int .i64 p1)∧d.cell? ⟨j,1,none⟩=some (.int .i64 p2)∧d.cell? ⟨j,2,none⟩=some (.int .i64 p3)∧d.cell? ⟨j,3,none⟩=some (.int .i64 p4)∧d.cell? ⟨j,4,none⟩=some (.int .i64 ph)∧d.cell? ⟨(k+1),0,none⟩=some (.int .i64 l1)∧d.cell? ⟨(k+1),1,none⟩=some (.int .i64 l2)∧d.cell? ⟨(k+1),2,none⟩=some (.int .i64 l3)∧d.cell? ⟨(k+1),3,none⟩=some (.int .i64 l4)∧d.cell? ⟨(k+1),4,none⟩=some (.int .i64 lh)) [] (by kernel_rfl) ⟨Aa _ _ _,Aa _ _ _,Aa _ _ _,Aa _ _ _,Aa _ _ _,Aa _ _ _,Aa _ _ _,Aa _ _ _,Aa _ _ _,Aa _ _ _⟩ (fun g=>?_)
       refine Dr.Bk 0 (v:=?v0d) (by simp only[List.getElem?_toArray,List.getElem?_cons_succ,List.getElem?_cons_zero];rfl) (by kernel_rfl) ?hQ0d (.inl ⟨?hw0d,fun d=>?hy0d⟩) ?_
       case hy0d=>go_simp;try (with_reducible rfl)
       case hQ0d=>exact fun c a w h=>Az (by decide) (by decide) c a w h
       case hw0d=>rfl
       simp only[Act.put,List.setIfInBounds_toArray,List.set_cons_zero,List.set_cons_succ]
       refine Dr.Bk 1 (v:=?v1d) (by simp only[List.getElem?_toArray,List.getElem?_cons_succ,List.getElem?_cons_zero];rfl) (by kernel_rfl) ?hQ1d (.inl ⟨?hw1d,fun d=>?hy1d⟩) ?_
       case hy1d=>go_simp;try (with_reducible rfl)
       case hQ1d=>exact fun c a w h=>Az (by decide) (by decide) c a w h
       case hw1d=>rfl
       simp only[Act.put,List.setIfInBounds_toArray,List.set_cons_zero,List.set_cons_succ]
       refine Dr.Bk 3 (v:=?v3d) (by simp only[List.getElem?_toArray,List.getElem?_cons_succ,List.getElem?_cons_zero];rfl) (by kernel_rfl) ?hQ3d (.inl ⟨?hw3d,fun d=>?hy3d⟩) ?_
       case hy3d=>go_simp;try (with_reducible rfl)
       case hQ3d=>exact fun c a w h=>Az (by decide) (by decide) c a w h
       case hw3d=>rfl
       simp only[Act.put,List.setIfInBounds_toArray,List.set_cons_zero,List.set_cons_succ]
       refine Dr.Bk 4 (v:=?v4d) (by simp only[List.getElem?_toArray,List.getElem?_cons_succ,List.getElem?_cons_zero];rfl) (by kernel_rfl) ?hQ4d (.inl ⟨?hw4d,fun d=>?hy4d⟩) ?_
       case hy4d=>go_simp;try (with_reducible rfl)
       case hQ4d=>exact fun c a w h=>Az (by decide) (by decide) c a w h
       case hw4d=>rfl
       simp only[Act.put,List.setIfInBounds_toArray,List.set_cons_zero,List.set_cons_succ]
       refine Dr.Dz 2 (v:=?v2d) (by simp only[List.getElem?_toArray,List.getElem?_cons_succ,List.getElem?_cons_zero];rfl) (by kernel_rfl) ?hQ2d (.inl ⟨?hw2d,fun d hw=>?hy2d⟩) g ?_
       case hy2d=>(try dsimp only at hw);go_simp;try (with_reducible rfl)
       case hQ2d=>exact fun c a w h=>Az (by decide) (by decide) c a w h
       case hw2d=>rfl
       simp only[Act.put,List.setIfInBounds_toArray,List.set_cons_zero,List.set_cons_succ]
       refine Dr.Dz 7 (v:=?v7d) (by simp only[List.getElem?_toArray,List.getElem?_cons_succ,List.getElem?_cons_zero];rfl) (by kernel_rfl) ?hQ7d (.inl ⟨?hw7d,fun d hw=>?hy7d⟩) g ?_
       case hy7d=>(try dsimp only at hw);go_simp;try (with_reducible rfl)
       case hQ7d=>exact fun c a w h=>Az (by decide) (by decide) c a w h
       case hw7d=>rfl
       simp only[Act.put,List.setIfInBounds_toArray,List.set_cons_zero,List.set_cons_succ]
       refine Dr.Jt 5 9 (by simp only[List.getElem?_toArray,List.getElem?_cons_succ,List.getElem?_cons_zero];rfl) (by simp only[List.getElem?_toArray,List.getElem?_cons_succ,List.getElem?_cons_zero];rfl) (by kernel_rfl) ?_ ?_
       · go_wp2_with fail
         with_reducible refine Calls.mono (d8 _ _ (AY (Ad h s8) (rw A9 4 (.slice aj H cj) (AQ Q)))) ?_
         rintro e c9 ⟨c8,bq,rfl,⟨rfl,rfl⟩,o⟩
         rw[Am] at o
         haveI:=o.i
         go_wp2_with fail
         refine Dr.D6 ⟨⟨Aa _ _ _,Aa _ _ _,Aa _ _ _,Aa _ _ _,Aa _ _ _,Aa _ _ _,Aa _ _ _,Aa _ _ _,Aa _ _ _,Aa _ _ _⟩,?_⟩
         refine Dr.Jt 6 9 (by simp only[List.getElem?_toArray,List.getElem?_cons_succ,List.getElem?_cons_zero];rfl) (by simp only[List.getElem?_toArray,List.getElem?_cons_succ,List.getElem?_cons_zero];rfl) (by kernel_rfl) ?_ ?_
         · go_wp2_with fail
           with_reducible refine Calls.mono (d9 _ _ (Ae (Ad h s9))) ?_
           rintro e wz ⟨rfl,u⟩
           haveI:=u.i
           exact CX rfl rfl rfl b9.out (BL _ _ _ _ _)
         go_wp2_with (fail)
         refine Dr.D6 ⟨⟨Aa _ _ _,Aa _ _ _,Aa _ _ _,Aa _ _ _,Aa _ _ _,Aa _ _ _,Aa _ _ _,Aa _ _ _,Aa _ _ _,Aa _ _ _⟩,?_⟩
         refine Dr.DO 6 (by simp only[List.getElem?_toArray,List.getElem?_cons_succ,List.getElem?_cons_zero];rfl) (by kernel_rfl) ?_
         go_wp2_with fail
         with_reducible refine Calls.mono (d9 _ _ (Ae (Ad h s9))) ?_
         rintro e wz ⟨rfl,u⟩
         haveI:=u.i
         exact CX rfl rfl rfl b9.out (BL _ _ _ _ _)
       go_wp2_with (fail)
       refine Dr.D6 ⟨⟨Aa _ _ _,Aa _ _ _,Aa _ _ _,Aa _ _ _,Aa _ _ _,Aa _ _ _,Aa _ _ _,Aa _ _ _,Aa _ _ _,Aa _ _ _⟩,?_⟩
       refine Dr.DO 5 (by simp only[List.getElem?_toArray,List.getElem?_cons_succ,List.getElem?_cons_zero];rfl) (by kernel_rfl) ?_
       go_wp2_with fail
       with_reducible refine Calls.mono (d8 _ _ (AY (Ad h s8) (rw A9 4 (.slice aj H cj) (AQ Q)))) ?_
       rintro e c9 ⟨c8,bq,rfl,⟨rfl,rfl⟩,o⟩
       rw[Am] at o
       haveI:=o.i
       go_wp2_with fail
       refine Dr.D6 ⟨⟨Aa _ _ _,Aa _ _ _,Aa _ _ _,Aa _ _ _,Aa _ _ _,Aa _ _ _,Aa _ _ _,Aa _ _ _,Aa _ _ _,Aa _ _ _⟩,?_⟩
       refine Dr.DO 6 (by simp only[List.getElem?_toArray,List.getElem?_cons_succ,List.getElem?_cons_zero];rfl) (by kernel_rfl) ?_
       go_wp2_with fail
       with_reducible refine Calls.mono (d9 _ _ (Ae (Ad h s9))) ?_
       rintro e wz ⟨rfl,u⟩
       haveI:=u.i
       exact CX rfl rfl rfl b9.out (BL _ _ _ _ _)
     · exact absurd (B3 a9.out ae.symm) HB.out
     have J:=AJ a9.out ae.symm
     replace J:Aside (_=X):=J
     have ha:=Gr (fun p s n s' h=>Kf h) ae.symm (-31) 454 (by omega) (by omega) (by simp only;omega) (by simp only;omega) (by simp only;omega) (by simp only;omega)
     have T:=fun F w q'=>GV h s10 x ⟨⟨l1,l2,l3,l4⟩,lh⟩ F w q' (by omega) (by omega) (by simp only;omega) (by simp only;omega) (AK J.out HB.out)
     obtain ⟨rY,ao⟩: ∃r,r=DT Ah Ag x ⟨⟨l1,l2,l3,l4⟩,lh⟩ s10:=⟨_,rfl⟩
     rw[←ao] at T
     obtain ⟨⟨u1,u2,u3,u4⟩,uh⟩:=x
     unfold J0 at d9
     unfold AH at d9 T
     simp only at d9 T
     clear ae a9
     rcases rY with ⟨y,s11⟩|⟨I,s11⟩|_
     rotate_left
     · as_aux_lemma=>
       have K:Aside (X= .fault I s11):=AL J.out ao.symm
       clear ao
       refine Fs (N:=N) (D:=YY h N s1.sp.taken.length) (PP:=S0 h N B F X) (fun c a w h=>Cz HG.out h) ?_
       refine Dr.Hc (fun d=>d.cell? ⟨j,0,none⟩=some (.int .i64 p1)∧d.cell? ⟨j,1,none⟩=some (.int .i64 p2)∧d.cell? ⟨j,2,none⟩=some (.int .i64 p3)∧d.cell? ⟨j,3,none⟩=some (.int .i64 p4)∧d.cell? ⟨j,4,none⟩=some (.int .i64 ph)∧d.cell? ⟨(k+1),0,none⟩=some (.int .i64 l1)∧d.cell? ⟨(k+1),1,none⟩=some (.int .i64 l2)∧d.cell? ⟨(k+1),2,none⟩=some (.int .i64 l3)∧d.cell? ⟨(k+1),3,none⟩=some (.int .i64 l4)∧d.cell? ⟨(k+1),4,none⟩=some (.int .i64 lh)) [] (by kernel_rfl) ⟨Aa _ _ _,Aa _ _ _,Aa _ _ _,Aa _ _ _,Aa _ _ _,Aa _ _ _,Aa _ _ _,Aa _ _ _,Aa _ _ _,Aa _ _ _⟩ (fun g=>?_)
       refine Dr.Bk 0 (v:=?v0e) (by simp only[List.getElem?_toArray,List.getElem?_cons_succ,List.getElem?_cons_zero];rfl) (by kernel_rfl) ?hQ0e (.inl ⟨?hw0e,fun d=>?hy0e⟩) ?_
       case hy0e=>go_simp;try (with_reducible rfl)
       case hQ0e=>exact fun c a w h=>Az (by decide) (by decide) c a w h
       case hw0e=>rfl
       simp only[Act.put,List.setIfInBounds_toArray,List.set_cons_zero,List.set_cons_succ]
       refine Dr.Bk 1 (v:=?v1e) (by simp only[List.getElem?_toArray,List.getElem?_cons_succ,List.getElem?_cons_zero];rfl) (by kernel_rfl) ?hQ1e (.inl ⟨?hw1e,fun d=>?hy1e⟩) ?_
       case hy1e=>go_simp;try (with_reducible rfl)
       case hQ1e=>exact fun c a w h=>Az (by decide) (by decide) c a w h
       case hw1e=>rfl
       simp only[Act.put,List.setIfInBounds_toArray,List.set_cons_zero,List.set_cons_succ]
       refine Dr.Bk 3 (v:=?v3e) (by simp only[List.getElem?_toArray,List.getElem?_cons_succ,List.getElem?_cons_zero];rfl) (by kernel_rfl) ?hQ3e (.inl ⟨?hw3e,fun d=>?hy3e⟩) ?_
       case hy3e=>go_simp;try (with_reducible rfl)
       case hQ3e=>exact fun c a w h=>Az (by decide) (by decide) c a w h
       case hw3e=>rfl
       simp only[Act.put,List.setIfInBounds_toArray,List.set_cons_zero,List.set_cons_succ]
       refine Dr.Bk 4 (v:=?v4e) (by simp only[List.getElem?_toArray,List.getElem?_cons_succ,List.getElem?_cons_zero];rfl) (by kernel_rfl) ?hQ4e (.inl ⟨?hw4e,fun d=>?hy4e⟩) ?_
       case hy4e=>go_simp;try (with_reducible rfl)
       case hQ4e=>exact fun c a w h=>Az (by decide) (by decide) c a w h
       case hw4e=>rfl
       simp only[Act.put,List.setIfInBounds_toArray,List.set_cons_zero,List.set_cons_succ]
       refine Dr.Dz 2 (v:=?v2e) (by simp only[List.getElem?_toArray,List.getElem?_cons_succ,List.getElem?_cons_zero];rfl) (by kernel_rfl) ?hQ2e (.inl ⟨?hw2e,fun d hw=>?hy2e⟩) g ?_
       case hy2e=>(try dsimp only at hw);go_simp;try (with_reducible rfl)
       case hQ2e=>exact fun c a w h=>Az (by decide) (by decide) c a w h
       case hw2e=>rfl
       simp only[Act.put,List.setIfInBounds_toArray,List.set_cons_zero,List.set_cons_succ]
       refine Dr.Dz 7 (v:=?v7e) (by simp only[List.getElem?_toArray,List.getElem?_cons_succ,List.getElem?_cons_zero];rfl) (by kernel_rfl) ?hQ7e (.inl ⟨?hw7e,fun d hw=>?hy7e⟩) g ?_
       case hy7e=>(try dsimp only at hw);go_simp;try (with_reducible rfl)
       case hQ7e=>exact fun c a w h=>Az (by decide) (by decide) c a w h
       case hw7e=>rfl
       simp only[Act.put,List.setIfInBounds_toArray,List.set_cons_zero,List.set_cons_succ]
       refine Dr.Jt 5 9 (by simp only[List.getElem?_toArray,List.getElem?_cons_succ,List.getElem?_cons_zero];rfl) (by simp only[List.getElem?_toArray,List.getElem?_cons_succ,List.getElem?_cons_zero];rfl) (by kernel_rfl) ?_ ?_
       · go_wp2_with fail
         with_reducible refine Calls.mono (d8 _ _ (AY (Ad h s8) (rw A9 4 (.slice aj H cj) (AQ Q)))) ?_
         rintro e c9 ⟨c8,bq,rfl,⟨rfl,rfl⟩,o⟩
         rw[Am] at o
         haveI:=o.i
         go_wp2_with fail
         refine Dr.D6 ⟨⟨Aa _ _ _,Aa _ _ _,Aa _ _ _,Aa _ _ _,Aa _ _ _,Aa _ _ _,Aa _ _ _,Aa _ _ _,Aa _ _ _,Aa _ _ _⟩,?_⟩
         refine Dr.Jt 6 9 (by simp only[List.getElem?_toArray,List.getElem?_cons_succ,List.getElem?_cons_zero];rfl) (by simp only[List.getElem?_toArray,List.getElem?_cons_succ,List.getElem?_cons_zero];rfl) (by kernel_rfl) ?_ ?_
         · go_wp2_with fail
           with_reducible refine Calls.mono (d9 _ _ (Ae (Ad h s9))) ?_
           rintro e df ⟨de,cp,rfl,⟨rfl,rfl⟩,P⟩
           rw[Am] at P
           haveI:=P.i
           go_wp2_with fail
           refine Dr.D6 ⟨⟨Aa _ _ _,Aa _ _ _,Aa _ _ _,Aa _ _ _,Aa _ _ _,Aa _ _ _,Aa _ _ _,Aa _ _ _,Aa _ _ _,Aa _ _ _⟩,?_⟩
           refine Dr.Jt 8 9 (by simp only[List.getElem?_toArray,List.getElem?_cons_succ,List.getElem?_cons_zero];rfl) (by simp only[List.getElem?_toArray,List.getElem?_cons_succ,List.getElem?_cons_zero];rfl) (by kernel_rfl) ?_ ?_
           ·go_wp2_with fail
            with_reducible refine Calls.mono (T _ _ (Ae (Ad h s10))) ?_
            rintro e wz ⟨rfl,u⟩
            haveI:=u.i
            exact CX rfl rfl rfl K.out (BL _ _ _ _ _)
           go_wp2_with (fail)
           refine Dr.D6 ⟨⟨Aa _ _ _,Aa _ _ _,Aa _ _ _,Aa _ _ _,Aa _ _ _,Aa _ _ _,Aa _ _ _,Aa _ _ _,Aa _ _ _,Aa _ _ _⟩,?_⟩
           refine Dr.DO 8 (by simp only[List.getElem?_toArray,List.getElem?_cons_succ,List.getElem?_cons_zero];rfl) (by kernel_rfl) ?_
           go_wp2_with fail
           with_reducible refine Calls.mono (T _ _ (Ae (Ad h s10))) ?_
           rintro e wz ⟨rfl,u⟩
           haveI:=u.i
           exact CX rfl rfl rfl K.out (BL _ _ _ _ _)
         go_wp2_with (fail)
         refine Dr.D6 ⟨⟨Aa _ _ _,Aa _ _ _,Aa _ _ _,Aa _ _ _,Aa _ _ _,Aa _ _ _,Aa _ _ _,Aa _ _ _,Aa _ _ _,Aa _ _ _⟩,?_⟩
         refine Dr.DO 6 (by simp only[List.getElem?_toArray,List.getElem?_cons_succ,List.getElem?_cons_zero];rfl) (by kernel_rfl) ?_
         go_wp2_with fail
         with_reducible refine Calls.mono (d9 _ _ (Ae (Ad h s9))) ?_
         rintro e df ⟨de,cp,rfl,⟨rfl,rfl⟩,P⟩
         rw[Am] at P
         haveI:=P.i
         go_wp2_with fail
         refine Dr.D6 ⟨⟨Aa _ _ _,Aa _ _ _,Aa _ _ _,Aa _ _ _,Aa _ _ _,Aa _ _ _,Aa _ _ _,Aa _ _ _,Aa _ _ _,Aa _ _ _⟩,?_⟩
         refine Dr.DO 8 (by simp only[List.getElem?_toArray,List.getElem?_cons_succ,List.getElem?_cons_zero];rfl) (by kernel_rfl) ?_
         go_wp2_with fail
         with_reducible refine Calls.mono (T _ _ (Ae (Ad h s10))) ?_
         rintro e wz ⟨rfl,u⟩
         haveI:=u.i
         exact CX rfl rfl rfl K.out (BL _ _ _ _ _)
       go_wp2_with (fail)
       refine Dr.D6 ⟨⟨Aa _ _ _,Aa _ _ _,Aa _ _ _,Aa _ _ _,Aa _ _ _,Aa _ _ _,Aa _ _ _,Aa _ _ _,Aa _ _ _,Aa _ _ _⟩,?_⟩
       refine Dr.DO 5 (by simp only[List.getElem?_toArray,List.getElem?_cons_succ,List.getElem?_cons_zero];rfl) (by kernel_rfl) ?_
       go_wp2_with fail
       with_reducible refine Calls.mono (d8 _ _ (AY (Ad h s8) (rw A9 4 (.slice aj H cj) (AQ Q)))) ?_
       rintro e c9 ⟨c8,bq,rfl,⟨rfl,rfl⟩,o⟩
       rw[Am] at o
       haveI:=o.i
       go_wp2_with fail
       refine Dr.D6 ⟨⟨Aa _ _ _,Aa _ _ _,Aa _ _ _,Aa _ _ _,Aa _ _ _,Aa _ _ _,Aa _ _ _,Aa _ _ _,Aa _ _ _,Aa _ _ _⟩,?_⟩
       refine Dr.DO 6 (by simp only[List.getElem?_toArray,List.getElem?_cons_succ,List.getElem?_cons_zero];rfl) (by kernel_rfl) ?_
       go_wp2_with fail
       with_reducible refine Calls.mono (d9 _ _ (Ae (Ad h s9))) ?_
       rintro e df ⟨de,cp,rfl,⟨rfl,rfl⟩,P⟩
       rw[Am] at P
       haveI:=P.i
       go_wp2_with fail
       refine Dr.D6 ⟨⟨Aa _ _ _,Aa _ _ _,Aa _ _ _,Aa _ _ _,Aa _ _ _,Aa _ _ _,Aa _ _ _,Aa _ _ _,Aa _ _ _,Aa _ _ _⟩,?_⟩
       refine Dr.DO 8 (by simp only[List.getElem?_toArray,List.getElem?_cons_succ,List.getElem?_cons_zero];rfl) (by kernel_rfl) ?_
       go_wp2_with fail
       with_reducible refine Calls.mono (T _ _ (Ae (Ad h s10))) ?_
       rintro e wz ⟨rfl,u⟩
       haveI:=u.i
       exact CX rfl rfl rfl K.out (BL _ _ _ _ _)
     · exact absurd (B3 J.out ao.symm) HB.out
     have ce:=AJ J.out ao.symm
     have K:X= .ok y.DK.Ay s11:=ce.symm
     obtain ⟨⟨y1,y2,y3,y4⟩,yh⟩:=y
     unfold J0 AH at T
     simp only at T K
     subst K
     clear ao J ce HB HG
     go_cut [27] from 28 to 185 (fun g0 wx=> ∃M:Nat,g0= .pointer (some ⟨M,0,none⟩)∧Sat (Sl.block M CG [.int .i64 y1,.int .i64 y2,.int .i64 y3,.int .i64 y4,.int .i64 yh]*(Ad h s11*(Sl.block (N+1) Eu [.int .i64 0]*(Sl.block N Il [.int .i64 0]*(B*F))))) wx)
     case first =>
      go_region_held3 (fun d=>d.cell? ⟨j,0,none⟩=some (.int .i64 p1)∧d.cell? ⟨j,1,none⟩=some (.int .i64 p2)∧d.cell? ⟨j,2,none⟩=some (.int .i64 p3)∧d.cell? ⟨j,3,none⟩=some (.int .i64 p4)∧d.cell? ⟨j,4,none⟩=some (.int .i64 ph)∧d.cell? ⟨k+1,0,none⟩=some (.int .i64 l1)∧d.cell? ⟨k+1,1,none⟩=some (.int .i64 l2)∧d.cell? ⟨k+1,2,none⟩=some (.int .i64 l3)∧d.cell? ⟨k+1,3,none⟩=some (.int .i64 l4)∧d.cell? ⟨k+1,4,none⟩=some (.int .i64 lh)) (first|exact ⟨Aa _ _ _,Aa _ _ _,Aa _ _ _,Aa _ _ _,Aa _ _ _,Aa _ _ _,Aa _ _ _,Aa _ _ _,Aa _ _ _,Aa _ _ _⟩) (first
       |(
          go_at_call 84
          with_reducible refine Calls.mono (d8 _ _ (AY (Ad h s8) (rw A9 4 (.slice aj H cj) (AQ Q)))) ?_
          rintro e c9 ⟨c8,bq,rfl,⟨rfl,rfl⟩,o⟩
          rw[Am] at o
          haveI:=o.i)
       |(
          go_at_call 99
          with_reducible refine Calls.mono (d9 _ _ (Ae (Ad h s9))) ?_
          rintro e df ⟨de,cp,rfl,⟨rfl,rfl⟩,P⟩
          rw[Am] at P
          haveI:=P.i)
       |(
          go_at_call 99
          with_reducible refine Calls.mono (T _ _ (Ae (Ad h s10))) ?_
          rintro e i8 ⟨i3,gr,rfl,⟨rfl,rfl⟩,ef⟩
          rw[Am] at ef
          haveI:=ef.i))
      all_goals
       go_wp2
       go_meet
       exact ⟨_,rfl,EH _ _ _ _ _ _⟩
     case rest=>as_aux_lemma=>
      obtain ⟨M,rfl,o⟩:=hcut
      haveI:=o.i
      clear dc
      go_wp2
      refine leaves_cons (f:=93) (args:= #[.pointer (some ⟨N,0,none⟩),.pointer (some ⟨N+1,0,none⟩)]) (by simp) (by simp[go_sem]) ?_
      refine (F6 _ _ _).mono ?_
      rintro e u' i9 ⟨rfl,rfl,rfl⟩
      show Leaves _ _ _ _ _ .returning _
      refine leaves_cons (f:=81) (args:= #[.pointer (some ⟨h.t,0,none⟩),.int .i64 s1.sp.taken.length,.pointer (some ⟨N+1,0,none⟩)]) (by simp) (by simp[go_sem]) ?_
      refine (Ja _ _ (N+1) _ _ _ (Ae (Sl.block (N+1) Eu [.int .i64 0]))).mono ?_
      rintro e u' ib ⟨rfl,rfl,fs⟩
      haveI:=fs.i
      simp[Leaves,settle,results,Tryz.results33,go_sem]
      exact ⟨rfl,AR _ _ _⟩
end Go.Proofs.YtfhbmblbidcmmaaGreat
namespace Go.Tr
theorem Vj(i a:Nat)(hi:i≤1000)(hs:a≤1000):Ai (F1 i a)=true∧1≤(F1 i a).len∧(F1 i a).len≤5:=by
 rw[BS]
 unfold F1
 simp only
 split<;>(try split)<;>omega
theorem QV(n a:Nat)(i:n≤1000)(hs:a≤1000):(∀x∈Dw n a,Ai x=true)∧0≤Ab (Dw n a)∧Ab (Dw n a)≤5*n:=by
 induction n with
 |zero=>exact ⟨fun x hx=>by simp[Dw] at hx,by simp[Dw,Ab],by simp[Dw,Ab]⟩
 | succ n c =>
  obtain ⟨b,f,g⟩:=c (by omega)
  obtain ⟨d,j,k⟩:=Vj n a (by omega) hs
  rw[Ei]
  have e:Ab (Dw n a++ [F1 n a])=Ab (Dw n a)+(F1 n a).len:=by rw[Ak];simp[Ab]
  rw[e]
  refine ⟨fun x hx=>?_,by omega,by omega⟩
  rcases List.mem_append.1 hx with hx|hx
  ·exact b x hx
  simp at hx;subst hx;exact d
theorem Vl(n b:Nat)(a:As)(h:(Dw n b).getLast?=some a): ∃m,n=m+1∧a=F1 m b:=by
 cases n with
 |zero=>simp[Dw] at h
 | succ n =>
  rw[Ei,List.getLast?_append] at h
  simp at h
  exact ⟨n,rfl,h.symm⟩
theorem QU(n c:Nat):BI (Dw n c):=by
 induction n with
 |zero=>exact trivial
 | succ n f =>
  rw[Ei]
  refine MW f trivial fun a b g d e=>?_
  obtain ⟨m,rfl,rfl⟩:=Vl n c a d
  cases e
  unfold meets F1
  simp only
  have:((m+c)%2:Nat)≠(m+1+c)%2:=by omega
  simp
  intro h
  omega
theorem Vm(n a:Nat)(c:n≤1000)(hs:a≤1000):BD (Dw n a)=true:=by
 obtain ⟨b,d,e⟩:=QV n a c hs
 show ((Dw n a).all Ai&&decide (Ab (Dw n a)≤1048576))=true
 simp only[Bool.and_eq_true,List.all_eq_true,decide_eq_true_eq]
 exact ⟨b,by omega⟩
theorem Ve{n j:Nat}(h:n<4^(j+1)): ∀k:Nat,2*4^k≤n→k≤j:=fun k b=>by
 rcases Nat.lt_or_ge j k with a|a
 ·have:4^(j+1)≤4^k:=Nat.pow_le_pow_right (by omega) a
  omega
 exact a
end Go.Tr
namespace Go.Proofs.YtfhbmblbidcmmaaGreat
open Go.RowKit Go.Sl Go.Dk Go.Tr
def j6(s s':TS):Prop:=s.sp.used.Nodup→s'.sp.used.Nodup
theorem DD:Od j6 where
 same s h:=h
 next a b c h1 h2 h:=h2 (h1 h)
theorem VI(n:Nd):Af j6 (Ag n):=by
 haveI:G1:=Oq
 refine Af.ite (Af.fail DD _) ?_
 refine Af.bind DD (fun s=>?_) fun t=>Af.bind DD (Fm _ DD _) fun _=>Af.bind DD (Fm _ DD _) fun _=>Af.bind DD (fun s=>(fun h=>h:j6 s _)) fun e=>Af.bind DD (Fm _ DD _) fun _=>Af.pure DD _
 unfold F0
 by_cases h:s.ops<Bu
 ·rw[if_pos h]
  unfold Sp.take
  cases d:s.sp.free with
  |none=>exact fun h=>h
  | some no =>
   intro f
   obtain ⟨g,i,c,_⟩:=Sp.EO d
   show (s.sp.used++ [no]).Nodup
   refine List.nodup_append.2 ⟨f,by simp,fun a ha b hb e=>?_⟩
   simp at hb
   subst hb
   subst e
   unfold Sp.busy at c
   simp at c
   exact c.1 ha
 rw[if_neg h];trivial
theorem XR: @Ml ZR true (Jz 102400 4):=by
 letI:=ZR
 have h:=U8 102400 4 (by omega) (by omega) (by omega) (by omega) false (by simp)
 refine ⟨h.ts,h.AG,h.res,h.used,fun _=>?_⟩
 unfold Roomy
 rw[Uu rfl]
 show (0:Int)+((256*400:Nat):Int)≤102400
 omega
theorem Wj(h:Th)(l:List As)(hf:Fit l)(hj:BI l)(hn:l.length≤119)(hm:BD l=true): ∃(r:Int)(s1:TS),
 (∀v B F w,Aq B v l→Sat (Ad h (Jz 102400 4)*(B*F)) w→Calls Tryz.prog 23 #[.pointer (some ⟨h.t,0,none⟩),v] w fun e G=>e= .returned (Ki r 0)∧Sat (Ad h s1*(B*F)) G)∧
 (∀F w,Sat (Ad h s1*F) w→Calls Tryz.prog 36 #[.pointer (some ⟨h.C,0,none⟩)] w fun e G=>e= .returned (.int .i64 0)∧Sat (Ad h s1.E0*F) G)∧LN s1.E0 r l:=by
 letI:=ZR
 have hI:=XR
 have o:Oe=400:=rfl
 have a7:Bm (Jz 102400 4).sp=399:=by rw[XS,o]
 have K:Ap (Jz 102400 4)=67108850:=rfl
 have P:Step (W8 true) (Jz 102400 4) 0 (2*l.length) (Ib Ag l) (fun r s'=>Rt (nodeAt s') r l):=by
  unfold Ib
  refine (Step.bind (R2:=0) (W2:=0) (Ji (Yv true) hI hf) ?_).mono (by omega) (by omega) fun _ _ _ _ x=>x
  rintro x s1 H K ⟨x1,-⟩
  exact Step.pure H x1.root
 obtain ⟨r,s1,hx,D,h2,h3,h4,h5,h6⟩:=XG P (by omega) (by omega)
 have j:Ib Ag l (Jz 102400 4)= .ok r s1:=hx
 have U:ER l (Jz 102400 4)= .ok r s1:=by unfold ER;rw[if_neg (by simp[hm]),Gi hj,if_neg (by omega),j];rfl
 have c:Fc (Jz 102400 4) s1:=Af.ok (Ic Bx Kg l) j
 have c:BJ (Jz 102400 4).ck s1.ck:=c
 have M:s1.sp.used.Nodup:=(show j6 (Jz 102400 4) s1 from Af.ok (Ic DD VI l) j) (by simp[Jz,Sp.new])
 have J:Grow (Jz 102400 4) s1:=Af.ok (Ic Bw F8 l) j
 have W:s1.ops+4100≤Bu:=by unfold Ap Bu at*;omega
 have a3:s1.ck.cap=4:=c.cap
 have y:s1.ck.nm=He:=c.nm
 have a:=QE D W
 obtain ⟨m,L⟩:=D.ts.ck
 have V:=JI L D.AG
 refine ⟨r,s1,fun v B F w hE hs=>?_,fun F w q=>SF h s1 F w D W (by omega) q,?_⟩
 · refine (Qz h _ l v B F w hE hs (by omega) hm (by rw[U];simp)).mono fun e G hy=>?_
   rw[U] at hy
   exact hy
 have z:s1.E0.ck.nm=He:=a.cap.nm.trans y
 have O:s1.E0.sp=s1.sp:=rfl
 refine ⟨@Ep.mk Oq _ _ a.inv.ts ?_ a.inv.res (fun p hp=>?_) (by rw[O];exact M) ?_ (fun p b hb=>(show Jw s1.E0 p b from hb).1) (fun p b hb=>?_),a.clean,h6.le a.le,a.inv.AG.BK.down,z,fun n u=>?_,?_,?_⟩
 · have g:=a.inv.AG.pf
   exact g.more (show 400≤1048576 by omega)
 · have:=a.inv.used p hp
   have e2: @Oe Oq=1048576:=rfl
   omega
 · exact Vd (V.kept a.zero) fun k b hk=>(show Jw s1.E0 k b from hk).2
 · have I:=(show Jw s1.E0 p b from hb).2
   show DX s1.ck.flush.2.d s1.ck.flush.2.nm=true
   have i:Bg (Au s1.ck.flush.2.d s1.ck.flush.2.nm) p b:=I
   unfold DX
   unfold Au at i
   cases s:s1.ck.flush.2.d.get s1.ck.flush.2.nm with
   | none =>
    rw[s] at i
    have:=i.2.1
    simp[Dk.Io] at this
   |some f=>exact V.sure a.zero f s
 · have k1:=a.cap.Im n (by rw[y];exact u)
   have k2:=c.Im n (show n≠He from u)
   rw[k1,k2]
   rfl
 · have:=a.left;omega
 obtain ⟨-,Y,Z,-⟩:=J
 have Q:s1.sp.A5=1:=Y
 have R:s1.sp.waiting= []:=Z
 have X: @Bm Oq s1.E0.sp=1048576-s1.sp.A5.toNat-s1.sp.used.length-s1.sp.waiting.length:=rfl
 have T:Bm s1.sp=400-s1.sp.A5.toNat-s1.sp.used.length-s1.sp.waiting.length:=rfl
 rw[X,Q,R]
 rw[Q,R] at T
 simp only[List.length_nil] at T⊢
 omega
variable [G1]
structure Zv (P:Int→List UInt8→Prop) (s:TS) (g:Int×List As) (r f:Int) (s':TS):Prop where
 ok:f=0→g.1=0∧s'.ck.d.down=false∧Ep P s'∧Rt (nodeAt s') r g.2∧Le (nodeAt s) (nodeAt s')
 no:f≠0→r=0∧s'.sp.used=s.sp.used∧(f=7∨f=8∨(g.1≠0∧f=g.1))
 dk: ∃s2,Ep P s2∧Le (nodeAt s) (nodeAt s2)∧s2.ck.d=s'.ck.d∧s2.ck.nm=s'.ck.nm∧s2.ops=s'.ops
 nm:s'.ck.nm=s.ck.nm
 left:Ap s≤Ap s'+120000
 ts:Gt s'
theorem LJ{P:Int→List UInt8→Prop}{s s':TS}{g:Int×List As}{f:Int}(c:Ep P s')(b:Le (nodeAt s) (nodeAt s'))(a:M8 s s')(hl:Ap s≤Ap s'+60000)(i:f≠0)(d:f=7∨f=8∨(g.1≠0∧f=g.1)):Zv P s g 0 f s':=
 ⟨fun e=>absurd e i,fun _=>⟨rfl,by rw[a.1],d⟩,⟨s',c,b,rfl,rfl,rfl⟩,a.2.nm,by omega,c.ts⟩
theorem Qo(P:Int→List UInt8→Prop)(h:Th)(s:TS)(root at_ n:Int)(l put:List As)(v:Value)(B F:Ac)(w:World)(G:Aq B v put)(hs:Sat (Ad h s*(B*F)) w)(hI:Ep P s)(V:s.ck.d.down=false)(K:Rt (nodeAt s) root l)(hj:BI l)
 (aa:l.length≤200) (ab:put.length≤40) (h0:0≤at_) (U:0≤n) (h1:at_+n≤Ab l) (hr:3000≤Bm s.sp) (hf:100000≤Ap s) (R:(D8 l at_ n put).length≤1024):
 Calls Tryz.prog 33 #[.pointer (some ⟨h.t,0,none⟩),.int .i64 root,.int .i64 at_,.int .i64 n,v] w fun e D=> ∃(r f:Int)(s':TS),e= .returned (Ki r f)∧Sat (Ad h s'*(B*F)) D∧Zv P s (Ld l at_ n put) r f s':=by
 have hL: ∀h:Nat,2*4^h≤l.length→h≤4:=Ve (by omega)
 unfold Ld
 by_cases hm:BD put=false
 ·rw[if_pos hm]
  refine (T7 h s root at_ n put v B F w G hs (by omega) hm).mono fun e D hx=>?_
  exact ⟨0,1,s,hx.1,hx.2,LJ hI (Le.KX _) (Dh.same s) (by omega) (by omega) (.inr (.inr ⟨by decide,rfl⟩))⟩
 rw[if_neg hm,if_neg (by omega)]
 have m:BD put=true:=by simpa using hm
 have hz:=Lv (YX (PK P) (s:=s) hI K) V (by omega) (by omega) (by omega)
 obtain ⟨X,hX⟩: ∃X,En Ah root s=X:=⟨_,rfl⟩
 have L:En (MI P).rd root s=X:=hX
 rw[L] at hz
 cases hz with
 | no u s1 O c a y =>
  have b:M8 s s1:=Af.fault (Mg Dh NR root) hX
  refine (RY h s root at_ n put v B F w G hs (by omega) m u s1 hX).mono fun e D hx=>?_
  exact ⟨0,u,s1,hx.1,hx.2,LJ c a b y (by omega) (O.elim .inl fun h=> .inr (.inl h))⟩
 | ok z s1 j c a W y =>
  subst W
  have j:=j (by omega)
  have b:M8 s s1:=Af.ok (Mg Dh NR root) hX
  by_cases k:1048576<Ab l-n+Ab put
  ·rw[if_pos k]
   refine (T5 h s root at_ n put v B F w G hs (by omega) m _ s1 hX (by omega) (by omega) (by omega) (by omega) k).mono fun e D hx=>?_
   exact ⟨0,10,s1,hx.1,hx.2,LJ c a b y (by omega) (.inr (.inr ⟨by decide,rfl⟩))⟩
  rw[if_neg k]
  by_cases p:n=0∧put= []
  ·rw[if_pos p]
   refine (RX h s root at_ n put v B F w G hs (by omega) m _ s1 hX (by omega) (by omega) (by omega) (by omega) k p.1 p.2).mono fun e D hx=>?_
   exact ⟨root,0,s1,hx.1,hx.2,fun _=>⟨rfl,j,c,K.le a,a⟩,fun e=>absurd rfl e,⟨s1,c,a,rfl,rfl,rfl⟩,b.2.nm,by omega,c.ts⟩
  rw[if_neg p,if_neg (by omega)]
  have I:=(D0 m).1
  have J:=Lv ((VE (PK P) c (K.le a) hj 4 (by omega) hL (at_:=at_) (n:=n) h0 U h1 I (by omega)).1 R) j (by rw[b.1];omega) (by omega) (by omega)
  obtain ⟨Y,H⟩: ∃Y,EB Ah Ag root at_ n (Ab l) put s1=Y:=⟨_,rfl⟩
  have M:EB (MI P).rd (MI P).wt root at_ n (Ab l) put s1=Y:=H
  rw[M] at J
  have o:=T4 h s root at_ n put v B F w G hs (by omega) m _ s1 hX (by omega) (by omega) (by omega) (by omega) k (fun e1 e2=>p ⟨e1,e2⟩) Y H
  cases J with
  | no u s2 O g i T =>
   have Q:Grow s1 s2:=Af.fault (Fh Bw DH F8 root at_ n (Ab l) put) H
   have x:Fc s1 s2:=Af.fault (Fh Bx LL Kg root at_ n (Ab l) put) H
   obtain ⟨f1,Z,f3⟩:=K2 (D3 s2.sp s1.sp.taken.length).1 s2.ck
   refine (o (by simp)).mono fun e D hx=>?_
   have ea:after s1.sp.taken.length (DR.fault u s2:DR TS Int)= .fault u (s2.Ds s1.sp.taken.length):=by
    show DR.fault u (if u=0 then s2 else s2.Ds s1.sp.taken.length)=_
    rw[if_neg (by omega)]
   rw[ea] at hx
   refine ⟨0,u,_,hx.1,hx.2,fun e=>by omega,fun _=>⟨rfl,?_,O.elim .inl fun h=> .inr (.inl h)⟩,⟨s2,g,a.trans i,f1.symm,Z.symm,rfl⟩,?_,?_,g.ts.Ds _⟩
   · rw[Si Q g.nd,b.1]
   · exact (show (s2.Ds s1.sp.taken.length).ck.nm=s2.ck.nm from Z).trans ((show BJ s1.ck s2.ck from x).nm.trans b.2.nm)
   have:Ap (s2.Ds s1.sp.taken.length)=Ap s2:=rfl
   omega
  | ok r s2 q g i hq T =>
   have q:=q (by rw[b.1];omega)
   have x:Fc s1 s2:=Af.ok (Fh Bx LL Kg root at_ n (Ab l) put) H
   refine (o (by simp)).mono fun e D hx=>?_
   exact ⟨r,0,s2,hx.1,hx.2,fun _=>⟨rfl,q,g,hq,a.trans i⟩,fun e=>absurd rfl e,⟨s2,g,a.trans i,rfl,rfl,rfl⟩,(show BJ s1.ck s2.ck from x).nm.trans b.2.nm,by omega,g.ts⟩
