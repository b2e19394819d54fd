/- treeShape holds for every input. No condition. (part 49) -/
import Derived.Test.YtfhbmblbidcmmaaGreatSk48
set_option linter.all false
set_option maxRecDepth 1000000
set_option maxHeartbeats 6400000
namespace Go.Proofs.YtfhbmblbidcmmaaGreat
open Go.RowKit Go.Sl Go.Dk Go.Tr
theorem Um{l put:List Au}{at_ n:Int}(h:(D0 l at_ n put).1≠0):(D0 l at_ n put).2= []:=by
 unfold D0 at h⊢
 split
 ·rfl
 rename_i h1
 rw[if_neg h1] at h
 split
 ·rfl
 rename_i b
 rw[if_neg b] at h
 split
 ·rfl
 rename_i c
 rw[if_neg c] at h
 split
 ·rename_i a
  rw[if_pos a] at h
  exact absurd rfl h
 rename_i a
 rw[if_neg a] at h
 split
 ·rfl
 rename_i d
 rw[if_neg d] at h
 exact absurd rfl h
theorem Yg(A B C:Ac):A*(B*C)=A*B*C:=by ac_rfl
variable [EZ]
theorem Sy(h : Th)(s : TS)(Q b : Nat)(a1 : Option Addr)(c1 : Nat)(a2 : Option Addr)(c2 : Nat)(ms : List (Int × List Au))(vs : List Value)(G : Ac)(k f at_ n : Int)(put : List Au)(v : Value)(Bp F : Ac)(w : World)
 (hk:k=3) (hP:CQ s ms vs G) (bv:0<ms.length) (bw:ms.length≤64) (hI:Fs true s) (hf:10000≤AL s) (d4:10000≤Cn s.sp) (hE:An Bp v put) (b5:put.length≤60)
 (hs:Sat (Ae h s*(G*(EV Q a1 c1 a2 c2 ms.length (D4 ms) vs*(D9 b h*(Bp*F))))) w):
 Calls Tryz.prog 48 #[.pointer (some ⟨Q,0,none⟩),.pointer (some ⟨b,0,none⟩),.agg #[.int .i64 k,.int .i64 f,.int .i64 at_,.int .i64 n,v]] w (Ep h s Q b ms.length Bp F):=by
 obtain ⟨nm,ag⟩:=Aq ms.length
 have am:Aside (ms.length=nm):=ag
 obtain ⟨j,hj,b3⟩: ∃j:Nat,f%(ms.length:Int)=(j:Int)∧j<ms.length:=⟨(f%(ms.length:Int)).toNat,by have:=Int.emod_nonneg f (show (ms.length:Int)≠0 by omega);omega,by have:=Int.emod_lt_of_pos f (show 0<(ms.length:Int) by omega);omega⟩
 obtain ⟨vj,r,l,hv,hr,X,aq,hg,-⟩:=hP.at b3
 obtain ⟨al,cl,rfl,bu,cz⟩:=X.v
 obtain ⟨U,aj⟩:=Aq (D4 ms)
 have bl:Aside (CQ s ms vs G):=hP
 have HL:Aside (An G (.slice al l.length cl) l∧Rt (nodeAt s) r l∧DB l):=⟨X,aq,hg⟩
 have bn:Aside (D4 ms=U):=aj
 have HE:Aside (An Bp v put∧put.length≤60):=⟨hE,b5⟩
 have ax:Aside (∀(F:Ac)(w:World),Sat (Bp*F) w→Calls Tryz.prog 113 #[v] w fun e d=> ∃g c,e= .returned (.slice (some ⟨g,0,none⟩) put.length c)∧Sat (Bs g c put*(Bp*F)) d):=fun F w h=>Jd put v Bp F w hE h (by omega)
 rw[aj,ag] at hs
 rw[aj] at hr
 rw[ag] at hj b3 bv bw⊢
 haveI:At U j (.int .i64 r):=⟨hr⟩
 haveI:At vs j (.slice al l.length cl):=⟨hv⟩
 have bt:=hg.1.2.2
 obtain ⟨nl,an⟩:=Aq l.length
 have HZ:Aside (l.length=nl):=an
 rw[an] at bu bt
 unfold EV D9 at hs
 have q0:Sat (Ae h s*(G*(Sl.block Q IF [.slice a1 nm c1,.slice a2 nm c2]*(rw B3 1 (.slice a1 nm c1) U*(rw DS 1 (.slice a2 nm c2) vs*(Sl.block b I8 [.pointer (some ⟨h.D,0,none⟩),.pointer (some ⟨h.C,0,none⟩),.pointer (some ⟨h.S,0,none⟩),.pointer (some ⟨h.t,0,none⟩)]*(Bp*F))))))) w:=hs.eq (by ac_rfl)
 have cn:(j:Int)<nm:=by omega
 have cy:(0:Int)≤j:=by omega
 obtain ⟨V,rfl⟩:=BN (hs:=q0.take (rw B3 1 (.slice a1 nm c1) U)) (by omega)
 obtain ⟨g2,rfl⟩:=BN (hs:=q0.take (rw DS 1 (.slice a2 nm c2) vs)) (by omega)
 have d2: ∀g w,(Sem.run Tryz.prog (Instr.indexAt 45 (Value.slice (some ⟨g,0,none⟩) nm c1) (Value.int IntKind.i64 j)) w)= .ok (.pointer (some ⟨g,j,none⟩)) w:=by
  intro g w
  simp[go_sem, *]
 have ak:Aside (∀(d:World)(s':TS)(Gn:Ac)(a3 a4 O:Option Addr)(c3 c4 c5:Nat)(a:Int)(out:List Au),LB s s' 3000 2600→An (Gn*G) (.slice O out.length c5) out→Rt (nodeAt s') a out→DB out→
  Sat (Ae h s'*(Gn*(G*(Sl.block Q IF [.slice a3 (nm+1) c3,.slice a4 (nm+1) c4]*(rw B3 1 (.slice a3 (nm+1) c3) (U++ [.int .i64 a])*(rw DS 1 (.slice a4 (nm+1) c4) (vs++ [.slice O out.length c5])*(Sl.block b I8 [.pointer (some ⟨h.D,0,none⟩),.pointer (some ⟨h.C,0,none⟩),.pointer (some ⟨h.S,0,none⟩),.pointer (some ⟨h.t,0,none⟩)]*(Bp*F)))))))) d→Ep h s Q b nm Bp F (.returned (.bool true)) d):=fun d s' Gn a3 a4 O c3 c4 c5 a out nx k1 k2 k3 q=>by
  refine ⟨s',a3,c3,a4,c4,ms++ [(a,out)],vs++ [.slice O out.length c5],Gn*G,rfl,?_,bl.out.more nx.le k1 k2 k3,?_,?_,nx⟩
  · have e1:(ms++ [(a,out)]).length=nm+1:=by rw[List.length_append,am.out];rfl
    have e2:D4 (ms++ [(a,out)])=U++ [.int .i64 a]:=by rw[←bn.out];simp[D4]
    rw[e1,e2]
    unfold EV D9
    exact q.eq (by ac_rfl)
  · rw[List.length_append,am.out];omega
  rw[List.length_append,am.out];exact Nat.le_refl _
 have b0: ∀h:Nat,2*4^h≤l.length→h≤4:=fun q hq=>by
  rcases Nat.lt_or_ge 4 q with h1|h1
  · have:4^5≤4^q:=Nat.pow_le_pow_right (by omega) h1
    omega
  exact h1
 have a9:=fun g c F w (h1:Sat (Ae h s*(Bs g c put*F)) w)=>Un h s r at_ n l put (.slice (some ⟨g,0,none⟩) put.length c) (Bs g c put) F w (Fe (h1.eq (L6 _ _ _))).1 h1 (by omega) hI aq hg.2 4 (by omega) b0 (by omega) (by omega)
 have ai:=fun F w (h1:Sat (G*(Bp*F)) w)=>Uc l put at_ n (.slice al l.length cl) v G (G*Bp) F w X (Al.left X) (Al.right hE) (h1.eq (Yg _ _ _)) hg (by omega)
 have H:=fun g c F w (h1:Sat (Bs g c put*(Bp*F)) w)=>SG put g c v Bp F w HE.out.1 h1 (by have:=HE.out.2;omega)
 have P:= @Um l put at_ n
 have B:= @RQ l put at_ n hg
 obtain ⟨⟨R,out⟩,b2⟩:=Aq (D0 l at_ n put)
 rw[b2] at a9 ai P B
 simp only at a9 P B
 have aw:Aside ((R≠0→out= [])∧(R=0→DB out)):=⟨P,B⟩
 obtain ⟨np,Y⟩:=Aq put.length
 have b4:put= []↔np=0:=by rw[←Y,List.length_eq_zero_iff]
 have bk:Aside (put= []↔np=0):=b4
 rw[Y] at a9 H ax b5
 rw[HZ.out] at ai
 have e1:(k==1)=false:=by simp[hk]
 have e2:(k==2)=false:=by simp[hk]
 have e3:(k==3)=true:=by simp[hk]
 clear hk P B b2 b0 b4 Y
 clear X aq hg hP hs aj ag hr hv hE an
 go_enter Tryz.func48,Tryz.ntmps48
 haveI:=q0.i
 go_wp2_with fail
 obtain ⟨N,hN⟩:=Aq w.heap.size
 have q1:Sat (Ae h s*(G*(Sl.block N Nu [.int .i64 k,.int .i64 f,.int .i64 at_,.int .i64 n,v]*(Sl.block Q IF [.slice (some ⟨V,0,none⟩) nm c1,.slice (some ⟨g2,0,none⟩) nm c2]*(rw B3 1 (.slice (some ⟨V,0,none⟩) nm c1) U*(rw DS 1 (.slice (some ⟨g2,0,none⟩) nm c2) vs*(Sl.block b I8 [.pointer (some ⟨h.D,0,none⟩),.pointer (some ⟨h.C,0,none⟩),.pointer (some ⟨h.S,0,none⟩),.pointer (some ⟨h.t,0,none⟩)]*(Bp*F)))))))) (w.alloc (.cells #[.int .i64 k,.int .i64 f,.int .i64 at_,.int .i64 n,v] Nu)):=by
  rw[←hN]
  show Sat (_*(_*(Sl.block w.heap.size Nu [.int .i64 k,.int .i64 f,.int .i64 at_,.int .i64 n,v]*_))) _
  exact Av (by ac_rfl)
 try rw[hN]
 generalize w.alloc (.cells #[.int .i64 k,.int .i64 f,.int .i64 at_,.int .i64 n,v] Nu)=w0 at q1⊢
 clear hN q0 this
 haveI:=q1.i
 go_region_held3 (fun d=>d.cell? ⟨N,1,none⟩=some (.int .i64 f)∧d.cell? ⟨Q,0,none⟩=some (.slice (some ⟨V,0,none⟩) nm c1)) (first|exact ⟨Ab _ _ _,Ab _ _ _⟩) (first|(go_at_call 21;refine (Hm f nm _ (by omega) (by omega)).mono ?_;rintro e w9 ⟨rfl,rfl⟩))
 go_wp2_with fail
 go_region
 go_wp2_with fail
 with_reducible refine Calls.mono (ax.out _ _ (Af Bp)) ?_
 rintro e w2 ⟨p,o,rfl,q2⟩
 haveI:=q2.i
 clear q1
 go_wp2_with fail
 go_cut [15,16] (fun cc ce wx=> ∃(a:Int)(s1:TS),cc= .int .i64 a∧ce= .int .i64 R∧Aside (LB s s1 200 2600∧(R=0→Rt (nodeAt s1) a out)∧(R≠0→a=0)∧(R=0→n=0→put= []→a=r))∧Sat (Ae h s1*(Bs p o put*(G*(Sl.block N Nu [.int .i64 k,.int .i64 f,.int .i64 at_,.int .i64 n,v]*(Sl.block Q IF [.slice (some ⟨V,0,none⟩) nm c1,.slice (some ⟨g2,0,none⟩) nm c2]*(rw B3 1 (.slice (some ⟨V,0,none⟩) nm c1) U*(rw DS 1 (.slice (some ⟨g2,0,none⟩) nm c2) vs*(Sl.block b I8 [.pointer (some ⟨h.D,0,none⟩),.pointer (some ⟨h.C,0,none⟩),.pointer (some ⟨h.S,0,none⟩),.pointer (some ⟨h.t,0,none⟩)]*(Bp*F))))))))) wx)
 case first=>as_aux_lemma=>
  go_region_held3 (fun d=>d.cell? ⟨N,2,none⟩=some (.int .i64 at_)∧d.cell? ⟨N,3,none⟩=some (.int .i64 n)∧d.cell? ⟨b,3,none⟩=some (.pointer (some ⟨h.t,0,none⟩))) (first|exact ⟨Ab _ _ _,Ab _ _ _,Ab _ _ _⟩) (first
   |(go_at_call 33;with_reducible refine Calls.mono (a9 p o _ _ (AP (Ae h s) (Bs p o put))) ?_;rintro e w3 ⟨a,s1,rfl,q3,c9,a0,ao,c6⟩;unfold KC;haveI:=q3.i))
  all_goals
   go_wp2_with fail
   go_meet
   exact ⟨a,s1,rfl,rfl,⟨c9.more (by omega) (by omega),a0,ao,c6⟩,PX _ _ _ _ _ _ _ _ _⟩
 obtain ⟨a,s1,rfl,rfl,HS,q3⟩:=hcut
 haveI:=q3.i
 clear q2 a9
 have af:Rt (nodeAt s1) a out∧DB out:=by
  obtain ⟨-,a0,ao,-⟩:=HS.out
  by_cases m:R=0
  · exact ⟨a0 m,aw.out.2 m⟩
  rw[aw.out.1 m,ao m]
  exact ⟨.inl ⟨rfl,rfl⟩,KU⟩
 have hz:=RI af.1
 obtain ⟨no,ah⟩:=Aq out.length
 have ar:a=0↔no=0:=by rw[hz,←ah,List.length_eq_zero_iff]
 have ac:Aside (Rt (nodeAt s1) a out∧DB out∧LB s s1 200 2600∧out.length=no):=⟨af.1,af.2,HS.out.1,ah⟩
 have c0:Aside (R≠0→a=0):=HS.out.2.2.1
 have a6:Aside (R=0→n=0→np=0→a=r):=fun x y z=>HS.out.2.2.2 x y (bk.out.2 z)
 rw[HZ.out]
 clear hz af
 go_wp2_with fail
 with_reducible refine Calls.mono (ai _ _ (AP G Bp)) ?_
 rintro e w4 bq
 obtain ⟨O,c5,Gn,rfl,b1,q4⟩:=bq
 have bm:Aside (An (Gn*G) (.slice O out.length c5) out):=b1
 simp only at q4⊢
 rw[ah]
 haveI:=q4.i
 clear q3 ai b1 ah
 have K:Aside (∀(d:World)(a3 a4:Option Addr)(c3 c4:Nat),Sat (Ae h s1*(Gn*(Bs p o put*(G*(Sl.block Q IF [.slice a3 (nm+1) c3,.slice a4 (nm+1) c4]*(rw B3 1 (.slice a3 (nm+1) c3) (U++ [.int .i64 a])*(rw DS 1 (.slice a4 (nm+1) c4) (vs++ [.slice O no c5])*(Sl.block b I8 [.pointer (some ⟨h.D,0,none⟩),.pointer (some ⟨h.C,0,none⟩),.pointer (some ⟨h.S,0,none⟩),.pointer (some ⟨h.t,0,none⟩)]*(Bp*F))))))))) d→Ep h s Q b nm Bp F (.returned (.bool true)) d):=fun d a3 a4 c3 c4 q=>by
  have hq:=ak.out d s1 Gn a3 a4 O c3 c4 c5 a out (ac.out.2.2.1.more (by omega) (by omega)) bm.out ac.out.1 ac.out.2.1
  rw[ac.out.2.2.2] at hq
  haveI:=q.i
  exact hq (SF _ _ _ _ _ _ _ _)
 obtain ⟨iR,ER⟩:=IP
 obtain ⟨iL,EL⟩:=UL
 clear ak
 go_upto_region 30 with (fail)
 go_cut [292] (fun b8 wx=>b8= .bool false∧Sat (Ae h s1*(Gn*(Bs p o put*(G*(Sl.block N Nu [.int .i64 k,.int .i64 f,.int .i64 at_,.int .i64 n,v]*(Sl.block Q IF [.slice (some ⟨V,0,none⟩) nm c1,.slice (some ⟨g2,0,none⟩) nm c2]*(rw B3 1 (.slice (some ⟨V,0,none⟩) nm c1) U*(rw DS 1 (.slice (some ⟨g2,0,none⟩) nm c2) vs*(Sl.block b I8 [.pointer (some ⟨h.D,0,none⟩),.pointer (some ⟨h.C,0,none⟩),.pointer (some ⟨h.S,0,none⟩),.pointer (some ⟨h.t,0,none⟩)]*(Bp*F)))))))))) wx)
 case first =>
  have d0:(0:Int)≤no:=by omega
  have d1:(0:Int)≤np:=by omega
  by_cases T:a=0
  · obtain rfl : no = 0 := ar.1 T
    by_cases m:R=0
    · subst m
      have Z:a=0:=T
      clear ar
      by_cases I:n=0
      · subst I
        by_cases L:np=0
        · have ap:a=r:=a6.out rfl rfl L
          subst L ap Z
          as_aux_lemma=>
           go_wp2_with fail
           with_reducible refine Calls.mono (H p o _ _ (AP (Bs p o put) Bp)) ?_
           rintro e w5 ⟨rfl,M⟩
           haveI:=M.i
           go_wp2_with fail
           go_meet
           exact ⟨rfl,Fc _ _ _ _ _ _ _ _ _ _ _⟩
        have bz:((np:Int)==0)=false:=by simp[L]
        subst Z
        as_aux_lemma=>
         go_wp2_with fail
         with_reducible refine Calls.mono (H p o _ _ (AP (Bs p o put) Bp)) ?_
         rintro e w5 ⟨rfl,M⟩
         haveI:=M.i
         go_wp2_with fail
         go_meet
         exact ⟨rfl,Fc _ _ _ _ _ _ _ _ _ _ _⟩
      have bx:(n==0)=false:=by simp[I]
      subst Z
      as_aux_lemma=>
       go_wp2_with fail
       with_reducible refine Calls.mono (H p o _ _ (AP (Bs p o put) Bp)) ?_
       rintro e w5 ⟨rfl,M⟩
       haveI:=M.i
       go_wp2_with fail
       go_meet
       exact ⟨rfl,Fc _ _ _ _ _ _ _ _ _ _ _⟩
    have ck:(R !=0)=true:=by simp[m]
    have cm:(R==0)=false:=by simp[m]
    subst T
    as_aux_lemma=>
     go_wp2_with fail
     with_reducible refine Calls.mono (H p o _ _ (AP (Bs p o put) Bp)) ?_
     rintro e w5 ⟨rfl,M⟩
     haveI:=M.i
     go_wp2_with fail
     go_meet
     exact ⟨rfl,Fc _ _ _ _ _ _ _ _ _ _ _⟩
  have m:R=0:=Classical.not_not.1 fun hq=>T (c0.out hq)
  subst m
  have co:((no:Int)==0)=false:=by
   have:=mt ar.2 T
   simp
   omega
  have d3:(a==0)=false:=by simp[T]
  by_cases I:n=0
  · subst I
    by_cases L:np=0
    · have ap:a=r:=a6.out rfl rfl L
      subst L ap
      as_aux_lemma=>
       go_wp2_with fail
       with_reducible refine Calls.mono (H p o _ _ (AP (Bs p o put) Bp)) ?_
       rintro e w5 ⟨rfl,M⟩
       haveI:=M.i
       go_wp2_with fail
       go_meet
       exact ⟨rfl,Fc _ _ _ _ _ _ _ _ _ _ _⟩
    have bz:((np:Int)==0)=false:=by simp[L]
    as_aux_lemma=>
     go_wp2_with fail
     with_reducible refine Calls.mono (H p o _ _ (AP (Bs p o put) Bp)) ?_
     rintro e w5 ⟨rfl,M⟩
     haveI:=M.i
     go_wp2_with fail
     go_meet
     exact ⟨rfl,Fc _ _ _ _ _ _ _ _ _ _ _⟩
  have bx:(n==0)=false:=by simp[I]
  as_aux_lemma=>
   go_wp2_with fail
   with_reducible refine Calls.mono (H p o _ _ (AP (Bs p o put) Bp)) ?_
   rintro e w5 ⟨rfl,M⟩
   haveI:=M.i
   go_wp2_with fail
   go_meet
   exact ⟨rfl,Fc _ _ _ _ _ _ _ _ _ _ _⟩
 case rest => as_aux_lemma =>
  obtain ⟨rfl,M⟩:=hcut
  clear q4
  haveI:=M.i
  go_upto_region 32 with (fail)
  refine Dr.E9 (fun d=>d.cell? ⟨Q,0,none⟩=some (.slice (some ⟨V,0,none⟩) nm c1)∧d.cell? ⟨Q,1,none⟩=some (.slice (some ⟨g2,0,none⟩) nm c2)) [16,17,18,19,20,21] (by kernel_rfl) ⟨Ab _ _ _,Ab _ _ _⟩ (fun W=>?_)
  refine Dr.Ar 0 (v:=?v0) (by simp only[List.getElem?_toArray,List.getElem?_cons_succ,List.getElem?_cons_zero];rfl) (by kernel_rfl) ?hQ0 (.inl ⟨?hw0,fun d=>?hy0⟩) ?_
  case hy0=>go_simp;try (with_reducible rfl)
  case hQ0=>exact fun _ _ _ h=>h
  case hw0=>rfl
  simp only[Act.put,List.setIfInBounds_toArray,List.set_cons_zero,List.set_cons_succ]
  refine Dr.Ar 1 (v:=?v1) (by simp only[List.getElem?_toArray,List.getElem?_cons_succ,List.getElem?_cons_zero];rfl) (by kernel_rfl) ?hQ1 (.inl ⟨?hw1,fun d=>?hy1⟩) ?_
  case hy1=>go_simp;try (with_reducible rfl)
  case hQ1=>exact fun _ _ _ h=>h
  case hw1=>rfl
  simp only[Act.put,List.setIfInBounds_toArray,List.set_cons_zero,List.set_cons_succ]
  refine Dr.Ar 2 (v:=?v2) (by simp only[List.getElem?_toArray,List.getElem?_cons_succ,List.getElem?_cons_zero];rfl) (by kernel_rfl) ?hQ2 (.inl ⟨?hw2,fun d=>?hy2⟩) ?_
  case hy2=>go_simp;try (with_reducible rfl)
  case hQ2=>exact fun _ _ _ h=>h
  case hw2=>rfl
  simp only[Act.put,List.setIfInBounds_toArray,List.set_cons_zero,List.set_cons_succ]
  refine Dr.Ar 3 (v:=?v3) (by simp only[List.getElem?_toArray,List.getElem?_cons_succ,List.getElem?_cons_zero];rfl) (by kernel_rfl) ?hQ3 (.inl ⟨?hw3,fun d=>?hy3⟩) ?_
  case hy3=>go_simp;try (with_reducible rfl)
  case hQ3=>exact fun _ _ _ h=>h
  case hw3=>rfl
  simp only[Act.put,List.setIfInBounds_toArray,List.set_cons_zero,List.set_cons_succ]
  refine Dr.Ar 4 (v:=?v4) (by simp only[List.getElem?_toArray,List.getElem?_cons_succ,List.getElem?_cons_zero];rfl) (by kernel_rfl) ?hQ4 (.inl ⟨?hw4,fun d=>?hy4⟩) ?_
  case hy4=>go_simp;try (with_reducible rfl)
  case hQ4=>exact fun _ _ _ h=>h
  case hw4=>rfl
  simp only[Act.put,List.setIfInBounds_toArray,List.set_cons_zero,List.set_cons_succ]
  refine Dr.CZ 5 (v:=?v5) (by simp only[List.getElem?_toArray,List.getElem?_cons_succ,List.getElem?_cons_zero];rfl) (by kernel_rfl) ?hQ5 (.inl ⟨?hw5,fun d hw=>?hy5⟩) W ?_
  case hy5=>(try dsimp only at hw);go_simp;try (with_reducible rfl)
  case hQ5=>exact fun _ _ _ h=>h
  case hw5=>rfl
  simp only[Act.put,List.setIfInBounds_toArray,List.set_cons_zero,List.set_cons_succ]
  refine Dr.Ar 6 (v:=?v6) (by simp only[List.getElem?_toArray,List.getElem?_cons_succ,List.getElem?_cons_zero];rfl) (by kernel_rfl) ?hQ6 (.inl ⟨?hw6,fun d=>?hy6⟩) ?_
  case hy6=>go_simp;try (with_reducible rfl)
  case hQ6=>exact fun _ _ _ h=>h
  case hw6=>rfl
  simp only[Act.put,List.setIfInBounds_toArray,List.set_cons_zero,List.set_cons_succ]
  refine Dr.Ar 9 (v:=?v9) (by simp only[List.getElem?_toArray,List.getElem?_cons_succ,List.getElem?_cons_zero];rfl) (by kernel_rfl) ?hQ9 (.inl ⟨?hw9,fun d=>?hy9⟩) ?_
  case hy9=>go_simp;try (with_reducible rfl)
  case hQ9=>exact fun _ _ _ h=>h
  case hw9=>rfl
  simp only[Act.put,List.setIfInBounds_toArray,List.set_cons_zero,List.set_cons_succ]
  refine Dr.Ar 10 (v:=?v10) (by simp only[List.getElem?_toArray,List.getElem?_cons_succ,List.getElem?_cons_zero];rfl) (by kernel_rfl) ?hQ10 (.inl ⟨?hw10,fun d=>?hy10⟩) ?_
  case hy10=>go_simp;try (with_reducible rfl)
  case hQ10=>exact fun _ _ _ h=>h
  case hw10=>rfl
  simp only[Act.put,List.setIfInBounds_toArray,List.set_cons_zero,List.set_cons_succ]
  refine Dr.Ar 11 (v:=?v11) (by simp only[List.getElem?_toArray,List.getElem?_cons_succ,List.getElem?_cons_zero];rfl) (by kernel_rfl) ?hQ11 (.inl ⟨?hw11,fun d=>?hy11⟩) ?_
  case hy11=>go_simp;try (with_reducible rfl)
  case hQ11=>exact fun _ _ _ h=>h
  case hw11=>rfl
  simp only[Act.put,List.setIfInBounds_toArray,List.set_cons_zero,List.set_cons_succ]
  refine Dr.CZ 12 (v:=?v12) (by simp only[List.getElem?_toArray,List.getElem?_cons_succ,List.getElem?_cons_zero];rfl) (by kernel_rfl) ?hQ12 (.inl ⟨?hw12,fun d hw=>?hy12⟩) W ?_
  case hy12=>(try dsimp only at hw);go_simp;try (with_reducible rfl)
  case hQ12=>exact fun _ _ _ h=>h
  case hw12=>rfl
  simp only[Act.put,List.setIfInBounds_toArray,List.set_cons_zero,List.set_cons_succ]
  refine Dr.Ar 13 (v:=?v13) (by simp only[List.getElem?_toArray,List.getElem?_cons_succ,List.getElem?_cons_zero];rfl) (by kernel_rfl) ?hQ13 (.inl ⟨?hw13,fun d=>?hy13⟩) ?_
  case hy13=>go_simp;try (with_reducible rfl)
  case hQ13=>exact fun _ _ _ h=>h
  case hw13=>rfl
  simp only[Act.put,List.setIfInBounds_toArray,List.set_cons_zero,List.set_cons_succ]
  refine Dr.JR 7 14 (by simp only[List.getElem?_toArray,List.getElem?_cons_succ,List.getElem?_cons_zero];rfl) (by simp only[List.getElem?_toArray,List.getElem?_cons_succ,List.getElem?_cons_zero];rfl) (by kernel_rfl) ?_ ?_
  · go_wp2_with (fail)
    refine Dr.AB ⟨⟨Ab _ _ _,Ab _ _ _⟩,?_⟩
    refine Dr.JR 8 14 (by simp only[List.getElem?_toArray,List.getElem?_cons_succ,List.getElem?_cons_zero];rfl) (by simp only[List.getElem?_toArray,List.getElem?_cons_succ,List.getElem?_cons_zero];rfl) (by kernel_rfl) ?_ ?_
    · go_wp2_with (at_builtin;refine Ad ER rfl (.tmp 298) (.tmp 300) rfl rfl rfl (Af (rw B3 1 (.slice (some ⟨V,0,none⟩) nm c1) U)) (Src.new (e:=B3) (s:=1) (vs:= [.int .i64 a]) (Af (Sl.block _ B3 [.int .i64 a])) rfl (by intro u J;simp at J;rcases J with rfl;rfl)) (by unfold maxLen;omega) (by omega) ?_;intro a7 c7 w7 q7 z7;clear z7;haveI:=q7.i)
      refine Dr.AB ⟨⟨Ab _ _ _,Ab _ _ _⟩,?_⟩
      refine Dr.AQ 14 (by simp only[List.getElem?_toArray,List.getElem?_cons_succ,List.getElem?_cons_zero];rfl) (by kernel_rfl) ?_
      go_wp2_with (fail)
      refine Dr.AB ⟨⟨Ab _ _ _,Ab _ _ _⟩,?_⟩
      refine Dr.AQ 15 (by simp only[List.getElem?_toArray,List.getElem?_cons_succ,List.getElem?_cons_zero];rfl) (by kernel_rfl) ?_
      go_wp2_with (at_builtin;refine Ad EL rfl (.tmp 305) (.tmp 307) rfl rfl rfl (Af (rw DS 1 (.slice (some ⟨g2,0,none⟩) nm c2) vs)) (Src.new (e:=DS) (s:=1) (vs:= [.slice O no c5]) (Af (Sl.block _ DS [.slice O no c5])) rfl (by intro u J;simp at J;rcases J with rfl;rfl)) (by unfold maxLen;omega) (by omega) ?_;intro a8 c8 w8 q8 z8;clear z8;haveI:=q8.i)
      refine Dr.AB ⟨⟨Ab _ _ _,Ab _ _ _⟩,?_⟩
      refine Dr.CY [16,17,18,19,20,21] (os:= [_,_,_,_,_,_]) (by decide) (by simp only[List.map_cons,List.map_nil,List.getElem?_toArray,List.getElem?_cons_succ,List.getElem?_cons_zero];rfl) (by kernel_rfl) ?_
      go_wp2
      go_ret
      exact K.out _ a7 a8 c7 c8 (Ie _ _ _ _ _ _ _ _ _ _)
    go_wp2_with (fail)
    refine Dr.AB ⟨⟨Ab _ _ _,Ab _ _ _⟩,?_⟩
    refine Dr.AQ 8 (by simp only[List.getElem?_toArray,List.getElem?_cons_succ,List.getElem?_cons_zero];rfl) (by kernel_rfl) ?_
    go_wp2_with (at_builtin;refine Ad ER rfl (.tmp 298) (.tmp 300) rfl rfl rfl (Af (rw B3 1 (.slice (some ⟨V,0,none⟩) nm c1) U)) (Src.new (e:=B3) (s:=1) (vs:= [.int .i64 a]) (Af (Sl.block _ B3 [.int .i64 a])) rfl (by intro u J;simp at J;rcases J with rfl;rfl)) (by unfold maxLen;omega) (by omega) ?_;intro a7 c7 w7 q7 z7;clear z7;haveI:=q7.i)
    refine Dr.AB ⟨⟨Ab _ _ _,Ab _ _ _⟩,?_⟩
    refine Dr.AQ 15 (by simp only[List.getElem?_toArray,List.getElem?_cons_succ,List.getElem?_cons_zero];rfl) (by kernel_rfl) ?_
    go_wp2_with (at_builtin;refine Ad EL rfl (.tmp 305) (.tmp 307) rfl rfl rfl (Af (rw DS 1 (.slice (some ⟨g2,0,none⟩) nm c2) vs)) (Src.new (e:=DS) (s:=1) (vs:= [.slice O no c5]) (Af (Sl.block _ DS [.slice O no c5])) rfl (by intro u J;simp at J;rcases J with rfl;rfl)) (by unfold maxLen;omega) (by omega) ?_;intro a8 c8 w8 q8 z8;clear z8;haveI:=q8.i)
    refine Dr.AB ⟨⟨Ab _ _ _,Ab _ _ _⟩,?_⟩
    refine Dr.CY [16,17,18,19,20,21] (os:= [_,_,_,_,_,_]) (by decide) (by simp only[List.map_cons,List.map_nil,List.getElem?_toArray,List.getElem?_cons_succ,List.getElem?_cons_zero];rfl) (by kernel_rfl) ?_
    go_wp2
    go_ret
    exact K.out _ a7 a8 c7 c8 (Ie _ _ _ _ _ _ _ _ _ _)
  go_wp2_with (fail)
  refine Dr.AB ⟨⟨Ab _ _ _,Ab _ _ _⟩,?_⟩
  refine Dr.AQ 7 (by simp only[List.getElem?_toArray,List.getElem?_cons_succ,List.getElem?_cons_zero];rfl) (by kernel_rfl) ?_
  go_wp2_with (fail)
  refine Dr.AB ⟨⟨Ab _ _ _,Ab _ _ _⟩,?_⟩
  refine Dr.AQ 8 (by simp only[List.getElem?_toArray,List.getElem?_cons_succ,List.getElem?_cons_zero];rfl) (by kernel_rfl) ?_
  go_wp2_with (at_builtin;refine Ad ER rfl (.tmp 298) (.tmp 300) rfl rfl rfl (Af (rw B3 1 (.slice (some ⟨V,0,none⟩) nm c1) U)) (Src.new (e:=B3) (s:=1) (vs:= [.int .i64 a]) (Af (Sl.block _ B3 [.int .i64 a])) rfl (by intro u J;simp at J;rcases J with rfl;rfl)) (by unfold maxLen;omega) (by omega) ?_;intro a7 c7 w7 q7 z7;clear z7;haveI:=q7.i)
  refine Dr.AB ⟨⟨Ab _ _ _,Ab _ _ _⟩,?_⟩
  refine Dr.AQ 15 (by simp only[List.getElem?_toArray,List.getElem?_cons_succ,List.getElem?_cons_zero];rfl) (by kernel_rfl) ?_
  go_wp2_with (at_builtin;refine Ad EL rfl (.tmp 305) (.tmp 307) rfl rfl rfl (Af (rw DS 1 (.slice (some ⟨g2,0,none⟩) nm c2) vs)) (Src.new (e:=DS) (s:=1) (vs:= [.slice O no c5]) (Af (Sl.block _ DS [.slice O no c5])) rfl (by intro u J;simp at J;rcases J with rfl;rfl)) (by unfold maxLen;omega) (by omega) ?_;intro a8 c8 w8 q8 z8;clear z8;haveI:=q8.i)
  refine Dr.AB ⟨⟨Ab _ _ _,Ab _ _ _⟩,?_⟩
  refine Dr.CY [16,17,18,19,20,21] (os:= [_,_,_,_,_,_]) (by decide) (by simp only[List.map_cons,List.map_nil,List.getElem?_toArray,List.getElem?_cons_succ,List.getElem?_cons_zero];rfl) (by kernel_rfl) ?_
  go_wp2
  go_ret
  exact K.out _ a7 a8 c7 c8 (Ie _ _ _ _ _ _ _ _ _ _)
end Go.Proofs.YtfhbmblbidcmmaaGreat
namespace Go.Proofs.YtfhbmblbidcmmaaGreat
open Go.RowKit Go.Sl Go.Dk Go.Tr
def aI{α:Type} :EX TS α→Option α
 | .ok a _=>some a
 |_=>none
def fV:M TS (Int×Int×Int×List Au):=M.bind (Eg [⟨0,0,10,-1⟩]) fun r=>M.bind (Ec Ai r) fun n=>M.bind (GB Ai Ak r 3 2 n [⟨1,0,1,1⟩]) fun q=>M.bind (QE Ai q) fun l=>M.pure (r,n,q,l)
theorem gQ:(match aI (fV (Nl 1048576 8)) with|some (r,n,q,l)=>decide (r=1∧n=10)&&(l.map fun e=>(e.src,e.pos,e.len,e.lines))== [(0,0,3,-1),(1,0,1,1),(0,5,5,-1)]|none=>false)=true:=by kernel_rfl
theorem JK{α β:Type}{m:M TS α}{f:α→M TS β}{s:TS}{x:β}(h:aI (M.bind m f s)=some x): ∃a s1,m s= .ok a s1∧aI (f a s1)=some x:=by
 unfold M.bind EX.bind at h
 cases hm:m s with
 |ok a s1=>rw[hm] at h;exact ⟨a,s1,rfl,h⟩
 |fault e s1=>rw[hm] at h;cases h
 |bad=>rw[hm] at h;cases h
theorem YG: ∃(s1 s2 s3 s4:TS)(q:Int),Eg [⟨0,0,10,-1⟩] (Nl 1048576 8)= .ok 1 s1∧Ec Ai 1 s1= .ok 10 s2∧GB Ai Ak 1 3 2 10 [⟨1,0,1,1⟩] s2= .ok q s3∧QE Ai q s3= .ok [⟨0,0,3,-1⟩,⟨1,0,1,1⟩,⟨0,5,5,-1⟩] s4:=by
 have h:=gQ
 cases f:aI (fV (Nl 1048576 8)) with
 |none=>rw[f] at h;cases h
 | some x =>
  obtain ⟨r,n,q,l⟩:=x
  rw[f] at h
  simp only[Bool.and_eq_true,decide_eq_true_eq] at h
  obtain ⟨⟨rfl,rfl⟩,m⟩:=h
  have o:=eq_of_beq m
  have hl:l= [⟨0,0,3,-1⟩,⟨1,0,1,1⟩,⟨0,5,5,-1⟩]:=by
   have e:(l.map fun e:Au=>(e.src,e.pos,e.len,e.lines)).map (fun t:Int×Int×Int×Int=>(⟨t.1,t.2.1,t.2.2.1,t.2.2.2⟩:Au))=l:=by
    rw[List.map_map]
    exact List.map_id'' (fun _=>rfl) l
   rw[o] at e
   exact e.symm
  unfold fV at f
  obtain ⟨a,s1,i,f⟩:=JK f
  obtain ⟨b,s2,j,f⟩:=JK f
  obtain ⟨c,s3,k,f⟩:=JK f
  obtain ⟨d,s4,g,f⟩:=JK f
  cases f
  rw[hl] at g
  exact ⟨s1,s2,s3,s4,_,i,j,k,g⟩
theorem Xe(F:Ac)(w:World)(hs:Sat F w):Calls Tryz.prog 12 #[] w fun e k=>e= .returned (.bool true)∧Sat F k:=by
 haveI:EZ:=⟨1048576,Nat.le_refl _⟩
 obtain ⟨s1,s2,s3,s4,qr,u,T,U,z⟩:=YG
 obtain ⟨L,t1,V,h1⟩:=Ay U
 obtain ⟨R,t2,W,h1⟩:=Ay h1
 obtain ⟨whole,t3,X,h1⟩:=Ay h1
 obtain ⟨r1,t4,Y,h1⟩:=Ay h1
 obtain ⟨r0,t5,Z,h1⟩:=Ay h1
 have j: ¬1024<whole.DT.A4-r1+r0+((join (L.1++ [⟨1,0,1,1⟩]++R.1)).length:Int):=fun H=>by rw[if_pos H] at h1;cases h1
 rw[if_neg j] at h1
 obtain ⟨p,t6,g6,h1⟩:=Ay h1
 obtain ⟨q,t7,g7,h1⟩:=Ay h1
 obtain ⟨m,t8,g8,h1⟩:=Ay h1
 obtain ⟨x,t9,g9,h1⟩:=Ay h1
 obtain ⟨y,ab,l,h1⟩:=Ay h1
 cases h1
 have G:=fun B F w n q=>PA ⟨0,0,0,0⟩ (Nl 1048576 8) [⟨0,0,10,-1⟩] (.slice none 0 0) B F w n q
 have M:Aside (∀(h:Th)(v:Value)(B F:Ac)(w:World),An B v [⟨0,0,10,-1⟩]→Sat (Ae h (Nl 1048576 8)*(B*F)) w→
  Calls Tryz.prog 23 #[.pointer (some ⟨h.t,0,none⟩),v] w fun e k=>e= .returned (.tuple #[.int .i64 1,.int .i64 0])∧Sat (Ae h s1*(B*F)) k):=fun h v B F w n q=>by
  have:=PA h (Nl 1048576 8) [⟨0,0,10,-1⟩] v B F w n q (by simp) (by rw[u];simp)
  rw[u] at this
  exact this
 have P:Aside (∀(h:Th)(v:Value)(B F:Ac)(w:World),An B v [⟨1,0,1,1⟩]→Sat (Ae h s1*(B*F)) w→
  Calls Tryz.prog 33 #[.pointer (some ⟨h.t,0,none⟩),.int .i64 1,.int .i64 3,.int .i64 2,v] w fun e k=>e= .returned (.tuple #[.int .i64 y.DT.As,.int .i64 0])∧Sat (Ae h s3*(B*F)) k):=fun h v B F w n hq=>
  J1 h s1 1 3 2 [⟨1,0,1,1⟩] v B F w n hq (by simp) (by decide) 10 s2 T (by omega) (by omega) (by omega) (by omega) (by simp[Aa]) (by omega) L R whole r1 r0 t1 t2 t3 t4 t5 ⟨V,W,X,Y,Z⟩ (.ok y.DT.As s3) (fun H=>absurd H j) (fun _=>⟨p,q,m,x,y,t6,t7,t8,t9,s3,⟨g6,g7,g8,g9,l⟩,rfl⟩)
 have O:Aside (∀(h:Th)(F:Ac)(w:World),Sat (Ae h s3*F) w→
  Calls Tryz.prog 44 #[.pointer (some ⟨h.t,0,none⟩),.int .i64 y.DT.As] w fun e k=> ∃(a:Option Addr)(c:Nat),e= .returned (.tuple #[.slice a 3 c,.int .i64 0])∧Sat (rw AM 4 (.slice a 3 c) [.int .i64 0,.int .i64 0,.int .i64 3,.int .i64 (-1),.int .i64 1,.int .i64 0,.int .i64 1,.int .i64 1,.int .i64 0,.int .i64 5,.int .i64 5,.int .i64 (-1)]*(Ae h s4*F)) k):=fun h F w hq=>by
  have:=X8 h s3 y.DT.As F w hq (by rw[z];simp)
  rw[z] at this
  exact this
 obtain ⟨pg,o⟩:=Aq y.DT.As
 rw[o] at P O
 clear o V W X Y Z g6 g7 g8 g9 l j u T U z G
 go_enter Tryz.func12,Tryz.ntmps12
 go_wp2_with fail
 with_reducible refine Calls.mono (WM 1048576 8 F w hs (by omega) (by omega) (by omega) (by omega)) ?_
 rintro e J ⟨b,h,rfl,I⟩
 obtain ⟨s0,r⟩:=Aq (Nl 1048576 8)
 rw[r] at I M
 haveI:=I.i
 obtain ⟨s,d⟩:=Aq J.heap.size
 clear r
 go_wp2_with fail
 try rw[d]
 have q2:Sat (Ae h s0*(Sl.block s AM (Cx ⟨0,0,10,-1⟩)*(Sl.block b I8 [.pointer (some ⟨h.D,0,none⟩),.pointer (some ⟨h.C,0,none⟩),.pointer (some ⟨h.S,0,none⟩),.pointer (some ⟨h.t,0,none⟩)]*F))) (J.alloc (.cells #[.int .i64 0,.int .i64 0,.int .i64 10,.int .i64 (-1)] AM)):=by
  rw[←d]
  show Sat (Ae h s0*(Sl.block J.heap.size AM [.int .i64 0,.int .i64 0,.int .i64 10,.int .i64 (-1)]*_)) _
  exact Av (by ac_rfl)
 with_reducible refine Calls.mono (M.out h _ _ _ _ (CV ⟨0,0,10,-1⟩ s) q2) ?_
 rintro e K ⟨rfl,q3⟩
 haveI:=q3.i
 obtain ⟨Q,f⟩:=Aq K.heap.size
 clear d I q2
 go_wp2_with fail
 try rw[f]
 have q4:Sat (Ae h s1*(Sl.block Q AM (Cx ⟨1,0,1,1⟩)*(Sl.block b I8 [.pointer (some ⟨h.D,0,none⟩),.pointer (some ⟨h.C,0,none⟩),.pointer (some ⟨h.S,0,none⟩),.pointer (some ⟨h.t,0,none⟩)]*F))) (K.alloc (.cells #[.int .i64 1,.int .i64 0,.int .i64 1,.int .i64 1] AM)):=by
  rw[←f]
  show Sat (Ae h s1*(Sl.block K.heap.size AM [.int .i64 1,.int .i64 0,.int .i64 1,.int .i64 1]*_)) _
  exact A6 (C:=Sl.block s AM (Cx ⟨0,0,10,-1⟩)) (by ac_rfl)
 with_reducible refine Calls.mono (P.out h _ _ _ _ (CV ⟨1,0,1,1⟩ Q) q4) ?_
 rintro e w3 ⟨rfl,q5⟩
 haveI:=q5.i
 clear f q3 q4
 go_wp2_with fail
 with_reducible refine Calls.mono (O.out h _ _ (Af (Ae h s3))) ?_
 rintro e w4 ⟨al,cl,rfl,q6⟩
 obtain ⟨g,rfl⟩:=BN q6 (by omega)
 haveI:=q6.i
 clear q5
 go_wp2
 go_ret
 exact ⟨rfl,Zm F⟩
variable [EZ]
theorem YT(h:Th)(s:TS)(g b:Nat)(i:Option Addr)(c1:Nat)(j:Option Addr)(c2:Nat)(ms:List (Int×List Au))(vs:List Value)(G:Ac)(k f at_ n:Int)(put:List Au)(v:Value)(Bp F:Ac)(w:World)
 (o:CQ s ms vs G) (a:0<ms.length) (c:ms.length≤64) (m:Fs true s) (p:10000≤AL s) (e:10000≤Cn s.sp) (l:An Bp v put) (d:put.length≤60)
 (hs:Sat (Ae h s*(G*(EV g i c1 j c2 ms.length (D4 ms) vs*(D9 b h*(Bp*F))))) w):
 Calls Tryz.prog 48 #[.pointer (some ⟨g,0,none⟩),.pointer (some ⟨b,0,none⟩),.agg #[.int .i64 k,.int .i64 f,.int .i64 at_,.int .i64 n,v]] w (Ep h s g b ms.length Bp F):=by
 by_cases h1:k=1
 ·exact Sw h s g b i c1 j c2 ms vs G k f at_ n put v Bp F w h1 o a c m p e l d hs
 by_cases q:k=2
 ·exact Sx h s g b i c1 j c2 ms vs G k f at_ n put v Bp F w q o a c m p e l d hs
 by_cases r:k=3
 ·exact Sy h s g b i c1 j c2 ms vs G k f at_ n put v Bp F w r o a c m p e l d hs
 exact YU h s g b i c1 j c2 ms vs G k f at_ n put v Bp F w h1 q r o a c m p l d hs
theorem Sj{e s n g:Nat}{l:List Value}{F:Ac}{w:World}(hl:l.length=n*s)(a:n≤1099511627776)(hs:Sat (Sl.block g e l*F) w):Sat (rw e s (.slice (some ⟨g,0,none⟩) n n) l*F) w:=
 Sat.DX (sp:= []) hl (by simpa using hl) (Nat.le_refl _) (by unfold maxLen;omega) (by simpa using hs)
theorem W'(r c:Int):AL (Nl r c)=67108850:=by
 show (B8-0)/2=67108850
 unfold B8
 rfl
theorem Sh{A R:Ac}{w a:World}[h:Bg A a][t:Take A (Kc w) R]:Below w.heap.size w a:=(h.out.take (Kc w)).Qs
structure Yz where
 k:Int
 f:Int
 pos:Int
 n:Int
 a:Option Addr
 c:Nat
 put:List Au
def PD(x:Yz):List Value:= [.int .i64 x.k,.int .i64 x.f,.int .i64 x.pos,.int .i64 x.n,.slice x.a x.put.length x.c]
theorem T3(s:TS)(g:Nat):CQ s [(0,[])] [.slice none 0 0] 1:=⟨rfl,fun i v p h1 a=>by
 match i with
 |0=>cases h1;cases a;exact ⟨Al.nil 4 _,.inl ⟨rfl,rfl⟩,KU⟩
 |i+1=>simp at h1⟩
end Go.Proofs.YtfhbmblbidcmmaaGreat
namespace Go.Tr
theorem UG{y x:Sn}{s:Int×Int×Int}{first:Bool}{k:Kd}(h:s.1≠k.bytes∨s.2.1≠k.lines∨s.2.2≠k.A4∨(first=false∧(y.h+1≠x.h∨meets x.last y.first=true))):FC y s first k x=none:=by
 unfold FC
 grind
theorem YI{y x:Sn}{s:Int×Int×Int}{first:Bool}{k:Kd}(h: ¬(s.1≠k.bytes∨s.2.1≠k.lines∨s.2.2≠k.A4∨(first=false∧(y.h+1≠x.h∨meets x.last y.first=true)))):(first=false→y.h+1=x.h)∧(1024<x.count+y.count→FC y s first k x=none)∧(¬1024<x.count+y.count→FC y s first k x=some ⟨y.h+1,x.count+y.count,if first then y.first else x.first,y.last⟩):=by
 simp only[not_or,Decidable.not_not,not_and] at h
 obtain ⟨h1,d,f,a⟩:=h
 have hs:s=(k.bytes,k.lines,k.A4):=by grind
 have b:first=false→y.h+1=x.h:=fun e=>(a e).1
 refine ⟨b,fun c=>?_,fun c=>?_⟩
 ·unfold FC
  simp_all
 unfold FC
 simp_all
end Go.Tr
namespace Go.Proofs.YtfhbmblbidcmmaaGreat
open Go.RowKit Go.Sl Go.Dk Go.Tr
open Go.QK (A8)
attribute [local go_sem] R6
theorem JO{A R:Ac}{w:World}{b e:Nat}{c0 c1 c2 c3 c4 c5 c6 c7 c8 c9:Value}{v0 v1 v2 v3 v4 v5 v6 v7 v8 v9:Value}[Bg A w][Take A (Sl.block b e [c0,c1,c2,c3,c4,c5,c6,c7,c8,c9]) R]:Sat (Sl.block b e [v0,v1,v2,v3,v4,v5,v6,v7,v8,v9]*R) ((((((((((w.setCell ⟨b,0,none⟩ v0).setCell ⟨b,1,none⟩ v1).setCell ⟨b,2,none⟩ v2).setCell ⟨b,3,none⟩ v3).setCell ⟨b,4,none⟩ v4).setCell ⟨b,5,none⟩ v5).setCell ⟨b,6,none⟩ v6).setCell ⟨b,7,none⟩ v7).setCell ⟨b,8,none⟩ v8).setCell ⟨b,9,none⟩ v9):=by
 have h0:Sat (Sl.block b e [c0,c1,c2,c3,c4,c5,c6,c7,c8,c9]*R) w:=Af (Sl.block b e [c0,c1,c2,c3,c4,c5,c6,c7,c8,c9])
 have h1:=h0.JQ b 0 v0
 have c:=h1.JQ b 1 v1
 have d:=c.JQ b 2 v2
 have f:=d.JQ b 3 v3
 have g:=f.JQ b 4 v4
 have i:=g.JQ b 5 v5
 have j:=i.JQ b 6 v6
 have k:=j.JQ b 7 v7
 have l:=k.JQ b 8 v8
 have a:=l.JQ b 9 v9
 simp_all
theorem X2(a b:Au):(join [a,b]).length=if meets a b then 1 else 2:=by cases h:meets a b<;>simp[join,A5,h]
theorem V0{b:Nat}(l:List Au)(hl:l.length≤1000):An (Sl.block b AM (Bb l)) (.slice (some ⟨b,0,none⟩) l.length l.length) l:=by
 refine ⟨Gq l,_,_,rfl,Nat.le_refl _,by omega,fun j u a=>⟨b,0,rfl,?_⟩⟩
 haveI:At (Bb l) j u:=⟨a⟩
 rw[Nat.zero_add]
 exact inferInstance
theorem Pu(x y:Au)(b b2:Nat)(F:Ac)(w:World)(hx:Ah x=true)(hy:Ah y=true)(hs:Sat (Sl.block b2 29 [.slice (some ⟨b,0,none⟩) 2 2]*(Sl.block b AM [.int .i64 x.src,.int .i64 x.pos,.int .i64 x.len,.int .i64 x.lines,.int .i64 y.src,.int .i64 y.pos,.int .i64 y.len,.int .i64 y.lines]*F)) w):
 Calls Tryz.prog 80 #[.slice (some ⟨b2,0,none⟩) 1 1] w fun e g=> ∃a c G,e= .returned (.slice a (if meets x y then 1 else 2) c)∧Sat (G*F) g:=by
 have h1:An (Sl.block b AM (Bb [x,y])) (.slice (some ⟨b,0,none⟩) 2 2) [x,y]:=V0 [x,y] (by simp)
 have k:=C9.1 hx
 have l:=C9.1 hy
 have d:=KW [[x,y]] _ _ F w (Jr b2 h1) (hs.eq (by rw[show Bb [x,y]= [.int .i64 x.src,.int .i64 x.pos,.int .i64 x.len,.int .i64 x.lines,.int .i64 y.src,.int .i64 y.pos,.int .i64 y.len,.int .i64 y.lines] from rfl];ac_rfl)) (by simp) (by simp) (by intro z f;simp at f;rcases f with rfl|rfl<;>assumption) (by simp[Aa];omega)
 rw[List.flatten_singleton,X2] at d
 exact d.mono fun e g ⟨a,c,i,j⟩=>⟨a,c,_,i,j.eq (Az _ _ _).symm⟩
theorem JH(h:Th)(s:TS)(a c b M:Nat)(K:List (Int×Sn))(F:Ac):Ae h s*(Ga a c b M h K*F)=Ae h s*(Sl.block a KE [.map (some M)]*(Sl.block c P8 [.pointer (some ⟨h.t,0,none⟩)]*(Sl.block b P7 [.func (Fn.func 128) #[] #[.pointer (some ⟨a,0,none⟩),.pointer (some ⟨c,0,none⟩),.pointer (some ⟨b,0,none⟩)]]*(mp A8 M (kn K)*F)))):=by
 unfold Ga
 ac_rfl
theorem Qe{A R R1 R2 d e:Ac}{w:World}[q:Bg A w](h:Th)(s:TS)(a c b M:Nat)(K:List (Int×Sn))[t:Take A (Ae h s) R][t1:Take R (Sl.block a KE [.map (some M)]) R1][t2:Take R1 (Sl.block c P8 [.pointer (some ⟨h.t,0,none⟩)]) R2][t3:Take R2 (Sl.block b P7 [.func (Fn.func 128) #[] #[.pointer (some ⟨a,0,none⟩),.pointer (some ⟨c,0,none⟩),.pointer (some ⟨b,0,none⟩)]]) d][t4:Take d (mp A8 M (kn K)) e]:Sat (Ae h s*(Ga a c b M h K*e)) w:=
 q.out.eq (by rw[t.out,t1.out,t2.out,t3.out,t4.out];unfold Ga;ac_rfl)
variable [EZ]
def bQ(f:Nat)(lf:Bool):Prop:= ∀(V:Int→Option Nd)(N:Nat)(h:Th)(s:TS)(m:Nat)(K:List (Int×Sn))(no:Int)(top:Bool)(a c b M:Nat)(F:Ac)(w:World),(∀n,V no=some n→n.leaf=lf)→f≤13→no≠0→JU V K→(∀p n,V p=some n→may n=true∧p<N)→GC V m s→13*fr N K+13*(f+1)≤m→
 Sat (Ae h s*(Ga a c b M h K*F)) w→Calls Tryz.prog 128 #[.int .i64 no,.bool top,.int .i64 (13-(f:Int)),.pointer (some ⟨a,0,none⟩),.pointer (some ⟨c,0,none⟩),.pointer (some ⟨b,0,none⟩)] w (KG V N h a c b M f m s K no top F)
structure fG (V:Int→Option Nd) (N f g:Nat) (n:Nd) (lf:Bool) (m1:Nat) (s:TS) (K:List (Int×Sn)) (x0:Sn) (gg lk j m3:Nat) (s3:TS) (K3:List (Int×Sn)) (x:Sn):Prop where
 dI:gg=lk-j
 i7:GC V m3 s3
 sp:s3.sp=s.sp
 d:s3.ck.d=s.ck.d
 kn:JU V K3
 fW:m1+13*fr N K3≤m3+j+13*fr N K
 run:lf=false→U9 V g n j x
 k0:j=0→K3=K
 Z5: ∀q∈K3,q∈K∨q.2.h+1≤x.h
 zero:j=0→x=x0
 gR:0≤x.count∧x.count≤1036
 Zh:0≤x.h∧x.h≤1036
 low:0<j→Ah x.last=true∧(K= []→x.h<f)
