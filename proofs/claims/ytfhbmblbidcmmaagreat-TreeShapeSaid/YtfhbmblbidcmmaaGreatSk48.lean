/- treeShape holds for every input. No condition. (part 48) -/
import Derived.Test.YtfhbmblbidcmmaaGreatSk46
import Derived.Test.YtfhbmblbidcmmaaGreatSk47
set_option linter.all false
set_option maxRecDepth 100000
set_option maxHeartbeats 6400000
namespace Go.Proofs.YtfhbmblbidcmmaaGreat
open Go.RowKit Go.Sl Go.Dk Go.Tr
theorem dV{b T:Nat}{a c v0 v1:Value}{F:Ac}{w:World}(hs:Sat (Sl.block b T [a,c]*F) w):Sat (Sl.block b T [v0,v1]*F) ((w.setCell ⟨b,0,none⟩ v0).setCell ⟨b,1,none⟩ v1):=by
 haveI:=hs.i
 exact Av (by rfl)
instance(priority:=28000) store2I {A R:Ac} {b T:Nat} {a0 a1 v0 v1:Value} {w:World} [h:Bg A w] [t:JY A b T [a0,a1] R]:
 Bg (Sl.block b T [v0,v1]*R) ((w.setCell ⟨b,0,none⟩ v0).setCell ⟨b,1,none⟩ v1):=⟨dV (h.out.eq t.out)⟩
theorem L6(A B C:Ac):A*(B*C)=B*(A*C):=by ac_rfl
theorem Ie{A R1 R2 f g i j k l m a:Ac}{w:World}[h:Bg A w](c d e n o p q r s b:Ac)[t1:Take A c R1][t2:Take R1 d R2][t3:Take R2 e f][t4:Take f n g][t5:Take g o i][t6:Take i p j][t7:Take j q k][t8:Take k r l][t9:Take l s m][t10:Take m b a]:Sat (c*(d*(e*(n*(o*(p*(q*(r*(s*b))))))))) w:=Sat.Dq (B:=a) ((h.out.IC c d e).eq (by rw[t4.out,t5.out,t6.out,t7.out,t8.out,t9.out,t10.out];ac_rfl))
theorem Fc{A R1 R2 i j k l m n o a b:Ac}{w:World}[h:Bg A w](e f g p q r s t u c d:Ac)[t1:Take A e R1][t2:Take R1 f R2][t3:Take R2 g i][t4:Take i p j][t5:Take j q k][t6:Take k r l][t7:Take l s m][t8:Take m t n][t9:Take n u o][t10:Take o c a][t11:Take a d b]:Sat (e*(f*(g*(p*(q*(r*(s*(t*(u*(c*d)))))))))) w:=Sat.Dq (B:=b) ((h.out.IC e f g).eq (by rw[t4.out,t5.out,t6.out,t7.out,t8.out,t9.out,t10.out,t11.out];ac_rfl))
theorem Nx{l:List Au}(h:(Ex l).1≠0):(Ex l).2= []:=by
 unfold Ex at h⊢
 by_cases hm:Bh l=false
 ·rw[if_pos hm]
 rw[if_neg hm] at h⊢
 by_cases a:1024<(join l).length
 ·rw[if_pos a]
 rw[if_neg a] at h;exact absurd rfl h
variable [EZ]
theorem Sw(h:Th)(s:TS)(K b:Nat)(a1:Option Addr)(c1:Nat)(a2:Option Addr)(c2:Nat)(ms:List (Int×List Au))(vs:List Value)(G:Ac)(k f at_ n:Int)(put:List Au)(v:Value)(Bp F:Ac)(w:World)
 (hk:k=1) (hP:CQ s ms vs G) (bk:0<ms.length) (bl:ms.length≤64) (hI:Fs true s) (hf:10000≤AL s) (cm:10000≤Cn s.sp) (hE:An Bp v put) (bm:put.length≤60)
 (hs:Sat (Ae h s*(G*(EV K a1 c1 a2 c2 ms.length (D4 ms) vs*(D9 b h*(Bp*F))))) w):
 Calls Tryz.prog 48 #[.pointer (some ⟨K,0,none⟩),.pointer (some ⟨b,0,none⟩),.agg #[.int .i64 k,.int .i64 f,.int .i64 at_,.int .i64 n,v]] w (Ep h s K b ms.length Bp F):=by
 obtain ⟨nm,Y⟩:=Aq ms.length
 have ab:Aside (ms.length=nm):=Y
 obtain ⟨j,hj,ao⟩: ∃j:Nat,f%(ms.length:Int)=(j:Int)∧j<ms.length:=⟨(f%(ms.length:Int)).toNat,by have:=Int.emod_nonneg f (show (ms.length:Int)≠0 by omega);omega,by have:=Int.emod_lt_of_pos f (show 0<(ms.length:Int) by omega);omega⟩
 obtain ⟨vj,r,l,hv,hr,ad,aq,hg,-⟩:=hP.at ao
 obtain ⟨al,cl,rfl,bj,ch⟩:=ad.v
 obtain ⟨L,a0⟩:=Aq (D4 ms)
 have b7:Aside (CQ s ms vs G):=hP
 have HL:Aside (An G (.slice al l.length cl) l∧Rt (nodeAt s) r l∧DB l):=⟨ad,aq,hg⟩
 have b9:Aside (D4 ms=L):=a0
 have HE:Aside (An Bp v put∧put.length≤60):=⟨hE,bm⟩
 have b6:Aside (∀(F:Ac)(w:World),Sat (Bp*F) w→Calls Tryz.prog 113 #[v] w fun e a=> ∃g c,e= .returned (.slice (some ⟨g,0,none⟩) put.length c)∧Sat (Bs g c put*(Bp*F)) a):=fun F w h=>Jd put v Bp F w hE h (by omega)
 rw[a0,Y] at hs
 rw[a0] at hr
 rw[Y] at hj ao bk bl⊢
 haveI:At L j (.int .i64 r):=⟨hr⟩
 haveI:At vs j (.slice al l.length cl):=⟨hv⟩
 have bh:=hg.1.2.2
 obtain ⟨nl,ae⟩:=Aq l.length
 have HZ:Aside (l.length=nl):=ae
 rw[ae] at bj bh
 unfold EV D9 at hs
 have q0:Sat (Ae h s*(G*(Sl.block K IF [.slice a1 nm c1,.slice a2 nm c2]*(rw B3 1 (.slice a1 nm c1) L*(rw DS 1 (.slice a2 nm c2) vs*(Sl.block b I8 [.pointer (some ⟨h.D,0,none⟩),.pointer (some ⟨h.C,0,none⟩),.pointer (some ⟨h.S,0,none⟩),.pointer (some ⟨h.t,0,none⟩)]*(Bp*F))))))) w:=hs.eq (by ac_rfl)
 have bw:(j:Int)<nm:=by omega
 have cg:(0:Int)≤j:=by omega
 obtain ⟨V,rfl⟩:=BN (hs:=q0.take (rw B3 1 (.slice a1 nm c1) L)) (by omega)
 obtain ⟨g2,rfl⟩:=BN (hs:=q0.take (rw DS 1 (.slice a2 nm c2) vs)) (by omega)
 have cj: ∀g w,(Sem.run Tryz.prog (Instr.indexAt 45 (Value.slice (some ⟨g,0,none⟩) nm c1) (Value.int IntKind.i64 j)) w)= .ok (.pointer (some ⟨g,j,none⟩)) w:=by
  intro g w
  simp[go_sem, *]
 have a6:Aside (∀(a:World)(s':TS)(Q:Ac)(T U H:Option Addr)(c3 c4 c5:Nat)(m:Int)(out:List Au),LB s s' 3000 2600→An (Q*G) (.slice H out.length c5) out→Rt (nodeAt s') m out→DB out→
  Sat (Ae h s'*(Q*(G*(Sl.block K IF [.slice T (nm+1) c3,.slice U (nm+1) c4]*(rw B3 1 (.slice T (nm+1) c3) (L++ [.int .i64 m])*(rw DS 1 (.slice U (nm+1) c4) (vs++ [.slice H out.length c5])*(Sl.block b I8 [.pointer (some ⟨h.D,0,none⟩),.pointer (some ⟨h.C,0,none⟩),.pointer (some ⟨h.S,0,none⟩),.pointer (some ⟨h.t,0,none⟩)]*(Bp*F)))))))) a→Ep h s K b nm Bp F (.returned (.bool true)) a):=fun a s' Q T U H c3 c4 c5 m out nx k1 k2 k3 q=>by
  refine ⟨s',T,c3,U,c4,ms++ [(m,out)],vs++ [.slice H out.length c5],Q*G,rfl,?_,b7.out.more nx.le k1 k2 k3,?_,?_,nx⟩
  · have e1:(ms++ [(m,out)]).length=nm+1:=by rw[List.length_append,ab.out];rfl
    have e2:D4 (ms++ [(m,out)])=L++ [.int .i64 m]:=by rw[←b9.out];simp[D4]
    rw[e1,e2]
    unfold EV D9
    exact q.eq (by ac_rfl)
  · rw[List.length_append,ab.out];omega
  rw[List.length_append,ab.out];exact Nat.le_refl _
 have ac:=fun g c F w (h1:Sat (Ae h s*(Bs g c put*F)) w)=>Wk h s put (.slice (some ⟨g,0,none⟩) put.length c) (Bs g c put) F w (Fe (h1.eq (L6 _ _ _))).1 h1 hI (by omega) (by omega) (by omega)
 have ag:=fun g c F w (h1:Sat (Bs g c put*F) w)=>OB put (.slice (some ⟨g,0,none⟩) put.length c) (Bs g c put) F w (Fe h1).1 h1 (by omega)
 have X:=fun g c F w (h1:Sat (Bs g c put*(Bp*F)) w)=>SG put g c v Bp F w HE.out.1 h1 (by have:=HE.out.2;omega)
 have e1:(k==1)=true:=by simp[hk]
 have e2:(k==2)=false:=by simp[hk]
 clear hk
 clear ad aq hg hP hs a0 Y hr hv hE ae
 go_enter Tryz.func48,Tryz.ntmps48
 haveI:=q0.i
 go_wp2_with fail
 obtain ⟨N,hN⟩:=Aq w.heap.size
 have q1:Sat (Ae h s*(G*(Sl.block N Nu [.int .i64 k,.int .i64 f,.int .i64 at_,.int .i64 n,v]*(Sl.block K IF [.slice (some ⟨V,0,none⟩) nm c1,.slice (some ⟨g2,0,none⟩) nm c2]*(rw B3 1 (.slice (some ⟨V,0,none⟩) nm c1) L*(rw DS 1 (.slice (some ⟨g2,0,none⟩) nm c2) vs*(Sl.block b I8 [.pointer (some ⟨h.D,0,none⟩),.pointer (some ⟨h.C,0,none⟩),.pointer (some ⟨h.S,0,none⟩),.pointer (some ⟨h.t,0,none⟩)]*(Bp*F)))))))) (w.alloc (.cells #[.int .i64 k,.int .i64 f,.int .i64 at_,.int .i64 n,v] Nu)):=by
  rw[←hN]
  show Sat (_*(_*(Sl.block w.heap.size Nu [.int .i64 k,.int .i64 f,.int .i64 at_,.int .i64 n,v]*_))) _
  exact Av (by ac_rfl)
 try rw[hN]
 generalize w.alloc (.cells #[.int .i64 k,.int .i64 f,.int .i64 at_,.int .i64 n,v] Nu)=w0 at q1⊢
 clear hN q0 this
 haveI:=q1.i
 go_region_held3 (fun a=>a.cell? ⟨N,1,none⟩=some (.int .i64 f)∧a.cell? ⟨K,0,none⟩=some (.slice (some ⟨V,0,none⟩) nm c1)) (first|exact ⟨Ab _ _ _,Ab _ _ _⟩) (first|(go_at_call 21;refine (Hm f nm _ (by omega) (by omega)).mono ?_;rintro e w9 ⟨rfl,rfl⟩))
 go_wp2_with fail
 go_region
 go_wp2_with fail
 with_reducible refine Calls.mono (b6.out _ _ (Af Bp)) ?_
 rintro e w2 ⟨B,z,rfl,q2⟩
 haveI:=q2.i
 clear q1
 obtain ⟨d,ap⟩:=Aq put
 rw[ap] at ac ag X q2⊢
 obtain ⟨g,bg⟩:=Aq B
 obtain ⟨c,be⟩:=Aq z
 subst bg be
 have J:=ac B z
 have P:=ag B z
 have I:= @Nx d
 have p:= @Mu d
 obtain ⟨⟨cd,out⟩,an⟩:=Aq (Ex d)
 rw[an] at J P I p
 simp only at J I p
 clear ac ag
 haveI:=q2.i
 go_wp2_with fail
 with_reducible refine Calls.mono (J _ _ (AP (Ae h s) (Bs B z d))) ?_
 rintro e w3 ⟨m,s1,rfl,q3,au,aa,af⟩
 unfold KC
 have W:Rt (nodeAt s1) m out∧DB out:=by
  by_cases o:cd=0
  · exact ⟨aa o,p o⟩
  rw[I o,af o]
  exact ⟨.inl ⟨rfl,rfl⟩,KU⟩
 have hz:=RI W.1
 obtain ⟨no,Z⟩:=Aq out.length
 have ar:m=0↔no=0:=by rw[hz,←Z,List.length_eq_zero_iff]
 have R:Aside (Rt (nodeAt s1) m out∧DB out∧LB s s1 0 2048∧out.length=no):=⟨W.1,W.2,au,Z⟩
 have bn:Aside (cd≠0→m=0):=af
 haveI:=q3.i
 clear q2 J I p aa af hz an au W
 go_wp2_with fail
 with_reducible refine Calls.mono (P _ _ (Af (Bs B z d))) ?_
 rintro e w4 bb
 obtain ⟨H,c5,Q,rfl,am,q4⟩:=bb
 have b8:Aside (An (Q*Bs B z d) (.slice H out.length c5) out):=am
 simp only at q4⊢
 rw[Z]
 haveI:=q4.i
 clear q3 P am Z
 have y:Aside (∀(a:World)(T U:Option Addr)(c3 c4:Nat),Sat (Ae h s1*(Q*(Bs B z d*(G*(Sl.block K IF [.slice T (nm+1) c3,.slice U (nm+1) c4]*(rw B3 1 (.slice T (nm+1) c3) (L++ [.int .i64 m])*(rw DS 1 (.slice U (nm+1) c4) (vs++ [.slice H no c5])*(Sl.block b I8 [.pointer (some ⟨h.D,0,none⟩),.pointer (some ⟨h.C,0,none⟩),.pointer (some ⟨h.S,0,none⟩),.pointer (some ⟨h.t,0,none⟩)]*(Bp*F))))))))) a→Ep h s K b nm Bp F (.returned (.bool true)) a):=fun a T U c3 c4 q=>by
  have hq:=a6.out a s1 (Q*Bs B z d) T U H c3 c4 c5 m out (R.out.2.2.1.more (by omega) (by omega)) (Al.left b8.out) R.out.1 R.out.2.1
  rw[R.out.2.2.2] at hq
  exact hq (q.eq (by ac_rfl))
 obtain ⟨iR,ER⟩:=IP
 obtain ⟨iL,EL⟩:=UL
 clear a6
 go_upto_region 24 with (fail)
 go_cut [200] (fun ax wx=>ax= .bool false∧Sat (Ae h s1*(Q*(Bs B z d*(G*(Sl.block N Nu [.int .i64 k,.int .i64 f,.int .i64 at_,.int .i64 n,v]*(Sl.block K IF [.slice (some ⟨V,0,none⟩) nm c1,.slice (some ⟨g2,0,none⟩) nm c2]*(rw B3 1 (.slice (some ⟨V,0,none⟩) nm c1) L*(rw DS 1 (.slice (some ⟨g2,0,none⟩) nm c2) vs*(Sl.block b I8 [.pointer (some ⟨h.D,0,none⟩),.pointer (some ⟨h.C,0,none⟩),.pointer (some ⟨h.S,0,none⟩),.pointer (some ⟨h.t,0,none⟩)]*(Bp*F)))))))))) wx)
 case first =>
  have ci:(0:Int)≤no:=by omega
  by_cases O:m=0
  · obtain rfl:no=0:=ar.1 O
    subst O
    by_cases o:cd=0
    · subst o
      go_wp2_with fail
      with_reducible refine Calls.mono (X B z _ _ (AP (Bs B z d) Bp)) ?_
      rintro e w5 ⟨rfl,q5⟩
      haveI:=q5.i
      go_wp2_with fail
      go_meet
      exact ⟨rfl,Fc _ _ _ _ _ _ _ _ _ _ _⟩
    have bv:(cd !=0)=true:=by simp[o]
    go_wp2_with fail
    with_reducible refine Calls.mono (X B z _ _ (AP (Bs B z d) Bp)) ?_
    rintro e w5 ⟨rfl,q5⟩
    haveI:=q5.i
    go_wp2_with fail
    go_meet
    exact ⟨rfl,Fc _ _ _ _ _ _ _ _ _ _ _⟩
  have o:cd=0:=Classical.not_not.1 fun hq=>O (bn.out hq)
  subst o
  have bx:((no:Int)==0)=false:=by
   have:=mt ar.2 O
   simp
   omega
  have ck:(m==0)=false:=by simp[O]
  go_wp2_with fail
  with_reducible refine Calls.mono (X B z _ _ (AP (Bs B z d) Bp)) ?_
  rintro e w5 ⟨rfl,q5⟩
  haveI:=q5.i
  go_wp2_with fail
  go_meet
  exact ⟨rfl,Fc _ _ _ _ _ _ _ _ _ _ _⟩
 obtain ⟨rfl,q5⟩:=hcut
 clear q4
 haveI:=q5.i
 go_upto_region 26 with (fail)
 refine Dr.E9 (fun a=>a.cell? ⟨K,0,none⟩=some (.slice (some ⟨V,0,none⟩) nm c1)∧a.cell? ⟨K,1,none⟩=some (.slice (some ⟨g2,0,none⟩) nm c2)) [16,17,18,19,20,21] (by kernel_rfl) ⟨Ab _ _ _,Ab _ _ _⟩ (fun M=>?_)
 refine Dr.Ar 0 (v:=?v0) (by simp only[List.getElem?_toArray,List.getElem?_cons_succ,List.getElem?_cons_zero];rfl) (by kernel_rfl) ?hQ0 (.inl ⟨?hw0,fun a=>?hy0⟩) ?_
 case hy0=>go_simp;try (with_reducible rfl)
 case hQ0=>exact fun _ _ _ h=>h
 case hw0=>rfl
 simp only[Act.put,List.setIfInBounds_toArray,List.set_cons_zero,List.set_cons_succ]
 refine Dr.Ar 1 (v:=?v1) (by simp only[List.getElem?_toArray,List.getElem?_cons_succ,List.getElem?_cons_zero];rfl) (by kernel_rfl) ?hQ1 (.inl ⟨?hw1,fun a=>?hy1⟩) ?_
 case hy1=>go_simp;try (with_reducible rfl)
 case hQ1=>exact fun _ _ _ h=>h
 case hw1=>rfl
 simp only[Act.put,List.setIfInBounds_toArray,List.set_cons_zero,List.set_cons_succ]
 refine Dr.Ar 2 (v:=?v2) (by simp only[List.getElem?_toArray,List.getElem?_cons_succ,List.getElem?_cons_zero];rfl) (by kernel_rfl) ?hQ2 (.inl ⟨?hw2,fun a=>?hy2⟩) ?_
 case hy2=>go_simp;try (with_reducible rfl)
 case hQ2=>exact fun _ _ _ h=>h
 case hw2=>rfl
 simp only[Act.put,List.setIfInBounds_toArray,List.set_cons_zero,List.set_cons_succ]
 refine Dr.Ar 3 (v:=?v3) (by simp only[List.getElem?_toArray,List.getElem?_cons_succ,List.getElem?_cons_zero];rfl) (by kernel_rfl) ?hQ3 (.inl ⟨?hw3,fun a=>?hy3⟩) ?_
 case hy3=>go_simp;try (with_reducible rfl)
 case hQ3=>exact fun _ _ _ h=>h
 case hw3=>rfl
 simp only[Act.put,List.setIfInBounds_toArray,List.set_cons_zero,List.set_cons_succ]
 refine Dr.Ar 4 (v:=?v4) (by simp only[List.getElem?_toArray,List.getElem?_cons_succ,List.getElem?_cons_zero];rfl) (by kernel_rfl) ?hQ4 (.inl ⟨?hw4,fun a=>?hy4⟩) ?_
 case hy4=>go_simp;try (with_reducible rfl)
 case hQ4=>exact fun _ _ _ h=>h
 case hw4=>rfl
 simp only[Act.put,List.setIfInBounds_toArray,List.set_cons_zero,List.set_cons_succ]
 refine Dr.CZ 5 (v:=?v5) (by simp only[List.getElem?_toArray,List.getElem?_cons_succ,List.getElem?_cons_zero];rfl) (by kernel_rfl) ?hQ5 (.inl ⟨?hw5,fun a hw=>?hy5⟩) M ?_
 case hy5=>(try dsimp only at hw);go_simp;try (with_reducible rfl)
 case hQ5=>exact fun _ _ _ h=>h
 case hw5=>rfl
 simp only[Act.put,List.setIfInBounds_toArray,List.set_cons_zero,List.set_cons_succ]
 refine Dr.Ar 6 (v:=?v6) (by simp only[List.getElem?_toArray,List.getElem?_cons_succ,List.getElem?_cons_zero];rfl) (by kernel_rfl) ?hQ6 (.inl ⟨?hw6,fun a=>?hy6⟩) ?_
 case hy6=>go_simp;try (with_reducible rfl)
 case hQ6=>exact fun _ _ _ h=>h
 case hw6=>rfl
 simp only[Act.put,List.setIfInBounds_toArray,List.set_cons_zero,List.set_cons_succ]
 refine Dr.Ar 9 (v:=?v9) (by simp only[List.getElem?_toArray,List.getElem?_cons_succ,List.getElem?_cons_zero];rfl) (by kernel_rfl) ?hQ9 (.inl ⟨?hw9,fun a=>?hy9⟩) ?_
 case hy9=>go_simp;try (with_reducible rfl)
 case hQ9=>exact fun _ _ _ h=>h
 case hw9=>rfl
 simp only[Act.put,List.setIfInBounds_toArray,List.set_cons_zero,List.set_cons_succ]
 refine Dr.Ar 10 (v:=?v10) (by simp only[List.getElem?_toArray,List.getElem?_cons_succ,List.getElem?_cons_zero];rfl) (by kernel_rfl) ?hQ10 (.inl ⟨?hw10,fun a=>?hy10⟩) ?_
 case hy10=>go_simp;try (with_reducible rfl)
 case hQ10=>exact fun _ _ _ h=>h
 case hw10=>rfl
 simp only[Act.put,List.setIfInBounds_toArray,List.set_cons_zero,List.set_cons_succ]
 refine Dr.Ar 11 (v:=?v11) (by simp only[List.getElem?_toArray,List.getElem?_cons_succ,List.getElem?_cons_zero];rfl) (by kernel_rfl) ?hQ11 (.inl ⟨?hw11,fun a=>?hy11⟩) ?_
 case hy11=>go_simp;try (with_reducible rfl)
 case hQ11=>exact fun _ _ _ h=>h
 case hw11=>rfl
 simp only[Act.put,List.setIfInBounds_toArray,List.set_cons_zero,List.set_cons_succ]
 refine Dr.CZ 12 (v:=?v12) (by simp only[List.getElem?_toArray,List.getElem?_cons_succ,List.getElem?_cons_zero];rfl) (by kernel_rfl) ?hQ12 (.inl ⟨?hw12,fun a hw=>?hy12⟩) M ?_
 case hy12=>(try dsimp only at hw);go_simp;try (with_reducible rfl)
 case hQ12=>exact fun _ _ _ h=>h
 case hw12=>rfl
 simp only[Act.put,List.setIfInBounds_toArray,List.set_cons_zero,List.set_cons_succ]
 refine Dr.Ar 13 (v:=?v13) (by simp only[List.getElem?_toArray,List.getElem?_cons_succ,List.getElem?_cons_zero];rfl) (by kernel_rfl) ?hQ13 (.inl ⟨?hw13,fun a=>?hy13⟩) ?_
 case hy13=>go_simp;try (with_reducible rfl)
 case hQ13=>exact fun _ _ _ h=>h
 case hw13=>rfl
 simp only[Act.put,List.setIfInBounds_toArray,List.set_cons_zero,List.set_cons_succ]
 refine Dr.JR 7 14 (by simp only[List.getElem?_toArray,List.getElem?_cons_succ,List.getElem?_cons_zero];rfl) (by simp only[List.getElem?_toArray,List.getElem?_cons_succ,List.getElem?_cons_zero];rfl) (by kernel_rfl) ?_ ?_
 · go_wp2_with (fail)
   refine Dr.AB ⟨⟨Ab _ _ _,Ab _ _ _⟩,?_⟩
   refine Dr.JR 8 14 (by simp only[List.getElem?_toArray,List.getElem?_cons_succ,List.getElem?_cons_zero];rfl) (by simp only[List.getElem?_toArray,List.getElem?_cons_succ,List.getElem?_cons_zero];rfl) (by kernel_rfl) ?_ ?_
   · go_wp2_with (at_builtin;refine Ad ER rfl (.tmp 206) (.tmp 208) rfl rfl rfl (Af (rw B3 1 (.slice (some ⟨V,0,none⟩) nm c1) L)) (Src.new (e:=B3) (s:=1) (vs:= [.int .i64 m]) (Af (Sl.block _ B3 [.int .i64 m])) rfl (by intro u x;simp at x;rcases x with rfl;rfl)) (by unfold maxLen;omega) (by omega) ?_;intro a7 c7 w7 q7 z7;clear z7;haveI:=q7.i)
     refine Dr.AB ⟨⟨Ab _ _ _,Ab _ _ _⟩,?_⟩
     refine Dr.AQ 14 (by simp only[List.getElem?_toArray,List.getElem?_cons_succ,List.getElem?_cons_zero];rfl) (by kernel_rfl) ?_
     go_wp2_with (fail)
     refine Dr.AB ⟨⟨Ab _ _ _,Ab _ _ _⟩,?_⟩
     refine Dr.AQ 15 (by simp only[List.getElem?_toArray,List.getElem?_cons_succ,List.getElem?_cons_zero];rfl) (by kernel_rfl) ?_
     go_wp2_with (at_builtin;refine Ad EL rfl (.tmp 213) (.tmp 215) rfl rfl rfl (Af (rw DS 1 (.slice (some ⟨g2,0,none⟩) nm c2) vs)) (Src.new (e:=DS) (s:=1) (vs:= [.slice H no c5]) (Af (Sl.block _ DS [.slice H no c5])) rfl (by intro u x;simp at x;rcases x with rfl;rfl)) (by unfold maxLen;omega) (by omega) ?_;intro a8 c8 w8 q8 z8;clear z8;haveI:=q8.i)
     refine Dr.AB ⟨⟨Ab _ _ _,Ab _ _ _⟩,?_⟩
     refine Dr.CY [16,17,18,19,20,21] (os:= [_,_,_,_,_,_]) (by decide) (by simp only[List.map_cons,List.map_nil,List.getElem?_toArray,List.getElem?_cons_succ,List.getElem?_cons_zero];rfl) (by kernel_rfl) ?_
     go_wp2
     go_ret
     exact y.out _ a7 a8 c7 c8 (Ie _ _ _ _ _ _ _ _ _ _)
   go_wp2_with (fail)
   refine Dr.AB ⟨⟨Ab _ _ _,Ab _ _ _⟩,?_⟩
   refine Dr.AQ 8 (by simp only[List.getElem?_toArray,List.getElem?_cons_succ,List.getElem?_cons_zero];rfl) (by kernel_rfl) ?_
   go_wp2_with (at_builtin;refine Ad ER rfl (.tmp 206) (.tmp 208) rfl rfl rfl (Af (rw B3 1 (.slice (some ⟨V,0,none⟩) nm c1) L)) (Src.new (e:=B3) (s:=1) (vs:= [.int .i64 m]) (Af (Sl.block _ B3 [.int .i64 m])) rfl (by intro u x;simp at x;rcases x with rfl;rfl)) (by unfold maxLen;omega) (by omega) ?_;intro a7 c7 w7 q7 z7;clear z7;haveI:=q7.i)
   refine Dr.AB ⟨⟨Ab _ _ _,Ab _ _ _⟩,?_⟩
   refine Dr.AQ 15 (by simp only[List.getElem?_toArray,List.getElem?_cons_succ,List.getElem?_cons_zero];rfl) (by kernel_rfl) ?_
   go_wp2_with (at_builtin;refine Ad EL rfl (.tmp 213) (.tmp 215) rfl rfl rfl (Af (rw DS 1 (.slice (some ⟨g2,0,none⟩) nm c2) vs)) (Src.new (e:=DS) (s:=1) (vs:= [.slice H no c5]) (Af (Sl.block _ DS [.slice H no c5])) rfl (by intro u x;simp at x;rcases x with rfl;rfl)) (by unfold maxLen;omega) (by omega) ?_;intro a8 c8 w8 q8 z8;clear z8;haveI:=q8.i)
   refine Dr.AB ⟨⟨Ab _ _ _,Ab _ _ _⟩,?_⟩
   refine Dr.CY [16,17,18,19,20,21] (os:= [_,_,_,_,_,_]) (by decide) (by simp only[List.map_cons,List.map_nil,List.getElem?_toArray,List.getElem?_cons_succ,List.getElem?_cons_zero];rfl) (by kernel_rfl) ?_
   go_wp2
   go_ret
   exact y.out _ a7 a8 c7 c8 (Ie _ _ _ _ _ _ _ _ _ _)
 go_wp2_with (fail)
 refine Dr.AB ⟨⟨Ab _ _ _,Ab _ _ _⟩,?_⟩
 refine Dr.AQ 7 (by simp only[List.getElem?_toArray,List.getElem?_cons_succ,List.getElem?_cons_zero];rfl) (by kernel_rfl) ?_
 go_wp2_with (fail)
 refine Dr.AB ⟨⟨Ab _ _ _,Ab _ _ _⟩,?_⟩
 refine Dr.AQ 8 (by simp only[List.getElem?_toArray,List.getElem?_cons_succ,List.getElem?_cons_zero];rfl) (by kernel_rfl) ?_
 go_wp2_with (at_builtin;refine Ad ER rfl (.tmp 206) (.tmp 208) rfl rfl rfl (Af (rw B3 1 (.slice (some ⟨V,0,none⟩) nm c1) L)) (Src.new (e:=B3) (s:=1) (vs:= [.int .i64 m]) (Af (Sl.block _ B3 [.int .i64 m])) rfl (by intro u x;simp at x;rcases x with rfl;rfl)) (by unfold maxLen;omega) (by omega) ?_;intro a7 c7 w7 q7 z7;clear z7;haveI:=q7.i)
 refine Dr.AB ⟨⟨Ab _ _ _,Ab _ _ _⟩,?_⟩
 refine Dr.AQ 15 (by simp only[List.getElem?_toArray,List.getElem?_cons_succ,List.getElem?_cons_zero];rfl) (by kernel_rfl) ?_
 go_wp2_with (at_builtin;refine Ad EL rfl (.tmp 213) (.tmp 215) rfl rfl rfl (Af (rw DS 1 (.slice (some ⟨g2,0,none⟩) nm c2) vs)) (Src.new (e:=DS) (s:=1) (vs:= [.slice H no c5]) (Af (Sl.block _ DS [.slice H no c5])) rfl (by intro u x;simp at x;rcases x with rfl;rfl)) (by unfold maxLen;omega) (by omega) ?_;intro a8 c8 w8 q8 z8;clear z8;haveI:=q8.i)
 refine Dr.AB ⟨⟨Ab _ _ _,Ab _ _ _⟩,?_⟩
 refine Dr.CY [16,17,18,19,20,21] (os:= [_,_,_,_,_,_]) (by decide) (by simp only[List.map_cons,List.map_nil,List.getElem?_toArray,List.getElem?_cons_succ,List.getElem?_cons_zero];rfl) (by kernel_rfl) ?_
 go_wp2
 go_ret
 exact y.out _ a7 a8 c7 c8 (Ie _ _ _ _ _ _ _ _ _ _)
end Go.Proofs.YtfhbmblbidcmmaaGreat
namespace Go.Proofs.YtfhbmblbidcmmaaGreat
open Go.RowKit Go.Sl Go.Dk Go.Tr
variable [EZ]
theorem Sx(h:Th)(s:TS)(J b:Nat)(a1:Option Addr)(c1:Nat)(a2:Option Addr)(c2:Nat)(ms:List (Int×List Au))(vs:List Value)(G:Ac)(k f at_ n:Int)(put:List Au)(v:Value)(Bp F:Ac)(w:World)
 (hk:k=2) (hP:CQ s ms vs G) (bq:0<ms.length) (br:ms.length≤64) (hI:Fs true s) (hf:10000≤AL s) (d4:10000≤Cn s.sp) (hE:An Bp v put) (bs:put.length≤60)
 (hs:Sat (Ae h s*(G*(EV J a1 c1 a2 c2 ms.length (D4 ms) vs*(D9 b h*(Bp*F))))) w):
 Calls Tryz.prog 48 #[.pointer (some ⟨J,0,none⟩),.pointer (some ⟨b,0,none⟩),.agg #[.int .i64 k,.int .i64 f,.int .i64 at_,.int .i64 n,v]] w (Ep h s J b ms.length Bp F):=by
 obtain ⟨nm,a0⟩:=Aq ms.length
 have ae:Aside (ms.length=nm):=a0
 obtain ⟨j,hj,az⟩: ∃j:Nat,f%(ms.length:Int)=(j:Int)∧j<ms.length:=⟨(f%(ms.length:Int)).toNat,by have:=Int.emod_nonneg f (show (ms.length:Int)≠0 by omega);omega,by have:=Int.emod_lt_of_pos f (show 0<(ms.length:Int) by omega);omega⟩
 obtain ⟨vj,r,l,hv,hr,ah,b0,hg,-⟩:=hP.at az
 obtain ⟨al,cl,rfl,bp,d0⟩:=ah.v
 obtain ⟨M,a9⟩:=Aq (D4 ms)
 have bf:Aside (CQ s ms vs G):=hP
 have HL:Aside (An G (.slice al l.length cl) l∧Rt (nodeAt s) r l∧DB l):=⟨ah,b0,hg⟩
 have bh:Aside (D4 ms=M):=a9
 have HE:Aside (An Bp v put∧put.length≤60):=⟨hE,bs⟩
 have be:Aside (∀(F:Ac)(w:World),Sat (Bp*F) w→Calls Tryz.prog 113 #[v] w fun e m=> ∃g c,e= .returned (.slice (some ⟨g,0,none⟩) put.length c)∧Sat (Bs g c put*(Bp*F)) m):=fun F w h=>Jd put v Bp F w hE h (by omega)
 rw[a9,a0] at hs
 rw[a9] at hr
 rw[a0] at hj az bq br⊢
 haveI:At M j (.int .i64 r):=⟨hr⟩
 haveI:At vs j (.slice al l.length cl):=⟨hv⟩
 have bn:=hg.1.2.2
 obtain ⟨nl,ak⟩:=Aq l.length
 have HZ:Aside (l.length=nl):=ak
 rw[ak] at bp bn
 unfold EV D9 at hs
 have q0:Sat (Ae h s*(G*(Sl.block J IF [.slice a1 nm c1,.slice a2 nm c2]*(rw B3 1 (.slice a1 nm c1) M*(rw DS 1 (.slice a2 nm c2) vs*(Sl.block b I8 [.pointer (some ⟨h.D,0,none⟩),.pointer (some ⟨h.C,0,none⟩),.pointer (some ⟨h.S,0,none⟩),.pointer (some ⟨h.t,0,none⟩)]*(Bp*F))))))) w:=hs.eq (by ac_rfl)
 have cf:(j:Int)<nm:=by omega
 have cy:(0:Int)≤j:=by omega
 obtain ⟨O,rfl⟩:=BN (hs:=q0.take (rw B3 1 (.slice a1 nm c1) M)) (by omega)
 obtain ⟨U,rfl⟩:=BN (hs:=q0.take (rw DS 1 (.slice a2 nm c2) vs)) (by omega)
 have d2: ∀g w,(Sem.run Tryz.prog (Instr.indexAt 45 (Value.slice (some ⟨g,0,none⟩) nm c1) (Value.int IntKind.i64 j)) w)= .ok (.pointer (some ⟨g,j,none⟩)) w:=by
  intro g w
  simp[go_sem, *]
 have aa:Aside (∀(m:World)(s':TS)(V:Ac)(X Y B:Option Addr)(c3 c4 c5:Nat)(o:Int)(out:List Au),LB s s' 3000 2600→An (V*G) (.slice B out.length c5) out→Rt (nodeAt s') o out→DB out→
  Sat (Ae h s'*(V*(G*(Sl.block J IF [.slice X (nm+1) c3,.slice Y (nm+1) c4]*(rw B3 1 (.slice X (nm+1) c3) (M++ [.int .i64 o])*(rw DS 1 (.slice Y (nm+1) c4) (vs++ [.slice B out.length c5])*(Sl.block b I8 [.pointer (some ⟨h.D,0,none⟩),.pointer (some ⟨h.C,0,none⟩),.pointer (some ⟨h.S,0,none⟩),.pointer (some ⟨h.t,0,none⟩)]*(Bp*F)))))))) m→Ep h s J b nm Bp F (.returned (.bool true)) m):=fun m s' V X Y B c3 c4 c5 o out nx k1 k2 k3 q=>by
  refine ⟨s',X,c3,Y,c4,ms++ [(o,out)],vs++ [.slice B out.length c5],V*G,rfl,?_,bf.out.more nx.le k1 k2 k3,?_,?_,nx⟩
  · have e1:(ms++ [(o,out)]).length=nm+1:=by rw[List.length_append,ae.out];rfl
    have e2:D4 (ms++ [(o,out)])=M++ [.int .i64 o]:=by rw[←bh.out];simp[D4]
    rw[e1,e2]
    unfold EV D9
    exact q.eq (by ac_rfl)
  · rw[List.length_append,ae.out];omega
  rw[List.length_append,ae.out];exact Nat.le_refl _
 obtain ⟨n0,ab,cg⟩: ∃j:Nat,n%200=(j:Int)∧j<200:=⟨(n%200).toNat,by omega,by omega⟩
 obtain ⟨sd,ad,ci⟩: ∃j:Nat,at_%50=(j:Int)∧j<50:=⟨(at_%50).toNat,by omega,by omega⟩
 have aj:=fun F w q=>XF n0 sd F w q (by omega) (by omega)
 obtain ⟨d,Q⟩:=Aq (Jf n0 sd)
 have ai:d.length=n0:=by rw[←Q,Qf]
 have af:=fun g c F w (h1:Sat (Ae h s*(Bs g c d*F)) w)=>Wk h s d (.slice (some ⟨g,0,none⟩) d.length c) (Bs g c d) F w (Fe (h1.eq (L6 _ _ _))).1 h1 hI (by omega) (by omega) (by omega)
 have aq:=fun g c F w (h1:Sat (Bs g c d*F) w)=>OB d (.slice (some ⟨g,0,none⟩) d.length c) (Bs g c d) F w (Fe h1).1 h1 (by omega)
 have ag:=fun a c F w (h1:Sat (rw AM 4 (.slice a d.length c) (Bb d)*F) w)=>Jd d (.slice a d.length c) (rw AM 4 (.slice a d.length c) (Bb d)) F w (Al.rw h1 ⟨a,c,rfl⟩) h1 (by omega)
 rw[Q] at aj
 have ct:Aside (d.length=n0):=ai
 rw[ai] at af aq ag
 have e1:(k==1)=false:=by simp[hk]
 have e2:(k==2)=true:=by simp[hk]
 clear hk Q ai
 clear ah b0 hg hP hs a9 a0 hr hv hE ak
 go_enter Tryz.func48,Tryz.ntmps48
 haveI:=q0.i
 go_wp2_with fail
 obtain ⟨N,hN⟩:=Aq w.heap.size
 have q1:Sat (Ae h s*(G*(Sl.block N Nu [.int .i64 k,.int .i64 f,.int .i64 at_,.int .i64 n,v]*(Sl.block J IF [.slice (some ⟨O,0,none⟩) nm c1,.slice (some ⟨U,0,none⟩) nm c2]*(rw B3 1 (.slice (some ⟨O,0,none⟩) nm c1) M*(rw DS 1 (.slice (some ⟨U,0,none⟩) nm c2) vs*(Sl.block b I8 [.pointer (some ⟨h.D,0,none⟩),.pointer (some ⟨h.C,0,none⟩),.pointer (some ⟨h.S,0,none⟩),.pointer (some ⟨h.t,0,none⟩)]*(Bp*F)))))))) (w.alloc (.cells #[.int .i64 k,.int .i64 f,.int .i64 at_,.int .i64 n,v] Nu)):=by
  rw[←hN]
  show Sat (_*(_*(Sl.block w.heap.size Nu [.int .i64 k,.int .i64 f,.int .i64 at_,.int .i64 n,v]*_))) _
  exact Av (by ac_rfl)
 try rw[hN]
 generalize w.alloc (.cells #[.int .i64 k,.int .i64 f,.int .i64 at_,.int .i64 n,v] Nu)=w0 at q1⊢
 clear hN q0 this
 haveI:=q1.i
 go_region_held3 (fun m=>m.cell? ⟨N,1,none⟩=some (.int .i64 f)∧m.cell? ⟨J,0,none⟩=some (.slice (some ⟨O,0,none⟩) nm c1)) (first|exact ⟨Ab _ _ _,Ab _ _ _⟩) (first|(go_at_call 21;refine (Hm f nm _ (by omega) (by omega)).mono ?_;rintro e w9 ⟨rfl,rfl⟩))
 go_wp2_with fail
 go_region
 go_wp2_with fail
 with_reducible refine Calls.mono (be.out _ _ (Af Bp)) ?_
 rintro e w2 ⟨gq,cq,rfl,q2⟩
 haveI:=q2.i
 clear q1
 go_wp2_with fail
 have an:=fun w=>Hm n 200 w (by omega) (by omega)
 have ao:=fun w=>Hm at_ 50 w (by omega) (by omega)
 rw[ab] at an
 rw[ad] at ao
 clear ab ad
 go_cut [10] (fun bz wx=> ∃(L K:Nat),bz= .slice (some ⟨L,0,none⟩) n0 K∧Sat (Ae h s*(Bs L K d*(G*(Sl.block N Nu [.int .i64 k,.int .i64 f,.int .i64 at_,.int .i64 n,v]*(Sl.block J IF [.slice (some ⟨O,0,none⟩) nm c1,.slice (some ⟨U,0,none⟩) nm c2]*(rw B3 1 (.slice (some ⟨O,0,none⟩) nm c1) M*(rw DS 1 (.slice (some ⟨U,0,none⟩) nm c2) vs*(Sl.block b I8 [.pointer (some ⟨h.D,0,none⟩),.pointer (some ⟨h.C,0,none⟩),.pointer (some ⟨h.S,0,none⟩),.pointer (some ⟨h.t,0,none⟩)]*(Bp*F))))))))) wx)
 case first=>as_aux_lemma=>
  go_region_held3 (fun m=>m.cell? ⟨N,2,none⟩=some (.int .i64 at_)∧m.cell? ⟨N,3,none⟩=some (.int .i64 n)) (first|exact ⟨Ab _ _ _,Ab _ _ _⟩) (first
   |(go_at_call 21;with_reducible refine Calls.mono (an _) ?_;rintro e w9 ⟨rfl,rfl⟩)
   |(go_at_call 21;with_reducible refine Calls.mono (ao _) ?_;rintro e w9 ⟨rfl,rfl⟩)
   |(go_at_call 35;with_reducible refine Calls.mono (aj _ _ q2) ?_;rintro e w9 ⟨am,cm,rfl,q9⟩;haveI:=q9.i)
   |(go_at_call 113;with_reducible refine Calls.mono (ag _ _ _ _ (Af (rw AM 4 (.slice am n0 cm) (Bb d)))) ?_;rintro e db ⟨L,K,rfl,bv⟩;haveI:=bv.i))
  all_goals
   go_wp2_with fail
   go_meet
   exact ⟨L,K,rfl,PX _ _ _ _ _ _ _ _ _⟩
 obtain ⟨L,K,rfl,q3⟩:=hcut
 haveI:=q3.i
 have cz:True:=trivial
 clear q2 aj ag an ao
 have I:=af L K
 have T:=aq L K
 have H:= @Nx d
 have x:= @Mu d
 obtain ⟨⟨cd,out⟩,ay⟩:=Aq (Ex d)
 rw[ay] at I T H x
 simp only at I H x
 clear af aq
 go_wp2_with fail
 with_reducible refine Calls.mono (I _ _ (AP (Ae h s) (Bs L K d))) ?_
 rintro e w3 ⟨o,s1,rfl,q3,b2,ac,ap⟩
 unfold KC
 have Z:Rt (nodeAt s1) o out∧DB out:=by
  by_cases p:cd=0
  · exact ⟨ac p,x p⟩
  rw[H p,ap p]
  exact ⟨.inl ⟨rfl,rfl⟩,KU⟩
 have hz:=RI Z.1
 obtain ⟨no,a6⟩:=Aq out.length
 have b1:o=0↔no=0:=by rw[hz,←a6,List.length_eq_zero_iff]
 have W:Aside (Rt (nodeAt s1) o out∧DB out∧LB s s1 0 2048∧out.length=no):=⟨Z.1,Z.2,b2,a6⟩
 have bt:Aside (cd≠0→o=0):=ap
 haveI:=q3.i
 clear I H x ac ap hz ay b2 Z
 go_wp2_with fail
 with_reducible refine Calls.mono (T _ _ (Af (Bs L K d))) ?_
 rintro e w4 bj
 obtain ⟨B,c5,V,rfl,ax,q4⟩:=bj
 have bg:Aside (An (V*Bs L K d) (.slice B out.length c5) out):=ax
 simp only at q4⊢
 rw[a6]
 haveI:=q4.i
 clear q3 T ax a6
 have z:Aside (∀(m:World)(X Y:Option Addr)(c3 c4:Nat),Sat (Ae h s1*(V*(Bs L K d*(G*(Sl.block J IF [.slice X (nm+1) c3,.slice Y (nm+1) c4]*(rw B3 1 (.slice X (nm+1) c3) (M++ [.int .i64 o])*(rw DS 1 (.slice Y (nm+1) c4) (vs++ [.slice B no c5])*(Sl.block b I8 [.pointer (some ⟨h.D,0,none⟩),.pointer (some ⟨h.C,0,none⟩),.pointer (some ⟨h.S,0,none⟩),.pointer (some ⟨h.t,0,none⟩)]*(Bp*F))))))))) m→Ep h s J b nm Bp F (.returned (.bool true)) m):=fun m X Y c3 c4 q=>by
  have hq:=aa.out m s1 (V*Bs L K d) X Y B c3 c4 c5 o out (W.out.2.2.1.more (by omega) (by omega)) (Al.left bg.out) W.out.1 W.out.2.1
  rw[W.out.2.2.2] at hq
  exact hq (q.eq (by ac_rfl))
 obtain ⟨iR,ER⟩:=IP
 obtain ⟨iL,EL⟩:=UL
 clear aa
 go_upto_region 24 with (fail)
 go_cut [200] (fun b5 wx=>b5= .bool false∧Sat (Ae h s1*(V*(Bs L K d*(G*(Sl.block N Nu [.int .i64 k,.int .i64 f,.int .i64 at_,.int .i64 n,v]*(Sl.block J IF [.slice (some ⟨O,0,none⟩) nm c1,.slice (some ⟨U,0,none⟩) nm c2]*(rw B3 1 (.slice (some ⟨O,0,none⟩) nm c1) M*(rw DS 1 (.slice (some ⟨U,0,none⟩) nm c2) vs*(Sl.block b I8 [.pointer (some ⟨h.D,0,none⟩),.pointer (some ⟨h.C,0,none⟩),.pointer (some ⟨h.S,0,none⟩),.pointer (some ⟨h.t,0,none⟩)]*(Bp*F)))))))))) wx)
 case first => as_aux_lemma =>
  have d1:(0:Int)≤no:=by omega
  by_cases R:o=0
  · obtain rfl:no=0:=b1.1 R
    subst R
    by_cases p:cd=0
    ·subst p
     go_wp2_with fail
     go_meet
     exact ⟨rfl,Fc _ _ _ _ _ _ _ _ _ _ _⟩
    have ce:(cd !=0)=true:=by simp[p]
    go_wp2_with fail
    go_meet
    exact ⟨rfl,Fc _ _ _ _ _ _ _ _ _ _ _⟩
  have p:cd=0:=Classical.not_not.1 fun hq=>R (bt.out hq)
  subst p
  have ch:((no:Int)==0)=false:=by
   have:=mt b1.2 R
   simp
   omega
  have d3:(o==0)=false:=by simp[R]
  go_wp2_with fail
  go_meet
  exact ⟨rfl,Fc _ _ _ _ _ _ _ _ _ _ _⟩
 case rest => as_aux_lemma =>
  obtain ⟨rfl,q5⟩:=hcut
  clear q4
  haveI:=q5.i
  go_upto_region 26 with (fail)
  refine Dr.E9 (fun m=>m.cell? ⟨J,0,none⟩=some (.slice (some ⟨O,0,none⟩) nm c1)∧m.cell? ⟨J,1,none⟩=some (.slice (some ⟨U,0,none⟩) nm c2)) [16,17,18,19,20,21] (by kernel_rfl) ⟨Ab _ _ _,Ab _ _ _⟩ (fun P=>?_)
  refine Dr.Ar 0 (v:=?v0) (by simp only[List.getElem?_toArray,List.getElem?_cons_succ,List.getElem?_cons_zero];rfl) (by kernel_rfl) ?hQ0 (.inl ⟨?hw0,fun m=>?hy0⟩) ?_
  case hy0=>go_simp;try (with_reducible rfl)
  case hQ0=>exact fun _ _ _ h=>h
  case hw0=>rfl
  simp only[Act.put,List.setIfInBounds_toArray,List.set_cons_zero,List.set_cons_succ]
  refine Dr.Ar 1 (v:=?v1) (by simp only[List.getElem?_toArray,List.getElem?_cons_succ,List.getElem?_cons_zero];rfl) (by kernel_rfl) ?hQ1 (.inl ⟨?hw1,fun m=>?hy1⟩) ?_
  case hy1=>go_simp;try (with_reducible rfl)
  case hQ1=>exact fun _ _ _ h=>h
  case hw1=>rfl
  simp only[Act.put,List.setIfInBounds_toArray,List.set_cons_zero,List.set_cons_succ]
  refine Dr.Ar 2 (v:=?v2) (by simp only[List.getElem?_toArray,List.getElem?_cons_succ,List.getElem?_cons_zero];rfl) (by kernel_rfl) ?hQ2 (.inl ⟨?hw2,fun m=>?hy2⟩) ?_
  case hy2=>go_simp;try (with_reducible rfl)
  case hQ2=>exact fun _ _ _ h=>h
  case hw2=>rfl
  simp only[Act.put,List.setIfInBounds_toArray,List.set_cons_zero,List.set_cons_succ]
  refine Dr.Ar 3 (v:=?v3) (by simp only[List.getElem?_toArray,List.getElem?_cons_succ,List.getElem?_cons_zero];rfl) (by kernel_rfl) ?hQ3 (.inl ⟨?hw3,fun m=>?hy3⟩) ?_
  case hy3=>go_simp;try (with_reducible rfl)
  case hQ3=>exact fun _ _ _ h=>h
  case hw3=>rfl
  simp only[Act.put,List.setIfInBounds_toArray,List.set_cons_zero,List.set_cons_succ]
  refine Dr.Ar 4 (v:=?v4) (by simp only[List.getElem?_toArray,List.getElem?_cons_succ,List.getElem?_cons_zero];rfl) (by kernel_rfl) ?hQ4 (.inl ⟨?hw4,fun m=>?hy4⟩) ?_
  case hy4=>go_simp;try (with_reducible rfl)
  case hQ4=>exact fun _ _ _ h=>h
  case hw4=>rfl
  simp only[Act.put,List.setIfInBounds_toArray,List.set_cons_zero,List.set_cons_succ]
  refine Dr.CZ 5 (v:=?v5) (by simp only[List.getElem?_toArray,List.getElem?_cons_succ,List.getElem?_cons_zero];rfl) (by kernel_rfl) ?hQ5 (.inl ⟨?hw5,fun m hw=>?hy5⟩) P ?_
  case hy5=>(try dsimp only at hw);go_simp;try (with_reducible rfl)
  case hQ5=>exact fun _ _ _ h=>h
  case hw5=>rfl
  simp only[Act.put,List.setIfInBounds_toArray,List.set_cons_zero,List.set_cons_succ]
  refine Dr.Ar 6 (v:=?v6) (by simp only[List.getElem?_toArray,List.getElem?_cons_succ,List.getElem?_cons_zero];rfl) (by kernel_rfl) ?hQ6 (.inl ⟨?hw6,fun m=>?hy6⟩) ?_
  case hy6=>go_simp;try (with_reducible rfl)
  case hQ6=>exact fun _ _ _ h=>h
  case hw6=>rfl
  simp only[Act.put,List.setIfInBounds_toArray,List.set_cons_zero,List.set_cons_succ]
  refine Dr.Ar 9 (v:=?v9) (by simp only[List.getElem?_toArray,List.getElem?_cons_succ,List.getElem?_cons_zero];rfl) (by kernel_rfl) ?hQ9 (.inl ⟨?hw9,fun m=>?hy9⟩) ?_
  case hy9=>go_simp;try (with_reducible rfl)
  case hQ9=>exact fun _ _ _ h=>h
  case hw9=>rfl
  simp only[Act.put,List.setIfInBounds_toArray,List.set_cons_zero,List.set_cons_succ]
  refine Dr.Ar 10 (v:=?v10) (by simp only[List.getElem?_toArray,List.getElem?_cons_succ,List.getElem?_cons_zero];rfl) (by kernel_rfl) ?hQ10 (.inl ⟨?hw10,fun m=>?hy10⟩) ?_
  case hy10=>go_simp;try (with_reducible rfl)
  case hQ10=>exact fun _ _ _ h=>h
  case hw10=>rfl
  simp only[Act.put,List.setIfInBounds_toArray,List.set_cons_zero,List.set_cons_succ]
  refine Dr.Ar 11 (v:=?v11) (by simp only[List.getElem?_toArray,List.getElem?_cons_succ,List.getElem?_cons_zero];rfl) (by kernel_rfl) ?hQ11 (.inl ⟨?hw11,fun m=>?hy11⟩) ?_
  case hy11=>go_simp;try (with_reducible rfl)
  case hQ11=>exact fun _ _ _ h=>h
  case hw11=>rfl
  simp only[Act.put,List.setIfInBounds_toArray,List.set_cons_zero,List.set_cons_succ]
  refine Dr.CZ 12 (v:=?v12) (by simp only[List.getElem?_toArray,List.getElem?_cons_succ,List.getElem?_cons_zero];rfl) (by kernel_rfl) ?hQ12 (.inl ⟨?hw12,fun m hw=>?hy12⟩) P ?_
  case hy12=>(try dsimp only at hw);go_simp;try (with_reducible rfl)
  case hQ12=>exact fun _ _ _ h=>h
  case hw12=>rfl
  simp only[Act.put,List.setIfInBounds_toArray,List.set_cons_zero,List.set_cons_succ]
  refine Dr.Ar 13 (v:=?v13) (by simp only[List.getElem?_toArray,List.getElem?_cons_succ,List.getElem?_cons_zero];rfl) (by kernel_rfl) ?hQ13 (.inl ⟨?hw13,fun m=>?hy13⟩) ?_
  case hy13=>go_simp;try (with_reducible rfl)
  case hQ13=>exact fun _ _ _ h=>h
  case hw13=>rfl
  simp only[Act.put,List.setIfInBounds_toArray,List.set_cons_zero,List.set_cons_succ]
  refine Dr.JR 7 14 (by simp only[List.getElem?_toArray,List.getElem?_cons_succ,List.getElem?_cons_zero];rfl) (by simp only[List.getElem?_toArray,List.getElem?_cons_succ,List.getElem?_cons_zero];rfl) (by kernel_rfl) ?_ ?_
  · go_wp2_with (fail)
    refine Dr.AB ⟨⟨Ab _ _ _,Ab _ _ _⟩,?_⟩
    refine Dr.JR 8 14 (by simp only[List.getElem?_toArray,List.getElem?_cons_succ,List.getElem?_cons_zero];rfl) (by simp only[List.getElem?_toArray,List.getElem?_cons_succ,List.getElem?_cons_zero];rfl) (by kernel_rfl) ?_ ?_
    ·go_wp2_with (at_builtin;refine Ad ER rfl (.tmp 206) (.tmp 208) rfl rfl rfl (Af (rw B3 1 (.slice (some ⟨O,0,none⟩) nm c1) M)) (Src.new (e:=B3) (s:=1) (vs:= [.int .i64 o]) (Af (Sl.block _ B3 [.int .i64 o])) rfl (by intro u y;simp at y;rcases y with rfl;rfl)) (by unfold maxLen;omega) (by omega) ?_;intro a7 c7 w7 q7 z7;clear z7;haveI:=q7.i)
     refine Dr.AB ⟨⟨Ab _ _ _,Ab _ _ _⟩,?_⟩
     refine Dr.AQ 14 (by simp only[List.getElem?_toArray,List.getElem?_cons_succ,List.getElem?_cons_zero];rfl) (by kernel_rfl) ?_
     go_wp2_with (fail)
     refine Dr.AB ⟨⟨Ab _ _ _,Ab _ _ _⟩,?_⟩
     refine Dr.AQ 15 (by simp only[List.getElem?_toArray,List.getElem?_cons_succ,List.getElem?_cons_zero];rfl) (by kernel_rfl) ?_
     go_wp2_with (at_builtin;refine Ad EL rfl (.tmp 213) (.tmp 215) rfl rfl rfl (Af (rw DS 1 (.slice (some ⟨U,0,none⟩) nm c2) vs)) (Src.new (e:=DS) (s:=1) (vs:= [.slice B no c5]) (Af (Sl.block _ DS [.slice B no c5])) rfl (by intro u y;simp at y;rcases y with rfl;rfl)) (by unfold maxLen;omega) (by omega) ?_;intro a8 c8 w8 q8 z8;clear z8;haveI:=q8.i)
     refine Dr.AB ⟨⟨Ab _ _ _,Ab _ _ _⟩,?_⟩
     refine Dr.CY [16,17,18,19,20,21] (os:= [_,_,_,_,_,_]) (by decide) (by simp only[List.map_cons,List.map_nil,List.getElem?_toArray,List.getElem?_cons_succ,List.getElem?_cons_zero];rfl) (by kernel_rfl) ?_
     go_wp2
     go_ret
     exact z.out _ a7 a8 c7 c8 (Ie _ _ _ _ _ _ _ _ _ _)
    go_wp2_with (fail)
    refine Dr.AB ⟨⟨Ab _ _ _,Ab _ _ _⟩,?_⟩
    refine Dr.AQ 8 (by simp only[List.getElem?_toArray,List.getElem?_cons_succ,List.getElem?_cons_zero];rfl) (by kernel_rfl) ?_
    go_wp2_with (at_builtin;refine Ad ER rfl (.tmp 206) (.tmp 208) rfl rfl rfl (Af (rw B3 1 (.slice (some ⟨O,0,none⟩) nm c1) M)) (Src.new (e:=B3) (s:=1) (vs:= [.int .i64 o]) (Af (Sl.block _ B3 [.int .i64 o])) rfl (by intro u y;simp at y;rcases y with rfl;rfl)) (by unfold maxLen;omega) (by omega) ?_;intro a7 c7 w7 q7 z7;clear z7;haveI:=q7.i)
    refine Dr.AB ⟨⟨Ab _ _ _,Ab _ _ _⟩,?_⟩
    refine Dr.AQ 15 (by simp only[List.getElem?_toArray,List.getElem?_cons_succ,List.getElem?_cons_zero];rfl) (by kernel_rfl) ?_
    go_wp2_with (at_builtin;refine Ad EL rfl (.tmp 213) (.tmp 215) rfl rfl rfl (Af (rw DS 1 (.slice (some ⟨U,0,none⟩) nm c2) vs)) (Src.new (e:=DS) (s:=1) (vs:= [.slice B no c5]) (Af (Sl.block _ DS [.slice B no c5])) rfl (by intro u y;simp at y;rcases y with rfl;rfl)) (by unfold maxLen;omega) (by omega) ?_;intro a8 c8 w8 q8 z8;clear z8;haveI:=q8.i)
    refine Dr.AB ⟨⟨Ab _ _ _,Ab _ _ _⟩,?_⟩
    refine Dr.CY [16,17,18,19,20,21] (os:= [_,_,_,_,_,_]) (by decide) (by simp only[List.map_cons,List.map_nil,List.getElem?_toArray,List.getElem?_cons_succ,List.getElem?_cons_zero];rfl) (by kernel_rfl) ?_
    go_wp2
    go_ret
    exact z.out _ a7 a8 c7 c8 (Ie _ _ _ _ _ _ _ _ _ _)
  go_wp2_with (fail)
  refine Dr.AB ⟨⟨Ab _ _ _,Ab _ _ _⟩,?_⟩
  refine Dr.AQ 7 (by simp only[List.getElem?_toArray,List.getElem?_cons_succ,List.getElem?_cons_zero];rfl) (by kernel_rfl) ?_
  go_wp2_with (fail)
  refine Dr.AB ⟨⟨Ab _ _ _,Ab _ _ _⟩,?_⟩
  refine Dr.AQ 8 (by simp only[List.getElem?_toArray,List.getElem?_cons_succ,List.getElem?_cons_zero];rfl) (by kernel_rfl) ?_
  go_wp2_with (at_builtin;refine Ad ER rfl (.tmp 206) (.tmp 208) rfl rfl rfl (Af (rw B3 1 (.slice (some ⟨O,0,none⟩) nm c1) M)) (Src.new (e:=B3) (s:=1) (vs:= [.int .i64 o]) (Af (Sl.block _ B3 [.int .i64 o])) rfl (by intro u y;simp at y;rcases y with rfl;rfl)) (by unfold maxLen;omega) (by omega) ?_;intro a7 c7 w7 q7 z7;clear z7;haveI:=q7.i)
  refine Dr.AB ⟨⟨Ab _ _ _,Ab _ _ _⟩,?_⟩
  refine Dr.AQ 15 (by simp only[List.getElem?_toArray,List.getElem?_cons_succ,List.getElem?_cons_zero];rfl) (by kernel_rfl) ?_
  go_wp2_with (at_builtin;refine Ad EL rfl (.tmp 213) (.tmp 215) rfl rfl rfl (Af (rw DS 1 (.slice (some ⟨U,0,none⟩) nm c2) vs)) (Src.new (e:=DS) (s:=1) (vs:= [.slice B no c5]) (Af (Sl.block _ DS [.slice B no c5])) rfl (by intro u y;simp at y;rcases y with rfl;rfl)) (by unfold maxLen;omega) (by omega) ?_;intro a8 c8 w8 q8 z8;clear z8;haveI:=q8.i)
  refine Dr.AB ⟨⟨Ab _ _ _,Ab _ _ _⟩,?_⟩
  refine Dr.CY [16,17,18,19,20,21] (os:= [_,_,_,_,_,_]) (by decide) (by simp only[List.map_cons,List.map_nil,List.getElem?_toArray,List.getElem?_cons_succ,List.getElem?_cons_zero];rfl) (by kernel_rfl) ?_
  go_wp2
  go_ret
  exact z.out _ a7 a8 c7 c8 (Ie _ _ _ _ _ _ _ _ _ _)
