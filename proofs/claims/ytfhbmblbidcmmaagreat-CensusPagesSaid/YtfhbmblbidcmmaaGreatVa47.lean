/- censusPages holds for every input. No condition. (part 47) -/
import Derived.Test.YtfhbmblbidcmmaaGreatVa46
set_option linter.all false
set_option maxRecDepth 100000
set_option maxHeartbeats 12800000
namespace Go.Proofs.YtfhbmblbidcmmaaGreat
open Go.RowKit Go.Sl Go.Dk Go.Tr
open Go.PW (A8)
attribute [local go_sem] S9
variable [En]
theorem Zm(f : Nat)(ih : ∀ g, f = g + 1 → Oq g) : gU f true := by
 intro V N h s m K no top B G D M F w bz hf bd hK hV hR hm hs
 have bm:Aside (∀n,V no=some n→n.leaf=true):=bz
 clear bz
 by_cases J:top=false∧ ∃y,F9 no K=some y
 · obtain ⟨rfl,y,hy⟩:=J
   exact Uj f V N h s m K no B G D M F w hK hR y hy hs
 have HK:Aside (Kn V K):=hK
 have HV:Aside (∀p n,V p=some n→may n=true∧p<N):=hV
 have bp:Aside (∀p n,V p=some n→may n=true):=fun p n h=>(hV p n h).1
 have HM:Aside (13*fr N K+13*(f+1)≤m∧no≠0):=⟨hm,bd⟩
 have em:Aside (∀g,f=g+1→Oq g):=ih
 have HH:Aside (¬(top=false∧ ∃y,F9 no K=some y)):=J
 obtain ⟨m1,bb⟩: ∃m1,m=m1+1:=⟨m-1,by omega⟩
 have d0:Aside (m=m1+1):=bb
 have ch:=SJ h V m1 s no
 have d1:Aside (∀F w,Sat (Ad h s*F) w→Calls Tryz.prog 129 #[.pointer (some ⟨h.t,0,none⟩),.int .i64 no] w (RN h V m1 s no F)):=fun F w q=>ch F w (by rw[←bb];exact hR) bd q
 obtain ⟨dp,U⟩:=Aq ((13:Int)-(f:Int))
 have HD:Aside (dp=13-(f:Int)∧f≤13):=⟨U.symm,hf⟩
 have dk:0≤dp∧dp≤13:=by omega
 rw[U]
 obtain ⟨ew,ex⟩:=dk
 have f0:=Bg (dp+1) (by omega)
 unfold Gl at hs
 have ci:Sat (Ad h s*(Sl.block B Lh [.map (some M)]*(Sl.block G Q2 [.pointer (some ⟨h.t,0,none⟩)]*(Sl.block D Q0 [.func (Fn.func 128) #[] #[.pointer (some ⟨B,0,none⟩),.pointer (some ⟨G,0,none⟩),.pointer (some ⟨D,0,none⟩)]]*(mp A8 M (kn K)*F))))) w:=hs.eq (by ac_rfl)
 obtain ⟨z,ok,cm,cn,be⟩: ∃(z:Sn)(ok:Bool),(Cp no (kn K)).getD X4=Xi z∧(Cp no (kn K)).isSome=ok∧(ok=true→top=true)∧(top=false→F9 no K=none):=by
  rw[Og]
  cases dl:F9 no K with
  |none=>exact ⟨JH,false,rfl,rfl,fun e=>Bool.noConfusion e,fun _=>rfl⟩
  | some y =>
    have ht:top=true:=by
     cases top with
     |true=>rfl
     |false=>exact absurd ⟨rfl,y,dl⟩ J
    exact ⟨y,true,rfl,rfl,fun _=>ht,fun e=>by rw[ht] at e;cases e⟩
 have HZ:Aside (top=false→F9 no K=none):=be.2
 have co:=be.1
 obtain ⟨yh,yc,⟨a1,a2,a3,a4⟩,⟨b1,b2,b3,b4⟩⟩:=z
 haveI:=ci.i
 have Q:(Instr.lookup Lh (.map (some M)) (.int .i64 no) true).run Tryz.prog (w.alloc (.cells #[.int .i64 0,.int .i64 0,.int .i64 0,.int .i64 0,.int .i64 0,.int .i64 0,.int .i64 0,.int .i64 0,.int .i64 0,.int .i64 0] Ik))= .ok (.tuple #[.agg #[.int .i64 yh,.int .i64 yc,.int .i64 a1,.int .i64 a2,.int .i64 a3,.int .i64 a4,.int .i64 b1,.int .i64 b2,.int .i64 b3,.int .i64 b4],.bool ok]) (w.alloc (.cells #[.int .i64 0,.int .i64 0,.int .i64 0,.int .i64 0,.int .i64 0,.int .i64 0,.int .i64 0,.int .i64 0,.int .i64 0,.int .i64 0] Ik)):=by
  rw[Sm,cm,cn]
  rfl
 clear cm cn be hK hV hR hm hs J ih ch bd hf bb U HH
 go_enter Tryz.func128,Tryz.ntmps128
 go_upto_region 2 with (fail)
 go_cut [30] (fun dq wx=>dq= .bool false∧Sat (Sl.block w.heap.size Ik [.int .i64 0,.int .i64 0,.int .i64 0,.int .i64 0,.int .i64 0,.int .i64 0,.int .i64 0,.int .i64 0,.int .i64 0,.int .i64 0]*(Ad h s*(Sl.block B Lh [.map (some M)]*(Sl.block G Q2 [.pointer (some ⟨h.t,0,none⟩)]*(Sl.block D Q0 [.func (Fn.func 128) #[] #[.pointer (some ⟨B,0,none⟩),.pointer (some ⟨G,0,none⟩),.pointer (some ⟨D,0,none⟩)]]*(mp A8 M (kn K)*F)))))) wx)
 case first=>
  cases ok with
  | false =>
    go_wp2_with fail
    go_meet
    exact ⟨rfl,A4 (C:=Sl.block (w.heap.size+1) Ik [.int .i64 yh,.int .i64 yc,.int .i64 a1,.int .i64 a2,.int .i64 a3,.int .i64 a4,.int .i64 b1,.int .i64 b2,.int .i64 b3,.int .i64 b4]) (by ac_rfl)⟩
  | true =>
    obtain rfl:=co rfl
    go_wp2_with fail
    go_meet
    exact ⟨rfl,A4 (C:=Sl.block (w.heap.size+1) Ik [.int .i64 yh,.int .i64 yc,.int .i64 a1,.int .i64 a2,.int .i64 a3,.int .i64 a4,.int .i64 b1,.int .i64 b2,.int .i64 b3,.int .i64 b4]) (by ac_rfl)⟩
 obtain ⟨rfl,q2⟩:=hcut
 obtain ⟨N9,ca⟩:=Aq w.heap.size
 rw[ca] at q2⊢
 clear ci this Q ca co
 haveI:=q2.i
 go_wp2_with fail
 with_reducible refine Calls.mono (d1.out _ _ (Ae (Ad h s))) ?_
 rintro e w1 ⟨s2,cb,au,aq,b7⟩
 have o:Aside (Dp V m1 s2∧s2.sp=s.sp∧s2.ck.d=s.ck.d):=⟨cb,au,aq⟩
 clear cb au aq q2
 rcases b7 with ⟨n,v1,I,Y,rfl,hN,q3⟩|⟨Y,rfl,q3⟩
 rotate_left
 · haveI:=q3.i
   exact ⟨rfl,s2,K,CL h s2 B G D M K F,o.out.2.1,o.out.2.2,.inr ⟨rfl,T0 Y,o.out.1.less (Nat.zero_le _)⟩⟩
 have R:=bp.out no n Y
 have u:Aside (V no=some n):=Y
 have az:Aside (may n=true):=R
 have H:=fun F w q=>Pa n v1 I F w hN q (by have:=(Eu.of R).e;omega) (by have:=(Eu.of R).k;omega)
 obtain ⟨vE,vK,rfl,hE,b6⟩:=hN
 obtain ⟨aE,cE,rfl,dg,eu⟩:=hE.v
 obtain ⟨aK,cK,rfl,dh,ev⟩:=Aj.v b6
 obtain ⟨le,W⟩:=Aq n.Ag.length
 obtain ⟨lk,Q⟩:=Aq n.kids.length
 obtain ⟨lf,ab⟩:=Aq n.leaf
 have T:Aside (Au I (.slice aE le cE) n.Ag∧n.Ag.length=le):=⟨by rw[←W];exact hE,W⟩
 have ay:Aside (AS I (.slice aK n.kids.length cK) n.kids∧n.kids.length=lk):=⟨b6,Q⟩
 have O:Aside (n.leaf=lf):=ab
 have ed:le≤12:=by have:=(Eu.of R).e;omega
 have cg:lk≤12:=by have:=(Eu.of R).k;omega
 rw[W,Q,ab] at H
 rw[W] at dg⊢
 rw[Q] at dh⊢
 rw[ab]
 have a6:Aside (∀(F:Ab)(w:World),Sat (I*F) w→Calls Tryz.prog 130 #[.agg #[.bool lf,.slice aE le cE,.slice aK lk cK]] w fun e w'=>e= .returned (.int .i64 (many n))∧Sat (I*F) w'):=H
 obtain ⟨mn,bc⟩: ∃z:Nat,many n=z:=⟨_,rfl⟩
 rw[bc] at a6
 have bn:Aside (many n=mn):=bc
 haveI:=q3.i
 clear Y R H hE b6 W Q ab bc
 by_cases b8:f=0
 · have U:dp=13:=by have:=HD.out.1;omega
   have cv:Aside (DX V f no top=none):=(by rw[b8];rfl:_=_)
   have dd:decide ((12:Int)<dp)=true:=decide_eq_true (by omega)
   have bv:(12:Int)<dp:=by omega
   clear U b8
   go_wp2
   exact ⟨rfl,s2,K,CL h s2 B G D M K F,o.out.2.1,o.out.2.2,.inr ⟨rfl,cv.out,o.out.1.less (Nat.zero_le _)⟩⟩
 obtain ⟨g,hg⟩: ∃g,f=g+1:=⟨f-1,by omega⟩
 have HG:Aside (f=g+1):=hg
 have dd:decide ((12:Int)<dp)=false:=decide_eq_false (by have:=HD.out.1;omega)
 have bv: ¬(12:Int)<dp:=by have:=HD.out.1;omega
 obtain ⟨fw,cd⟩:=Aq (decide (top=false∧mn<4))
 have L:Aside (decide (top=false∧mn<4)=fw):=cd
 clear cd hg b8
 go_upto_region 5 with (fail)
 go_cut [45] (fun dr wx=>dr= .bool fw∧Sat (Sl.block w1.heap.size C1 [.bool lf,.slice aE le cE,.slice aK lk cK]*(I*(Sl.block N9 Ik [.int .i64 0,.int .i64 0,.int .i64 0,.int .i64 0,.int .i64 0,.int .i64 0,.int .i64 0,.int .i64 0,.int .i64 0,.int .i64 0]*(Ad h s2*(Sl.block B Lh [.map (some M)]*(Sl.block G Q2 [.pointer (some ⟨h.t,0,none⟩)]*(Sl.block D Q0 [.func (Fn.func 128) #[] #[.pointer (some ⟨B,0,none⟩),.pointer (some ⟨G,0,none⟩),.pointer (some ⟨D,0,none⟩)]]*(mp A8 M (kn K)*F)))))))) wx)
 case first =>
  cases top with
  | true =>
    have hz:fw=false:=by rw[←L.out];simp
    subst hz
    go_wp2_with fail
    go_meet
    exact ⟨rfl,Av (by ac_rfl)⟩
  | false =>
    by_cases h4:mn<4
    · have hz:fw=true:=by rw[←L.out];simp[h4]
      subst hz
      have b9:(mn:Int)<4:=by omega
      have cc:decide ((mn:Int)<4)=true:=decide_eq_true b9
      go_wp2_with (go_at_call 130;with_reducible refine Calls.mono (a6.out _ _ (Ae I)) ?_;rintro e w4 ⟨rfl,q4⟩;haveI:=q4.i)
      go_meet
      exact ⟨rfl,Av (by ac_rfl)⟩
    have hz:fw=false:=by rw[←L.out];simp[h4]
    subst hz
    have b9: ¬(mn:Int)<4:=by omega
    have cc:decide ((mn:Int)<4)=false:=decide_eq_false b9
    go_wp2_with (go_at_call 130;with_reducible refine Calls.mono (a6.out _ _ (Ae I)) ?_;rintro e w4 ⟨rfl,q4⟩;haveI:=q4.i)
    go_meet
    exact ⟨rfl,Av (by ac_rfl)⟩
 obtain ⟨rfl,q5⟩:=hcut
 obtain ⟨b0,ao⟩:=Aq w1.heap.size
 rw[ao] at q5⊢
 clear q3 this ao
 haveI:=q5.i
 cases fw with
 | true =>
   have aw:Aside (DX V f no top=none):=(by
    have r:=of_decide_eq_true L.out
    rw[HG.out]
    exact XC u.out ⟨r.1,by rw[bn.out];exact r.2⟩:_=_)
   go_wp2
   exact ⟨rfl,s2,K,CL h s2 B G D M K F,o.out.2.1,o.out.2.2,.inr ⟨rfl,aw.out,o.out.1.less (Nat.zero_le _)⟩⟩
 | false =>
   have H4:Aside (¬(top=false∧many n<4)):=(by
    have r:=of_decide_eq_false L.out
    rw[bn.out]
    exact r: ¬_)
   clear a6 L
   obtain ⟨x0,cj⟩:=Aq (if lf then (⟨0,n.Ag.length,n.Ag.headD e0,n.Ag.getLastD e0⟩:Sn) else JH)
   have P:Aside ((if lf then (⟨0,n.Ag.length,n.Ag.headD e0,n.Ag.getLastD e0⟩:Sn) else JH)=x0):=cj
   clear cj
   have d2:Aside (lf=true→AH n.Ag→MU V no top x0):=(fun h1 h2=>by
    refine ⟨g+1,?_⟩
    rw[O1 u.out (O.out.trans h1) H4.out,if_neg (by rw[Gj.2 h2];simp),←P.out,if_pos h1]:_→_→_)
   obtain ⟨br,ap⟩:=Aq wc.heap.size
   have al:Aside (wc.heap.size=br):=ap
   clear ap
   go_upto_if 49 with (fail)
   go_cut [49] (fun f8 wx=>(lf=true→AH n.Ag)∧Sat (Sl.block wc.heap.size Ik (dD x0)*(Sl.block b0 C1 [.bool lf,.slice aE le cE,.slice aK lk cK]*(I*(Sl.block N9 Ik [.int .i64 0,.int .i64 0,.int .i64 0,.int .i64 0,.int .i64 0,.int .i64 0,.int .i64 0,.int .i64 0,.int .i64 0,.int .i64 0]*(Ad h s2*(Sl.block B Lh [.map (some M)]*(Sl.block G Q2 [.pointer (some ⟨h.t,0,none⟩)]*(Sl.block D Q0 [.func (Fn.func 128) #[] #[.pointer (some ⟨B,0,none⟩),.pointer (some ⟨G,0,none⟩),.pointer (some ⟨D,0,none⟩)]]*(mp A8 M (kn K)*F))))))))) wx)
   case first=>
    cases lf with
    | false =>
      have r:=bm.out n u.out
      rw[O.out] at r
      cases r
    | true =>
      have X:=BS az.out O.out
      have ec:1≤le:=by have:=X.2.2.1;rw[T.out.2] at this;exact this
      have HJ:Aside (∀(b:Nat)(F:Ab)(w:World),Sat (Sl.block b 29 [.slice aE le cE]*(I*F)) w→Calls Tryz.prog 80 #[.slice (some ⟨b,0,none⟩) 1 1] w fun e w'=> ∃a c,e= .returned (.slice a (join n.Ag).length c)∧Sat (rw AG 4 (.slice a (join n.Ag).length c) (AO (join n.Ag))*(Sl.block b 29 [.slice aE le cE]*(I*F))) w'):=fun b F w q=>by
       have r:=Ly [n.Ag] _ _ F w (J8 b T.out.1) (q.eq (Ax _ _ _).symm) (by simp) (by simp;have:=X.2.2.2.1;omega) (by simpa using X.2.1) (by have:=X.2.2.2.2;simp;omega)
       rw[List.flatten_singleton] at r
       exact r.mono fun e w' ⟨a,c,h1,h2⟩=>⟨a,c,h1,h2.eq (by ac_rfl)⟩
      obtain ⟨jl,aa⟩:=Aq ((join n.Ag).length)
      simp only[aa] at HJ
      have cy:Aside (jl=le→AH n.Ag):=(fun e=>Gj.1 (by rw[aa,e,T.out.2]):_→_)
      have cz:Aside (jl≠le→DX V f no top=none):=(fun e=>by rw[HG.out,O1 u.out O.out H4.out,if_pos (by rw[aa,T.out.2];exact e)]:_→_)
      have cf:IntKind.i64.wrap ((le:Int)-1)=((le-1:Nat):Int):=(IntWalk.i64_in _ (by omega)).trans (by omega)
      obtain ⟨lm,ba⟩:=Aq (le-1)
      rw[ba] at cf
      obtain ⟨x,hx⟩: ∃x,n.Ag[0]?=some x:=⟨_,List.getElem?_eq_getElem (by rw[T.out.2];omega)⟩
      obtain ⟨y,hy⟩: ∃x,n.Ag[lm]?=some x:=⟨_,List.getElem?_eq_getElem (by rw[T.out.2];omega)⟩
      have bq:Aside (n.Ag.headD e0=x∧n.Ag.getLastD e0=y):=⟨by cases hq:n.Ag with|nil=>rw[hq] at hx;simp at hx|cons a l=>rw[hq] at hx;simpa using hx,by rw[List.getLastD_eq_getLast?,List.getLast?_eq_getElem?,T.out.2,ba,hy];rfl⟩
      have b5:Au I (.slice aE n.Ag.length cE) n.Ag:=by rw[T.out.2];exact T.out.1
      obtain ⟨eb,eo,e8,r1,r2,r3,r4⟩:=BN b5 hx
      obtain ⟨es,et,e7,p1,p2,p3,p4⟩:=BN b5 hy
      rw[e8] at e7
      cases e7
      subst e8
      have d3:Aside (x0=⟨0,le,x,y⟩):=(by rw[←P.out,if_pos rfl,bq.out.1,bq.out.2,T.out.2]:_=_)
      obtain ⟨x1,x2,x3,x4⟩:=x
      obtain ⟨y1,y2,y3,y4⟩:=y
      simp only at r1 r2 r3 r4 p1 p2 p3 p4
      have ef:(lm:Int)<le:=by omega
      have ee:(0:Int)<le:=by omega
      clear X aa hx hy b5 ba
      go_upto_region 9 with (fail)
      go_region_held3 (fun w'=>w'.cell? ⟨b0,1,none⟩=some (.slice (some ⟨eb,eo,none⟩) le cE)) (exact (Ac _ _ _)) (first
       |(go_at_call 80;with_reducible refine Calls.mono (HJ.out _ _ _ (Bh (Sl.block _ 29 [.slice (some ⟨eb,eo,none⟩) le cE]) I)) ?_;rintro e w7 ⟨a7,c7,rfl,q7⟩;haveI:=q7.i))
      all_goals
       haveI:=q7.i
       cases e9:((jl:Int) !=(le:Int)) with
       | true =>
         have aw:Aside (DX V f no top=none):=(by
          refine cz.out fun e=>?_
          rw[e] at e9
          simp at e9:_=_)
         go_wp2
         exact ⟨rfl,s2,K,CL h s2 B G D M K F,o.out.2.1,o.out.2.2,.inr ⟨rfl,aw.out,o.out.1.less (Nat.zero_le _)⟩⟩
       | false =>
         have ax:Aside (AH n.Ag):=(by
          have c9:(jl:Int)=le:=by simpa using e9
          exact cy.out (by omega):AH _)
         go_upto_region 11 with (fail)
         go_region
         go_wp2_with fail
         go_meet
         refine ⟨fun _=>ax.out,?_⟩
         rw[d3.out]
         have q8:=Kh (w:=w7) (b:=wc.heap.size) (e:=Ik) (c0:= .int .i64 0) (c1:= .int .i64 0) (c2:= .int .i64 0) (c3:= .int .i64 0) (c4:= .int .i64 0) (c5:= .int .i64 0) (c6:= .int .i64 0) (c7:= .int .i64 0) (c8:= .int .i64 0) (c9:= .int .i64 0) (v0:= .int .i64 0) (v1:= .int .i64 le) (v2:= .int .i64 x1) (v3:= .int .i64 x2) (v4:= .int .i64 x3) (v5:= .int .i64 x4) (v6:= .int .i64 y1) (v7:= .int .i64 y2) (v8:= .int .i64 y3) (v9:= .int .i64 y4)
         haveI:=q8.drew.i
         exact A4 (C:=rw AG 4 (.slice a7 jl c7) (AO (join n.Ag))*Sl.block (wc.heap.size+1) 29 [.slice (some ⟨eb,eo,none⟩) le cE]) (by unfold dD Dw;ac_rfl)
   obtain ⟨ce,q6⟩:=hcut
   have ax:Aside (lf=true→AH n.Ag):=ce
   rw[al.out] at q6⊢
   clear q5 this ce al
   obtain ⟨xh,xc,⟨x1,x2,x3,x4⟩,⟨x5,x6,x7,x8⟩⟩:=x0
   unfold dD Dw at q6
   simp only[List.cons_append,List.nil_append] at q6
   haveI:=q6.i
   go_wp2_with fail
   go_loopg [80] lk (fun gg ds wr=> ∃(j m3:Nat)(s3:TS)(K3:List (Int×Sn))(x:Sn),ds= .int .i64 j∧j≤lk∧Aside (lS V N f g n lf m1 s K ⟨xh,xc,⟨x1,x2,x3,x4⟩,⟨x5,x6,x7,x8⟩⟩ gg lk j m3 s3 K3 x)∧
    Sat (Sl.block br Ik (dD x)*(Sl.block b0 C1 [.bool lf,.slice aE le cE,.slice aK lk cK]*(I*(Sl.block N9 Ik [.int .i64 0,.int .i64 0,.int .i64 0,.int .i64 0,.int .i64 0,.int .i64 0,.int .i64 0,.int .i64 0,.int .i64 0,.int .i64 0]*(Ad h s3*(Sl.block B Lh [.map (some M)]*(Sl.block G Q2 [.pointer (some ⟨h.t,0,none⟩)]*(Sl.block D Q0 [.func (Fn.func 128) #[] #[.pointer (some ⟨B,0,none⟩),.pointer (some ⟨G,0,none⟩),.pointer (some ⟨D,0,none⟩)]]*(mp A8 M (kn K3)*F))))))))) wr)
   case atStart=>
    refine ⟨0,m1,s2,K,_,rfl,by omega,⟨rfl,o.out.1,o.out.2.1,o.out.2.2,HK.out,by omega,fun e=>?_,fun _=>rfl,fun q hq=> .inl hq,fun _=>rfl,?_,?_,fun e=>by omega⟩,q6⟩
    · rw[←P.out,e]
      exact VG.zero g n
    · rw[←P.out]
      cases lf with
      |true=>simp only[if_true];have:=T.out.2;omega
      |false=>exact ⟨by simp[JH],by simp[JH]⟩
    rw[←P.out]
    cases lf with
    |true=>exact ⟨by simp,by simp⟩
    |false=>exact ⟨by simp[JH],by simp[JH]⟩
   obtain ⟨j,m3,s3,K3,x,rfl,hj,A,q7⟩:=hrel
   clear q6
   obtain ⟨Z,zc,⟨z1,z2,z3,z4⟩,⟨z5,z6,z7,z8⟩⟩:=x
   unfold dD Dw at q7
   simp only[List.cons_append,List.nil_append] at q7
   haveI:=q7.i
   by_cases ez:j<lk
   · exfalso
     have h7:=(BS az.out (bm.out n u.out)).1
     have r:=ay.out.2
     rw[h7] at r
     simp at r
     omega
   have eg: ¬(j:Int)<lk:=by omega
   obtain rfl:j=lk:=by omega
   have HC:Aside (MU V no top ⟨Z,zc,⟨z1,z2,z3,z4⟩,⟨z5,z6,z7,z8⟩⟩):=(by
    cases lf with
    | true =>
      have r:=(BS az.out O.out).1
      have h8:=ay.out.2
      rw[r] at h8
      rw[A.out.zero h8.symm]
      exact d2.out rfl (ax.out rfl)
    | false =>
      have r:=A.out.run rfl
      rw[←ay.out.2] at r
      exact r.done u.out O.out H4.out:MU _ _ _ _)
   have ar:0≤no∧no<N:=⟨by
    have r:=(HV.out no n u.out).2
    rcases Int.lt_or_le no 0 with h8|h8
    · have:V no=none:=A.out.Qq.out (by omega)
      rw[u.out] at this
      cases this
    exact h8,(HV.out no n u.out).2⟩
   have a8:Aside (0≤no∧no<N):=ar
   clear ar
   have bl : Aside (K = [] → Z < f) := (fun e => by
    by_cases c5:j=0
    · have r:=A.out.zero c5
      have hG:=HG.out
      have h7:=P.out
      rw[←r] at h7
      cases lf with
      | true =>
        simp only[if_true] at h7
        have h6:=congrArg Sn.h h7
        simp only at h6
        omega
      | false =>
        have h6:=congrArg Sn.h h7
        have:(if false=true then (⟨0,n.Ag.length,n.Ag.headD e0,n.Ag.getLastD e0⟩:Sn) else JH).h=0:=rfl
        rw[this] at h6
        simp only at h6
        omega
    exact (A.out.low (by omega)).2 e:_→_)
   have bo : Aside (top = false → F9 no K3 = none) := (fun e => by
    cases hq:F9 no K3 with
    |none=>rfl
    | some z =>
      exfalso
      have r:=Lz hq
      rcases A.out.bG _ r with h8|h8
      · have h7:=HZ.out e
        have: ∀(K:List (Int×Sn)),(no,z)∈K→F9 no K≠none:=fun K hK h6=>by
         have h5:=Lx (i:=no.toNat) h6 (by have:=a8.out.1;omega)
         unfold Qj at h5
         rw[List.any_eq_false] at h5
         have:=h5 _ hK
         simp at this
         have:=a8.out.1
         omega
        exact this K h8 h7
      have h6:=A.out.kn.get hq
      obtain ⟨q1,q2⟩:=id HC.out
      rw[e] at q2
      have h5:=h6.of bp.out q2
      rw[←h5] at h8
      simp only at h8
      omega:_→_)
   have bk:Aside (m1+13*fr N K3≤m3+j+13*fr N K∧m=m1+1∧j≤12):=⟨A.out.mO,d0.out,cg⟩
   have HA:Aside (Kn V K3∧Dp V m3 s3∧s3.sp=s.sp∧s3.ck.d=s.ck.d∧ ∀q∈K3,q∈K∨q.2.h+1≤Z):=⟨A.out.kn,A.out.Qq,A.out.sp,A.out.d,A.out.bG⟩
   clear A
   cases top with
   | true =>
     go_wp2
     go_returns
     have q8:=Kh (w:=wr) (b:=N9) (e:=Ik) (c0:= .int .i64 0) (c1:= .int .i64 0) (c2:= .int .i64 0) (c3:= .int .i64 0) (c4:= .int .i64 0) (c5:= .int .i64 0) (c6:= .int .i64 0) (c7:= .int .i64 0) (c8:= .int .i64 0) (c9:= .int .i64 0) (v0:= .int .i64 Z) (v1:= .int .i64 zc) (v2:= .int .i64 z1) (v3:= .int .i64 z2) (v4:= .int .i64 z3) (v5:= .int .i64 z4) (v6:= .int .i64 z5) (v7:= .int .i64 z6) (v8:= .int .i64 z7) (v9:= .int .i64 z8)
     haveI:=q8.i
     refine ⟨s3,K3,CL h s3 B G D M K3 F,HA.out.2.2.1,HA.out.2.2.2.1,.inl ⟨⟨Z,zc,⟨z1,z2,z3,z4⟩,⟨z5,z6,z7,z8⟩⟩,m3,rfl,HC.out,bl.out,HA.out.1,fun q hq=>(HA.out.2.2.2.2 q hq).imp id fun r=>?_,HA.out.2.1,?_⟩⟩
     · simp only;omega
     have:=bk.out;simp only[if_true];omega
   | false =>
     go_wp2
     go_returns
     have q8:=Kh (w:=Gt Tryz.prog Lh M (A8 no) (.agg #[.int .i64 Z,.int .i64 zc,.int .i64 z1,.int .i64 z2,.int .i64 z3,.int .i64 z4,.int .i64 z5,.int .i64 z6,.int .i64 z7,.int .i64 z8]) wr) (b:=N9) (e:=Ik) (c0:= .int .i64 0) (c1:= .int .i64 0) (c2:= .int .i64 0) (c3:= .int .i64 0) (c4:= .int .i64 0) (c5:= .int .i64 0) (c6:= .int .i64 0) (c7:= .int .i64 0) (c8:= .int .i64 0) (c9:= .int .i64 0) (v0:= .int .i64 Z) (v1:= .int .i64 zc) (v2:= .int .i64 z1) (v3:= .int .i64 z2) (v4:= .int .i64 z3) (v5:= .int .i64 z4) (v6:= .int .i64 z5) (v7:= .int .i64 z6) (v8:= .int .i64 z7) (v9:= .int .i64 z8)
     haveI:=q8.i
     have ey:=p' (y:=⟨Z,zc,⟨z1,z2,z3,z4⟩,⟨z5,z6,z7,z8⟩⟩) (bo.out (by simp)) a8.out.1 a8.out.2
     refine ⟨s3,M5 no ⟨Z,zc,⟨z1,z2,z3,z4⟩,⟨z5,z6,z7,z8⟩⟩ K3,?_,HA.out.2.2.1,HA.out.2.2.2.1,.inl ⟨⟨Z,zc,⟨z1,z2,z3,z4⟩,⟨z5,z6,z7,z8⟩⟩,m3,rfl,HC.out,bl.out,HA.out.1.put HC.out,fun q hq=>?_,HA.out.2.1,?_⟩⟩
     · exact (E3 (Ad h s3) (Sl.block B Lh [.map (some M)]) (Sl.block G Q2 [.pointer (some ⟨h.t,0,none⟩)]) (Sl.block D Q0 [.func (Fn.func 128) #[] #[.pointer (some ⟨B,0,none⟩),.pointer (some ⟨G,0,none⟩),.pointer (some ⟨D,0,none⟩)]]) (mp A8 M (CW no (.agg #[.int .i64 Z,.int .i64 zc,.int .i64 z1,.int .i64 z2,.int .i64 z3,.int .i64 z4,.int .i64 z5,.int .i64 z6,.int .i64 z7,.int .i64 z8]) (kn K3))) F).eq (by rw[JY,←Sv];rfl)
     · rcases L0 hq with e|e
       · rw[e];simp only;exact .inr (Int.le_refl _)
       exact (HA.out.2.2.2.2 q e).imp id fun r=>by simp only;omega
     have:=bk.out;simp only[Bool.false_eq_true,if_false];omega
end Go.Proofs.YtfhbmblbidcmmaaGreat
namespace Go.Proofs.YtfhbmblbidcmmaaGreat
open Go.RowKit Go.Sl Go.Dk Go.Tr
open Go.PW (A8)
attribute [local go_sem] S9
variable [En]
theorem QW(f:Nat)(p: ∀g,f=g+1→Oq g):Oq f:=by
 intro V N h s m K no top b d c M F w l a i k j hm hs
 cases o:V no with
 |none=>exact OX f p V N h s m K no top b d c M F w (fun n e=>by rw[o] at e;cases e) l a i k j hm hs
 | some n =>
  cases hl:n.leaf with
  |true=>exact Zm f p V N h s m K no top b d c M F w (fun n' e=>by rw[o] at e;cases e;exact hl) l a i k j hm hs
  |false=>exact OX f p V N h s m K no top b d c M F w (fun n' e=>by rw[o] at e;cases e;exact hl) l a i k j hm hs
theorem Ui: ∀f,Oq f
 |0=>QW 0 fun g h=>by omega
 | f + 1 => QW (f + 1) fun g h => by
  have:g=f:=by omega
  subst this
  exact Ui g
end Go.Proofs.YtfhbmblbidcmmaaGreat
namespace Go.Proofs.YtfhbmblbidcmmaaGreat
open Go.RowKit Go.Sl Go.Dk Go.Tr
open Go.PW (A8)
theorem PD{P:Program}{w:World}{a:Addr}{m:Mode}(f:Fn)(x y:Array Value):(store a (.func f x y) m).run P w=stored P w a (.func f x y) m:=run_store P w a _ m rfl
attribute [local go_sem] PD
theorem MZ(E:Nat)(w:World):
 CallsD Tryz.prog 73 #[.pointer (some ⟨E,0,none⟩)] .returning w fun e c d=>e= .returned (.tuple #[])∧c= .returning∧d=w:=by
 refine callsD_of_wpS Tryz.func73 rfl fun a cs b=>?_
 apply wpS_seq
 apply wpS_region
 simp[wpOpsS,go_sem,recoverD,b,Tryz.ntmps73,Exit.thenS]
 apply wpS_seq
 apply wpS_region
 simp[wpOpsS,go_sem,Exit.thenS]
 refine wpS_cond (t:=false) (by simp[Act.eval,Array.replicate]) ?_
 simp only[Bool.false_eq_true,if_false]
 refine wpS_of_wp (wp_skip ?_)
 cases a
 simp_all[bodyPostS,results,Tryz.results73,Exit.thenS]
theorem Qg(E:Nat)(a:Int)(b:Value)(F:Ab)(w:World)(hs:Sat (Sl.block E Fz [b]*F) w):
 CallsD Tryz.prog 73 #[.pointer (some ⟨E,0,none⟩)] (.panicking (CO a)) w fun e g j=>e= .returned (.tuple #[])∧g= .panicking [{ v:= .iface dV (.agg #[.int .i64 a]),recovered:=true }]∧Sat (Sl.block E Fz [.int .i64 a]*F) j:=by
 haveI:=hs.i
 refine callsD_of_wpS Tryz.func73 rfl fun c cs d=>?_
 unfold CO at d
 apply wpS_seq
 apply wpS_region
 simp[wpOpsS,go_sem,recoverD,d,Tryz.ntmps73,Exit.thenS]
 apply wpS_seq
 apply wpS_region
 simp[wpOpsS,go_sem,Exit.thenS]
 refine wpS_cond (t:=true) (by simp[Act.eval,Array.replicate]) ?_
 simp only[if_true]
 refine wpS_of_wp ?_
 go_wp2_with fail
 refine Calls.mono (Hi a _ _ hs) ?_
 rintro k l ⟨rfl,f⟩
 haveI:=f.i
 go_wp2
 simp[bodyPostS,results,Tryz.results73]
 exact Av (by ac_rfl)
theorem YF(j a b c d e f b2 g i:Int)(w:World):(Instr.field Ik (.agg #[.int .i64 j,.int .i64 a,.int .i64 b,.int .i64 c,.int .i64 d,.int .i64 e,.int .i64 f,.int .i64 b2,.int .i64 g,.int .i64 i]) 1).run Tryz.prog w= .ok (.int .i64 a) w:=by kernel_rfl
theorem Uq{A:Ab}{w:World}{n:Nat}[q:AV A w][z:Sz w n]:AV (mp A8 n (kn [])*A) (w.alloc (.map #[] 0)):=⟨by
 have h:=q.out.CX (.map #[] 0)
 rw[z.out] at h
 exact Sat.Ep (kf:=A8) (ms:= []) (b:=n) (o:= .map #[] 0) ⟨#[],0,rfl,rfl,by simp,by simp⟩ h⟩
attribute [local instance 20000] Uq
variable [En]
def Tm(V:Int→Option Nd)(N:Nat)(h:Th)(m:Nat)(s:TS)(no:Int)(F:Ab)(e:Ending)(a:World):Prop:= ∃s',Sat (Ad h s'*F) a∧s'.sp=s.sp∧s'.ck.d=s.ck.d∧
 ((∃y m',e= .returned (Xi y)∧DX V 13 no true=some y∧Dp V m' s'∧m≤m'+13*N+13)∨(e= .panicked (CO 13)∧DX V 13 no true=none∧Dp V 0 s'))
theorem ZP(V:Int→Option Nd)(N:Nat)(h:Th)(m:Nat)(s:TS)(no:Int)(F:Ab)(w:World)(r:no≠0)(B: ∀p n,V p=some n→may n=true∧p<N)(R:Dp V m s)(hm:13*N+182≤m)(hs:Sat (Ad h s*F) w):
 Calls Tryz.prog 75 #[.pointer (some ⟨h.t,0,none⟩),.int .i64 no,.bool true] w (Tm V N h m s no F):=by
 have a5: ∀(Q:Fn)(first cap:Array Value)(w:World),(Instr.makeFunc Q first cap).run Tryz.prog w= .ok (.func Q first cap) w:=fun _ _ _ _=>rfl
 have a6:= @run_makeMap Tryz.prog
 have a:=fun j l k M F w q=>Ui 13 V N h s m [] no true j l k M F w (by omega) r (fun p hp=>by cases hp) B R (by have:=hH N [];omega) q
 have z:(13:Int)-((13:Nat):Int)=0:=rfl
 rw[z] at a
 have v:Aside (∀(j l k M:Nat)(F:Ab)(w:World),Sat (Ad h s*(Gl j l k M h []*F)) w→Calls Tryz.prog 128 #[.int .i64 no,.bool true,.int .i64 0,.pointer (some ⟨j,0,none⟩),.pointer (some ⟨l,0,none⟩),.pointer (some ⟨k,0,none⟩)] w (Li V N h j l k M 13 m s [] no true F)):=a
 have x:Aside (∀p n,V p=some n→may n=true):=fun p n h=>(B p n h).1
 haveI:=hs.i
 clear a r B R hm
 go_enter Tryz.func75,Tryz.ntmps75
 go_wp2_with fail
 with_reducible refine Calls.mono (v.out (w.heap.size+1+1+1) w.heap.size (w.heap.size+1+1+1+1) (w.heap.size+1+1) _ _ (QX h s (w.heap.size+1+1+1) w.heap.size (w.heap.size+1+1+1+1) (w.heap.size+1+1) [])) ?_
 rintro e w2 ⟨s2,Z,U,f,D,c⟩
 have q3:=U.eq (JY h s2 (w.heap.size+1+1+1) w.heap.size (w.heap.size+1+1+1+1) (w.heap.size+1+1) Z _)
 haveI:=q3.i
 clear U hs
 rcases c with ⟨y,G,rfl,u,T,_,_,hr,hb⟩|⟨rfl,u,hr⟩
 ·have g:Aside (DX V 13 no true=some y∧Dp V G s2∧s2.sp=s.sp∧s2.ck.d=s.ck.d∧m≤G+13*N+13):=⟨u.at x.out (by simpa using T rfl),hr,f,D,by
   have:=hH N []
   simp only[if_true] at hb
   omega⟩
  obtain ⟨N6,o⟩:=Aq (w.heap.size+1)
  have Y:Aside (w.heap.size+1=N6):=o
  clear u T hr hb f D o
  obtain ⟨X,W,⟨H,I,J,K⟩,⟨L,b2,O,P⟩⟩:=y
  unfold Xi
  simp only
  go_wp2
  go_returns
  have q8:=Kh (w:=w2) (b:=w.heap.size+1) (e:=Ik) (c0:= .int .i64 0) (c1:= .int .i64 0) (c2:= .int .i64 0) (c3:= .int .i64 0) (c4:= .int .i64 0) (c5:= .int .i64 0) (c6:= .int .i64 0) (c7:= .int .i64 0) (c8:= .int .i64 0) (c9:= .int .i64 0) (v0:= .int .i64 X) (v1:= .int .i64 W) (v2:= .int .i64 H) (v3:= .int .i64 I) (v4:= .int .i64 J) (v5:= .int .i64 K) (v6:= .int .i64 L) (v7:= .int .i64 b2) (v8:= .int .i64 O) (v9:= .int .i64 P)
  haveI:=q8.i
  exact ⟨s2,Ao _ _,g.out.2.2.1,g.out.2.2.2.1,.inl ⟨⟨X,W,⟨H,I,J,K⟩,⟨L,b2,O,P⟩⟩,G,rfl,g.out.1,g.out.2.1,g.out.2.2.2.2⟩⟩
 exact ⟨rfl,s2,Ao _ _,f,D,.inr ⟨rfl,u,hr⟩⟩
def H'(V:Int→Option Nd)(N:Nat)(h:Th)(m:Nat)(s:TS)(root:Int)(F:Ab)(e:Ending)(a:World):Prop:= ∃s' m',Sat (Ad h s'*F) a∧s'.sp=s.sp∧s'.ck.d=s.ck.d∧Dp V m' s'∧
 e= .returned (.int .i64 (if (A9 V root).ok then 0 else 13))∧((A9 V root).ok=true→m≤m'+13*N+13)
theorem YA(V:Int→Option Nd)(N:Nat)(h:Th)(m:Nat)(s:TS)(root:Int)(F:Ab)(w:World)(v: ∀p n,V p=some n→may n=true∧p<N)(u:Dp V m s)(hm:13*N+182≤m)(hs:Sat (Ad h s*F) w):
 Calls Tryz.prog 17 #[.pointer (some ⟨h.t,0,none⟩),.int .i64 root] w (H' V N h m s root F):=by
 have a0: ∀(I:Fn)(first cap:Array Value)(w:World),(Instr.makeFunc I first cap).run Tryz.prog w= .ok (.func I first cap) w:=fun _ _ _ _=>rfl
 haveI:=hs.i
 by_cases r:root=0
 · subst r
   have O:Aside (Dp V m s):=u
   clear u v hm hs
   go_enter_defers Tryz.func17,Tryz.ntmps17
   go_wp2
   refine leaves_cons (f:=73) (args:= #[.pointer (some ⟨w.heap.size,0,none⟩)]) (by simp) (by simp[go_sem]) ?_
   refine (MZ _ _).mono ?_
   rintro e K H ⟨rfl,rfl,rfl⟩
   simp[Leaves,settle,results,Tryz.results17,go_sem]
   exact ⟨s,m,Ao _ _,rfl,rfl,O.out,rfl,fun _=>by omega⟩
 have a5:((root:Int)==0)=false:=by simpa using r
 have a:Aside (∀p n,V p=some n→may n=true):=fun p n h=>(v p n h).1
 have o:=fun F w q=>ZP V N h m s root F w r v u hm q
 have k:Aside (∀F w,Sat (Ad h s*F) w→Calls Tryz.prog 75 #[.pointer (some ⟨h.t,0,none⟩),.int .i64 root,.bool true] w (Tm V N h m s root F)):=o
 have x:Aside ((A9 V root).ok=true↔ ∃y,DX V 13 root true=some y):=j' a.out r
 obtain ⟨E,J⟩:=Aq w.heap.size
 have HE:Aside (w.heap.size=E):=J
 clear o v u hm hs r J
 go_enter_defers Tryz.func17,Tryz.ntmps17
 go_wp2_with fail
 with_reducible refine Calls.mono (k.out _ _ (Ae (Ad h s))) ?_
 rintro e L ⟨s2,q2,c,B,b⟩
 haveI:=q2.i
 rcases b with ⟨y,G,rfl,g,hr,hb⟩|⟨rfl,g,hr⟩
 · have D:mM y:=MU.low a.out ⟨13,g⟩
   have z:y.count≤1024:=j9 a.out g
   have j:Aside ((A9 V root).ok=true∧Dp V G s2∧s2.sp=s.sp∧s2.ck.d=s.ck.d∧m≤G+13*N+13):=⟨x.out.2 ⟨y,g⟩,hr,c,B,hb⟩
   clear g hr hb c B D k x
   obtain ⟨yh,M,⟨P,Q,R,T⟩,⟨U,b2,W,X⟩⟩:=y
   simp only at z
   unfold Xi
   simp only
   have Y:decide ((1024:Int)<M)=false:=decide_eq_false (by omega)
   have Z:=fun w=>YF yh M P Q R T U b2 W X w
   go_wp2
   refine leaves_cons (f:=73) (args:= #[.pointer (some ⟨w.heap.size,0,none⟩)]) (by simp) (by simp[go_sem]) ?_
   refine (MZ _ _).mono ?_
   rintro e K H ⟨rfl,rfl,rfl⟩
   simp[Leaves,settle,results,Tryz.results17,go_sem]
   exact ⟨s2,G,Ao _ _,j.out.2.2.1,j.out.2.2.2.1,j.out.2.1,by rw[j.out.1];rfl,fun _=>j.out.2.2.2.2⟩
 have l:(A9 V root).ok=false:=by
  cases hq:(A9 V root).ok with
  |false=>rfl
  | true =>
    obtain ⟨y,hy⟩:=x.out.1 hq
    rw[g] at hy
    cases hy
 show bodyPostD _ _ _ (.panic (CO 13)) _ L
 refine leaves_cons (f:=73) (args:= #[.pointer (some ⟨w.heap.size,0,none⟩)]) (by simp) (by simp[go_sem]) ?_
 refine (Qg w.heap.size 13 (.int .i64 0) _ L (Ae (Sl.block w.heap.size Fz [.int .i64 0]))).mono ?_
 rintro e K w3 ⟨rfl,rfl,q3⟩
 haveI:=q3.i
 simp[Leaves,settle,results,Tryz.results17,go_sem]
 exact ⟨s2,0,Ao _ _,c,B,hr,by rw[l];rfl,fun e=>by rw[l] at e;cases e⟩
end Go.Proofs.YtfhbmblbidcmmaaGreat
namespace Go.Proofs.YtfhbmblbidcmmaaGreat
open Go.RowKit Go.Sl Go.Dk Go.Tr
abbrev K6:TypeId:=230
theorem P5{V:Int→Option Nd}{bl:Int→Lk} : ∀(ks:List Kd)(first:Bool)(o:Lk),o.Ag.length≤1024→(B8 V bl ks first o).Ag.length≤1024
 | [],first,o,h=>by unfold B8;exact h
 | k :: ks, first, o, h => by
  unfold B8
  cases hr:GS (bl k.Ap) (Gu (Bx V k.Ap)) first k o with
  |none=>simp[Fm]
  | some o' =>
   simp only
   obtain ⟨a,b,c,d,rfl⟩:=GK hr
   exact P5 ks false _ d
theorem UM{V:Int→Option Nd}(a: ∀p n,V p=some n→may n=true)(f:Nat)(no:Int)(top:Bool):(AN V f no top).Ag.length≤1024:=by
 cases f with
 |zero=>simp[AN,Fm]
 | succ f =>
  unfold AN
  cases b:V no with
  |none=>simp[Fm]
  | some n =>
   simp only
   split
   ·simp[Fm]
   refine P5 n.kids true _ ?_
   have:=(Cm (a no n b)).1
   simp only
   omega
theorem WM{V:Int→Option Nd}(a: ∀p n,V p=some n→may n=true)(r:Int):(A9 V r).Ag.length≤1024:=by
 unfold A9
 split
 ·simp
 split
 ·simp[Fm]
 exact UM a 13 r true
def Kp(d:Dk)(a b:Nat)(kn:List Ar):Prop:= ∀x∈kn,D4 (CJ d a b x.src) x=true
def Fg(V:Int→Option Nd)(d:Dk)(a b:Nat)(v:Int×Int):Bool:=(A9 V v.1).ok&&(decide (Aa (A9 V v.1).Ag=v.2)&&(A9 V v.1).Ag.all fun x=>D4 (CJ d a b x.src) x)
theorem Kp.add{d:Dk}{a b:Nat}{kn:List Ar}(h:Kp d a b kn){x:Ar}(hx:D4 (CJ d a b x.src) x=true):Kp d a b (VP kn x):=by
 unfold VP
 split
 ·exact h
 intro y hy
 rcases List.mem_append.1 hy with hy|hy
 ·exact h y hy
 simp at hy;subst hy;exact hx
theorem Jh{L M:Nat}{h:Th}{s:TS}{a b:Nat}{kn:List Ar}{F:Ab}{w:World}(hs:Sat (Ad h s*(Qf L M h a b kn*F)) w):Sat (Ad h s*(Sl.block L Q1 [.pointer (some ⟨h.t,0,none⟩),.pointer (some ⟨h.D,0,none⟩),.string EO,.string EJ,.int .i64 a,.int .i64 b,.map (some M)]*(mp DS M (FE kn)*F))) w:=hs.eq (by unfold Qf;rw[Ax])
def VO[En](V:Int→Option Nd)(L M:Nat)(h:Th)(m:Nat)(s:TS)(v:Int×Int)(b c:Nat)(F:Ab)(e:Ending)(f:World):Prop:= ∃(s':TS)(a:List Ar)(m':Nat),Sat (Ad h s'*(Qf L M h b c a*F)) f∧s'.sp=s.sp∧s'.ck.d=s.ck.d∧Dp V m' s'∧Kp s.ck.d b c a∧
 e= .returned (.int .i64 (if Fg V s.ck.d b c v then 0 else 13))∧(Fg V s.ck.d b c v=true→m≤m')
theorem Tp{l:List Ar}{p:Ar→Bool}{i:Nat}{x:Ar}(hx:l[i]?=some x)(h: ∀y∈l.take i,p y=true)(hp:p x=true): ∀y∈l.take (i+1),p y=true:=by
 intro y hy
 rw[List.take_add_one,hx] at hy
 rcases List.mem_append.1 hy with hy|hy
 ·exact h y hy
 simp at hy;subst hy;exact hp
theorem V9[En](V : Int → Option Nd)(N L M : Nat)(h : Th)(m : Nat)(s : TS)(r n : Int)(b f : Nat)(kn : List Ar)(F : Ab)(w : World)(Z : ∀ p n, V p = some n → may n = true ∧ 1 ≤ p ∧ p < N)(hR : Dp V (m + (13 * N + 1051)) s)
 (ho:b≤1099511627776) (ht:f≤1099511627776) (hf:Db s.ck.d EO∧Db s.ck.d EJ) (aq:Kp s.ck.d b f kn) (hs:Sat (Ad h s*(Qf L M h b f kn*F)) w):
 Calls Tryz.prog 124 #[.pointer (some ⟨L,0,none⟩),.agg #[.int .i64 r,.int .i64 n]] w (VO V L M h m s (r,n) b f F):=by
 have X:Aside (Kp s.ck.d b f kn):=aq
 have an:=fun F w q=>YA V N h (m+(13*N+1051)) s r F w (fun p n hp=>⟨(Z p n hp).1,(Z p n hp).2.2⟩) hR (by omega) q
 have l:=WM (fun p n hp=>(Z p n hp).1) r
 have ar:PY true 13 (A9 V r):=J7 (fun p n h=>(Z p n h).1) r
 obtain ⟨ok,O⟩:=Aq ((A9 V r).ok)
 obtain ⟨es,K⟩:=Aq ((A9 V r).Ag)
 have Y:Aside (Fg V s.ck.d b f (r,n)=(ok&&(decide (Aa es=n)&&es.all fun x=>D4 (CJ s.ck.d b f x.src) x))):=by
  show _=_
  unfold Fg
  rw[O,K]
 obtain ⟨I,J⟩: ∃x:Int,(if ok=true then (0:Int) else 13)=x:=⟨_,rfl⟩
 have ah:Aside ((if ok=true then (0:Int) else 13)=I):=J
 have ai:Aside (∀F w,Sat (Ad h s*F) w→Calls Tryz.prog 17 #[.pointer (some ⟨h.t,0,none⟩),.int .i64 r] w fun e v=> ∃(s1:TS)(m1:Nat),e= .returned (.int .i64 I)∧Aside (s1.sp=s.sp∧s1.ck.d=s.ck.d∧Dp V m1 s1∧(ok=true→m+1038≤m1))∧Sat (Ad h s1*F) v):=fun F w q=>(an F w q).mono fun e v ⟨s1,m1,k1,k2,k3,k4,k5,k6⟩=>⟨s1,m1,by rw[k5,O,J],⟨k2,k3,k4,fun e=>by rw[←O] at e;have:=k6 e;omega⟩,k1⟩
 have ak:Aside (ok=true→ ∀s1:TS,s1.sp=s.sp→s1.ck.d=s.ck.d→Dp V (m+1038) s1→ ∃s2 s3:TS,FC Ah r s1= .ok (Aa es) s2∧PJ Ah r s2= .ok es s3∧Dp V m s3∧s3.sp=s.sp∧s3.ck.d=s.ck.d∧Dp V m s2∧s2.sp=s.sp∧s2.ck.d=s.ck.d):=by
  intro e s1 h1 h2 h3
  rw[←O] at e
  obtain ⟨s2,a1,U⟩:=Xt (fun p n hp=>⟨(Z p n hp).1,(Z p n hp).2.1⟩) (m:=m+1037) (s:=s1) h3 e
  obtain ⟨s3,b1,b2⟩:=Xq (fun p n hp=>⟨(Z p n hp).1,(Z p n hp).2.1⟩) (m:=m) U.Qq e l
  rw[K] at a1 b1
  exact ⟨s2,s3,a1,b1,b2.Qq,by rw[b2.sp,U.sp,h1],by rw[b2.dk,U.dk,h2],U.Qq.less (by omega),by rw[U.sp,h1],by rw[U.dk,h2]⟩
 rw[K] at l
 have aa:Aside (es.length≤1024∧ ∀x∈es,Ai x=true):=⟨l,by rw[←K];exact ar.may⟩
 have G:Aside (Db s.ck.d EO∧Db s.ck.d EJ∧b≤1099511627776∧f≤1099511627776):=⟨hf.1,hf.2,ho,ht⟩
 have h0:=Jh hs
 obtain ⟨H,ab⟩:=Aq w.heap.size
 haveI:=h0.i
 clear hs aq an l ar O K hf hR ho ht Z J
 go_enter Tryz.func124,Tryz.ntmps124
 go_wp2_with fail
 have q1:Sat (Ad h s*(Sl.block L Q1 [.pointer (some ⟨h.t,0,none⟩),.pointer (some ⟨h.D,0,none⟩),.string EO,.string EJ,.int .i64 b,.int .i64 f,.map (some M)]*(mp DS M (FE kn)*(Sl.block H K6 [.int .i64 r,.int .i64 n]*F)))) (w.alloc (.cells #[.int .i64 r,.int .i64 n] K6)):=by
  rw[←ab]
  exact Av (by ac_rfl)
 try rw[ab]
 generalize w.alloc (.cells #[.int .i64 r,.int .i64 n] K6)=w1 at q1⊢
 clear ab h0 this
 haveI:=q1.i
 go_cut [5] (fun t5 wx=> ∃(s1:TS)(m1:Nat),t5= .int .i64 I∧Aside (s1.sp=s.sp∧s1.ck.d=s.ck.d∧Dp V m1 s1∧(ok=true→m+1038≤m1))∧Sat (Ad h s1*(Sl.block L Q1 [.pointer (some ⟨h.t,0,none⟩),.pointer (some ⟨h.D,0,none⟩),.string EO,.string EJ,.int .i64 b,.int .i64 f,.map (some M)]*(mp DS M (FE kn)*(Sl.block H K6 [.int .i64 r,.int .i64 n]*F)))) wx)
 case first=>
  go_region_held3 (fun v=>v.cell? ⟨L,0,none⟩=some (.pointer (some ⟨h.t,0,none⟩))∧v.cell? ⟨H,0,none⟩=some (.int .i64 r)) (exact ⟨Ac _ _ _,Ac _ _ _⟩) (first
   |(go_at_call 17;with_reducible refine Calls.mono (ai.out _ _ (Ae (Ad h s))) ?_;rintro e w2 ⟨s1,m1,rfl,T,q2⟩;haveI:=q2.i))
  all_goals
   go_wp2_with fail
   go_meet
   exact ⟨s1,m1,rfl,T,DE _ _ _ _ _⟩
 obtain ⟨s1,m1,rfl,T,q2⟩:=hcut
 clear q1 ai this
 haveI:=q2.i
 cases ok with
 | false =>
   have HB:Aside (Fg V s.ck.d b f (r,n)=false):=by
    show _=_
    rw[Y.out]
    rfl
   obtain rfl:(13:Int)=I:=ah.out
   go_wp2
   go_ret
   refine ⟨s1,kn,m1,(CN (A4 (C:=Sl.block H K6 [.int .i64 r,.int .i64 n]) (by ac_rfl))),T.out.1,T.out.2.1,T.out.2.2.1,X.out,by rw[HB.out];rfl,fun e=>?_⟩
   rw[HB.out] at e
   cases e
 | true =>
   obtain rfl:(0:Int)=I:=ah.out
   obtain ⟨s2,s3,a1,U,a3,a4,a5,a6⟩:=ak.out rfl s1 T.out.1 T.out.2.1 (T.out.2.2.1.less (T.out.2.2.2 rfl))
   have a0:=fun F w q=>Ib h s1 r F w q (by rw[a1];simp)
   have ac:=fun F w q=>Zl h s2 r F w q (by rw[U];simp)
   rw[a1] at a0
   rw[U] at ac
   obtain ⟨z,hz⟩:=Aq (Aa es)
   obtain ⟨k,ad⟩:=Aq es.length
   rw[hz] at a0
   have al:Aside (∀F w,Sat (Ad h s1*F) w→Calls Tryz.prog 86 #[.pointer (some ⟨h.t,0,none⟩),.int .i64 r] w fun e v=>e= .returned (.tuple #[.int .i64 z,.int .i64 0])∧Sat (Ad h s2*F) v):=a0
   have aj:Aside (∀F w,Sat (Ad h s2*F) w→Calls Tryz.prog 44 #[.pointer (some ⟨h.t,0,none⟩),.int .i64 r] w fun e v=> ∃(a:Option Addr)(c:Nat),e= .returned (.tuple #[.slice a k c,.int .i64 0])∧Sat (rw AG 4 (.slice a k c) (AO es)*(Ad h s3*F)) v):=fun F w q=>by
    have:=ac F w q
    rw[←ad]
    exact this
   have u:Aside (Dp V m s3∧s3.sp=s.sp∧s3.ck.d=s.ck.d∧es.length=k∧k≤1024∧ ∀x∈es,Ai x=true):=⟨a3,a4,a5,ad,by have:=aa.out.1;omega,aa.out.2⟩
   have HZ:Aside (Aa es=z):=hz
   have H2:Aside (Dp V m s2∧s2.sp=s.sp∧s2.ck.d=s.ck.d):=a6
   clear a0 ac hz ad a1 U a3 a4 a5 a6 ak aa
   go_wp2_with fail
   go_cut [6,7] (fun t6 t7 wx=>t6= .int .i64 z∧t7= .int .i64 0∧Sat (Ad h s2*(Sl.block L Q1 [.pointer (some ⟨h.t,0,none⟩),.pointer (some ⟨h.D,0,none⟩),.string EO,.string EJ,.int .i64 b,.int .i64 f,.map (some M)]*(mp DS M (FE kn)*(Sl.block H K6 [.int .i64 r,.int .i64 n]*F)))) wx)
   case first=>
    go_region_held3 (fun v=>v.cell? ⟨L,0,none⟩=some (.pointer (some ⟨h.t,0,none⟩))∧v.cell? ⟨H,0,none⟩=some (.int .i64 r)) (exact ⟨Ac _ _ _,Ac _ _ _⟩) (first
     |(go_at_call 86;with_reducible refine Calls.mono (al.out _ _ (Ae (Ad h s1))) ?_;rintro e w3 ⟨rfl,q3⟩;haveI:=q3.i))
    all_goals
     go_wp2_with fail
     go_meet
     exact ⟨rfl,rfl,DE _ _ _ _ _⟩
   obtain ⟨rfl,rfl,q3⟩:=hcut
   clear q2 al this
   haveI:=q3.i
   cases am:(z !=n) with
   | true =>
     have HB:Aside (Fg V s.ck.d b f (r,n)=false):=by
      show _=_
      rw[Y.out,HZ.out,decide_eq_false (by simpa using am: ¬z=n)]
      rfl
     go_wp2
     go_ret
     refine ⟨s2,kn,m,CN (A4 (C:=Sl.block H K6 [.int .i64 r,.int .i64 n]) (by ac_rfl)),H2.out.2.1,H2.out.2.2,H2.out.1,X.out,by rw[HB.out];rfl,fun _=>Nat.le_refl _⟩
   | false =>
     have a8:Aside (Fg V s.ck.d b f (r,n)=es.all fun x=>D4 (CJ s.ck.d b f x.src) x):=by
      show _=_
      rw[Y.out,HZ.out,decide_eq_true (by simpa using am:z=n)]
      simp
     clear Y HZ T H2
     go_wp2_with fail
     go_cut [8,7] (fun t8 t7 wx=> ∃(a:Option Addr)(c:Nat),t8= .slice a k c∧t7= .int .i64 0∧Sat (rw AG 4 (.slice a k c) (AO es)*(Ad h s3*(Sl.block L Q1 [.pointer (some ⟨h.t,0,none⟩),.pointer (some ⟨h.D,0,none⟩),.string EO,.string EJ,.int .i64 b,.int .i64 f,.map (some M)]*(mp DS M (FE kn)*(Sl.block H K6 [.int .i64 r,.int .i64 n]*F))))) wx)
     case first=>
      go_region_held3 (fun v=>v.cell? ⟨L,0,none⟩=some (.pointer (some ⟨h.t,0,none⟩))∧v.cell? ⟨H,0,none⟩=some (.int .i64 r)) (exact ⟨Ac _ _ _,Ac _ _ _⟩) (first
       |(go_at_call 44;with_reducible refine Calls.mono (aj.out _ _ (Ae (Ad h s2))) ?_;rintro e w4 ⟨a,c,rfl,q4⟩;haveI:=q4.i))
      all_goals
       go_wp2_with fail
       go_meet
       exact ⟨a,c,rfl,rfl,E3 _ _ _ _ _ _⟩
     obtain ⟨a,c,rfl,rfl,q4⟩:=hcut
     clear q3 aj this
     haveI:=q4.i
     go_wp2_with fail
     go_loopg [9,7] k (fun g t9 t7 wr=> ∃(i:Nat)(I:Int)(j:List Ar),t9= .int .i64 i∧t7= .int .i64 I∧i≤k∧Aside (g=k-i∧Kp s.ck.d b f j∧((I=0∧ ∀x∈es.take i,D4 (CJ s.ck.d b f x.src) x=true)∨(I=13∧ ¬ ∀x∈es,D4 (CJ s.ck.d b f x.src) x=true)))∧Sat (rw AG 4 (.slice a k c) (AO es)*(Ad h s3*(Sl.block L Q1 [.pointer (some ⟨h.t,0,none⟩),.pointer (some ⟨h.D,0,none⟩),.string EO,.string EJ,.int .i64 b,.int .i64 f,.map (some M)]*(mp DS M (FE j)*(Sl.block H K6 [.int .i64 r,.int .i64 n]*F))))) wr)
     case atStart=>exact ⟨0,0,kn,rfl,rfl,by omega,⟨rfl,X.out,.inl ⟨rfl,by simp⟩⟩,q4⟩
     obtain ⟨i,I,j,rfl,rfl,hi,A,q5⟩:=hrel
     clear q4 X
     haveI:=q5.i
     have J:I=0∨I=13:=by rcases A.out.2.2 with ⟨h1,_⟩|⟨h1,_⟩<;>omega
     rcases J with rfl|rfl
     · have a9:Aside (∀x∈es.take i,D4 (CJ s.ck.d b f x.src) x=true):=by
        rcases A.out.2.2 with ⟨_,h2⟩|⟨h1,_⟩
        · exact h2
        omega
       by_cases b9:i<k
       · have ap:(i:Int)<k:=by omega
         have bo:k≤1024:=u.out.2.2.2.2.1
         obtain ⟨⟨y,P,Q,R⟩,hx⟩: ∃x,es[i]?=some x:=⟨_,List.getElem?_eq_getElem (by rw[u.out.2.2.2.1];exact b9)⟩
         have au:Au (rw AG 4 (.slice a k c) (AO es)) (.slice a es.length c) es:=by
          have:=Aj.rw q5 ⟨a,c,rfl⟩
          show Aj 4 _ _ es.length _
          rw[u.out.2.2.2.1]
          exact this
         obtain ⟨bl,ol,b7,y1,y2,y3,y4⟩:=BN au hx
         subst b7
         simp only at y1 y2 y3 y4
         have W:Aside (∀F w,Sat (Ad h s3*(Sl.block L Q1 [.pointer (some ⟨h.t,0,none⟩),.pointer (some ⟨h.D,0,none⟩),.string EO,.string EJ,.int .i64 b,.int .i64 f,.map (some M)]*(mp DS M (FE j)*F))) w→Calls Tryz.prog 154 #[.pointer (some ⟨L,0,none⟩),.agg #[.int .i64 y,.int .i64 P,.int .i64 Q,.int .i64 R]] w (Oo L M h s3 ⟨y,P,Q,R⟩ b f j F)):=fun F w q=>by
          have hm:=u.out.2.2.2.2.2 _ (List.mem_of_getElem? hx)
          have ao:Db s3.ck.d EO∧Db s3.ck.d EJ:=by rw[u.out.2.2.1];exact ⟨G.out.1,G.out.2.1⟩
          have h9:=Cl.1 hm
          simp only at h9
          have:y=0∨y=1:=by omega
          rcases this with rfl|rfl
          · exact Wd L M h s3 P Q R b f j F w hm u.out.1.ts G.out.2.2.1 G.out.2.2.2 ao q
          exact We L M h s3 P Q R b f j F w hm u.out.1.ts G.out.2.2.1 G.out.2.2.2 ao q
         have HX:Aside (es[i]?=some ⟨y,P,Q,R⟩):=hx
         clear hx au
         go_wp2_with fail
         with_reducible refine Calls.mono (W.out _ _ (q5.eq (show _=Ad h s3*(Sl.block L Q1 [.pointer (some ⟨h.t,0,none⟩),.pointer (some ⟨h.D,0,none⟩),.string EO,.string EJ,.int .i64 b,.int .i64 f,.map (some M)]*(mp DS M (FE j)*(rw AG 4 (.slice (some ⟨bl,ol,none⟩) k c) (AO es)*(Sl.block H K6 [.int .i64 r,.int .i64 n]*F)))) by ac_rfl))) ?_
         rintro e w6 (⟨o,rfl,q6⟩|⟨o,rfl,q6⟩|⟨ba,o,rfl,q6⟩)
         · have q7:=Jh q6
           have B:Aside ((⟨y,P,Q,R⟩:Ar)∈j):=o
           haveI:=q7.i
           clear q5 W o
           go_wp2_with fail
           go_roundg (k-(i+1))
           case measure=>have:=A.out.1;omega
           case rel=>exact ⟨i+1,0,j,by go_num,rfl,by omega,⟨rfl,A.out.2.1,.inl ⟨rfl,Tp HX.out a9.out (A.out.2.1 _ B.out)⟩⟩,E3 _ _ _ _ _ _⟩
         · have q7:=Jh q6
           have B:Aside (D4 (CJ s.ck.d b f y) ⟨y,P,Q,R⟩=true):=(by rw[←u.out.2.2.1];exact o:D4 (CJ s.ck.d b f y) ⟨y,P,Q,R⟩=true)
           haveI:=q7.i
           clear q5 W o
           go_wp2_with fail
           go_roundg (k-(i+1))
           case measure=>have:=A.out.1;omega
           case rel=>exact ⟨i+1,0,VP j ⟨y,P,Q,R⟩,by go_num,rfl,by omega,⟨rfl,A.out.2.1.add B.out,.inl ⟨rfl,Tp HX.out a9.out B.out⟩⟩,E3 _ _ _ _ _ _⟩
         have q7:=Jh q6
         have B:Aside (D4 (CJ s.ck.d b f y) ⟨y,P,Q,R⟩=false):=(by rw[←u.out.2.2.1];exact o:D4 (CJ s.ck.d b f y) ⟨y,P,Q,R⟩=false)
         haveI:=q7.i
         clear q5 W o ba
         go_wp2_with fail
         go_roundg (k-(i+1))
         case measure=>have:=A.out.1;omega
         case rel=>exact ⟨i+1,13,j,by go_num,rfl,by omega,⟨rfl,A.out.2.1,.inr ⟨rfl,fun h=>by have:=h _ (List.mem_of_getElem? HX.out);rw[B.out] at this;cases this⟩⟩,E3 _ _ _ _ _ _⟩
       have ap: ¬(i:Int)<k:=by omega
       have HB:Aside (Fg V s.ck.d b f (r,n)=true):=by
        show _=_
        rw[a8.out,List.all_eq_true]
        have:=a9.out
        rwa [List.take_of_length_le (by rw[u.out.2.2.2.1];omega)] at this
       go_wp2_with fail
       go_ret
       exact ⟨s3,j,m,CN (A4 (C:=rw AG 4 (.slice a k c) (AO es)*Sl.block H K6 [.int .i64 r,.int .i64 n]) (by ac_rfl)),u.out.2.1,u.out.2.2.1,u.out.1,A.out.2.1,by rw[HB.out];rfl,fun _=>Nat.le_refl _⟩
     have HB:Aside (Fg V s.ck.d b f (r,n)=false):=by
      show _=_
      rw[a8.out]
      rcases A.out.2.2 with ⟨h1,_⟩|⟨_,h2⟩
      · omega
      cases e:es.all fun x=>D4 (CJ s.ck.d b f x.src) x with
      |false=>rfl
      |true=>exact absurd (List.all_eq_true.1 e) h2
     go_wp2_with fail
     go_ret
     exact ⟨s3,j,m,CN (A4 (C:=rw AG 4 (.slice a k c) (AO es)*Sl.block H K6 [.int .i64 r,.int .i64 n]) (by ac_rfl)),u.out.2.1,u.out.2.2.1,u.out.1,A.out.2.1,by rw[HB.out];rfl,fun _=>Nat.le_refl _⟩
def Y1[En](V:Int→Option Nd)(h:Th)(m:Nat)(s:TS)(vl:List (Int×Int))(a b:Nat)(F:Ab)(e:Ending)(c:World):Prop:= ∃(s':TS)(m':Nat),Sat (Ad h s'*F) c∧s'.sp=s.sp∧s'.ck.d=s.ck.d∧Dp V m' s'∧
 e= .returned (.int .i64 (if vl.all (Fg V s.ck.d a b) then 0 else 13))∧(vl.all (Fg V s.ck.d a b)=true→m≤m')
theorem Y5{l:List (Int×Int)}{p:Int×Int→Bool}{i:Nat}{x:Int×Int}(hx:l[i]?=some x)(h: ∀y∈l.take i,p y=true)(hp:p x=true): ∀y∈l.take (i+1),p y=true:=by
 intro y hy
 rw[List.take_add_one,hx] at hy
 rcases List.mem_append.1 hy with hy|hy
 ·exact h y hy
 simp at hy;subst hy;exact hp
theorem O5[En](V:Int→Option Nd)(N:Nat)(h:Th)(m:Nat)(s:TS)(v:Value)(vl:List (Int×Int))(B F:Ab)(a b:Nat)(w:World)(hV: ∀p n,V p=some n→may n=true∧1≤p∧p<N)(J:Dp V (m+vl.length*(13*N+1051)) s)
 (ho:a≤1099511627776) (ht:b≤1099511627776) (hf:Db s.ck.d EO∧Db s.ck.d EJ) (Z:Aj 2 B v vl.length (BD vl)) (hl:vl.length≤64) (hs:Sat (Ad h s*(B*F)) w):
 Calls Tryz.prog 60 #[.pointer (some ⟨h.t,0,none⟩),v,.pointer (some ⟨h.D,0,none⟩),.int .i64 a,.int .i64 b] w (Y1 V h m s vl a b (B*F)):=by
 have ao:= @run_makeMap Tryz.prog
 obtain ⟨_,av,cv,rfl,z,ae,_⟩:=id Z
 obtain ⟨K,hK⟩:=Aq (13*N+1051)
 have X:Aside (∀(L M:Nat)(m:Nat)(s2:TS)(r n:Int)(kn:List Ar)(F:Ab)(w:World),Dp V (m+K) s2→s2.ck.d=s.ck.d→Kp s.ck.d a b kn→Sat (Ad h s2*(Qf L M h a b kn*F)) w→Calls Tryz.prog 124 #[.pointer (some ⟨L,0,none⟩),.agg #[.int .i64 r,.int .i64 n]] w (VO V L M h m s2 (r,n) a b F)):=fun L M m s2 r n kn F w h1 h2 h3 h4=>V9 V N L M h m s2 r n a b kn F w hV (by rw[hK];exact h1) ho ht (by rw[h2];exact hf) (by rw[h2];exact h3) h4
 rw[hK] at J
 obtain ⟨n,hn⟩:=Aq vl.length
 have H:Aside (Aj 2 B (.slice av n cv) n (BD vl)∧vl.length=n):=(by rw[←hn];exact ⟨Z,rfl⟩:_)
 rw[hn] at J hl z⊢
 have HR:Aside (Dp V (m+n*K) s):=J
 have ap: ¬(a:Int)<0:=by omega
 have aq: ¬(b:Int)<0:=by omega
 haveI:=hs.i
 clear Z J hV hK hn hf ho ht
 go_enter Tryz.func60,Tryz.ntmps60
 go_wp2_with fail
 obtain ⟨M,I⟩:=Aq w.heap.size
 obtain ⟨L,hL⟩:=Aq (M+1)
 have q0:Sat (mp DS M (FE [])*(Ad h s*(B*F))) (w.alloc (.map #[] 0)):=by
  rw[←I]
  exact Uq.out.eq (by ac_rfl)
 have o:(w.alloc (.map #[] 0)).heap.size=L:=by rw[←hL,←I];simp
 try rw[I]
 try rw[hL]
 generalize w.alloc (.map #[] 0)=w0 at q0 o⊢
 clear I hL hs this
 haveI:=q0.i
 have U:Sat (Ad h s*(Sl.block L Q1 [.pointer (some ⟨h.t,0,none⟩),.pointer (some ⟨h.D,0,none⟩),.string EO,.string EJ,.int .i64 a,.int .i64 b,.map (some M)]*(mp DS M (FE [])*(B*F)))) (w0.alloc (.cells #[.pointer (some ⟨h.t,0,none⟩),.pointer (some ⟨h.D,0,none⟩),.string ⟨#[111,114,105,103,105,110,97,108]⟩,.string ⟨#[116,97,105,108]⟩,.int .i64 a,.int .i64 b,.map (some M)] Q1)):=by
  rw[←o]
  unfold EO EJ
  exact Av (by ac_rfl)
 try rw[o]
 generalize w0.alloc (.cells #[.pointer (some ⟨h.t,0,none⟩),.pointer (some ⟨h.D,0,none⟩),.string ⟨#[111,114,105,103,105,110,97,108]⟩,.string ⟨#[116,97,105,108]⟩,.int .i64 a,.int .i64 b,.map (some M)] Q1)=w1 at U⊢
 clear o q0 this
 haveI:=U.i
 go_loopg [40] n (fun g aa wr=> ∃(i:Nat)(s2:TS)(kn:List Ar),aa= .int .i64 i∧i≤n∧Aside (g=n-i∧Dp V (m+(n-i)*K) s2∧s2.sp=s.sp∧s2.ck.d=s.ck.d∧Kp s.ck.d a b kn∧ ∀v∈vl.take i,Fg V s.ck.d a b v=true)∧Sat (Ad h s2*(Sl.block L Q1 [.pointer (some ⟨h.t,0,none⟩),.pointer (some ⟨h.D,0,none⟩),.string EO,.string EJ,.int .i64 a,.int .i64 b,.map (some M)]*(mp DS M (FE kn)*(B*F)))) wr)
 case atStart=>exact ⟨0,s,[],rfl,by omega,⟨rfl,by simpa using HR.out,rfl,rfl,by intro x hx;simp at hx,by simp⟩,U⟩
 obtain ⟨i,s2,kn,rfl,hi,A,q2⟩:=hrel
 clear U
 haveI:=q2.i
 by_cases a4:i<n
 · have G:(i:Int)<n:=by omega
   obtain ⟨⟨r,K8⟩,hp⟩: ∃p,vl[i]?=some p:=⟨_,List.getElem?_eq_getElem (by rw[H.out.2];exact a4)⟩
   obtain ⟨b1,o1,a2,r1⟩:=Aj.at H.out.1 (i*2) (.int .i64 r) (Fb hp 0 (by omega))
   obtain ⟨b2,o2,a3,r2⟩:=Aj.at H.out.1 (i*2+1) (.int .i64 K8) (Fb hp 1 (by omega))
   subst a2
   cases a3
   have HP:Aside (vl[i]?=some (r,K8)):=hp
   have j:m+(n-i)*K=m+(n-(i+1))*K+K:=by
    rw[show n-i=(n-(i+1))+1 by omega,Nat.add_mul,Nat.one_mul,Nat.add_assoc]
   have u:Aside (∀(F:Ab)(w:World),Sat (Ad h s2*(Sl.block L Q1 [.pointer (some ⟨h.t,0,none⟩),.pointer (some ⟨h.D,0,none⟩),.string EO,.string EJ,.int .i64 a,.int .i64 b,.map (some M)]*(mp DS M (FE kn)*F))) w→Calls Tryz.prog 124 #[.pointer (some ⟨L,0,none⟩),.agg #[.int .i64 r,.int .i64 K8]] w (VO V L M h (m+(n-(i+1))*K) s2 (r,K8) a b F)):=fun F w q=>X.out L M _ s2 r K8 kn F w (by rw[←j];exact A.out.2.1) A.out.2.2.2.1 A.out.2.2.2.2.1 (CN q)
   obtain ⟨Y,l⟩:=Aq wr.heap.size
   clear hp j
   go_wp2_with fail
   have q3:Sat (Ad h s2*(Sl.block L Q1 [.pointer (some ⟨h.t,0,none⟩),.pointer (some ⟨h.D,0,none⟩),.string EO,.string EJ,.int .i64 a,.int .i64 b,.map (some M)]*(mp DS M (FE kn)*(Sl.block Y K6 [.int .i64 r,.int .i64 K8]*(B*F))))) (wr.alloc (.cells #[.int .i64 r,.int .i64 K8] K6)):=by
    rw[←l]
    exact Av (by ac_rfl)
   try rw[l]
   with_reducible refine Calls.mono (u.out _ _ q3) ?_
   rintro e w3 ⟨s3,y,m3,q4,O,P,Q,R,f,T⟩
   rw[A.out.2.2.2.1] at R T f
   have q5:=Jh q4
   cases c:Fg V s.ck.d a b (r,K8) with
   | true =>
     rw[c,if_pos rfl] at f
     subst f
     have k:Aside (Dp V (m+(n-(i+1))*K) s3∧s3.sp=s.sp∧s3.ck.d=s.ck.d∧Kp s.ck.d a b y∧ ∀v∈vl.take (i+1),Fg V s.ck.d a b v=true):=⟨Q.less (T c),O.trans A.out.2.2.1,P.trans A.out.2.2.2.1,R,Y5 HP.out A.out.2.2.2.2.2 c⟩
     clear q2 q3 q4 this O P Q R T u c l
     haveI:=q5.i
     go_wp2_with fail
     go_roundg (n-(i+1))
     case measure=>have:=A.out.1;omega
     case rel=>exact ⟨i+1,s3,y,by go_num,by omega,⟨rfl,k.out⟩,A4 (C:=Sl.block Y K6 [.int .i64 r,.int .i64 K8]) (by ac_rfl)⟩
   | false =>
     rw[c,if_neg (by simp)] at f
     subst f
     have k:Aside (Dp V m3 s3∧s3.sp=s.sp∧s3.ck.d=s.ck.d∧vl.all (Fg V s.ck.d a b)=false):=⟨Q,O.trans A.out.2.2.1,P.trans A.out.2.2.2.1,by
      cases e:vl.all (Fg V s.ck.d a b) with
      |false=>rfl
      |true=>rw[List.all_eq_true.1 e _ (List.mem_of_getElem? HP.out)] at c;cases c⟩
     clear q2 q3 q4 this O P Q R T u c l
     haveI:=q5.i
     go_wp2
     go_ret
     exact ⟨s3,m3,A4 (C:=Sl.block L Q1 [.pointer (some ⟨h.t,0,none⟩),.pointer (some ⟨h.D,0,none⟩),.string EO,.string EJ,.int .i64 a,.int .i64 b,.map (some M)]*(mp DS M (FE y)*Sl.block Y K6 [.int .i64 r,.int .i64 K8])) (by ac_rfl),k.out.2.1,k.out.2.2.1,k.out.1,by rw[k.out.2.2.2];rfl,fun e=>by rw[k.out.2.2.2] at e;cases e⟩
 have G: ¬(i:Int)<n:=by omega
 have W:Aside (vl.all (Fg V s.ck.d a b)=true):=by
  show _=_
  rw[List.all_eq_true]
  have:=A.out.2.2.2.2.2
  rwa [List.take_of_length_le (by rw[H.out.2];omega)] at this
 have k:Aside (Dp V m s2):=A.out.2.1.less (by omega)
 go_wp2_with fail
 go_ret
 exact ⟨s2,m,A4 (C:=Sl.block L Q1 [.pointer (some ⟨h.t,0,none⟩),.pointer (some ⟨h.D,0,none⟩),.string EO,.string EJ,.int .i64 a,.int .i64 b,.map (some M)]*mp DS M (FE kn)) (by ac_rfl),A.out.2.2.1,A.out.2.2.2.1,k.out,by rw[W.out];rfl,fun _=>Nat.le_refl _⟩
open Go.PW (A8)
def Gy{σ:Type}(rd:Int→M σ Nd)(root:Int):M σ (List Int):=if root=0 then M.pure [] else AM rd 21 root []
def Q'(h:Th)(F:Ab)(r:Fx TS (List Int))(e:Ending)(b:World):Prop:=match r with
 | .ok l s=> ∃ns:List Int,ns.Pairwise (· < ·)∧(∀x,x∈ns↔x∈l)∧ ∃(a:Option Addr)(c:Nat),e= .returned (.tuple #[.slice a ns.length c,.int .i64 0])∧Sat (rw Cb 1 (.slice a ns.length c) (ints ns)*(Ad h s*F)) b
 | .fault n s=>e= .returned (.tuple #[.slice none 0 0,.int .i64 n])∧Sat (Ad h s*F) b
 | .bad=>False
theorem Sr{A:Ab}{w:World}{n:Nat}[q:AV A w][z:Sz w n]:AV (mp A8 n (GB [])*A) (w.alloc (.map #[] 0)):=⟨by
 have h:=q.out.CX (.map #[] 0)
 rw[z.out] at h
 exact Sat.Ep (kf:=A8) (ms:= []) (b:=n) (o:= .map #[] 0) ⟨#[],0,rfl,rfl,by simp,by simp⟩ h⟩
attribute [local instance 20000] Sr
theorem WE(h : Th)(s : TS)(root : Int)(F : Ab)(w : World)(hs : Sat (Ad h s * F) w)(hb : Gy Ah root s ≠ .bad) :
 Calls Tryz.prog 51 #[.pointer (some ⟨h.t,0,none⟩),.int .i64 root] w (Q' h F (Gy Ah root s)):=by
 have b9: ∀(fn:Fn)(first cap:Array Value)(w:World),(Instr.makeFunc fn first cap).run Tryz.prog w= .ok (.func fn first cap) w:=fun _ _ _ _=>rfl
 have bb:= @run_makeMap Tryz.prog
 obtain ⟨R,j⟩:=Aq (Gy Ah root s)
 rw[j] at hb⊢
 have HB:=Ek hb
 unfold Gy at j
 have h0:=Sat.AE (e:=Ds) (s:=2) (hs.AE (e:=Cb) (s:=1))
 haveI:=h0.i
 clear hb hs
 by_cases hz:root=0
 · rw[if_pos hz] at j
   have ad:=j.symm
   subst ad
   subst hz
   clear j HB
   go_enter_defers Tryz.func51,Tryz.ntmps51
   go_wp2
   refine leaves_cons (f:=118) (args:= #[.pointer (some ⟨w.heap.size,0,none⟩),.pointer (some ⟨w.heap.size+1,0,none⟩)]) (by simp) (by simp[go_sem]) ?_
   refine (UF _ _ _).mono ?_
   rintro e u' bh ⟨rfl,rfl,rfl⟩
   simp[Leaves,settle,results,Tryz.results51,go_sem]
   refine ⟨[],List.Pairwise.nil,fun x=>Iff.rfl,none,0,rfl,?_⟩
   show Sat (rw Cb 1 (.slice none 0 0) []*(Ad h s*F)) _
   exact AD _ _ _
 rw[if_neg hz] at j
 have be:((root:Int)==0)=false:=by simpa using hz
 have aa:=Ek j
 have K:=fun S M N F w q=>ZW 21 h s root [] S M N (.slice none 0 0) F w (by omega) q (by rw[j];exact HB.out)
 rw[j,show (21:Int)-((21:Nat):Int)=0 from rfl] at K
 obtain ⟨N,hN⟩:=Aq w.heap.size
 clear j
 go_enter_defers Tryz.func51,Tryz.ntmps51
 go_wp2_with fail
 have q1:Sat (Ad h s*(Jd (N+3) (N+2) (N+4) (.slice none 0 0) []*(Sl.block N V' [.slice none 0 0]*(rw Cb 1 (.slice none 0 0) []*(Sl.block (N+1) Fz [.int .i64 0]*F))))) (((((w.alloc (.cells #[.slice none 0 0] V')).alloc (.cells #[.int .i64 0] Fz)).alloc (.map #[] 0)).alloc (.cells #[.map (some (N+2))] Qd)).alloc (.cells #[.slice none 0 0] X8)):=by
  rw[←hN]
  show Sat (Ad h s*(Sl.block (w.heap.size+1+1+1) Qd [.map (some (w.heap.size+2))]*(mp A8 (w.heap.size+1+1) (GB [])*(Sl.block (w.heap.size+1+1+1+1) X8 [.slice none 0 0]*rw Ds 2 (.slice none 0 0) []))*_)) _
  exact Av (by ac_rfl)
 try rw[hN]
 clear hN
 with_reducible refine Calls.mono (K (N+3) (N+2) (N+4) _ _ q1) ?_
 rintro e w2 h2
 cases R with
 |bad=>exact absurd rfl HB.out
 | fault er s2 =>
   obtain ⟨rfl,v2,o2,q2⟩:=h2
   haveI:=q2.i
   show bodyPostD _ _ _ (.panic (CO er)) _ w2
   refine leaves_cons (f:=118) (args:= #[.pointer (some ⟨N,0,none⟩),.pointer (some ⟨N+1,0,none⟩)]) (by simp) (by simp[go_sem]) ?_
   refine (WH N (N+1) er _ _ _ w2 (Bh (Sl.block N V' [.slice none 0 0]) (Sl.block (N+1) Fz [.int .i64 0]))).mono ?_
   rintro e u' w3 ⟨rfl,rfl,Y⟩
   haveI:=Y.i
   simp[Leaves,settle,results,Tryz.results51,go_sem]
   exact ⟨rfl,Ao _ _⟩
 | ok l s2 =>
   obtain ⟨rfl,v2,q2⟩:=h2
   have I:=Pv aa.out
   have Y:Sat (rw Ds 2 v2 (BD (Fa l))*(Ad h s2*(Sl.block (N+3) Qd [.map (some (N+2))]*(mp A8 (N+2) (GB l)*(Sl.block (N+4) X8 [v2]*(Sl.block N V' [.slice none 0 0]*(rw Cb 1 (.slice none 0 0) []*(Sl.block (N+1) Fz [.int .i64 0]*F)))))))) w2:=q2.eq (by unfold Jd;ac_rfl)
   obtain ⟨D,o,c2,rfl,h3,_⟩:=MP Y
   have hm:(Fa l).length=o:=by rw[EA] at h3;omega
   have ba:o≤1048577:=by rw[←hm];unfold Fa;rw[List.length_map];exact I.1
   have H:=fun F w q=>Zz D c2 (Fa l) F w (by rw[hm];omega) q
   rw[hm] at H
   have P:Aside (∀(F0:Ab)(w:World),Sat (rw Ds 2 (.slice D o c2) (BD (Fa l))*F0) w→Calls Tryz.prog 120 #[.slice D o c2] w fun e w'=> ∃l':List (Int×Int),l'.Perm (Ct (Fa l))∧iX l'∧ ∃(a':Option Addr)(c':Nat),e= .returned (.slice a' (Df [] l').length c')∧
    Sat (rw Ds 2 (.slice a' (Df [] l').length c') (BD (Df [] l'))*(rw Ds 2 (.slice D o c2) (BD (Fa l))*F0)) w'):=H
   have HL:=Ek I
   clear H I q2 q1 h3 hm K this
   haveI:=Y.i
   go_wp2_with fail
   with_reducible refine Calls.mono (P.out _ _ (Ae (rw Ds 2 (.slice D o c2) (BD (Fa l))))) ?_
   rintro e w4 ⟨l',V,W,a4,c4,rfl,q4⟩
   have b:=W9 V W
   obtain ⟨a,J⟩:=Aq (Df [] l')
   rw[J] at b q4
   rw[J]
   have d: ∀x,x∈Ey a↔x∈l:=fun x=>by
    rw[LG,b.2 x,l0]
    exact ⟨fun h=>h.2,fun h=>⟨(HL.out.2 x h).1,h⟩⟩
   have B:Aside (Kq a∧(∀x,x∈Ey a↔x∈l)∧kY a):=⟨b.1,d,gG b.1 (fun x hx=>HL.out.2 x ((d x).1 hx)) (Nat.le_trans (List.Nodup.length_le_of_subset ((Jx b.1).imp fun h=>by omega) fun x hx=>(d x).1 hx) HL.out.1)⟩
   obtain ⟨c,n⟩:=Aq a.length
   have r:=Ek n
   have aw:c≤1048577:=by
    rw[←n]
    exact Nat.le_trans (bI b.1) (Nat.le_trans (List.Nodup.length_le_of_subset ((Jx b.1).imp fun h=>by omega) fun x hx=>(d x).1 hx) HL.out.1)
   rw[n] at q4⊢
   have q5:=(q4.eq (show _=Sl.block N V' [.slice none 0 0]*(rw Cb 1 (.slice none 0 0) []*(rw Ds 2 (.slice a4 c c4) (BD a)*(Sl.block (N+1) Fz [.int .i64 0]*(Ad h s2*F))))*(rw Ds 2 (.slice D o c2) (BD (Fa l))*(Sl.block (N+3) Qd [.map (some (N+2))]*(mp A8 (N+2) (GB l)*Sl.block (N+4) X8 [.slice D o c2]))) by ac_rfl)).Dn
   haveI:=q5.i
   obtain ⟨iI,EI⟩:=KC
   clear V W b J d n Y q4 P
   go_wp2_with fail
   go_loopg [24] c (fun g ak wr=> ∃(i:Nat)(x:Option Addr)(k G:Nat),ak= .int .i64 i∧i≤c∧Aside (g=c-i∧(Ey (a.take i)).length=k)∧Sat (Sl.block N V' [.slice x k G]*(rw Cb 1 (.slice x k G) (ints (Ey (a.take i)))*(rw Ds 2 (.slice a4 c c4) (BD a)*(Sl.block (N+1) Fz [.int .i64 0]*(Ad h s2*F))))) wr)
   case atStart=>exact ⟨0,none,0,0,rfl,by omega,⟨rfl,rfl⟩,q5⟩
   obtain ⟨i,x,k,G,rfl,hi,A,L⟩:=hrel
   clear q5
   haveI:=L.i
   by_cases af:i<c
   · have U:(i:Int)<c:=by omega
     obtain ⟨⟨y,z⟩,hp⟩: ∃p,a[i]?=some p:=⟨_,List.getElem?_eq_getElem (by rw[r.out];exact af)⟩
     obtain ⟨g0,rfl⟩:=Dh (L.take (rw Ds 2 (.slice a4 c c4) (BD a))) (by omega)
     haveI:=L.i
     haveI:At (BD a) (i*2) (.int .i64 y):=⟨Fb hp 0 (by omega)⟩
     haveI:At (BD a) (i*2+1) (.int .i64 z):=⟨Fb hp 1 (by omega)⟩
     obtain ⟨b1,b2,b3,b4⟩:=B.out.2.2 i y z hp
     have HP:=Ek hp
     clear hp
     go_wp2_with fail
     obtain ⟨T,hT⟩:=Aq wr.heap.size
     have q8:Sat (Sl.block N V' [.slice x k G]*(rw Cb 1 (.slice x k G) (ints (Ey (a.take i)++E4 (y,y)))*(Sl.block T Ds [.int .i64 y,.int .i64 z]*(rw Ds 2 (.slice (some ⟨g0,0,none⟩) c c4) (BD a)*(Sl.block (N+1) Fz [.int .i64 0]*(Ad h s2*F)))))) (wr.alloc (.cells #[.int .i64 y,.int .i64 z] Ds)):=by
      rw[Rk,List.append_nil,←hT]
      exact Av (by ac_rfl)
     try rw[hT]
     generalize wr.alloc (.cells #[.int .i64 y,.int .i64 z] Ds)=wq at q8⊢
     clear hT L
     haveI:=q8.i
     go_loopg [10] (z-y).toNat (fun g aj am=> ∃(u:Int)(Z:Option Addr)(m Q:Nat),aj= .int .i64 u∧y≤u∧u≤z∧Aside (g=(z-u).toNat∧(Ey (a.take i)++E4 (y,u)).length=m)∧Sat (Sl.block N V' [.slice Z m Q]*(rw Cb 1 (.slice Z m Q) (ints (Ey (a.take i)++E4 (y,u)))*(Sl.block T Ds [.int .i64 y,.int .i64 z]*(rw Ds 2 (.slice (some ⟨g0,0,none⟩) c c4) (BD a)*(Sl.block (N+1) Fz [.int .i64 0]*(Ad h s2*F)))))) am)
     case atStart=>exact ⟨y,x,k,G,rfl,Int.le_refl _,by omega,⟨rfl,by rw[Rk,List.append_nil];exact A.out.2⟩,q8⟩
     obtain ⟨u,Z,m,Q,rfl,ag,bc,A3,q9⟩:=hrel
     clear q8
     haveI:=q9.i
     by_cases bd:u<z
     · have b8:m≤1048577:=by
        have:=A3.out.2
        rw[List.length_append,Rj] at this
        omega
       have hw:=Bg (u+1) (by omega)
       have O:Aside ((Ey (a.take i)++E4 (y,u+1)).length=m+1∧ints (Ey (a.take i)++E4 (y,u+1))=ints (Ey (a.take i)++E4 (y,u))++ [.int .i64 u]):=by
        rw[←WB ag,←List.append_assoc]
        exact ⟨by rw[List.length_append,A3.out.2];rfl,by simp[ints]⟩
       have HM:Aside ((z-(u+1)).toNat<(z-u).toNat):=(by omega:(z-(u+1)).toNat<(z-u).toNat)
       go_wp2_with (at_builtin;refine Af EI rfl (.tmp 36) (.tmp 38) rfl rfl rfl (Ae (rw Cb 1 (.slice Z m Q) (ints (Ey (a.take i)++E4 (y,u))))) (Src.new (e:=Cb) (s:=1) (vs:= [.int .i64 u]) (Ae (Sl.block _ Cb [.int .i64 u])) rfl (by intro v hv;simp at hv;rcases hv with rfl;rfl)) (by unfold maxLen;omega) (by omega) ?_;intro a7 c7 w7 q7 z7;clear z7;haveI:=q7.i)
       go_roundg ((z-(u+1)).toNat)
       case measure=>have:=A3.out.1;have:=HM.out;omega
       case rel=>exact ⟨u+1,a7,m+1,c7,by go_num,by omega,by omega,⟨rfl,O.out.1⟩,by rw[O.out.2];exact E3 _ _ _ _ _ _⟩
     have X:u=z:=by omega
     subst X
     have O:Aside ((Ey (a.take (i+1))).length=m∧Ey (a.take i)++E4 (y,u)=Ey (a.take (i+1))):=by
      rw[Rl HP.out]
      exact ⟨A3.out.2,rfl⟩
     rw[O.out.2] at q9
     haveI:=q9.i
     go_wp2_with fail
     go_roundg (c-(i+1))
     case measure=>have:=A.out.1;omega
     case rel=>exact ⟨i+1,Z,m,Q,by go_num,by omega,⟨rfl,O.out.1⟩,DE _ _ _ _ _⟩
   have U: ¬(i:Int)<c:=by omega
   obtain rfl:i=c:=by omega
   have HF:Aside ((Ey a).length=k):=by have:=A.out.2;rwa [List.take_of_length_le (by rw[r.out];exact Nat.le_refl _)] at this
   rw[List.take_of_length_le (by rw[r.out];exact Nat.le_refl _)] at L
   haveI:=L.i
   clear A
   go_wp2
   refine leaves_cons (f:=118) (args:= #[.pointer (some ⟨N,0,none⟩),.pointer (some ⟨N+1,0,none⟩)]) (by simp) (by simp[go_sem]) ?_
   refine (UF _ _ _).mono ?_
   rintro e u' w3 ⟨rfl,rfl,rfl⟩
   simp[Leaves,settle,results,Tryz.results51,go_sem]
   refine ⟨Ey a,Jx B.out.1,B.out.2.1,x,G,?_,?_⟩
   · rw[HF.out]
   rw[HF.out]
   exact AD _ _ _
end Go.Proofs.YtfhbmblbidcmmaaGreat
namespace Go.Tr
open Go.Proofs.YtfhbmblbidcmmaaGreat
variable [En]
theorem Xr{V:Int→Option Nd}{U:List Int}(a: ∀p n,V p=some n→1≤p∧p<1048576∧may n=true∧p∈U)(l:U.length≤1048576){m:Nat}{s:TS}(b:Dp V (m+(13*U.length+1038)) s)(r:Int):
 (∃l' s',Gy Ah r s= .ok l' s'∧Dp V m s'∧s'.sp=s.sp∧s'.ck.d=s.ck.d∧((A9 V r).ok=true→ ∀x,x∈l'↔x∈(A9 V r).Az))∨(∃s',Gy Ah r s= .fault 13 s'∧Dp V 0 s'∧s'.sp=s.sp∧s'.ck.d=s.ck.d∧(A9 V r).ok=false):=by
 by_cases h0:r=0
 ·subst h0
  refine .inl ⟨[],s,rfl,b.less (by omega),rfl,rfl,fun _ x=>?_⟩
  unfold A9
  rw[if_pos rfl]
 unfold Gy
 rw[if_neg h0]
 cases c:(A9 V r).ok with
 | true =>
  obtain ⟨q,h1,k,t⟩:=gP (fun p n h=>(a p n h).2.2.1) h0 c
  obtain ⟨l',s',e,o⟩:=Pw (fun p n h=>⟨(a p n h).1,(a p n h).2.1⟩) 21 q r (A9 V r).Az [] m s (by omega) k (b.less (by omega)) (gV.nil _) (by simp;omega)
  refine .inl ⟨l',s',e,o.Qq,o.sp,o.dk,fun _ x=>⟨fun h=>?_,o.all x⟩⟩
  rcases o.aC x h with h|h
  ·cases h
  exact h
 | false =>
  have g:=LM a l 21 r [] m s h0 (by simp) List.nodup_nil (b.less (by simp;omega))
  cases hm:AM Ah 21 r [] s with
  |bad=>rw[hm] at g;exact g.elim
  | fault e s1 =>
   rw[hm] at g
   obtain ⟨rfl,f,i,j⟩:=g
   exact .inr ⟨s1,rfl,f,i,j,rfl⟩
  | ok l1 s1 =>
   rw[hm] at g
   exact .inl ⟨l1,s1,rfl,g.2.2.2.1.less (by omega),g.2.2.2.2.1,g.2.2.2.2.2,fun h=>by cases h⟩
end Go.Tr
namespace Go.Proofs.YtfhbmblbidcmmaaGreat
open Go.RowKit Go.Sl Go.Dk Go.Tr Go.Sort
open Go.PW (A8)
abbrev Mh:TypeId:=230
def G1(Z:List Int)(x:Int):List Int:=if Z.contains x then Z else Z++ [x]
theorem Rc(x:Int): ∀Z:List Int,CW x (.bool true) (GB Z)=GB (G1 Z x)
 | []=>rfl
 | y :: Z => by
  have a:=Rc x Z
  show (if x=y then (x,Value.bool true)::GB Z else (y,Value.bool true)::CW x (.bool true) (GB Z))=_
  by_cases h:x=y
  ·subst h
   rw[if_pos rfl]
   unfold G1
   rw[if_pos (by simp)]
   rfl
  rw[if_neg h,a]
  unfold G1
  have e:(y::Z).contains x=Z.contains x:=by simp[h]
  rw[e]
  split<;>rfl
theorem aZ(Z:List Int)(x y:Int):y∈G1 Z x↔y∈Z∨y=x:=by grind [G1]
theorem VR{Z:List Int}(h:Z.Nodup)(x:Int):(G1 Z x).Nodup:=by grind [G1,List.nodup_append]
theorem f'(Z:List Int)(x:Int):(G1 Z x).length≤Z.length+1:=by grind [G1]
theorem ZN(l:List Int):(Di l).length=l.length:=(List.mergeSort_perm l _).length_eq
theorem SS{l:List Int}(h:l.Nodup):(Di l).Pairwise (· < ·):=by
 have h1:(Di l).Pairwise fun x y=>decide (x≤y)=true:=List.pairwise_mergeSort (fun a b c h1 d=>by simp at*;omega) (fun a b=>by simp;omega) l
 have d:(Di l).Nodup:=(List.mergeSort_perm l _).nodup_iff.2 h
 exact (h1.and d).imp fun ⟨a,b⟩=>by simp at a;omega
theorem Xs{σ:Type}{rd:Int→M σ Nd}{r:Int}{s s':σ}{l:List Int}(h:Gy rd r s= .ok l s'):l.length≤1048577:=by
 unfold Gy at h
 split at h
 ·have:(Fx.ok [] s:Fx σ (List Int))= .ok l s':=h
  cases this
  simp
 exact (Pv h).1
def kS[En](V:Int→Option Nd)(h:Th)(m:Nat)(s:TS)(vl:List (Int×Int))(B F:Ab)(e:Ending)(b:World):Prop:= ∃s',s'.sp=s.sp∧s'.ck.d=s.ck.d∧
 ((∃(ns : List Int)(a : Option Addr)(c : Nat), e = .returned (.tuple #[.slice a ns.length c, .int .i64 0]) ∧ ns.Pairwise (· < ·) ∧ Dp V m s' ∧ ((∀ v ∈ vl, (A9 V v.1).ok = true) → ∀ x, x ∈ ns ↔ ∃ v ∈ vl, x ∈ (A9 V v.1).Az) ∧ Sat (rw Cb 1 (.slice a ns.length c) (ints ns) * (Ad h s' * (B * F))) b) ∨
  (e= .returned (.tuple #[.slice none 0 0,.int .i64 13])∧Dp V 0 s'∧(∃v∈vl,(A9 V v.1).ok=false)∧Sat (Ad h s'*(B*F)) b))
structure Met (V:Int→Option Nd) (vl:List (Int×Int)) (i:Nat) (Z:List Int):Prop where
 nd:Z.Nodup
 len:Z.length≤1048577*i
 mem:(∀v∈vl.take i,(A9 V v.1).ok=true)→ ∀x,x∈Z↔ ∃v∈vl.take i,x∈(A9 V v.1).Az
theorem YT(l:List Int): ∀(Z:List Int)(x:Int),x∈l.foldl G1 Z↔x∈Z∨x∈l:=by induction l with
 |nil=>intro Z x;simp
 |cons a l b=>simp[List.foldl_cons,b,aZ,List.mem_cons,or_assoc]
theorem TH(l:List Int): ∀{Z:List Int},Z.Nodup→(l.foldl G1 Z).Nodup:=by induction l with
 |nil=>intro Z h;exact h
 |cons a l b=>intro Z h;exact b (VR h a)
theorem YS(l:List Int): ∀(Z:List Int),(l.foldl G1 Z).length≤Z.length+l.length:=by induction l with
 |nil=>intro Z;simp
 | cons a l c =>
  intro Z
  have b:=f' Z a
  grind
theorem p9{l:List Int}{k:Nat}{x:Int}(h:l[k]?=some x)(Z:List Int):(l.take (k+1)).foldl G1 Z=G1 ((l.take k).foldl G1 Z) x:=by simp[List.take_add_one,h,List.foldl_append]
theorem Met.next{V:Int→Option Nd}{vl:List (Int×Int)}{i:Nat}{Z:List Int}(h:Met V vl i Z){v:Int×Int}(d:vl[i]?=some v){ns:List Int}(e:ns.length≤1048577)(hm:(A9 V v.1).ok=true→ ∀x,x∈ns↔x∈(A9 V v.1).Az):Met V vl (i+1) (ns.foldl G1 Z):=by
 refine ⟨TH ns h.nd,by have:=YS ns Z;have:=h.len;omega,fun a x=>?_⟩
 rw[List.take_add_one,d] at a⊢
 have h1:=h.mem (fun u c=>a u (List.mem_append_left _ c)) x
 have b:=hm (a v (List.mem_append_right _ (by simp))) x
 simp[YT,h1,b]
theorem O3[En](V:Int→Option Nd)(U:List Int)(h:Th)(m:Nat)(s:TS)(v:Value)(vl:List (Int×Int))(B F:Ab)(w:World)(hV: ∀p n,V p=some n→1≤p∧p<1048576∧may n=true∧p∈U)(hU:U.length≤1048576)
 (l:Dp V (m+vl.length*(13*U.length+1038)) s) (hB:Aj 2 B v vl.length (BD vl)) (hl:vl.length≤64) (hs:Sat (Ad h s*(B*F)) w):
 Calls Tryz.prog 57 #[.pointer (some ⟨h.t,0,none⟩),v] w (kS V h m s vl B F):=by
 have co:= @run_makeMap Tryz.prog
 obtain ⟨_,av,cv,rfl,aa,c4,_⟩:=id hB
 obtain ⟨K,hK⟩:=Aq (13*U.length+1038)
 rw[hK] at l
 have HV:Aside (∀(m:Nat)(s:TS)(r:Int),Dp V (m+K) s→(∃l' s',Gy Ah r s= .ok l' s'∧Dp V m s'∧s'.sp=s.sp∧s'.ck.d=s.ck.d∧((A9 V r).ok=true→ ∀x,x∈l'↔x∈(A9 V r).Az))∨(∃s',Gy Ah r s= .fault 13 s'∧Dp V 0 s'∧s'.sp=s.sp∧s'.ck.d=s.ck.d∧(A9 V r).ok=false)):=(by rw[←hK];exact fun m s r l=>Xr hV hU l r:_)
 obtain ⟨n,hn⟩:=Aq vl.length
 have HB:Aside (Aj 2 B (.slice av n cv) n (BD vl)∧vl.length=n):=(by rw[←hn];exact ⟨hB,rfl⟩:_)
 rw[hn] at l hl aa⊢
 have HR:=Ek l
 obtain ⟨iI,EI⟩:=KC
 haveI:=hs.i
 clear hB l hV hU hK hn
 go_enter Tryz.func57,Tryz.ntmps57
 go_wp2_with fail
 obtain ⟨M,hM⟩:=Aq w.heap.size
 have q1:Sat (mp A8 M (GB [])*(Ad h s*(B*F))) (w.alloc (.map #[] 0)):=by
  rw[←hM]
  exact Sr.out.eq (by ac_rfl)
 try rw[hM]
 generalize w.alloc (.map #[] 0)=w1 at q1⊢
 clear hM hs this
 haveI:=q1.i
 go_loopg [20] n (fun g bo wr=> ∃(i:Nat)(s2:TS)(Z:List Int),bo= .int .i64 i∧i≤n∧Aside (g=n-i∧Dp V (m+(n-i)*K) s2∧s2.sp=s.sp∧s2.ck.d=s.ck.d∧Met V vl i Z)∧Sat (mp A8 M (GB Z)*(Ad h s2*(B*F))) wr)
 case atStart=>exact ⟨0,s,[],rfl,by omega,⟨rfl,by simpa using HR.out,rfl,rfl,List.nodup_nil,by simp,fun _ x=>by simp⟩,q1⟩
 obtain ⟨i,s2,Z,rfl,hi,A,q2⟩:=hrel
 clear q1
 haveI:=q2.i
 by_cases J:i<n
 · have ag:(i:Int)<n:=by omega
   obtain ⟨⟨r,K8⟩,hp⟩: ∃p,vl[i]?=some p:=⟨_,List.getElem?_eq_getElem (by rw[HB.out.2];exact J)⟩
   obtain ⟨b1,o1,b9,r1⟩:=Aj.at HB.out.1 (i*2) (.int .i64 r) (Fb hp 0 (by omega))
   obtain ⟨b2,o2,ba,r2⟩:=Aj.at HB.out.1 (i*2+1) (.int .i64 K8) (Fb hp 1 (by omega))
   subst b9
   cases ba
   have HP:=Ek hp
   have H:m+(n-i)*K=m+(n-(i+1))*K+K:=by
    rw[show n-i=(n-(i+1))+1 by omega,Nat.add_mul,Nat.one_mul,Nat.add_assoc]
   have a1:=HV.out (m+(n-(i+1))*K) s2 r (by rw[←H];exact A.out.2.1)
   have D:=fun F w q=>WE h s2 r F w q (by
    rcases a1 with ⟨l',s',e,_⟩|⟨s',e,_⟩
    · rw[e];simp
    rw[e];simp)
   have a6:Aside (∀(F:Ab) w,Sat (Ad h s2*F) w→Calls Tryz.prog 51 #[.pointer (some ⟨h.t,0,none⟩),.int .i64 r] w fun e w'=>
    (∃(s3:TS)(ns:List Int)(a:Option Addr)(c:Nat),e= .returned (.tuple #[.slice a ns.length c,.int .i64 0])∧Aside (ns.length≤1048577∧Dp V (m+(n-(i+1))*K) s3∧s3.sp=s.sp∧s3.ck.d=s.ck.d∧((A9 V r).ok=true→ ∀x,x∈ns↔x∈(A9 V r).Az))∧Sat (rw Cb 1 (.slice a ns.length c) (ints ns)*(Ad h s3*F)) w')∨
    (∃s3:TS,e= .returned (.tuple #[.slice none 0 0,.int .i64 13])∧Aside (Dp V 0 s3∧s3.sp=s.sp∧s3.ck.d=s.ck.d∧(A9 V r).ok=false)∧Sat (Ad h s3*F) w')):=fun F w q=>(D F w q).mono fun e w' hx=>by
    rcases a1 with ⟨l',s',e1,k1,k2,k3,k4⟩|⟨s',e1,k1,k2,k3,k4⟩
    · rw[e1] at hx
      obtain ⟨ns,g1,g2,a,c,g3,g4⟩:=hx
      refine .inl ⟨s',ns,a,c,g3,⟨?_,k1,k2.trans A.out.2.2.1,k3.trans A.out.2.2.2.1,fun ho x=>(g2 x).trans (k4 ho x)⟩,g4⟩
      exact Nat.le_trans (List.Nodup.length_le_of_subset (g1.imp fun h=>by omega) fun x hx=>(g2 x).1 hx) (Xs e1)
    rw[e1] at hx
    exact .inr ⟨s',hx.1,⟨k1,k2.trans A.out.2.2.1,k3.trans A.out.2.2.2.1,k4⟩,hx.2⟩
   clear hp a1 D H
   go_wp2_with fail
   with_reducible refine Calls.mono (a6.out _ _ (Ae (Ad h s2))) ?_
   rintro e w3 (⟨s3,ns,a3,c3,rfl,z,q3⟩|⟨s3,rfl,z,q3⟩)
   · obtain ⟨kn,f⟩:=Aq ns.length
     have HN:=Ek f
     have cm:kn≤1048577:=by rw[←f];exact z.out.1
     rw[f] at q3⊢
     have q4:Sat (mp A8 M (GB ((ns.take 0).foldl G1 Z))*(rw Cb 1 (.slice a3 kn c3) (ints ns)*(Ad h s3*(B*F)))) w3:=by
      haveI:=q3.i
      show Sat (mp A8 M (GB Z)*_) _
      exact DE _ _ _ _ _
     clear f q3 q2 this
     haveI:=q4.i
     go_wp2_with fail
     go_loopg [36] kn (fun g bp wr=> ∃(k:Nat),bp= .int .i64 k∧k≤kn∧Aside (g=kn-k)∧Sat (mp A8 M (GB ((ns.take k).foldl G1 Z))*(rw Cb 1 (.slice a3 kn c3) (ints ns)*(Ad h s3*(B*F)))) wr)
     case atStart=>exact ⟨0,rfl,by omega,rfl,q4⟩
     obtain ⟨k,rfl,hk,A2,q5⟩:=hrel
     clear q4
     by_cases bb:k<kn
     · have ac:(k:Int)<kn:=by omega
       obtain ⟨x,hx⟩: ∃x,ns[k]?=some x:=⟨_,List.getElem?_eq_getElem (by rw[HN.out];exact bb)⟩
       obtain ⟨g3,rfl⟩:=Dh (hs:=q5.take (rw Cb 1 (.slice a3 kn c3) (ints ns))) (by omega)
       obtain ⟨Zk,X⟩:=Aq ((ns.take k).foldl G1 Z)
       have HZ:Aside ((ns.take (k+1)).foldl G1 Z=G1 Zk x):=by rw[←X];exact p9 hx Z
       rw[X] at q5
       haveI:=q5.i
       haveI:At (ints ns) k (.int .i64 x):=⟨by unfold ints;rw[List.getElem?_map,hx];rfl⟩
       have p1:=fun w=> @WI w M x (.bool true)
       have bk:=Rc x Zk
       clear hx X
       go_wp2
       go_roundg (kn-(k+1))
       case measure=>have:=A2.out;omega
       case rel=>exact ⟨k+1,by go_num,by omega,rfl,by rw[HZ.out,←bk];exact DE _ _ _ _ _⟩
     have ac: ¬(k:Int)<kn:=by omega
     obtain rfl:k=kn:=by omega
     rw[List.take_of_length_le (by rw[HN.out];exact Nat.le_refl _)] at q5
     haveI:=q5.i
     have R:=Ek (A.out.2.2.2.2.next HP.out z.out.1 z.out.2.2.2.2)
     clear A2
     go_wp2_with fail
     go_roundg (n-(i+1))
     case measure=>have:=A.out.1;omega
     case rel=>exact ⟨i+1,s3,ns.foldl G1 Z,by go_num,by omega,⟨rfl,z.out.2.1,z.out.2.2.1,z.out.2.2.2.1,R.out⟩,Cx _ _ _ _⟩
   have b0:Aside (∃v∈vl,(A9 V v.1).ok=false):=⟨_,List.mem_of_getElem? HP.out,z.out.2.2.2⟩
   haveI:=q3.i
   clear q2 A a6
   go_wp2
   go_ret2
   exact ⟨s3,z.out.2.1,z.out.2.2.1,.inr ⟨rfl,z.out.1,b0.out,AD _ _ _⟩⟩
 have ag: ¬(i:Int)<n:=by omega
 obtain rfl:i=n:=by omega
 have R:Aside (Dp V m s2∧s2.sp=s.sp∧s2.ck.d=s.ck.d∧Met V vl i Z∧vl.take i=vl):=⟨by have:=A.out.2.1;simpa using this,A.out.2.2.1,A.out.2.2.2.1,A.out.2.2.2.2,List.take_of_length_le (by rw[HB.out.2];exact Nat.le_refl _)⟩
 have bf:Z.length≤1048577*64:=by have:=A.out.2.2.2.2.len;have:1048577*i≤1048577*64:=Nat.mul_le_mul_left _ hl;omega
 obtain ⟨o,ho,a2⟩:=q2.C0
 have b8:w1.heap.size=w1.heap.size:=rfl
 have a8:=a2.obj
 obtain ⟨ms,y⟩:=Aq (GB Z)
 have cb:Aside (GB Z=ms∧Fk A8 o ms):=⟨y,y▸ho⟩
 have cn:ms.length≤67108928:=by rw[←y];simp[GB];omega
 have HF:Aside (∀ks:List Int,ks.Perm (ms.map (·.1))→ks.Perm Z):=(by
  intro ks h
  rw[←y] at h
  simpa[GB,List.map_map,Function.comp_def] using h:_)
 rw[y] at ho
 clear y bf b8 this A q2
 obtain ⟨oi,hI,L⟩:=IK (P:=Tryz.prog) Tryz.underlying206 a8 ho
 have O:=a2.CX oi
 go_wp2_with fail
 obtain ⟨I,W⟩:=Aq wr.heap.size
 rw[W] at O
 try rw[W]
 generalize wr.alloc oi=wq at O⊢
 clear W L a2 a8
 go_loopg [13] ms.length (fun g bn bq=> ∃(a:Option Addr)(ks:List Int)(c:Nat)(Q:Obj)(b:List (Int×Value)),bn= .slice a ks.length c∧Aside (g=b.length∧Iter A8 M o Q ms b∧(b.map (·.1)++ks).Perm (ms.map (·.1)))∧
  Sat (rw Cb 1 (.slice a ks.length c) (ints ks)*(raw I Q*(raw M o*(Ad h s2*(B*F))))) bq)
 case atStart=>exact ⟨none,[],0,oi,ms,rfl,⟨rfl,hI,by simp⟩,by simpa[ints] using O.AE (e:=Cb) (s:=1)⟩
 obtain ⟨a,ks,c,Q,b,rfl,A,G⟩:=hrel
 obtain ⟨ab,T,l⟩:=A.out
 have a4:=G.eq (B:=raw M o*(raw I Q*(Ad h s2*(B*F)*rw Cb 1 (.slice a ks.length c) (ints ks)))) (by ac_rfl)
 clear hI O
 rcases JD (P:=Tryz.prog) a4 T with ⟨aj,Y⟩|⟨j,k,u,al,w2,hj,Y,a7,ak,aw⟩
 · subst aj
   have ae:=HF.out ks (by simpa using l)
   have ad:ks.length≤67108928:=by have:=l.length_eq;simp at this;omega
   have a5:=fun F w q=>JI a ks.length c ks F w q (by omega)
   obtain ⟨kn,f⟩:=Aq ks.length
   rw[f] at a5 G ad
   simp only[f]
   have b3:Aside (∀(F:Ab) w,Sat (rw Cb 1 (.slice a kn c) (ints ks)*F) w→Calls Tryz.prog 122 #[.slice a kn c] w fun e w'=>e= .returned (.tuple #[])∧Sat (rw Cb 1 (.slice a kn c) (ints (Di ks))*F) w'):=a5
   have HK:Aside (ks.Perm Z∧(Di ks).length=kn):=⟨ae,by rw[ZN];exact f⟩
   haveI:=G.i
   clear a4 T A ae l f a5
   go_wp2_with fail
   with_reducible refine Calls.mono (b3.out _ _ (Ae (rw Cb 1 (.slice a kn c) (ints ks)))) ?_
   rintro e w3 ⟨rfl,q6⟩
   have HE:Aside (Sat (rw Cb 1 (.slice a kn c) (ints (Di ks))*(Ad h s2*(B*F))) w3):=by
    show Sat _ _
    haveI:=q6.i
    exact Cx _ _ _ _
   clear q6 G this
   go_wp2
   go_ret2
   refine ⟨s2,R.out.2.1,R.out.2.2.1,.inl ⟨Di ks,a,c,by rw[HK.out.2];rfl,SS (HK.out.1.nodup_iff.2 R.out.2.2.2.1.nd),R.out.1,fun ho x=>?_,by rw[HK.out.2];exact HE.out⟩⟩
   have h9:=R.out.2.2.2.1.mem
   rw[R.out.2.2.2.2] at h9
   rw[MR,HK.out.1.mem_iff]
   exact h9 ho x
 have ah:=List.mem_of_getElem? hj
 have J:(b.eraseIdx j).length<b.length:=by
  have:=(List.getElem?_eq_some_iff.1 hj).1
  rw[List.length_eraseIdx];split<;>omega
 have af:b.length+ks.length=ms.length:=by simpa using l.length_eq
 have a9:((b.eraseIdx j).map (·.1)++(ks++ [k])).Perm (ms.map (·.1)):=by
  refine List.Perm.trans ?_ l
  have h1:=(F5 b j _ hj).map (·.1)
  simp only[List.map_cons] at h1
  have h2:((b.eraseIdx j).map (·.1)++(ks++ [k])).Perm (k::((b.eraseIdx j).map (·.1)++ks)):=by
   rw[←List.append_assoc]
   exact List.perm_append_singleton _ _
  exact h2.trans ((h1.append_right ks).symm)
 have HL:Aside ((b.eraseIdx j).length<b.length∧gk=b.length):=⟨J,ab⟩
 have HI:Aside (Iter A8 M o al ms (b.eraseIdx j)∧((b.eraseIdx j).map (·.1)++(ks++ [k])).Perm (ms.map (·.1))):=⟨a7,a9⟩
 have bd:=ak.eq (by ac_rfl)
 have ad:ks.length≤67108928:=by omega
 clear a4 T A G J ab a7 hj l a9 ah af ak
 haveI:=bd.i
 go_wp2_with (at_builtin;go_loud (refine Af EI rfl (.tmp 50) (.tmp 52) rfl rfl rfl (Ae (rw Cb 1 (.slice a ks.length c) (ints ks))) (Src.new (e:=Cb) (s:=1) (vs:= [.int .i64 k]) (Ae _) rfl (by intro u hu;simp at hu;rcases hu with rfl;rfl)) (by unfold maxLen;omega) (by omega) ?_;intro a' c' w3 be ai;haveI:=be.i;clear ai))
 go_roundg (b.eraseIdx j).length
 case measure=>have:=HL.out;omega
 refine ⟨a',ks++ [k],c',al,_,by simp,⟨rfl,HI.out.1,HI.out.2⟩,?_⟩
 rw[show ints (ks++ [k])=ints ks++ [.int .i64 k] by simp[ints],List.length_append]
 exact E3 _ _ _ _ _ _
end Go.Proofs.YtfhbmblbidcmmaaGreat
namespace Go.Proofs.YtfhbmblbidcmmaaGreat
open Go.RowKit Go.Sl Go.Dk Go.Tr
def Hj(n:Int):List Int→List Int
 | []=> [n]
 |x::l=>if n<x then n::x::l else x::Hj n l
def Cy(l:List Int)(n:Int):List Int:=if l.contains n then l else Hj n l
theorem TT{n:Int} : ∀{l:List Int},(∀x∈l,¬n<x)→Hj n l=l++ [n]
 | [],_=>rfl
 | x :: l, h => by
  unfold Hj
  rw[if_neg (h x List.mem_cons_self),TT fun y hy=>h y (List.mem_cons_of_mem _ hy)]
  rfl
theorem TU{n x:Int}(hx:n<x): ∀{l:List Int},(∀x∈l,¬n<x)→Hj n (l++ [x])=l++ [n]++ [x]
 | [],_=>by
  show (if n<x then _ else _)=_
  simp_all
 | y :: l, h => by
   show (if n<y then n::y::(l++ [x]) else y::Hj n (l++ [x]))=_
   rw[if_neg (h y List.mem_cons_self),TU hx fun y hy=>h y (List.mem_cons_of_mem _ hy)]
   rfl
theorem TR{n:Int}(q:List Int): ∀{l:List Int},(∃x∈l,n<x)→Hj n (l++q)=Hj n l++q
 | [],⟨_,h,_⟩=>by cases h
 | y :: l, h => by
  by_cases hy:n<y
  · show (if n<y then n::y::(l++q) else y::Hj n (l++q))=(if n<y then n::y::l else y::Hj n l)++q
    simp_all
  show (if n<y then n::y::(l++q) else y::Hj n (l++q))=(if n<y then n::y::l else y::Hj n l)++q
  rw[if_neg hy,if_neg hy,TR q (by
   obtain ⟨x,hx,a⟩:=h
   rcases List.mem_cons.1 hx with rfl|hx
   · omega
   exact ⟨x,hx,a⟩)]
  rfl
theorem OJ(n:Int): ∀l:List Int,(Hj n l).length=l.length+1
 | []=>rfl
 | x :: l => by
  unfold Hj
  split
  ·rfl
  rw[List.length_cons,OJ n l,List.length_cons]
theorem RD(l:List Int)(n:Int):(Cy l n).length≤l.length+1:=by grind [Cy,OJ]
theorem OK(n:Int): ∀(l:List Int)(x:Int),x∈Hj n l↔x=n∨x∈l
 | [],x=>by simp[Hj]
 | y :: l, x => by
  unfold Hj
  split
  ·simp
  rw[List.mem_cons,OK n l x,List.mem_cons]
  grind
theorem ZZ(l:List Int)(n x:Int):x∈Cy l n↔x∈l∨x=n:=by
 unfold Cy
 split
 ·next h=>simp_all
 rw[OK,or_comm]
theorem XR{n:Int} : ∀{l:List Int},l.Pairwise (· < ·)→n∉l→(Hj n l).Pairwise (· < ·)
 | [],_,_=>List.pairwise_singleton _ _
 | x :: l, h, a => by
  obtain ⟨h1,b⟩:=List.pairwise_cons.1 h
  rw[List.mem_cons,not_or] at a
  unfold Hj
  split
  ·next hx=>
   refine List.Pairwise.cons (fun y hy=>?_) h
   grind
  next hx=>
  refine List.Pairwise.cons (fun y hy=>?_) (XR b a.2)
  rcases (OK n l y).1 hy with rfl|hy
  ·omega
  simp_all
theorem dS{l:List Int}(h:l.Pairwise (· < ·))(n:Int):(Cy l n).Pairwise (· < ·):=by
 unfold Cy
 split
 ·omega
 next h1=>exact XR h (by simpa using h1)
structure X9 (n:Int) (p out:List Int) (d:Bool):Prop where
 no:d=false→out=p∧ ∀x∈p,¬n<x
 yes:d=true→out=Hj n p∧ ∃x∈p,n<x
 new:n∉p
theorem X9.go{n x:Int}{p out:List Int}(h:X9 n p out true)(hx:x≠n):X9 n (p++ [x]) (out++ [x]) true:=by
 obtain ⟨rfl,y,hy,a⟩:=h.yes rfl
 refine ⟨fun e=>(by cases e),fun _=>⟨(TR [x] ⟨y,hy,a⟩).symm,y,List.mem_append_left _ hy,a⟩,fun hm=>?_⟩
 rcases List.mem_append.1 hm with hm|hm
 ·exact h.new hm
 simp_all
theorem X9.put{n x:Int}{p out:List Int}(h:X9 n p out false)(hx:n<x):X9 n (p++ [x]) (out++ [n]++ [x]) true:=by
 obtain ⟨rfl,a⟩:=h.no rfl
 refine ⟨fun e=>(by cases e),fun _=>⟨(TU hx a).symm,x,List.mem_append_right _ (List.mem_singleton.2 rfl),hx⟩,fun hm=>?_⟩
 rcases List.mem_append.1 hm with hm|hm
 ·exact h.new hm
 simp_all
theorem X9.skip{n x:Int}{p out:List Int}(h:X9 n p out false)(hx: ¬n<x)(a:x≠n):X9 n (p++ [x]) (out++ [x]) false:=by
 obtain ⟨rfl,b⟩:=h.no rfl
 refine ⟨fun _=>⟨rfl,fun y hy=>?_⟩,fun e=>(by cases e),fun hm=>?_⟩
 ·grind
 rcases List.mem_append.1 hm with hm|hm
 ·exact h.new hm
 simp_all
theorem X9.len{n:Int}{p out:List Int}{d:Bool}(h:X9 n p out d):out.length≤p.length+1:=by cases d with
 |false=>rw[(h.no rfl).1];omega
 |true=>rw[(h.yes rfl).1,OJ];omega
theorem X9.end_{n:Int}{p out:List Int}{d:Bool}(h:X9 n p out d):Cy p n=if d then out else out++ [n]:=by
 unfold Cy
 rw[if_neg (by simpa using h.new)]
 cases d with
 | false =>
  obtain ⟨rfl,a⟩:=h.no rfl
  exact TT a
 |true=>exact (h.yes rfl).1.symm
theorem Xu{l:List Int}{i:Nat}{x:Int}(h:l[i]?=some x):l.take (i+1)=l.take i++ [x]:=by simp[List.take_add_one,h]
theorem Hk(l:List Int)(x:Int):ints (l++ [x])=ints l++ [.int .i64 x]:=by simp[ints]
theorem ZK(a:Option Addr)(c:Nat)(l:List Int)(n:Int)(F:Ab)(w:World)(hs:Sat (rw Cb 1 (.slice a l.length c) (ints l)*F) w)(hl:l.length≤1073741824):
 Calls Tryz.prog 123 #[.slice a l.length c,.int .i64 n] w fun e U=> ∃(a':Option Addr)(p:Nat),e= .returned (.slice a' (Cy l n).length p)∧Sat (rw Cb 1 (.slice a' (Cy l n).length p) (ints (Cy l n))*F) U:=by
 obtain ⟨X,z⟩:=KC
 obtain ⟨o,y⟩:=Aq l.length
 have q:=Ek y
 rw[y] at hs hl⊢
 have h0:=Sat.AE (e:=Cb) (s:=1) hs
 haveI:=h0.i
 clear hs y
 go_enter Tryz.func123,Tryz.ntmps123
 go_wp2_with fail
 go_loopg [7,5,6] o (fun g T Q R wr=> ∃(i k:Nat)(out:List Int)(v:Option Addr)(c2:Nat)(d:Bool),T= .int .i64 i∧Q= .slice v k c2∧R= .bool d∧i≤o∧k≤2*i∧Aside (g=o-i∧out.length=k∧X9 n (l.take i) out d)∧Sat (rw Cb 1 (.slice v k c2) (ints out)*(rw Cb 1 (.slice a o c) (ints l)*F)) wr)
 case atStart=>exact ⟨0,0,[],none,0,false,rfl,rfl,rfl,by omega,by omega,⟨rfl,rfl,⟨fun _=>⟨rfl,by simp⟩,fun e=>(by cases e),by simp⟩⟩,h0⟩
 obtain ⟨i,k,out,v,c2,d,rfl,rfl,rfl,hi,W,A,M⟩:=hrel
 clear h0
 haveI:=M.i
 by_cases K:i<o
 ·have D:(i:Int)<o:=by omega
  obtain ⟨x,hx⟩: ∃x,l[i]?=some x:=⟨_,List.getElem?_eq_getElem (by rw[q.out];exact K)⟩
  obtain ⟨V,rfl⟩:=Dh (hs:=M.take (rw Cb 1 (.slice a o c) (ints l))) (by omega)
  haveI:=M.i
  haveI:At (ints l) i (.int .i64 x):=⟨by unfold ints;rw[List.getElem?_map,hx];rfl⟩
  have J:Aside (l[i]?=some x∧l.take (i+1)=l.take i++ [x]):=⟨hx,Xu hx⟩
  clear hx
  cases I:((x:Int)==n) with
  | true =>
   have t:Aside (Cy l n=l):=by
    show Cy l n=l
    unfold Cy
    have e:x=n:=by simpa using I
    rw[if_pos (by simpa using e▸List.mem_of_getElem? J.out.1)]
   go_wp2
   go_ret
   refine ⟨_,_,by rw[t.out,q.out];rfl,?_⟩
   rw[t.out,q.out]
   exact Ao _ _
  | false =>
   have G:x≠n:=by simpa using I
   have B:=Ek G
   clear G
   cases d with
   | true =>
     go_wp2_with (at_builtin;refine Af z rfl (.tmp 35) (.tmp 40) rfl rfl rfl (Ae (rw Cb 1 (.slice v k c2) (ints out))) (Src.new (e:=Cb) (s:=1) (vs:= [.int .i64 x]) (Ae _) rfl (by intro u m;simp at m;rcases m with rfl;rfl)) (by unfold maxLen;omega) (by omega) ?_;intro a' p O j b;haveI:=j.i;clear b)
     go_roundg (o-(i+1))
     case measure=>have:=A.out.1;omega
     case rel=>exact ⟨i+1,k+1,out++ [x],a',p,true,by go_num,rfl,rfl,by omega,by omega,⟨rfl,by rw[List.length_append,A.out.2.1];rfl,by rw[J.out.2];exact A.out.2.2.go B.out⟩,by rw[Hk];exact AD _ _ _⟩
   | false =>
     by_cases H:n<x
     ·have r:=Ek H
      go_wp2_with (at_builtin;first
       |(refine Af z rfl (.tmp 31) (.tmp 33) rfl rfl rfl (Ae (rw Cb 1 (.slice v k c2) (ints out))) (Src.new (e:=Cb) (s:=1) (vs:= [.int .i64 n]) (Ae _) rfl (by intro u m;simp at m;rcases m with rfl;rfl)) (by unfold maxLen;omega) (by omega) ?_;intro P c3 O j b;haveI:=j.i;clear b)
       |(refine Af z rfl (.tmp 35) (.tmp 40) rfl rfl rfl (Ae (rw Cb 1 (.slice P (k+1) c3) (ints out++ [.int .i64 n]))) (Src.new (e:=Cb) (s:=1) (vs:= [.int .i64 x]) (Ae _) rfl (by intro u m;simp at m;rcases m with rfl;rfl)) (by unfold maxLen;omega) (by omega) ?_;intro a' p Y L b;haveI:=L.i;clear b))
      go_roundg (o-(i+1))
      case measure=>have:=A.out.1;omega
      case rel=>exact ⟨i+1,k+1+1,out++ [n]++ [x],a',p,true,by go_num,rfl,rfl,by omega,by omega,⟨rfl,by rw[List.length_append,List.length_append,A.out.2.1];rfl,by rw[J.out.2];exact A.out.2.2.put r.out⟩,by rw[Hk,Hk];exact AD _ _ _⟩
     have r:=Ek (Int.not_lt.1 H)
     go_wp2_with (at_builtin;refine Af z rfl (.tmp 35) (.tmp 40) rfl rfl rfl (Ae (rw Cb 1 (.slice v k c2) (ints out))) (Src.new (e:=Cb) (s:=1) (vs:= [.int .i64 x]) (Ae _) rfl (by intro u m;simp at m;rcases m with rfl;rfl)) (by unfold maxLen;omega) (by omega) ?_;intro a' p O j b;haveI:=j.i;clear b)
     go_roundg (o-(i+1))
     case measure=>have:=A.out.1;omega
     case rel=>exact ⟨i+1,k+1,out++ [x],a',p,false,by go_num,rfl,rfl,by omega,by omega,⟨rfl,by rw[List.length_append,A.out.2.1];rfl,by rw[J.out.2];exact A.out.2.2.skip (Int.not_lt.2 r.out) B.out⟩,by rw[Hk];exact AD _ _ _⟩
 have D: ¬(i:Int)<o:=by omega
 obtain rfl:i=o:=by omega
 have t:Aside (out.length=k∧Cy l n=if d then out else out++ [n]):=⟨A.out.2.1,by have:=A.out.2.2.end_;rwa [List.take_of_length_le (by rw[q.out];exact Nat.le_refl _)] at this⟩
 clear A
 cases d with
 | true =>
  have f:Aside (Cy l n=out∧out.length=k):=⟨t.out.2,t.out.1⟩
  go_wp2
  go_ret
  refine ⟨_,_,by rw[f.out.1,f.out.2];rfl,?_⟩
  rw[f.out.1,f.out.2]
  exact Ao _ _
 | false =>
  have f:Aside (Cy l n=out++ [n]∧(out++ [n]).length=k+1):=⟨t.out.2,by rw[List.length_append,t.out.1];rfl⟩
  go_wp2_with (at_builtin;refine Af z rfl (.tmp 44) (.tmp 46) rfl rfl rfl (Ae (rw Cb 1 (.slice v k c2) (ints out))) (Src.new (e:=Cb) (s:=1) (vs:= [.int .i64 n]) (Ae _) rfl (by intro u m;simp at m;rcases m with rfl;rfl)) (by unfold maxLen;omega) (by omega) ?_;intro a' p O j b;haveI:=j.i;clear b)
  go_ret
  refine ⟨a',p,by rw[f.out.1,f.out.2];rfl,?_⟩
  rw[f.out.1,f.out.2,Hk]
  exact Ao _ _
