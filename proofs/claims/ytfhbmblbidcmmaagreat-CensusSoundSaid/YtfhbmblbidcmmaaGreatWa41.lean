/- censusSound holds for every input. No condition. (part 41) -/
import Derived.Test.YtfhbmblbidcmmaaGreatWa40
set_option linter.all false
set_option maxRecDepth 100000
set_option maxHeartbeats 12800000
namespace Go.Proofs.YtfhbmblbidcmmaaGreat
open Go.RowKit Go.Sl Go.Dk Go.Tr
open Go.PS (A9)
attribute [local go_sem] S1
variable [Em]
theorem YX(f : Nat)(ih : ∀ g, f = g + 1 → Td g) : gB f true := by
 intro V N h s m K no top B G D M F w bu hf bc hK hV hR hm hs
 have bk:=As bu
 clear bu
 by_cases I:top=false∧ ∃y,Gx no K=some y
 · obtain ⟨rfl,y,hy⟩:=I
   exact Ua f V N h s m K no B G D M F w hK hR y hy hs
 have HK:=As hK
 have HV:=As hV
 have bn:Aside (∀p n,V p=some n→may n=true):=fun p n h=>(hV p n h).1
 have HM:Aside (13*fr N K+13*(f+1)≤m∧no≠0):=⟨hm,bc⟩
 have em:=As ih
 have HH:=As I
 obtain ⟨m1,ba⟩: ∃m1,m=m1+1:=⟨m-1,by omega⟩
 have cz:=As ba
 have cd:=SA h V m1 s no
 have d0:Aside (∀F w,Sat (Ad h s*F) w→Calls Tryz.prog 129 #[.pointer (some ⟨h.t,0,none⟩),.int .i64 no] w (V8 h V m1 s no F)):=fun F w q=>cd F w (by rw[←ba];exact hR) bc q
 obtain ⟨dp,U⟩:=Aq ((13:Int)-(f:Int))
 have HD:Aside (dp=13-(f:Int)∧f≤13):=⟨U.symm,hf⟩
 have dk:0≤dp∧dp≤13:=by omega
 rw[U]
 obtain ⟨ew,ex⟩:=dk
 have f0:=Bb (dp+1) (by omega)
 unfold GF at hs
 have ce:Sat (Ad h s*(Sl.block B Li [.map (some M)]*(Sl.block G Qt [.pointer (some ⟨h.t,0,none⟩)]*(Sl.block D Qr [.func (Fn.func 128) #[] #[.pointer (some ⟨B,0,none⟩),.pointer (some ⟨G,0,none⟩),.pointer (some ⟨D,0,none⟩)]]*(mp A9 M (kn K)*F))))) w:=hs.eq (by ac_rfl)
 obtain ⟨z,ok,ch,ci,bd⟩: ∃(z:Sn)(ok:Bool),(Cq no (kn K)).getD Xu=WZ z∧(Cq no (kn K)).isSome=ok∧(ok=true→top=true)∧(top=false→Gx no K=none):=by
  rw[Oh]
  cases dl:Gx no K with
  |none=>exact ⟨Ks,false,rfl,rfl,fun e=>Bool.noConfusion e,fun _=>rfl⟩
  | some y =>
    have ht:top=true:=by
     cases top with
     |true=>rfl
     |false=>exact absurd ⟨rfl,y,dl⟩ I
    exact ⟨y,true,rfl,rfl,fun _=>ht,fun e=>by rw[ht] at e;cases e⟩
 have HZ:=As bd.2
 have cj:=bd.1
 obtain ⟨yh,yc,⟨a1,a2,a3,a4⟩,⟨b1,b2,b3,b4⟩⟩:=z
 haveI:=ce.i
 have P:(Instr.lookup Li (.map (some M)) (.int .i64 no) true).run Tryz.prog (w.alloc (.cells #[.int .i64 0,.int .i64 0,.int .i64 0,.int .i64 0,.int .i64 0,.int .i64 0,.int .i64 0,.int .i64 0,.int .i64 0,.int .i64 0] Io))= .ok (.tuple #[.agg #[.int .i64 yh,.int .i64 yc,.int .i64 a1,.int .i64 a2,.int .i64 a3,.int .i64 a4,.int .i64 b1,.int .i64 b2,.int .i64 b3,.int .i64 b4],.bool ok]) (w.alloc (.cells #[.int .i64 0,.int .i64 0,.int .i64 0,.int .i64 0,.int .i64 0,.int .i64 0,.int .i64 0,.int .i64 0,.int .i64 0,.int .i64 0] Io)):=by
  rw[Se,ch,ci]
  rfl
 clear ch ci bd hK hV hR hm hs I ih cd bc hf ba U HH
 go_enter Tryz.func128,Tryz.ntmps128
 go_upto_region 2 with (fail)
 go_cut [30] (fun dq wx=>dq= .bool false∧Sat (Sl.block w.heap.size Io [.int .i64 0,.int .i64 0,.int .i64 0,.int .i64 0,.int .i64 0,.int .i64 0,.int .i64 0,.int .i64 0,.int .i64 0,.int .i64 0]*(Ad h s*(Sl.block B Li [.map (some M)]*(Sl.block G Qt [.pointer (some ⟨h.t,0,none⟩)]*(Sl.block D Qr [.func (Fn.func 128) #[] #[.pointer (some ⟨B,0,none⟩),.pointer (some ⟨G,0,none⟩),.pointer (some ⟨D,0,none⟩)]]*(mp A9 M (kn K)*F)))))) wx)
 case first=>
  cases ok with
  | false =>
    go_wp2_with fail
    go_meet
    exact ⟨rfl,Ax (C:=Sl.block (w.heap.size+1) Io [.int .i64 yh,.int .i64 yc,.int .i64 a1,.int .i64 a2,.int .i64 a3,.int .i64 a4,.int .i64 b1,.int .i64 b2,.int .i64 b3,.int .i64 b4]) (by ac_rfl)⟩
  | true =>
    obtain rfl:=cj rfl
    go_wp2_with fail
    go_meet
    exact ⟨rfl,Ax (C:=Sl.block (w.heap.size+1) Io [.int .i64 yh,.int .i64 yc,.int .i64 a1,.int .i64 a2,.int .i64 a3,.int .i64 a4,.int .i64 b1,.int .i64 b2,.int .i64 b3,.int .i64 b4]) (by ac_rfl)⟩
 obtain ⟨rfl,q2⟩:=hcut
 obtain ⟨N9,bv⟩:=Aq w.heap.size
 rw[bv] at q2⊢
 clear ce this P bv cj
 haveI:=q2.i
 go_wp2_with fail
 with_reducible refine Calls.mono (d0.out _ _ (Ae (Ad h s))) ?_
 rintro e w1 ⟨s2,bw,au,aq,b6⟩
 have o:Aside (D2 V m1 s2∧s2.sp=s.sp∧s2.ck.d=s.ck.d):=⟨bw,au,aq⟩
 clear bw au aq q2
 rcases b6 with ⟨n,v1,R,Y,rfl,hN,q3⟩|⟨Y,rfl,q3⟩
 rotate_left
 · haveI:=q3.i
   exact ⟨rfl,s2,K,CI h s2 B G D M K F,o.out.2.1,o.out.2.2,.inr ⟨rfl,Tt Y,o.out.1.less (Nat.zero_le _)⟩⟩
 have Q:=bn.out no n Y
 have u:=As Y
 have ay:=As Q
 have H:=fun F w q=>OY n v1 R F w hN q (by have:=(EM.of Q).e;omega) (by have:=(EM.of Q).k;omega)
 obtain ⟨vE,vK,rfl,hE,b5⟩:=hN
 obtain ⟨aE,cE,rfl,dg,eu⟩:=hE.v
 obtain ⟨aK,cK,rfl,dh,ev⟩:=Ai.v b5
 obtain ⟨le,W⟩:=Aq n.Ag.length
 obtain ⟨lk,P⟩:=Aq n.kids.length
 obtain ⟨lf,ab⟩:=Aq n.leaf
 have T:Aside (A1 R (.slice aE le cE) n.Ag∧n.Ag.length=le):=⟨by rw[←W];exact hE,W⟩
 have ax:Aside (BE R (.slice aK n.kids.length cK) n.kids∧n.kids.length=lk):=⟨b5,P⟩
 have L:=As ab
 have ed:le≤12:=by have:=(EM.of Q).e;omega
 have cc:lk≤12:=by have:=(EM.of Q).k;omega
 rw[W,P,ab] at H
 rw[W] at dg⊢
 rw[P] at dh⊢
 rw[ab]
 have a6:=As H
 obtain ⟨mn,bb⟩: ∃z:Nat,many n=z:=⟨_,rfl⟩
 rw[bb] at a6
 have bl:=As bb
 haveI:=q3.i
 clear Y Q H hE b5 W P ab bb
 by_cases b7:f=0
 · have U:dp=13:=by have:=HD.out.1;omega
   have cu:Aside (DW V f no top=none):=(by rw[b7];rfl:_=_)
   have dd:decide ((12:Int)<dp)=true:=decide_eq_true (by omega)
   have br:(12:Int)<dp:=by omega
   clear U b7
   go_wp2
   exact ⟨rfl,s2,K,CI h s2 B G D M K F,o.out.2.1,o.out.2.2,.inr ⟨rfl,cu.out,o.out.1.less (Nat.zero_le _)⟩⟩
 obtain ⟨g,hg⟩: ∃g,f=g+1:=⟨f-1,by omega⟩
 have HG:=As hg
 have dd:decide ((12:Int)<dp)=false:=decide_eq_false (by have:=HD.out.1;omega)
 have br: ¬(12:Int)<dp:=by have:=HD.out.1;omega
 obtain ⟨fw,bz⟩:=Aq (decide (top=false∧mn<4))
 have J:=As bz
 clear bz hg b7
 go_upto_region 5 with (fail)
 go_cut [45] (fun dr wx=>dr= .bool fw∧Sat (Sl.block w1.heap.size Cy [.bool lf,.slice aE le cE,.slice aK lk cK]*(R*(Sl.block N9 Io [.int .i64 0,.int .i64 0,.int .i64 0,.int .i64 0,.int .i64 0,.int .i64 0,.int .i64 0,.int .i64 0,.int .i64 0,.int .i64 0]*(Ad h s2*(Sl.block B Li [.map (some M)]*(Sl.block G Qt [.pointer (some ⟨h.t,0,none⟩)]*(Sl.block D Qr [.func (Fn.func 128) #[] #[.pointer (some ⟨B,0,none⟩),.pointer (some ⟨G,0,none⟩),.pointer (some ⟨D,0,none⟩)]]*(mp A9 M (kn K)*F)))))))) wx)
 case first =>
  cases top with
  | true =>
    have hz:fw=false:=by rw[←J.out];simp
    subst hz
    go_wp2_with fail
    go_meet
    exact ⟨rfl,Ap (by ac_rfl)⟩
  | false =>
    by_cases h4:mn<4
    · have hz:fw=true:=by rw[←J.out];simp[h4]
      subst hz
      have b8:(mn:Int)<4:=by omega
      have bx:decide ((mn:Int)<4)=true:=decide_eq_true b8
      go_wp2_with (go_at_call 130;with_reducible refine Calls.mono (a6.out _ _ (Ae R)) ?_;rintro e w4 ⟨rfl,q4⟩;haveI:=q4.i)
      go_meet
      exact ⟨rfl,Ap (by ac_rfl)⟩
    have hz:fw=false:=by rw[←J.out];simp[h4]
    subst hz
    have b8: ¬(mn:Int)<4:=by omega
    have bx:decide ((mn:Int)<4)=false:=decide_eq_false b8
    go_wp2_with (go_at_call 130;with_reducible refine Calls.mono (a6.out _ _ (Ae R)) ?_;rintro e w4 ⟨rfl,q4⟩;haveI:=q4.i)
    go_meet
    exact ⟨rfl,Ap (by ac_rfl)⟩
 obtain ⟨rfl,q5⟩:=hcut
 obtain ⟨az,ao⟩:=Aq w1.heap.size
 rw[ao] at q5⊢
 clear q3 this ao
 haveI:=q5.i
 cases fw with
 | true =>
   have av:Aside (DW V f no top=none):=(by
    have r:=of_decide_eq_true J.out
    rw[HG.out]
    exact X3 u.out ⟨r.1,by rw[bl.out];exact r.2⟩:_=_)
   go_wp2
   exact ⟨rfl,s2,K,CI h s2 B G D M K F,o.out.2.1,o.out.2.2,.inr ⟨rfl,av.out,o.out.1.less (Nat.zero_le _)⟩⟩
 | false =>
   have H4:Aside (¬(top=false∧many n<4)):=(by
    have r:=of_decide_eq_false J.out
    rw[bl.out]
    exact r: ¬_)
   clear a6 J
   obtain ⟨x0,cf⟩:=Aq (if lf then (⟨0,n.Ag.length,n.Ag.headD e0,n.Ag.getLastD e0⟩:Sn) else Ks)
   have O:=As cf
   clear cf
   have d1:Aside (lf=true→AL n.Ag→MU V no top x0):=(fun h1 h2=>by
    refine ⟨g+1,?_⟩
    rw[O1 u.out (L.out.trans h1) H4.out,if_neg (by rw[Ge.2 h2];simp),←O.out,if_pos h1]:_→_→_)
   obtain ⟨d3,ap⟩:=Aq wc.heap.size
   have al:=As ap
   clear ap
   go_upto_if 49 with (fail)
   go_cut [49] (fun f8 wx=>(lf=true→AL n.Ag)∧Sat (Sl.block wc.heap.size Io (bX x0)*(Sl.block az Cy [.bool lf,.slice aE le cE,.slice aK lk cK]*(R*(Sl.block N9 Io [.int .i64 0,.int .i64 0,.int .i64 0,.int .i64 0,.int .i64 0,.int .i64 0,.int .i64 0,.int .i64 0,.int .i64 0,.int .i64 0]*(Ad h s2*(Sl.block B Li [.map (some M)]*(Sl.block G Qt [.pointer (some ⟨h.t,0,none⟩)]*(Sl.block D Qr [.func (Fn.func 128) #[] #[.pointer (some ⟨B,0,none⟩),.pointer (some ⟨G,0,none⟩),.pointer (some ⟨D,0,none⟩)]]*(mp A9 M (kn K)*F))))))))) wx)
   case first=>
    cases lf with
    | false =>
      have r:=bk.out n u.out
      rw[L.out] at r
      cases r
    | true =>
      have X:=BS ay.out L.out
      have ec:1≤le:=by have:=X.2.2.1;rw[T.out.2] at this;exact this
      have HJ:Aside (∀(b:Nat)(F:Ab)(w:World),Sat (Sl.block b 29 [.slice aE le cE]*(R*F)) w→Calls Tryz.prog 80 #[.slice (some ⟨b,0,none⟩) 1 1] w fun e w'=> ∃a c,e= .returned (.slice a (join n.Ag).length c)∧Sat (rw AK 4 (.slice a (join n.Ag).length c) (AQ (join n.Ag))*(Sl.block b 29 [.slice aE le cE]*(R*F))) w'):=fun b F w q=>by
       have r:=L0 [n.Ag] _ _ F w (JD b T.out.1) (q.eq (Az _ _ _).symm) (by simp) (by simp;have:=X.2.2.2.1;omega) (by simpa using X.2.1) (by have:=X.2.2.2.2;simp;omega)
       rw[List.flatten_singleton] at r
       exact r.mono fun e w' ⟨a,c,h1,h2⟩=>⟨a,c,h1,h2.eq (by ac_rfl)⟩
      obtain ⟨jl,aa⟩:=Aq ((join n.Ag).length)
      simp only[aa] at HJ
      have cx:Aside (jl=le→AL n.Ag):=(fun e=>Ge.1 (by rw[aa,e,T.out.2]):_→_)
      have cy:Aside (jl≠le→DW V f no top=none):=(fun e=>by rw[HG.out,O1 u.out L.out H4.out,if_pos (by rw[aa,T.out.2];exact e)]:_→_)
      have cb:IntKind.i64.wrap ((le:Int)-1)=((le-1:Nat):Int):=(IntWalk.i64_in _ (by omega)).trans (by omega)
      obtain ⟨lm,b9⟩:=Aq (le-1)
      rw[b9] at cb
      obtain ⟨x,hx⟩: ∃x,n.Ag[0]?=some x:=⟨_,List.getElem?_eq_getElem (by rw[T.out.2];omega)⟩
      obtain ⟨y,hy⟩: ∃x,n.Ag[lm]?=some x:=⟨_,List.getElem?_eq_getElem (by rw[T.out.2];omega)⟩
      have bo:Aside (n.Ag.headD e0=x∧n.Ag.getLastD e0=y):=⟨by cases hq:n.Ag with|nil=>rw[hq] at hx;simp at hx|cons a l=>rw[hq] at hx;simpa using hx,by rw[List.getLastD_eq_getLast?,List.getLast?_eq_getElem?,T.out.2,b9,hy];rfl⟩
      have b0:A1 R (.slice aE n.Ag.length cE) n.Ag:=by rw[T.out.2];exact T.out.1
      obtain ⟨eb,eo,e8,r1,r2,r3,r4⟩:=BH b0 hx
      obtain ⟨es,et,e7,p1,p2,p3,p4⟩:=BH b0 hy
      rw[e8] at e7
      cases e7
      subst e8
      have d2:Aside (x0=⟨0,le,x,y⟩):=(by rw[←O.out,if_pos rfl,bo.out.1,bo.out.2,T.out.2]:_=_)
      obtain ⟨x1,x2,x3,x4⟩:=x
      obtain ⟨y1,y2,y3,y4⟩:=y
      simp only at r1 r2 r3 r4 p1 p2 p3 p4
      have ef:(lm:Int)<le:=by omega
      have ee:(0:Int)<le:=by omega
      clear X aa hx hy b0 b9
      go_upto_region 9 with (fail)
      go_region_held3 (fun w'=>w'.cell? ⟨az,1,none⟩=some (.slice (some ⟨eb,eo,none⟩) le cE)) (exact (Ac _ _ _)) (first
       |(go_at_call 80;with_reducible refine Calls.mono (HJ.out _ _ _ (Bh (Sl.block _ 29 [.slice (some ⟨eb,eo,none⟩) le cE]) R)) ?_;rintro e w7 ⟨a7,c7,rfl,q7⟩;haveI:=q7.i))
      all_goals
       haveI:=q7.i
       cases e9:((jl:Int) !=(le:Int)) with
       | true =>
         have av:Aside (DW V f no top=none):=(by
          refine cy.out fun e=>?_
          rw[e] at e9
          simp at e9:_=_)
         go_wp2
         exact ⟨rfl,s2,K,CI h s2 B G D M K F,o.out.2.1,o.out.2.2,.inr ⟨rfl,av.out,o.out.1.less (Nat.zero_le _)⟩⟩
       | false =>
         have aw:Aside (AL n.Ag):=(by
          have c9:(jl:Int)=le:=by simpa using e9
          exact cx.out (by omega):AL _)
         go_upto_region 11 with (fail)
         go_region
         go_wp2_with fail
         go_meet
         refine ⟨fun _=>aw.out,?_⟩
         rw[d2.out]
         have q8:=Kk (w:=w7) (b:=wc.heap.size) (e:=Io) (c0:= .int .i64 0) (c1:= .int .i64 0) (c2:= .int .i64 0) (c3:= .int .i64 0) (c4:= .int .i64 0) (c5:= .int .i64 0) (c6:= .int .i64 0) (c7:= .int .i64 0) (c8:= .int .i64 0) (c9:= .int .i64 0) (v0:= .int .i64 0) (v1:= .int .i64 le) (v2:= .int .i64 x1) (v3:= .int .i64 x2) (v4:= .int .i64 x3) (v5:= .int .i64 x4) (v6:= .int .i64 y1) (v7:= .int .i64 y2) (v8:= .int .i64 y3) (v9:= .int .i64 y4)
         haveI:=q8.drew.i
         exact Ax (C:=rw AK 4 (.slice a7 jl c7) (AQ (join n.Ag))*Sl.block (wc.heap.size+1) 29 [.slice (some ⟨eb,eo,none⟩) le cE]) (by unfold bX Dq;ac_rfl)
   obtain ⟨ca,q6⟩:=hcut
   have aw:=As ca
   rw[al.out] at q6⊢
   clear q5 this ca al
   obtain ⟨xh,xc,⟨x1,x2,x3,x4⟩,⟨x5,x6,x7,x8⟩⟩:=x0
   unfold bX Dq at q6
   simp only[List.cons_append,List.nil_append] at q6
   haveI:=q6.i
   go_wp2_with fail
   go_loopg [80] lk (fun gg ds wr=> ∃(j m3:Nat)(s3:TS)(K3:List (Int×Sn))(x:Sn),ds= .int .i64 j∧j≤lk∧Aside (lE V N f g n lf m1 s K ⟨xh,xc,⟨x1,x2,x3,x4⟩,⟨x5,x6,x7,x8⟩⟩ gg lk j m3 s3 K3 x)∧
    Sat (Sl.block d3 Io (bX x)*(Sl.block az Cy [.bool lf,.slice aE le cE,.slice aK lk cK]*(R*(Sl.block N9 Io [.int .i64 0,.int .i64 0,.int .i64 0,.int .i64 0,.int .i64 0,.int .i64 0,.int .i64 0,.int .i64 0,.int .i64 0,.int .i64 0]*(Ad h s3*(Sl.block B Li [.map (some M)]*(Sl.block G Qt [.pointer (some ⟨h.t,0,none⟩)]*(Sl.block D Qr [.func (Fn.func 128) #[] #[.pointer (some ⟨B,0,none⟩),.pointer (some ⟨G,0,none⟩),.pointer (some ⟨D,0,none⟩)]]*(mp A9 M (kn K3)*F))))))))) wr)
   case atStart=>
    refine ⟨0,m1,s2,K,_,rfl,by omega,⟨rfl,o.out.1,o.out.2.1,o.out.2.2,HK.out,by omega,fun e=>?_,fun _=>rfl,fun q hq=> .inl hq,fun _=>rfl,?_,?_,fun e=>by omega⟩,q6⟩
    · rw[←O.out,e]
      exact V4.zero g n
    · rw[←O.out]
      cases lf with
      |true=>simp only[if_true];have:=T.out.2;omega
      |false=>exact ⟨by simp[Ks],by simp[Ks]⟩
    rw[←O.out]
    cases lf with
    |true=>exact ⟨by simp,by simp⟩
    |false=>exact ⟨by simp[Ks],by simp[Ks]⟩
   obtain ⟨j,m3,s3,K3,x,rfl,hj,A,q7⟩:=hrel
   clear q6
   obtain ⟨Z,zc,⟨z1,z2,z3,z4⟩,⟨z5,z6,z7,z8⟩⟩:=x
   unfold bX Dq at q7
   simp only[List.cons_append,List.nil_append] at q7
   haveI:=q7.i
   by_cases ez:j<lk
   · exfalso
     have h7:=(BS ay.out (bk.out n u.out)).1
     have r:=ax.out.2
     rw[h7] at r
     simp at r
     omega
   have eg: ¬(j:Int)<lk:=by omega
   obtain rfl:j=lk:=by omega
   have HC:Aside (MU V no top ⟨Z,zc,⟨z1,z2,z3,z4⟩,⟨z5,z6,z7,z8⟩⟩):=(by
    cases lf with
    | true =>
      have r:=(BS ay.out L.out).1
      have h8:=ax.out.2
      rw[r] at h8
      rw[A.out.zero h8.symm]
      exact d1.out rfl (aw.out rfl)
    | false =>
      have r:=A.out.run rfl
      rw[←ax.out.2] at r
      exact r.done u.out L.out H4.out:MU _ _ _ _)
   have ar:0≤no∧no<N:=⟨by
    have r:=(HV.out no n u.out).2
    rcases Int.lt_or_le no 0 with h8|h8
    · have:V no=none:=A.out.Qi.out (by omega)
      rw[u.out] at this
      cases this
    exact h8,(HV.out no n u.out).2⟩
   have a8:=As ar
   clear ar
   have bj : Aside (K = [] → Z < f) := (fun e => by
    by_cases c5:j=0
    · have r:=A.out.zero c5
      have hG:=HG.out
      have h7:=O.out
      rw[←r] at h7
      cases lf with
      | true =>
        simp only[if_true] at h7
        have h6:=congrArg Sn.h h7
        simp only at h6
        omega
      | false =>
        have h6:=congrArg Sn.h h7
        have:(if false=true then (⟨0,n.Ag.length,n.Ag.headD e0,n.Ag.getLastD e0⟩:Sn) else Ks).h=0:=rfl
        rw[this] at h6
        simp only at h6
        omega
    exact (A.out.low (by omega)).2 e:_→_)
   have bm : Aside (top = false → Gx no K3 = none) := (fun e => by
    cases hq:Gx no K3 with
    |none=>rfl
    | some z =>
      exfalso
      have r:=L1 hq
      rcases A.out.aD _ r with h8|h8
      · have h7:=HZ.out e
        have: ∀(K:List (Int×Sn)),(no,z)∈K→Gx no K≠none:=fun K hK h6=>by
         have h5:=Lz (i:=no.toNat) h6 (by have:=a8.out.1;omega)
         unfold Qc at h5
         rw[List.any_eq_false] at h5
         have:=h5 _ hK
         simp at this
         have:=a8.out.1
         omega
        exact this K h8 h7
      have h6:=A.out.kn.get hq
      obtain ⟨q1,q2⟩:=id HC.out
      rw[e] at q2
      have h5:=h6.of bn.out q2
      rw[←h5] at h8
      simp only at h8
      omega:_→_)
   have bi:Aside (m1+13*fr N K3≤m3+j+13*fr N K∧m=m1+1∧j≤12):=⟨A.out.mA,cz.out,cc⟩
   have HA:Aside (Ml V K3∧D2 V m3 s3∧s3.sp=s.sp∧s3.ck.d=s.ck.d∧ ∀q∈K3,q∈K∨q.2.h+1≤Z):=⟨A.out.kn,A.out.Qi,A.out.sp,A.out.d,A.out.aD⟩
   clear A
   cases top with
   | true =>
     go_wp2
     go_returns
     have q8:=Kk (w:=wr) (b:=N9) (e:=Io) (c0:= .int .i64 0) (c1:= .int .i64 0) (c2:= .int .i64 0) (c3:= .int .i64 0) (c4:= .int .i64 0) (c5:= .int .i64 0) (c6:= .int .i64 0) (c7:= .int .i64 0) (c8:= .int .i64 0) (c9:= .int .i64 0) (v0:= .int .i64 Z) (v1:= .int .i64 zc) (v2:= .int .i64 z1) (v3:= .int .i64 z2) (v4:= .int .i64 z3) (v5:= .int .i64 z4) (v6:= .int .i64 z5) (v7:= .int .i64 z6) (v8:= .int .i64 z7) (v9:= .int .i64 z8)
     haveI:=q8.i
     refine ⟨s3,K3,CI h s3 B G D M K3 F,HA.out.2.2.1,HA.out.2.2.2.1,.inl ⟨⟨Z,zc,⟨z1,z2,z3,z4⟩,⟨z5,z6,z7,z8⟩⟩,m3,rfl,HC.out,bj.out,HA.out.1,fun q hq=>(HA.out.2.2.2.2 q hq).imp id fun r=>?_,HA.out.2.1,?_⟩⟩
     · simp only;omega
     have:=bi.out;simp only[if_true];omega
   | false =>
     go_wp2
     go_returns
     have q8:=Kk (w:=Gn Tryz.prog Li M (A9 no) (.agg #[.int .i64 Z,.int .i64 zc,.int .i64 z1,.int .i64 z2,.int .i64 z3,.int .i64 z4,.int .i64 z5,.int .i64 z6,.int .i64 z7,.int .i64 z8]) wr) (b:=N9) (e:=Io) (c0:= .int .i64 0) (c1:= .int .i64 0) (c2:= .int .i64 0) (c3:= .int .i64 0) (c4:= .int .i64 0) (c5:= .int .i64 0) (c6:= .int .i64 0) (c7:= .int .i64 0) (c8:= .int .i64 0) (c9:= .int .i64 0) (v0:= .int .i64 Z) (v1:= .int .i64 zc) (v2:= .int .i64 z1) (v3:= .int .i64 z2) (v4:= .int .i64 z3) (v5:= .int .i64 z4) (v6:= .int .i64 z5) (v7:= .int .i64 z6) (v8:= .int .i64 z7) (v9:= .int .i64 z8)
     haveI:=q8.i
     have ey:=k' (y:=⟨Z,zc,⟨z1,z2,z3,z4⟩,⟨z5,z6,z7,z8⟩⟩) (bm.out (by simp)) a8.out.1 a8.out.2
     refine ⟨s3,M7 no ⟨Z,zc,⟨z1,z2,z3,z4⟩,⟨z5,z6,z7,z8⟩⟩ K3,?_,HA.out.2.2.1,HA.out.2.2.2.1,.inl ⟨⟨Z,zc,⟨z1,z2,z3,z4⟩,⟨z5,z6,z7,z8⟩⟩,m3,rfl,HC.out,bj.out,HA.out.1.put HC.out,fun q hq=>?_,HA.out.2.1,?_⟩⟩
     · exact (DZ (Ad h s3) (Sl.block B Li [.map (some M)]) (Sl.block G Qt [.pointer (some ⟨h.t,0,none⟩)]) (Sl.block D Qr [.func (Fn.func 128) #[] #[.pointer (some ⟨B,0,none⟩),.pointer (some ⟨G,0,none⟩),.pointer (some ⟨D,0,none⟩)]]) (mp A9 M (CT no (.agg #[.int .i64 Z,.int .i64 zc,.int .i64 z1,.int .i64 z2,.int .i64 z3,.int .i64 z4,.int .i64 z5,.int .i64 z6,.int .i64 z7,.int .i64 z8]) (kn K3))) F).eq (by rw[Kc,←Sj];rfl)
     · rcases L2 hq with e|e
       · rw[e];simp only;exact .inr (Int.le_refl _)
       exact (HA.out.2.2.2.2 q e).imp id fun r=>by simp only;omega
     have:=bi.out;simp only[Bool.false_eq_true,if_false];omega
end Go.Proofs.YtfhbmblbidcmmaaGreat
namespace Go.Proofs.YtfhbmblbidcmmaaGreat
open Go.RowKit Go.Sl Go.Dk Go.Tr
open Go.PS (A9)
attribute [local go_sem] S1
variable [Em]
theorem QO(f:Nat)(p: ∀g,f=g+1→Td g):Td f:=by
 intro V N h s m K no top b d c M F w l a i k j hm hs
 cases o:V no with
 |none=>exact OV f p V N h s m K no top b d c M F w (fun n e=>by rw[o] at e;cases e) l a i k j hm hs
 | some n =>
  cases hl:n.leaf with
  |true=>exact YX f p V N h s m K no top b d c M F w (fun n' e=>by rw[o] at e;cases e;exact hl) l a i k j hm hs
  |false=>exact OV f p V N h s m K no top b d c M F w (fun n' e=>by rw[o] at e;cases e;exact hl) l a i k j hm hs
theorem TZ: ∀f,Td f
 |0=>QO 0 fun g h=>by omega
 | f + 1 => QO (f + 1) fun g h => by
  have:g=f:=by omega
  subst this
  exact TZ g
end Go.Proofs.YtfhbmblbidcmmaaGreat
namespace Go.Proofs.YtfhbmblbidcmmaaGreat
open Go.RowKit Go.Sl Go.Dk Go.Tr
open Go.PS (A9)
theorem PA{P:Program}{w:World}{a:Addr}{m:Mode}(f:Fn)(x y:Array Value):(store a (.func f x y) m).run P w=stored P w a (.func f x y) m:=run_store P w a _ m rfl
attribute [local go_sem] PA
theorem MZ(E:Nat)(w:World):
 CallsD Tryz.prog 73 #[.pointer (some ⟨E,0,none⟩)] .returning w fun e c d=>e= .returned (.tuple #[])∧c= .returning∧d=w:=by
 refine callsD_of_wpS Tryz.func73 rfl fun a cs b=>?_
 apply wpS_seq
 apply wpS_region
 simp[wpOpsS,go_sem,recoverD,b,Tryz.ntmps73,Exit.thenS]
 apply wpS_seq
 apply wpS_region
 simp[wpOpsS,go_sem,Exit.thenS]
 refine wpS_cond (t:=false) (by simp[Act.eval,Array.replicate]) ?_
 simp only[Bool.false_eq_true,if_false]
 refine wpS_of_wp (wp_skip ?_)
 cases a
 simp_all[bodyPostS,results,Tryz.results73,Exit.thenS]
theorem Qa(E:Nat)(a:Int)(b:Value)(F:Ab)(w:World)(hs:Sat (Sl.block E Fw [b]*F) w):
 CallsD Tryz.prog 73 #[.pointer (some ⟨E,0,none⟩)] (.panicking (CM a)) w fun e g j=>e= .returned (.tuple #[])∧g= .panicking [{ v:= .iface cX (.agg #[.int .i64 a]),recovered:=true }]∧Sat (Sl.block E Fw [.int .i64 a]*F) j:=by
 haveI:=hs.i
 refine callsD_of_wpS Tryz.func73 rfl fun c cs d=>?_
 unfold CM at d
 apply wpS_seq
 apply wpS_region
 simp[wpOpsS,go_sem,recoverD,d,Tryz.ntmps73,Exit.thenS]
 apply wpS_seq
 apply wpS_region
 simp[wpOpsS,go_sem,Exit.thenS]
 refine wpS_cond (t:=true) (by simp[Act.eval,Array.replicate]) ?_
 simp only[if_true]
 refine wpS_of_wp ?_
 go_wp2_with fail
 refine Calls.mono (Ho a _ _ hs) ?_
 rintro k l ⟨rfl,f⟩
 haveI:=f.i
 go_wp2
 simp[bodyPostS,results,Tryz.results73]
 exact Ap (by ac_rfl)
theorem Y3(j a b c d e f b2 g i:Int)(w:World):(Instr.field Io (.agg #[.int .i64 j,.int .i64 a,.int .i64 b,.int .i64 c,.int .i64 d,.int .i64 e,.int .i64 f,.int .i64 b2,.int .i64 g,.int .i64 i]) 1).run Tryz.prog w= .ok (.int .i64 a) w:=by kernel_rfl
theorem Uh{A:Ab}{w:World}{n:Nat}[q:AR A w][z:Sz w n]:AR (mp A9 n (kn [])*A) (w.alloc (.map #[] 0)):=⟨by
 have h:=q.out.CW (.map #[] 0)
 rw[z.out] at h
 exact Sat.Eo (kf:=A9) (ms:= []) (b:=n) (o:= .map #[] 0) ⟨#[],0,rfl,rfl,by simp,by simp⟩ h⟩
attribute [local instance 20000] Uh
variable [Em]
def ZX(V:Int→Option Nd)(N:Nat)(h:Th)(m:Nat)(s:TS)(no:Int)(F:Ab)(e:Ending)(a:World):Prop:= ∃s',Sat (Ad h s'*F) a∧s'.sp=s.sp∧s'.ck.d=s.ck.d∧
 ((∃y m',e= .returned (WZ y)∧DW V 13 no true=some y∧D2 V m' s'∧m≤m'+13*N+13)∨(e= .panicked (CM 13)∧DW V 13 no true=none∧D2 V 0 s'))
theorem Z9(V:Int→Option Nd)(N:Nat)(h:Th)(m:Nat)(s:TS)(no:Int)(F:Ab)(w:World)(k:no≠0)(v: ∀p n,V p=some n→may n=true∧p<N)(O:D2 V m s)(hm:13*N+182≤m)(hs:Sat (Ad h s*F) w):
 Calls Tryz.prog 75 #[.pointer (some ⟨h.t,0,none⟩),.int .i64 no,.bool true] w (ZX V N h m s no F):=by
 have a0: ∀(L:Fn)(first cap:Array Value)(w:World),(Instr.makeFunc L first cap).run Tryz.prog w= .ok (.func L first cap) w:=fun _ _ _ _=>rfl
 have a5:= @run_makeMap Tryz.prog
 have a:=fun X Z Y M F w q=>TZ 13 V N h s m [] no true X Z Y M F w (by omega) k (fun p hp=>by cases hp) v O (by have:=gJ N [];omega) q
 have u:(13:Int)-((13:Nat):Int)=0:=rfl
 rw[u] at a
 have o:=As a
 have r:Aside (∀p n,V p=some n→may n=true):=fun p n h=>(v p n h).1
 haveI:=hs.i
 clear a k v O hm
 go_enter Tryz.func75,Tryz.ntmps75
 go_wp2_with fail
 with_reducible refine Calls.mono (o.out (w.heap.size+1+1+1) w.heap.size (w.heap.size+1+1+1+1) (w.heap.size+1+1) _ _ (QP h s (w.heap.size+1+1+1) w.heap.size (w.heap.size+1+1+1+1) (w.heap.size+1+1) [])) ?_
 rintro e w2 ⟨s2,W,Q,f,x,c⟩
 have q3:=Q.eq (Kc h s2 (w.heap.size+1+1+1) w.heap.size (w.heap.size+1+1+1+1) (w.heap.size+1+1) W _)
 haveI:=q3.i
 clear Q hs
 rcases c with ⟨y,z,rfl,l,P,_,_,hr,hb⟩|⟨rfl,l,hr⟩
 ·have g:Aside (DW V 13 no true=some y∧D2 V z s2∧s2.sp=s.sp∧s2.ck.d=s.ck.d∧m≤z+13*N+13):=⟨l.at r.out (by simpa using P rfl),hr,f,x,by
   have:=gJ N []
   simp only[if_true] at hb
   omega⟩
  obtain ⟨N6,j⟩:=Aq (w.heap.size+1)
  have U:=As j
  clear l P hr hb f x j
  obtain ⟨T,R,⟨B,D,G,H⟩,⟨I,b2,J,K⟩⟩:=y
  unfold WZ
  simp only
  go_wp2
  go_returns
  have q8:=Kk (w:=w2) (b:=w.heap.size+1) (e:=Io) (c0:= .int .i64 0) (c1:= .int .i64 0) (c2:= .int .i64 0) (c3:= .int .i64 0) (c4:= .int .i64 0) (c5:= .int .i64 0) (c6:= .int .i64 0) (c7:= .int .i64 0) (c8:= .int .i64 0) (c9:= .int .i64 0) (v0:= .int .i64 T) (v1:= .int .i64 R) (v2:= .int .i64 B) (v3:= .int .i64 D) (v4:= .int .i64 G) (v5:= .int .i64 H) (v6:= .int .i64 I) (v7:= .int .i64 b2) (v8:= .int .i64 J) (v9:= .int .i64 K)
  haveI:=q8.i
  exact ⟨s2,Ar _ _,g.out.2.2.1,g.out.2.2.2.1,.inl ⟨⟨T,R,⟨B,D,G,H⟩,⟨I,b2,J,K⟩⟩,z,rfl,g.out.1,g.out.2.1,g.out.2.2.2.2⟩⟩
 exact ⟨rfl,s2,Ar _ _,f,x,.inr ⟨rfl,l,hr⟩⟩
def ZM(V:Int→Option Nd)(N:Nat)(h:Th)(m:Nat)(s:TS)(root:Int)(F:Ab)(e:Ending)(a:World):Prop:= ∃s' m',Sat (Ad h s'*F) a∧s'.sp=s.sp∧s'.ck.d=s.ck.d∧D2 V m' s'∧
 e= .returned (.int .i64 (if (AJ V root).ok then 0 else 13))∧((AJ V root).ok=true→m≤m'+13*N+13)
theorem Yy(V:Int→Option Nd)(N:Nat)(h:Th)(m:Nat)(s:TS)(root:Int)(F:Ab)(w:World)(v: ∀p n,V p=some n→may n=true∧p<N)(u:D2 V m s)(hm:13*N+182≤m)(hs:Sat (Ad h s*F) w):
 Calls Tryz.prog 17 #[.pointer (some ⟨h.t,0,none⟩),.int .i64 root] w (ZM V N h m s root F):=by
 have a0: ∀(I:Fn)(first cap:Array Value)(w:World),(Instr.makeFunc I first cap).run Tryz.prog w= .ok (.func I first cap) w:=fun _ _ _ _=>rfl
 haveI:=hs.i
 by_cases r:root=0
 · subst r
   have O:=As u
   clear u v hm hs
   go_enter_defers Tryz.func17,Tryz.ntmps17
   go_wp2
   refine leaves_cons (f:=73) (args:= #[.pointer (some ⟨w.heap.size,0,none⟩)]) (by simp) (by simp[go_sem]) ?_
   refine (MZ _ _).mono ?_
   rintro e K H ⟨rfl,rfl,rfl⟩
   simp[Leaves,settle,results,Tryz.results17,go_sem]
   exact ⟨s,m,Ar _ _,rfl,rfl,O.out,rfl,fun _=>by omega⟩
 have a5:((root:Int)==0)=false:=by simpa using r
 have a:Aside (∀p n,V p=some n→may n=true):=fun p n h=>(v p n h).1
 have o:=fun F w q=>Z9 V N h m s root F w r v u hm q
 have k:=As o
 have x:Aside ((AJ V root).ok=true↔ ∃y,DW V 13 root true=some y):=P' a.out r
 obtain ⟨E,J⟩:=Aq w.heap.size
 have HE:=As J
 clear o v u hm hs r J
 go_enter_defers Tryz.func17,Tryz.ntmps17
 go_wp2_with fail
 with_reducible refine Calls.mono (k.out _ _ (Ae (Ad h s))) ?_
 rintro e L ⟨s2,q2,c,B,b⟩
 haveI:=q2.i
 rcases b with ⟨y,G,rfl,g,hr,hb⟩|⟨rfl,g,hr⟩
 · have D:mT y:=MU.low a.out ⟨13,g⟩
   have z:y.count≤1024:=O' a.out g
   have j:Aside ((AJ V root).ok=true∧D2 V G s2∧s2.sp=s.sp∧s2.ck.d=s.ck.d∧m≤G+13*N+13):=⟨x.out.2 ⟨y,g⟩,hr,c,B,hb⟩
   clear g hr hb c B D k x
   obtain ⟨yh,M,⟨P,Q,R,T⟩,⟨U,b2,W,X⟩⟩:=y
   simp only at z
   unfold WZ
   simp only
   have Y:decide ((1024:Int)<M)=false:=decide_eq_false (by omega)
   have Z:=fun w=>Y3 yh M P Q R T U b2 W X w
   go_wp2
   refine leaves_cons (f:=73) (args:= #[.pointer (some ⟨w.heap.size,0,none⟩)]) (by simp) (by simp[go_sem]) ?_
   refine (MZ _ _).mono ?_
   rintro e K H ⟨rfl,rfl,rfl⟩
   simp[Leaves,settle,results,Tryz.results17,go_sem]
   exact ⟨s2,G,Ar _ _,j.out.2.2.1,j.out.2.2.2.1,j.out.2.1,by rw[j.out.1];rfl,fun _=>j.out.2.2.2.2⟩
 have l:(AJ V root).ok=false:=by
  cases hq:(AJ V root).ok with
  |false=>rfl
  | true =>
    obtain ⟨y,hy⟩:=x.out.1 hq
    rw[g] at hy
    cases hy
 show bodyPostD _ _ _ (.panic (CM 13)) _ L
 refine leaves_cons (f:=73) (args:= #[.pointer (some ⟨w.heap.size,0,none⟩)]) (by simp) (by simp[go_sem]) ?_
 refine (Qa w.heap.size 13 (.int .i64 0) _ L (Ae (Sl.block w.heap.size Fw [.int .i64 0]))).mono ?_
 rintro e K w3 ⟨rfl,rfl,q3⟩
 haveI:=q3.i
 simp[Leaves,settle,results,Tryz.results17,go_sem]
 exact ⟨s2,0,Ar _ _,c,B,hr,by rw[l];rfl,fun e=>by rw[l] at e;cases e⟩
end Go.Proofs.YtfhbmblbidcmmaaGreat
namespace Go.Proofs.YtfhbmblbidcmmaaGreat
open Go.RowKit Go.Sl Go.Dk Go.Tr
abbrev K7:TypeId:=230
theorem P3{V:Int→Option Nd}{bl:Int→Lk} : ∀(ks:List Kd)(first:Bool)(o:Lk),o.Ag.length≤1024→(B6 V bl ks first o).Ag.length≤1024
 | [],first,o,h=>by unfold B6;exact h
 | k :: ks, first, o, h => by
  unfold B6
  cases hr:GV (bl k.Au) (GW (BA V k.Au)) first k o with
  |none=>simp[Fh]
  | some o' =>
   simp only
   obtain ⟨a,b,c,d,rfl⟩:=GK hr
   exact P3 ks false _ d
theorem UC{V:Int→Option Nd}(a: ∀p n,V p=some n→may n=true)(f:Nat)(no:Int)(top:Bool):(AP V f no top).Ag.length≤1024:=by
 cases f with
 |zero=>simp[AP,Fh]
 | succ f =>
  unfold AP
  cases b:V no with
  |none=>simp[Fh]
  | some n =>
   simp only
   split
   ·simp[Fh]
   refine P3 n.kids true _ ?_
   have:=(Cn (a no n b)).1
   simp only
   omega
theorem WC{V:Int→Option Nd}(a: ∀p n,V p=some n→may n=true)(r:Int):(AJ V r).Ag.length≤1024:=by
 unfold AJ
 split
 ·simp
 split
 ·simp[Fh]
 exact UC a 13 r true
def Lj(d:Dk)(a b:Nat)(kn:List Av):Prop:= ∀x∈kn,BP (C5 d a b x.src) x=true
def E5(V:Int→Option Nd)(d:Dk)(a b:Nat)(v:Int×Int):Bool:=(AJ V v.1).ok&&(decide (Aa (AJ V v.1).Ag=v.2)&&(AJ V v.1).Ag.all fun x=>BP (C5 d a b x.src) x)
theorem Lj.add{d:Dk}{a b:Nat}{kn:List Av}(h:Lj d a b kn){x:Av}(hx:BP (C5 d a b x.src) x=true):Lj d a b (VF kn x):=by
 unfold VF
 split
 ·exact h
 intro y hy
 rcases List.mem_append.1 hy with hy|hy
 ·exact h y hy
 simp at hy;subst hy;exact hx
theorem Jo{L M:Nat}{h:Th}{s:TS}{a b:Nat}{kn:List Av}{F:Ab}{w:World}(hs:Sat (Ad h s*(PZ L M h a b kn*F)) w):Sat (Ad h s*(Sl.block L Qs [.pointer (some ⟨h.t,0,none⟩),.pointer (some ⟨h.D,0,none⟩),.string EH,.string E7,.int .i64 a,.int .i64 b,.map (some M)]*(mp DS M (FD kn)*F))) w:=hs.eq (by unfold PZ;rw[Az])
def VE[Em](V:Int→Option Nd)(L M:Nat)(h:Th)(m:Nat)(s:TS)(v:Int×Int)(b c:Nat)(F:Ab)(e:Ending)(f:World):Prop:= ∃(s':TS)(a:List Av)(m':Nat),Sat (Ad h s'*(PZ L M h b c a*F)) f∧s'.sp=s.sp∧s'.ck.d=s.ck.d∧D2 V m' s'∧Lj s.ck.d b c a∧
 e= .returned (.int .i64 (if E5 V s.ck.d b c v then 0 else 13))∧(E5 V s.ck.d b c v=true→m≤m')
theorem Hh{l:List Av}{p:Av→Bool}{i:Nat}{x:Av}(hx:l[i]?=some x)(h: ∀y∈l.take i,p y=true)(hp:p x=true): ∀y∈l.take (i+1),p y=true:=by
 intro y hy
 rw[List.take_add_one,hx] at hy
 rcases List.mem_append.1 hy with hy|hy
 ·exact h y hy
 simp at hy;subst hy;exact hp
theorem Vx[Em](V : Int → Option Nd)(N L M : Nat)(h : Th)(m : Nat)(s : TS)(r n : Int)(b f : Nat)(kn : List Av)(F : Ab)(w : World)(W : ∀ p n, V p = some n → may n = true ∧ 1 ≤ p ∧ p < N)(hR : D2 V (m + (13 * N + 1051)) s)
 (ho:b≤1099511627776) (ht:f≤1099511627776) (hf:Da s.ck.d EH∧Da s.ck.d E7) (aq:Lj s.ck.d b f kn) (hs:Sat (Ad h s*(PZ L M h b f kn*F)) w):
 Calls Tryz.prog 124 #[.pointer (some ⟨L,0,none⟩),.agg #[.int .i64 r,.int .i64 n]] w (VE V L M h m s (r,n) b f F):=by
 have T:=As aq
 have an:=fun F w q=>Yy V N h (m+(13*N+1051)) s r F w (fun p n hp=>⟨(W p n hp).1,(W p n hp).2.2⟩) hR (by omega) q
 have l:=WC (fun p n hp=>(W p n hp).1) r
 have ar:RC true 13 (AJ V r):=LW (fun p n h=>(W p n h).1) r
 obtain ⟨ok,O⟩:=Aq ((AJ V r).ok)
 obtain ⟨es,K⟩:=Aq ((AJ V r).Ag)
 have U:Aside (E5 V s.ck.d b f (r,n)=(ok&&(decide (Aa es=n)&&es.all fun x=>BP (C5 s.ck.d b f x.src) x))):=by
  show _=_
  unfold E5
  rw[O,K]
 obtain ⟨I,J⟩: ∃x:Int,(if ok=true then (0:Int) else 13)=x:=⟨_,rfl⟩
 have ah:=As J
 have ai:Aside (∀F w,Sat (Ad h s*F) w→Calls Tryz.prog 17 #[.pointer (some ⟨h.t,0,none⟩),.int .i64 r] w fun e G=> ∃(s1:TS)(m1:Nat),e= .returned (.int .i64 I)∧Aside (s1.sp=s.sp∧s1.ck.d=s.ck.d∧D2 V m1 s1∧(ok=true→m+1038≤m1))∧Sat (Ad h s1*F) G):=fun F w q=>(an F w q).mono fun e G ⟨s1,m1,k1,k2,k3,k4,k5,k6⟩=>⟨s1,m1,by rw[k5,O,J],⟨k2,k3,k4,fun e=>by rw[←O] at e;have:=k6 e;omega⟩,k1⟩
 have ak:Aside (ok=true→ ∀s1:TS,s1.sp=s.sp→s1.ck.d=s.ck.d→D2 V (m+1038) s1→ ∃s2 s3:TS,FB Ak r s1= .ok (Aa es) s2∧PF Ak r s2= .ok es s3∧D2 V m s3∧s3.sp=s.sp∧s3.ck.d=s.ck.d∧D2 V m s2∧s2.sp=s.sp∧s2.ck.d=s.ck.d):=by
  intro e s1 h1 h2 h3
  rw[←O] at e
  obtain ⟨s2,a1,Q⟩:=Xk (fun p n hp=>⟨(W p n hp).1,(W p n hp).2.1⟩) (m:=m+1037) (s:=s1) h3 e
  obtain ⟨s3,b1,b2⟩:=Xh (fun p n hp=>⟨(W p n hp).1,(W p n hp).2.1⟩) (m:=m) Q.Qi e l
  rw[K] at a1 b1
  exact ⟨s2,s3,a1,b1,b2.Qi,by rw[b2.sp,Q.sp,h1],by rw[b2.dk,Q.dk,h2],Q.Qi.less (by omega),by rw[Q.sp,h1],by rw[Q.dk,h2]⟩
 rw[K] at l
 have aa:Aside (es.length≤1024∧ ∀x∈es,Ah x=true):=⟨l,by rw[←K];exact ar.may⟩
 have y:Aside (Da s.ck.d EH∧Da s.ck.d E7∧b≤1099511627776∧f≤1099511627776):=⟨hf.1,hf.2,ho,ht⟩
 have h0:=Jo hs
 obtain ⟨B,ab⟩:=Aq w.heap.size
 haveI:=h0.i
 clear hs aq an l ar O K hf hR ho ht W J
 go_enter Tryz.func124,Tryz.ntmps124
 go_wp2_with fail
 have q1:Sat (Ad h s*(Sl.block L Qs [.pointer (some ⟨h.t,0,none⟩),.pointer (some ⟨h.D,0,none⟩),.string EH,.string E7,.int .i64 b,.int .i64 f,.map (some M)]*(mp DS M (FD kn)*(Sl.block B K7 [.int .i64 r,.int .i64 n]*F)))) (w.alloc (.cells #[.int .i64 r,.int .i64 n] K7)):=by
  rw[←ab]
  exact Ap (by ac_rfl)
 try rw[ab]
 generalize w.alloc (.cells #[.int .i64 r,.int .i64 n] K7)=w1 at q1⊢
 clear ab h0 this
 haveI:=q1.i
 go_cut [5] (fun t5 wx=> ∃(s1:TS)(m1:Nat),t5= .int .i64 I∧Aside (s1.sp=s.sp∧s1.ck.d=s.ck.d∧D2 V m1 s1∧(ok=true→m+1038≤m1))∧Sat (Ad h s1*(Sl.block L Qs [.pointer (some ⟨h.t,0,none⟩),.pointer (some ⟨h.D,0,none⟩),.string EH,.string E7,.int .i64 b,.int .i64 f,.map (some M)]*(mp DS M (FD kn)*(Sl.block B K7 [.int .i64 r,.int .i64 n]*F)))) wx)
 case first=>
  go_region_held3 (fun G=>G.cell? ⟨L,0,none⟩=some (.pointer (some ⟨h.t,0,none⟩))∧G.cell? ⟨B,0,none⟩=some (.int .i64 r)) (exact ⟨Ac _ _ _,Ac _ _ _⟩) (first
   |(go_at_call 17;with_reducible refine Calls.mono (ai.out _ _ (Ae (Ad h s))) ?_;rintro e w2 ⟨s1,m1,rfl,P,q2⟩;haveI:=q2.i))
  all_goals
   go_wp2_with fail
   go_meet
   exact ⟨s1,m1,rfl,P,DC _ _ _ _ _⟩
 obtain ⟨s1,m1,rfl,P,q2⟩:=hcut
 clear q1 ai this
 haveI:=q2.i
 cases ok with
 | false =>
   have HB:Aside (E5 V s.ck.d b f (r,n)=false):=by
    show _=_
    rw[U.out]
    rfl
   obtain rfl:(13:Int)=I:=ah.out
   go_wp2
   go_ret
   refine ⟨s1,kn,m1,(CK (Ax (C:=Sl.block B K7 [.int .i64 r,.int .i64 n]) (by ac_rfl))),P.out.1,P.out.2.1,P.out.2.2.1,T.out,by rw[HB.out];rfl,fun e=>?_⟩
   rw[HB.out] at e
   cases e
 | true =>
   obtain rfl:(0:Int)=I:=ah.out
   obtain ⟨s2,s3,a1,Q,a3,a4,a5,a6⟩:=ak.out rfl s1 P.out.1 P.out.2.1 (P.out.2.2.1.less (P.out.2.2.2 rfl))
   have X:=fun F w q=>Ih h s1 r F w q (by rw[a1];simp)
   have ac:=fun F w q=>YW h s2 r F w q (by rw[Q];simp)
   rw[a1] at X
   rw[Q] at ac
   obtain ⟨z,hz⟩:=Aq (Aa es)
   obtain ⟨k,ad⟩:=Aq es.length
   rw[hz] at X
   have al:Aside (∀F w,Sat (Ad h s1*F) w→Calls Tryz.prog 86 #[.pointer (some ⟨h.t,0,none⟩),.int .i64 r] w fun e v=>e= .returned (.tuple #[.int .i64 z,.int .i64 0])∧Sat (Ad h s2*F) v):=X
   have aj:Aside (∀F w,Sat (Ad h s2*F) w→Calls Tryz.prog 44 #[.pointer (some ⟨h.t,0,none⟩),.int .i64 r] w fun e G=> ∃(a:Option Addr)(c:Nat),e= .returned (.tuple #[.slice a k c,.int .i64 0])∧Sat (rw AK 4 (.slice a k c) (AQ es)*(Ad h s3*F)) G):=fun F w q=>by
    have:=ac F w q
    rw[←ad]
    exact this
   have u:Aside (D2 V m s3∧s3.sp=s.sp∧s3.ck.d=s.ck.d∧es.length=k∧k≤1024∧ ∀x∈es,Ah x=true):=⟨a3,a4,a5,ad,by have:=aa.out.1;omega,aa.out.2⟩
   have HZ:=As hz
   have H2:=As a6
   clear X ac hz ad a1 Q a3 a4 a5 a6 ak aa
   go_wp2_with fail
   go_cut [6,7] (fun t6 t7 wx=>t6= .int .i64 z∧t7= .int .i64 0∧Sat (Ad h s2*(Sl.block L Qs [.pointer (some ⟨h.t,0,none⟩),.pointer (some ⟨h.D,0,none⟩),.string EH,.string E7,.int .i64 b,.int .i64 f,.map (some M)]*(mp DS M (FD kn)*(Sl.block B K7 [.int .i64 r,.int .i64 n]*F)))) wx)
   case first=>
    go_region_held3 (fun G=>G.cell? ⟨L,0,none⟩=some (.pointer (some ⟨h.t,0,none⟩))∧G.cell? ⟨B,0,none⟩=some (.int .i64 r)) (exact ⟨Ac _ _ _,Ac _ _ _⟩) (first
     |(go_at_call 86;with_reducible refine Calls.mono (al.out _ _ (Ae (Ad h s1))) ?_;rintro e w3 ⟨rfl,q3⟩;haveI:=q3.i))
    all_goals
     go_wp2_with fail
     go_meet
     exact ⟨rfl,rfl,DC _ _ _ _ _⟩
   obtain ⟨rfl,rfl,q3⟩:=hcut
   clear q2 al this
   haveI:=q3.i
   cases am:(z !=n) with
   | true =>
     have HB:Aside (E5 V s.ck.d b f (r,n)=false):=by
      show _=_
      rw[U.out,HZ.out,decide_eq_false (by simpa using am: ¬z=n)]
      rfl
     go_wp2
     go_ret
     refine ⟨s2,kn,m,CK (Ax (C:=Sl.block B K7 [.int .i64 r,.int .i64 n]) (by ac_rfl)),H2.out.2.1,H2.out.2.2,H2.out.1,T.out,by rw[HB.out];rfl,fun _=>Nat.le_refl _⟩
   | false =>
     have a8:Aside (E5 V s.ck.d b f (r,n)=es.all fun x=>BP (C5 s.ck.d b f x.src) x):=by
      show _=_
      rw[U.out,HZ.out,decide_eq_true (by simpa using am:z=n)]
      simp
     clear U HZ P H2
     go_wp2_with fail
     go_cut [8,7] (fun t8 t7 wx=> ∃(a:Option Addr)(c:Nat),t8= .slice a k c∧t7= .int .i64 0∧Sat (rw AK 4 (.slice a k c) (AQ es)*(Ad h s3*(Sl.block L Qs [.pointer (some ⟨h.t,0,none⟩),.pointer (some ⟨h.D,0,none⟩),.string EH,.string E7,.int .i64 b,.int .i64 f,.map (some M)]*(mp DS M (FD kn)*(Sl.block B K7 [.int .i64 r,.int .i64 n]*F))))) wx)
     case first=>
      go_region_held3 (fun G=>G.cell? ⟨L,0,none⟩=some (.pointer (some ⟨h.t,0,none⟩))∧G.cell? ⟨B,0,none⟩=some (.int .i64 r)) (exact ⟨Ac _ _ _,Ac _ _ _⟩) (first
       |(go_at_call 44;with_reducible refine Calls.mono (aj.out _ _ (Ae (Ad h s2))) ?_;rintro e w4 ⟨a,c,rfl,q4⟩;haveI:=q4.i))
      all_goals
       go_wp2_with fail
       go_meet
       exact ⟨a,c,rfl,rfl,DZ _ _ _ _ _ _⟩
     obtain ⟨a,c,rfl,rfl,q4⟩:=hcut
     clear q3 aj this
     haveI:=q4.i
     go_wp2_with fail
     go_loopg [9,7] k (fun g t9 t7 wr=> ∃(i:Nat)(I:Int)(j:List Av),t9= .int .i64 i∧t7= .int .i64 I∧i≤k∧Aside (g=k-i∧Lj s.ck.d b f j∧((I=0∧ ∀x∈es.take i,BP (C5 s.ck.d b f x.src) x=true)∨(I=13∧ ¬ ∀x∈es,BP (C5 s.ck.d b f x.src) x=true)))∧Sat (rw AK 4 (.slice a k c) (AQ es)*(Ad h s3*(Sl.block L Qs [.pointer (some ⟨h.t,0,none⟩),.pointer (some ⟨h.D,0,none⟩),.string EH,.string E7,.int .i64 b,.int .i64 f,.map (some M)]*(mp DS M (FD j)*(Sl.block B K7 [.int .i64 r,.int .i64 n]*F))))) wr)
     case atStart=>exact ⟨0,0,kn,rfl,rfl,by omega,⟨rfl,T.out,.inl ⟨rfl,by simp⟩⟩,q4⟩
     obtain ⟨i,I,j,rfl,rfl,hi,A,q5⟩:=hrel
     clear q4 T
     haveI:=q5.i
     have J:I=0∨I=13:=by rcases A.out.2.2 with ⟨h1,_⟩|⟨h1,_⟩<;>omega
     rcases J with rfl|rfl
     · have a9:Aside (∀x∈es.take i,BP (C5 s.ck.d b f x.src) x=true):=by
        rcases A.out.2.2 with ⟨_,h2⟩|⟨h1,_⟩
        · exact h2
        omega
       by_cases b9:i<k
       · have ap:(i:Int)<k:=by omega
         have bo:k≤1024:=u.out.2.2.2.2.1
         obtain ⟨⟨H,Y,Z,x4⟩,hx⟩: ∃x,es[i]?=some x:=⟨_,List.getElem?_eq_getElem (by rw[u.out.2.2.2.1];exact b9)⟩
         have au:A1 (rw AK 4 (.slice a k c) (AQ es)) (.slice a es.length c) es:=by
          have:=Ai.rw q5 ⟨a,c,rfl⟩
          show Ai 4 _ _ es.length _
          rw[u.out.2.2.2.1]
          exact this
         obtain ⟨bl,ol,b7,y1,y2,y3,y4⟩:=BH au hx
         subst b7
         simp only at y1 y2 y3 y4
         have R:Aside (∀F w,Sat (Ad h s3*(Sl.block L Qs [.pointer (some ⟨h.t,0,none⟩),.pointer (some ⟨h.D,0,none⟩),.string EH,.string E7,.int .i64 b,.int .i64 f,.map (some M)]*(mp DS M (FD j)*F))) w→Calls Tryz.prog 154 #[.pointer (some ⟨L,0,none⟩),.agg #[.int .i64 H,.int .i64 Y,.int .i64 Z,.int .i64 x4]] w (Oq L M h s3 ⟨H,Y,Z,x4⟩ b f j F)):=fun F w q=>by
          have hm:=u.out.2.2.2.2.2 _ (List.mem_of_getElem? hx)
          have ao:Da s3.ck.d EH∧Da s3.ck.d E7:=by rw[u.out.2.2.1];exact ⟨y.out.1,y.out.2.1⟩
          have h9:=Cb.1 hm
          simp only at h9
          have:H=0∨H=1:=by omega
          rcases this with rfl|rfl
          · exact VU L M h s3 Y Z x4 b f j F w hm u.out.1.ts y.out.2.2.1 y.out.2.2.2 ao q
          exact VV L M h s3 Y Z x4 b f j F w hm u.out.1.ts y.out.2.2.1 y.out.2.2.2 ao q
         have HX:=As hx
         clear hx au
         go_wp2_with fail
         with_reducible refine Calls.mono (R.out _ _ (q5.eq (show _=Ad h s3*(Sl.block L Qs [.pointer (some ⟨h.t,0,none⟩),.pointer (some ⟨h.D,0,none⟩),.string EH,.string E7,.int .i64 b,.int .i64 f,.map (some M)]*(mp DS M (FD j)*(rw AK 4 (.slice (some ⟨bl,ol,none⟩) k c) (AQ es)*(Sl.block B K7 [.int .i64 r,.int .i64 n]*F)))) by ac_rfl))) ?_
         rintro e w6 (⟨o,rfl,q6⟩|⟨o,rfl,q6⟩|⟨ba,o,rfl,q6⟩)
         · have q7:=Jo q6
           have v:=As o
           haveI:=q7.i
           clear q5 R o
           go_wp2_with fail
           go_roundg (k-(i+1))
           case measure=>have:=A.out.1;omega
           case rel=>exact ⟨i+1,0,j,by go_num,rfl,by omega,⟨rfl,A.out.2.1,.inl ⟨rfl,Hh HX.out a9.out (A.out.2.1 _ v.out)⟩⟩,DZ _ _ _ _ _ _⟩
         · have q7:=Jo q6
           have v:Aside (BP (C5 s.ck.d b f H) ⟨H,Y,Z,x4⟩=true):=(by rw[←u.out.2.2.1];exact o:BP (C5 s.ck.d b f H) ⟨H,Y,Z,x4⟩=true)
           haveI:=q7.i
           clear q5 R o
           go_wp2_with fail
           go_roundg (k-(i+1))
           case measure=>have:=A.out.1;omega
           case rel=>exact ⟨i+1,0,VF j ⟨H,Y,Z,x4⟩,by go_num,rfl,by omega,⟨rfl,A.out.2.1.add v.out,.inl ⟨rfl,Hh HX.out a9.out v.out⟩⟩,DZ _ _ _ _ _ _⟩
         have q7:=Jo q6
         have v:Aside (BP (C5 s.ck.d b f H) ⟨H,Y,Z,x4⟩=false):=(by rw[←u.out.2.2.1];exact o:BP (C5 s.ck.d b f H) ⟨H,Y,Z,x4⟩=false)
         haveI:=q7.i
         clear q5 R o ba
         go_wp2_with fail
         go_roundg (k-(i+1))
         case measure=>have:=A.out.1;omega
         case rel=>exact ⟨i+1,13,j,by go_num,rfl,by omega,⟨rfl,A.out.2.1,.inr ⟨rfl,fun h=>by have:=h _ (List.mem_of_getElem? HX.out);rw[v.out] at this;cases this⟩⟩,DZ _ _ _ _ _ _⟩
       have ap: ¬(i:Int)<k:=by omega
       have HB:Aside (E5 V s.ck.d b f (r,n)=true):=by
        show _=_
        rw[a8.out,List.all_eq_true]
        have:=a9.out
        rwa [List.take_of_length_le (by rw[u.out.2.2.2.1];omega)] at this
       go_wp2_with fail
       go_ret
       exact ⟨s3,j,m,CK (Ax (C:=rw AK 4 (.slice a k c) (AQ es)*Sl.block B K7 [.int .i64 r,.int .i64 n]) (by ac_rfl)),u.out.2.1,u.out.2.2.1,u.out.1,A.out.2.1,by rw[HB.out];rfl,fun _=>Nat.le_refl _⟩
     have HB:Aside (E5 V s.ck.d b f (r,n)=false):=by
      show _=_
      rw[a8.out]
      rcases A.out.2.2 with ⟨h1,_⟩|⟨_,h2⟩
      · omega
      cases e:es.all fun x=>BP (C5 s.ck.d b f x.src) x with
      |false=>rfl
      |true=>exact absurd (List.all_eq_true.1 e) h2
     go_wp2_with fail
     go_ret
     exact ⟨s3,j,m,CK (Ax (C:=rw AK 4 (.slice a k c) (AQ es)*Sl.block B K7 [.int .i64 r,.int .i64 n]) (by ac_rfl)),u.out.2.1,u.out.2.2.1,u.out.1,A.out.2.1,by rw[HB.out];rfl,fun _=>Nat.le_refl _⟩
def Yq[Em](V:Int→Option Nd)(h:Th)(m:Nat)(s:TS)(vl:List (Int×Int))(a b:Nat)(F:Ab)(e:Ending)(c:World):Prop:= ∃(s':TS)(m':Nat),Sat (Ad h s'*F) c∧s'.sp=s.sp∧s'.ck.d=s.ck.d∧D2 V m' s'∧
 e= .returned (.int .i64 (if vl.all (E5 V s.ck.d a b) then 0 else 13))∧(vl.all (E5 V s.ck.d a b)=true→m≤m')
theorem Qv{l:List (Int×Int)}{p:Int×Int→Bool}{i:Nat}{x:Int×Int}(hx:l[i]?=some x)(h: ∀y∈l.take i,p y=true)(hp:p x=true): ∀y∈l.take (i+1),p y=true:=by
 intro y hy
 rw[List.take_add_one,hx] at hy
 rcases List.mem_append.1 hy with hy|hy
 ·exact h y hy
 simp at hy;subst hy;exact hp
theorem KB[Em](V:Int→Option Nd)(N:Nat)(h:Th)(m:Nat)(s:TS)(v:Value)(vl:List (Int×Int))(B F:Ab)(a b:Nat)(w:World)(hV: ∀p n,V p=some n→may n=true∧1≤p∧p<N)(J:D2 V (m+vl.length*(13*N+1051)) s)
 (ho:a≤1099511627776) (ht:b≤1099511627776) (hf:Da s.ck.d EH∧Da s.ck.d E7) (Z:Ai 2 B v vl.length (B9 vl)) (hl:vl.length≤64) (hs:Sat (Ad h s*(B*F)) w):
 Calls Tryz.prog 60 #[.pointer (some ⟨h.t,0,none⟩),v,.pointer (some ⟨h.D,0,none⟩),.int .i64 a,.int .i64 b] w (Yq V h m s vl a b (B*F)):=by
 have ao:= @run_makeMap Tryz.prog
 obtain ⟨_,av,cv,rfl,z,ae,_⟩:=id Z
 obtain ⟨K,hK⟩:=Aq (13*N+1051)
 have X:Aside (∀(L M:Nat)(m:Nat)(s2:TS)(r n:Int)(kn:List Av)(F:Ab)(w:World),D2 V (m+K) s2→s2.ck.d=s.ck.d→Lj s.ck.d a b kn→Sat (Ad h s2*(PZ L M h a b kn*F)) w→Calls Tryz.prog 124 #[.pointer (some ⟨L,0,none⟩),.agg #[.int .i64 r,.int .i64 n]] w (VE V L M h m s2 (r,n) a b F)):=fun L M m s2 r n kn F w h1 h2 h3 h4=>Vx V N L M h m s2 r n a b kn F w hV (by rw[hK];exact h1) ho ht (by rw[h2];exact hf) (by rw[h2];exact h3) h4
 rw[hK] at J
 obtain ⟨n,hn⟩:=Aq vl.length
 have H:Aside (Ai 2 B (.slice av n cv) n (B9 vl)∧vl.length=n):=(by rw[←hn];exact ⟨Z,rfl⟩:_)
 rw[hn] at J hl z⊢
 have HR:=As J
 have ap: ¬(a:Int)<0:=by omega
 have aq: ¬(b:Int)<0:=by omega
 haveI:=hs.i
 clear Z J hV hK hn hf ho ht
 go_enter Tryz.func60,Tryz.ntmps60
 go_wp2_with fail
 obtain ⟨M,I⟩:=Aq w.heap.size
 obtain ⟨L,hL⟩:=Aq (M+1)
 have q0:Sat (mp DS M (FD [])*(Ad h s*(B*F))) (w.alloc (.map #[] 0)):=by
  rw[←I]
  exact Uh.out.eq (by ac_rfl)
 have o:(w.alloc (.map #[] 0)).heap.size=L:=by rw[←hL,←I];simp
 try rw[I]
 try rw[hL]
 generalize w.alloc (.map #[] 0)=w0 at q0 o⊢
 clear I hL hs this
 haveI:=q0.i
 have U:Sat (Ad h s*(Sl.block L Qs [.pointer (some ⟨h.t,0,none⟩),.pointer (some ⟨h.D,0,none⟩),.string EH,.string E7,.int .i64 a,.int .i64 b,.map (some M)]*(mp DS M (FD [])*(B*F)))) (w0.alloc (.cells #[.pointer (some ⟨h.t,0,none⟩),.pointer (some ⟨h.D,0,none⟩),.string ⟨#[111,114,105,103,105,110,97,108]⟩,.string ⟨#[116,97,105,108]⟩,.int .i64 a,.int .i64 b,.map (some M)] Qs)):=by
  rw[←o]
  unfold EH E7
  exact Ap (by ac_rfl)
 try rw[o]
 generalize w0.alloc (.cells #[.pointer (some ⟨h.t,0,none⟩),.pointer (some ⟨h.D,0,none⟩),.string ⟨#[111,114,105,103,105,110,97,108]⟩,.string ⟨#[116,97,105,108]⟩,.int .i64 a,.int .i64 b,.map (some M)] Qs)=w1 at U⊢
 clear o q0 this
 haveI:=U.i
 go_loopg [40] n (fun g aa wr=> ∃(i:Nat)(s2:TS)(kn:List Av),aa= .int .i64 i∧i≤n∧Aside (g=n-i∧D2 V (m+(n-i)*K) s2∧s2.sp=s.sp∧s2.ck.d=s.ck.d∧Lj s.ck.d a b kn∧ ∀v∈vl.take i,E5 V s.ck.d a b v=true)∧Sat (Ad h s2*(Sl.block L Qs [.pointer (some ⟨h.t,0,none⟩),.pointer (some ⟨h.D,0,none⟩),.string EH,.string E7,.int .i64 a,.int .i64 b,.map (some M)]*(mp DS M (FD kn)*(B*F)))) wr)
 case atStart=>exact ⟨0,s,[],rfl,by omega,⟨rfl,by simpa using HR.out,rfl,rfl,by intro x hx;simp at hx,by simp⟩,U⟩
 obtain ⟨i,s2,kn,rfl,hi,A,q2⟩:=hrel
 clear U
 haveI:=q2.i
 by_cases a4:i<n
 · have G:(i:Int)<n:=by omega
   obtain ⟨⟨r,Hi⟩,hp⟩: ∃p,vl[i]?=some p:=⟨_,List.getElem?_eq_getElem (by rw[H.out.2];exact a4)⟩
   obtain ⟨b1,o1,a2,r1⟩:=Ai.at H.out.1 (i*2) (.int .i64 r) (EJ hp 0 (by omega))
   obtain ⟨b2,o2,a3,r2⟩:=Ai.at H.out.1 (i*2+1) (.int .i64 Hi) (EJ hp 1 (by omega))
   subst a2
   cases a3
   have HP:=As hp
   have j:m+(n-i)*K=m+(n-(i+1))*K+K:=by
    rw[show n-i=(n-(i+1))+1 by omega,Nat.add_mul,Nat.one_mul,Nat.add_assoc]
   have u:Aside (∀(F:Ab)(w:World),Sat (Ad h s2*(Sl.block L Qs [.pointer (some ⟨h.t,0,none⟩),.pointer (some ⟨h.D,0,none⟩),.string EH,.string E7,.int .i64 a,.int .i64 b,.map (some M)]*(mp DS M (FD kn)*F))) w→Calls Tryz.prog 124 #[.pointer (some ⟨L,0,none⟩),.agg #[.int .i64 r,.int .i64 Hi]] w (VE V L M h (m+(n-(i+1))*K) s2 (r,Hi) a b F)):=fun F w q=>X.out L M _ s2 r Hi kn F w (by rw[←j];exact A.out.2.1) A.out.2.2.2.1 A.out.2.2.2.2.1 (CK q)
   obtain ⟨Y,l⟩:=Aq wr.heap.size
   clear hp j
   go_wp2_with fail
   have q3:Sat (Ad h s2*(Sl.block L Qs [.pointer (some ⟨h.t,0,none⟩),.pointer (some ⟨h.D,0,none⟩),.string EH,.string E7,.int .i64 a,.int .i64 b,.map (some M)]*(mp DS M (FD kn)*(Sl.block Y K7 [.int .i64 r,.int .i64 Hi]*(B*F))))) (wr.alloc (.cells #[.int .i64 r,.int .i64 Hi] K7)):=by
    rw[←l]
    exact Ap (by ac_rfl)
   try rw[l]
   with_reducible refine Calls.mono (u.out _ _ q3) ?_
   rintro e w3 ⟨s3,y,m3,q4,O,P,Q,R,f,T⟩
   rw[A.out.2.2.2.1] at R T f
   have q5:=Jo q4
   cases c:E5 V s.ck.d a b (r,Hi) with
   | true =>
     rw[c,if_pos rfl] at f
     subst f
     have k:Aside (D2 V (m+(n-(i+1))*K) s3∧s3.sp=s.sp∧s3.ck.d=s.ck.d∧Lj s.ck.d a b y∧ ∀v∈vl.take (i+1),E5 V s.ck.d a b v=true):=⟨Q.less (T c),O.trans A.out.2.2.1,P.trans A.out.2.2.2.1,R,Qv HP.out A.out.2.2.2.2.2 c⟩
     clear q2 q3 q4 this O P Q R T u c l
     haveI:=q5.i
     go_wp2_with fail
     go_roundg (n-(i+1))
     case measure=>have:=A.out.1;omega
     case rel=>exact ⟨i+1,s3,y,by go_num,by omega,⟨rfl,k.out⟩,Ax (C:=Sl.block Y K7 [.int .i64 r,.int .i64 Hi]) (by ac_rfl)⟩
   | false =>
     rw[c,if_neg (by simp)] at f
     subst f
     have k:Aside (D2 V m3 s3∧s3.sp=s.sp∧s3.ck.d=s.ck.d∧vl.all (E5 V s.ck.d a b)=false):=⟨Q,O.trans A.out.2.2.1,P.trans A.out.2.2.2.1,by
      cases e:vl.all (E5 V s.ck.d a b) with
      |false=>rfl
      |true=>rw[List.all_eq_true.1 e _ (List.mem_of_getElem? HP.out)] at c;cases c⟩
     clear q2 q3 q4 this O P Q R T u c l
     haveI:=q5.i
     go_wp2
     go_ret
     exact ⟨s3,m3,Ax (C:=Sl.block L Qs [.pointer (some ⟨h.t,0,none⟩),.pointer (some ⟨h.D,0,none⟩),.string EH,.string E7,.int .i64 a,.int .i64 b,.map (some M)]*(mp DS M (FD y)*Sl.block Y K7 [.int .i64 r,.int .i64 Hi])) (by ac_rfl),k.out.2.1,k.out.2.2.1,k.out.1,by rw[k.out.2.2.2];rfl,fun e=>by rw[k.out.2.2.2] at e;cases e⟩
 have G: ¬(i:Int)<n:=by omega
 have W:Aside (vl.all (E5 V s.ck.d a b)=true):=by
  show _=_
  rw[List.all_eq_true]
  have:=A.out.2.2.2.2.2
  rwa [List.take_of_length_le (by rw[H.out.2];omega)] at this
 have k:Aside (D2 V m s2):=A.out.2.1.less (by omega)
 go_wp2_with fail
 go_ret
 exact ⟨s2,m,Ax (C:=Sl.block L Qs [.pointer (some ⟨h.t,0,none⟩),.pointer (some ⟨h.D,0,none⟩),.string EH,.string E7,.int .i64 a,.int .i64 b,.map (some M)]*mp DS M (FD kn)) (by ac_rfl),A.out.2.2.1,A.out.2.2.2.1,k.out,by rw[W.out];rfl,fun _=>Nat.le_refl _⟩
open Go.PS (A9)
def Gs{σ:Type}(rd:Int→M σ Nd)(root:Int):M σ (List Int):=if root=0 then M.pure [] else Bl rd 21 root []
def ZU(h:Th)(F:Ab)(r:Fu TS (List Int))(e:Ending)(b:World):Prop:=match r with
 | .ok l s=> ∃ns:List Int,ns.Pairwise (· < ·)∧(∀x,x∈ns↔x∈l)∧ ∃(a:Option Addr)(c:Nat),e= .returned (.tuple #[.slice a ns.length c,.int .i64 0])∧Sat (rw CN 1 (.slice a ns.length c) (ints ns)*(Ad h s*F)) b
 | .fault n s=>e= .returned (.tuple #[.slice none 0 0,.int .i64 n])∧Sat (Ad h s*F) b
 | .bad=>False
theorem Sg{A:Ab}{w:World}{n:Nat}[q:AR A w][z:Sz w n]:AR (mp A9 n (GA [])*A) (w.alloc (.map #[] 0)):=⟨by
 have h:=q.out.CW (.map #[] 0)
 rw[z.out] at h
 exact Sat.Eo (kf:=A9) (ms:= []) (b:=n) (o:= .map #[] 0) ⟨#[],0,rfl,rfl,by simp,by simp⟩ h⟩
attribute [local instance 20000] Sg
theorem W5(h : Th)(s : TS)(root : Int)(F : Ab)(w : World)(hs : Sat (Ad h s * F) w)(hb : Gs Ak root s ≠ .bad) :
 Calls Tryz.prog 51 #[.pointer (some ⟨h.t,0,none⟩),.int .i64 root] w (ZU h F (Gs Ak root s)):=by
 have b9: ∀(fn:Fn)(first cap:Array Value)(w:World),(Instr.makeFunc fn first cap).run Tryz.prog w= .ok (.func fn first cap) w:=fun _ _ _ _=>rfl
 have bb:= @run_makeMap Tryz.prog
 obtain ⟨R,j⟩:=Aq (Gs Ak root s)
 rw[j] at hb⊢
 have HB:=As hb
 unfold Gs at j
 have h0:=Sat.AG (e:=D0) (s:=2) (hs.AG (e:=CN) (s:=1))
 haveI:=h0.i
 clear hb hs
 by_cases hz:root=0
 · rw[if_pos hz] at j
   have ad:=j.symm
   subst ad
   subst hz
   clear j HB
   go_enter_defers Tryz.func51,Tryz.ntmps51
   go_wp2
   refine leaves_cons (f:=118) (args:= #[.pointer (some ⟨w.heap.size,0,none⟩),.pointer (some ⟨w.heap.size+1,0,none⟩)]) (by simp) (by simp[go_sem]) ?_
   refine (U5 _ _ _).mono ?_
   rintro e u' bh ⟨rfl,rfl,rfl⟩
   simp[Leaves,settle,results,Tryz.results51,go_sem]
   refine ⟨[],List.Pairwise.nil,fun x=>Iff.rfl,none,0,rfl,?_⟩
   show Sat (rw CN 1 (.slice none 0 0) []*(Ad h s*F)) _
   exact AD _ _ _
 rw[if_neg hz] at j
 have be:((root:Int)==0)=false:=by simpa using hz
 have aa:=As j
 have K:=fun S M N F w q=>ZG 21 h s root [] S M N (.slice none 0 0) F w (by omega) q (by rw[j];exact HB.out)
 rw[j,show (21:Int)-((21:Nat):Int)=0 from rfl] at K
 obtain ⟨N,hN⟩:=Aq w.heap.size
 clear j
 go_enter_defers Tryz.func51,Tryz.ntmps51
 go_wp2_with fail
 have q1:Sat (Ad h s*(J7 (N+3) (N+2) (N+4) (.slice none 0 0) []*(Sl.block N ZY [.slice none 0 0]*(rw CN 1 (.slice none 0 0) []*(Sl.block (N+1) Fw [.int .i64 0]*F))))) (((((w.alloc (.cells #[.slice none 0 0] ZY)).alloc (.cells #[.int .i64 0] Fw)).alloc (.map #[] 0)).alloc (.cells #[.map (some (N+2))] PX)).alloc (.cells #[.slice none 0 0] Xz)):=by
  rw[←hN]
  show Sat (Ad h s*(Sl.block (w.heap.size+1+1+1) PX [.map (some (w.heap.size+2))]*(mp A9 (w.heap.size+1+1) (GA [])*(Sl.block (w.heap.size+1+1+1+1) Xz [.slice none 0 0]*rw D0 2 (.slice none 0 0) []))*_)) _
  exact Ap (by ac_rfl)
 try rw[hN]
 clear hN
 with_reducible refine Calls.mono (K (N+3) (N+2) (N+4) _ _ q1) ?_
 rintro e w2 h2
 cases R with
 |bad=>exact absurd rfl HB.out
 | fault er s2 =>
   obtain ⟨rfl,v2,o2,q2⟩:=h2
   haveI:=q2.i
   show bodyPostD _ _ _ (.panic (CM er)) _ w2
   refine leaves_cons (f:=118) (args:= #[.pointer (some ⟨N,0,none⟩),.pointer (some ⟨N+1,0,none⟩)]) (by simp) (by simp[go_sem]) ?_
   refine (W7 N (N+1) er _ _ _ w2 (Bh (Sl.block N ZY [.slice none 0 0]) (Sl.block (N+1) Fw [.int .i64 0]))).mono ?_
   rintro e u' w3 ⟨rfl,rfl,Y⟩
   haveI:=Y.i
   simp[Leaves,settle,results,Tryz.results51,go_sem]
   exact ⟨rfl,Ar _ _⟩
 | ok l s2 =>
   obtain ⟨rfl,v2,q2⟩:=h2
   have I:=Ps aa.out
   have Y:Sat (rw D0 2 v2 (B9 (EZ l))*(Ad h s2*(Sl.block (N+3) PX [.map (some (N+2))]*(mp A9 (N+2) (GA l)*(Sl.block (N+4) Xz [v2]*(Sl.block N ZY [.slice none 0 0]*(rw CN 1 (.slice none 0 0) []*(Sl.block (N+1) Fw [.int .i64 0]*F)))))))) w2:=q2.eq (by unfold J7;ac_rfl)
   obtain ⟨D,o,c2,rfl,h3,_⟩:=MP Y
   have hm:(EZ l).length=o:=by rw[E9] at h3;omega
   have ba:o≤1048577:=by rw[←hm];unfold EZ;rw[List.length_map];exact I.1
   have H:=fun F w q=>Zl D c2 (EZ l) F w (by rw[hm];omega) q
   rw[hm] at H
   have P:Aside (∀(F0:Ab)(w:World),Sat (rw D0 2 (.slice D o c2) (B9 (EZ l))*F0) w→Calls Tryz.prog 120 #[.slice D o c2] w fun e w'=> ∃l':List (Int×Int),l'.Perm (Cv (EZ l))∧iF l'∧ ∃(a':Option Addr)(c':Nat),e= .returned (.slice a' (D4 [] l').length c')∧
    Sat (rw D0 2 (.slice a' (D4 [] l').length c') (B9 (D4 [] l'))*(rw D0 2 (.slice D o c2) (B9 (EZ l))*F0)) w'):=H
   have HL:=As I
   clear H I q2 q1 h3 hm K this
   haveI:=Y.i
   go_wp2_with fail
   with_reducible refine Calls.mono (P.out _ _ (Ae (rw D0 2 (.slice D o c2) (B9 (EZ l))))) ?_
   rintro e w4 ⟨l',V,W,a4,c4,rfl,q4⟩
   have b:=Wz V W
   obtain ⟨a,J⟩:=Aq (D4 [] l')
   rw[J] at b q4
   rw[J]
   have d: ∀x,x∈Ew a↔x∈l:=fun x=>by
    rw[LI,b.2 x,T']
    exact ⟨fun h=>h.2,fun h=>⟨(HL.out.2 x h).1,h⟩⟩
   have B:Aside (Ku a∧(∀x,x∈Ew a↔x∈l)∧kI a):=⟨b.1,d,fN b.1 (fun x hx=>HL.out.2 x ((d x).1 hx)) (Nat.le_trans (List.Nodup.length_le_of_subset ((J3 b.1).imp fun h=>by omega) fun x hx=>(d x).1 hx) HL.out.1)⟩
   obtain ⟨c,n⟩:=Aq a.length
   have r:=As n
   have aw:c≤1048577:=by
    rw[←n]
    exact Nat.le_trans (aG b.1) (Nat.le_trans (List.Nodup.length_le_of_subset ((J3 b.1).imp fun h=>by omega) fun x hx=>(d x).1 hx) HL.out.1)
   rw[n] at q4⊢
   have q5:=(q4.eq (show _=Sl.block N ZY [.slice none 0 0]*(rw CN 1 (.slice none 0 0) []*(rw D0 2 (.slice a4 c c4) (B9 a)*(Sl.block (N+1) Fw [.int .i64 0]*(Ad h s2*F))))*(rw D0 2 (.slice D o c2) (B9 (EZ l))*(Sl.block (N+3) PX [.map (some (N+2))]*(mp A9 (N+2) (GA l)*Sl.block (N+4) Xz [.slice D o c2]))) by ac_rfl)).Dx
   haveI:=q5.i
   obtain ⟨iI,EI⟩:=Mt
   clear V W b J d n Y q4 P
   go_wp2_with fail
   go_loopg [24] c (fun g ak wr=> ∃(i:Nat)(x:Option Addr)(k G:Nat),ak= .int .i64 i∧i≤c∧Aside (g=c-i∧(Ew (a.take i)).length=k)∧Sat (Sl.block N ZY [.slice x k G]*(rw CN 1 (.slice x k G) (ints (Ew (a.take i)))*(rw D0 2 (.slice a4 c c4) (B9 a)*(Sl.block (N+1) Fw [.int .i64 0]*(Ad h s2*F))))) wr)
   case atStart=>exact ⟨0,none,0,0,rfl,by omega,⟨rfl,rfl⟩,q5⟩
   obtain ⟨i,x,k,G,rfl,hi,A,L⟩:=hrel
   clear q5
   haveI:=L.i
   by_cases af:i<c
   · have U:(i:Int)<c:=by omega
     obtain ⟨⟨y,z⟩,hp⟩: ∃p,a[i]?=some p:=⟨_,List.getElem?_eq_getElem (by rw[r.out];exact af)⟩
     obtain ⟨g0,rfl⟩:=Dv (L.take (rw D0 2 (.slice a4 c c4) (B9 a))) (by omega)
     haveI:=L.i
     haveI:At (B9 a) (i*2) (.int .i64 y):=⟨EJ hp 0 (by omega)⟩
     haveI:At (B9 a) (i*2+1) (.int .i64 z):=⟨EJ hp 1 (by omega)⟩
     obtain ⟨b1,b2,b3,b4⟩:=B.out.2.2 i y z hp
     have HP:=As hp
     clear hp
     go_wp2_with fail
     obtain ⟨T,hT⟩:=Aq wr.heap.size
     have q8:Sat (Sl.block N ZY [.slice x k G]*(rw CN 1 (.slice x k G) (ints (Ew (a.take i)++E2 (y,y)))*(Sl.block T D0 [.int .i64 y,.int .i64 z]*(rw D0 2 (.slice (some ⟨g0,0,none⟩) c c4) (B9 a)*(Sl.block (N+1) Fw [.int .i64 0]*(Ad h s2*F)))))) (wr.alloc (.cells #[.int .i64 y,.int .i64 z] D0)):=by
      rw[Rc,List.append_nil,←hT]
      exact Ap (by ac_rfl)
     try rw[hT]
     generalize wr.alloc (.cells #[.int .i64 y,.int .i64 z] D0)=wq at q8⊢
     clear hT L
     haveI:=q8.i
     go_loopg [10] (z-y).toNat (fun g aj am=> ∃(u:Int)(Z:Option Addr)(m Q:Nat),aj= .int .i64 u∧y≤u∧u≤z∧Aside (g=(z-u).toNat∧(Ew (a.take i)++E2 (y,u)).length=m)∧Sat (Sl.block N ZY [.slice Z m Q]*(rw CN 1 (.slice Z m Q) (ints (Ew (a.take i)++E2 (y,u)))*(Sl.block T D0 [.int .i64 y,.int .i64 z]*(rw D0 2 (.slice (some ⟨g0,0,none⟩) c c4) (B9 a)*(Sl.block (N+1) Fw [.int .i64 0]*(Ad h s2*F)))))) am)
     case atStart=>exact ⟨y,x,k,G,rfl,Int.le_refl _,by omega,⟨rfl,by rw[Rc,List.append_nil];exact A.out.2⟩,q8⟩
     obtain ⟨u,Z,m,Q,rfl,ag,bc,A3,q9⟩:=hrel
     clear q8
     haveI:=q9.i
     by_cases bd:u<z
     · have b8:m≤1048577:=by
        have:=A3.out.2
        rw[List.length_append,Rb] at this
        omega
       have hw:=Bb (u+1) (by omega)
       have O:Aside ((Ew (a.take i)++E2 (y,u+1)).length=m+1∧ints (Ew (a.take i)++E2 (y,u+1))=ints (Ew (a.take i)++E2 (y,u))++ [.int .i64 u]):=by
        rw[←W3 ag,←List.append_assoc]
        exact ⟨by rw[List.length_append,A3.out.2];rfl,by simp[ints]⟩
       have HM:Aside ((z-(u+1)).toNat<(z-u).toNat):=(by omega:(z-(u+1)).toNat<(z-u).toNat)
       go_wp2_with (at_builtin;refine Af EI rfl (.tmp 36) (.tmp 38) rfl rfl rfl (Ae (rw CN 1 (.slice Z m Q) (ints (Ew (a.take i)++E2 (y,u))))) (Src.new (e:=CN) (s:=1) (vs:= [.int .i64 u]) (Ae (Sl.block _ CN [.int .i64 u])) rfl (by intro v hv;simp at hv;rcases hv with rfl;rfl)) (by unfold maxLen;omega) (by omega) ?_;intro a7 c7 w7 q7 z7;clear z7;haveI:=q7.i)
       go_roundg ((z-(u+1)).toNat)
       case measure=>have:=A3.out.1;have:=HM.out;omega
       case rel=>exact ⟨u+1,a7,m+1,c7,by go_num,by omega,by omega,⟨rfl,O.out.1⟩,by rw[O.out.2];exact DZ _ _ _ _ _ _⟩
     have X:u=z:=by omega
     subst X
     have O:Aside ((Ew (a.take (i+1))).length=m∧Ew (a.take i)++E2 (y,u)=Ew (a.take (i+1))):=by
      rw[Re HP.out]
      exact ⟨A3.out.2,rfl⟩
     rw[O.out.2] at q9
     haveI:=q9.i
     go_wp2_with fail
     go_roundg (c-(i+1))
     case measure=>have:=A.out.1;omega
     case rel=>exact ⟨i+1,Z,m,Q,by go_num,by omega,⟨rfl,O.out.1⟩,DC _ _ _ _ _⟩
   have U: ¬(i:Int)<c:=by omega
   obtain rfl:i=c:=by omega
   have HF:Aside ((Ew a).length=k):=by have:=A.out.2;rwa [List.take_of_length_le (by rw[r.out];exact Nat.le_refl _)] at this
   rw[List.take_of_length_le (by rw[r.out];exact Nat.le_refl _)] at L
   haveI:=L.i
   clear A
   go_wp2
   refine leaves_cons (f:=118) (args:= #[.pointer (some ⟨N,0,none⟩),.pointer (some ⟨N+1,0,none⟩)]) (by simp) (by simp[go_sem]) ?_
   refine (U5 _ _ _).mono ?_
   rintro e u' w3 ⟨rfl,rfl,rfl⟩
   simp[Leaves,settle,results,Tryz.results51,go_sem]
   refine ⟨Ew a,J3 B.out.1,B.out.2.1,x,G,?_,?_⟩
   · rw[HF.out]
   rw[HF.out]
   exact AD _ _ _
end Go.Proofs.YtfhbmblbidcmmaaGreat
namespace Go.Tr
open Go.Proofs.YtfhbmblbidcmmaaGreat
variable [Em]
theorem Xi{V:Int→Option Nd}{U:List Int}(a: ∀p n,V p=some n→1≤p∧p<1048576∧may n=true∧p∈U)(l:U.length≤1048576){m:Nat}{s:TS}(b:D2 V (m+(13*U.length+1038)) s)(r:Int):
 (∃l' s',Gs Ak r s= .ok l' s'∧D2 V m s'∧s'.sp=s.sp∧s'.ck.d=s.ck.d∧((AJ V r).ok=true→ ∀x,x∈l'↔x∈(AJ V r).A7))∨(∃s',Gs Ak r s= .fault 13 s'∧D2 V 0 s'∧s'.sp=s.sp∧s'.ck.d=s.ck.d∧(AJ V r).ok=false):=by
 by_cases h0:r=0
 ·subst h0
  refine .inl ⟨[],s,rfl,b.less (by omega),rfl,rfl,fun _ x=>?_⟩
  unfold AJ
  rw[if_pos rfl]
 unfold Gs
 rw[if_neg h0]
 cases c:(AJ V r).ok with
 | true =>
  obtain ⟨q,h1,k,t⟩:=fW (fun p n h=>(a p n h).2.2.1) h0 c
  obtain ⟨l',s',e,o⟩:=Pu (fun p n h=>⟨(a p n h).1,(a p n h).2.1⟩) 21 q r (AJ V r).A7 [] m s (by omega) k (b.less (by omega)) (gE.nil _) (by simp;omega)
  refine .inl ⟨l',s',e,o.Qi,o.sp,o.dk,fun _ x=>⟨fun h=>?_,o.all x⟩⟩
  rcases o.n7 x h with h|h
  ·cases h
  exact h
 | false =>
  have g:=LO a l 21 r [] m s h0 (by simp) List.nodup_nil (b.less (by simp;omega))
  cases hm:Bl Ak 21 r [] s with
  |bad=>rw[hm] at g;exact g.elim
  | fault e s1 =>
   rw[hm] at g
   obtain ⟨rfl,f,i,j⟩:=g
   exact .inr ⟨s1,rfl,f,i,j,rfl⟩
  | ok l1 s1 =>
   rw[hm] at g
   exact .inl ⟨l1,s1,rfl,g.2.2.2.1.less (by omega),g.2.2.2.2.1,g.2.2.2.2.2,fun h=>by cases h⟩
end Go.Tr
namespace Go.Proofs.YtfhbmblbidcmmaaGreat
open Go.RowKit Go.Sl Go.Dk Go.Tr Go.Sort
open Go.PS (A9)
abbrev Kq:TypeId:=230
def Gv(Z:List Int)(x:Int):List Int:=if Z.contains x then Z else Z++ [x]
theorem QU(x:Int): ∀Z:List Int,CT x (.bool true) (GA Z)=GA (Gv Z x)
 | []=>rfl
 | y :: Z => by
  have a:=QU x Z
  show (if x=y then (x,Value.bool true)::GA Z else (y,Value.bool true)::CT x (.bool true) (GA Z))=_
  by_cases h:x=y
  ·subst h
   rw[if_pos rfl]
   unfold Gv
   rw[if_pos (by simp)]
   rfl
  rw[if_neg h,a]
  unfold Gv
  have e:(y::Z).contains x=Z.contains x:=by simp[h]
  rw[e]
  split<;>rfl
theorem y'(Z:List Int)(x y:Int):y∈Gv Z x↔y∈Z∨y=x:=by grind [Gv]
theorem VH{Z:List Int}(h:Z.Nodup)(x:Int):(Gv Z x).Nodup:=by grind [Gv,List.nodup_append]
theorem F'(Z:List Int)(x:Int):(Gv Z x).length≤Z.length+1:=by grind [Gv]
theorem Z7(l:List Int):(Df l).length=l.length:=(List.mergeSort_perm l _).length_eq
theorem SI{l:List Int}(h:l.Nodup):(Df l).Pairwise (· < ·):=by
 have h1:(Df l).Pairwise fun x y=>decide (x≤y)=true:=List.pairwise_mergeSort (fun a b c h1 d=>by simp at*;omega) (fun a b=>by simp;omega) l
 have d:(Df l).Nodup:=(List.mergeSort_perm l _).nodup_iff.2 h
 exact (h1.and d).imp fun ⟨a,b⟩=>by simp at a;omega
theorem Xj{σ:Type}{rd:Int→M σ Nd}{r:Int}{s s':σ}{l:List Int}(h:Gs rd r s= .ok l s'):l.length≤1048577:=by
 unfold Gs at h
 split at h
 ·have:(Fu.ok [] s:Fu σ (List Int))= .ok l s':=h
  cases this
  simp
 exact (Ps h).1
def kE[Em](V:Int→Option Nd)(h:Th)(m:Nat)(s:TS)(vl:List (Int×Int))(B F:Ab)(e:Ending)(b:World):Prop:= ∃s',s'.sp=s.sp∧s'.ck.d=s.ck.d∧
 ((∃(ns : List Int)(a : Option Addr)(c : Nat), e = .returned (.tuple #[.slice a ns.length c, .int .i64 0]) ∧ ns.Pairwise (· < ·) ∧ D2 V m s' ∧ ((∀ v ∈ vl, (AJ V v.1).ok = true) → ∀ x, x ∈ ns ↔ ∃ v ∈ vl, x ∈ (AJ V v.1).A7) ∧ Sat (rw CN 1 (.slice a ns.length c) (ints ns) * (Ad h s' * (B * F))) b) ∨
  (e= .returned (.tuple #[.slice none 0 0,.int .i64 13])∧D2 V 0 s'∧(∃v∈vl,(AJ V v.1).ok=false)∧Sat (Ad h s'*(B*F)) b))
structure Met (V:Int→Option Nd) (vl:List (Int×Int)) (i:Nat) (Z:List Int):Prop where
 nd:Z.Nodup
 len:Z.length≤1048577*i
 mem:(∀v∈vl.take i,(AJ V v.1).ok=true)→ ∀x,x∈Z↔ ∃v∈vl.take i,x∈(AJ V v.1).A7
theorem YE(l:List Int): ∀(Z:List Int)(x:Int),x∈l.foldl Gv Z↔x∈Z∨x∈l:=by induction l with
 |nil=>intro Z x;simp
 |cons a l b=>simp[List.foldl_cons,b,y',List.mem_cons,or_assoc]
theorem T6(l:List Int): ∀{Z:List Int},Z.Nodup→(l.foldl Gv Z).Nodup:=by induction l with
 |nil=>intro Z h;exact h
 |cons a l b=>intro Z h;exact b (VH h a)
theorem YD(l:List Int): ∀(Z:List Int),(l.foldl Gv Z).length≤Z.length+l.length:=by induction l with
 |nil=>intro Z;simp
 | cons a l c =>
  intro Z
  have b:=F' Z a
  grind
theorem k9{l:List Int}{k:Nat}{x:Int}(h:l[k]?=some x)(Z:List Int):(l.take (k+1)).foldl Gv Z=Gv ((l.take k).foldl Gv Z) x:=by simp[List.take_add_one,h,List.foldl_append]
theorem Met.next{V:Int→Option Nd}{vl:List (Int×Int)}{i:Nat}{Z:List Int}(h:Met V vl i Z){v:Int×Int}(d:vl[i]?=some v){ns:List Int}(e:ns.length≤1048577)(hm:(AJ V v.1).ok=true→ ∀x,x∈ns↔x∈(AJ V v.1).A7):Met V vl (i+1) (ns.foldl Gv Z):=by
 refine ⟨T6 ns h.nd,by have:=YD ns Z;have:=h.len;omega,fun a x=>?_⟩
 rw[List.take_add_one,d] at a⊢
 have h1:=h.mem (fun u c=>a u (List.mem_append_left _ c)) x
 have b:=hm (a v (List.mem_append_right _ (by simp))) x
 simp[YE,h1,b]
theorem VP[Em](V:Int→Option Nd)(U:List Int)(h:Th)(m:Nat)(s:TS)(v:Value)(vl:List (Int×Int))(B F:Ab)(w:World)(hV: ∀p n,V p=some n→1≤p∧p<1048576∧may n=true∧p∈U)(hU:U.length≤1048576)
 (l:D2 V (m+vl.length*(13*U.length+1038)) s) (hB:Ai 2 B v vl.length (B9 vl)) (hl:vl.length≤64) (hs:Sat (Ad h s*(B*F)) w):
 Calls Tryz.prog 57 #[.pointer (some ⟨h.t,0,none⟩),v] w (kE V h m s vl B F):=by
 have co:= @run_makeMap Tryz.prog
 obtain ⟨_,av,cv,rfl,aa,c4,_⟩:=id hB
 obtain ⟨K,hK⟩:=Aq (13*U.length+1038)
 rw[hK] at l
 have HV:Aside (∀(m:Nat)(s:TS)(r:Int),D2 V (m+K) s→(∃l' s',Gs Ak r s= .ok l' s'∧D2 V m s'∧s'.sp=s.sp∧s'.ck.d=s.ck.d∧((AJ V r).ok=true→ ∀x,x∈l'↔x∈(AJ V r).A7))∨(∃s',Gs Ak r s= .fault 13 s'∧D2 V 0 s'∧s'.sp=s.sp∧s'.ck.d=s.ck.d∧(AJ V r).ok=false)):=(by rw[←hK];exact fun m s r l=>Xi hV hU l r:_)
 obtain ⟨n,hn⟩:=Aq vl.length
 have HB:Aside (Ai 2 B (.slice av n cv) n (B9 vl)∧vl.length=n):=(by rw[←hn];exact ⟨hB,rfl⟩:_)
 rw[hn] at l hl aa⊢
 have HR:=As l
 obtain ⟨iI,EI⟩:=Mt
 haveI:=hs.i
 clear hB l hV hU hK hn
 go_enter Tryz.func57,Tryz.ntmps57
 go_wp2_with fail
 obtain ⟨M,hM⟩:=Aq w.heap.size
 have q1:Sat (mp A9 M (GA [])*(Ad h s*(B*F))) (w.alloc (.map #[] 0)):=by
  rw[←hM]
  exact Sg.out.eq (by ac_rfl)
 try rw[hM]
 generalize w.alloc (.map #[] 0)=w1 at q1⊢
 clear hM hs this
 haveI:=q1.i
 go_loopg [20] n (fun g bo wr=> ∃(i:Nat)(s2:TS)(Z:List Int),bo= .int .i64 i∧i≤n∧Aside (g=n-i∧D2 V (m+(n-i)*K) s2∧s2.sp=s.sp∧s2.ck.d=s.ck.d∧Met V vl i Z)∧Sat (mp A9 M (GA Z)*(Ad h s2*(B*F))) wr)
 case atStart=>exact ⟨0,s,[],rfl,by omega,⟨rfl,by simpa using HR.out,rfl,rfl,List.nodup_nil,by simp,fun _ x=>by simp⟩,q1⟩
 obtain ⟨i,s2,Z,rfl,hi,A,q2⟩:=hrel
 clear q1
 haveI:=q2.i
 by_cases J:i<n
 · have ag:(i:Int)<n:=by omega
   obtain ⟨⟨r,Hi⟩,hp⟩: ∃p,vl[i]?=some p:=⟨_,List.getElem?_eq_getElem (by rw[HB.out.2];exact J)⟩
   obtain ⟨b1,o1,b9,r1⟩:=Ai.at HB.out.1 (i*2) (.int .i64 r) (EJ hp 0 (by omega))
   obtain ⟨b2,o2,ba,r2⟩:=Ai.at HB.out.1 (i*2+1) (.int .i64 Hi) (EJ hp 1 (by omega))
   subst b9
   cases ba
   have HP:=As hp
   have H:m+(n-i)*K=m+(n-(i+1))*K+K:=by
    rw[show n-i=(n-(i+1))+1 by omega,Nat.add_mul,Nat.one_mul,Nat.add_assoc]
   have a1:=HV.out (m+(n-(i+1))*K) s2 r (by rw[←H];exact A.out.2.1)
   have D:=fun F w q=>W5 h s2 r F w q (by
    rcases a1 with ⟨l',s',e,_⟩|⟨s',e,_⟩
    · rw[e];simp
    rw[e];simp)
   have a6:Aside (∀(F:Ab) w,Sat (Ad h s2*F) w→Calls Tryz.prog 51 #[.pointer (some ⟨h.t,0,none⟩),.int .i64 r] w fun e w'=>
    (∃(s3:TS)(ns:List Int)(a:Option Addr)(c:Nat),e= .returned (.tuple #[.slice a ns.length c,.int .i64 0])∧Aside (ns.length≤1048577∧D2 V (m+(n-(i+1))*K) s3∧s3.sp=s.sp∧s3.ck.d=s.ck.d∧((AJ V r).ok=true→ ∀x,x∈ns↔x∈(AJ V r).A7))∧Sat (rw CN 1 (.slice a ns.length c) (ints ns)*(Ad h s3*F)) w')∨
    (∃s3:TS,e= .returned (.tuple #[.slice none 0 0,.int .i64 13])∧Aside (D2 V 0 s3∧s3.sp=s.sp∧s3.ck.d=s.ck.d∧(AJ V r).ok=false)∧Sat (Ad h s3*F) w')):=fun F w q=>(D F w q).mono fun e w' hx=>by
    rcases a1 with ⟨l',s',e1,k1,k2,k3,k4⟩|⟨s',e1,k1,k2,k3,k4⟩
    · rw[e1] at hx
      obtain ⟨ns,g1,g2,a,c,g3,g4⟩:=hx
      refine .inl ⟨s',ns,a,c,g3,⟨?_,k1,k2.trans A.out.2.2.1,k3.trans A.out.2.2.2.1,fun ho x=>(g2 x).trans (k4 ho x)⟩,g4⟩
      exact Nat.le_trans (List.Nodup.length_le_of_subset (g1.imp fun h=>by omega) fun x hx=>(g2 x).1 hx) (Xj e1)
    rw[e1] at hx
    exact .inr ⟨s',hx.1,⟨k1,k2.trans A.out.2.2.1,k3.trans A.out.2.2.2.1,k4⟩,hx.2⟩
   clear hp a1 D H
   go_wp2_with fail
   with_reducible refine Calls.mono (a6.out _ _ (Ae (Ad h s2))) ?_
   rintro e w3 (⟨s3,ns,a3,c3,rfl,z,q3⟩|⟨s3,rfl,z,q3⟩)
   · obtain ⟨kn,f⟩:=Aq ns.length
     have HN:=As f
     have cm:kn≤1048577:=by rw[←f];exact z.out.1
     rw[f] at q3⊢
     have q4:Sat (mp A9 M (GA ((ns.take 0).foldl Gv Z))*(rw CN 1 (.slice a3 kn c3) (ints ns)*(Ad h s3*(B*F)))) w3:=by
      haveI:=q3.i
      show Sat (mp A9 M (GA Z)*_) _
      exact DC _ _ _ _ _
     clear f q3 q2 this
     haveI:=q4.i
     go_wp2_with fail
     go_loopg [36] kn (fun g bp wr=> ∃(k:Nat),bp= .int .i64 k∧k≤kn∧Aside (g=kn-k)∧Sat (mp A9 M (GA ((ns.take k).foldl Gv Z))*(rw CN 1 (.slice a3 kn c3) (ints ns)*(Ad h s3*(B*F)))) wr)
     case atStart=>exact ⟨0,rfl,by omega,rfl,q4⟩
     obtain ⟨k,rfl,hk,A2,q5⟩:=hrel
     clear q4
     by_cases bb:k<kn
     · have ac:(k:Int)<kn:=by omega
       obtain ⟨x,hx⟩: ∃x,ns[k]?=some x:=⟨_,List.getElem?_eq_getElem (by rw[HN.out];exact bb)⟩
       obtain ⟨g3,rfl⟩:=Dv (hs:=q5.take (rw CN 1 (.slice a3 kn c3) (ints ns))) (by omega)
       obtain ⟨Zk,X⟩:=Aq ((ns.take k).foldl Gv Z)
       have HZ:Aside ((ns.take (k+1)).foldl Gv Z=Gv Zk x):=by rw[←X];exact k9 hx Z
       rw[X] at q5
       haveI:=q5.i
       haveI:At (ints ns) k (.int .i64 x):=⟨by unfold ints;rw[List.getElem?_map,hx];rfl⟩
       have p1:=fun w=> @W8 w M x (.bool true)
       have bk:=QU x Zk
       clear hx X
       go_wp2
       go_roundg (kn-(k+1))
       case measure=>have:=A2.out;omega
       case rel=>exact ⟨k+1,by go_num,by omega,rfl,by rw[HZ.out,←bk];exact DC _ _ _ _ _⟩
     have ac: ¬(k:Int)<kn:=by omega
     obtain rfl:k=kn:=by omega
     rw[List.take_of_length_le (by rw[HN.out];exact Nat.le_refl _)] at q5
     haveI:=q5.i
     have R:=As (A.out.2.2.2.2.next HP.out z.out.1 z.out.2.2.2.2)
     clear A2
     go_wp2_with fail
     go_roundg (n-(i+1))
     case measure=>have:=A.out.1;omega
     case rel=>exact ⟨i+1,s3,ns.foldl Gv Z,by go_num,by omega,⟨rfl,z.out.2.1,z.out.2.2.1,z.out.2.2.2.1,R.out⟩,Cz _ _ _ _⟩
   have b0:Aside (∃v∈vl,(AJ V v.1).ok=false):=⟨_,List.mem_of_getElem? HP.out,z.out.2.2.2⟩
   haveI:=q3.i
   clear q2 A a6
   go_wp2
   go_ret2
   exact ⟨s3,z.out.2.1,z.out.2.2.1,.inr ⟨rfl,z.out.1,b0.out,AD _ _ _⟩⟩
 have ag: ¬(i:Int)<n:=by omega
 obtain rfl:i=n:=by omega
 have R:Aside (D2 V m s2∧s2.sp=s.sp∧s2.ck.d=s.ck.d∧Met V vl i Z∧vl.take i=vl):=⟨by have:=A.out.2.1;simpa using this,A.out.2.2.1,A.out.2.2.2.1,A.out.2.2.2.2,List.take_of_length_le (by rw[HB.out.2];exact Nat.le_refl _)⟩
 have bf:Z.length≤1048577*64:=by have:=A.out.2.2.2.2.len;have:1048577*i≤1048577*64:=Nat.mul_le_mul_left _ hl;omega
 obtain ⟨o,ho,a2⟩:=q2.Cx
 have b8:w1.heap.size=w1.heap.size:=rfl
 have a8:=a2.obj
 obtain ⟨ms,y⟩:=Aq (GA Z)
 have cb:Aside (GA Z=ms∧F4 A9 o ms):=⟨y,y▸ho⟩
 have cn:ms.length≤67108928:=by rw[←y];simp[GA];omega
 have HF:Aside (∀ks:List Int,ks.Perm (ms.map (·.1))→ks.Perm Z):=(by
  intro ks h
  rw[←y] at h
  simpa[GA,List.map_map,Function.comp_def] using h:_)
 rw[y] at ho
 clear y bf b8 this A q2
 obtain ⟨oi,hI,L⟩:=IV (P:=Tryz.prog) Tryz.underlying206 a8 ho
 have O:=a2.CW oi
 go_wp2_with fail
 obtain ⟨I,W⟩:=Aq wr.heap.size
 rw[W] at O
 try rw[W]
 generalize wr.alloc oi=wq at O⊢
 clear W L a2 a8
 go_loopg [13] ms.length (fun g bn bq=> ∃(a:Option Addr)(ks:List Int)(c:Nat)(Q:Obj)(b:List (Int×Value)),bn= .slice a ks.length c∧Aside (g=b.length∧Iter A9 M o Q ms b∧(b.map (·.1)++ks).Perm (ms.map (·.1)))∧
  Sat (rw CN 1 (.slice a ks.length c) (ints ks)*(raw I Q*(raw M o*(Ad h s2*(B*F))))) bq)
 case atStart=>exact ⟨none,[],0,oi,ms,rfl,⟨rfl,hI,by simp⟩,by simpa[ints] using O.AG (e:=CN) (s:=1)⟩
 obtain ⟨a,ks,c,Q,b,rfl,A,G⟩:=hrel
 obtain ⟨ab,T,l⟩:=A.out
 have a4:=G.eq (B:=raw M o*(raw I Q*(Ad h s2*(B*F)*rw CN 1 (.slice a ks.length c) (ints ks)))) (by ac_rfl)
 clear hI O
 rcases JI (P:=Tryz.prog) a4 T with ⟨aj,Y⟩|⟨j,k,u,al,w2,hj,Y,a7,ak,aw⟩
 · subst aj
   have ae:=HF.out ks (by simpa using l)
   have ad:ks.length≤67108928:=by have:=l.length_eq;simp at this;omega
   have a5:=fun F w q=>JM a ks.length c ks F w q (by omega)
   obtain ⟨kn,f⟩:=Aq ks.length
   rw[f] at a5 G ad
   simp only[f]
   have b3:Aside (∀(F:Ab) w,Sat (rw CN 1 (.slice a kn c) (ints ks)*F) w→Calls Tryz.prog 122 #[.slice a kn c] w fun e w'=>e= .returned (.tuple #[])∧Sat (rw CN 1 (.slice a kn c) (ints (Df ks))*F) w'):=a5
   have HK:Aside (ks.Perm Z∧(Df ks).length=kn):=⟨ae,by rw[Z7];exact f⟩
   haveI:=G.i
   clear a4 T A ae l f a5
   go_wp2_with fail
   with_reducible refine Calls.mono (b3.out _ _ (Ae (rw CN 1 (.slice a kn c) (ints ks)))) ?_
   rintro e w3 ⟨rfl,q6⟩
   have HE:Aside (Sat (rw CN 1 (.slice a kn c) (ints (Df ks))*(Ad h s2*(B*F))) w3):=by
    show Sat _ _
    haveI:=q6.i
    exact Cz _ _ _ _
   clear q6 G this
   go_wp2
   go_ret2
   refine ⟨s2,R.out.2.1,R.out.2.2.1,.inl ⟨Df ks,a,c,by rw[HK.out.2];rfl,SI (HK.out.1.nodup_iff.2 R.out.2.2.2.1.nd),R.out.1,fun ho x=>?_,by rw[HK.out.2];exact HE.out⟩⟩
   have h9:=R.out.2.2.2.1.mem
   rw[R.out.2.2.2.2] at h9
   rw[MR,HK.out.1.mem_iff]
   exact h9 ho x
 have ah:=List.mem_of_getElem? hj
 have J:(b.eraseIdx j).length<b.length:=by
  have:=(List.getElem?_eq_some_iff.1 hj).1
  rw[List.length_eraseIdx];split<;>omega
 have af:b.length+ks.length=ms.length:=by simpa using l.length_eq
 have a9:((b.eraseIdx j).map (·.1)++(ks++ [k])).Perm (ms.map (·.1)):=by
  refine List.Perm.trans ?_ l
  have h1:=(F1 b j _ hj).map (·.1)
  simp only[List.map_cons] at h1
  have h2:((b.eraseIdx j).map (·.1)++(ks++ [k])).Perm (k::((b.eraseIdx j).map (·.1)++ks)):=by
   rw[←List.append_assoc]
   exact List.perm_append_singleton _ _
  exact h2.trans ((h1.append_right ks).symm)
 have HL:Aside ((b.eraseIdx j).length<b.length∧gk=b.length):=⟨J,ab⟩
 have HI:Aside (Iter A9 M o al ms (b.eraseIdx j)∧((b.eraseIdx j).map (·.1)++(ks++ [k])).Perm (ms.map (·.1))):=⟨a7,a9⟩
 have bd:=ak.eq (by ac_rfl)
 have ad:ks.length≤67108928:=by omega
 clear a4 T A G J ab a7 hj l a9 ah af ak
 haveI:=bd.i
 go_wp2_with (at_builtin;go_loud (refine Af EI rfl (.tmp 50) (.tmp 52) rfl rfl rfl (Ae (rw CN 1 (.slice a ks.length c) (ints ks))) (Src.new (e:=CN) (s:=1) (vs:= [.int .i64 k]) (Ae _) rfl (by intro u hu;simp at hu;rcases hu with rfl;rfl)) (by unfold maxLen;omega) (by omega) ?_;intro a' c' w3 be ai;haveI:=be.i;clear ai))
 go_roundg (b.eraseIdx j).length
 case measure=>have:=HL.out;omega
 refine ⟨a',ks++ [k],c',al,_,by simp,⟨rfl,HI.out.1,HI.out.2⟩,?_⟩
 rw[show ints (ks++ [k])=ints ks++ [.int .i64 k] by simp[ints],List.length_append]
 exact DZ _ _ _ _ _ _
end Go.Proofs.YtfhbmblbidcmmaaGreat
namespace Go.Proofs.YtfhbmblbidcmmaaGreat
open Go.RowKit Go.Sl Go.Dk Go.Tr
def YL(n:Int):List Int→List Int
 | []=> [n]
 |x::l=>if n<x then n::x::l else x::YL n l
theorem TG{n x:Int}(hx:n<x): ∀{l:List Int},(∀x∈l,¬n<x)→YL n (l++ [x])=l++ [n]++ [x]
 | [],_=>by
  show (if n<x then _ else _)=_
  simp_all
 | y :: l, h => by
   show (if n<y then n::y::(l++ [x]) else y::YL n (l++ [x]))=_
   rw[if_neg (h y List.mem_cons_self),TG hx fun y hy=>h y (List.mem_cons_of_mem _ hy)]
   rfl
theorem TE(n:Int): ∀l:List Int,(YL n l).length=l.length+1
 | []=>rfl
 | x :: l => by
  unfold YL
  split
  ·rfl
  rw[List.length_cons,TE n l,List.length_cons]
structure gD (n:Int) (p out:List Int) (d:Bool):Prop where
 no:d=false→out=p∧ ∀x∈p,¬n<x
 yes:d=true→out=YL n p∧ ∃x∈p,n<x
 new:n∉p
theorem gD.put{n x:Int}{p out:List Int}(h:gD n p out false)(hx:n<x):gD n (p++ [x]) (out++ [n]++ [x]) true:=by
 obtain ⟨rfl,a⟩:=h.no rfl
 refine ⟨fun e=>(by cases e),fun _=>⟨(TG hx a).symm,x,List.mem_append_right _ (List.mem_singleton.2 rfl),hx⟩,fun hm=>?_⟩
 rcases List.mem_append.1 hm with hm|hm
 ·exact h.new hm
 simp_all
theorem gD.skip{n x:Int}{p out:List Int}(h:gD n p out false)(hx: ¬n<x)(a:x≠n):gD n (p++ [x]) (out++ [x]) false:=by
 obtain ⟨rfl,b⟩:=h.no rfl
 refine ⟨fun _=>⟨rfl,fun y hy=>?_⟩,fun e=>(by cases e),fun hm=>?_⟩
 ·grind
 rcases List.mem_append.1 hm with hm|hm
 ·exact h.new hm
 simp_all
theorem gD.len{n:Int}{p out:List Int}{d:Bool}(h:gD n p out d):out.length≤p.length+1:=by cases d with
 |false=>rw[(h.no rfl).1];omega
 |true=>rw[(h.yes rfl).1,TE];omega
