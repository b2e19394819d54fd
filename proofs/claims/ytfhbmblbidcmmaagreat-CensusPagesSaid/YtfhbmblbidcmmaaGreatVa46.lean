/- censusPages holds for every input. No condition. (part 46) -/
import Derived.Test.YtfhbmblbidcmmaaGreatVa45
set_option linter.all false
set_option maxRecDepth 100000
set_option maxHeartbeats 12800000
namespace Go.Proofs.YtfhbmblbidcmmaaGreat
open Go.RowKit Go.Sl Go.Dk Go.Tr
open Go.PW (A8)
attribute [local go_sem] S9
variable [En]
theorem OX(f : Nat)(ih : ∀ g, f = g + 1 → Oq g) : gU f false := by
 intro V N h s m K no top o u r M F w eg hf dc hK hV hR hm hs
 have fo:Aside (∀n,V no=some n→n.leaf=false):=eg
 clear eg
 by_cases an:top=false∧ ∃y,F9 no K=some y
 · obtain ⟨rfl,y,hy⟩:=an
   exact Uj f V N h s m K no o u r M F w hK hR y hy hs
 have HK:Aside (Kn V K):=hK
 have HV:Aside (∀p n,V p=some n→may n=true∧p<N):=hV
 have ad:Aside (∀p n,V p=some n→may n=true):=fun p n h=>(hV p n h).1
 have HM:Aside (13*fr N K+13*(f+1)≤m∧no≠0):=⟨hm,dc⟩
 have fl:Aside (∀g,f=g+1→Oq g):=ih
 have HH:Aside (¬(top=false∧ ∃y,F9 no K=some y)):=an
 obtain ⟨m1,d8⟩: ∃m1,m=m1+1:=⟨m-1,by omega⟩
 have d1:Aside (m=m1+1):=d8
 have f0:=SJ h V m1 s no
 have ft:Aside (∀F w,Sat (Ad h s*F) w→Calls Tryz.prog 129 #[.pointer (some ⟨h.t,0,none⟩),.int .i64 no] w (RN h V m1 s no F)):=fun F w q=>f0 F w (by rw[←d8];exact hR) dc q
 obtain ⟨dp,be⟩:=Aq ((13:Int)-(f:Int))
 have HD:Aside (dp=13-(f:Int)∧f≤13):=⟨be.symm,hf⟩
 have gf:0≤dp∧dp≤13:=by omega
 rw[be]
 obtain ⟨ic,ie⟩:=gf
 have ik:=Bg (dp+1) (by omega)
 unfold Gl at hs
 have f5:Sat (Ad h s*(Sl.block o Lh [.map (some M)]*(Sl.block u Q2 [.pointer (some ⟨h.t,0,none⟩)]*(Sl.block r Q0 [.func (Fn.func 128) #[] #[.pointer (some ⟨o,0,none⟩),.pointer (some ⟨u,0,none⟩),.pointer (some ⟨r,0,none⟩)]]*(mp A8 M (kn K)*F))))) w:=hs.eq (by ac_rfl)
 obtain ⟨z,ok,f7,f8,de⟩: ∃(z:Sn)(ok:Bool),(Cp no (kn K)).getD X4=Xi z∧(Cp no (kn K)).isSome=ok∧(ok=true→top=true)∧(top=false→F9 no K=none):=by
  rw[Og]
  cases gh:F9 no K with
  |none=>exact ⟨JH,false,rfl,rfl,fun e=>Bool.noConfusion e,fun _=>rfl⟩
  | some y =>
    have ht:top=true:=by
     cases top with
     |true=>rfl
     |false=>exact absurd ⟨rfl,y,gh⟩ an
    exact ⟨y,true,rfl,rfl,fun _=>ht,fun e=>by rw[ht] at e;cases e⟩
 have HZ:Aside (top=false→F9 no K=none):=de.2
 have f9:=de.1
 obtain ⟨H,Z,⟨a1,a2,a3,a4⟩,⟨b1,b2,b3,b4⟩⟩:=z
 haveI:=f5.i
 have av:(Instr.lookup Lh (.map (some M)) (.int .i64 no) true).run Tryz.prog (w.alloc (.cells #[.int .i64 0,.int .i64 0,.int .i64 0,.int .i64 0,.int .i64 0,.int .i64 0,.int .i64 0,.int .i64 0,.int .i64 0,.int .i64 0] Ik))= .ok (.tuple #[.agg #[.int .i64 H,.int .i64 Z,.int .i64 a1,.int .i64 a2,.int .i64 a3,.int .i64 a4,.int .i64 b1,.int .i64 b2,.int .i64 b3,.int .i64 b4],.bool ok]) (w.alloc (.cells #[.int .i64 0,.int .i64 0,.int .i64 0,.int .i64 0,.int .i64 0,.int .i64 0,.int .i64 0,.int .i64 0,.int .i64 0,.int .i64 0] Ik)):=by
  rw[Sm,f7,f8]
  rfl
 clear f7 f8 de hK hV hR hm hs an ih f0 dc hf d8 be HH
 go_enter Tryz.func128,Tryz.ntmps128
 go_upto_region 2 with (fail)
 go_cut [30] (fun gq wx=>gq= .bool false∧Sat (Sl.block w.heap.size Ik [.int .i64 0,.int .i64 0,.int .i64 0,.int .i64 0,.int .i64 0,.int .i64 0,.int .i64 0,.int .i64 0,.int .i64 0,.int .i64 0]*(Ad h s*(Sl.block o Lh [.map (some M)]*(Sl.block u Q2 [.pointer (some ⟨h.t,0,none⟩)]*(Sl.block r Q0 [.func (Fn.func 128) #[] #[.pointer (some ⟨o,0,none⟩),.pointer (some ⟨u,0,none⟩),.pointer (some ⟨r,0,none⟩)]]*(mp A8 M (kn K)*F)))))) wx)
 case first=>
  cases ok with
  | false =>
    go_wp2_with fail
    go_meet
    exact ⟨rfl,A4 (C:=Sl.block (w.heap.size+1) Ik [.int .i64 H,.int .i64 Z,.int .i64 a1,.int .i64 a2,.int .i64 a3,.int .i64 a4,.int .i64 b1,.int .i64 b2,.int .i64 b3,.int .i64 b4]) (by ac_rfl)⟩
  | true =>
    obtain rfl:=f9 rfl
    go_wp2_with fail
    go_meet
    exact ⟨rfl,A4 (C:=Sl.block (w.heap.size+1) Ik [.int .i64 H,.int .i64 Z,.int .i64 a1,.int .i64 a2,.int .i64 a3,.int .i64 a4,.int .i64 b1,.int .i64 b2,.int .i64 b3,.int .i64 b4]) (by ac_rfl)⟩
 obtain ⟨rfl,q2⟩:=hcut
 obtain ⟨N9,ei⟩:=Aq w.heap.size
 rw[ei] at q2⊢
 clear f5 this av ei f9
 haveI:=q2.i
 go_wp2_with fail
 with_reducible refine Calls.mono (ft.out _ _ (Ae (Ad h s))) ?_
 rintro e w1 ⟨s2,ej,cs,cn,I⟩
 have B:Aside (Dp V m1 s2∧s2.sp=s.sp∧s2.ck.d=s.ck.d):=⟨ej,cs,cn⟩
 clear ej cs cn q2
 rcases I with ⟨n,v1,B1,bj,rfl,hN,q3⟩|⟨bj,rfl,q3⟩
 rotate_left
 · haveI:=q3.i
   exact ⟨rfl,s2,K,CL h s2 o u r M K F,B.out.2.1,B.out.2.2,.inr ⟨rfl,T0 bj,B.out.1.less (Nat.zero_le _)⟩⟩
 have ax:=ad.out no n bj
 have O:Aside (V no=some n):=bj
 have bq:Aside (may n=true):=ax
 have af:=fun F w q=>Pa n v1 B1 F w hN q (by have:=(Eu.of ax).e;omega) (by have:=(Eu.of ax).k;omega)
 obtain ⟨vE,vK,rfl,hE,d2⟩:=hN
 obtain ⟨aE,cE,rfl,ga,ia⟩:=hE.v
 obtain ⟨aK,cK,rfl,gb,ib⟩:=Aj.v d2
 obtain ⟨le,bg⟩:=Aq n.Ag.length
 obtain ⟨lk,av⟩:=Aq n.kids.length
 obtain ⟨lf,au⟩:=Aq n.leaf
 have HE:Aside (Au B1 (.slice aE le cE) n.Ag∧n.Ag.length=le):=⟨by rw[←bg];exact hE,bg⟩
 have b9:Aside (AS B1 (.slice aK n.kids.length cK) n.kids∧n.kids.length=lk):=⟨d2,av⟩
 have L:Aside (n.leaf=lf):=au
 have gy:le≤12:=by have:=(Eu.of ax).e;omega
 have ew:lk≤12:=by have:=(Eu.of ax).k;omega
 rw[bg,av,au] at af
 rw[bg] at ga⊢
 rw[av] at gb⊢
 rw[au]
 have bp:Aside (∀(F:Ab)(w:World),Sat (B1*F) w→Calls Tryz.prog 130 #[.agg #[.bool lf,.slice aE le cE,.slice aK lk cK]] w fun e w'=>e= .returned (.int .i64 (many n))∧Sat (B1*F) w'):=af
 obtain ⟨mn,da⟩: ∃z:Nat,many n=z:=⟨_,rfl⟩
 rw[da] at bp
 have dy:Aside (many n=mn):=da
 haveI:=q3.i
 clear bj ax af hE d2 bg av au da
 by_cases d4:f=0
 · have be:dp=13:=by have:=HD.out.1;omega
   have fk:Aside (DX V f no top=none):=(by rw[d4];rfl:_=_)
   have g8:decide ((12:Int)<dp)=true:=decide_eq_true (by omega)
   have ed:(12:Int)<dp:=by omega
   clear be d4
   go_wp2
   exact ⟨rfl,s2,K,CL h s2 o u r M K F,B.out.2.1,B.out.2.2,.inr ⟨rfl,fk.out,B.out.1.less (Nat.zero_le _)⟩⟩
 obtain ⟨g,hg⟩: ∃g,f=g+1:=⟨f-1,by omega⟩
 have HG:Aside (f=g+1):=hg
 have g8:decide ((12:Int)<dp)=false:=decide_eq_false (by have:=HD.out.1;omega)
 have ed: ¬(12:Int)<dp:=by have:=HD.out.1;omega
 obtain ⟨fw,er⟩:=Aq (decide (top=false∧mn<4))
 have ap:Aside (decide (top=false∧mn<4)=fw):=er
 clear er hg d4
 go_upto_region 5 with (fail)
 go_cut [45] (fun gr wx=>gr= .bool fw∧Sat (Sl.block w1.heap.size C1 [.bool lf,.slice aE le cE,.slice aK lk cK]*(B1*(Sl.block N9 Ik [.int .i64 0,.int .i64 0,.int .i64 0,.int .i64 0,.int .i64 0,.int .i64 0,.int .i64 0,.int .i64 0,.int .i64 0,.int .i64 0]*(Ad h s2*(Sl.block o Lh [.map (some M)]*(Sl.block u Q2 [.pointer (some ⟨h.t,0,none⟩)]*(Sl.block r Q0 [.func (Fn.func 128) #[] #[.pointer (some ⟨o,0,none⟩),.pointer (some ⟨u,0,none⟩),.pointer (some ⟨r,0,none⟩)]]*(mp A8 M (kn K)*F)))))))) wx)
 case first =>
  cases top with
  | true =>
    have Y:fw=false:=by rw[←ap.out];simp
    subst Y
    go_wp2_with fail
    go_meet
    exact ⟨rfl,Av (by ac_rfl)⟩
  | false =>
    by_cases h4:mn<4
    · have Y:fw=true:=by rw[←ap.out];simp[h4]
      subst Y
      have d5:(mn:Int)<4:=by omega
      have ep:decide ((mn:Int)<4)=true:=decide_eq_true d5
      go_wp2_with (go_at_call 130;with_reducible refine Calls.mono (bp.out _ _ (Ae B1)) ?_;rintro e w4 ⟨rfl,q4⟩;haveI:=q4.i)
      go_meet
      exact ⟨rfl,Av (by ac_rfl)⟩
    have Y:fw=false:=by rw[←ap.out];simp[h4]
    subst Y
    have d5: ¬(mn:Int)<4:=by omega
    have ep:decide ((mn:Int)<4)=false:=decide_eq_false d5
    go_wp2_with (go_at_call 130;with_reducible refine Calls.mono (bp.out _ _ (Ae B1)) ?_;rintro e w4 ⟨rfl,q4⟩;haveI:=q4.i)
    go_meet
    exact ⟨rfl,Av (by ac_rfl)⟩
 obtain ⟨rfl,q5⟩:=hcut
 obtain ⟨ba,ci⟩:=Aq w1.heap.size
 rw[ci] at q5⊢
 clear q3 this ci
 haveI:=q5.i
 cases fw with
 | true =>
   have ac:Aside (DX V f no top=none):=(by
    have l:=of_decide_eq_true ap.out
    rw[HG.out]
    exact XC O.out ⟨l.1,by rw[dy.out];exact l.2⟩:_=_)
   go_wp2
   exact ⟨rfl,s2,K,CL h s2 o u r M K F,B.out.2.1,B.out.2.2,.inr ⟨rfl,ac.out,B.out.1.less (Nat.zero_le _)⟩⟩
 | false =>
   have H4:Aside (¬(top=false∧many n<4)):=(by
    have l:=of_decide_eq_false ap.out
    rw[dy.out]
    exact l: ¬_)
   clear bp ap
   obtain ⟨x0,f6⟩:=Aq (if lf then (⟨0,n.Ag.length,n.Ag.headD e0,n.Ag.getLastD e0⟩:Sn) else JH)
   have aq:Aside ((if lf then (⟨0,n.Ag.length,n.Ag.headD e0,n.Ag.getLastD e0⟩:Sn) else JH)=x0):=f6
   clear f6
   have fv:Aside (lf=true→AH n.Ag→MU V no top x0):=(fun h1 h2=>by
    refine ⟨g+1,?_⟩
    rw[O1 O.out (L.out.trans h1) H4.out,if_neg (by rw[Gj.2 h2];simp),←aq.out,if_pos h1]:_→_→_)
   obtain ⟨bb,cj⟩:=Aq wc.heap.size
   have ce:Aside (wc.heap.size=bb):=cj
   clear cj
   go_upto_if 49 with (fail)
   go_cut [49] (fun iq wx=>(lf=true→AH n.Ag)∧Sat (Sl.block wc.heap.size Ik (dD x0)*(Sl.block ba C1 [.bool lf,.slice aE le cE,.slice aK lk cK]*(B1*(Sl.block N9 Ik [.int .i64 0,.int .i64 0,.int .i64 0,.int .i64 0,.int .i64 0,.int .i64 0,.int .i64 0,.int .i64 0,.int .i64 0,.int .i64 0]*(Ad h s2*(Sl.block o Lh [.map (some M)]*(Sl.block u Q2 [.pointer (some ⟨h.t,0,none⟩)]*(Sl.block r Q0 [.func (Fn.func 128) #[] #[.pointer (some ⟨o,0,none⟩),.pointer (some ⟨u,0,none⟩),.pointer (some ⟨r,0,none⟩)]]*(mp A8 M (kn K)*F))))))))) wx)
   case first=>
    cases lf with
    | false =>
      have hx:x0=JH:=by rw[←aq.out];rfl
      subst hx
      go_wp2_with fail
      go_meet
      exact ⟨fun e=>Bool.noConfusion e,Av (by unfold dD;ac_rfl)⟩
    | true =>
      have l:=fo.out n O.out
      rw[L.out] at l
      cases l
   obtain ⟨et,q6⟩:=hcut
   have fm:Aside (lf=true→AH n.Ag):=et
   rw[ce.out] at q6⊢
   clear q5 this et ce
   obtain ⟨xh,xc,⟨x1,x2,x3,x4⟩,⟨x5,x6,x7,x8⟩⟩:=x0
   unfold dD Dw at q6
   simp only[List.cons_append,List.nil_append] at q6
   haveI:=q6.i
   go_wp2_with fail
   go_loopg [80] lk (fun gg gs wr=> ∃(j m3:Nat)(s3:TS)(K3:List (Int×Sn))(x:Sn),gs= .int .i64 j∧j≤lk∧Aside (lS V N f g n lf m1 s K ⟨xh,xc,⟨x1,x2,x3,x4⟩,⟨x5,x6,x7,x8⟩⟩ gg lk j m3 s3 K3 x)∧
    Sat (Sl.block bb Ik (dD x)*(Sl.block ba C1 [.bool lf,.slice aE le cE,.slice aK lk cK]*(B1*(Sl.block N9 Ik [.int .i64 0,.int .i64 0,.int .i64 0,.int .i64 0,.int .i64 0,.int .i64 0,.int .i64 0,.int .i64 0,.int .i64 0,.int .i64 0]*(Ad h s3*(Sl.block o Lh [.map (some M)]*(Sl.block u Q2 [.pointer (some ⟨h.t,0,none⟩)]*(Sl.block r Q0 [.func (Fn.func 128) #[] #[.pointer (some ⟨o,0,none⟩),.pointer (some ⟨u,0,none⟩),.pointer (some ⟨r,0,none⟩)]]*(mp A8 M (kn K3)*F))))))))) wr)
   case atStart=>
    refine ⟨0,m1,s2,K,_,rfl,by omega,⟨rfl,B.out.1,B.out.2.1,B.out.2.2,HK.out,by omega,fun e=>?_,fun _=>rfl,fun q hq=> .inl hq,fun _=>rfl,?_,?_,fun e=>by omega⟩,q6⟩
    · rw[←aq.out,e]
      exact VG.zero g n
    · rw[←aq.out]
      cases lf with
      |true=>simp only[if_true];have:=HE.out.2;omega
      |false=>exact ⟨by simp[JH],by simp[JH]⟩
    rw[←aq.out]
    cases lf with
    |true=>exact ⟨by simp,by simp⟩
    |false=>exact ⟨by simp[JH],by simp[JH]⟩
   obtain ⟨j,m3,s3,K3,x,rfl,hj,A,q7⟩:=hrel
   clear q6
   obtain ⟨D,J,⟨z1,z2,z3,z4⟩,⟨Q,R,T,U⟩⟩:=x
   unfold dD Dw at q7
   simp only[List.cons_append,List.nil_append] at q7
   haveI:=q7.i
   by_cases gi:j<lk
   · have ex : (j : Int) < lk := by omega
     have au:lf=false:=by
      cases lf with
      |false=>rfl
      | true =>
        have:=(BS bq.out L.out).1
        have l:=b9.out.2
        rw[this] at l
        simp at l
        omega
     subst au
     obtain ⟨k,hk⟩: ∃k,n.kids[j]?=some k:=⟨_,List.getElem?_eq_getElem (by rw[b9.out.2];exact gi)⟩
     obtain ⟨kb,ko,e9,r1,r2,r3,r4⟩:=Co (a:=aK) (c:=cK) (by have:=b9.out.1;exact this) hk
     subst e9
     have bo:Aside (n.kids[j]?=some k):=hk
     have gj:=Ec ((B9 bq.out L.out).2.1 k (List.mem_of_getElem? hk))
     have fq:Aside (AB k=true):=(B9 bq.out L.out).2.1 k (List.mem_of_getElem? hk)
     have cm:=A.out.mO
     have d7:=HM.out.1
     have cr:=fl.out g HG.out V N h s3 m3 K3 k.Ap false o u r M
     have cf:Aside (∀(F:Ab)(w:World),Sat (Ad h s3*(Gl o u r M h K3*F)) w→Calls Tryz.prog 128 #[.int .i64 k.Ap,.bool false,.int .i64 (dp+1),.pointer (some ⟨o,0,none⟩),.pointer (some ⟨u,0,none⟩),.pointer (some ⟨r,0,none⟩)] w (Li V N h o u r M g m3 s3 K3 k.Ap false F)):=fun F w q=>by
      have l:=cr F w (by have:=HD.out.2;rw[HG.out] at this;omega) (by omega) A.out.kn HV.out A.out.Qq (by rw[d1.out,HG.out] at d7;omega) q
      have e8:dp+1=13-(g:Int):=by have:=HD.out.1;rw[HG.out] at this;omega
      rw[e8]
      exact l
     have cd:Aside (m1+13*fr N K3≤m3+j+13*fr N K∧13*fr N K+13*(f+1)≤m):=⟨cm,d7⟩
     obtain ⟨k1,k2,k3,k4⟩:=k
     simp only at r1 r2 r3 r4 cf
     clear hk gj cm d7 cr
     go_wp2_with fail
     with_reducible refine Calls.mono (cf.out _ _ (QX h s3 o u r M K3)) ?_
     rintro e w4 ⟨s4,K4,q8,ct,en,I⟩
     have bt:Aside (s4.sp=s.sp∧s4.ck.d=s.ck.d):=⟨ct.trans A.out.sp,en.trans A.out.d⟩
     have q9:=q8.eq (JY h s4 o u r M K4 _)
     haveI:=q9.i
     clear ct en q7
     rcases I with ⟨y,m4,rfl,al,es,ev,ey,bi,el⟩|⟨rfl,d3,bi⟩
     rotate_left
     · have ac:Aside (DX V f no top=none):=(by
        rw[HG.out]
        exact O2 O.out L.out ((A.out.run rfl).mS bo.out d3):_=_)
       exact ⟨rfl,s4,K4,CL h s4 o u r M K4 F,bt.out.1,bt.out.2,.inr ⟨rfl,ac.out,bi⟩⟩
     have aw:=al.low ad.out
     have ab:Aside (MU V k1 false y∧(K3= []→y.h<g)∧Kn V K4∧Dp V m4 s4∧m3+13*fr N K4≤m4+13*fr N K3):=⟨al,es,ev,bi,by simpa using el⟩
     have fs:Aside (∀q∈K4,q∈K3∨q.2.h≤y.h):=ey
     obtain ⟨nk,ez⟩:=al.is
     obtain ⟨m5,d9⟩: ∃m5,m4=m5+1:=⟨m4-1,by
      have:=cd.out
      have l:=ab.out.2.2.2.2
      have ii:=HG.out
      have P:=d1.out
      omega⟩
     have co:k1≠0:=by have:=Ec fq.out;simp only at this;omega
     have cq:=fun F w q=>SJ h V m5 s4 k1 F w (by rw[←d9];exact bi) co q
     have e7:Aside (∀F w,Sat (Ad h s4*F) w→Calls Tryz.prog 129 #[.pointer (some ⟨h.t,0,none⟩),.int .i64 k1] w (RN h V m5 s4 k1 F)):=cq
     have fp:Aside (m4=m5+1):=d9
     have br:Aside (V k1=some nk):=ez
     have dx:Aside (mM y):=aw
     have hy1:=aw.c1
     have hy2:=aw.c2
     have hy3:=aw.h1
     have hy0:=aw.h0
     obtain ⟨H,Z,⟨y1,y2,y3,y4⟩,⟨y5,y6,y7,y8⟩⟩:=y
     simp only at hy1 hy2 hy3 hy0
     have il:=Bg (H+1) (by omega)
     have d3:=A.out.oA
     have dW:=A.out.dW
     simp only at d3 dW
     have ij:=Bg (J+Z) (by omega)
     unfold Xi
     simp only
     clear al es ev ey bi el ez d9 cq aw co q8
     go_wp2_with fail
     with_reducible refine Calls.mono (e7.out _ _ (Ae (Ad h s4))) ?_
     rintro e w5 ⟨s5,ek,cu,eo,I⟩
     rcases I with ⟨n5,v5,B5,ay,rfl,eh,df⟩|⟨ay,rfl,df⟩
     rotate_left
     · rw[br.out] at ay
       cases ay
     have gl:n5=nk:=by rw[br.out] at ay;cases ay;rfl
     subst gl
     have X:Aside (Dp V m5 s5∧s5.sp=s.sp∧s5.ck.d=s.ck.d):=⟨ek,cu.trans bt.out.1,eo.trans bt.out.2⟩
     have bh:=ad.out k1 n5 br.out
     have bw:=fun F w q=>Ka n5 v5 B5 F w eh q (by have:=(Eu.of bh).e;omega) (by have:=(Eu.of bh).k;omega)
     obtain ⟨⟨t1,t2,t3⟩,dd⟩:=Aq (AR n5)
     have eb:Aside (AR (Bx V k1)=(t1,t2,t3)):=(by unfold Bx;rw[br.out];exact dd:_=_)
     rw[dd] at bw
     simp only at bw
     have ea:Aside (∀(F:Ab)(w:World),Sat (B5*F) w→Calls Tryz.prog 131 #[v5] w fun e w'=>e= .returned (.tuple #[.int .i64 t1,.int .i64 t2,.int .i64 t3])∧Sat (B5*F) w'):=bw
     haveI:=df.i
     clear ek cu eo ay eh bh bw dd q9
     go_wp2_with fail
     with_reducible refine Calls.mono (ea.out _ _ (Ae B5)) ?_
     rintro e w6 ⟨rfl,fb⟩
     haveI:=fb.i
     clear df ea
     have az:Sat (Sl.block bb Ik [.int .i64 D,.int .i64 J,.int .i64 z1,.int .i64 z2,.int .i64 z3,.int .i64 z4,.int .i64 Q,.int .i64 R,.int .i64 T,.int .i64 U]*(Sl.block w4.heap.size Ik [.int .i64 H,.int .i64 Z,.int .i64 y1,.int .i64 y2,.int .i64 y3,.int .i64 y4,.int .i64 y5,.int .i64 y6,.int .i64 y7,.int .i64 y8]*(Sl.block ba C1 [.bool false,.slice aE le cE,.slice (some ⟨kb,ko,none⟩) lk cK]*(B1*(Sl.block N9 Ik [.int .i64 0,.int .i64 0,.int .i64 0,.int .i64 0,.int .i64 0,.int .i64 0,.int .i64 0,.int .i64 0,.int .i64 0,.int .i64 0]*(Ad h s5*(Sl.block o Lh [.map (some M)]*(Sl.block u Q2 [.pointer (some ⟨h.t,0,none⟩)]*(Sl.block r Q0 [.func (Fn.func 128) #[] #[.pointer (some ⟨o,0,none⟩),.pointer (some ⟨u,0,none⟩),.pointer (some ⟨r,0,none⟩)]]*(mp A8 M (kn K4)*F)))))))))) w6:=A4 (C:=B5*Sl.block wr.heap.size 141 [.int .i64 k1,.int .i64 k2,.int .i64 k3,.int .i64 k4]) (by ac_rfl)
     obtain ⟨ms,db⟩:=Aq (meets ⟨Q,R,T,U⟩ ⟨y1,y2,y3,y4⟩)
     have dz:Aside (meets ⟨Q,R,T,U⟩ ⟨y1,y2,y3,y4⟩=ms):=db
     obtain ⟨bd,em⟩:=Aq (decide (t1≠k2∨t2≠k3∨t3≠k4∨((j==0)=false∧(H+1≠D∨ms=true))))
     have W:Aside (decide (t1≠k2∨t2≠k3∨t3≠k4∨((j==0)=false∧(H+1≠D∨ms=true)))=bd):=em
     have b8:Aside (0<j→ ∀(b b2:Nat)(F:Ab)(w:World),Sat (Sl.block b2 29 [.slice (some ⟨b,0,none⟩) 2 2]*(Sl.block b AG [.int .i64 Q,.int .i64 R,.int .i64 T,.int .i64 U,.int .i64 y1,.int .i64 y2,.int .i64 y3,.int .i64 y4]*F)) w→Calls Tryz.prog 80 #[.slice (some ⟨b2,0,none⟩) 1 1] w fun e w'=> ∃a c G,e= .returned (.slice a (if ms then 1 else 2) c)∧Sat (G*F) w'):=fun ar b b2 F w q=>by
      have P:=(A.out.low ar).1
      have h7:=dx.out.first
      rw[←db]
      exact Qk _ _ b b2 F w P h7 q
     clear db em
     go_upto_region 17 with (fail)
     go_cut [138] (fun fc wx=>fc= .bool bd∧Sat (Sl.block bb Ik [.int .i64 D,.int .i64 J,.int .i64 z1,.int .i64 z2,.int .i64 z3,.int .i64 z4,.int .i64 Q,.int .i64 R,.int .i64 T,.int .i64 U]*(Sl.block w4.heap.size Ik [.int .i64 H,.int .i64 Z,.int .i64 y1,.int .i64 y2,.int .i64 y3,.int .i64 y4,.int .i64 y5,.int .i64 y6,.int .i64 y7,.int .i64 y8]*(Sl.block ba C1 [.bool false,.slice aE le cE,.slice (some ⟨kb,ko,none⟩) lk cK]*(B1*(Sl.block N9 Ik [.int .i64 0,.int .i64 0,.int .i64 0,.int .i64 0,.int .i64 0,.int .i64 0,.int .i64 0,.int .i64 0,.int .i64 0,.int .i64 0]*(Ad h s5*(Sl.block o Lh [.map (some M)]*(Sl.block u Q2 [.pointer (some ⟨h.t,0,none⟩)]*(Sl.block r Q0 [.func (Fn.func 128) #[] #[.pointer (some ⟨o,0,none⟩),.pointer (some ⟨u,0,none⟩),.pointer (some ⟨r,0,none⟩)]]*(mp A8 M (kn K4)*F)))))))))) wx)
     case first =>
      cases e2:(t1 !=k2) with
      | true =>
        have Y:bd=true:=by
         have c2:t1≠k2:=by simpa using e2
         rw[←W.out]
         simp[*]
        subst Y
        go_wp2_with fail
        go_meet
        exact ⟨rfl,az⟩
      | false =>
        cases e3:(t2 !=k3) with
        | true =>
          have Y:bd=true:=by
           have c3:t2≠k3:=by simpa using e3
           rw[←W.out]
           simp[*]
          subst Y
          go_wp2_with fail
          go_meet
          exact ⟨rfl,az⟩
        | false =>
          cases e4:(t3 !=k4) with
          | true =>
            have Y:bd=true:=by
             have c4:t3≠k4:=by simpa using e4
             rw[←W.out]
             simp[*]
            subst Y
            go_wp2_with fail
            go_meet
            exact ⟨rfl,az⟩
          | false =>
            by_cases c5:j=0
            · have ar:(j:Int)=0:=by omega
              have bf:decide ((0:Int)<(j:Int))=false:=decide_eq_false (by omega)
              have Y:bd=false:=by
               clear ar bf
               have c2:t1=k2:=by simpa using e2
               have c3:t2=k3:=by simpa using e3
               have c4:t3=k4:=by simpa using e4
               rw[←W.out]
               simp[*]
              subst Y
              go_wp2_with fail
              go_meet
              exact ⟨rfl,az⟩
            have bv:(0:Int)<j:=by omega
            have ar:0<j:=by omega
            have bf:decide ((0:Int)<(j:Int))=true:=decide_eq_true bv
            cases e6:(H+1 !=D) with
            | true =>
              have Y:bd=true:=by
               clear bv bf
               have c6:H+1≠D:=by simpa using e6
               rw[←W.out]
               simp[*]
              subst Y
              go_wp2_with fail
              go_meet
              exact ⟨rfl,az⟩
            | false =>
              cases ms with
              | true =>
                simp only[if_true] at b8
                have Y:bd=true:=by
                 clear bv bf
                 have c6:H+1=D:=by simpa using e6
                 rw[←W.out]
                 simp[*]
                subst Y
                go_wp2_with (go_at_call 80;with_reducible refine Calls.mono (b8.out ar w6.heap.size (w6.heap.size+1) _ _ (Bh (Sl.block (w6.heap.size+1) 29 [.slice (some ⟨w6.heap.size,0,none⟩) 2 2]) (Sl.block w6.heap.size AG [.int .i64 Q,.int .i64 R,.int .i64 T,.int .i64 U,.int .i64 y1,.int .i64 y2,.int .i64 y3,.int .i64 y4]))) ?_;rintro e w7 ⟨a7,c7,G7,rfl,dg⟩;haveI:=dg.i)
                go_meet
                exact ⟨rfl,A4 (C:=G7*(B5*Sl.block wr.heap.size 141 [.int .i64 k1,.int .i64 k2,.int .i64 k3,.int .i64 k4])) (by ac_rfl)⟩
              | false =>
                simp only[Bool.false_eq_true,if_false] at b8
                have Y:bd=false:=by
                 clear bv bf
                 have c2:t1=k2:=by simpa using e2
                 have c3:t2=k3:=by simpa using e3
                 have c4:t3=k4:=by simpa using e4
                 have c6:H+1=D:=by simpa using e6
                 rw[←W.out]
                 simp[*]
                subst Y
                go_wp2_with (go_at_call 80;with_reducible refine Calls.mono (b8.out ar w6.heap.size (w6.heap.size+1) _ _ (Bh (Sl.block (w6.heap.size+1) 29 [.slice (some ⟨w6.heap.size,0,none⟩) 2 2]) (Sl.block w6.heap.size AG [.int .i64 Q,.int .i64 R,.int .i64 T,.int .i64 U,.int .i64 y1,.int .i64 y2,.int .i64 y3,.int .i64 y4]))) ?_;rintro e w7 ⟨a7,c7,G7,rfl,dg⟩;haveI:=dg.i)
                go_meet
                exact ⟨rfl,A4 (C:=G7*(B5*Sl.block wr.heap.size 141 [.int .i64 k1,.int .i64 k2,.int .i64 k3,.int .i64 k4])) (by ac_rfl)⟩
     obtain ⟨rfl,dh⟩:=hcut
     obtain ⟨ec,cl⟩:=Aq w4.heap.size
     rw[cl] at dh⊢
     clear fb az this cl b8
     haveI:=dh.i
     cases bd with
     | true =>
       have ac:Aside (DX V f no top=none):=(by
        rw[HG.out]
        refine O2 O.out L.out ((A.out.run rfl).iN ad.out bo.out ab.out.1 (VX ?_))
        rw[eb.out]
        simp only
        rw[dz.out]
        exact of_decide_eq_true W.out:_=_)
       go_wp2
       exact ⟨rfl,s5,K4,CL h s5 o u r M K4 F,X.out.2.1,X.out.2.2,.inr ⟨rfl,ac.out,X.out.1.less (Nat.zero_le _)⟩⟩
     | false =>
       have am:=j7 (y:=⟨H,Z,⟨y1,y2,y3,y4⟩,⟨y5,y6,y7,y8⟩⟩) (x:=⟨D,J,⟨z1,z2,z3,z4⟩,⟨Q,R,T,U⟩⟩) (s:=AR (Bx V k1)) (first:=j==0) (k:=⟨k1,k2,k3,k4⟩) (by
        rw[eb.out]
        simp only
        rw[dz.out]
        exact of_decide_eq_false W.out)
       simp only at am
       obtain ⟨⟨f1,f2,f3,f4⟩,d6⟩: ∃e:Ar,(if (j==0)=true then (⟨y1,y2,y3,y4⟩:Ar) else ⟨z1,z2,z3,z4⟩)=e:=⟨_,rfl⟩
       rw[d6] at am
       have a0:Aside (((j==0)=false→H+1=D)∧(1024<J+Z→FL ⟨H,Z,⟨y1,y2,y3,y4⟩,⟨y5,y6,y7,y8⟩⟩ (AR (Bx V k1)) (j==0) ⟨k1,k2,k3,k4⟩ ⟨D,J,⟨z1,z2,z3,z4⟩,⟨Q,R,T,U⟩⟩=none)∧(¬1024<J+Z→FL ⟨H,Z,⟨y1,y2,y3,y4⟩,⟨y5,y6,y7,y8⟩⟩ (AR (Bx V k1)) (j==0) ⟨k1,k2,k3,k4⟩ ⟨D,J,⟨z1,z2,z3,z4⟩,⟨Q,R,T,U⟩⟩=some ⟨H+1,J+Z,⟨f1,f2,f3,f4⟩,⟨y5,y6,y7,y8⟩⟩)):=am
       have dv:Aside ((if (j==0)=true then (⟨y1,y2,y3,y4⟩:Ar) else ⟨z1,z2,z3,z4⟩)=⟨f1,f2,f3,f4⟩):=d6
       clear am d6
       go_upto_if 142 with (fail)
       go_cut [142] (fun hc wx=>Sat (Sl.block bb Ik [.int .i64 (H+1),.int .i64 J,.int .i64 f1,.int .i64 f2,.int .i64 f3,.int .i64 f4,.int .i64 Q,.int .i64 R,.int .i64 T,.int .i64 U]*(Sl.block ec Ik [.int .i64 H,.int .i64 Z,.int .i64 y1,.int .i64 y2,.int .i64 y3,.int .i64 y4,.int .i64 y5,.int .i64 y6,.int .i64 y7,.int .i64 y8]*(Sl.block ba C1 [.bool false,.slice aE le cE,.slice (some ⟨kb,ko,none⟩) lk cK]*(B1*(Sl.block N9 Ik [.int .i64 0,.int .i64 0,.int .i64 0,.int .i64 0,.int .i64 0,.int .i64 0,.int .i64 0,.int .i64 0,.int .i64 0,.int .i64 0]*(Ad h s5*(Sl.block o Lh [.map (some M)]*(Sl.block u Q2 [.pointer (some ⟨h.t,0,none⟩)]*(Sl.block r Q0 [.func (Fn.func 128) #[] #[.pointer (some ⟨o,0,none⟩),.pointer (some ⟨u,0,none⟩),.pointer (some ⟨r,0,none⟩)]]*(mp A8 M (kn K4)*F)))))))))) wx)
       case first=>
        by_cases c5:j=0
        · have e5:((j:Int)==0)=true:=by simp[c5]
          have l:(⟨y1,y2,y3,y4⟩:Ar)=⟨f1,f2,f3,f4⟩:=by rw[←dv.out,if_pos (by simp[c5])]
          cases l
          clear c5
          go_upto_region 20 with (fail)
          go_region
          go_wp2_with fail
          go_meet
          exact Av (by ac_rfl)
        have e5:((j:Int)==0)=false:=by simp[c5]
        have l:(⟨z1,z2,z3,z4⟩:Ar)=⟨f1,f2,f3,f4⟩:=by rw[←dv.out,if_neg (by simp[c5])]
        have P:H+1=D:=a0.out.1 (by simp[c5])
        have H8:Aside (H+1=D):=P
        cases l
        clear c5 P
        go_wp2_with fail
        go_meet
        rw[H8.out]
        exact Av (by ac_rfl)
       have gn:=hcut
       clear dh this
       haveI:=gn.i
       by_cases ak:1024<J+Z
       · have ac:Aside (DX V f no top=none):=(by
          rw[HG.out]
          exact O2 O.out L.out ((A.out.run rfl).iN ad.out bo.out ab.out.1 (a0.out.2.1 ak)):_=_)
         have ge:decide ((1024:Int)<J+Z)=true:=decide_eq_true ak
         go_wp2
         exact ⟨rfl,s5,K4,CL h s5 o u r M K4 F,X.out.2.1,X.out.2.2,.inr ⟨rfl,ac.out,X.out.1.less (Nat.zero_le _)⟩⟩
       have ge:decide ((1024:Int)<J+Z)=false:=decide_eq_false ak
       have fn : Aside (lS V N f g n false m1 s K ⟨xh, xc, ⟨x1, x2, x3, x4⟩, ⟨x5, x6, x7, x8⟩⟩ (lk - (j + 1)) lk (j + 1) m5 s5 K4 ⟨H + 1, J + Z, ⟨f1, f2, f3, f4⟩, ⟨y5, y6, y7, y8⟩⟩) := (by
        have hB:=cd.out.1
        have hC:=ab.out.2.2.2.2
        have hM:=fp.out
        refine ⟨rfl,X.out.1,X.out.2.1,X.out.2.2,ab.out.2.2.1,by omega,fun _=>(A.out.run rfl).next ad.out bo.out ab.out.1 (a0.out.2.2 ak),fun e=>by omega,fun q hq=>?_,fun e=>by omega,?_,?_,fun _=>⟨dx.out.last,fun e=>?_⟩⟩
        · rcases fs.out q hq with l|l
          · rcases A.out.bG q l with P|P
            · exact .inl P
            by_cases c5:j=0
            · rw[A.out.k0 c5] at l
              exact .inl l
            have h7:=a0.out.1 (by simp[c5])
            simp only at P⊢
            exact .inr (by omega)
          simp only at l⊢
          exact .inr (by omega)
        · simp only;omega
        · simp only;omega
        by_cases c5:j=0
        · have l:=ab.out.2.1 (by rw[A.out.k0 c5];exact e)
          have:=HG.out
          simp only at l⊢
          omega
        have h7:=a0.out.1 (by simp[c5])
        have l:=(A.out.low (by omega)).2 e
        simp only at l⊢
        omega:lS _ _ _ _ _ _ _ _ _ _ _ _ _ _ _ _ _)
       go_wp2_with fail
       go_roundg (lk-(j+1))
       case measure=>have:=A.out.jN;omega
       exact ⟨j+1,m5,s5,K4,_,by go_num,by omega,fn,A4 (C:=Sl.block ec Ik [.int .i64 H,.int .i64 Z,.int .i64 y1,.int .i64 y2,.int .i64 y3,.int .i64 y4,.int .i64 y5,.int .i64 y6,.int .i64 y7,.int .i64 y8]) (by unfold dD Dw;ac_rfl)⟩
   have ex: ¬(j:Int)<lk:=by omega
   obtain rfl:j=lk:=by omega
   have HC:Aside (MU V no top ⟨D,J,⟨z1,z2,z3,z4⟩,⟨Q,R,T,U⟩⟩):=(by
    cases lf with
    | true =>
      have l:=(BS bq.out L.out).1
      have P:=b9.out.2
      rw[l] at P
      rw[A.out.zero P.symm]
      exact fv.out rfl (fm.out rfl)
    | false =>
      have l:=A.out.run rfl
      rw[←b9.out.2] at l
      exact l.done O.out L.out H4.out:MU _ _ _ _)
   have cp:0≤no∧no<N:=⟨by
    have l:=(HV.out no n O.out).2
    rcases Int.lt_or_le no 0 with P|P
    · have:V no=none:=A.out.Qq.out (by omega)
      rw[O.out] at this
      cases this
    exact P,(HV.out no n O.out).2⟩
   have bs:Aside (0≤no∧no<N):=cp
   clear cp
   have dw : Aside (K = [] → D < f) := (fun e => by
    by_cases c5:j=0
    · have l:=A.out.zero c5
      have hG:=HG.out
      have h7:=aq.out
      rw[←l] at h7
      cases lf with
      | true =>
        simp only[if_true] at h7
        have h6:=congrArg Sn.h h7
        simp only at h6
        omega
      | false =>
        have h6:=congrArg Sn.h h7
        have:(if false=true then (⟨0,n.Ag.length,n.Ag.headD e0,n.Ag.getLastD e0⟩:Sn) else JH).h=0:=rfl
        rw[this] at h6
        simp only at h6
        omega
    exact (A.out.low (by omega)).2 e:_→_)
   have e1 : Aside (top = false → F9 no K3 = none) := (fun e => by
    cases hq:F9 no K3 with
    |none=>rfl
    | some z =>
      exfalso
      have l:=Lz hq
      rcases A.out.bG _ l with P|P
      · have h7:=HZ.out e
        have: ∀(K:List (Int×Sn)),(no,z)∈K→F9 no K≠none:=fun K hK h6=>by
         have h5:=Lx (i:=no.toNat) h6 (by have:=bs.out.1;omega)
         unfold Qj at h5
         rw[List.any_eq_false] at h5
         have:=h5 _ hK
         simp at this
         have:=bs.out.1
         omega
        exact this K P h7
      have h6:=A.out.kn.get hq
      obtain ⟨q1,q2⟩:=id HC.out
      rw[e] at q2
      have h5:=h6.of ad.out q2
      rw[←h5] at P
      simp only at P
      omega:_→_)
   have dt:Aside (m1+13*fr N K3≤m3+j+13*fr N K∧m=m1+1∧j≤12):=⟨A.out.mO,d1.out,ew⟩
   have HA:Aside (Kn V K3∧Dp V m3 s3∧s3.sp=s.sp∧s3.ck.d=s.ck.d∧ ∀q∈K3,q∈K∨q.2.h+1≤D):=⟨A.out.kn,A.out.Qq,A.out.sp,A.out.d,A.out.bG⟩
   clear A
   cases top with
   | true =>
     go_wp2
     go_returns
     have q8:=Kh (w:=wr) (b:=N9) (e:=Ik) (c0:= .int .i64 0) (c1:= .int .i64 0) (c2:= .int .i64 0) (c3:= .int .i64 0) (c4:= .int .i64 0) (c5:= .int .i64 0) (c6:= .int .i64 0) (c7:= .int .i64 0) (c8:= .int .i64 0) (c9:= .int .i64 0) (v0:= .int .i64 D) (v1:= .int .i64 J) (v2:= .int .i64 z1) (v3:= .int .i64 z2) (v4:= .int .i64 z3) (v5:= .int .i64 z4) (v6:= .int .i64 Q) (v7:= .int .i64 R) (v8:= .int .i64 T) (v9:= .int .i64 U)
     haveI:=q8.i
     refine ⟨s3,K3,CL h s3 o u r M K3 F,HA.out.2.2.1,HA.out.2.2.2.1,.inl ⟨⟨D,J,⟨z1,z2,z3,z4⟩,⟨Q,R,T,U⟩⟩,m3,rfl,HC.out,dw.out,HA.out.1,fun q hq=>(HA.out.2.2.2.2 q hq).imp id fun l=>?_,HA.out.2.1,?_⟩⟩
     · simp only;omega
     have:=dt.out;simp only[if_true];omega
   | false =>
     go_wp2
     go_returns
     have q8:=Kh (w:=Gt Tryz.prog Lh M (A8 no) (.agg #[.int .i64 D,.int .i64 J,.int .i64 z1,.int .i64 z2,.int .i64 z3,.int .i64 z4,.int .i64 Q,.int .i64 R,.int .i64 T,.int .i64 U]) wr) (b:=N9) (e:=Ik) (c0:= .int .i64 0) (c1:= .int .i64 0) (c2:= .int .i64 0) (c3:= .int .i64 0) (c4:= .int .i64 0) (c5:= .int .i64 0) (c6:= .int .i64 0) (c7:= .int .i64 0) (c8:= .int .i64 0) (c9:= .int .i64 0) (v0:= .int .i64 D) (v1:= .int .i64 J) (v2:= .int .i64 z1) (v3:= .int .i64 z2) (v4:= .int .i64 z3) (v5:= .int .i64 z4) (v6:= .int .i64 Q) (v7:= .int .i64 R) (v8:= .int .i64 T) (v9:= .int .i64 U)
     haveI:=q8.i
     have ig:=p' (y:=⟨D,J,⟨z1,z2,z3,z4⟩,⟨Q,R,T,U⟩⟩) (e1.out (by simp)) bs.out.1 bs.out.2
     refine ⟨s3,M5 no ⟨D,J,⟨z1,z2,z3,z4⟩,⟨Q,R,T,U⟩⟩ K3,?_,HA.out.2.2.1,HA.out.2.2.2.1,.inl ⟨⟨D,J,⟨z1,z2,z3,z4⟩,⟨Q,R,T,U⟩⟩,m3,rfl,HC.out,dw.out,HA.out.1.put HC.out,fun q hq=>?_,HA.out.2.1,?_⟩⟩
     · exact (E3 (Ad h s3) (Sl.block o Lh [.map (some M)]) (Sl.block u Q2 [.pointer (some ⟨h.t,0,none⟩)]) (Sl.block r Q0 [.func (Fn.func 128) #[] #[.pointer (some ⟨o,0,none⟩),.pointer (some ⟨u,0,none⟩),.pointer (some ⟨r,0,none⟩)]]) (mp A8 M (CW no (.agg #[.int .i64 D,.int .i64 J,.int .i64 z1,.int .i64 z2,.int .i64 z3,.int .i64 z4,.int .i64 Q,.int .i64 R,.int .i64 T,.int .i64 U]) (kn K3))) F).eq (by rw[JY,←Sv];rfl)
     · rcases L0 hq with e|e
       · rw[e];simp only;exact .inr (Int.le_refl _)
       exact (HA.out.2.2.2.2 q e).imp id fun l=>by simp only;omega
     have:=dt.out;simp only[Bool.false_eq_true,if_false];omega
