/- treeShape holds for every input. No condition. (part 50) -/
import Derived.Test.YtfhbmblbidcmmaaGreatSk49
set_option linter.all false
set_option maxRecDepth 100000
set_option maxHeartbeats 12800000
namespace Go.Proofs.YtfhbmblbidcmmaaGreat
open Go.RowKit Go.Sl Go.Dk Go.Tr
open Go.QK (A8)
attribute [local go_sem] R6
variable [EZ]
theorem Og(f : Nat)(ih : ∀ g, f = g + 1 → Nr g) : bQ f false := by
 intro V N h s m K no top o u r M F w eg hf dc hK hV hR hm hs
 have fo:Aside (∀n,V no=some n→n.leaf=false):=eg
 clear eg
 by_cases an:top=false∧ ∃y,Fy no K=some y
 · obtain ⟨rfl,y,hy⟩:=an
   exact SU f V N h s m K no o u r M F w hK hR y hy hs
 have HK:Aside (JU V K):=hK
 have HV:Aside (∀p n,V p=some n→may n=true∧p<N):=hV
 have ad:Aside (∀p n,V p=some n→may n=true):=fun p n h=>(hV p n h).1
 have HM:Aside (13*fr N K+13*(f+1)≤m∧no≠0):=⟨hm,dc⟩
 have fl:Aside (∀g,f=g+1→Nr g):=ih
 have HH:Aside (¬(top=false∧ ∃y,Fy no K=some y)):=an
 obtain ⟨m1,d8⟩: ∃m1,m=m1+1:=⟨m-1,by omega⟩
 have d1:Aside (m=m1+1):=d8
 have f0:=RF h V m1 s no
 have ft:Aside (∀F w,Sat (Ae h s*F) w→Calls Tryz.prog 129 #[.pointer (some ⟨h.t,0,none⟩),.int .i64 no] w (QO h V m1 s no F)):=fun F w q=>f0 F w (by rw[←d8];exact hR) dc q
 obtain ⟨dp,be⟩:=Aq ((13:Int)-(f:Int))
 have HD:Aside (dp=13-(f:Int)∧f≤13):=⟨be.symm,hf⟩
 have gf:0≤dp∧dp≤13:=by omega
 rw[be]
 obtain ⟨ic,ie⟩:=gf
 have ik:=Bc (dp+1) (by omega)
 unfold Ga at hs
 have f5:Sat (Ae h s*(Sl.block o KE [.map (some M)]*(Sl.block u P8 [.pointer (some ⟨h.t,0,none⟩)]*(Sl.block r P7 [.func (Fn.func 128) #[] #[.pointer (some ⟨o,0,none⟩),.pointer (some ⟨u,0,none⟩),.pointer (some ⟨r,0,none⟩)]]*(mp A8 M (kn K)*F))))) w:=hs.eq (by ac_rfl)
 obtain ⟨z,ok,f7,f8,de⟩: ∃(z:Sn)(ok:Bool),(CK no (kn K)).getD Wb=VI z∧(CK no (kn K)).isSome=ok∧(ok=true→top=true)∧(top=false→Fy no K=none):=by
  rw[Ng]
  cases gh:Fy no K with
  |none=>exact ⟨J0,false,rfl,rfl,fun e=>Bool.noConfusion e,fun _=>rfl⟩
  | some y =>
    have ht:top=true:=by
     cases top with
     |true=>rfl
     |false=>exact absurd ⟨rfl,y,gh⟩ an
    exact ⟨y,true,rfl,rfl,fun _=>ht,fun e=>by rw[ht] at e;cases e⟩
 have HZ:Aside (top=false→Fy no K=none):=de.2
 have f9:=de.1
 obtain ⟨H,Z,⟨a1,a2,a3,a4⟩,⟨b1,b2,b3,b4⟩⟩:=z
 haveI:=f5.i
 have av:(Instr.lookup KE (.map (some M)) (.int .i64 no) true).run Tryz.prog (w.alloc (.cells #[.int .i64 0,.int .i64 0,.int .i64 0,.int .i64 0,.int .i64 0,.int .i64 0,.int .i64 0,.int .i64 0,.int .i64 0,.int .i64 0] Hx))= .ok (.tuple #[.agg #[.int .i64 H,.int .i64 Z,.int .i64 a1,.int .i64 a2,.int .i64 a3,.int .i64 a4,.int .i64 b1,.int .i64 b2,.int .i64 b3,.int .i64 b4],.bool ok]) (w.alloc (.cells #[.int .i64 0,.int .i64 0,.int .i64 0,.int .i64 0,.int .i64 0,.int .i64 0,.int .i64 0,.int .i64 0,.int .i64 0,.int .i64 0] Hx)):=by
  rw[Ri,f7,f8]
  rfl
 clear f7 f8 de hK hV hR hm hs an ih f0 dc hf d8 be HH
 go_enter Tryz.func128,Tryz.ntmps128
 go_upto_region 2 with (fail)
 go_cut [30] (fun gq wx=>gq= .bool false∧Sat (Sl.block w.heap.size Hx [.int .i64 0,.int .i64 0,.int .i64 0,.int .i64 0,.int .i64 0,.int .i64 0,.int .i64 0,.int .i64 0,.int .i64 0,.int .i64 0]*(Ae h s*(Sl.block o KE [.map (some M)]*(Sl.block u P8 [.pointer (some ⟨h.t,0,none⟩)]*(Sl.block r P7 [.func (Fn.func 128) #[] #[.pointer (some ⟨o,0,none⟩),.pointer (some ⟨u,0,none⟩),.pointer (some ⟨r,0,none⟩)]]*(mp A8 M (kn K)*F)))))) wx)
 case first=>
  cases ok with
  | false =>
    go_wp2_with fail
    go_meet
    exact ⟨rfl,A6 (C:=Sl.block (w.heap.size+1) Hx [.int .i64 H,.int .i64 Z,.int .i64 a1,.int .i64 a2,.int .i64 a3,.int .i64 a4,.int .i64 b1,.int .i64 b2,.int .i64 b3,.int .i64 b4]) (by ac_rfl)⟩
  | true =>
    obtain rfl:=f9 rfl
    go_wp2_with fail
    go_meet
    exact ⟨rfl,A6 (C:=Sl.block (w.heap.size+1) Hx [.int .i64 H,.int .i64 Z,.int .i64 a1,.int .i64 a2,.int .i64 a3,.int .i64 a4,.int .i64 b1,.int .i64 b2,.int .i64 b3,.int .i64 b4]) (by ac_rfl)⟩
 obtain ⟨rfl,q2⟩:=hcut
 obtain ⟨N9,ei⟩:=Aq w.heap.size
 rw[ei] at q2⊢
 clear f5 this av ei f9
 haveI:=q2.i
 go_wp2_with fail
 with_reducible refine Calls.mono (ft.out _ _ (Af (Ae h s))) ?_
 rintro e w1 ⟨s2,ej,cs,cn,I⟩
 have B:Aside (GC V m1 s2∧s2.sp=s.sp∧s2.ck.d=s.ck.d):=⟨ej,cs,cn⟩
 clear ej cs cn q2
 rcases I with ⟨n,v1,B1,bj,rfl,hN,q3⟩|⟨bj,rfl,q3⟩
 rotate_left
 · haveI:=q3.i
   exact ⟨rfl,s2,K,CI h s2 o u r M K F,B.out.2.1,B.out.2.2,.inr ⟨rfl,Sq bj,B.out.1.less (Nat.zero_le _)⟩⟩
 have ax:=ad.out no n bj
 have O:Aside (V no=some n):=bj
 have bq:Aside (may n=true):=ax
 have af:=fun F w q=>Ol n v1 B1 F w hN q (by have:=(Eb.of ax).e;omega) (by have:=(Eb.of ax).k;omega)
 obtain ⟨vE,vK,rfl,hE,d2⟩:=hN
 obtain ⟨aE,cE,rfl,ga,ia⟩:=hE.v
 obtain ⟨aK,cK,rfl,gb,ib⟩:=Al.v d2
 obtain ⟨le,bg⟩:=Aq n.Ag.length
 obtain ⟨lk,av⟩:=Aq n.kids.length
 obtain ⟨lf,au⟩:=Aq n.leaf
 have HE:Aside (An B1 (.slice aE le cE) n.Ag∧n.Ag.length=le):=⟨by rw[←bg];exact hE,bg⟩
 have b9:Aside (AR B1 (.slice aK n.kids.length cK) n.kids∧n.kids.length=lk):=⟨d2,av⟩
 have L:Aside (n.leaf=lf):=au
 have gy:le≤12:=by have:=(Eb.of ax).e;omega
 have ew:lk≤12:=by have:=(Eb.of ax).k;omega
 rw[bg,av,au] at af
 rw[bg] at ga⊢
 rw[av] at gb⊢
 rw[au]
 have bp:Aside (∀(F:Ac)(w:World),Sat (B1*F) w→Calls Tryz.prog 130 #[.agg #[.bool lf,.slice aE le cE,.slice aK lk cK]] w fun e w'=>e= .returned (.int .i64 (many n))∧Sat (B1*F) w'):=af
 obtain ⟨mn,da⟩: ∃z:Nat,many n=z:=⟨_,rfl⟩
 rw[da] at bp
 have dy:Aside (many n=mn):=da
 haveI:=q3.i
 clear bj ax af hE d2 bg av au da
 by_cases d4:f=0
 · have be:dp=13:=by have:=HD.out.1;omega
   have fk:Aside (Ee V f no top=none):=(by rw[d4];rfl:_=_)
   have g8:decide ((12:Int)<dp)=true:=decide_eq_true (by omega)
   have ed:(12:Int)<dp:=by omega
   clear be d4
   go_wp2
   exact ⟨rfl,s2,K,CI h s2 o u r M K F,B.out.2.1,B.out.2.2,.inr ⟨rfl,fk.out,B.out.1.less (Nat.zero_le _)⟩⟩
 obtain ⟨g,hg⟩: ∃g,f=g+1:=⟨f-1,by omega⟩
 have HG:Aside (f=g+1):=hg
 have g8:decide ((12:Int)<dp)=false:=decide_eq_false (by have:=HD.out.1;omega)
 have ed: ¬(12:Int)<dp:=by have:=HD.out.1;omega
 obtain ⟨fw,er⟩:=Aq (decide (top=false∧mn<4))
 have ap:Aside (decide (top=false∧mn<4)=fw):=er
 clear er hg d4
 go_upto_region 5 with (fail)
 go_cut [45] (fun gr wx=>gr= .bool fw∧Sat (Sl.block w1.heap.size C0 [.bool lf,.slice aE le cE,.slice aK lk cK]*(B1*(Sl.block N9 Hx [.int .i64 0,.int .i64 0,.int .i64 0,.int .i64 0,.int .i64 0,.int .i64 0,.int .i64 0,.int .i64 0,.int .i64 0,.int .i64 0]*(Ae h s2*(Sl.block o KE [.map (some M)]*(Sl.block u P8 [.pointer (some ⟨h.t,0,none⟩)]*(Sl.block r P7 [.func (Fn.func 128) #[] #[.pointer (some ⟨o,0,none⟩),.pointer (some ⟨u,0,none⟩),.pointer (some ⟨r,0,none⟩)]]*(mp A8 M (kn K)*F)))))))) wx)
 case first =>
  cases top with
  | true =>
    have Y:fw=false:=by rw[←ap.out];simp
    subst Y
    go_wp2_with fail
    go_meet
    exact ⟨rfl,Av (by ac_rfl)⟩
  | false =>
    by_cases h4:mn<4
    · have Y:fw=true:=by rw[←ap.out];simp[h4]
      subst Y
      have d5:(mn:Int)<4:=by omega
      have ep:decide ((mn:Int)<4)=true:=decide_eq_true d5
      go_wp2_with (go_at_call 130;with_reducible refine Calls.mono (bp.out _ _ (Af B1)) ?_;rintro e w4 ⟨rfl,q4⟩;haveI:=q4.i)
      go_meet
      exact ⟨rfl,Av (by ac_rfl)⟩
    have Y:fw=false:=by rw[←ap.out];simp[h4]
    subst Y
    have d5: ¬(mn:Int)<4:=by omega
    have ep:decide ((mn:Int)<4)=false:=decide_eq_false d5
    go_wp2_with (go_at_call 130;with_reducible refine Calls.mono (bp.out _ _ (Af B1)) ?_;rintro e w4 ⟨rfl,q4⟩;haveI:=q4.i)
    go_meet
    exact ⟨rfl,Av (by ac_rfl)⟩
 obtain ⟨rfl,q5⟩:=hcut
 obtain ⟨ba,ci⟩:=Aq w1.heap.size
 rw[ci] at q5⊢
 clear q3 this ci
 haveI:=q5.i
 cases fw with
 | true =>
   have ac:Aside (Ee V f no top=none):=(by
    have l:=of_decide_eq_true ap.out
    rw[HG.out]
    exact Wl O.out ⟨l.1,by rw[dy.out];exact l.2⟩:_=_)
   go_wp2
   exact ⟨rfl,s2,K,CI h s2 o u r M K F,B.out.2.1,B.out.2.2,.inr ⟨rfl,ac.out,B.out.1.less (Nat.zero_le _)⟩⟩
 | false =>
   have H4:Aside (¬(top=false∧many n<4)):=(by
    have l:=of_decide_eq_false ap.out
    rw[dy.out]
    exact l: ¬_)
   clear bp ap
   obtain ⟨x0,f6⟩:=Aq (if lf then (⟨0,n.Ag.length,n.Ag.headD e0,n.Ag.getLastD e0⟩:Sn) else J0)
   have aq:Aside ((if lf then (⟨0,n.Ag.length,n.Ag.headD e0,n.Ag.getLastD e0⟩:Sn) else J0)=x0):=f6
   clear f6
   have fv:Aside (lf=true→AF n.Ag→Ms V no top x0):=(fun h1 h2=>by
    refine ⟨g+1,?_⟩
    rw[NF O.out (L.out.trans h1) H4.out,if_neg (by rw[Fw.2 h2];simp),←aq.out,if_pos h1]:_→_→_)
   obtain ⟨bb,cj⟩:=Aq wc.heap.size
   have ce:Aside (wc.heap.size=bb):=cj
   clear cj
   go_upto_if 49 with (fail)
   go_cut [49] (fun iq wx=>(lf=true→AF n.Ag)∧Sat (Sl.block wc.heap.size Hx (J' x0)*(Sl.block ba C0 [.bool lf,.slice aE le cE,.slice aK lk cK]*(B1*(Sl.block N9 Hx [.int .i64 0,.int .i64 0,.int .i64 0,.int .i64 0,.int .i64 0,.int .i64 0,.int .i64 0,.int .i64 0,.int .i64 0,.int .i64 0]*(Ae h s2*(Sl.block o KE [.map (some M)]*(Sl.block u P8 [.pointer (some ⟨h.t,0,none⟩)]*(Sl.block r P7 [.func (Fn.func 128) #[] #[.pointer (some ⟨o,0,none⟩),.pointer (some ⟨u,0,none⟩),.pointer (some ⟨r,0,none⟩)]]*(mp A8 M (kn K)*F))))))))) wx)
   case first=>
    cases lf with
    | false =>
      have hx:x0=J0:=by rw[←aq.out];rfl
      subst hx
      go_wp2_with fail
      go_meet
      exact ⟨fun e=>Bool.noConfusion e,Av (by unfold J';ac_rfl)⟩
    | true =>
      have l:=fo.out n O.out
      rw[L.out] at l
      cases l
   obtain ⟨et,q6⟩:=hcut
   have fm:Aside (lf=true→AF n.Ag):=et
   rw[ce.out] at q6⊢
   clear q5 this et ce
   obtain ⟨xh,xc,⟨x1,x2,x3,x4⟩,⟨x5,x6,x7,x8⟩⟩:=x0
   unfold J' Cx at q6
   simp only[List.cons_append,List.nil_append] at q6
   haveI:=q6.i
   go_wp2_with fail
   go_loopg [80] lk (fun gg gs wr=> ∃(j m3:Nat)(s3:TS)(K3:List (Int×Sn))(x:Sn),gs= .int .i64 j∧j≤lk∧Aside (fG V N f g n lf m1 s K ⟨xh,xc,⟨x1,x2,x3,x4⟩,⟨x5,x6,x7,x8⟩⟩ gg lk j m3 s3 K3 x)∧
    Sat (Sl.block bb Hx (J' x)*(Sl.block ba C0 [.bool lf,.slice aE le cE,.slice aK lk cK]*(B1*(Sl.block N9 Hx [.int .i64 0,.int .i64 0,.int .i64 0,.int .i64 0,.int .i64 0,.int .i64 0,.int .i64 0,.int .i64 0,.int .i64 0,.int .i64 0]*(Ae h s3*(Sl.block o KE [.map (some M)]*(Sl.block u P8 [.pointer (some ⟨h.t,0,none⟩)]*(Sl.block r P7 [.func (Fn.func 128) #[] #[.pointer (some ⟨o,0,none⟩),.pointer (some ⟨u,0,none⟩),.pointer (some ⟨r,0,none⟩)]]*(mp A8 M (kn K3)*F))))))))) wr)
   case atStart=>
    refine ⟨0,m1,s2,K,_,rfl,by omega,⟨rfl,B.out.1,B.out.2.1,B.out.2.2,HK.out,by omega,fun e=>?_,fun _=>rfl,fun q hq=> .inl hq,fun _=>rfl,?_,?_,fun e=>by omega⟩,q6⟩
    · rw[←aq.out,e]
      exact U9.zero g n
    · rw[←aq.out]
      cases lf with
      |true=>simp only[if_true];have:=HE.out.2;omega
      |false=>exact ⟨by simp[J0],by simp[J0]⟩
    rw[←aq.out]
    cases lf with
    |true=>exact ⟨by simp,by simp⟩
    |false=>exact ⟨by simp[J0],by simp[J0]⟩
   obtain ⟨j,m3,s3,K3,x,rfl,hj,A,q7⟩:=hrel
   clear q6
   obtain ⟨D,J,⟨z1,z2,z3,z4⟩,⟨Q,R,T,U⟩⟩:=x
   unfold J' Cx at q7
   simp only[List.cons_append,List.nil_append] at q7
   haveI:=q7.i
   by_cases gi:j<lk
   · have ex : (j : Int) < lk := by omega
     have au:lf=false:=by
      cases lf with
      |false=>rfl
      | true =>
        have:=(Cm bq.out L.out).1
        have l:=b9.out.2
        rw[this] at l
        simp at l
        omega
     subst au
     obtain ⟨k,hk⟩: ∃k,n.kids[j]?=some k:=⟨_,List.getElem?_eq_getElem (by rw[b9.out.2];exact gi)⟩
     obtain ⟨kb,ko,e9,r1,r2,r3,r4⟩:=Co (a:=aK) (c:=cK) (by have:=b9.out.1;exact this) hk
     subst e9
     have bo:Aside (n.kids[j]?=some k):=hk
     have gj:=Dy ((BB bq.out L.out).2.1 k (List.mem_of_getElem? hk))
     have fq:Aside (AA k=true):=(BB bq.out L.out).2.1 k (List.mem_of_getElem? hk)
     have cm:=A.out.fW
     have d7:=HM.out.1
     have cr:=fl.out g HG.out V N h s3 m3 K3 k.As false o u r M
     have cf:Aside (∀(F:Ac)(w:World),Sat (Ae h s3*(Ga o u r M h K3*F)) w→Calls Tryz.prog 128 #[.int .i64 k.As,.bool false,.int .i64 (dp+1),.pointer (some ⟨o,0,none⟩),.pointer (some ⟨u,0,none⟩),.pointer (some ⟨r,0,none⟩)] w (KG V N h o u r M g m3 s3 K3 k.As false F)):=fun F w q=>by
      have l:=cr F w (by have:=HD.out.2;rw[HG.out] at this;omega) (by omega) A.out.kn HV.out A.out.i7 (by rw[d1.out,HG.out] at d7;omega) q
      have e8:dp+1=13-(g:Int):=by have:=HD.out.1;rw[HG.out] at this;omega
      rw[e8]
      exact l
     have cd:Aside (m1+13*fr N K3≤m3+j+13*fr N K∧13*fr N K+13*(f+1)≤m):=⟨cm,d7⟩
     obtain ⟨k1,k2,k3,k4⟩:=k
     simp only at r1 r2 r3 r4 cf
     clear hk gj cm d7 cr
     go_wp2_with fail
     with_reducible refine Calls.mono (cf.out _ _ (Qe h s3 o u r M K3)) ?_
     rintro e w4 ⟨s4,K4,q8,ct,en,I⟩
     have bt:Aside (s4.sp=s.sp∧s4.ck.d=s.ck.d):=⟨ct.trans A.out.sp,en.trans A.out.d⟩
     have q9:=q8.eq (JH h s4 o u r M K4 _)
     haveI:=q9.i
     clear ct en q7
     rcases I with ⟨y,m4,rfl,al,es,ev,ey,bi,el⟩|⟨rfl,d3,bi⟩
     rotate_left
     · have ac:Aside (Ee V f no top=none):=(by
        rw[HG.out]
        exact NG O.out L.out ((A.out.run rfl).fX bo.out d3):_=_)
       exact ⟨rfl,s4,K4,CI h s4 o u r M K4 F,bt.out.1,bt.out.2,.inr ⟨rfl,ac.out,bi⟩⟩
     have aw:=al.low ad.out
     have ab:Aside (Ms V k1 false y∧(K3= []→y.h<g)∧JU V K4∧GC V m4 s4∧m3+13*fr N K4≤m4+13*fr N K3):=⟨al,es,ev,bi,by simpa using el⟩
     have fs:Aside (∀q∈K4,q∈K3∨q.2.h≤y.h):=ey
     obtain ⟨nk,ez⟩:=al.is
     obtain ⟨m5,d9⟩: ∃m5,m4=m5+1:=⟨m4-1,by
      have:=cd.out
      have l:=ab.out.2.2.2.2
      have ii:=HG.out
      have P:=d1.out
      omega⟩
     have co:k1≠0:=by have:=Dy fq.out;simp only at this;omega
     have cq:=fun F w q=>RF h V m5 s4 k1 F w (by rw[←d9];exact bi) co q
     have e7:Aside (∀F w,Sat (Ae h s4*F) w→Calls Tryz.prog 129 #[.pointer (some ⟨h.t,0,none⟩),.int .i64 k1] w (QO h V m5 s4 k1 F)):=cq
     have fp:Aside (m4=m5+1):=d9
     have br:Aside (V k1=some nk):=ez
     have dx:Aside (fS y):=aw
     have hy1:=aw.c1
     have hy2:=aw.c2
     have hy3:=aw.h1
     have hy0:=aw.h0
     obtain ⟨H,Z,⟨y1,y2,y3,y4⟩,⟨y5,y6,y7,y8⟩⟩:=y
     simp only at hy1 hy2 hy3 hy0
     have il:=Bc (H+1) (by omega)
     have d3:=A.out.gR
     have Zh:=A.out.Zh
     simp only at d3 Zh
     have ij:=Bc (J+Z) (by omega)
     unfold VI
     simp only
     clear al es ev ey bi el ez d9 cq aw co q8
     go_wp2_with fail
     with_reducible refine Calls.mono (e7.out _ _ (Af (Ae h s4))) ?_
     rintro e w5 ⟨s5,ek,cu,eo,I⟩
     rcases I with ⟨n5,v5,B5,ay,rfl,eh,df⟩|⟨ay,rfl,df⟩
     rotate_left
     · rw[br.out] at ay
       cases ay
     have gl:n5=nk:=by rw[br.out] at ay;cases ay;rfl
     subst gl
     have X:Aside (GC V m5 s5∧s5.sp=s.sp∧s5.ck.d=s.ck.d):=⟨ek,cu.trans bt.out.1,eo.trans bt.out.2⟩
     have bh:=ad.out k1 n5 br.out
     have bw:=fun F w q=>JJ n5 v5 B5 F w eh q (by have:=(Eb.of bh).e;omega) (by have:=(Eb.of bh).k;omega)
     obtain ⟨⟨t1,t2,t3⟩,dd⟩:=Aq (AS n5)
     have eb:Aside (AS (Bz V k1)=(t1,t2,t3)):=(by unfold Bz;rw[br.out];exact dd:_=_)
     rw[dd] at bw
     simp only at bw
     have ea:Aside (∀(F:Ac)(w:World),Sat (B5*F) w→Calls Tryz.prog 131 #[v5] w fun e w'=>e= .returned (.tuple #[.int .i64 t1,.int .i64 t2,.int .i64 t3])∧Sat (B5*F) w'):=bw
     haveI:=df.i
     clear ek cu eo ay eh bh bw dd q9
     go_wp2_with fail
     with_reducible refine Calls.mono (ea.out _ _ (Af B5)) ?_
     rintro e w6 ⟨rfl,fb⟩
     haveI:=fb.i
     clear df ea
     have az:Sat (Sl.block bb Hx [.int .i64 D,.int .i64 J,.int .i64 z1,.int .i64 z2,.int .i64 z3,.int .i64 z4,.int .i64 Q,.int .i64 R,.int .i64 T,.int .i64 U]*(Sl.block w4.heap.size Hx [.int .i64 H,.int .i64 Z,.int .i64 y1,.int .i64 y2,.int .i64 y3,.int .i64 y4,.int .i64 y5,.int .i64 y6,.int .i64 y7,.int .i64 y8]*(Sl.block ba C0 [.bool false,.slice aE le cE,.slice (some ⟨kb,ko,none⟩) lk cK]*(B1*(Sl.block N9 Hx [.int .i64 0,.int .i64 0,.int .i64 0,.int .i64 0,.int .i64 0,.int .i64 0,.int .i64 0,.int .i64 0,.int .i64 0,.int .i64 0]*(Ae h s5*(Sl.block o KE [.map (some M)]*(Sl.block u P8 [.pointer (some ⟨h.t,0,none⟩)]*(Sl.block r P7 [.func (Fn.func 128) #[] #[.pointer (some ⟨o,0,none⟩),.pointer (some ⟨u,0,none⟩),.pointer (some ⟨r,0,none⟩)]]*(mp A8 M (kn K4)*F)))))))))) w6:=A6 (C:=B5*Sl.block wr.heap.size 141 [.int .i64 k1,.int .i64 k2,.int .i64 k3,.int .i64 k4]) (by ac_rfl)
     obtain ⟨ms,db⟩:=Aq (meets ⟨Q,R,T,U⟩ ⟨y1,y2,y3,y4⟩)
     have dz:Aside (meets ⟨Q,R,T,U⟩ ⟨y1,y2,y3,y4⟩=ms):=db
     obtain ⟨bd,em⟩:=Aq (decide (t1≠k2∨t2≠k3∨t3≠k4∨((j==0)=false∧(H+1≠D∨ms=true))))
     have W:Aside (decide (t1≠k2∨t2≠k3∨t3≠k4∨((j==0)=false∧(H+1≠D∨ms=true)))=bd):=em
     have b8:Aside (0<j→ ∀(b b2:Nat)(F:Ac)(w:World),Sat (Sl.block b2 29 [.slice (some ⟨b,0,none⟩) 2 2]*(Sl.block b AM [.int .i64 Q,.int .i64 R,.int .i64 T,.int .i64 U,.int .i64 y1,.int .i64 y2,.int .i64 y3,.int .i64 y4]*F)) w→Calls Tryz.prog 80 #[.slice (some ⟨b2,0,none⟩) 1 1] w fun e w'=> ∃a c G,e= .returned (.slice a (if ms then 1 else 2) c)∧Sat (G*F) w'):=fun ar b b2 F w q=>by
      have P:=(A.out.low ar).1
      have h7:=dx.out.first
      rw[←db]
      exact Pu _ _ b b2 F w P h7 q
     clear db em
     go_upto_region 17 with (fail)
     go_cut [138] (fun fc wx=>fc= .bool bd∧Sat (Sl.block bb Hx [.int .i64 D,.int .i64 J,.int .i64 z1,.int .i64 z2,.int .i64 z3,.int .i64 z4,.int .i64 Q,.int .i64 R,.int .i64 T,.int .i64 U]*(Sl.block w4.heap.size Hx [.int .i64 H,.int .i64 Z,.int .i64 y1,.int .i64 y2,.int .i64 y3,.int .i64 y4,.int .i64 y5,.int .i64 y6,.int .i64 y7,.int .i64 y8]*(Sl.block ba C0 [.bool false,.slice aE le cE,.slice (some ⟨kb,ko,none⟩) lk cK]*(B1*(Sl.block N9 Hx [.int .i64 0,.int .i64 0,.int .i64 0,.int .i64 0,.int .i64 0,.int .i64 0,.int .i64 0,.int .i64 0,.int .i64 0,.int .i64 0]*(Ae h s5*(Sl.block o KE [.map (some M)]*(Sl.block u P8 [.pointer (some ⟨h.t,0,none⟩)]*(Sl.block r P7 [.func (Fn.func 128) #[] #[.pointer (some ⟨o,0,none⟩),.pointer (some ⟨u,0,none⟩),.pointer (some ⟨r,0,none⟩)]]*(mp A8 M (kn K4)*F)))))))))) wx)
     case first =>
      cases e2:(t1 !=k2) with
      | true =>
        have Y:bd=true:=by
         have c2:t1≠k2:=by simpa using e2
         rw[←W.out]
         simp[*]
        subst Y
        go_wp2_with fail
        go_meet
        exact ⟨rfl,az⟩
      | false =>
        cases e3:(t2 !=k3) with
        | true =>
          have Y:bd=true:=by
           have c3:t2≠k3:=by simpa using e3
           rw[←W.out]
           simp[*]
          subst Y
          go_wp2_with fail
          go_meet
          exact ⟨rfl,az⟩
        | false =>
          cases e4:(t3 !=k4) with
          | true =>
            have Y:bd=true:=by
             have c4:t3≠k4:=by simpa using e4
             rw[←W.out]
             simp[*]
            subst Y
            go_wp2_with fail
            go_meet
            exact ⟨rfl,az⟩
          | false =>
            by_cases c5:j=0
            · have ar:(j:Int)=0:=by omega
              have bf:decide ((0:Int)<(j:Int))=false:=decide_eq_false (by omega)
              have Y:bd=false:=by
               clear ar bf
               have c2:t1=k2:=by simpa using e2
               have c3:t2=k3:=by simpa using e3
               have c4:t3=k4:=by simpa using e4
               rw[←W.out]
               simp[*]
              subst Y
              go_wp2_with fail
              go_meet
              exact ⟨rfl,az⟩
            have bv:(0:Int)<j:=by omega
            have ar:0<j:=by omega
            have bf:decide ((0:Int)<(j:Int))=true:=decide_eq_true bv
            cases e6:(H+1 !=D) with
            | true =>
              have Y:bd=true:=by
               clear bv bf
               have c6:H+1≠D:=by simpa using e6
               rw[←W.out]
               simp[*]
              subst Y
              go_wp2_with fail
              go_meet
              exact ⟨rfl,az⟩
            | false =>
              cases ms with
              | true =>
                simp only[if_true] at b8
                have Y:bd=true:=by
                 clear bv bf
                 have c6:H+1=D:=by simpa using e6
                 rw[←W.out]
                 simp[*]
                subst Y
                go_wp2_with (go_at_call 80;with_reducible refine Calls.mono (b8.out ar w6.heap.size (w6.heap.size+1) _ _ (AP (Sl.block (w6.heap.size+1) 29 [.slice (some ⟨w6.heap.size,0,none⟩) 2 2]) (Sl.block w6.heap.size AM [.int .i64 Q,.int .i64 R,.int .i64 T,.int .i64 U,.int .i64 y1,.int .i64 y2,.int .i64 y3,.int .i64 y4]))) ?_;rintro e w7 ⟨a7,c7,G7,rfl,dg⟩;haveI:=dg.i)
                go_meet
                exact ⟨rfl,A6 (C:=G7*(B5*Sl.block wr.heap.size 141 [.int .i64 k1,.int .i64 k2,.int .i64 k3,.int .i64 k4])) (by ac_rfl)⟩
              | false =>
                simp only[Bool.false_eq_true,if_false] at b8
                have Y:bd=false:=by
                 clear bv bf
                 have c2:t1=k2:=by simpa using e2
                 have c3:t2=k3:=by simpa using e3
                 have c4:t3=k4:=by simpa using e4
                 have c6:H+1=D:=by simpa using e6
                 rw[←W.out]
                 simp[*]
                subst Y
                go_wp2_with (go_at_call 80;with_reducible refine Calls.mono (b8.out ar w6.heap.size (w6.heap.size+1) _ _ (AP (Sl.block (w6.heap.size+1) 29 [.slice (some ⟨w6.heap.size,0,none⟩) 2 2]) (Sl.block w6.heap.size AM [.int .i64 Q,.int .i64 R,.int .i64 T,.int .i64 U,.int .i64 y1,.int .i64 y2,.int .i64 y3,.int .i64 y4]))) ?_;rintro e w7 ⟨a7,c7,G7,rfl,dg⟩;haveI:=dg.i)
                go_meet
                exact ⟨rfl,A6 (C:=G7*(B5*Sl.block wr.heap.size 141 [.int .i64 k1,.int .i64 k2,.int .i64 k3,.int .i64 k4])) (by ac_rfl)⟩
     obtain ⟨rfl,dh⟩:=hcut
     obtain ⟨ec,cl⟩:=Aq w4.heap.size
     rw[cl] at dh⊢
     clear fb az this cl b8
     haveI:=dh.i
     cases bd with
     | true =>
       have ac:Aside (Ee V f no top=none):=(by
        rw[HG.out]
        refine NG O.out L.out ((A.out.run rfl).cO ad.out bo.out ab.out.1 (UG ?_))
        rw[eb.out]
        simp only
        rw[dz.out]
        exact of_decide_eq_true W.out:_=_)
       go_wp2
       exact ⟨rfl,s5,K4,CI h s5 o u r M K4 F,X.out.2.1,X.out.2.2,.inr ⟨rfl,ac.out,X.out.1.less (Nat.zero_le _)⟩⟩
     | false =>
       have am:=YI (y:=⟨H,Z,⟨y1,y2,y3,y4⟩,⟨y5,y6,y7,y8⟩⟩) (x:=⟨D,J,⟨z1,z2,z3,z4⟩,⟨Q,R,T,U⟩⟩) (s:=AS (Bz V k1)) (first:=j==0) (k:=⟨k1,k2,k3,k4⟩) (by
        rw[eb.out]
        simp only
        rw[dz.out]
        exact of_decide_eq_false W.out)
       simp only at am
       obtain ⟨⟨f1,f2,f3,f4⟩,d6⟩: ∃e:Au,(if (j==0)=true then (⟨y1,y2,y3,y4⟩:Au) else ⟨z1,z2,z3,z4⟩)=e:=⟨_,rfl⟩
       rw[d6] at am
       have a0:Aside (((j==0)=false→H+1=D)∧(1024<J+Z→FC ⟨H,Z,⟨y1,y2,y3,y4⟩,⟨y5,y6,y7,y8⟩⟩ (AS (Bz V k1)) (j==0) ⟨k1,k2,k3,k4⟩ ⟨D,J,⟨z1,z2,z3,z4⟩,⟨Q,R,T,U⟩⟩=none)∧(¬1024<J+Z→FC ⟨H,Z,⟨y1,y2,y3,y4⟩,⟨y5,y6,y7,y8⟩⟩ (AS (Bz V k1)) (j==0) ⟨k1,k2,k3,k4⟩ ⟨D,J,⟨z1,z2,z3,z4⟩,⟨Q,R,T,U⟩⟩=some ⟨H+1,J+Z,⟨f1,f2,f3,f4⟩,⟨y5,y6,y7,y8⟩⟩)):=am
       have dv:Aside ((if (j==0)=true then (⟨y1,y2,y3,y4⟩:Au) else ⟨z1,z2,z3,z4⟩)=⟨f1,f2,f3,f4⟩):=d6
       clear am d6
       go_upto_if 142 with (fail)
       go_cut [142] (fun hc wx=>Sat (Sl.block bb Hx [.int .i64 (H+1),.int .i64 J,.int .i64 f1,.int .i64 f2,.int .i64 f3,.int .i64 f4,.int .i64 Q,.int .i64 R,.int .i64 T,.int .i64 U]*(Sl.block ec Hx [.int .i64 H,.int .i64 Z,.int .i64 y1,.int .i64 y2,.int .i64 y3,.int .i64 y4,.int .i64 y5,.int .i64 y6,.int .i64 y7,.int .i64 y8]*(Sl.block ba C0 [.bool false,.slice aE le cE,.slice (some ⟨kb,ko,none⟩) lk cK]*(B1*(Sl.block N9 Hx [.int .i64 0,.int .i64 0,.int .i64 0,.int .i64 0,.int .i64 0,.int .i64 0,.int .i64 0,.int .i64 0,.int .i64 0,.int .i64 0]*(Ae h s5*(Sl.block o KE [.map (some M)]*(Sl.block u P8 [.pointer (some ⟨h.t,0,none⟩)]*(Sl.block r P7 [.func (Fn.func 128) #[] #[.pointer (some ⟨o,0,none⟩),.pointer (some ⟨u,0,none⟩),.pointer (some ⟨r,0,none⟩)]]*(mp A8 M (kn K4)*F)))))))))) wx)
       case first=>
        by_cases c5:j=0
        · have e5:((j:Int)==0)=true:=by simp[c5]
          have l:(⟨y1,y2,y3,y4⟩:Au)=⟨f1,f2,f3,f4⟩:=by rw[←dv.out,if_pos (by simp[c5])]
          cases l
          clear c5
          go_upto_region 20 with (fail)
          go_region
          go_wp2_with fail
          go_meet
          exact Av (by ac_rfl)
        have e5:((j:Int)==0)=false:=by simp[c5]
        have l:(⟨z1,z2,z3,z4⟩:Au)=⟨f1,f2,f3,f4⟩:=by rw[←dv.out,if_neg (by simp[c5])]
        have P:H+1=D:=a0.out.1 (by simp[c5])
        have H8:Aside (H+1=D):=P
        cases l
        clear c5 P
        go_wp2_with fail
        go_meet
        rw[H8.out]
        exact Av (by ac_rfl)
       have gn:=hcut
       clear dh this
       haveI:=gn.i
       by_cases ak:1024<J+Z
       · have ac:Aside (Ee V f no top=none):=(by
          rw[HG.out]
          exact NG O.out L.out ((A.out.run rfl).cO ad.out bo.out ab.out.1 (a0.out.2.1 ak)):_=_)
         have ge:decide ((1024:Int)<J+Z)=true:=decide_eq_true ak
         go_wp2
         exact ⟨rfl,s5,K4,CI h s5 o u r M K4 F,X.out.2.1,X.out.2.2,.inr ⟨rfl,ac.out,X.out.1.less (Nat.zero_le _)⟩⟩
       have ge:decide ((1024:Int)<J+Z)=false:=decide_eq_false ak
       have fn : Aside (fG V N f g n false m1 s K ⟨xh, xc, ⟨x1, x2, x3, x4⟩, ⟨x5, x6, x7, x8⟩⟩ (lk - (j + 1)) lk (j + 1) m5 s5 K4 ⟨H + 1, J + Z, ⟨f1, f2, f3, f4⟩, ⟨y5, y6, y7, y8⟩⟩) := (by
        have hB:=cd.out.1
        have hC:=ab.out.2.2.2.2
        have hM:=fp.out
        refine ⟨rfl,X.out.1,X.out.2.1,X.out.2.2,ab.out.2.2.1,by omega,fun _=>(A.out.run rfl).next ad.out bo.out ab.out.1 (a0.out.2.2 ak),fun e=>by omega,fun q hq=>?_,fun e=>by omega,?_,?_,fun _=>⟨dx.out.last,fun e=>?_⟩⟩
        · rcases fs.out q hq with l|l
          · rcases A.out.Z5 q l with P|P
            · exact .inl P
            by_cases c5:j=0
            · rw[A.out.k0 c5] at l
              exact .inl l
            have h7:=a0.out.1 (by simp[c5])
            simp only at P⊢
            exact .inr (by omega)
          simp only at l⊢
          exact .inr (by omega)
        · simp only;omega
        · simp only;omega
        by_cases c5:j=0
        · have l:=ab.out.2.1 (by rw[A.out.k0 c5];exact e)
          have:=HG.out
          simp only at l⊢
          omega
        have h7:=a0.out.1 (by simp[c5])
        have l:=(A.out.low (by omega)).2 e
        simp only at l⊢
        omega:fG _ _ _ _ _ _ _ _ _ _ _ _ _ _ _ _ _)
       go_wp2_with fail
       go_roundg (lk-(j+1))
       case measure=>have:=A.out.dI;omega
       exact ⟨j+1,m5,s5,K4,_,by go_num,by omega,fn,A6 (C:=Sl.block ec Hx [.int .i64 H,.int .i64 Z,.int .i64 y1,.int .i64 y2,.int .i64 y3,.int .i64 y4,.int .i64 y5,.int .i64 y6,.int .i64 y7,.int .i64 y8]) (by unfold J' Cx;ac_rfl)⟩
   have ex: ¬(j:Int)<lk:=by omega
   obtain rfl:j=lk:=by omega
   have HC:Aside (Ms V no top ⟨D,J,⟨z1,z2,z3,z4⟩,⟨Q,R,T,U⟩⟩):=(by
    cases lf with
    | true =>
      have l:=(Cm bq.out L.out).1
      have P:=b9.out.2
      rw[l] at P
      rw[A.out.zero P.symm]
      exact fv.out rfl (fm.out rfl)
    | false =>
      have l:=A.out.run rfl
      rw[←b9.out.2] at l
      exact l.done O.out L.out H4.out:Ms _ _ _ _)
   have cp:0≤no∧no<N:=⟨by
    have l:=(HV.out no n O.out).2
    rcases Int.lt_or_le no 0 with P|P
    · have:V no=none:=A.out.i7.out (by omega)
      rw[O.out] at this
      cases this
    exact P,(HV.out no n O.out).2⟩
   have bs:Aside (0≤no∧no<N):=cp
   clear cp
   have dw : Aside (K = [] → D < f) := (fun e => by
    by_cases c5:j=0
    · have l:=A.out.zero c5
      have hG:=HG.out
      have h7:=aq.out
      rw[←l] at h7
      cases lf with
      | true =>
        simp only[if_true] at h7
        have h6:=congrArg Sn.h h7
        simp only at h6
        omega
      | false =>
        have h6:=congrArg Sn.h h7
        have:(if false=true then (⟨0,n.Ag.length,n.Ag.headD e0,n.Ag.getLastD e0⟩:Sn) else J0).h=0:=rfl
        rw[this] at h6
        simp only at h6
        omega
    exact (A.out.low (by omega)).2 e:_→_)
   have e1 : Aside (top = false → Fy no K3 = none) := (fun e => by
    cases hq:Fy no K3 with
    |none=>rfl
    | some z =>
      exfalso
      have l:=KX hq
      rcases A.out.Z5 _ l with P|P
      · have h7:=HZ.out e
        have: ∀(K:List (Int×Sn)),(no,z)∈K→Fy no K≠none:=fun K hK h6=>by
         have h5:=KV (i:=no.toNat) h6 (by have:=bs.out.1;omega)
         unfold Ps at h5
         rw[List.any_eq_false] at h5
         have:=h5 _ hK
         simp at this
         have:=bs.out.1
         omega
        exact this K P h7
      have h6:=A.out.kn.get hq
      obtain ⟨q1,q2⟩:=id HC.out
      rw[e] at q2
      have h5:=h6.of ad.out q2
      rw[←h5] at P
      simp only at P
      omega:_→_)
   have dt:Aside (m1+13*fr N K3≤m3+j+13*fr N K∧m=m1+1∧j≤12):=⟨A.out.fW,d1.out,ew⟩
   have HA:Aside (JU V K3∧GC V m3 s3∧s3.sp=s.sp∧s3.ck.d=s.ck.d∧ ∀q∈K3,q∈K∨q.2.h+1≤D):=⟨A.out.kn,A.out.i7,A.out.sp,A.out.d,A.out.Z5⟩
   clear A
   cases top with
   | true =>
     go_wp2
     go_returns
     have q8:=JO (w:=wr) (b:=N9) (e:=Hx) (c0:= .int .i64 0) (c1:= .int .i64 0) (c2:= .int .i64 0) (c3:= .int .i64 0) (c4:= .int .i64 0) (c5:= .int .i64 0) (c6:= .int .i64 0) (c7:= .int .i64 0) (c8:= .int .i64 0) (c9:= .int .i64 0) (v0:= .int .i64 D) (v1:= .int .i64 J) (v2:= .int .i64 z1) (v3:= .int .i64 z2) (v4:= .int .i64 z3) (v5:= .int .i64 z4) (v6:= .int .i64 Q) (v7:= .int .i64 R) (v8:= .int .i64 T) (v9:= .int .i64 U)
     haveI:=q8.i
     refine ⟨s3,K3,CI h s3 o u r M K3 F,HA.out.2.2.1,HA.out.2.2.2.1,.inl ⟨⟨D,J,⟨z1,z2,z3,z4⟩,⟨Q,R,T,U⟩⟩,m3,rfl,HC.out,dw.out,HA.out.1,fun q hq=>(HA.out.2.2.2.2 q hq).imp id fun l=>?_,HA.out.2.1,?_⟩⟩
     · simp only;omega
     have:=dt.out;simp only[if_true];omega
   | false =>
     go_wp2
     go_returns
     have q8:=JO (w:=Kz Tryz.prog KE M (A8 no) (.agg #[.int .i64 D,.int .i64 J,.int .i64 z1,.int .i64 z2,.int .i64 z3,.int .i64 z4,.int .i64 Q,.int .i64 R,.int .i64 T,.int .i64 U]) wr) (b:=N9) (e:=Hx) (c0:= .int .i64 0) (c1:= .int .i64 0) (c2:= .int .i64 0) (c3:= .int .i64 0) (c4:= .int .i64 0) (c5:= .int .i64 0) (c6:= .int .i64 0) (c7:= .int .i64 0) (c8:= .int .i64 0) (c9:= .int .i64 0) (v0:= .int .i64 D) (v1:= .int .i64 J) (v2:= .int .i64 z1) (v3:= .int .i64 z2) (v4:= .int .i64 z3) (v5:= .int .i64 z4) (v6:= .int .i64 Q) (v7:= .int .i64 R) (v8:= .int .i64 T) (v9:= .int .i64 U)
     haveI:=q8.i
     have ig:=Zc (y:=⟨D,J,⟨z1,z2,z3,z4⟩,⟨Q,R,T,U⟩⟩) (e1.out (by simp)) bs.out.1 bs.out.2
     refine ⟨s3,LS no ⟨D,J,⟨z1,z2,z3,z4⟩,⟨Q,R,T,U⟩⟩ K3,?_,HA.out.2.2.1,HA.out.2.2.2.1,.inl ⟨⟨D,J,⟨z1,z2,z3,z4⟩,⟨Q,R,T,U⟩⟩,m3,rfl,HC.out,dw.out,HA.out.1.put HC.out,fun q hq=>?_,HA.out.2.1,?_⟩⟩
     · exact (Fx (Ae h s3) (Sl.block o KE [.map (some M)]) (Sl.block u P8 [.pointer (some ⟨h.t,0,none⟩)]) (Sl.block r P7 [.func (Fn.func 128) #[] #[.pointer (some ⟨o,0,none⟩),.pointer (some ⟨u,0,none⟩),.pointer (some ⟨r,0,none⟩)]]) (mp A8 M (EO no (.agg #[.int .i64 D,.int .i64 J,.int .i64 z1,.int .i64 z2,.int .i64 z3,.int .i64 z4,.int .i64 Q,.int .i64 R,.int .i64 T,.int .i64 U]) (kn K3))) F).eq (by rw[JH,←Ro];rfl)
     · rcases KY hq with e|e
       · rw[e];simp only;exact .inr (Int.le_refl _)
       exact (HA.out.2.2.2.2 q e).imp id fun l=>by simp only;omega
     have:=dt.out;simp only[Bool.false_eq_true,if_false];omega
end Go.Proofs.YtfhbmblbidcmmaaGreat
namespace Go.Proofs.YtfhbmblbidcmmaaGreat
open Go.RowKit Go.Sl Go.Dk Go.Tr
open Go.QK (A8)
attribute [local go_sem] R6
variable [EZ]
theorem XA(f : Nat)(ih : ∀ g, f = g + 1 → Nr g) : bQ f true := by
 intro V N h s m K no top B G D M F w bz hf bd hK hV hR hm hs
 have bm:Aside (∀n,V no=some n→n.leaf=true):=bz
 clear bz
 by_cases J:top=false∧ ∃y,Fy no K=some y
 · obtain ⟨rfl,y,hy⟩:=J
   exact SU f V N h s m K no B G D M F w hK hR y hy hs
 have HK:Aside (JU V K):=hK
 have HV:Aside (∀p n,V p=some n→may n=true∧p<N):=hV
 have bp:Aside (∀p n,V p=some n→may n=true):=fun p n h=>(hV p n h).1
 have HM:Aside (13*fr N K+13*(f+1)≤m∧no≠0):=⟨hm,bd⟩
 have em:Aside (∀g,f=g+1→Nr g):=ih
 have HH:Aside (¬(top=false∧ ∃y,Fy no K=some y)):=J
 obtain ⟨m1,bb⟩: ∃m1,m=m1+1:=⟨m-1,by omega⟩
 have d0:Aside (m=m1+1):=bb
 have ch:=RF h V m1 s no
 have d1:Aside (∀F w,Sat (Ae h s*F) w→Calls Tryz.prog 129 #[.pointer (some ⟨h.t,0,none⟩),.int .i64 no] w (QO h V m1 s no F)):=fun F w q=>ch F w (by rw[←bb];exact hR) bd q
 obtain ⟨dp,U⟩:=Aq ((13:Int)-(f:Int))
 have HD:Aside (dp=13-(f:Int)∧f≤13):=⟨U.symm,hf⟩
 have dk:0≤dp∧dp≤13:=by omega
 rw[U]
 obtain ⟨ew,ex⟩:=dk
 have f0:=Bc (dp+1) (by omega)
 unfold Ga at hs
 have ci:Sat (Ae h s*(Sl.block B KE [.map (some M)]*(Sl.block G P8 [.pointer (some ⟨h.t,0,none⟩)]*(Sl.block D P7 [.func (Fn.func 128) #[] #[.pointer (some ⟨B,0,none⟩),.pointer (some ⟨G,0,none⟩),.pointer (some ⟨D,0,none⟩)]]*(mp A8 M (kn K)*F))))) w:=hs.eq (by ac_rfl)
 obtain ⟨z,ok,cm,cn,be⟩: ∃(z:Sn)(ok:Bool),(CK no (kn K)).getD Wb=VI z∧(CK no (kn K)).isSome=ok∧(ok=true→top=true)∧(top=false→Fy no K=none):=by
  rw[Ng]
  cases dl:Fy no K with
  |none=>exact ⟨J0,false,rfl,rfl,fun e=>Bool.noConfusion e,fun _=>rfl⟩
  | some y =>
    have ht:top=true:=by
     cases top with
     |true=>rfl
     |false=>exact absurd ⟨rfl,y,dl⟩ J
    exact ⟨y,true,rfl,rfl,fun _=>ht,fun e=>by rw[ht] at e;cases e⟩
 have HZ:Aside (top=false→Fy no K=none):=be.2
 have co:=be.1
 obtain ⟨yh,yc,⟨a1,a2,a3,a4⟩,⟨b1,b2,b3,b4⟩⟩:=z
 haveI:=ci.i
 have Q:(Instr.lookup KE (.map (some M)) (.int .i64 no) true).run Tryz.prog (w.alloc (.cells #[.int .i64 0,.int .i64 0,.int .i64 0,.int .i64 0,.int .i64 0,.int .i64 0,.int .i64 0,.int .i64 0,.int .i64 0,.int .i64 0] Hx))= .ok (.tuple #[.agg #[.int .i64 yh,.int .i64 yc,.int .i64 a1,.int .i64 a2,.int .i64 a3,.int .i64 a4,.int .i64 b1,.int .i64 b2,.int .i64 b3,.int .i64 b4],.bool ok]) (w.alloc (.cells #[.int .i64 0,.int .i64 0,.int .i64 0,.int .i64 0,.int .i64 0,.int .i64 0,.int .i64 0,.int .i64 0,.int .i64 0,.int .i64 0] Hx)):=by
  rw[Ri,cm,cn]
  rfl
 clear cm cn be hK hV hR hm hs J ih ch bd hf bb U HH
 go_enter Tryz.func128,Tryz.ntmps128
 go_upto_region 2 with (fail)
 go_cut [30] (fun dq wx=>dq= .bool false∧Sat (Sl.block w.heap.size Hx [.int .i64 0,.int .i64 0,.int .i64 0,.int .i64 0,.int .i64 0,.int .i64 0,.int .i64 0,.int .i64 0,.int .i64 0,.int .i64 0]*(Ae h s*(Sl.block B KE [.map (some M)]*(Sl.block G P8 [.pointer (some ⟨h.t,0,none⟩)]*(Sl.block D P7 [.func (Fn.func 128) #[] #[.pointer (some ⟨B,0,none⟩),.pointer (some ⟨G,0,none⟩),.pointer (some ⟨D,0,none⟩)]]*(mp A8 M (kn K)*F)))))) wx)
 case first=>
  cases ok with
  | false =>
    go_wp2_with fail
    go_meet
    exact ⟨rfl,A6 (C:=Sl.block (w.heap.size+1) Hx [.int .i64 yh,.int .i64 yc,.int .i64 a1,.int .i64 a2,.int .i64 a3,.int .i64 a4,.int .i64 b1,.int .i64 b2,.int .i64 b3,.int .i64 b4]) (by ac_rfl)⟩
  | true =>
    obtain rfl:=co rfl
    go_wp2_with fail
    go_meet
    exact ⟨rfl,A6 (C:=Sl.block (w.heap.size+1) Hx [.int .i64 yh,.int .i64 yc,.int .i64 a1,.int .i64 a2,.int .i64 a3,.int .i64 a4,.int .i64 b1,.int .i64 b2,.int .i64 b3,.int .i64 b4]) (by ac_rfl)⟩
 obtain ⟨rfl,q2⟩:=hcut
 obtain ⟨N9,ca⟩:=Aq w.heap.size
 rw[ca] at q2⊢
 clear ci this Q ca co
 haveI:=q2.i
 go_wp2_with fail
 with_reducible refine Calls.mono (d1.out _ _ (Af (Ae h s))) ?_
 rintro e w1 ⟨s2,cb,au,aq,b7⟩
 have o:Aside (GC V m1 s2∧s2.sp=s.sp∧s2.ck.d=s.ck.d):=⟨cb,au,aq⟩
 clear cb au aq q2
 rcases b7 with ⟨n,v1,I,Y,rfl,hN,q3⟩|⟨Y,rfl,q3⟩
 rotate_left
 · haveI:=q3.i
   exact ⟨rfl,s2,K,CI h s2 B G D M K F,o.out.2.1,o.out.2.2,.inr ⟨rfl,Sq Y,o.out.1.less (Nat.zero_le _)⟩⟩
 have R:=bp.out no n Y
 have u:Aside (V no=some n):=Y
 have az:Aside (may n=true):=R
 have H:=fun F w q=>Ol n v1 I F w hN q (by have:=(Eb.of R).e;omega) (by have:=(Eb.of R).k;omega)
 obtain ⟨vE,vK,rfl,hE,b6⟩:=hN
 obtain ⟨aE,cE,rfl,dg,eu⟩:=hE.v
 obtain ⟨aK,cK,rfl,dh,ev⟩:=Al.v b6
 obtain ⟨le,W⟩:=Aq n.Ag.length
 obtain ⟨lk,Q⟩:=Aq n.kids.length
 obtain ⟨lf,ab⟩:=Aq n.leaf
 have T:Aside (An I (.slice aE le cE) n.Ag∧n.Ag.length=le):=⟨by rw[←W];exact hE,W⟩
 have ay:Aside (AR I (.slice aK n.kids.length cK) n.kids∧n.kids.length=lk):=⟨b6,Q⟩
 have O:Aside (n.leaf=lf):=ab
 have ed:le≤12:=by have:=(Eb.of R).e;omega
 have cg:lk≤12:=by have:=(Eb.of R).k;omega
 rw[W,Q,ab] at H
 rw[W] at dg⊢
 rw[Q] at dh⊢
 rw[ab]
 have a6:Aside (∀(F:Ac)(w:World),Sat (I*F) w→Calls Tryz.prog 130 #[.agg #[.bool lf,.slice aE le cE,.slice aK lk cK]] w fun e w'=>e= .returned (.int .i64 (many n))∧Sat (I*F) w'):=H
 obtain ⟨mn,bc⟩: ∃z:Nat,many n=z:=⟨_,rfl⟩
 rw[bc] at a6
 have bn:Aside (many n=mn):=bc
 haveI:=q3.i
 clear Y R H hE b6 W Q ab bc
 by_cases b8:f=0
 · have U:dp=13:=by have:=HD.out.1;omega
   have cv:Aside (Ee V f no top=none):=(by rw[b8];rfl:_=_)
   have dd:decide ((12:Int)<dp)=true:=decide_eq_true (by omega)
   have bv:(12:Int)<dp:=by omega
   clear U b8
   go_wp2
   exact ⟨rfl,s2,K,CI h s2 B G D M K F,o.out.2.1,o.out.2.2,.inr ⟨rfl,cv.out,o.out.1.less (Nat.zero_le _)⟩⟩
 obtain ⟨g,hg⟩: ∃g,f=g+1:=⟨f-1,by omega⟩
 have HG:Aside (f=g+1):=hg
 have dd:decide ((12:Int)<dp)=false:=decide_eq_false (by have:=HD.out.1;omega)
 have bv: ¬(12:Int)<dp:=by have:=HD.out.1;omega
 obtain ⟨fw,cd⟩:=Aq (decide (top=false∧mn<4))
 have L:Aside (decide (top=false∧mn<4)=fw):=cd
 clear cd hg b8
 go_upto_region 5 with (fail)
 go_cut [45] (fun dr wx=>dr= .bool fw∧Sat (Sl.block w1.heap.size C0 [.bool lf,.slice aE le cE,.slice aK lk cK]*(I*(Sl.block N9 Hx [.int .i64 0,.int .i64 0,.int .i64 0,.int .i64 0,.int .i64 0,.int .i64 0,.int .i64 0,.int .i64 0,.int .i64 0,.int .i64 0]*(Ae h s2*(Sl.block B KE [.map (some M)]*(Sl.block G P8 [.pointer (some ⟨h.t,0,none⟩)]*(Sl.block D P7 [.func (Fn.func 128) #[] #[.pointer (some ⟨B,0,none⟩),.pointer (some ⟨G,0,none⟩),.pointer (some ⟨D,0,none⟩)]]*(mp A8 M (kn K)*F)))))))) wx)
 case first =>
  cases top with
  | true =>
    have hz:fw=false:=by rw[←L.out];simp
    subst hz
    go_wp2_with fail
    go_meet
    exact ⟨rfl,Av (by ac_rfl)⟩
  | false =>
    by_cases h4:mn<4
    · have hz:fw=true:=by rw[←L.out];simp[h4]
      subst hz
      have b9:(mn:Int)<4:=by omega
      have cc:decide ((mn:Int)<4)=true:=decide_eq_true b9
      go_wp2_with (go_at_call 130;with_reducible refine Calls.mono (a6.out _ _ (Af I)) ?_;rintro e w4 ⟨rfl,q4⟩;haveI:=q4.i)
      go_meet
      exact ⟨rfl,Av (by ac_rfl)⟩
    have hz:fw=false:=by rw[←L.out];simp[h4]
    subst hz
    have b9: ¬(mn:Int)<4:=by omega
    have cc:decide ((mn:Int)<4)=false:=decide_eq_false b9
    go_wp2_with (go_at_call 130;with_reducible refine Calls.mono (a6.out _ _ (Af I)) ?_;rintro e w4 ⟨rfl,q4⟩;haveI:=q4.i)
    go_meet
    exact ⟨rfl,Av (by ac_rfl)⟩
 obtain ⟨rfl,q5⟩:=hcut
 obtain ⟨b0,ao⟩:=Aq w1.heap.size
 rw[ao] at q5⊢
 clear q3 this ao
 haveI:=q5.i
 cases fw with
 | true =>
   have aw:Aside (Ee V f no top=none):=(by
    have r:=of_decide_eq_true L.out
    rw[HG.out]
    exact Wl u.out ⟨r.1,by rw[bn.out];exact r.2⟩:_=_)
   go_wp2
   exact ⟨rfl,s2,K,CI h s2 B G D M K F,o.out.2.1,o.out.2.2,.inr ⟨rfl,aw.out,o.out.1.less (Nat.zero_le _)⟩⟩
 | false =>
   have H4:Aside (¬(top=false∧many n<4)):=(by
    have r:=of_decide_eq_false L.out
    rw[bn.out]
    exact r: ¬_)
   clear a6 L
   obtain ⟨x0,cj⟩:=Aq (if lf then (⟨0,n.Ag.length,n.Ag.headD e0,n.Ag.getLastD e0⟩:Sn) else J0)
   have P:Aside ((if lf then (⟨0,n.Ag.length,n.Ag.headD e0,n.Ag.getLastD e0⟩:Sn) else J0)=x0):=cj
   clear cj
   have d2:Aside (lf=true→AF n.Ag→Ms V no top x0):=(fun h1 h2=>by
    refine ⟨g+1,?_⟩
    rw[NF u.out (O.out.trans h1) H4.out,if_neg (by rw[Fw.2 h2];simp),←P.out,if_pos h1]:_→_→_)
   obtain ⟨br,ap⟩:=Aq wc.heap.size
   have al:Aside (wc.heap.size=br):=ap
   clear ap
   go_upto_if 49 with (fail)
   go_cut [49] (fun f8 wx=>(lf=true→AF n.Ag)∧Sat (Sl.block wc.heap.size Hx (J' x0)*(Sl.block b0 C0 [.bool lf,.slice aE le cE,.slice aK lk cK]*(I*(Sl.block N9 Hx [.int .i64 0,.int .i64 0,.int .i64 0,.int .i64 0,.int .i64 0,.int .i64 0,.int .i64 0,.int .i64 0,.int .i64 0,.int .i64 0]*(Ae h s2*(Sl.block B KE [.map (some M)]*(Sl.block G P8 [.pointer (some ⟨h.t,0,none⟩)]*(Sl.block D P7 [.func (Fn.func 128) #[] #[.pointer (some ⟨B,0,none⟩),.pointer (some ⟨G,0,none⟩),.pointer (some ⟨D,0,none⟩)]]*(mp A8 M (kn K)*F))))))))) wx)
   case first=>
    cases lf with
    | false =>
      have r:=bm.out n u.out
      rw[O.out] at r
      cases r
    | true =>
      have X:=Cm az.out O.out
      have ec:1≤le:=by have:=X.2.2.1;rw[T.out.2] at this;exact this
      have HJ:Aside (∀(b:Nat)(F:Ac)(w:World),Sat (Sl.block b 29 [.slice aE le cE]*(I*F)) w→Calls Tryz.prog 80 #[.slice (some ⟨b,0,none⟩) 1 1] w fun e w'=> ∃a c,e= .returned (.slice a (join n.Ag).length c)∧Sat (rw AM 4 (.slice a (join n.Ag).length c) (Bb (join n.Ag))*(Sl.block b 29 [.slice aE le cE]*(I*F))) w'):=fun b F w q=>by
       have r:=KW [n.Ag] _ _ F w (Jr b T.out.1) (q.eq (Az _ _ _).symm) (by simp) (by simp;have:=X.2.2.2.1;omega) (by simpa using X.2.1) (by have:=X.2.2.2.2;simp;omega)
       rw[List.flatten_singleton] at r
       exact r.mono fun e w' ⟨a,c,h1,h2⟩=>⟨a,c,h1,h2.eq (by ac_rfl)⟩
      obtain ⟨jl,aa⟩:=Aq ((join n.Ag).length)
      simp only[aa] at HJ
      have cy:Aside (jl=le→AF n.Ag):=(fun e=>Fw.1 (by rw[aa,e,T.out.2]):_→_)
      have cz:Aside (jl≠le→Ee V f no top=none):=(fun e=>by rw[HG.out,NF u.out O.out H4.out,if_pos (by rw[aa,T.out.2];exact e)]:_→_)
      have cf:IntKind.i64.wrap ((le:Int)-1)=((le-1:Nat):Int):=(IntWalk.i64_in _ (by omega)).trans (by omega)
      obtain ⟨lm,ba⟩:=Aq (le-1)
      rw[ba] at cf
      obtain ⟨x,hx⟩: ∃x,n.Ag[0]?=some x:=⟨_,List.getElem?_eq_getElem (by rw[T.out.2];omega)⟩
      obtain ⟨y,hy⟩: ∃x,n.Ag[lm]?=some x:=⟨_,List.getElem?_eq_getElem (by rw[T.out.2];omega)⟩
      have bq:Aside (n.Ag.headD e0=x∧n.Ag.getLastD e0=y):=⟨by cases hq:n.Ag with|nil=>rw[hq] at hx;simp at hx|cons a l=>rw[hq] at hx;simpa using hx,by rw[List.getLastD_eq_getLast?,List.getLast?_eq_getElem?,T.out.2,ba,hy];rfl⟩
      have b5:An I (.slice aE n.Ag.length cE) n.Ag:=by rw[T.out.2];exact T.out.1
      obtain ⟨eb,eo,e8,r1,r2,r3,r4⟩:=BD b5 hx
      obtain ⟨es,et,e7,p1,p2,p3,p4⟩:=BD b5 hy
      rw[e8] at e7
      cases e7
      subst e8
      have d3:Aside (x0=⟨0,le,x,y⟩):=(by rw[←P.out,if_pos rfl,bq.out.1,bq.out.2,T.out.2]:_=_)
      obtain ⟨x1,x2,x3,x4⟩:=x
      obtain ⟨y1,y2,y3,y4⟩:=y
      simp only at r1 r2 r3 r4 p1 p2 p3 p4
      have ef:(lm:Int)<le:=by omega
      have ee:(0:Int)<le:=by omega
      clear X aa hx hy b5 ba
      go_upto_region 9 with (fail)
      go_region_held3 (fun w'=>w'.cell? ⟨b0,1,none⟩=some (.slice (some ⟨eb,eo,none⟩) le cE)) (exact (Ab _ _ _)) (first
       |(go_at_call 80;with_reducible refine Calls.mono (HJ.out _ _ _ (AP (Sl.block _ 29 [.slice (some ⟨eb,eo,none⟩) le cE]) I)) ?_;rintro e w7 ⟨a7,c7,rfl,q7⟩;haveI:=q7.i))
      all_goals
       haveI:=q7.i
       cases e9:((jl:Int) !=(le:Int)) with
       | true =>
         have aw:Aside (Ee V f no top=none):=(by
          refine cz.out fun e=>?_
          rw[e] at e9
          simp at e9:_=_)
         go_wp2
         exact ⟨rfl,s2,K,CI h s2 B G D M K F,o.out.2.1,o.out.2.2,.inr ⟨rfl,aw.out,o.out.1.less (Nat.zero_le _)⟩⟩
       | false =>
         have ax:Aside (AF n.Ag):=(by
          have c9:(jl:Int)=le:=by simpa using e9
          exact cy.out (by omega):AF _)
         go_upto_region 11 with (fail)
         go_region
         go_wp2_with fail
         go_meet
         refine ⟨fun _=>ax.out,?_⟩
         rw[d3.out]
         have q8:=JO (w:=w7) (b:=wc.heap.size) (e:=Hx) (c0:= .int .i64 0) (c1:= .int .i64 0) (c2:= .int .i64 0) (c3:= .int .i64 0) (c4:= .int .i64 0) (c5:= .int .i64 0) (c6:= .int .i64 0) (c7:= .int .i64 0) (c8:= .int .i64 0) (c9:= .int .i64 0) (v0:= .int .i64 0) (v1:= .int .i64 le) (v2:= .int .i64 x1) (v3:= .int .i64 x2) (v4:= .int .i64 x3) (v5:= .int .i64 x4) (v6:= .int .i64 y1) (v7:= .int .i64 y2) (v8:= .int .i64 y3) (v9:= .int .i64 y4)
         haveI:=q8.drew.i
         exact A6 (C:=rw AM 4 (.slice a7 jl c7) (Bb (join n.Ag))*Sl.block (wc.heap.size+1) 29 [.slice (some ⟨eb,eo,none⟩) le cE]) (by unfold J' Cx;ac_rfl)
   obtain ⟨ce,q6⟩:=hcut
   have ax:Aside (lf=true→AF n.Ag):=ce
   rw[al.out] at q6⊢
   clear q5 this ce al
   obtain ⟨xh,xc,⟨x1,x2,x3,x4⟩,⟨x5,x6,x7,x8⟩⟩:=x0
   unfold J' Cx at q6
   simp only[List.cons_append,List.nil_append] at q6
   haveI:=q6.i
   go_wp2_with fail
   go_loopg [80] lk (fun gg ds wr=> ∃(j m3:Nat)(s3:TS)(K3:List (Int×Sn))(x:Sn),ds= .int .i64 j∧j≤lk∧Aside (fG V N f g n lf m1 s K ⟨xh,xc,⟨x1,x2,x3,x4⟩,⟨x5,x6,x7,x8⟩⟩ gg lk j m3 s3 K3 x)∧
    Sat (Sl.block br Hx (J' x)*(Sl.block b0 C0 [.bool lf,.slice aE le cE,.slice aK lk cK]*(I*(Sl.block N9 Hx [.int .i64 0,.int .i64 0,.int .i64 0,.int .i64 0,.int .i64 0,.int .i64 0,.int .i64 0,.int .i64 0,.int .i64 0,.int .i64 0]*(Ae h s3*(Sl.block B KE [.map (some M)]*(Sl.block G P8 [.pointer (some ⟨h.t,0,none⟩)]*(Sl.block D P7 [.func (Fn.func 128) #[] #[.pointer (some ⟨B,0,none⟩),.pointer (some ⟨G,0,none⟩),.pointer (some ⟨D,0,none⟩)]]*(mp A8 M (kn K3)*F))))))))) wr)
   case atStart=>
    refine ⟨0,m1,s2,K,_,rfl,by omega,⟨rfl,o.out.1,o.out.2.1,o.out.2.2,HK.out,by omega,fun e=>?_,fun _=>rfl,fun q hq=> .inl hq,fun _=>rfl,?_,?_,fun e=>by omega⟩,q6⟩
    · rw[←P.out,e]
      exact U9.zero g n
    · rw[←P.out]
      cases lf with
      |true=>simp only[if_true];have:=T.out.2;omega
      |false=>exact ⟨by simp[J0],by simp[J0]⟩
    rw[←P.out]
    cases lf with
    |true=>exact ⟨by simp,by simp⟩
    |false=>exact ⟨by simp[J0],by simp[J0]⟩
   obtain ⟨j,m3,s3,K3,x,rfl,hj,A,q7⟩:=hrel
   clear q6
   obtain ⟨Z,zc,⟨z1,z2,z3,z4⟩,⟨z5,z6,z7,z8⟩⟩:=x
   unfold J' Cx at q7
   simp only[List.cons_append,List.nil_append] at q7
   haveI:=q7.i
   by_cases ez:j<lk
   · exfalso
     have h7:=(Cm az.out (bm.out n u.out)).1
     have r:=ay.out.2
     rw[h7] at r
     simp at r
     omega
   have eg: ¬(j:Int)<lk:=by omega
   obtain rfl:j=lk:=by omega
   have HC:Aside (Ms V no top ⟨Z,zc,⟨z1,z2,z3,z4⟩,⟨z5,z6,z7,z8⟩⟩):=(by
    cases lf with
    | true =>
      have r:=(Cm az.out O.out).1
      have h8:=ay.out.2
      rw[r] at h8
      rw[A.out.zero h8.symm]
      exact d2.out rfl (ax.out rfl)
    | false =>
      have r:=A.out.run rfl
      rw[←ay.out.2] at r
      exact r.done u.out O.out H4.out:Ms _ _ _ _)
   have ar:0≤no∧no<N:=⟨by
    have r:=(HV.out no n u.out).2
    rcases Int.lt_or_le no 0 with h8|h8
    · have:V no=none:=A.out.i7.out (by omega)
      rw[u.out] at this
      cases this
    exact h8,(HV.out no n u.out).2⟩
   have a8:Aside (0≤no∧no<N):=ar
   clear ar
   have bl : Aside (K = [] → Z < f) := (fun e => by
    by_cases c5:j=0
    · have r:=A.out.zero c5
      have hG:=HG.out
      have h7:=P.out
      rw[←r] at h7
      cases lf with
      | true =>
        simp only[if_true] at h7
        have h6:=congrArg Sn.h h7
        simp only at h6
        omega
      | false =>
        have h6:=congrArg Sn.h h7
        have:(if false=true then (⟨0,n.Ag.length,n.Ag.headD e0,n.Ag.getLastD e0⟩:Sn) else J0).h=0:=rfl
        rw[this] at h6
        simp only at h6
        omega
    exact (A.out.low (by omega)).2 e:_→_)
   have bo : Aside (top = false → Fy no K3 = none) := (fun e => by
    cases hq:Fy no K3 with
    |none=>rfl
    | some z =>
      exfalso
      have r:=KX hq
      rcases A.out.Z5 _ r with h8|h8
      · have h7:=HZ.out e
        have: ∀(K:List (Int×Sn)),(no,z)∈K→Fy no K≠none:=fun K hK h6=>by
         have h5:=KV (i:=no.toNat) h6 (by have:=a8.out.1;omega)
         unfold Ps at h5
         rw[List.any_eq_false] at h5
         have:=h5 _ hK
         simp at this
         have:=a8.out.1
         omega
        exact this K h8 h7
      have h6:=A.out.kn.get hq
      obtain ⟨q1,q2⟩:=id HC.out
      rw[e] at q2
      have h5:=h6.of bp.out q2
      rw[←h5] at h8
      simp only at h8
      omega:_→_)
   have bk:Aside (m1+13*fr N K3≤m3+j+13*fr N K∧m=m1+1∧j≤12):=⟨A.out.fW,d0.out,cg⟩
   have HA:Aside (JU V K3∧GC V m3 s3∧s3.sp=s.sp∧s3.ck.d=s.ck.d∧ ∀q∈K3,q∈K∨q.2.h+1≤Z):=⟨A.out.kn,A.out.i7,A.out.sp,A.out.d,A.out.Z5⟩
   clear A
   cases top with
   | true =>
     go_wp2
     go_returns
     have q8:=JO (w:=wr) (b:=N9) (e:=Hx) (c0:= .int .i64 0) (c1:= .int .i64 0) (c2:= .int .i64 0) (c3:= .int .i64 0) (c4:= .int .i64 0) (c5:= .int .i64 0) (c6:= .int .i64 0) (c7:= .int .i64 0) (c8:= .int .i64 0) (c9:= .int .i64 0) (v0:= .int .i64 Z) (v1:= .int .i64 zc) (v2:= .int .i64 z1) (v3:= .int .i64 z2) (v4:= .int .i64 z3) (v5:= .int .i64 z4) (v6:= .int .i64 z5) (v7:= .int .i64 z6) (v8:= .int .i64 z7) (v9:= .int .i64 z8)
     haveI:=q8.i
     refine ⟨s3,K3,CI h s3 B G D M K3 F,HA.out.2.2.1,HA.out.2.2.2.1,.inl ⟨⟨Z,zc,⟨z1,z2,z3,z4⟩,⟨z5,z6,z7,z8⟩⟩,m3,rfl,HC.out,bl.out,HA.out.1,fun q hq=>(HA.out.2.2.2.2 q hq).imp id fun r=>?_,HA.out.2.1,?_⟩⟩
     · simp only;omega
     have:=bk.out;simp only[if_true];omega
   | false =>
     go_wp2
     go_returns
     have q8:=JO (w:=Kz Tryz.prog KE M (A8 no) (.agg #[.int .i64 Z,.int .i64 zc,.int .i64 z1,.int .i64 z2,.int .i64 z3,.int .i64 z4,.int .i64 z5,.int .i64 z6,.int .i64 z7,.int .i64 z8]) wr) (b:=N9) (e:=Hx) (c0:= .int .i64 0) (c1:= .int .i64 0) (c2:= .int .i64 0) (c3:= .int .i64 0) (c4:= .int .i64 0) (c5:= .int .i64 0) (c6:= .int .i64 0) (c7:= .int .i64 0) (c8:= .int .i64 0) (c9:= .int .i64 0) (v0:= .int .i64 Z) (v1:= .int .i64 zc) (v2:= .int .i64 z1) (v3:= .int .i64 z2) (v4:= .int .i64 z3) (v5:= .int .i64 z4) (v6:= .int .i64 z5) (v7:= .int .i64 z6) (v8:= .int .i64 z7) (v9:= .int .i64 z8)
     haveI:=q8.i
     have ey:=Zc (y:=⟨Z,zc,⟨z1,z2,z3,z4⟩,⟨z5,z6,z7,z8⟩⟩) (bo.out (by simp)) a8.out.1 a8.out.2
     refine ⟨s3,LS no ⟨Z,zc,⟨z1,z2,z3,z4⟩,⟨z5,z6,z7,z8⟩⟩ K3,?_,HA.out.2.2.1,HA.out.2.2.2.1,.inl ⟨⟨Z,zc,⟨z1,z2,z3,z4⟩,⟨z5,z6,z7,z8⟩⟩,m3,rfl,HC.out,bl.out,HA.out.1.put HC.out,fun q hq=>?_,HA.out.2.1,?_⟩⟩
     · exact (Fx (Ae h s3) (Sl.block B KE [.map (some M)]) (Sl.block G P8 [.pointer (some ⟨h.t,0,none⟩)]) (Sl.block D P7 [.func (Fn.func 128) #[] #[.pointer (some ⟨B,0,none⟩),.pointer (some ⟨G,0,none⟩),.pointer (some ⟨D,0,none⟩)]]) (mp A8 M (EO no (.agg #[.int .i64 Z,.int .i64 zc,.int .i64 z1,.int .i64 z2,.int .i64 z3,.int .i64 z4,.int .i64 z5,.int .i64 z6,.int .i64 z7,.int .i64 z8]) (kn K3))) F).eq (by rw[JH,←Ro];rfl)
     · rcases KY hq with e|e
       · rw[e];simp only;exact .inr (Int.le_refl _)
       exact (HA.out.2.2.2.2 q e).imp id fun r=>by simp only;omega
     have:=bk.out;simp only[Bool.false_eq_true,if_false];omega
end Go.Proofs.YtfhbmblbidcmmaaGreat
namespace Go.Proofs.YtfhbmblbidcmmaaGreat
open Go.RowKit Go.Sl Go.Dk Go.Tr
open Go.QK (A8)
attribute [local go_sem] R6
variable [EZ]
theorem Qd(f:Nat)(p: ∀g,f=g+1→Nr g):Nr f:=by
 intro V N h s m K no top b d c M F w l a i k j hm hs
 cases o:V no with
 |none=>exact Og f p V N h s m K no top b d c M F w (fun n e=>by rw[o] at e;cases e) l a i k j hm hs
 | some n =>
  cases hl:n.leaf with
  |true=>exact XA f p V N h s m K no top b d c M F w (fun n' e=>by rw[o] at e;cases e;exact hl) l a i k j hm hs
  |false=>exact Og f p V N h s m K no top b d c M F w (fun n' e=>by rw[o] at e;cases e;exact hl) l a i k j hm hs
theorem SR: ∀f,Nr f
 |0=>Qd 0 fun g h=>by omega
 | f + 1 => Qd (f + 1) fun g h => by
  have:g=f:=by omega
  subst this
  exact SR g
end Go.Proofs.YtfhbmblbidcmmaaGreat
namespace Go.Proofs.YtfhbmblbidcmmaaGreat
open Go.RowKit Go.Sl Go.Dk Go.Tr
open Go.QK (A8)
theorem OH{P:Program}{w:World}{a:Addr}{m:Mode}(f:Fn)(x y:Array Value):(store a (.func f x y) m).run P w=stored P w a (.func f x y) m:=run_store P w a _ m rfl
attribute [local go_sem] OH
theorem Mx(E:Nat)(w:World):
 CallsD Tryz.prog 73 #[.pointer (some ⟨E,0,none⟩)] .returning w fun e c d=>e= .returned (.tuple #[])∧c= .returning∧d=w:=by
 refine callsD_of_wpS Tryz.func73 rfl fun a f b=>?_
 apply wpS_seq
 apply wpS_region
 simp[wpOpsS,go_sem,recoverD,b,Tryz.ntmps73,Exit.thenS]
 apply wpS_seq
 apply wpS_region
 simp[wpOpsS,go_sem,Exit.thenS]
 refine wpS_cond (t:=false) (by simp[Act.eval,Array.replicate]) ?_
 simp only[Bool.false_eq_true,if_false]
 refine wpS_of_wp (wp_skip ?_)
 cases a
 simp_all[bodyPostS,results,Tryz.results73,Exit.thenS]
theorem Pp(E:Nat)(a:Int)(b:Value)(F:Ac)(w:World)(hs:Sat (Sl.block E EN [b]*F) w):
 CallsD Tryz.prog 73 #[.pointer (some ⟨E,0,none⟩)] (.panicking (C1 a)) w fun e g j=>e= .returned (.tuple #[])∧g= .panicking [{ v:= .iface Y8 (.agg #[.int .i64 a]),recovered:=true }]∧Sat (Sl.block E EN [.int .i64 a]*F) j:=by
 haveI:=hs.i
 refine callsD_of_wpS Tryz.func73 rfl fun c k d=>?_
 unfold C1 at d
 apply wpS_seq
 apply wpS_region
 simp[wpOpsS,go_sem,recoverD,d,Tryz.ntmps73,Exit.thenS]
 apply wpS_seq
 apply wpS_region
 simp[wpOpsS,go_sem,Exit.thenS]
 refine wpS_cond (t:=true) (by simp[Act.eval,Array.replicate]) ?_
 simp only[if_true]
 refine wpS_of_wp ?_
 go_wp2_with fail
 refine Calls.mono (FM a _ _ hs) ?_
 rintro l m ⟨rfl,f⟩
 haveI:=f.i
 go_wp2
 simp[bodyPostS,results,Tryz.results73]
 exact Av (by ac_rfl)
theorem Xj(j a b c d e f b2 g i:Int)(w:World):(Instr.field Hx (.agg #[.int .i64 j,.int .i64 a,.int .i64 b,.int .i64 c,.int .i64 d,.int .i64 e,.int .i64 f,.int .i64 b2,.int .i64 g,.int .i64 i]) 1).run Tryz.prog w= .ok (.int .i64 a) w:=by kernel_rfl
theorem Tb{A:Ac}{w:World}{n:Nat}[q:Bg A w][z:Sz w n]:Bg (mp A8 n (kn [])*A) (w.alloc (.map #[] 0)):=⟨by
 have h:=q.out.Dh (.map #[] 0)
 rw[z.out] at h
 exact Sat.Es (kf:=A8) (ms:= []) (b:=n) (o:= .map #[] 0) ⟨#[],0,rfl,rfl,by simp,by simp⟩ h⟩
attribute [local instance 20000] Tb
variable [EZ]
def Sc(V:Int→Option Nd)(N:Nat)(h:Th)(m:Nat)(s:TS)(no:Int)(F:Ac)(e:Ending)(a:World):Prop:= ∃s',Sat (Ae h s'*F) a∧s'.sp=s.sp∧s'.ck.d=s.ck.d∧
 ((∃y m',e= .returned (VI y)∧Ee V 13 no true=some y∧GC V m' s'∧m≤m'+13*N+13)∨(e= .panicked (C1 13)∧Ee V 13 no true=none∧GC V 0 s'))
theorem Yl(V:Int→Option Nd)(N:Nat)(h:Th)(m:Nat)(s:TS)(no:Int)(F:Ac)(w:World)(r:no≠0)(B: ∀p n,V p=some n→may n=true∧p<N)(R:GC V m s)(hm:13*N+182≤m)(hs:Sat (Ae h s*F) w):
 Calls Tryz.prog 75 #[.pointer (some ⟨h.t,0,none⟩),.int .i64 no,.bool true] w (Sc V N h m s no F):=by
 have a5: ∀(Q:Fn)(first cap:Array Value)(w:World),(Instr.makeFunc Q first cap).run Tryz.prog w= .ok (.func Q first cap) w:=fun _ _ _ _=>rfl
 have a6:= @run_makeMap Tryz.prog
 have a:=fun j l k M F w q=>SR 13 V N h s m [] no true j l k M F w (by omega) r (fun p hp=>by cases hp) B R (by have:=bW N [];omega) q
 have z:(13:Int)-((13:Nat):Int)=0:=rfl
 rw[z] at a
 have v:Aside (∀(j l k M:Nat)(F:Ac)(w:World),Sat (Ae h s*(Ga j l k M h []*F)) w→Calls Tryz.prog 128 #[.int .i64 no,.bool true,.int .i64 0,.pointer (some ⟨j,0,none⟩),.pointer (some ⟨l,0,none⟩),.pointer (some ⟨k,0,none⟩)] w (KG V N h j l k M 13 m s [] no true F)):=a
 have x:Aside (∀p n,V p=some n→may n=true):=fun p n h=>(B p n h).1
 haveI:=hs.i
 clear a r B R hm
 go_enter Tryz.func75,Tryz.ntmps75
 go_wp2_with fail
 with_reducible refine Calls.mono (v.out (w.heap.size+1+1+1) w.heap.size (w.heap.size+1+1+1+1) (w.heap.size+1+1) _ _ (Qe h s (w.heap.size+1+1+1) w.heap.size (w.heap.size+1+1+1+1) (w.heap.size+1+1) [])) ?_
 rintro e w2 ⟨s2,Z,U,f,D,c⟩
 have q3:=U.eq (JH h s2 (w.heap.size+1+1+1) w.heap.size (w.heap.size+1+1+1+1) (w.heap.size+1+1) Z _)
 haveI:=q3.i
 clear U hs
 rcases c with ⟨y,G,rfl,u,T,_,_,hr,hb⟩|⟨rfl,u,hr⟩
 ·have g:Aside (Ee V 13 no true=some y∧GC V G s2∧s2.sp=s.sp∧s2.ck.d=s.ck.d∧m≤G+13*N+13):=⟨u.at x.out (by simpa using T rfl),hr,f,D,by
   have:=bW N []
   simp only[if_true] at hb
   omega⟩
  obtain ⟨N6,o⟩:=Aq (w.heap.size+1)
  have Y:Aside (w.heap.size+1=N6):=o
  clear u T hr hb f D o
  obtain ⟨X,W,⟨H,I,J,K⟩,⟨L,b2,O,P⟩⟩:=y
  unfold VI
  simp only
  go_wp2
  go_returns
  have q8:=JO (w:=w2) (b:=w.heap.size+1) (e:=Hx) (c0:= .int .i64 0) (c1:= .int .i64 0) (c2:= .int .i64 0) (c3:= .int .i64 0) (c4:= .int .i64 0) (c5:= .int .i64 0) (c6:= .int .i64 0) (c7:= .int .i64 0) (c8:= .int .i64 0) (c9:= .int .i64 0) (v0:= .int .i64 X) (v1:= .int .i64 W) (v2:= .int .i64 H) (v3:= .int .i64 I) (v4:= .int .i64 J) (v5:= .int .i64 K) (v6:= .int .i64 L) (v7:= .int .i64 b2) (v8:= .int .i64 O) (v9:= .int .i64 P)
  haveI:=q8.i
  exact ⟨s2,Ap _ _,g.out.2.2.1,g.out.2.2.2.1,.inl ⟨⟨X,W,⟨H,I,J,K⟩,⟨L,b2,O,P⟩⟩,G,rfl,g.out.1,g.out.2.1,g.out.2.2.2.2⟩⟩
 exact ⟨rfl,s2,Ap _ _,f,D,.inr ⟨rfl,u,hr⟩⟩
def Y0(V:Int→Option Nd)(N:Nat)(h:Th)(m:Nat)(s:TS)(root:Int)(F:Ac)(e:Ending)(a:World):Prop:= ∃s' m',Sat (Ae h s'*F) a∧s'.sp=s.sp∧s'.ck.d=s.ck.d∧GC V m' s'∧
 e= .returned (.int .i64 (if (CM V root).ok then 0 else 13))∧((CM V root).ok=true→m≤m'+13*N+13)
theorem Xg(V:Int→Option Nd)(N:Nat)(h:Th)(m:Nat)(s:TS)(root:Int)(F:Ac)(w:World)(v: ∀p n,V p=some n→may n=true∧p<N)(u:GC V m s)(hm:13*N+182≤m)(hs:Sat (Ae h s*F) w):
 Calls Tryz.prog 17 #[.pointer (some ⟨h.t,0,none⟩),.int .i64 root] w (Y0 V N h m s root F):=by
 have a0: ∀(I:Fn)(first cap:Array Value)(w:World),(Instr.makeFunc I first cap).run Tryz.prog w= .ok (.func I first cap) w:=fun _ _ _ _=>rfl
 haveI:=hs.i
 by_cases r:root=0
 · subst r
   have O:Aside (GC V m s):=u
   clear u v hm hs
   go_enter_defers Tryz.func17,Tryz.ntmps17
   go_wp2
   refine leaves_cons (f:=73) (args:= #[.pointer (some ⟨w.heap.size,0,none⟩)]) (by simp) (by simp[go_sem]) ?_
   refine (Mx _ _).mono ?_
   rintro e K H ⟨rfl,rfl,rfl⟩
   simp[Leaves,settle,results,Tryz.results17,go_sem]
   exact ⟨s,m,Ap _ _,rfl,rfl,O.out,rfl,fun _=>by omega⟩
 have a5:((root:Int)==0)=false:=by simpa using r
 have a:Aside (∀p n,V p=some n→may n=true):=fun p n h=>(v p n h).1
 have o:=fun F w q=>Yl V N h m s root F w r v u hm q
 have k:Aside (∀F w,Sat (Ae h s*F) w→Calls Tryz.prog 75 #[.pointer (some ⟨h.t,0,none⟩),.int .i64 root,.bool true] w (Sc V N h m s root F)):=o
 have x:Aside ((CM V root).ok=true↔ ∃y,Ee V 13 root true=some y):=YL a.out r
 obtain ⟨E,J⟩:=Aq w.heap.size
 have HE:Aside (w.heap.size=E):=J
 clear o v u hm hs r J
 go_enter_defers Tryz.func17,Tryz.ntmps17
 go_wp2_with fail
 with_reducible refine Calls.mono (k.out _ _ (Af (Ae h s))) ?_
 rintro e L ⟨s2,q2,c,B,b⟩
 haveI:=q2.i
 rcases b with ⟨y,G,rfl,g,hr,hb⟩|⟨rfl,g,hr⟩
 · have D:fS y:=Ms.low a.out ⟨13,g⟩
   have z:y.count≤1024:=YK a.out g
   have j:Aside ((CM V root).ok=true∧GC V G s2∧s2.sp=s.sp∧s2.ck.d=s.ck.d∧m≤G+13*N+13):=⟨x.out.2 ⟨y,g⟩,hr,c,B,hb⟩
   clear g hr hb c B D k x
   obtain ⟨yh,M,⟨P,Q,R,T⟩,⟨U,b2,W,X⟩⟩:=y
   simp only at z
   unfold VI
   simp only
   have Y:decide ((1024:Int)<M)=false:=decide_eq_false (by omega)
   have Z:=fun w=>Xj yh M P Q R T U b2 W X w
   go_wp2
   refine leaves_cons (f:=73) (args:= #[.pointer (some ⟨w.heap.size,0,none⟩)]) (by simp) (by simp[go_sem]) ?_
   refine (Mx _ _).mono ?_
   rintro e K H ⟨rfl,rfl,rfl⟩
   simp[Leaves,settle,results,Tryz.results17,go_sem]
   exact ⟨s2,G,Ap _ _,j.out.2.2.1,j.out.2.2.2.1,j.out.2.1,by rw[j.out.1];rfl,fun _=>j.out.2.2.2.2⟩
 have l:(CM V root).ok=false:=by
  cases hq:(CM V root).ok with
  |false=>rfl
  | true =>
    obtain ⟨y,hy⟩:=x.out.1 hq
    rw[g] at hy
    cases hy
 show bodyPostD _ _ _ (.panic (C1 13)) _ L
 refine leaves_cons (f:=73) (args:= #[.pointer (some ⟨w.heap.size,0,none⟩)]) (by simp) (by simp[go_sem]) ?_
 refine (Pp w.heap.size 13 (.int .i64 0) _ L (Af (Sl.block w.heap.size EN [.int .i64 0]))).mono ?_
 rintro e K w3 ⟨rfl,rfl,q3⟩
 haveI:=q3.i
 simp[Leaves,settle,results,Tryz.results17,go_sem]
 exact ⟨s2,0,Ap _ _,c,B,hr,by rw[l];rfl,fun e=>by rw[l] at e;cases e⟩
