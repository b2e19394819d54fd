/- censusPages holds for every input. No condition. (part 55) -/
import Derived.Test.YtfhbmblbidcmmaaGreatVa54
set_option linter.all false
set_option maxRecDepth 100000
set_option maxHeartbeats 12800000
namespace Go.Proofs.YtfhbmblbidcmmaaGreat
open Go.RowKit Go.Sl Go.Dk Go.Tr
abbrev iW:TypeId:=232
structure MW where
 f:Int
 pos:Int
 n:Int
 a:Option Addr
 c:Nat
 put:List Ar
 K8:Int
 rt:Int
def fP(x:MW):List Value:= [.int .i64 x.f,.int .i64 x.pos,.int .i64 x.n,.slice x.a x.put.length x.c,.int .i64 x.K8,.int .i64 x.rt]
def oE(l:List MW):List Value:=l.flatMap fP
abbrev Ot(B:Ab)(v:Value)(l:List MW):Prop:=Aj 6 B v l.length (oE l)
theorem Ry{B:Ab}{a:Option Addr}{c:Nat}{l:List MW}(h:Ot B (.slice a l.length c) l){i:Nat}{x:MW}(hi:l[i]?=some x):
 ∃b o,a=some ⟨b,o,none⟩∧Mm B b (o+i*6) (.int .i64 x.f)∧Mm B b (o+i*6+1) (.int .i64 x.pos)∧Mm B b (o+i*6+2) (.int .i64 x.n)∧Mm B b (o+i*6+3) (.slice x.a x.put.length x.c)∧Mm B b (o+i*6+4) (.int .i64 x.K8)∧Mm B b (o+i*6+5) (.int .i64 x.rt):=by
 obtain ⟨b,o,e,r⟩:=Aj.row (f:=fP) (fun _=>rfl) (by omega) h hi
 exact ⟨b,o,e,r 0 _ rfl,r 1 _ rfl,r 2 _ rfl,r 3 _ rfl,r 4 _ rfl,r 5 _ rfl⟩
theorem jE: ∃i,C8 Tryz.prog 121 Mh 2 16 i (.agg #[.int .i64 0,.int .i64 0]):=Iq Tryz.underlying121 (by kernel_rfl) rfl (by omega)
def PR(ms:List (Int×List Ar)):List (Int×Int):=ms.map fun p=>(p.1,Aa p.2)
structure mJ (s0 s:TS) (ms:List (Int×List Ar)) (vs:List Value) (G:Ab) (i:Nat):Prop where
 pl:Ml s ms vs G
 inv:GP true s
 len:ms.length=i
 ops:60000000+(12-i)*5600≤AQ s
 room:5000+(12-i)*2600≤CB s.sp
 cap:Fy s0 s
def dZ(h:Th)(s0:TS)(b:Nat)(F:Ab)(e:Ending)(d:World):Prop:=
 (e= .returned (.tuple #[.slice none 0 0,.bool false])∧ ∃s',Sat (Ad h s'*(DP b h*F)) d)∨
 (∃(s':TS)(vl:List (Int×Int))(a:Option Addr)(c:Nat),e= .returned (.tuple #[.slice a vl.length c,.bool true])∧vl.length≤12∧GP true s'∧Clean s'.ck∧59000000≤AQ s'∧Fy s0 s'∧Sat (rw Mh 2 (.slice a vl.length c) (BD vl)*(Ad h s'*(DP b h*F))) d)
theorem n9(l:List Ar)(a b c d:Int):AO (l++ [⟨a,b,c,d⟩])=AO l++ [.int .i64 a,.int .i64 b,.int .i64 c,.int .i64 d]:=by simp[AO,Dw]
theorem Nk{a:Int}{out:List Ar}(h:(a≠0→out= [])∧(a=0→Gc out)): ∀x∈out,0≤x.len∧x.len≤1048576:=by
 by_cases b:a=0
 ·intro x hx
  have:=Cq ((h.2 b).1.1 x hx)
  omega
 simp_all
theorem TO{a:Int}{out:List Ar}(h:(a≠0→out= [])∧(a=0→Gc out)):out.length≤65536:=by
 by_cases b:a=0
 ·have:=(h.2 b).1.2.2
  omega
 simp_all
theorem Ve: ∀{vl:List (Int×Int)}{k:Nat}{r b:Int},vl[k]?=some (r,b)→ ∀z:Int,(BD vl).set (k*2+1) (.int .i64 z)=BD (vl.set k (r,z))
 | [],k,r,b,h,z=>by simp at h
 |p::vl,0,r,b,h,z=>by simp_all[BD,KX]
 | p :: vl, k + 1, r, b, h, z => by
  have c:=Ve (vl:=vl) (k:=k) (r:=r) (b:=b) (by simpa using h) z
  have e:BD (p::vl)=KX p++BD vl:=by simp[BD]
  have a:BD ((p::vl).set (k+1) (r,z))=KX p++BD (vl.set k (r,z)):=by simp[BD]
  grind [KX]
theorem Vd: ∀{vl:List (Int×Int)}{k:Nat}{r b:Int},vl[k]?=some (r,b)→ ∀z:Int,(BD vl).set (k*2) (.int .i64 z)=BD (vl.set k (z,b))
 | [],k,r,b,h,z=>by simp at h
 |p::vl,0,r,b,h,z=>by simp_all[BD,KX]
 | p :: vl, k + 1, r, b, h, z => by
  have c:=Vd (vl:=vl) (k:=k) (r:=r) (b:=b) (by simpa using h) z
  have e:BD (p::vl)=KX p++BD vl:=by simp[BD]
  have a:BD ((p::vl).set (k+1) (z,b))=KX p++BD (vl.set k (z,b)):=by simp[BD]
  grind [KX]
theorem SV{l put:List Ar}{at_ n:Int}(h:(Cn l at_ n put).1≠0):(Cn l at_ n put).2= []:=by grind [Cn]
theorem dQ{ms:List (Int×List Ar)}{j:Nat}{r:Int}{l:List Ar}(h:ms[j]?=some (r,l)):(PR ms)[j]?=some (r,Aa l):=by simp[PR,h]
theorem Tv(h : Th)(s0 : TS)(b : Nat)(V : Option Addr)(Z W : Nat)(M : Option Addr)(J O : Nat)(T : List UInt8)(cs : List MW)(v : Value)(Bp F : Ab)(w : World)(hI : GP true s0)(hf : 66000000 ≤ AQ s0)(em : 50000 ≤ CB s0.sp)(d6 : s0.ck.cap ≤ 1000)
 (hT:Reads Bp (.slice M J O) T) (d3:T.length=J) (ek:J≤3000) (hM:Ot Bp v cs) (d2: ∀c∈cs,Au Bp (.slice c.a c.put.length c.c) c.put) (e7:cs.length≤9223372036854775807)
 (hs:Sat (Ad h s0*(DP b h*(Bp*F))) w):
 Calls Tryz.prog 56 #[.pointer (some ⟨b,0,none⟩),v,.agg #[.slice V Z W,.slice M J O]] w (dZ h s0 b (Bp*F)):=by
 obtain ⟨_,av,cv,rfl,d8,fg,_⟩:=id hM
 obtain ⟨n,hn⟩:=Aq cs.length
 have HM:Aside (Ot Bp (.slice av cs.length cv) cs∧cs.length=n∧ ∀c∈cs,Au Bp (.slice c.a c.put.length c.c) c.put):=⟨hM,hn,d2⟩
 rw[hn] at d8 e7⊢
 have ds:Aside (∀(x1 x2 x3 x4:Int) F w,Sat (Bp*F) w→Calls Tryz.prog 121 #[.agg #[.int .i64 x1,.int .i64 x2,.int .i64 x3,.int .i64 x4],.agg #[.slice V Z W,.slice M J O]] w fun e o=> ∃y1 y2 y3 y4:Int,e= .returned (.agg #[.int .i64 y1,.int .i64 y2,.int .i64 y3,.int .i64 y4])∧Sat (Bp*F) o):=fun x1 x2 x3 x4 F w q=>YM x1 x2 x3 x4 V Z W M J O T Bp F w hT q ek d3
 have cw:Aside (mJ s0 s0 [] [] 1 0):=⟨⟨rfl,fun i v p h1 h2=>by cases h1⟩,hI,rfl,by omega,by omega,AZ.same _⟩
 obtain ⟨iV,EV⟩:=jE
 obtain ⟨iL,EL⟩:=jD
 obtain ⟨iE,EE⟩:=EW
 obtain ⟨NF,br⟩:=Aq w.heap.size
 unfold DP at hs
 have h0:=Sat.AE (e:=X7) (s:=1) (Sat.AE (e:=Mh) (s:=2) hs)
 haveI:=h0.i
 clear hM d2 hn hT d3 hs hI hf em
 go_enter Tryz.func56,Tryz.ntmps56
 go_wp2_with fail
 have q1:Sat (Ad h s0*(1*(rw Mh 2 (.slice none 0 0) (BD (PR []))*(rw X7 1 (.slice none 0 0) []*(Sl.block b K2 [.pointer (some ⟨h.D,0,none⟩),.pointer (some ⟨h.C,0,none⟩),.pointer (some ⟨h.t,0,none⟩)]*(Sl.block NF K5 [.slice V Z W,.slice M J O]*(Bp*F))))))) (w.alloc (.cells #[.slice V Z W,.slice M J O] K5)):=by
  rw[←br,Aw]
  show Sat (_*(rw Mh 2 (.slice none 0 0) []*_)) _
  exact Av (by ac_rfl)
 try rw[br]
 generalize w.alloc (.cells #[.slice V Z W,.slice M J O] K5)=w1 at q1⊢
 clear br h0 this
 haveI:=q1.i
 go_loopg [10,8,9] 12 (fun g ey t8 t9 wr=> ∃(i:Nat)(s:TS)(a1:Option Addr)(c1:Nat)(a2:Option Addr)(c2:Nat)(ms:List (Int×List Ar))(vs:List Value)(G:Ab),ey= .int .i64 i∧t8= .slice a1 i c1∧t9= .slice a2 i c2∧i≤12∧i≤n∧Aside (g=12-i)∧Aside (mJ s0 s ms vs G i)∧Sat (Ad h s*(G*(rw Mh 2 (.slice a1 i c1) (BD (PR ms))*(rw X7 1 (.slice a2 i c2) vs*(Sl.block b K2 [.pointer (some ⟨h.D,0,none⟩),.pointer (some ⟨h.C,0,none⟩),.pointer (some ⟨h.t,0,none⟩)]*(Sl.block NF K5 [.slice V Z W,.slice M J O]*(Bp*F))))))) wr)
 case atStart=>exact ⟨0,s0,none,0,none,0,[],[],1,rfl,rfl,rfl,by omega,by omega,rfl,cw,q1⟩
 clear q1 cw
 obtain ⟨i,s,a1,c1,a2,c2,ms,vs,G,rfl,rfl,rfl,hi,fy,A,P,q2⟩:=hrel
 haveI:=q2.i
 by_cases ed:i<n∧i<12
 · obtain ⟨ee, fv⟩ := ed
   have fw:(i:Int)<n:=by omega
   have fx:(i:Int)<12:=by omega
   obtain ⟨⟨k1,k2,k3,ap,cp,put,k5,k6⟩,hx⟩: ∃x,cs[i]?=some x:=⟨_,List.getElem?_eq_getElem (by rw[HM.out.2.1];exact ee)⟩
   obtain ⟨bm,om,e1,r0,r1,r2,r3,r4,r5⟩:=Ry HM.out.1 hx
   subst e1
   have hE:=HM.out.2.2 _ (List.mem_of_getElem? hx)
   simp only at hE r0 r1 r2 r3 r4 r5
   obtain ⟨_,_,e0,el,bz⟩:=hE.v
   cases e0
   obtain ⟨np,bx⟩:=Aq put.length
   have HE:Aside (Au Bp (.slice ap put.length cp) put∧put.length=np):=⟨hE,bx⟩
   rw[bx] at r3 el
   obtain ⟨NM,bs⟩:=Aq wr.heap.size
   clear hx hE bx
   by_cases eh:60<np
   · have ba:(60:Int)<np:=by omega
     go_wp2
     go_ret2
     exact .inl ⟨rfl,s,by unfold DP;exact Cx _ _ _ _⟩
   have ba: ¬(60:Int)<np:=by omega
   have h1:=Sat.AE (e:=AG) (s:=4) q2
   clear this
   haveI:=h1.i
   go_wp2_with fail
   have q3:Sat (rw AG 4 (.slice none 0 0) (AO [])*(Ad h s*(G*(rw Mh 2 (.slice a1 i c1) (BD (PR ms))*(rw X7 1 (.slice a2 i c2) vs*(Sl.block NM iW [.int .i64 k1,.int .i64 k2,.int .i64 k3,.slice ap np cp,.int .i64 k5,.int .i64 k6]*(Sl.block b K2 [.pointer (some ⟨h.D,0,none⟩),.pointer (some ⟨h.C,0,none⟩),.pointer (some ⟨h.t,0,none⟩)]*(Sl.block NF K5 [.slice V Z W,.slice M J O]*(Bp*F))))))))) (wr.alloc (.cells #[.int .i64 k1,.int .i64 k2,.int .i64 k3,.slice ap np cp,.int .i64 k5,.int .i64 k6] iW)):=by
    rw[←bs]
    show Sat (rw AG 4 (.slice none 0 0) []*_) _
    exact Av (by ac_rfl)
   try rw[bs]
   generalize wr.alloc (.cells #[.int .i64 k1,.int .i64 k2,.int .i64 k3,.slice ap np cp,.int .i64 k5,.int .i64 k6] iW)=w3 at q3⊢
   clear bs h1 q2 this
   haveI:=q3.i
   go_loopg [13,12] np (fun g f0 ez wx=> ∃(k:Nat)(f:Option Addr)(m:Nat)(d:List Ar),f0= .int .i64 k∧ez= .slice f k m∧k≤np∧Aside (g=np-k∧d.length=k)∧Sat (rw AG 4 (.slice f k m) (AO d)*(Ad h s*(G*(rw Mh 2 (.slice a1 i c1) (BD (PR ms))*(rw X7 1 (.slice a2 i c2) vs*(Sl.block NM iW [.int .i64 k1,.int .i64 k2,.int .i64 k3,.slice ap np cp,.int .i64 k5,.int .i64 k6]*(Sl.block b K2 [.pointer (some ⟨h.D,0,none⟩),.pointer (some ⟨h.C,0,none⟩),.pointer (some ⟨h.t,0,none⟩)]*(Sl.block NF K5 [.slice V Z W,.slice M J O]*(Bp*F))))))))) wx)
   case atStart=>exact ⟨0,none,0,[],rfl,rfl,by omega,⟨rfl,rfl⟩,q3⟩
   obtain ⟨k,f,m,d,rfl,rfl,hk,L,q4⟩:=hrel
   clear q3
   haveI:=q4.i
   by_cases bw:k<np
   · have be:(k:Int)<np:=by omega
     obtain ⟨⟨x1,x2,x3,x4⟩,hy⟩: ∃y,put[k]?=some y:=⟨_,List.getElem?_eq_getElem (by rw[HE.out.2];exact bw)⟩
     obtain ⟨bl,ol,e8,y1,y2,y3,y4⟩:=BN HE.out.1 hy
     subst e8
     simp only at y1 y2 y3 y4
     clear hy
     go_wp2_with fail
     go_region_held3 (fun o=>o.cell? ⟨NM,3,none⟩=some (.slice (some ⟨bl,ol,none⟩) np cp)∧o.cell? ⟨NF,0,none⟩=some (.slice V Z W)∧o.cell? ⟨NF,1,none⟩=some (.slice M J O)∧o.cell? ⟨bl,ol+k*4,none⟩=some (.int .i64 x1)∧o.cell? ⟨bl,ol+k*4+1,none⟩=some (.int .i64 x2)∧o.cell? ⟨bl,ol+k*4+2,none⟩=some (.int .i64 x3)∧o.cell? ⟨bl,ol+k*4+3,none⟩=some (.int .i64 x4)) (first|exact ⟨Ac _ _ _,Ac _ _ _,Ac _ _ _,Ac _ _ _,Ac _ _ _,Ac _ _ _,Ac _ _ _⟩) (first
      |(go_at_call 121;with_reducible refine Calls.mono (ds.out x1 x2 x3 x4 _ _ (Ae Bp)) ?_;rintro e w5 ⟨y1,y2,y3,y4,rfl,q5⟩;haveI:=q5.i)
      |(refine A5 EE rfl (.tmp 47) (.tmp 55) rfl rfl rfl (Ae (rw AG 4 (.slice f k m) (AO d))) (Src.new (e:=AG) (s:=4) (vs:= [.int .i64 y1,.int .i64 y2,.int .i64 y3,.int .i64 y4]) (Ae _) rfl (by intro u hu;simp at hu;rcases hu with rfl|rfl|rfl|rfl<;>rfl)) (by unfold maxLen;omega) (by omega) ?_;intro a9 c9 w9 ep dc;clear dc;haveI:=ep.i))
     all_goals
      go_wp2_with fail
      go_roundg (np-(k+1))
      case measure=>have:=L.out.1;omega
      case rel=>exact ⟨k+1,a9,c9,d++ [⟨y1,y2,y3,y4⟩],by go_num,rfl,by omega,⟨rfl,by rw[List.length_append,L.out.2];rfl⟩,by rw[n9];exact Nn _ _ _ _ _ _ _ _ _⟩
   have be: ¬(k:Int)<np:=by omega
   obtain rfl:np=k:=by omega
   have de:Au (rw AG 4 (.slice f np m) (AO d)) (.slice f np m) d:=by
    have:=Aj.rw q4 ⟨f,m,rfl⟩
    show Aj 4 _ _ d.length _
    rw[L.out.2]
    exact this
   have HQ:Aside (Au (rw AG 4 (.slice f np m) (AO d)) (.slice f np m) d∧d.length=np):=⟨de,L.out.2⟩
   have bj:Aside (∀F w,Sat (rw AG 4 (.slice f np m) (AO d)*F) w→Calls Tryz.prog 105 #[.slice f np m] w fun e o=>e= .returned (.bool (Bf d))∧Sat (rw AG 4 (.slice f np m) (AO d)*F) o):=fun F w q=>PC d (.slice f np m) (rw AG 4 (.slice f np m) (AO d)) F w HQ.out.1 q (by rw[HQ.out.2];omega)
   obtain ⟨mb,ei⟩:=Aq (Bf d)
   rw[ei] at bj
   clear de L bw be hk
   go_wp2_with fail
   with_reducible refine Calls.mono (bj.out _ _ (Ae (rw AG 4 (.slice f np m) (AO d)))) ?_
   rintro e w5 ⟨rfl,q5⟩
   haveI:=q5.i
   clear q4 bj
   cases mb with
   | false =>
     go_wp2
     go_ret2
     exact .inl ⟨rfl,s,by unfold DP;exact Cx _ _ _ _⟩
   | true =>
     obtain ⟨j,hj,fz⟩: ∃j:Nat,k1%((i:Int)+1)=(j:Int)∧j≤i:=⟨(k1%((i:Int)+1)).toNat,by have:=Int.emod_nonneg k1 (show (i:Int)+1≠0 by omega);omega,by have:=Int.emod_lt_of_pos k1 (show (0:Int)<(i:Int)+1 by omega);omega⟩
     have g8:=Bg ((i:Int)+1) (by omega)
     have ac:=fun w=>LP k1 ((i:Int)+1) w (by omega) (by omega)
     rw[hj] at ac
     clear hj
     go_wp2_with fail
     with_reducible refine Calls.mono (ac _) ?_
     rintro e w6 ⟨rfl,hw6⟩
     subst hw6
     clear ac
     obtain ⟨bA,d4⟩: ∃x:Bool,x=true↔ ∃r l,ms[j]?=some (r,l)∧0<r:=⟨@decide (∃r l,ms[j]?=some (r,l)∧0<r) (Classical.propDecidable _), @decide_eq_true_iff _ (Classical.propDecidable _)⟩
     have HA:Aside (bA=true↔ ∃r l,ms[j]?=some (r,l)∧0<r):=d4
     clear d4
     go_upto_region 19 with (fail)
     go_cut [77] (fun f4 wx=>f4= .bool bA∧Sat (rw AG 4 (.slice f np m) (AO d)*(Ad h s*(G*(rw Mh 2 (.slice a1 i c1) (BD (PR ms))*(rw X7 1 (.slice a2 i c2) vs*(Sl.block NM iW [.int .i64 k1,.int .i64 k2,.int .i64 k3,.slice ap np cp,.int .i64 k5,.int .i64 k6]*(Sl.block b K2 [.pointer (some ⟨h.D,0,none⟩),.pointer (some ⟨h.C,0,none⟩),.pointer (some ⟨h.t,0,none⟩)]*(Sl.block NF K5 [.slice V Z W,.slice M J O]*(Bp*F))))))))) wx)
     case first =>
      by_cases bu:j<i
      · have bd:(j:Int)<i:=by omega
        obtain ⟨⟨r,l⟩,hp⟩: ∃p,ms[j]?=some p:=⟨_,List.getElem?_eq_getElem (by rw[P.out.len];exact bu)⟩
        obtain ⟨ga,rfl⟩:=Dh (hs:=q5.take (rw Mh 2 (.slice a1 i c1) (BD (PR ms)))) (by omega)
        haveI:=q5.i
        haveI:At (BD (PR ms)) (j*2) (.int .i64 r):=⟨Fb (dQ hp) 0 (by omega)⟩
        by_cases hr:0<r
        · have hb:bA=true:=HA.out.2 ⟨r,l,hp,hr⟩
          subst hb
          clear hp
          go_wp2
          go_meet
          exact ⟨rfl,Nn _ _ _ _ _ _ _ _ _⟩
        have hb:bA=false:=by
         cases bA with
         |false=>rfl
         | true =>
           obtain ⟨H,l',h1,h2⟩:=HA.out.1 rfl
           rw[hp] at h1
           cases h1
           exact absurd h2 hr
        subst hb
        clear hp
        go_wp2
        go_meet
        exact ⟨rfl,Nn _ _ _ _ _ _ _ _ _⟩
      have bd: ¬(j:Int)<i:=by omega
      have hb:bA=false:=by
       cases bA with
       |false=>rfl
       | true =>
         obtain ⟨H,l',h1,h2⟩:=HA.out.1 rfl
         rw[List.getElem?_eq_none (by rw[P.out.len];omega)] at h1
         cases h1
      subst hb
      go_wp2
      go_meet
      exact ⟨rfl,Nn _ _ _ _ _ _ _ _ _⟩
     obtain ⟨rfl,q6⟩:=hcut
     clear q5 this
     haveI:=q6.i
     go_upto_if 77 with (fail)
     go_cut [14,15,16] (fun c6 c7 f1 wx=> ∃(H I:Int)(out:List Ar)(mo:Nat)(ao:Option Addr)(co:Nat)(s1:TS)(Q:Ab),c6= .int .i64 H∧c7= .int .i64 I∧f1= .slice ao mo co∧Aside (Qa s s1 200 2600∧(I=0→Rt (nodeAt s1) H out∧Gc out)∧Au (Q*G) (.slice ao mo co) out∧out.length=mo∧(∀x∈out,0≤x.len∧x.len≤1048576)∧out.length≤65536)∧Sat (Ad h s1*(Q*(G*(rw Mh 2 (.slice a1 i c1) (BD (PR ms))*(rw X7 1 (.slice a2 i c2) vs*(Sl.block NM iW [.int .i64 k1,.int .i64 k2,.int .i64 k3,.slice ap np cp,.int .i64 k5,.int .i64 k6]*(Sl.block b K2 [.pointer (some ⟨h.D,0,none⟩),.pointer (some ⟨h.C,0,none⟩),.pointer (some ⟨h.t,0,none⟩)]*(Sl.block NF K5 [.slice V Z W,.slice M J O]*(Bp*F))))))))) wx)
     case first =>
      cases bA with
      | true => as_aux_lemma =>
        obtain ⟨r,l,hp,hr⟩:=HA.out.1 rfl
        have bu:j<i:=by have:=(List.getElem?_eq_some_iff.1 hp).1;rw[P.out.len] at this;exact this
        have bd:(j:Int)<i:=by omega
        obtain ⟨vj,H,l',hv,en,au,df,hg,aw⟩:=P.out.pl.at (i:=j) (by rw[P.out.len];exact bu)
        rw[hp] at aw
        cases aw
        obtain ⟨al,cl,rfl,eg,g5⟩:=au.v
        have bt:=hg.1.1
        have ec:=hg.1.2.2
        have es:Aa l≤1048576:=hg.1.2.1
        have er:0≤Aa l:=by have:=Bq bt;omega
        have d1: ∀h:Nat,2*4^h≤l.length→h≤4:=fun q hq=>by
         rcases Nat.lt_or_ge 4 q with h1|h1
         · have:4^5≤4^q:=Nat.pow_le_pow_right (by omega) h1
           omega
         exact h1
        obtain ⟨ga,rfl⟩:=Dh (hs:=q6.take (rw Mh 2 (.slice a1 i c1) (BD (PR ms)))) (by omega)
        obtain ⟨gb,rfl⟩:=Dh (hs:=q6.take (rw X7 1 (.slice a2 i c2) vs)) (by omega)
        have b8:Aside (∀F w,Sat (G*F) w→Calls Tryz.prog 31 #[.slice al l.length cl] w fun e o=>e= .returned (.int .i64 (Aa l))∧Sat (G*F) o):=fun F w q=>Kf l (.slice al l.length cl) G F w au q (by omega) (fun x hx=>by have:=Cq (bt x hx);omega)
        have cy:Aside (∀(at_ n':Int) F w,Sat (Ad h s*(rw AG 4 (.slice f np m) (AO d)*F)) w→Calls Tryz.prog 33 #[.pointer (some ⟨h.t,0,none⟩),.int .i64 r,.int .i64 at_,.int .i64 n',.slice f np m] w fun e o=> ∃(H:Int)(s1:TS),e= .returned (.tuple #[.int .i64 H,.int .i64 (Cn l at_ n' d).1])∧Sat (Ad h s1*(rw AG 4 (.slice f np m) (AO d)*F)) o∧Aside (Qa s s1 200 2600∧((Cn l at_ n' d).1=0→Rt (nodeAt s1) H (Cn l at_ n' d).2))):=fun at_ n' F w q=>(Vt h s r at_ n' l d (.slice f np m) (rw AG 4 (.slice f np m) (AO d)) F w HQ.out.1 q (by rw[HQ.out.2];omega) P.out.inv df hg.2 4 (by omega) d1 (by have:=P.out.room;omega) (by have:=P.out.ops;omega)).mono fun e o ⟨H,s1,g1,g2,g3,g4,_⟩=>⟨H,s1,g1,g2,g3.more (by omega) (by omega),g4⟩
        have bn:Aside (∀(at_ n':Int) F w,Sat (G*(rw AG 4 (.slice f np m) (AO d)*F)) w→Calls Tryz.prog 40 #[.slice al l.length cl,.int .i64 at_,.int .i64 n',.slice f np m] w (Hc G (G*rw AG 4 (.slice f np m) (AO d)) F (Cn l at_ n' d))):=fun at_ n' F w q=>Vj l d at_ n' (.slice al l.length cl) (.slice f np m) G (G*rw AG 4 (.slice f np m) (AO d)) F w au (Aj.left au) (Aj.right HQ.out.1) (q.eq (Ax _ _ _).symm) hg (by rw[HQ.out.2];omega)
        have aa:Aside (∀at_ n':Int,((Cn l at_ n' d).1≠0→(Cn l at_ n' d).2= [])∧((Cn l at_ n' d).1=0→Gc (Cn l at_ n' d).2)):=fun at_ n'=>⟨SV,SU hg⟩
        obtain ⟨nl,dd⟩:=Aq l.length
        obtain ⟨z,hz⟩:=Aq (Aa l)
        rw[hz] at b8 er es
        have dg:(BD (PR ms))[j*2]?=some (.int .i64 r):=Fb (dQ hp) 0 (by omega)
        rw[dd] at b8 bn eg hv
        haveI:=q6.i
        haveI:At (BD (PR ms)) (j*2) (.int .i64 r):=⟨dg⟩
        haveI:At vs j (.slice al nl cl):=⟨hv⟩
        obtain ⟨p2,bz,g6,g7⟩: ∃y:Int,k2%(z+1)=y∧0≤y∧y≤z:=⟨_,rfl,Int.emod_nonneg k2 (by omega),by have:=Int.emod_lt_of_pos k2 (show (0:Int)<z+1 by omega);omega⟩
        have hw1:=Bg (z+1) (by omega)
        have hw2:=Bg (z-p2) (by omega)
        have hw3:=Bg (z-p2+1) (by omega)
        have XO:=fun w=>LP k2 (z+1) w (by omega) (by omega)
        have bv:=fun w=>LP k3 (z-p2+1) w (by omega) (by omega)
        rw[bz] at XO
        obtain ⟨n2,db⟩: ∃y:Int,k3%(z-p2+1)=y:=⟨_,rfl⟩
        rw[db] at bv
        clear hp hv en au df hg bt ec d1 dg bz db dd hz
        go_wp2_with fail
        with_reducible refine Calls.mono (b8.out _ _ (Ae G)) ?_
        rintro e w7 ⟨rfl,q7⟩
        haveI:=q7.i
        clear q6 b8
        go_wp2_with fail
        with_reducible refine Calls.mono (XO _) ?_
        rintro e w8 ⟨rfl,hw8⟩
        subst hw8
        go_wp2_with fail
        with_reducible refine Calls.mono (bv _) ?_
        rintro e w8 ⟨rfl,hw8⟩
        subst hw8
        clear XO bv
        go_wp2_with fail
        obtain ⟨⟨I,out⟩,ar⟩:=Aq (Cn l p2 n2 d)
        have aj:=cy.out p2 n2
        have ah:=bn.out p2 n2
        have ag:=aa.out p2 n2
        rw[ar] at aj ah ag
        have cx:Aside (∀F w,Sat (Ad h s*(rw AG 4 (.slice f np m) (AO d)*F)) w→Calls Tryz.prog 33 #[.pointer (some ⟨h.t,0,none⟩),.int .i64 r,.int .i64 p2,.int .i64 n2,.slice f np m] w fun e o=> ∃(H:Int)(s1:TS),e= .returned (.tuple #[.int .i64 H,.int .i64 I])∧Sat (Ad h s1*(rw AG 4 (.slice f np m) (AO d)*F)) o∧Aside (Qa s s1 200 2600∧(I=0→Rt (nodeAt s1) H out))):=aj
        have dw:Aside (∀F w,Sat (G*(rw AG 4 (.slice f np m) (AO d)*F)) w→Calls Tryz.prog 40 #[.slice al nl cl,.int .i64 p2,.int .i64 n2,.slice f np m] w (Hc G (G*rw AG 4 (.slice f np m) (AO d)) F (I,out))):=ah
        have U:Aside ((I≠0→out= [])∧(I=0→Gc out)):=ag
        clear cy bn aa aj ah ag ar
        go_cut [14,15] (fun c6 c7 wx=> ∃(H:Int)(s1:TS),c6= .int .i64 H∧c7= .int .i64 I∧Aside (Qa s s1 200 2600∧(I=0→Rt (nodeAt s1) H out))∧Sat (rw AG 4 (.slice f np m) (AO d)*(Ad h s1*(G*(rw Mh 2 (.slice (some ⟨ga,0,none⟩) i c1) (BD (PR ms))*(rw X7 1 (.slice (some ⟨gb,0,none⟩) i c2) vs*(Sl.block NM iW [.int .i64 k1,.int .i64 k2,.int .i64 k3,.slice ap np cp,.int .i64 k5,.int .i64 k6]*(Sl.block b K2 [.pointer (some ⟨h.D,0,none⟩),.pointer (some ⟨h.C,0,none⟩),.pointer (some ⟨h.t,0,none⟩)]*(Sl.block NF K5 [.slice V Z W,.slice M J O]*(Bp*F))))))))) wx)
        case first=>
         go_region_held3 (fun o=>o.cell? ⟨b,2,none⟩=some (.pointer (some ⟨h.t,0,none⟩))∧o.cell? ⟨ga,j*2,none⟩=some (.int .i64 r)) (first|exact ⟨Ac _ _ _,Ac _ _ _⟩) (first
          |(go_at_call 33;with_reducible refine Calls.mono (cx.out _ _ (Bh (Ad h s) (rw AG 4 (.slice f np m) (AO d)))) ?_;rintro e w9 ⟨H,s1,rfl,q9,eo⟩;haveI:=q9.i))
         all_goals
          go_wp2_with fail
          go_meet
          exact ⟨H,s1,rfl,rfl,eo,Nn _ _ _ _ _ _ _ _ _⟩
        obtain ⟨H,s1,rfl,rfl,ai,q9⟩:=hcut
        clear q7 cx this
        haveI:=q9.i
        go_wp2_with fail
        with_reducible refine Calls.mono (dw.out _ _ (Bh G (rw AG 4 (.slice f np m) (AO d)))) ?_
        rintro e f5 ⟨ao,co,Q,rfl,Y,ay⟩
        simp only at Y ay⊢
        obtain ⟨mo,X⟩:=Aq out.length
        have K:Aside (Au (Q*G) (.slice ao out.length co) out∧out.length=mo):=⟨Y,X⟩
        rw[X]
        haveI:=ay.i
        clear Y X
        go_wp2_with fail
        go_meet
        refine ⟨H,I,out,mo,ao,co,s1,Q,rfl,rfl,rfl,⟨ai.out.1,fun hc=>⟨ai.out.2 hc,U.out.2 hc⟩,by have:=K.out.1;rwa [K.out.2] at this,K.out.2,Nk U.out,TO U.out⟩,Nn _ _ _ _ _ _ _ _ _⟩
      | false => as_aux_lemma =>
        have b7:Aside (∀F w,Sat (Ad h s*(rw AG 4 (.slice f np m) (AO d)*F)) w→Calls Tryz.prog 23 #[.pointer (some ⟨h.t,0,none⟩),.slice f np m] w fun e o=> ∃(H:Int)(s1:TS),e= .returned (.tuple #[.int .i64 H,.int .i64 (CV d).1])∧Sat (Ad h s1*(rw AG 4 (.slice f np m) (AO d)*F)) o∧Aside (Qa s s1 200 2600∧((CV d).1=0→Rt (nodeAt s1) H (CV d).2))):=fun F w q=>(eL h s d (.slice f np m) (rw AG 4 (.slice f np m) (AO d)) F w HQ.out.1 q P.out.inv (by rw[HQ.out.2];omega) (by have:=P.out.room;omega) (by have:=P.out.ops;omega)).mono fun e o ⟨H,s1,g1,g2,g3,g4,_⟩=>⟨H,s1,g1,g2,g3.more (by omega) (by omega),g4⟩
        have cu:Aside (∀F w,Sat (rw AG 4 (.slice f np m) (AO d)*F) w→Calls Tryz.prog 114 #[.slice f np m] w (Hc (rw AG 4 (.slice f np m) (AO d)) (rw AG 4 (.slice f np m) (AO d)) F (CV d))):=fun F w q=>WO d (.slice f np m) (rw AG 4 (.slice f np m) (AO d)) F w HQ.out.1 q (by rw[HQ.out.2];omega)
        have aa:Aside (((CV d).1≠0→(CV d).2= [])∧((CV d).1=0→Gc (CV d).2)):=⟨VV,Tx⟩
        obtain ⟨⟨I,out⟩,ar⟩:=Aq (CV d)
        rw[ar] at b7 cu aa
        have U:Aside ((I≠0→out= [])∧(I=0→Gc out)):=aa.out
        have b7:Aside (∀F w,Sat (Ad h s*(rw AG 4 (.slice f np m) (AO d)*F)) w→Calls Tryz.prog 23 #[.pointer (some ⟨h.t,0,none⟩),.slice f np m] w fun e o=> ∃(H:Int)(s1:TS),e= .returned (.tuple #[.int .i64 H,.int .i64 I])∧Sat (Ad h s1*(rw AG 4 (.slice f np m) (AO d)*F)) o∧Aside (Qa s s1 200 2600∧(I=0→Rt (nodeAt s1) H out))):=b7.out
        clear aa ar
        go_wp2_with fail
        with_reducible refine Calls.mono (b7.out _ _ (Bh (Ad h s) (rw AG 4 (.slice f np m) (AO d)))) ?_
        rintro e w9 ⟨H,s1,rfl,q9,ai⟩
        haveI:=q9.i
        clear q6
        go_wp2_with fail
        with_reducible refine Calls.mono (cu.out _ _ (Ae (rw AG 4 (.slice f np m) (AO d)))) ?_
        rintro e f5 ⟨ao,co,Q,rfl,Y,ay⟩
        simp only at Y ay⊢
        obtain ⟨mo,X⟩:=Aq out.length
        have K:Aside (Au (Q*rw AG 4 (.slice f np m) (AO d)) (.slice ao out.length co) out∧out.length=mo):=⟨Y,X⟩
        rw[X]
        haveI:=ay.i
        clear Y X q9
        go_wp2_with fail
        go_meet
        refine ⟨H,I,out,mo,ao,co,s1,Q*rw AG 4 (.slice f np m) (AO d),rfl,rfl,rfl,⟨ai.out.1,fun hc=>⟨ai.out.2 hc,U.out.2 hc⟩,by have:=Aj.left (B:=G) K.out.1;rw[K.out.2] at this;show Aj 4 _ _ out.length _;rw[K.out.2];exact this,K.out.2,Nk U.out,TO U.out⟩,?_⟩
        rw[Ax]
        exact jJ _ _ _ _ _ _ _ _ _ _
     obtain ⟨H,I,out,mo,ao,co,s1,Q,rfl,rfl,rfl,HO,q7⟩:=hcut
     clear q6 this
     haveI:=q7.i
     by_cases d7:I=0
     · subst d7
       have bp:Aside (∀F w,Sat (Q*(G*F)) w→Calls Tryz.prog 31 #[.slice ao mo co] w fun e o=>e= .returned (.int .i64 (Aa out))∧Sat (Q*(G*F)) o):=fun F w q=>by
        have h9:=HO.out.2.2.1
        have e9:=HO.out.2.2.2.1
        subst e9
        refine (Kf out (.slice ao out.length co) (Q*G) F w h9 (q.eq (Ax _ _ _).symm) HO.out.2.2.2.2.2 HO.out.2.2.2.2.1).mono ?_
        rintro e o ⟨rfl,q'⟩
        exact ⟨rfl,q'.eq (Ax _ _ _)⟩
       have bk:Aside (mJ s0 s1 (ms++ [(H,out)]) (vs++ [.slice ao mo co]) (Q*G) (i+1)∧BD (PR (ms++ [(H,out)]))=BD (PR ms)++ [.int .i64 H,.int .i64 (Aa out)]):=⟨⟨by
        have h9:=HO.out.2.2.1
        have e9:=HO.out.2.2.2.1
        subst e9
        exact P.out.pl.more HO.out.1.le h9 (HO.out.2.1 rfl).1 (HO.out.2.1 rfl).2,HO.out.1.inv,by rw[List.length_append,P.out.len];rfl,by have:=HO.out.1.left;have:=P.out.ops;omega,by have:=HO.out.1.room;have:=P.out.room;omega,AZ.next _ _ _ P.out.cap HO.out.1.cap⟩,by simp[PR,BD,KX]⟩
       obtain ⟨zo,di⟩:=Aq (Aa out)
       rw[di] at bp bk
       clear di
       go_wp2_with fail
       with_reducible refine Calls.mono (bp.out _ _ (Bh Q G)) ?_
       rintro e w9 ⟨rfl,q9⟩
       haveI:=q9.i
       clear q7 bp
       go_wp2_with (at_builtin;first|(refine Af EV rfl (.tmp 138) (.tmp 143) rfl rfl rfl (Ae (rw Mh 2 (.slice a1 i c1) (BD (PR ms)))) (Src.new (e:=Mh) (s:=2) (vs:= [.int .i64 H,.int .i64 zo]) (Ae _) rfl (by intro u hu;simp at hu;rcases hu with rfl|rfl<;>rfl)) (by unfold maxLen;omega) (by omega) ?_;intro a3 c3 gh et f7;clear f7;haveI:=et.i)|(refine Af EL rfl (.tmp 145) (.tmp 147) rfl rfl rfl (Ae (rw X7 1 (.slice a2 i c2) vs)) (Src.new (e:=X7) (s:=1) (vs:= [.slice ao mo co]) (Ae _) rfl (by intro u hu;simp at hu;rcases hu with rfl;rfl)) (by unfold maxLen;omega) (by omega) ?_;intro a4 c4 gi eu f8;clear f8;haveI:=eu.i))
       go_roundg (12-(i+1))
       case measure=>have:=A.out;omega
       refine ⟨i+1,s1,a3,c3,a4,c4,ms++ [(H,out)],vs++ [Value.slice ao mo co],Q*G,by go_num,rfl,rfl,by omega,by omega,rfl,bk.out.1,?_⟩
       rw[bk.out.2,Ax]
       exact Nn _ _ _ _ _ _ _ _ _
     have ff:(I !=0)=true:=by simp[d7]
     go_wp2
     go_ret2
     exact .inl ⟨rfl,s1,by unfold DP;exact Cx _ _ _ _⟩
 have ax:(¬(i:Int)<n)∨((i:Int)<n∧ ¬(i:Int)<12):=by omega
 go_upto_region 4 with (fail)
 go_cut [29] (fun f3 wx=>f3= .bool false∧Sat (Ad h s*(G*(rw Mh 2 (.slice a1 i c1) (BD (PR ms))*(rw X7 1 (.slice a2 i c2) vs*(Sl.block b K2 [.pointer (some ⟨h.D,0,none⟩),.pointer (some ⟨h.C,0,none⟩),.pointer (some ⟨h.t,0,none⟩)]*(Sl.block NF K5 [.slice V Z W,.slice M J O]*(Bp*F))))))) wx)
 case first=>
  rcases ax with h1|⟨h1,h2⟩
  all_goals
   go_wp2
   go_meet
   exact ⟨rfl,aF _ _ _ _ _ _ _ _⟩
 obtain ⟨rfl,q3⟩:=hcut
 have hf:=TG P.out.inv (by have:=P.out.ops;unfold AQ BG at this;unfold BG;omega)
 have d9:=fun F w q=>Wi h s F w P.out.inv (by have:=P.out.ops;unfold AQ BG at this;unfold BG;omega) (by rw[P.out.cap.cap];exact d6) q
 have R:Aside ((∀F w,Sat (Ad h s*F) w→Calls Tryz.prog 36 #[.pointer (some ⟨h.C,0,none⟩)] w fun e o=>e= .returned (.int .i64 0)∧Sat (Ad h s.Ls*F) o)∧J' s s.Ls∧60000000≤AQ s∧Fy s0 s):=⟨d9,hf,by have:=P.out.ops;omega,P.out.cap⟩
 have cz:Aside ((PR ms).length=i∧ ∀q p,0≤q→(PR ms)[q]?=some p→0≤p.2∧p.2≤1048576):=⟨by unfold PR;rw[List.length_map,P.out.len],fun q p _ hp=>by
  obtain ⟨⟨r,l⟩,h1,rfl⟩:=List.mem_map.1 (List.mem_of_getElem? hp)
  obtain ⟨q2,h2⟩:=List.getElem?_of_mem h1
  have hq:=(List.getElem?_eq_some_iff.1 h2).1
  obtain ⟨_,_,_,_,_,_,_,hg,aw⟩:=P.out.pl.at hq
  rw[h2] at aw
  cases aw
  have h3:=hg.1.2.1
  have h4:=Bq hg.1.1
  simp only
  omega⟩
 haveI:=q3.i
 clear q2 ax A hf d9 P
 go_wp2_with fail
 go_loopg [21] i (fun g f2 wx=> ∃(k:Nat)(vl:List (Int×Int)),f2= .int .i64 k∧k≤i∧Aside (g=i-k∧vl.length=i∧ ∀q p,k≤q→vl[q]?=some p→0≤p.2∧p.2≤1048576)∧Sat (Ad h s*(G*(rw Mh 2 (.slice a1 i c1) (BD vl)*(rw X7 1 (.slice a2 i c2) vs*(Sl.block b K2 [.pointer (some ⟨h.D,0,none⟩),.pointer (some ⟨h.C,0,none⟩),.pointer (some ⟨h.t,0,none⟩)]*(Sl.block NF K5 [.slice V Z W,.slice M J O]*(Bp*F))))))) wx)
 case atStart=>exact ⟨0,PR ms,rfl,by omega,⟨rfl,cz.out.1,cz.out.2⟩,q3⟩
 obtain ⟨k,vl,rfl,hk,L,q4⟩:=hrel
 clear q3
 haveI:=q4.i
 by_cases ef:k<i
 · have da:(k:Int)<i:=by omega
   have bw:(k:Int)<n:=by omega
   obtain ⟨⟨k1,k2,k3,ap,cp,put,k5,k6⟩,hx⟩: ∃x,cs[k]?=some x:=⟨_,List.getElem?_eq_getElem (by rw[HM.out.2.1];omega)⟩
   obtain ⟨bm,om,e1,r0,r1,r2,r3,r4,r5⟩:=Ry HM.out.1 hx
   subst e1
   simp only at r4 r5
   obtain ⟨⟨ro,bo⟩,hv⟩: ∃p,vl[k]?=some p:=⟨_,List.getElem?_eq_getElem (by rw[L.out.2.1];exact ef)⟩
   obtain ⟨ea,eb⟩:=L.out.2.2 k _ (Nat.le_refl _) hv
   simp only at ea eb
   obtain ⟨ga,rfl⟩:=Dh (hs:=q4.take (rw Mh 2 (.slice a1 i c1) (BD vl))) (by omega)
   obtain ⟨y,hy,hy0,hy1⟩: ∃y:Int,k5%100=y∧0≤y∧y<100:=⟨_,rfl,Int.emod_nonneg k5 (by omega),Int.emod_lt_of_pos k5 (by omega)⟩
   have ac:=fun w=>LP k5 100 w (by omega) (by omega)
   rw[hy] at ac
   have hw1:=Bg (bo+y) (by omega)
   haveI:=q4.i
   have i0:At (BD vl) (k*2) (.int .i64 ro):=⟨Fb hv 0 (by omega)⟩
   have i1:At (BD vl) (k*2+1) (.int .i64 bo):=⟨Fb hv 1 (by omega)⟩
   haveI:=i0
   haveI:=i1
   have HV:Aside (vl[k]?=some (ro,bo)):=hv
   have hz: ∀z:Int,(BD vl).set (k*2+1) (.int .i64 z)=BD (vl.set k (ro,z)):=fun z=>Ve hv z
   clear hv hx hy r0 r1 r2 r3
   have i2:At ((BD vl).set (k*2+1) (.int .i64 (bo+y))) (k*2) (.int .i64 ro):=⟨by rw[List.getElem?_set_ne (by omega)];exact Fb HV.out 0 (by omega)⟩
   haveI:=i2
   have dh: ∀z:Int,((BD vl).set (k*2+1) (.int .i64 (bo+y))).set (k*2) (.int .i64 z)=BD ((vl.set k (ro,bo+y)).set k (z,bo+y)):=fun z=>by
    rw[hz]
    exact Vd (by rw[List.getElem?_set_self (List.getElem?_eq_some_iff.1 HV.out).1]) z
   have HZ:Aside ((∀z:Int,(BD vl).set (k*2+1) (.int .i64 z)=BD (vl.set k (ro,z)))∧ ∀z:Int,((BD vl).set (k*2+1) (.int .i64 (bo+y))).set (k*2) (.int .i64 z)=BD ((vl.set k (ro,bo+y)).set k (z,bo+y))):=⟨hz,dh⟩
   have du:Aside (∀z:Int×Int,(vl.set k z).length=i∧ ∀q p,k+1≤q→(vl.set k z)[q]?=some p→0≤p.2∧p.2≤1048576):=fun z=>⟨by rw[List.length_set];exact L.out.2.1,fun q p hq hp=>by
    rw[List.getElem?_set_ne (by omega)] at hp
    exact L.out.2.2 q p (by omega) hp⟩
   have dv:Aside (∀z u:Int×Int,((vl.set k z).set k u).length=i∧ ∀q p,k+1≤q→((vl.set k z).set k u)[q]?=some p→0≤p.2∧p.2≤1048576):=fun z u=>⟨by rw[List.length_set,List.length_set];exact L.out.2.1,fun q p hq hp=>by
    rw[List.getElem?_set_ne (by omega),List.getElem?_set_ne (by omega)] at hp
    exact L.out.2.2 q p (by omega) hp⟩
   clear hz dh
   go_wp2_with fail
   refine Dr.Ii (fun o=>o.cell? ⟨ga,k*2+1,none⟩=some (.int .i64 bo)∧o.cell? ⟨bm,om+k*6+4,none⟩=some (.int .i64 k5)) [14,15,16] (by kernel_rfl) ⟨Ac _ _ _,Ac _ _ _⟩ (fun an=>?_)
   refine Dr.AL 0 (v:=?v0) (by simp only[List.getElem?_toArray,List.getElem?_cons_succ,List.getElem?_cons_zero];rfl) (by kernel_rfl) ?hQ0 (.inl ⟨?hw0,fun o=>?hy0⟩) ?_
   case hy0=>go_simp;try (with_reducible rfl)
   case hQ0=>exact fun _ _ _ h=>h
   case hw0=>rfl
   simp only[Act.put,List.setIfInBounds_toArray,List.set_cons_zero,List.set_cons_succ]
   refine Dr.AL 1 (v:=?v1) (by simp only[List.getElem?_toArray,List.getElem?_cons_succ,List.getElem?_cons_zero];rfl) (by kernel_rfl) ?hQ1 (.inl ⟨?hw1,fun o=>?hy1⟩) ?_
   case hy1=>go_simp;try (with_reducible rfl)
   case hQ1=>exact fun _ _ _ h=>h
   case hw1=>rfl
   simp only[Act.put,List.setIfInBounds_toArray,List.set_cons_zero,List.set_cons_succ]
   refine Dr.AL 2 (v:=?v2) (by simp only[List.getElem?_toArray,List.getElem?_cons_succ,List.getElem?_cons_zero];rfl) (by kernel_rfl) ?hQ2 (.inl ⟨?hw2,fun o=>?hy2⟩) ?_
   case hy2=>go_simp;try (with_reducible rfl)
   case hQ2=>exact fun _ _ _ h=>h
   case hw2=>rfl
   simp only[Act.put,List.setIfInBounds_toArray,List.set_cons_zero,List.set_cons_succ]
   refine Dr.AL 3 (v:=?v3) (by simp only[List.getElem?_toArray,List.getElem?_cons_succ,List.getElem?_cons_zero];rfl) (by kernel_rfl) ?hQ3 (.inl ⟨?hw3,fun o=>?hy3⟩) ?_
   case hy3=>go_simp;try (with_reducible rfl)
   case hQ3=>exact fun _ _ _ h=>h
   case hw3=>rfl
   simp only[Act.put,List.setIfInBounds_toArray,List.set_cons_zero,List.set_cons_succ]
   refine Dr.AL 4 (v:=?v4) (by simp only[List.getElem?_toArray,List.getElem?_cons_succ,List.getElem?_cons_zero];rfl) (by kernel_rfl) ?hQ4 (.inl ⟨?hw4,fun o=>?hy4⟩) ?_
   case hy4=>go_simp;try (with_reducible rfl)
   case hQ4=>exact fun _ _ _ h=>h
   case hw4=>rfl
   simp only[Act.put,List.setIfInBounds_toArray,List.set_cons_zero,List.set_cons_succ]
   refine Dr.AL 5 (v:=?v5) (by simp only[List.getElem?_toArray,List.getElem?_cons_succ,List.getElem?_cons_zero];rfl) (by kernel_rfl) ?hQ5 (.inl ⟨?hw5,fun o=>?hy5⟩) ?_
   case hy5=>go_simp;try (with_reducible rfl)
   case hQ5=>exact fun _ _ _ h=>h
   case hw5=>rfl
   simp only[Act.put,List.setIfInBounds_toArray,List.set_cons_zero,List.set_cons_succ]
   refine Dr.Fh 6 (v:=?v6) (by simp only[List.getElem?_toArray,List.getElem?_cons_succ,List.getElem?_cons_zero];rfl) (by kernel_rfl) ?hQ6 (.inl ⟨?hw6,fun o hw=>?hy6⟩) an ?_
   case hy6=>(try dsimp only at hw);go_simp;try (with_reducible rfl)
   case hQ6=>exact fun _ _ _ h=>h
   case hw6=>rfl
   simp only[Act.put,List.setIfInBounds_toArray,List.set_cons_zero,List.set_cons_succ]
   refine Dr.AL 7 (v:=?v7) (by simp only[List.getElem?_toArray,List.getElem?_cons_succ,List.getElem?_cons_zero];rfl) (by kernel_rfl) ?hQ7 (.inl ⟨?hw7,fun o=>?hy7⟩) ?_
   case hy7=>go_simp;try (with_reducible rfl)
   case hQ7=>exact fun _ _ _ h=>h
   case hw7=>rfl
   simp only[Act.put,List.setIfInBounds_toArray,List.set_cons_zero,List.set_cons_succ]
   refine Dr.AL 8 (v:=?v8) (by simp only[List.getElem?_toArray,List.getElem?_cons_succ,List.getElem?_cons_zero];rfl) (by kernel_rfl) ?hQ8 (.inl ⟨?hw8,fun o=>?hy8⟩) ?_
   case hy8=>go_simp;try (with_reducible rfl)
   case hQ8=>exact fun _ _ _ h=>h
   case hw8=>rfl
   simp only[Act.put,List.setIfInBounds_toArray,List.set_cons_zero,List.set_cons_succ]
   refine Dr.AL 9 (v:=?v9) (by simp only[List.getElem?_toArray,List.getElem?_cons_succ,List.getElem?_cons_zero];rfl) (by kernel_rfl) ?hQ9 (.inl ⟨?hw9,fun o=>?hy9⟩) ?_
   case hy9=>go_simp;try (with_reducible rfl)
   case hQ9=>exact fun _ _ _ h=>h
   case hw9=>rfl
   simp only[Act.put,List.setIfInBounds_toArray,List.set_cons_zero,List.set_cons_succ]
   refine Dr.AL 10 (v:=?v10) (by simp only[List.getElem?_toArray,List.getElem?_cons_succ,List.getElem?_cons_zero];rfl) (by kernel_rfl) ?hQ10 (.inl ⟨?hw10,fun o=>?hy10⟩) ?_
   case hy10=>go_simp;try (with_reducible rfl)
   case hQ10=>exact fun _ _ _ h=>h
   case hw10=>rfl
   simp only[Act.put,List.setIfInBounds_toArray,List.set_cons_zero,List.set_cons_succ]
   refine Dr.Fh 11 (v:=?v11) (by simp only[List.getElem?_toArray,List.getElem?_cons_succ,List.getElem?_cons_zero];rfl) (by kernel_rfl) ?hQ11 (.inl ⟨?hw11,fun o hw=>?hy11⟩) an ?_
   case hy11=>(try dsimp only at hw);go_simp;try (with_reducible rfl)
   case hQ11=>exact fun _ _ _ h=>h
   case hw11=>rfl
   simp only[Act.put,List.setIfInBounds_toArray,List.set_cons_zero,List.set_cons_succ]
   refine Dr.CC 12 (by simp only[List.getElem?_toArray,List.getElem?_cons_succ,List.getElem?_cons_zero];rfl) (by kernel_rfl) ?_
   go_wp2_with (go_simp;go_at_call 21;with_reducible refine Calls.mono (ac _) ?_;rintro e w7 ⟨rfl,hw7⟩;subst hw7)
   refine Dr.C9 ⟨⟨Ac _ _ _,Ac _ _ _⟩,?_⟩
   refine Dr.AL 13 (v:=?v13) (by simp only[List.getElem?_toArray,List.getElem?_cons_succ,List.getElem?_cons_zero];rfl) (by kernel_rfl) ?hQ13 (.inl ⟨?hw13,fun o=>?hy13⟩) ?_
   case hy13=>go_simp;try (with_reducible rfl)
   case hQ13=>exact fun _ _ _ h=>h
   case hw13=>rfl
   simp only[Act.put,List.setIfInBounds_toArray,List.set_cons_zero,List.set_cons_succ]
   refine Dr.JO [14,15,16] (os:= [_,_,_]) (by decide) (by simp only[List.map_cons,List.map_nil,List.getElem?_toArray,List.getElem?_cons_succ,List.getElem?_cons_zero];rfl) (by kernel_rfl) ?_
   by_cases g0:0<k6
   · go_wp2_with fail
     go_roundg (i-(k+1))
     case measure=>have:=L.out.1;omega
     case rel=>exact ⟨k+1,(vl.set k (ro,bo+y)).set k (k6%50,bo+y),by go_num,by omega,⟨rfl,dv.out _ _⟩,by rw[←HZ.out.2];exact aF _ _ _ _ _ _ _ _⟩
   go_wp2_with fail
   go_roundg (i-(k+1))
   case measure=>have:=L.out.1;omega
   case rel=>exact ⟨k+1,vl.set k (ro,bo+y),by go_num,by omega,⟨rfl,du.out _⟩,by rw[←HZ.out.1];exact aF _ _ _ _ _ _ _ _⟩
 have da: ¬(k:Int)<i:=by omega
 obtain rfl:i=k:=by omega
 have HL:Aside (vl.length=i):=L.out.2.1
 clear L
 go_wp2_with fail
 with_reducible refine Calls.mono (R.out.1 _ _ (Ae (Ad h s))) ?_
 rintro e w5 ⟨rfl,q5⟩
 haveI:=q5.i
 go_wp2
 go_ret2
 refine .inr ⟨s.Ls,vl,a1,c1,by rw[HL.out];rfl,by rw[HL.out];omega,R.out.2.1.inv,R.out.2.1.clean,by have:=R.out.2.1.left;have:=R.out.2.2.1;omega,AZ.next _ _ _ R.out.2.2.2 R.out.2.1.cap,?_⟩
 rw[HL.out]
 unfold DP
 exact DE _ _ _ _ _
def upto(n:Nat):List Int:=(List.range n).map fun i:Nat=>(i:Int)
theorem V8(n:Nat):(upto n).length=n:=by simp[upto]
theorem dO{n:Nat}{p:Int}(h0:0≤p)(h1:p<n):p∈upto n:=List.mem_map.2 ⟨p.toNat,List.mem_range.2 (by omega),by omega⟩
theorem YI{file:List UInt8}(h:file.length≤256*65000): ∀p n,As file p=some n→1≤p∧p<1048576∧may n=true∧p∈upto 65000:=fun p n hp=>by
 have:=T5 hp
 exact ⟨this.1,this.2.1,EX hp,dO (by omega) (by omega)⟩
theorem cZ{V:Int→Option Nd}(b: ∀p n,V p=some n→may n=true)(vl:List (Int×Int)):(LV V vl).length≤vl.length*1037:=by
 have key: ∀(l:List (Int×Int))(o:List Int),(l.foldl (fun o v=>(A9 V v.1).Az.foldl Cy o) o).length≤o.length+l.length*1037:=by
  intro l
  induction l with
  |nil=>intro o;simp
  | cons v l c =>
   intro o
   rw[List.foldl_cons,List.length_cons]
   have h1:=c ((A9 V v.1).Az.foldl Cy o)
   have d:=YQ (A9 V v.1).Az o
   have a:=J7 b v.1
   have e:=a.Az
   have f:=a.Ag
   omega
 have:=key vl []
 simpa[LV] using this
theorem WD{V:Int→Option Nd}{vl:List (Int×Int)}{ns:List Int}(hp:ns.Pairwise (· < ·))(hm: ∀x,x∈ns↔ ∃v∈vl,x∈(A9 V v.1).Az):ns=LV V vl:=by
 refine ML hp (Yr V vl (by simp)) fun x=>(hm x).trans ?_
 have:=Vg V vl [] x
 unfold LV
 rw[this]
 simp
structure nZ (O T:List UInt8) (s:TS) (file:List UInt8):Prop where
 nm:s.ck.nm=FQ
 BU:Db s.ck.d FQ
 nS:Db s.ck.d EO
 nT:Db s.ck.d EJ
 now:Ay s.ck.d FQ=file
 oF:Ay s.ck.d EO=O
 oG:Ay s.ck.d EJ=T
 len:file.length≤256*65000
 Qq:Dp (As file) 59000000 s
theorem iZ{O T:List UInt8}{s:TS}(f:GP true s)(l:Clean s.ck)(hl:59000000≤AQ s)(b:Fy (Mj O T 7) s):nZ O T s (Ay s.ck.d FQ):=by
 have a:s.ck.nm=FQ:=b.nm
 have c: ∀n,n≠FQ→s.ck.d.get n=(Jk O T).get n:=b.Je
 have j:s.ck.d.get EO=some ⟨O,O,true⟩:=by rw[c EO jO.symm];exact hS _ _
 have k:s.ck.d.get EJ=some ⟨T,T,true⟩:=by rw[c EJ jP.symm];exact hW _ _
 have g:Db s.ck.d FQ:=by have:=f.Bo.BU;rwa [a] at this
 have e:=f.Bo.top.1
 rw[a,show VL=65000 from rfl] at e
 have hr:=YB f l
 have i:fileOf s=Ay s.ck.d FQ:=by unfold fileOf;rw[a]
 rw[i] at hr
 exact ⟨a,g,Iu g (by decide+kernel) (by rw[j];rfl),Iu g (by decide+kernel) (by rw[k];rfl),rfl,by unfold Ay;rw[j];rfl,by unfold Ay;rw[k];rfl,e,hr.less hl⟩
theorem dN(O T:List UInt8)(c:Int):AQ (Mj O T c)=67108850:=by
 show (BG-0)/2=67108850
 unfold BG
 rfl
theorem Oj{k:Nat}(e:TypeId)(b n:Nat)(xs:List Value)(hx:xs.length=n*k)(c:n≤1000):Aj k (Sl.block b e xs) (.slice (some ⟨b,0,none⟩) n n) n xs:=by
 refine ⟨hx,_,_,rfl,Nat.le_refl _,by omega,fun j u a=>⟨b,0,rfl,?_⟩⟩
 haveI:At xs j u:=⟨a⟩
 rw[Nat.zero_add]
 infer_instance
theorem VU{s:TS}{V:Int→Option Nd}(A:F' s V){ns:List Int}(hp:ns.Pairwise (· < ·))(h:(∀v∈ [((1:Int),(5:Int)),(1,5),(0,0)],(A9 V v.1).ok=true)→ ∀x,x∈ns↔ ∃v∈ [((1:Int),(5:Int)),(1,5),(0,0)],x∈(A9 V v.1).Az):ns= [1]:=by
 have e0:A9 V 0=⟨true,0,[],[]⟩:=by unfold A9;rw[if_pos rfl]
 have h1:=h (by
  intro v a
  simp only[List.mem_cons,List.not_mem_nil,or_false] at a
  rcases a with rfl|rfl|rfl
  · rw[A.tree]
  · rw[A.tree]
  rw[e0])
 refine ML hp (by simp) fun x=>(h1 x).trans ⟨?_,?_⟩
 · rintro ⟨v,a,hx⟩
   simp only[List.mem_cons,List.not_mem_nil,or_false] at a
   rcases a with rfl|rfl|rfl
   · rwa [A.tree] at hx
   · rwa [A.tree] at hx
   rw[e0] at hx;cases hx
 intro hx
 exact ⟨(1,5),by simp,by rw[A.tree];exact hx⟩
theorem j0{s:TS}{V:Int→Option Nd}(A:F' s V):(∃v∈ [((1:Int),(5:Int)),(1,5),(0,0)],(A9 V v.1).ok=false)→False:=by
 have e0:A9 V 0=⟨true,0,[],[]⟩:=by unfold A9;rw[if_pos rfl]
 rintro ⟨v,a,hx⟩
 simp only[List.mem_cons,List.not_mem_nil,or_false] at a
 rcases a with rfl|rfl|rfl
 ·rw[A.tree] at hx;cases hx
 ·rw[A.tree] at hx;cases hx
 rw[e0] at hx;cases hx
theorem Tt{s s2:TS}{V:Int→Option Nd}(A:F' s V)(c:s2.ck.d=s.ck.d)(n:Int): [((1:Int),n)].all (Fg V s2.ck.d 5 1)=decide (n=5):=by
 simp only[List.all_cons,List.all_nil,Bool.and_true]
 unfold Fg
 simp only
 rw[A.tree]
 simp only[Bool.true_and,List.all_cons,List.all_nil,Bool.and_true]
 have a:Aa [⟨0,0,5,-1⟩]=5:=by decide
 have b:D4 (CJ s2.ck.d 5 1 0) ⟨0,0,5,-1⟩=true:=by
  unfold CJ
  rw[if_pos rfl,c,A.mQ]
  decide
 rw[a,b,Bool.and_true]
 by_cases h:n=5
 · subst h;rfl
 rw[decide_eq_false h,decide_eq_false (fun e=>h e.symm)]
theorem Yb{P:Program}{s e:TypeId}(h1:P.underlying s=some (.slice e))(j:P.underlying e=some (.int .u8))(cs:Array Value)(t:TypeId)(n:Nat){F:Ab}{w:World}(hs:Sat F w):
 ∃g,Sem.run P (convert s s (.slice (some ⟨w.heap.size,0,none⟩) n n)) (w.alloc (.cells cs t))= .ok (.slice (some ⟨w.heap.size,0,none⟩) n n) g∧Sat (raw w.heap.size (.cells cs t (cs.size,cs.size+1))*F) g∧g.heap.size=w.heap.size+1:=by
 have q:=hs.CX (.cells cs t)
 have k:=q.GW (.cells cs t (cs.size,cs.size+1))
 have hb:(w.alloc (.cells cs t)).heap[w.heap.size]?=some (.cells cs t):=q.obj
 have b:(w.alloc (.cells cs t)).freeze ⟨w.heap.size,cs.size,none⟩ 1= { w.alloc (.cells cs t) with heap:=(w.alloc (.cells cs t)).heap.setIfInBounds w.heap.size (.cells cs t (cs.size,cs.size+1)) } :=by
  unfold World.freeze
  rw[if_neg (by decide)]
  congr 1
  apply Array.ext_getElem?
  intro i
  simp only[Array.getElem?_modify,Array.getElem?_setIfInBounds]
  by_cases a:w.heap.size=i
  ·subst a
   have d:=Gm hb
   have c:=(Array.getElem?_eq_some_iff.1 hb).2
   simp[d,c]
  simp[a]
 refine ⟨_,?_,k,by simp⟩
 unfold convert
 have f:(w.alloc (.cells cs t)).shape? w.heap.size=some (t,cs.size):=by simp only[World.shape?,hb]
 simp[Go.underlying,h1,j,markStringish,Go.shape,f,Go.freeze,Sem.run_bind,Sem.run,b]
theorem Reads.lH{b t:Nat}{a:Nat×Nat}{l:List UInt8}(hm:l.length≤maxLen):Reads (raw b (.cells (A0 l).toArray t a)) (.slice (some ⟨b,0,none⟩) l.length l.length) l:=fun F w hs=>by
 have h1:=hs.obj
 refine ⟨_,_,rfl,Nat.le_refl _,hm,fun i x hx=>⟨b,0,rfl,?_⟩⟩
 rw[Nat.zero_add]
 simp[World.cell?,h1,A0,hx]
theorem Jg(F:Ab)(w:World)(hs:Sat F w):Calls Tryz.prog 53 #[] w fun e j=>e= .returned (.bool true)∧Sat F j:=by
 obtain ⟨s1,V,A⟩:=VT
 obtain ⟨m,a5,R,a7⟩:=Yb (P:=Tryz.prog) Tryz.underlying26 Tryz.underlying5 #[.int .u8 97,.int .u8 98,.int .u8 10,.int .u8 99,.int .u8 100] TB 5 hs
 obtain ⟨U,a6,T,a8⟩:=Yb (P:=Tryz.prog) Tryz.underlying26 Tryz.underlying5 #[.int .u8 120] TB 1 R
 have q0:Sat ((raw w.heap.size (.cells (A0 Ev).toArray TB (5,6))*raw m.heap.size (.cells (A0 E0).toArray TB (1,2)))*F) U:=T.eq (by show raw m.heap.size (.cells (A0 E0).toArray TB (1,2))*(raw w.heap.size (.cells (A0 Ev).toArray TB (5,6))*F)=_;ac_rfl)
 have f:=R7 Ev E0 (.slice (some ⟨w.heap.size,0,none⟩) 5 5) (.slice (some ⟨m.heap.size,0,none⟩) 1 1) (raw w.heap.size (.cells (A0 Ev).toArray TB (5,6))*raw m.heap.size (.cells (A0 E0).toArray TB (1,2))) F U (Reads.left (Reads.lH (l:=Ev) (by decide))) (Reads.right (Reads.lH (l:=E0) (by decide))) q0 (by decide) (by decide)
 obtain ⟨BB,y⟩:=Aq (raw w.heap.size (.cells (A0 Ev).toArray TB (5,6))*raw m.heap.size (.cells (A0 E0).toArray TB (1,2)))
 rw[y] at f
 have Y:Aside (∀(h:Th)(v:Value)(B F:Ab)(w:World),Au B v [⟨0,0,5,-1⟩]→Sat (Ad h (Mj Ev E0 7)*(B*F)) w→
  Calls Tryz.prog 23 #[.pointer (some ⟨h.t,0,none⟩),v] w fun e j=>e= .returned (.tuple #[.int .i64 1,.int .i64 0])∧Sat (Ad h s1*(B*F)) j):=fun h v B F w hE q=>by
  have:=Y9 h (Mj Ev E0 7) [⟨0,0,5,-1⟩] v B F w hE q (by simp) (by rw[A.run];simp)
  rw[A.run] at this
  exact this
 obtain ⟨s0,M⟩:=Aq (Mj Ev E0 7)
 rw[M] at f Y
 have o:Aside (F' s1 V):=A
 haveI:=hs.i
 clear M q0 A R T a7 a8 y
 go_enter Tryz.func53,Tryz.ntmps53
 go_wp2_with fail
 refine f.mono ?_
 rintro e O ⟨b,h,rfl,q1⟩
 unfold DP at q1
 haveI:=q1.i
 clear f a5 a6
 go_wp2_with fail
 have q2:Sat (Ad h s0*(Sl.block O.heap.size AG (AO [⟨0,0,5,-1⟩])*(Sl.block b K2 [.pointer (some ⟨h.D,0,none⟩),.pointer (some ⟨h.C,0,none⟩),.pointer (some ⟨h.t,0,none⟩)]*F))) (O.alloc (.cells #[.int .i64 0,.int .i64 0,.int .i64 5,.int .i64 (-1)] AG)):=by
  show Sat (Ad h s0*(Sl.block O.heap.size AG [.int .i64 0,.int .i64 0,.int .i64 5,.int .i64 (-1)]*_)) _
  exact A4 (C:=BB) (by ac_rfl)
 refine (Y.out h _ _ _ _ (Oj (k:=4) AG O.heap.size 1 _ rfl (by omega)) q2).mono ?_
 rintro e Q ⟨rfl,W⟩
 haveI:=W.i
 clear q1 q2 Y
 obtain ⟨B1,u⟩:=Aq (Sl.block O.heap.size AG (AO [⟨0,0,5,-1⟩]))
 rw[u] at W
 haveI:=W.i
 clear u
 go_wp2_with fail
 have q4:Sat (Ad h s1*(Sl.block Q.heap.size K6 (BD [(1,5),(1,5),(0,0)])*(Sl.block b K2 [.pointer (some ⟨h.D,0,none⟩),.pointer (some ⟨h.C,0,none⟩),.pointer (some ⟨h.t,0,none⟩)]*F))) (Q.alloc (.cells #[.int .i64 1,.int .i64 5,.int .i64 1,.int .i64 5,.int .i64 0,.int .i64 0] K6)):=by
  show Sat (Ad h s1*(Sl.block Q.heap.size K6 [.int .i64 1,.int .i64 5,.int .i64 1,.int .i64 5,.int .i64 0,.int .i64 0]*_)) _
  exact A4 (C:=B1) (by ac_rfl)
 refine (O3 V [1] h 50000000 s1 _ [(1,5),(1,5),(0,0)] _ _ _ o.out.view (by decide) (o.out.Qq.less (by decide)) (Oj (k:=2) K6 Q.heap.size 3 _ rfl (by omega)) (by decide) q4).mono ?_
 rintro e w3 ⟨s2,a2,G,⟨ns,a,c,rfl,J,K,r,X⟩|⟨rfl,_,z,_⟩⟩
 rotate_left
 · exact (j0 o.out z).elim
 obtain rfl:=VU o.out J r
 obtain ⟨g,rfl⟩:=Dh (hs:=X) (by decide)
 obtain ⟨B2,x⟩:=Aq (Sl.block Q.heap.size K6 (BD [(1,5),(1,5),(0,0)]))
 rw[x] at X
 have a0:Aside (∀(b:Nat)(F:Ab) w,Sat (Ad h s2*(Sl.block b K6 [.int .i64 1,.int .i64 5]*F)) w→Calls Tryz.prog 60 #[.pointer (some ⟨h.t,0,none⟩),.slice (some ⟨b,0,none⟩) 1 1,.pointer (some ⟨h.D,0,none⟩),.int .i64 5,.int .i64 1] w fun e j=> ∃s3,e= .returned (.int .i64 0)∧Aside (Dp V 40000000 s3∧s3.ck.d=s2.ck.d)∧Sat (Ad h s3*(Sl.block b K6 [.int .i64 1,.int .i64 5]*F)) j):=fun b F w q=>by
  refine (O5 V 2 h 40000000 s2 _ [(1,5)] (Sl.block b K6 [.int .i64 1,.int .i64 5]) F 5 1 w (fun p n hp=>by have:=o.out.view p n hp;exact ⟨this.2.2.1,this.1,by have:=this.2.2.2;simp at this;omega⟩) (K.less (by decide)) (by omega) (by omega) (by rw[G];exact o.out.BU) (Oj (k:=2) K6 b 1 [.int .i64 1,.int .i64 5] rfl (by omega)) (by decide) q).mono ?_
  rintro e j ⟨s3,m',q',_,H,L,I,s⟩
  rw[Tt o.out G] at I s
  exact ⟨s3,I,⟨L.less (s rfl),H⟩,q'⟩
 have a1:Aside (∀(s3:TS)(b:Nat)(F:Ab) w,Aside (Dp V 40000000 s3∧s3.ck.d=s2.ck.d)→Sat (Ad h s3*(Sl.block b K6 [.int .i64 1,.int .i64 6]*F)) w→Calls Tryz.prog 60 #[.pointer (some ⟨h.t,0,none⟩),.slice (some ⟨b,0,none⟩) 1 1,.pointer (some ⟨h.D,0,none⟩),.int .i64 5,.int .i64 1] w fun e j=> ∃s4,e= .returned (.int .i64 13)∧Sat (Ad h s4*(Sl.block b K6 [.int .i64 1,.int .i64 6]*F)) j):=fun s3 b F w hr q=>by
  refine (O5 V 2 h 30000000 s3 _ [(1,6)] (Sl.block b K6 [.int .i64 1,.int .i64 6]) F 5 1 w (fun p n hp=>by have:=o.out.view p n hp;exact ⟨this.2.2.1,this.1,by have:=this.2.2.2;simp at this;omega⟩) (hr.out.1.less (by decide)) (by omega) (by omega) (by rw[hr.out.2,G];exact o.out.BU) (Oj (k:=2) K6 b 1 [.int .i64 1,.int .i64 6] rfl (by omega)) (by decide) q).mono ?_
  rintro e j ⟨s4,m',q',_,H,L,I,s⟩
  rw[Tt o.out (hr.out.2.trans G)] at I
  exact ⟨s4,I,q'⟩
 have q6:Sat (Ad h s2*(rw Cb 1 (.slice (some ⟨g,0,none⟩) 1 c) [.int .i64 1]*(Sl.block b K2 [.pointer (some ⟨h.D,0,none⟩),.pointer (some ⟨h.C,0,none⟩),.pointer (some ⟨h.t,0,none⟩)]*(B2*F)))) w3:=X.eq (by show rw Cb 1 (.slice (some ⟨g,0,none⟩) 1 c) [.int .i64 1]*_=_;ac_rfl)
 haveI:=q6.i
 clear W q4 X x J K r a2 G
 go_wp2_with fail
 go_region_held3 (fun j=>j.cell? ⟨b,0,none⟩=some (.pointer (some ⟨h.D,0,none⟩))∧j.cell? ⟨b,2,none⟩=some (.pointer (some ⟨h.t,0,none⟩))∧j.cell? ⟨g,0,none⟩=some (.int .i64 1)) (first|exact ⟨Ac _ _ _,Ac _ _ _,Ac _ _ _⟩) (first
  |(go_at_call 60;with_reducible refine Calls.mono (a0.out _ _ _ (Bh (Ad h s2) (Sl.block w3.heap.size K6 [.int .i64 1,.int .i64 5]))) ?_;rintro e w5 ⟨s3,rfl,Z,q7⟩;haveI:=q7.i)
  |(go_at_call 60;with_reducible refine Calls.mono (a1.out s3 _ _ _ Z (Bh (Ad h s3) (Sl.block w5.heap.size K6 [.int .i64 1,.int .i64 6]))) ?_;rintro e w6 ⟨s4,rfl,q8⟩;haveI:=q8.i))
 all_goals
  go_wp2
  go_ret
  exact ⟨rfl,aD F⟩
theorem Im{A R:Ab}{w a:World}[h:AV A a][t:Take A (Ja w) R]:Below w.heap.size w a:=(h.out.take (Ja w)).Rm
theorem Mp(O T:List UInt8)(aO:Option Addr)(J cO:Nat)(aT:Option Addr)(K cT:Nat)(va:Value)(cs:List MW)(w:World)(hO:Reads (Ja w) (.slice aO J cO) O)(hT:Reads (Ja w) (.slice aT K cT) T)(hM:Ot (Ja w) va cs)(U: ∀c∈cs,Au (Ja w) (.slice c.a c.put.length c.c) c.put)(W:cs.length≤9223372036854775807):
 Calls Tryz.prog 9 #[.agg #[.slice aO J cO,.slice aT K cT],va] w fun e o=>e= .returned (.bool true)∧Below w.heap.size w o:=by
 have j:Sat (Ja w*1) w:=(Sat.bO w).eq (Bm _).symm
 have ag:O.length=J:=by obtain ⟨_,_,e0,_,_⟩:=P9 hO j;cases e0;rfl
 have X:T.length=K:=by obtain ⟨_,_,e0,_,_⟩:=P9 hT j;cases e0;rfl
 have u:=fun F w q=>Ws aO aT J cO K cT F w q
 haveI:=j.i
 by_cases f:3000<J∨3000<K
 · rw[decide_eq_true f] at u
   clear hO hT hM U W ag X f
   go_enter Tryz.func9,Tryz.ntmps9
   go_wp2_with fail
   with_reducible refine D1 (Jg _ _ (Ae (Ja w))) fun w1 q1 _=>?_
   go_wp2_with fail
   with_reducible refine D1 (u _ _ (Ae (Ja w))) fun w2 q2 _=>?_
   go_wp2_with fail
   with_reducible refine D1 (Jg _ _ (Ae (Ja w))) fun w3 q3 _=>?_
   go_wp2
   go_ret
   exact ⟨rfl,Im⟩
 rw[decide_eq_false f] at u
 have bd:J≤3000:=by omega
 have b3:K≤3000:=by omega
 have r:=Ek fun(F:Ab)(w1:World)(q:Sat (Ja w*F) w1)=>R7 O T (.slice aO J cO) (.slice aT K cT) (Ja w) F w1 hO hT q (by omega) (by omega)
 have G:=Ek fun(h:Th)(b:Nat)(F:Ab)(w1:World)(q:Sat (Ad h (Mj O T 7)*(DP b h*(Ja w*F))) w1)=>Tv h (Mj O T 7) b aO J cO aT K cT T cs va (Ja w) F w1 (Tc O T 7 (by omega) (by omega) (by omega) (by omega)) (by rw[dN];omega) (by rw[V1];omega) (by show (7:Int)≤1000;omega) hT X b3 hM U W q
 obtain ⟨s0,j⟩:=Aq (Mj O T 7)
 rw[j] at r G
 have ac:=Ek j
 clear j hO hT hM U W ag X f
 obtain ⟨N,hN⟩:=Aq w.heap.size
 go_enter Tryz.func9,Tryz.ntmps9
 go_wp2_with fail
 with_reducible refine D1 (Jg _ _ (Ae (Ja w))) fun w1 q1 _=>?_
 try rw[hN] at q1
 try rw[hN]
 haveI:=q1.i
 clear hN
 go_wp2_with fail
 with_reducible refine D1 (u _ _ (Ae (Ja w))) fun w2 q2 _=>?_
 clear q1
 go_wp2_with fail
 with_reducible refine Calls.mono (r.out _ _ (Ae (Ja w))) ?_
 rintro e w3 ⟨b,h,rfl,q3⟩
 haveI:=q3.i
 clear q2 u r
 go_wp2_with fail
 with_reducible refine Calls.mono (G.out h b _ _ (Tb (Ad h s0) (DP b h) (Ja w))) ?_
 rintro e w4 (⟨rfl,s',q5⟩|⟨s',vl,a,c,rfl,b4,ae,aj,am,Q,q5⟩)
 · haveI:=q5.i
   clear q3 G
   go_wp2
   go_ret
   exact ⟨rfl,Im⟩
 have P:=iZ (O:=O) (T:=T) ae aj am (by rw[ac.out];exact Q)
 clear q3 G ac ae aj am Q
 obtain ⟨file,s⟩:=Aq (Ay s'.ck.d FQ)
 rw[s] at P
 clear s
 have g:=fun F w q=>Xv h s' F w q P.BU
 rw[P.now] at g
 have k:=fun F w q=>Lg h s' FQ F w q (by decide)
 have R:max 0 (s'.ck.d.size FQ)=(file.length:Int):=by rw[←P.now];exact Kg P.BU
 have Z:=P.len
 obtain ⟨nf,H⟩:=Aq file.length
 rw[H] at g R Z
 obtain ⟨z,hz⟩:=Aq (s'.ck.d.size FQ)
 rw[hz] at k R
 obtain ⟨nv,I⟩:=Aq vl.length
 have a9:Aside (∀F w,Sat (Ad h s'*(rw Mh 2 (.slice a nv c) (BD vl)*F)) w→Calls Tryz.prog 57 #[.pointer (some ⟨h.t,0,none⟩),.slice a nv c] w fun e o=> ∃(s2:TS)(ns:List Int)(cd:Int)(L:Option Addr)(c2:Nat),e= .returned (.tuple #[.slice L ns.length c2,.int .i64 cd])∧
  Aside (cd=0∧ns.Pairwise (· < ·)∧((∀v∈vl,(A9 (As file) v.1).ok=true)→ ∀x,x∈ns↔ ∃v∈vl,x∈(A9 (As file) v.1).Az)∨cd=13∧ns= []∧ ∃v∈vl,(A9 (As file) v.1).ok=false)∧Sat (rw Cb 1 (.slice L ns.length c2) (ints ns)*(Ad h s2*(rw Mh 2 (.slice a nv c) (BD vl)*F))) o):=fun F w q=>by
  subst I
  refine (O3 (As file) (upto 65000) h 0 s' _ vl (rw Mh 2 (.slice a vl.length c) (BD vl)) F w (YI (by rw[H];exact Z)) (by rw[V8];omega) (P.Qq.less (by rw[V8];omega)) (Aj.rw (q.eq (Vq _ _ _)) ⟨a,c,rfl⟩) (by omega) q).mono ?_
  rintro e o ⟨s2,_,_,⟨ns,L,c2,rfl,hp,_,hm,q'⟩|⟨rfl,_,hb,q'⟩⟩
  · exact ⟨s2,ns,0,L,c2,rfl,.inl ⟨rfl,hp,hm⟩,q'⟩
  exact ⟨s2,[],13,none,0,rfl,.inr ⟨rfl,rfl,hb⟩,Sat.AE q'⟩
 have ab:Aside (∀(l:Option Addr)(m:Nat) F w,Sat (rw TB 1 (.slice l nf m) (A0 file)*(rw Mh 2 (.slice a nv c) (BD vl)*F)) w→Calls Tryz.prog 58 #[.slice l nf m,.slice a nv c] w fun e o=> ∃(ok:Bool)(ms:List Int)(M:Option Addr)(c3:Nat),e= .returned (.tuple #[.slice M ms.length c3,.bool ok])∧
  Aside (ok=true∧ms=LV (As file) vl∧(∀v∈vl,(A9 (As file) v.1).ok=true)∧ms.length≤20000∨ok=false∧ms= []∧ ∃v∈vl,(A9 (As file) v.1).ok=false)∧Sat (rw Cb 1 (.slice M ms.length c3) (ints ms)*(rw TB 1 (.slice l nf m) (A0 file)*(rw Mh 2 (.slice a nv c) (BD vl)*F))) o):=fun l m F w q=>by
  subst I
  refine (cY file (.slice l nf m) (.slice a vl.length c) vl (rw TB 1 (.slice l nf m) (A0 file)) (rw Mh 2 (.slice a vl.length c) (BD vl)) F w (by subst H;exact Reads.rw) (by omega) (Aj.rw (q.eq (Vq _ _ _)) ⟨a,c,rfl⟩) (by omega) q).mono ?_
  rintro e o (⟨y,M,c3,rfl,q'⟩|⟨hb,rfl,q'⟩)
  · exact ⟨true,LV (As file) vl,M,c3,rfl,.inl ⟨rfl,rfl,y,by have:=cZ (V:=As file) (fun p n h=>EX h) vl;omega⟩,q'⟩
  exact ⟨false,[],none,0,rfl,.inr ⟨rfl,rfl,hb⟩,Sat.AE q'⟩
 have aa:Aside (∀F w,Sat (Ad h s'*F) w→Calls Tryz.prog 49 #[.pointer (some ⟨h.D,0,none⟩),.string ⟨#[115,116,111,114,101]⟩,.int .i64 0,.int .i64 nf] w fun e o=> ∃(a:Option Addr)(c:Nat)(er:Int),e= .returned (.tuple #[.slice a nf c,.int .i64 er])∧Sat (rw TB 1 (.slice a nf c) (A0 file)*(Ad h s'*F)) o):=g
 have ad:Aside (∀F w,Sat (Ad h s'*F) w→Calls Tryz.prog 50 #[.pointer (some ⟨h.D,0,none⟩),.string ⟨#[115,116,111,114,101]⟩] w fun e o=>e= .returned (.int .i64 z)∧w=o):=k
 rw[I] at q5⊢
 have q6:Sat (Ad h s'*(rw Mh 2 (.slice a nv c) (BD vl)*(Sl.block b K2 [.pointer (some ⟨h.D,0,none⟩),.pointer (some ⟨h.C,0,none⟩),.pointer (some ⟨h.t,0,none⟩)]*(Ja w*1)))) w4:=Sat.Dn (B:=Sl.block N K5 [.slice aO J cO,.slice aT K cT]) (q5.eq (by unfold DP;simp only[Bm];ac_rfl))
 clear q5 P g k Z H hz I b4
 haveI:=q6.i
 go_wp2_with fail
 go_cut [8] (fun t8 wx=> ∃(l:Option Addr)(m:Nat),t8= .slice l nf m∧Sat (Ad h s'*(rw TB 1 (.slice l nf m) (A0 file)*(rw Mh 2 (.slice a nv c) (BD vl)*(Sl.block b K2 [.pointer (some ⟨h.D,0,none⟩),.pointer (some ⟨h.C,0,none⟩),.pointer (some ⟨h.t,0,none⟩)]*(Ja w*1))))) wx)
 case first=>
  go_region_held3 (fun o=>o.cell? ⟨b,0,none⟩=some (.pointer (some ⟨h.D,0,none⟩))) (exact Ac _ _ _) (first
   |(go_at_call 50;with_reducible refine Calls.mono (ad.out _ _ (Ae (Ad h s'))) ?_;rintro e w5 ⟨rfl,rfl⟩)
   |(go_at_call 49;with_reducible refine Calls.mono (aa.out _ _ (Ae (Ad h s'))) ?_;rintro e w5 ⟨l,m,er,rfl,q7⟩;haveI:=q7.i))
  all_goals
   go_wp2_with fail
   go_meet
   exact ⟨l,m,rfl,Av (by ac_rfl)⟩
 obtain ⟨l,m,rfl,q7⟩:=hcut
 haveI:=q7.i
 clear q6 aa ad
 go_wp2_with fail
 with_reducible refine Calls.mono (a9.out _ _ (Bh (Ad h s') (rw Mh 2 (.slice a nv c) (BD vl)))) ?_
 rintro e w7 ⟨s2,ns,cd,L,c2,rfl,HC,q8⟩
 haveI:=q8.i
 clear q7 a9
 go_wp2_with fail
 with_reducible refine Calls.mono (ab.out l m _ _ (Bh (rw TB 1 (.slice l nf m) (A0 file)) (rw Mh 2 (.slice a nv c) (BD vl)))) ?_
 rintro e w8 ⟨ok,ms,M,c3,rfl,HP,q9⟩
 haveI:=q9.i
 clear q8 ab
 rcases HP.out with ⟨rfl,an,y,b2⟩|⟨rfl,rfl,ai⟩
 · rcases HC.out with ⟨rfl,hp,hm⟩|⟨_,_,v,hv,ao⟩
   rotate_left
   · rw[y v hv] at ao;cases ao
   have a0:ns=ms:=by rw[an];exact WD hp (hm y)
   have Y:=fun w h1 h2=>z' (.slice L ns.length c2) (.slice M ms.length c3) ns ms w h1 h2 (by rw[a0];omega) (by omega)
   rw[decide_eq_true a0] at Y
   have ak:Ints w8 (.slice L ns.length c2) ns:=Ints.Yg (e:=Cb) (Ae (rw Cb 1 (.slice L ns.length c2) (ints ns)))
   have al:Ints w8 (.slice M ms.length c3) ms:=Ints.Yg (e:=Cb) (Ae (rw Cb 1 (.slice M ms.length c3) (ints ms)))
   have ay:=Ek (Y w8 ak al)
   clear Y ak al a0 an y b2 hp hm HP HC
   go_wp2_with fail
   with_reducible refine Calls.mono ay.out ?_
   rintro e w9 ⟨rfl,n,rfl⟩
   go_wp2
   go_ret
   exact ⟨rfl,Im⟩
 rcases HC.out with ⟨rfl,_,_⟩|⟨rfl,rfl,_⟩
 all_goals
  clear HP HC ai
  go_wp2
  go_ret
  exact ⟨rfl,Im⟩
open Go.ChangeShapes Go.WideShapes
theorem MO{α:Type}{f:α→List Value}{p:α→Prop} : ∀l:List (List Value),(∀r∈l,∃c,r=f c∧p c)→ ∃cs:List α,l=cs.map f∧ ∀c∈cs,p c
 | [],_=>⟨[],rfl,by simp⟩
 | r :: l, hl => by
  obtain ⟨c,rfl,e⟩:=hl r (by simp)
  obtain ⟨cs,rfl,b⟩:=MO l fun g d=>hl g (by simp[d])
  exact ⟨c::cs,rfl,fun i a=>by rcases List.mem_cons.1 a with rfl|h;exact e;exact b _ h⟩
theorem kJ{n:Int}(h:(Lit.int .u8 n).wf=true): ∃x:UInt8,n=(x.toNat:Int):=by
 have h1:0≤n∧n≤255:=by simpa[Lit.wf,IntKind.min,IntKind.max,IntKind.signed,IntKind.bits] using h
 refine ⟨UInt8.ofNat n.toNat,?_⟩
 simp[UInt8.toNat_ofNat']
 omega
theorem R8{H:Type}{enc:TypeId×Value→H}{w:World}{d:Nat}{b:Nat→Bool}{g:Bool}{t e f:Nat}{v:Value}{x:DataW H×List MemPlace}
 (l:Tryz.prog.underlying t=some (.slice e)) (h:DataW.trod enc Tryz.prog w d b g f t [v]=some x): ∃a n c,v= .slice a n c∧n≤c∧c≤maxLen:=by
 rcases DataW.trod_slice l h with ⟨h0,_⟩|⟨a,len,cap,i,rest,n,_,h1,_,_,j,k,_⟩
 ·exact ⟨none,0,0,by simpa using h0,Nat.le_refl _,by unfold maxLen;decide⟩
 exact ⟨some a,len,cap,by simpa using h1,j,k⟩
theorem Q4{H:Type}{enc:TypeId×Value→H}{w:World}{j:Nat}{g:Nat→Bool}{k:Bool}{v:Value}
 (h: ∃d x,DataW.trod enc Tryz.prog w j g k d 26 [v]=some x):
 ∃(a:Option Addr)(n c:Nat)(l:List UInt8),v= .slice a n c∧Mf w (.slice a n c) l:=by
 obtain ⟨d,x,hx⟩:=h
 obtain ⟨a,len,cap,rfl,e⟩:=R8 Tryz.underlying26 hx
 obtain ⟨G,h1,K,L,u⟩:=IJ (s:=1) Tryz.underlying26 (by kernel_rfl) (by omega) hx
 obtain ⟨zs,rfl,q⟩:=MO (f:=fun z:UInt8=> [Value.int .u8 z.toNat]) (p:=fun z=>True) G (by
  intro r hr
  obtain ⟨n,y,hy⟩:=u r hr
  obtain ⟨z,q,_,hw⟩:=DataW.trod_int Tryz.underlying5 hy
  obtain ⟨I,rfl⟩:=kJ hw
  exact ⟨I,q,trivial⟩)
 obtain ⟨a',J,t,B⟩:=h1
 have m:=t
 simp only[List.length_map,Value.slice.injEq] at m
 obtain ⟨rfl,rfl,rfl⟩:=m
 refine ⟨a,_,cap,zs,rfl,a,cap,rfl,e.1,e.2,fun i z hi=>?_⟩
 obtain ⟨_,b,o,rfl,D⟩:=B i [.int .u8 z.toNat] (by simp[hi])
 exact ⟨b,o,rfl,by have:=D 0 _ rfl;simpa[bv] using this⟩
theorem WU{α:Type}{f:α→List Value}{s:Nat}(p: ∀x,(f x).length=s)(hp:0<s){w:World}{a:Option Addr}{cap:Nat}{l:List α}(h:iT w (.slice a l.length cap) s (l.map f))(h1:l.length≤cap)(t:cap≤9223372036854775807):Aj s (Ja w) (.slice a l.length cap) l.length (l.flatMap f):=by
 have d:(l.flatMap f).length=l.length*s:=My p l
 refine ⟨d,a,cap,rfl,h1,t,fun j u q=>?_⟩
 have g:j<l.length*s:=by
  rw[←d]
  exact (List.getElem?_eq_some_iff.1 q).1
 have e:j/s<l.length:=Nat.div_lt_of_lt_mul (by rw[Nat.mul_comm];exact g)
 have k:j%s<s:=Nat.mod_lt _ hp
 have m:j/s*s+j%s=j:=by rw[Nat.mul_comm];exact Nat.div_add_mod j s
 obtain ⟨x,hx⟩: ∃x,l[j/s]?=some x:=⟨_,List.getElem?_eq_getElem e⟩
 have c:=JU (f:=f) (s:=s) p l (j/s) (j%s) x hx k
 rw[m] at c
 obtain ⟨b,o,rfl,v⟩:=h.at (i:=j/s) (r:=f x) (by simp[hx])
 refine ⟨b,o,rfl,?_⟩
 have n:=v (j%s) u (c.symm.trans q)
 rw[Nat.add_assoc,m] at n
 haveI:P' w b (o+j) u:=⟨n⟩
 exact inferInstance
theorem FW{H:Type}{enc:TypeId×Value→H}{w:World}{b:Nat}{a:Nat→Bool}{d:Bool}{t e:Nat}{r:List Value}{x:DataW H×List MemPlace}{fs:Array Field}
 (s:Tryz.prog.underlying t=some (.struct fs)) (h:DataW.trod enc Tryz.prog w b a d e t r=some x) (i j g c:Nat) (q:(fs[i]?).map (fun f=>(f.type,f.offset))=some (j,g)) (p:Tryz.prog.cellsOf j=c):
 ∃n y,DataW.trod enc Tryz.prog w b a d n j ((r.drop g).take c)=some y:=by
 obtain ⟨_,n,l⟩:=F3 s h
 obtain ⟨f,m,o⟩:=Option.map_eq_some_iff.1 q
 obtain ⟨y,k⟩:=l i f m
 cases o
 rw[p] at k
 exact ⟨n,y,k⟩
theorem Z2{H:Type}{enc:TypeId×Value→H}{P:Program}{t:TypeId}{W:World}{a:Nat}{sp:Nat→Bool}{b:Bool}{g i:Field}{r:Reach}{o:Nat}{v:Value}{d:DataW H}{ps:List MemPlace}(n:P.underlying t=some (.struct #[g,i]))
 (s:g.offset=0) (u:i.offset=1) (c0:P.cellsOf g.type=1) (c1:P.cellsOf i.type=1) (j:P.cellsOf t=2)
 (c:Value.okWide P W r o t v) (p:DataW.Trod enc P W a sp b t v d ps): ∃x y,v= .agg #[x,y]∧(∃m q,DataW.trod enc P W a sp b m g.type [x]=some q)∧(∃m q,DataW.trod enc P W a sp b m i.type [y]=some q):=by
 simp only[Value.okWide,n] at c
 obtain ⟨cs,rfl,hs,_⟩:=c
 obtain ⟨f,e⟩:=p
 cases f with
 |zero=>simp[DataW.trod] at e
 | succ m =>
  rw[DataW.trod_step] at e
  unfold DataW.trodStep at e
  simp only[n,Value.cells] at e
  rw[j] at hs
  obtain ⟨l⟩:=cs
  match l,hs with
  | [x,y],_=>
   simp only[j,List.length_cons,List.length_nil,if_true,List.mapM_cons,List.mapM_nil,s,u,c0,c1,Option.map_eq_some_iff,bind,Option.bind_eq_some_iff,pure,Option.some.injEq] at e
   obtain ⟨xs,⟨w,e0,l1,⟨z,k,l2,rfl,rfl⟩,rfl⟩,_⟩:=e
   simp at e0 k
   exact ⟨x,y,rfl,⟨m,w,e0⟩,⟨m,z,k⟩⟩
theorem kA{r:List Value}(h:r.length=6): ∃a b c d e f,r= [a,b,c,d,e,f]:=by
 match r,h with
 | [a,b,c,d,e,f],_=>exact ⟨a,b,c,d,e,f,rfl⟩
theorem Wx{H:Type}{enc:TypeId×Value→H}{w:World}{g:Nat}{e:Nat→Bool}{i:Bool}{a:Option Addr}{len cap:Nat}
 (h: ∃d x,DataW.trod enc Tryz.prog w g e i d 117 [.slice a len cap]=some x):
 ∃cs:List MW,cs.length=len∧Ot (Ja w) (.slice a cs.length cap) cs∧cs.length≤9223372036854775807∧ ∀c∈cs,Au (Ja w) (.slice c.a c.put.length c.c) c.put:=by
 obtain ⟨d,x,hx⟩:=h
 obtain ⟨a',t,o,J,b⟩:=R8 Tryz.underlying117 hx
 cases J
 obtain ⟨M,h1,D,V,G⟩:=IJ (s:=6) Tryz.underlying117 (by kernel_rfl) (by omega) hx
 obtain ⟨cs,rfl,m⟩:=MO (f:=fP) (p:=fun c=>Au (Ja w) (.slice c.a c.put.length c.c) c.put) M (by
  intro r hr
  obtain ⟨n,y,hy⟩:=G r hr
  obtain ⟨hl,n',W⟩:=F3 Tryz.underlying232 hy
  obtain ⟨v0,v1,v2,v3,v4,v5,rfl⟩:=kA (hl.trans (by kernel_rfl))
  have c0:Tryz.prog.cellsOf 3=1:=by kernel_rfl
  have c3:Tryz.prog.cellsOf 29=1:=by kernel_rfl
  obtain ⟨_,y0,e0⟩:=FW Tryz.underlying232 hy 0 3 0 1 rfl c0
  obtain ⟨_,y1,u⟩:=FW Tryz.underlying232 hy 1 3 1 1 rfl c0
  obtain ⟨_,y2,v⟩:=FW Tryz.underlying232 hy 2 3 2 1 rfl c0
  obtain ⟨K,O,q⟩:=FW Tryz.underlying232 hy 3 29 3 1 rfl c3
  obtain ⟨_,y4,z⟩:=FW Tryz.underlying232 hy 4 3 4 1 rfl c0
  obtain ⟨_,y5,B⟩:=FW Tryz.underlying232 hy 5 3 5 1 rfl c0
  obtain ⟨P,rfl,X⟩:=De Tryz.underlying3 e0
  obtain ⟨Q,rfl,Y⟩:=De Tryz.underlying3 u
  obtain ⟨R,rfl,Z⟩:=De Tryz.underlying3 v
  obtain ⟨T,rfl,w4⟩:=De Tryz.underlying3 z
  obtain ⟨U,rfl,w5⟩:=De Tryz.underlying3 B
  have hs: ∃a n c,v3= .slice a n c:=by
   rcases DataW.trod_slice Tryz.underlying29 q with ⟨h0,_⟩|⟨a,len,cap,k,rest,n,_,h1,_⟩
   ·exact ⟨none,0,0,by simpa using h0⟩
   exact ⟨some a,len,cap,by simpa using h1⟩
  obtain ⟨L,pn,pc,rfl⟩:=hs
  obtain ⟨l,hl,I⟩:=Wc ⟨K,O,q⟩
  subst hl
  exact ⟨⟨P,Q,R,L,pc,l,T,U⟩,rfl,I⟩)
 have j:cs.length=len:=by simpa using D
 subst j
 exact ⟨cs,rfl,WU (f:=fP) (s:=6) (fun _=>rfl) (by omega) h1 b.1 (by simpa[maxLen] using b.2),by have:=b.1;have:=b.2;unfold maxLen at this;omega,m⟩
