/- censusPages holds for every input. No condition. (part 52) -/
import Derived.Test.YtfhbmblbidcmmaaGreatVa51
set_option linter.all false
set_option maxRecDepth 100000
set_option maxHeartbeats 12800000
namespace Go.Proofs.YtfhbmblbidcmmaaGreat
open Go.RowKit Go.Sl Go.Tr Go.Dk
abbrev NV:TypeId:=47
def QL(l:List Int):List Value:=l.map (Value.int .i64)
theorem XQ(l:List Int): ∀u∈QL l,u.oneCell'=true:=by
 intro u a
 unfold QL at a
 obtain ⟨x,_,rfl⟩:=List.mem_map.1 a
 rfl
theorem XK(a b:List Ar):AO (a++b)=AO a++AO b:=by simp[AO]
theorem XP(a b:List Int):QL (a++b)=QL a++QL b:=by simp[QL]
def Jf(B:Ab)(v:Value)(l:List Int):Prop:=Aj 1 B v l.length (QL l)
def eG(G:Ab)(v:Value)(l:Lk):Prop:= ∃a b,v= .agg #[.bool l.ok,.int .i64 l.Am,a,b]∧Au G a l.Ag∧Jf G b l.Az
def Qy(B F:Ab)(l:Lk)(e:Ending)(a:World):Prop:= ∃v G,e= .returned v∧eG G v l∧Sat (G*(B*F)) a
theorem Ea{B F:Ab}{w:World}(hs:Sat (B*F) w):Qy B F Fm (.returned (.agg #[.bool false,.int .i64 0,.slice none 0 0,.slice none 0 0])) w:=
 ⟨_,1,rfl,⟨_,_,rfl,Aj.nil 4 _,Aj.nil 1 _⟩,by rw[Aw];exact hs⟩
theorem Rx{a:Option Addr}{n c:Nat}{l:List Int}{F:Ab}{w:World}(hs:Sat (rw Cb 1 (.slice a n c) (QL l)*F) w)(b:n=l.length):Jf (rw Cb 1 (.slice a n c) (QL l)) (.slice a n c) l:=by
 subst b
 exact Aj.rw hs ⟨a,c,rfl⟩
structure mK (V:Int→Option Nd) (f:Nat) (kids:List Kd) (R:Lk) (J:Ab) (g lk j ne np:Nat) (oh:Int) (oe:List Ar) (op:List Int) (aE:Option Addr) (cE:Nat) (aP:Option Addr) (cP:Nat) (vK:Value):Prop where
 jN:g=lk-j
 rest:B8 V (fun p=>AN V f p false) (kids.drop j) (j==0) ⟨true,oh,oe,op⟩=R
 e:Au J (.slice aE ne cE) oe
 p:Jf J (.slice aP np cP) op
 k:AS J vK kids
 ne:oe.length=ne
 np:op.length=np
theorem iY{e s n g:Nat}{l:List Value}{F:Ab}{w:World}(hl:l.length=n*s)(a:n≤1099511627776)(hs:Sat (Sl.block g e l*F) w):Sat (rw e s (.slice (some ⟨g,0,none⟩) n n) l*F) w:=
 Sat.EB (sp:= []) hl (by simpa using hl) (Nat.le_refl _) (by unfold maxLen;omega) (by simpa using hs)
theorem cN{V:Int→Option Nd}{bl:Int→Lk}{ks:List Kd}{j:Nat}{k:Kd}(c:ks[j]?=some k)(o:Lk):B8 V bl (ks.drop j) (j==0) o=match GS (bl k.Ap) (Gu (Bx V k.Ap)) (j==0) k o with
 |none=>Fm
 |some o'=>B8 V bl (ks.drop (j+1)) (j+1==0) o':=by
 have h1:ks.drop j=k::ks.drop (j+1):=by
  obtain ⟨a,b⟩:=List.getElem?_eq_some_iff.1 c
  rw[List.drop_eq_getElem_cons a,b]
 rw[h1]
 rfl
theorem UN{V:Int→Option Nd}{p:Int}(h:V p=none)(f:Nat)(top:Bool):AN V (f+1) p top=Fm:=by
 show (match V p with|none=>Fm|some n=>if top=false∧many n<4 then Fm else B8 V (fun p=>AN V f p false) n.kids true ⟨true,0,n.Ag,[p]⟩)=_
 rw[h]
theorem UO{V:Int→Option Nd}{p:Int}{n:Nd}(h:V p=some n)(f:Nat)(top:Bool):AN V (f+1) p top=if top=false∧many n<4 then Fm else B8 V (fun p=>AN V f p false) n.kids true ⟨true,0,n.Ag,[p]⟩:=by
 show (match V p with|none=>Fm|some n=>if top=false∧many n<4 then Fm else B8 V (fun p=>AN V f p false) n.kids true ⟨true,0,n.Ag,[p]⟩)=_
 rw[h]
theorem ZD{x:Lk}{s:Int×Int×Int}{first:Bool}{k:Kd}{o:Lk}(h:x.ok=false∨s.1≠k.bytes∨s.2.1≠k.lines∨s.2.2≠k.A7∨(first=false∧x.Am+1≠o.Am)):GS x s first k o=none:=by
 unfold GS
 rw[if_pos h]
theorem SI(file : List UInt8)(v : Value)(B : Ab)(hB : Reads B v file)(hl : file.length ≤ 1099511627776) : ∀(f : Nat)(no d : Int)(top : Bool)(F : Ab)(w : World), f ≤ 13 → d = 13 - (f : Int) → Sat (B * F) w →
 Calls Tryz.prog 71 #[v,.int .i64 no,.bool top,.int .i64 d] w (Qy B F (AN (As file) f no top)):=by
 intro f
 induction f with
 | zero =>
  intro no d top F w hf hd hs
  have hq:d=13:=by omega
  clear hd hf
  subst hq
  haveI:=hs.i
  have dr:=J6 file v no B F w hB hl hs
  unfold AN
  go_enter Tryz.func71,Tryz.ntmps71
  go_wp2_with fail
  with_reducible refine Calls.mono (J6 file v no B _ _ hB hl (Ae B)) ?_
  rintro e w1 ⟨v',G,rfl,hN,q1⟩
  obtain ⟨vE,vK,rfl,hE,hK⟩:=hN
  obtain ⟨aE,cE,rfl,X,dg⟩:=hE.v
  obtain ⟨aK,W,rfl,Y,di⟩:=hK.v
  haveI:=q1.i
  obtain ⟨b,hb⟩:=Aq ((As file no).isSome)
  rw[hb]
  obtain ⟨o,ho⟩:=Aq ((As file no).getD Hb)
  rw[ho] at X Y⊢
  obtain ⟨le,Z⟩:=Aq o.Ag.length
  obtain ⟨lk,cq⟩:=Aq o.kids.length
  obtain ⟨lf,ac⟩:=Aq o.leaf
  rw[Z] at X⊢
  rw[cq] at Y⊢
  rw[ac]
  clear dr hs hE hK hb ho Z cq ac
  cases b with
  | true =>
   go_wp2
   go_returns
   exact Ea (Ao B F)
  | false =>
   go_wp2
   go_returns
   exact Ea (Ao B F)
 | succ f ih =>
  intro no d top F w hf hd hs
  obtain ⟨i0,E⟩:=EW
  obtain ⟨i1,E1⟩:=KC
  haveI:=hs.i
  obtain ⟨R,hR⟩:=Aq (AN (As file) (f+1) no top)
  have HR:Aside (AN (As file) (f+1) no top=R):=hR
  rw[hR]
  clear hR
  have cm: ¬(12:Int)<d:=by omega
  have dm:decide ((12:Int)<d)=false:=decide_eq_false cm
  have f7:=Bg (d+1) (by omega)
  have HD:Aside (d=13-((f+1:Nat):Int)∧f+1≤13):=⟨hd,hf⟩
  have IH:Aside (∀(no d:Int)(top:Bool)(F:Ab)(w:World),f≤13→d=13-(f:Int)→Sat (B*F) w→Calls Tryz.prog 71 #[v,.int .i64 no,.bool top,.int .i64 d] w (Qy B F (AN (As file) f no top))):=ih
  have NO:Aside (∀(no:Int)(F:Ab)(w:World),Sat (B*F) w→Calls Tryz.prog 126 #[v,.int .i64 no] w (RJ B F (As file no))):=fun no F w h=>J6 file v no B F w hB hl h
  have HV:Aside (∀p n,As file p=some n→may n=true):=fun p n h=>EX h
  clear ih hd hf
  go_enter Tryz.func71,Tryz.ntmps71
  go_wp2_with fail
  with_reducible refine Calls.mono (NO.out no _ _ (Ae B)) ?_
  rintro e w1 ⟨v',G,rfl,hN,q1⟩
  obtain ⟨vE,vK,rfl,hE,hK⟩:=hN
  obtain ⟨aE,cE,rfl,X,dg⟩:=hE.v
  obtain ⟨aK,W,rfl,Y,di⟩:=hK.v
  clear hs
  cases H:As file no with
  | none =>
   have HF:Aside (R=Fm):=(by rw[←HR.out];exact UN H _ _:_=_)
   haveI:=q1.i
   clear hE hK H
   go_wp2
   go_returns
   rw[HF.out]
   exact Ea (Ao B F)
  | some n =>
   rw[H] at hE hK X Y
   simp only[Option.getD_some,Option.isSome_some] at hE hK X Y⊢
   have hm:=HV.out no n H
   have Z:n.Ag.length≤12∧n.kids.length≤12:=⟨(Eu.of hm).e,(Eu.of hm).k⟩
   have HF:Aside (R=if top=false∧many n<4 then Fm else B8 (As file) (fun p=>AN (As file) f p false) n.kids true ⟨true,0,n.Ag,[no]⟩):=(by rw[←HR.out];exact UO H _ _:_=_)
   have HM:Aside (may n=true):=hm
   have HE:Aside (Au G (.slice aE n.Ag.length cE) n.Ag):=hE
   have HK:Aside (AS G (.slice aK n.kids.length W) n.kids):=hK
   obtain ⟨le,ab⟩:=Aq n.Ag.length
   obtain ⟨lk,ad⟩:=Aq n.kids.length
   have am:Aside (n.Ag.length=le):=ab
   have V:Aside (n.kids.length=lk):=ad
   rw[ab] at Z X⊢
   rw[ad] at Z Y⊢
   obtain ⟨eg,eh⟩:=Z
   have f9:=Bg ((le:Int)+(lk:Int)) (by omega)
   obtain ⟨lf,ac⟩:=Aq n.leaf
   rw[ac]
   haveI:=q1.i
   clear hE hK H hm ab ad ac
   obtain ⟨fw,co⟩:=Aq (decide (top=false∧le+lk<4))
   have U:Aside (decide (top=false∧le+lk<4)=fw):=co
   clear co
   go_upto_region 2 with (fail)
   go_cut [45] (fun dx wx=>dx= .bool fw∧Sat (Sl.block w1.heap.size C1 [.bool lf,.slice aE le cE,.slice aK lk W]*(Sl.block w.heap.size NV [.bool false,.int .i64 0,.slice none 0 0,.slice none 0 0]*(G*(B*F)))) wx)
   case first =>
    cases top with
    | true =>
      have I:fw=false:=by rw[←U.out];simp
      subst I
      go_wp2_with fail
      go_meet
      exact ⟨rfl,Av (by ac_rfl)⟩
    | false =>
      by_cases h4:le+lk<4
      · have I:fw=true:=by rw[←U.out];simp[h4]
        subst I
        have aa:(le:Int)+(lk:Int)<4:=by omega
        have cn:decide ((le:Int)+(lk:Int)<4)=true:=decide_eq_true aa
        go_wp2_with fail
        go_meet
        exact ⟨rfl,Av (by ac_rfl)⟩
      have I:fw=false:=by rw[←U.out];simp[h4]
      subst I
      have aa: ¬(le:Int)+(lk:Int)<4:=by omega
      have cn:decide ((le:Int)+(lk:Int)<4)=false:=decide_eq_false aa
      go_wp2_with fail
      go_meet
      exact ⟨rfl,Av (by ac_rfl)⟩
   obtain ⟨rfl,q2⟩:=hcut
   obtain ⟨N9,ch⟩:=Aq w1.heap.size
   obtain ⟨N8,cg⟩:=Aq w.heap.size
   rw[ch,cg] at q2⊢
   clear q1 this cg ch
   haveI:=q2.i
   cases fw with
   | true =>
     have al:Aside (R=Fm):=(by
      rw[HF.out,if_pos]
      have r:=of_decide_eq_true U.out
      exact ⟨r.1,by unfold many;rw[am.out,V.out];exact r.2⟩:_=_)
     go_wp2
     go_returns
     rw[al.out]
     exact Ea (Ao B F)
   | false =>
     have al:Aside (B8 (As file) (fun p=>AN (As file) f p false) n.kids true ⟨true,0,n.Ag,[no]⟩=R):=(by
      rw[HF.out,if_neg]
      have r:=of_decide_eq_false U.out
      rintro ⟨h1,h2⟩
      exact r ⟨h1,by unfold many at h2;rw[am.out,V.out] at h2;exact h2⟩:_=_)
     clear HF HR U
     obtain ⟨i0,E⟩:=EW
     obtain ⟨i1,E1⟩:=KC
     go_wp2_with fail
     obtain ⟨N,hN⟩:=Aq wc.heap.size
     have q3:Sat (Sl.block N Cb [.int .i64 no]*(Sl.block (N+1) NV [.bool true,.int .i64 0,.slice aE le cE,.slice (some ⟨N,0,none⟩) 1 1]*(Sl.block N9 C1 [.bool lf,.slice aE le cE,.slice aK lk W]*(Sl.block N8 NV [.bool false,.int .i64 0,.slice none 0 0,.slice none 0 0]*(G*(B*F)))))) ((wc.alloc (.cells #[.int .i64 no] Cb)).alloc (.cells #[.bool true,.int .i64 0,.slice aE le cE,.slice (some ⟨wc.heap.size,0,none⟩) 1 1] NV)):=by
      rw[←hN]
      exact Av (by ac_rfl)
     rw[hN] at q3⊢
     generalize ((wc.alloc (.cells #[.int .i64 no] Cb)).alloc (.cells #[.bool true,.int .i64 0,.slice aE le cE,.slice (some ⟨N,0,none⟩) 1 1] NV))=w3 at q3⊢
     have q4:=iY (s:=1) (n:=1) rfl (by omega) q3
     have cc:Jf (rw Cb 1 (.slice (some ⟨N,0,none⟩) 1 1) [.int .i64 no]) (.slice (some ⟨N,0,none⟩) 1 1) [no]:=Rx (l:= [no]) q4 rfl
     have bt:Aside (mK (As file) f n.kids R (rw Cb 1 (.slice (some ⟨N,0,none⟩) 1 1) [.int .i64 no]*G) lk lk 0 le 1 0 n.Ag [no] aE cE (some ⟨N,0,none⟩) 1 (.slice aK lk W)):=
      ⟨rfl,al.out,by have:=HE.out;rw[am.out] at this;exact Aj.right this,Aj.left cc,by have:=HK.out;rw[V.out] at this;exact Aj.right this,am.out,rfl⟩
     obtain ⟨u,b2⟩:=Aq (N+1)
     rw[b2] at q4⊢
     clear q2 q3 hN b2 cc al this
     go_loopg [12] lk (fun g dw wr=> ∃(j ne np:Nat)(oh:Int)(oe:List Ar)(op:List Int)(a1:Option Addr)(c1:Nat)(a2:Option Addr)(c2:Nat)(J:Ab),dw= .int .i64 j∧j≤lk∧0≤oh∧oh≤13∧ne≤1036∧np≤1037∧np≤ne+1∧Aside (mK (As file) f n.kids R J g lk j ne np oh oe op a1 c1 a2 c2 (.slice aK lk W))∧
      Sat (Sl.block u NV [.bool true,.int .i64 oh,.slice a1 ne c1,.slice a2 np c2]*(Sl.block N9 C1 [.bool lf,.slice aE le cE,.slice aK lk W]*(Sl.block N8 NV [.bool false,.int .i64 0,.slice none 0 0,.slice none 0 0]*(J*(B*F))))) wr)
     case atStart=>exact ⟨0,le,1,0,n.Ag,[no],aE,cE,some ⟨N,0,none⟩,1,_,rfl,by omega,by omega,by omega,by omega,by omega,by omega,bt,q4.eq (by ac_rfl)⟩
     obtain ⟨j,ne,np,oh,oe,op,a1,c1,a2,c2,J,rfl,hj,f5,f6,f3,f4,ax,A,q5⟩:=hrel
     clear q4 bt
     haveI:=q5.i
     by_cases dq:j<lk
     · have cr : (j : Int) < lk := by omega
       obtain ⟨k,hk⟩: ∃k,n.kids[j]?=some k:=⟨_,List.getElem?_eq_getElem (by rw[V.out];exact dq)⟩
       obtain ⟨b,af,e9,r1,r2,r3,r4⟩:=Co (a:=aK) (c:=W) (by have:=A.out.k;rw[←V.out] at this;exact this) hk
       subst e9
       obtain ⟨x,hx⟩:=Aq (AN (As file) f k.Ap false)
       have L:PY false f x:=by rw[←hx];exact Gb HV.out f k.Ap false
       have be:Eu (Bx (As file) k.Ap):=by
        unfold Bx
        cases hq:As file k.Ap with
        |none=>exact Eu.zero
        |some m=>exact Eu.of (HV.out _ m hq)
       obtain ⟨⟨s1,s2,s3⟩,Q⟩:=Aq (Gu (Bx (As file) k.Ap))
       have b7:Aside (R=match GS x (s1,s2,s3) (j==0) k ⟨true,oh,oe,op⟩ with
        |none=>Fm
        |some o'=>B8 (As file) (fun p=>AN (As file) f p false) (n.kids.drop (j+1)) (j+1==0) o'):=(by
        have r:=A.out.rest
        rw[cN hk,hx,Q] at r
        exact r.symm:_=_)
       obtain ⟨k1,k2,k3,k4⟩:=k
       simp only at r1 r2 r3 r4 hx be Q
       have HX:Aside (AN (As file) f k1 false=x):=hx
       have a4:Aside (PY false f x):=L
       have d8:Aside (Eu (Bx (As file) k1)):=be
       have bx:Aside (Gu (Bx (As file) k1)=(s1,s2,s3)):=Q
       clear hk hx L be Q
       go_wp2_with fail
       with_reducible refine Calls.mono (IH.out k1 (d+1) false _ _ ?_ ?_ (Ae B)) ?_
       · have:=HD.out;omega
       · have:=HD.out;omega
       rintro e w4 ⟨v2,G2,rfl,ce,q6⟩
       rw[HX.out] at ce
       obtain ⟨ff,fi,rfl,ap,ar⟩:=ce
       obtain ⟨xE,dE,rfl,c9,ez⟩:=ap.v
       obtain ⟨xP,dP,rfl,cj,f2⟩:=ar.v
       have ds:=a4.out.h0
       have ct:=a4.out.h1
       have cs:=a4.out.Ag
       have bf:=a4.out.Az
       obtain ⟨xo,K,T,xp⟩:=x
       simp only at ds ct cs bf c9 cj ap ar
       obtain ⟨z,av⟩:=Aq T.length
       obtain ⟨q,aw⟩:=Aq xp.length
       have D:Aside (T.length=z∧xp.length=q):=⟨av,aw⟩
       have bz:Aside (Au G2 (.slice xE T.length dE) T∧Jf G2 (.slice xP xp.length dP) xp):=⟨ap,ar⟩
       have ef:(f:Int)≤12:=by have:=HD.out;omega
       rw[av] at cs c9 bf
       rw[aw] at cj bf
       simp only[av,aw] at q6⊢
       haveI:=q6.i
       have f8:=Bg (K+1) (by omega)
       clear ap ar av aw q5
       go_wp2_with fail
       with_reducible refine Calls.mono (NO.out k1 _ _ (Ae B)) ?_
       rintro e w5 ⟨v3,G3,rfl,cf,q7⟩
       have a9:AJ G3 v3 (Bx (As file) k1):=cf
       have ae:=WL (Bx (As file) k1) v3 G3
       rw[bx.out] at ae
       simp only at ae
       obtain ⟨fg,fh,rfl,ca,cd⟩:=cf
       obtain ⟨bE,fE,rfl,dh,f0⟩:=ca.v
       obtain ⟨bK,fK,rfl,dj,f1⟩:=cd.v
       obtain ⟨nn,ax⟩:=Aq ((As file k1).getD Hb)
       obtain ⟨ge,b9⟩:=Aq nn.Ag.length
       obtain ⟨gk,ba⟩:=Aq nn.kids.length
       obtain ⟨gl,bb⟩:=Aq nn.leaf
       obtain ⟨go,cp⟩:=Aq ((As file k1).isSome)
       rw[ax,b9,ba,bb] at a9 ae
       rw[ax,b9,ba,bb,cp]
       have bw:Aside (∀(F:Ab)(w:World),Sat (G3*F) w→Calls Tryz.prog 127 #[.agg #[.bool gl,.slice bE ge fE,.slice bK gk fK]] w fun e O=>e= .returned (.tuple #[.int .i64 s1,.int .i64 s2,.int .i64 s3])∧Sat (G3*F) O):=fun F w h=>ae F w a9 d8.out h
       haveI:=q7.i
       clear a9 ae ca cd dh dj ax b9 ba bb cp q6
       go_wp2_with fail
       with_reducible refine Calls.mono (bw.out _ _ (Ae G3)) ?_
       rintro e w6 ⟨rfl,q8⟩
       haveI:=q8.i
       clear q7
       obtain ⟨bd,cl⟩:=Aq (decide (xo=false∨s1≠k2∨s2≠k3∨s3≠k4∨((j==0)=false∧K+1≠oh)))
       have t:Aside (decide (xo=false∨s1≠k2∨s2≠k3∨s3≠k4∨((j==0)=false∧K+1≠oh))=bd):=cl
       clear cl
       have q9:Sat (Sl.block w4.heap.size NV [.bool xo,.int .i64 K,.slice xE z dE,.slice xP q dP]*(G2*(Sl.block u NV [.bool true,.int .i64 oh,.slice a1 ne c1,.slice a2 np c2]*(Sl.block N9 C1 [.bool lf,.slice aE le cE,.slice (some ⟨b,af,none⟩) lk W]*(Sl.block N8 NV [.bool false,.int .i64 0,.slice none 0 0,.slice none 0 0]*(J*(B*F))))))) w6:=A4 (C:=G3*(Sl.block w5.heap.size C1 [.bool gl,.slice bE ge fE,.slice bK gk fK]*Sl.block wr.heap.size 141 [.int .i64 k1,.int .i64 k2,.int .i64 k3,.int .i64 k4])) (by ac_rfl)
       go_upto_region 12 with (fail)
       go_cut [115] (fun cz wx=>cz= .bool bd∧Sat (Sl.block w4.heap.size NV [.bool xo,.int .i64 K,.slice xE z dE,.slice xP q dP]*(G2*(Sl.block u NV [.bool true,.int .i64 oh,.slice a1 ne c1,.slice a2 np c2]*(Sl.block N9 C1 [.bool lf,.slice aE le cE,.slice (some ⟨b,af,none⟩) lk W]*(Sl.block N8 NV [.bool false,.int .i64 0,.slice none 0 0,.slice none 0 0]*(J*(B*F))))))) wx)
       case first =>
        cases L:xo with
        | false =>
          subst L
          have I:bd=true:=by rw[←t.out];simp
          subst I
          go_wp2_with fail
          go_meet
          exact ⟨rfl,q9⟩
        | true =>
          subst L
          cases e2:(s1 !=k2) with
          | true =>
            have I:bd=true:=by
             have c2:s1≠k2:=by simpa using e2
             rw[←t.out]
             simp[*]
            subst I
            go_wp2_with fail
            go_meet
            exact ⟨rfl,q9⟩
          | false =>
            cases e3:(s2 !=k3) with
            | true =>
              have I:bd=true:=by
               have c3:s2≠k3:=by simpa using e3
               rw[←t.out]
               simp[*]
              subst I
              go_wp2_with fail
              go_meet
              exact ⟨rfl,q9⟩
            | false =>
              cases e4:(s3 !=k4) with
              | true =>
                have I:bd=true:=by
                 have c4:s3≠k4:=by simpa using e4
                 rw[←t.out]
                 simp[*]
                subst I
                go_wp2_with fail
                go_meet
                exact ⟨rfl,q9⟩
              | false =>
                by_cases c5:j=0
                · have dn:(j:Int)=0:=by omega
                  have au:decide ((0:Int)<(j:Int))=false:=decide_eq_false (by omega)
                  have I:bd=false:=by
                   clear dn au
                   have c2:s1=k2:=by simpa using e2
                   have c3:s2=k3:=by simpa using e3
                   have c4:s3=k4:=by simpa using e4
                   rw[←t.out]
                   simp[*]
                  subst I
                  go_wp2_with fail
                  go_meet
                  exact ⟨rfl,q9⟩
                have bc:(0:Int)<j:=by omega
                have au:decide ((0:Int)<(j:Int))=true:=decide_eq_true bc
                cases e6:(K+1 !=oh) with
                | true =>
                  have I:bd=true:=by
                   clear bc au
                   have c6:K+1≠oh:=by simpa using e6
                   rw[←t.out]
                   simp[*]
                  subst I
                  go_wp2_with fail
                  go_meet
                  exact ⟨rfl,q9⟩
                | false =>
                  have I:bd=false:=by
                   clear bc au
                   have c2:s1=k2:=by simpa using e2
                   have c3:s2=k3:=by simpa using e3
                   have c4:s3=k4:=by simpa using e4
                   have c6:K+1=oh:=by simpa using e6
                   rw[←t.out]
                   simp[*]
                  subst I
                  go_wp2_with fail
                  go_meet
                  exact ⟨rfl,q9⟩
       obtain ⟨rfl,ay⟩:=hcut
       clear q8 q9 this bw
       haveI:=ay.i
       cases bd with
       | true =>
         have M:Aside (R=Fm):=(by
          rw[b7.out,ZD (of_decide_eq_true t.out)]:_=_)
         go_wp2
         go_returns
         rw[M.out]
         exact Ea (Ao B F)
       | false =>
         obtain ⟨NX,ci⟩:=Aq w4.heap.size
         rw[ci] at ay⊢
         clear ci this
         haveI:=ay.i
         have SE:Aside (∀(F:Ab)(w:World),Sat (J*F) w→Src Tryz.prog 4 w (.slice a1 ne c1) ne (AO oe)):=fun F w h=>by
          have r:=Aj.src (P:=Tryz.prog) A.out.e (Ip oe) h
          rw[A.out.ne] at r
          exact r
         have SP:Aside (∀(F:Ab)(w:World),Sat (J*F) w→Src Tryz.prog 1 w (.slice a2 np c2) np (QL op)):=fun F w h=>by
          have r:=Aj.src (P:=Tryz.prog) A.out.p (XQ op) h
          rw[A.out.np] at r
          exact r
         have SX:Aside (∀(F:Ab)(w:World),Sat (G2*F) w→Src Tryz.prog 4 w (.slice xE z dE) z (AO T)):=fun F w h=>by
          have r:=Aj.src (P:=Tryz.prog) bz.out.1 (Ip T) h
          rw[D.out.1] at r
          exact r
         have da:Aside (∀(F:Ab)(w:World),Sat (G2*F) w→Src Tryz.prog 1 w (.slice xP q dP) q (QL xp)):=fun F w h=>by
          have r:=Aj.src (P:=Tryz.prog) bz.out.2 (XQ xp) h
          rw[D.out.2] at r
          exact r
         go_upto_region 15 with (fail)
         have cv:Sat (Sl.block u NV [.bool true,.int .i64 (K+1),.slice a1 ne c1,.slice a2 np c2]*(Sl.block NX NV [.bool xo,.int .i64 K,.slice xE z dE,.slice xP q dP]*(G2*(Sl.block N9 C1 [.bool lf,.slice aE le cE,.slice (some ⟨b,af,none⟩) lk W]*(Sl.block N8 NV [.bool false,.int .i64 0,.slice none 0 0,.slice none 0 0]*(J*(B*F))))))) (wc.setCell ⟨u,1,none⟩ (.int .i64 (K+1))):=Av (by ac_rfl)
         generalize wc.setCell ⟨u,1,none⟩ (.int .i64 (K+1))=w7 at cv⊢
         clear ay this
         haveI:=cv.i
         refine Dr.Ii (fun O=>O.cell? ⟨u,2,none⟩=some (.slice a1 ne c1)∧O.cell? ⟨NX,2,none⟩=some (.slice xE z dE)) [7,8] (by kernel_rfl) ⟨Ac _ _ _,Ac _ _ _⟩ (fun y=>?_)
         refine Dr.AL 1 (v:=?v1) (by simp only[List.getElem?_toArray,List.getElem?_cons_succ,List.getElem?_cons_zero];rfl) (by kernel_rfl) ?hQ1 (.inl ⟨?hw1,fun O=>?hy1⟩) ?_
         case hy1=>go_simp;try (with_reducible rfl)
         case hQ1=>exact fun _ _ _ h=>h
         case hw1=>rfl
         simp only[Act.put,List.setIfInBounds_toArray,List.set_cons_zero,List.set_cons_succ]
         refine Dr.Fh 2 (v:=?v2) (by simp only[List.getElem?_toArray,List.getElem?_cons_succ,List.getElem?_cons_zero];rfl) (by kernel_rfl) ?hQ2 (.inl ⟨?hw2,fun O hw=>?hy2⟩) y ?_
         case hy2=>(try dsimp only at hw);go_simp;try (with_reducible rfl)
         case hQ2=>exact fun _ _ _ h=>h
         case hw2=>rfl
         simp only[Act.put,List.setIfInBounds_toArray,List.set_cons_zero,List.set_cons_succ]
         refine Dr.AL 4 (v:=?v4) (by simp only[List.getElem?_toArray,List.getElem?_cons_succ,List.getElem?_cons_zero];rfl) (by kernel_rfl) ?hQ4 (.inl ⟨?hw4,fun O=>?hy4⟩) ?_
         case hy4=>go_simp;try (with_reducible rfl)
         case hQ4=>exact fun _ _ _ h=>h
         case hw4=>rfl
         simp only[Act.put,List.setIfInBounds_toArray,List.set_cons_zero,List.set_cons_succ]
         refine Dr.Fh 5 (v:=?v5) (by simp only[List.getElem?_toArray,List.getElem?_cons_succ,List.getElem?_cons_zero];rfl) (by kernel_rfl) ?hQ5 (.inl ⟨?hw5,fun O hw=>?hy5⟩) y ?_
         case hy5=>(try dsimp only at hw);go_simp;try (with_reducible rfl)
         case hQ5=>exact fun _ _ _ h=>h
         case hw5=>rfl
         simp only[Act.put,List.setIfInBounds_toArray,List.set_cons_zero,List.set_cons_succ]
         refine Dr.CC 0 (by simp only[List.getElem?_toArray,List.getElem?_cons_succ,List.getElem?_cons_zero];rfl) (by kernel_rfl) ?_
         go_wp2_with (fail)
         refine Dr.C9 ⟨⟨Ac _ _ _,Ac _ _ _⟩,?_⟩
         refine Dr.CC 3 (by simp only[List.getElem?_toArray,List.getElem?_cons_succ,List.getElem?_cons_zero];rfl) (by kernel_rfl) ?_
         go_wp2_with (at_builtin;refine Af E rfl (.tmp 121) (.tmp 123) rfl rfl rfl Yq (SE.out _ _ (Ae J)) (by unfold maxLen;omega) (by omega) ?_;intro a5 c5 w8 bj z9;clear z9;rw[Nat.zero_add,List.nil_append] at bj;rw[Nat.zero_add];haveI:=bj.i)
         refine Dr.C9 ⟨⟨Ac _ _ _,Ac _ _ _⟩,?_⟩
         refine Dr.CC 6 (by simp only[List.getElem?_toArray,List.getElem?_cons_succ,List.getElem?_cons_zero];rfl) (by kernel_rfl) ?_
         go_wp2_with (at_builtin;refine Af E rfl (.tmp 124) (.tmp 126) rfl rfl rfl (Ae (rw AG 4 (.slice a5 ne c5) (AO oe))) (SX.out _ _ (Ae G2)) (by unfold maxLen;omega) (by omega) ?_;intro a6 c6 w9 cw z9;clear z9;haveI:=cw.i)
         refine Dr.C9 ⟨⟨Ac _ _ _,Ac _ _ _⟩,?_⟩
         refine Dr.JO [7,8] (os:= [_,_]) (by decide) (by simp only[List.map_cons,List.map_nil,List.getElem?_toArray,List.getElem?_cons_succ,List.getElem?_cons_zero];rfl) (by kernel_rfl) ?_
         go_upto_region 16 with (fail)
         have bk:Sat (Sl.block u NV [.bool true,.int .i64 (K+1),.slice a6 (ne+z) c6,.slice a2 np c2]*(Sl.block NX NV [.bool xo,.int .i64 K,.slice xE z dE,.slice xP q dP]*(G2*(Sl.block N9 C1 [.bool lf,.slice aE le cE,.slice (some ⟨b,af,none⟩) lk W]*(Sl.block N8 NV [.bool false,.int .i64 0,.slice none 0 0,.slice none 0 0]*(rw AG 4 (.slice a6 (ne+z) c6) (AO oe++AO T)*(J*(B*F)))))))) (w9.setCell ⟨u,2,none⟩ (.slice a6 (ne+z) c6)):=Av (by ac_rfl)
         generalize w9.setCell ⟨u,2,none⟩ (.slice a6 (ne+z) c6)=w10 at bk⊢
         clear bj cw this
         haveI:=bk.i
         refine Dr.Ii (fun O=>O.cell? ⟨u,3,none⟩=some (.slice a2 np c2)∧O.cell? ⟨NX,3,none⟩=some (.slice xP q dP)) [7,8] (by kernel_rfl) ⟨Ac _ _ _,Ac _ _ _⟩ (fun y=>?_)
         refine Dr.AL 1 (v:=?v1b) (by simp only[List.getElem?_toArray,List.getElem?_cons_succ,List.getElem?_cons_zero];rfl) (by kernel_rfl) ?hQ1b (.inl ⟨?hw1b,fun O=>?hy1b⟩) ?_
         case hy1b=>go_simp;try (with_reducible rfl)
         case hQ1b=>exact fun _ _ _ h=>h
         case hw1b=>rfl
         simp only[Act.put,List.setIfInBounds_toArray,List.set_cons_zero,List.set_cons_succ]
         refine Dr.Fh 2 (v:=?v2b) (by simp only[List.getElem?_toArray,List.getElem?_cons_succ,List.getElem?_cons_zero];rfl) (by kernel_rfl) ?hQ2b (.inl ⟨?hw2b,fun O hw=>?hy2b⟩) y ?_
         case hy2b=>(try dsimp only at hw);go_simp;try (with_reducible rfl)
         case hQ2b=>exact fun _ _ _ h=>h
         case hw2b=>rfl
         simp only[Act.put,List.setIfInBounds_toArray,List.set_cons_zero,List.set_cons_succ]
         refine Dr.AL 4 (v:=?v4b) (by simp only[List.getElem?_toArray,List.getElem?_cons_succ,List.getElem?_cons_zero];rfl) (by kernel_rfl) ?hQ4b (.inl ⟨?hw4b,fun O=>?hy4b⟩) ?_
         case hy4b=>go_simp;try (with_reducible rfl)
         case hQ4b=>exact fun _ _ _ h=>h
         case hw4b=>rfl
         simp only[Act.put,List.setIfInBounds_toArray,List.set_cons_zero,List.set_cons_succ]
         refine Dr.Fh 5 (v:=?v5b) (by simp only[List.getElem?_toArray,List.getElem?_cons_succ,List.getElem?_cons_zero];rfl) (by kernel_rfl) ?hQ5b (.inl ⟨?hw5b,fun O hw=>?hy5b⟩) y ?_
         case hy5b=>(try dsimp only at hw);go_simp;try (with_reducible rfl)
         case hQ5b=>exact fun _ _ _ h=>h
         case hw5b=>rfl
         simp only[Act.put,List.setIfInBounds_toArray,List.set_cons_zero,List.set_cons_succ]
         refine Dr.CC 0 (by simp only[List.getElem?_toArray,List.getElem?_cons_succ,List.getElem?_cons_zero];rfl) (by kernel_rfl) ?_
         go_wp2_with (fail)
         refine Dr.C9 ⟨⟨Ac _ _ _,Ac _ _ _⟩,?_⟩
         refine Dr.CC 3 (by simp only[List.getElem?_toArray,List.getElem?_cons_succ,List.getElem?_cons_zero];rfl) (by kernel_rfl) ?_
         go_wp2_with (at_builtin;refine Af E1 rfl (.tmp 129) (.tmp 131) rfl rfl rfl Yq (SP.out _ _ (Ae J)) (by unfold maxLen;omega) (by omega) ?_;intro a7 c7 fj cx z9;clear z9;rw[Nat.zero_add,List.nil_append] at cx;rw[Nat.zero_add];haveI:=cx.i)
         refine Dr.C9 ⟨⟨Ac _ _ _,Ac _ _ _⟩,?_⟩
         refine Dr.CC 6 (by simp only[List.getElem?_toArray,List.getElem?_cons_succ,List.getElem?_cons_zero];rfl) (by kernel_rfl) ?_
         go_wp2_with (at_builtin;refine Af E1 rfl (.tmp 132) (.tmp 134) rfl rfl rfl (Ae (rw Cb 1 (.slice a7 np c7) (QL op))) (da.out _ _ (Ae G2)) (by unfold maxLen;omega) (by omega) ?_;intro a8 c8 fk cy z9;clear z9;haveI:=cy.i)
         refine Dr.C9 ⟨⟨Ac _ _ _,Ac _ _ _⟩,?_⟩
         refine Dr.JO [7,8] (os:= [_,_]) (by decide) (by simp only[List.map_cons,List.map_nil,List.getElem?_toArray,List.getElem?_cons_succ,List.getElem?_cons_zero];rfl) (by kernel_rfl) ?_
         go_upto_region 17 with (fail)
         by_cases b3:1024<ne+z
         · have dl:(1024:Int)<((ne+z:Nat):Int):=by omega
           have M:Aside (R=Fm):=(by rw[b7.out];unfold GS;rw[if_neg (of_decide_eq_false t.out),if_pos (by rw[List.length_append,D.out.1,A.out.ne];exact b3)]:_=_)
           go_wp2
           go_returns
           rw[M.out]
           exact Ea (Ao B F)
         have dl: ¬(1024:Int)<((ne+z:Nat):Int):=by omega
         have M:Aside (B8 (As file) (fun p=>AN (As file) f p false) (n.kids.drop (j+1)) (j+1==0) ⟨true,K+1,oe++T,op++xp⟩=R):=(by rw[b7.out];unfold GS;rw[if_neg (of_decide_eq_false t.out),if_neg (by rw[List.length_append,D.out.1,A.out.ne];exact b3)]:_=_)
         have L:xo=true:=by
          cases xo with
          |true=>rfl
          |false=>exact absurd (.inl rfl) (of_decide_eq_false t.out)
         have bu:Aside (q+1≤z):=(by have r:=a4.out.low rfl L;simp only[D.out.1,D.out.2] at r;exact r:_≤_)
         have cb:Au (rw AG 4 (.slice a6 (ne+z) c6) (AO oe++AO T)) (.slice a6 (ne+z) c6) (oe++T):=by
          rw[←XK]
          exact DJ (by rw[XK];exact bk.take (rw AG 4 (.slice a6 (ne+z) c6) (AO oe++AO T))) (by rw[List.length_append,D.out.1,A.out.ne])
         have ck:Jf (rw Cb 1 (.slice a8 (np+q) c8) (QL op++QL xp)) (.slice a8 (np+q) c8) (op++xp):=by
          rw[←XP]
          exact Rx (by rw[XP];exact cy.take (rw Cb 1 (.slice a8 (np+q) c8) (QL op++QL xp))) (by rw[List.length_append,D.out.2,A.out.np])
         have d5:Aside (mK (As file) f n.kids R (rw AG 4 (.slice a6 (ne+z) c6) (AO oe++AO T)*(rw Cb 1 (.slice a8 (np+q) c8) (QL op++QL xp)*J)) (lk-(j+1)) lk (j+1) (ne+z) (np+q) (K+1) (oe++T) (op++xp) a6 c6 a8 c8 (.slice (some ⟨b,af,none⟩) lk W)):=
          ⟨rfl,M.out,Aj.left cb,Aj.right (Aj.left ck),Aj.right (Aj.right A.out.k),by rw[List.length_append,D.out.1,A.out.ne],by rw[List.length_append,D.out.2,A.out.np]⟩
         clear cb ck L
         go_wp2_with fail
         go_roundg (lk-(j+1))
         case measure=>have:=A.out.jN;omega
         exact ⟨j+1,ne+z,np+q,K+1,oe++T,op++xp,a6,c6,a8,c8,_,by go_num,by omega,by omega,by omega,by omega,by have:=bu.out;omega,by have:=bu.out;omega,d5,A4 (C:=G2*Sl.block NX NV [.bool xo,.int .i64 K,.slice xE z dE,.slice xP q dP]) (by ac_rfl)⟩
     have cr: ¬(j:Int)<lk:=by omega
     obtain rfl:j=lk:=by omega
     have M:Aside (R=⟨true,oh,oe,op⟩):=(by
      have r:=A.out.rest
      rw[←V.out,List.drop_length] at r
      exact r.symm:_=_)
     have br:Aside (Au J (.slice a1 oe.length c1) oe∧Jf J (.slice a2 op.length c2) op):=⟨by have:=A.out.e;rw[←A.out.ne] at this;exact this,by have:=A.out.p;rw[←A.out.np] at this;exact this⟩
     have bv:Aside (oe.length=ne∧op.length=np):=⟨A.out.ne,A.out.np⟩
     clear A
     go_wp2
     go_returns
     rw[M.out]
     refine ⟨_,J,rfl,⟨_,_,rfl,by have:=br.out.1;rw[bv.out.1] at this;exact this,by have:=br.out.2;rw[bv.out.2] at this;exact this⟩,AD J B F⟩
theorem Ut{l:List Ar}{i:Nat}{y:Ar}(hy:l[i]?=some y)(h:1048576<Aa (l.take i)+y.len):Bf l=false:=by
 rw[EH]
 by_cases a:l.all Ai=true
 ·have h1:Aa l=Aa (l.take (i+1))+Aa (l.drop (i+1)):=by rw[←An,List.take_append_drop]
  have b:0≤Aa (l.drop (i+1)):=by
   have:=(Dd (l:=l.drop (i+1)) (fun x hx=>by
    have:=Cq (List.all_eq_true.1 a x (List.mem_of_mem_drop hx))
    omega) (l.drop (i+1)).length).1
   rwa [List.take_of_length_le (Nat.le_refl _)] at this
  have c:=BZ hy
  rw[decide_eq_false (by omega),Bool.and_false]
 rw[Bool.not_eq_true] at a
 rw[a]
 rfl
theorem n8(y:Ar):AO [y]=Dw y:=by simp[AO]
theorem WS{y:Ar}{a:Option Addr}{c:Nat}{F:Ab}{w:World}(h:Sat (rw AG 4 (.slice a 1 c) (Dw y)*F) w):Au (rw AG 4 (.slice a 1 c) (Dw y)) (.slice a 1 c) [y]:=by
 rw[←n8] at h⊢
 exact DJ h rfl
theorem PC(l:List Ar)(v:Value)(B F:Ab)(w:World)(J:Au B v l)(hs:Sat (B*F) w)(hl:l.length≤65536):
 Calls Tryz.prog 105 #[v] w fun e R=>e= .returned (.bool (Bf l))∧Sat (B*F) R:=by
 obtain ⟨i0,E⟩:=EW
 obtain ⟨a0,c0,rfl,a5,a6⟩:=J.v
 have HE:Aside (Au B (.slice a0 l.length c0) l):=J
 obtain ⟨n,M⟩:=Aq l.length
 rw[M] at hl⊢
 have T:Aside (l.length=n):=M
 obtain ⟨o,k⟩:=Aq (Bf l)
 rw[k]
 have I:Aside (Bf l=o):=k
 haveI:=hs.i
 clear J M k
 go_enter Tryz.func105,Tryz.ntmps105
 go_wp2
 go_loopg [3,4] n (fun g t3 t4 wr=> ∃(i:Nat),t4= .int .i64 i∧t3= .int .i64 (Aa (l.take i))∧i≤n∧Aside (g=n-i)∧Aside ((∀x∈l.take i,Ai x=true)∧0≤Aa (l.take i)∧Aa (l.take i)≤1048576)∧Sat (B*F) wr)
 case atStart=>exact ⟨0,rfl,by simp[Aa],by omega,rfl,⟨by simp,by simp[Aa],by simp[Aa]⟩,hs⟩
 obtain ⟨i,rfl,rfl,hi,A,G,O⟩:=hrel
 haveI:=O.i
 clear hs
 by_cases L:i<n
 · have r:(i:Int)<n:=by omega
   obtain ⟨y,hy⟩: ∃y,l[i]?=some y:=⟨_,List.getElem?_eq_getElem (by rw[T.out];exact L)⟩
   obtain ⟨b,q,rfl,r1,r2,r3,r4⟩:=BN HE.out hy
   have m:Aside (Aa (l.take (i+1))=Aa (l.take i)+y.len∧l.take (i+1)=l.take i++ [y]):=⟨BZ hy,AA hy⟩
   have d:Aside (∀(a:Option Addr)(c:Nat)(F:Ab)(w:World),Sat (rw AG 4 (.slice a 1 c) (Dw y)*F) w→Calls Tryz.prog 64 #[.agg #[.bool true,.slice a 1 c,.slice none 0 0]] w fun e R=>e= .returned (.bool (Ai y))∧Sat (rw AG 4 (.slice a 1 c) (Dw y)*F) R):=fun a c F w h=>
    cV y a c _ F w (WS h) h
   have H:Aside (Ai y=false→o=false):=fun h=>I.out.symm.trans (L8 hy h)
   have f:Aside (1048576<Aa (l.take i)+y.len→o=false):=fun h=>I.out.symm.trans (Ut hy h)
   have K:=G.out.2
   obtain ⟨z,V⟩:=Aq (Aa (l.take i))
   rw[V] at K m f⊢
   obtain ⟨W,t⟩:=Aq (Ai y)
   have j:Aside (Ai y=W):=t
   rw[t] at d
   obtain ⟨Y,Z,D,y4⟩:=y
   unfold Dw at d
   simp only at r1 r2 r3 r4 m f d
   clear hy V
   go_wp2_with (at_builtin;refine Af E rfl (.tmp 12) (.tmp 17) rfl rfl rfl (Sat.AE (e:=AG) (s:=4) ES) (Src.new (b:=wr.heap.size) (e:=AG) (s:=4) (vs:= [.int .i64 Y,.int .i64 Z,.int .i64 D,.int .i64 y4]) (Ae _) rfl (by intro u U;simp at U;rcases U with rfl|rfl|rfl|rfl<;>rfl)) (by unfold maxLen;omega) (by omega) ?_;intro a9 c9 w9 X z9;clear z9)
   rw[Nat.zero_add,List.nil_append] at X
   haveI:=X.i
   go_wp2_with fail
   refine (d.out _ _ _ _ (Ae (rw AG 4 (.slice a9 1 c9) [.int .i64 Y,.int .i64 Z,.int .i64 D,.int .i64 y4]))).mono ?_
   rintro e ad ⟨rfl,Q⟩
   haveI:=Q.i
   cases W with
   | false =>
     have p:Aside (o=false):=H.out j.out
     go_wp2
     go_ret
     exact ⟨by rw[p.out];rfl,Ao B F⟩
   | true =>
     have P:=Cq j.out
     simp only at P
     have hw:=Bg (z+D) (by omega)
     by_cases hb:1048576<z+D
     ·have p:Aside (o=false):=f.out hb
      go_wp2
      go_ret
      exact ⟨by rw[p.out];rfl,Ao B F⟩
     go_wp2
     go_roundg (n-(i+1))
     case measure=>have:=A.out;omega
     refine ⟨i+1,by go_num,by rw[m.out.1],by omega,rfl,⟨?_,by rw[m.out.1];omega,by rw[m.out.1];omega⟩,Ao _ _⟩
     rw[m.out.2]
     intro x hx
     rcases List.mem_append.1 hx with hx|hx
     ·exact G.out.1 x hx
     simp at hx;subst hx;exact j.out
 have r: ¬(i:Int)<n:=by omega
 obtain rfl:i=n:=by omega
 have p:Aside (o=true):=(by
  rw[←I.out]
  have h:=G.out
  rw[List.take_of_length_le (by rw[T.out];exact Nat.le_refl _)] at h
  rw[EH]
  rw[List.all_eq_true.2 h.1,decide_eq_true h.2.2]
  rfl:_=_)
 go_wp2
 go_ret
 exact ⟨by rw[p.out];rfl,Ao B F⟩
theorem Mr(p:List Ar)(a:Ar)(n:Nat)(b:p.length=n)(l m:Int):((AO (p++ [a])).set (n*4+3) (.int .i64 m)).set (n*4+2) (.int .i64 l)=AO (p++ [⟨a.src,a.pos,l,m⟩]):=by
 rw[←Lq p a n b l m,List.set_comm _ _ (by omega)]
theorem MM(l:List Ar)(v:Value)(B F:Ab)(w:World)(hE:Au B v l)(hs:Sat (B*F) w)(hl:l.length≤1048576)(hm: ∀x∈l,Ai x=true)(hb:Aa l≤1099511627776):
 Calls Tryz.prog 72 #[v] w fun e w'=> ∃a c,e= .returned (.slice a (join l).length c)∧Sat (rw AG 4 (.slice a (join l).length c) (AO (join l))*(B*F)) w':=by
 obtain ⟨i0,E⟩:=EW
 obtain ⟨a0,c0,rfl,ao,b7⟩:=hE.v
 have HL:Aside (Au B (.slice a0 l.length c0) l):=hE
 have HM:Aside (∀x∈l,Ai x=true):=hm
 have am:Aside (Aa l≤1099511627776):=hb
 obtain ⟨R,hR⟩:=Aq (join l)
 rw[hR]
 have HR:Aside (join l=R):=hR
 obtain ⟨L,X⟩:=Aq l.length
 have V:Aside (l.length=L):=X
 rw[X] at hl ao⊢
 have q0:=hs.AE (e:=AG) (s:=4)
 haveI:=hs.i
 clear hE hm hb X hR
 go_enter Tryz.func72,Tryz.ntmps72
 go_wp2
 go_loopg [3,4] L (fun g t3 t4 wr=> ∃(j:Nat)(H:List Ar)(a2:Option Addr)(c2:Nat),t4= .int .i64 j∧t3= .slice a2 H.length c2∧j≤L∧H.length≤1048576∧Aside (g=L-j∧H=(l.take j).foldl A6 [])∧Aside (H.length≤j∧(∀y∈H,Lj y)∧Aa H=Aa (l.take j))∧
  Sat (rw AG 4 (.slice a2 H.length c2) (AO H)*(B*F)) wr)
 case atStart=>exact ⟨0,[],none,0,rfl,rfl,by omega,by simp,⟨rfl,rfl⟩,⟨by simp,by simp,by simp[Aa]⟩,q0⟩
 obtain ⟨j,H,a2,c2,rfl,rfl,hj,ad,J,J2,t⟩:=hrel
 clear q0 hs this
 haveI:=t.i
 by_cases ba:j<L
 · have ac:(j:Int)<L:=by omega
   obtain ⟨y,hy⟩: ∃y,l[j]?=some y:=⟨_,List.getElem?_eq_getElem (by have:=V.out;omega)⟩
   obtain ⟨b,q,rfl,r1,r2,r3,r4⟩:=BN HL.out hy
   have W:Aside ((l.take (j+1)).foldl A6 []=A6 H y∧Aa (l.take (j+1))=Aa (l.take j)+y.len):=⟨by rw[AA hy,List.foldl_append,←J.out.2];rfl,BZ hy⟩
   obtain ⟨Z,ar⟩:=Lj.of (HM.out y (List.mem_of_getElem? hy))
   have M:Aside ((A6 H y).length≤j+1∧(∀z∈A6 H y,Lj z)∧Aa (A6 H y)=Aa (l.take (j+1))∧(A6 H y).length≤1048576):=by
    have h1:=KH H y
    have h2:=J2.out.1
    have h5:=V.out
    refine ⟨by omega,U4 J2.out.2.1 Z,?_,by omega⟩
    rw[F1,W.out.2,J2.out.2.2]
   have ae:Lj y:=Z
   obtain ⟨O,D,k,r⟩:=y
   unfold Lj at ae
   simp only at ae ar r1 r2 r3 r4
   clear Z hy
   have ab:Aa H≤1099511627776:=by
    have h1:=J2.out.2.2
    have h3:=am.out
    have h4:Aa l=Aa (l.take j)+Aa (l.drop j):=by rw[←An,List.take_append_drop]
    have h5:=(GJ (o:=l.drop j) (fun y hy=>(Lj.of (HM.out y (List.mem_of_mem_drop hy))).1)).1
    omega
   have Y:=GJ J2.out.2.1
   rcases List.eq_nil_or_concat H with rfl|⟨p,a,Q⟩
   · clear ab Y
     simp only[List.length_nil] at t⊢
     haveI:=t.i
     go_wp2_with fail
     go_quiet (fail)
     go_wp2_with (at_builtin;refine Af E rfl (.tmp 93) (.tmp 95) rfl rfl rfl (Ae (rw AG 4 (.slice a2 0 c2) (AO []))) (Src.new (b:=wr.heap.size+1) (e:=AG) (s:=4) (vs:= [.int .i64 O,.int .i64 D,.int .i64 k,.int .i64 r]) (Ae _) rfl (by intro u U;simp at U;rcases U with rfl|rfl|rfl|rfl<;>rfl)) (by unfold maxLen;omega) (by omega) ?_;intro P c9 w9 q9 z9;clear z9;haveI:=q9.i)
     go_roundg (L-(j+1))
     case measure=>have:=J.out.1;omega
     refine ⟨j+1,[⟨O,D,k,r⟩],P,c9,by go_num,rfl,by omega,by simp,⟨rfl,?_⟩,?_,?_⟩
     ·rw[W.out.1];rfl
     ·have:=M.out;exact ⟨this.1,this.2.1,this.2.2.1⟩
     show Sat (rw AG 4 (.slice P (0+1) c9) (AO []++ [.int .i64 O,.int .i64 D,.int .i64 k,.int .i64 r])*(B*F)) _
     exact AD _ _ _
   rw[List.concat_eq_append] at Q
   subst Q
   obtain ⟨np,I⟩:=Aq p.length
   have K:Aside (p.length=np):=I
   have T:(p++ [a]).length=np+1:=by rw[List.length_append,I];rfl
   have aa:=Y.2 a (by simp)
   have a8:=J2.out.2.1 a (by simp)
   rw[T] at ad t⊢
   obtain ⟨g,rfl⟩:=Dh t (by omega)
   have t0:=Jm p a np I 0 _ rfl
   have t1:=Jm p a np I 1 _ rfl
   have t2:=Jm p a np I 2 _ rfl
   have t3:=Jm p a np I 3 _ rfl
   obtain ⟨d,m,f,n⟩:=a
   unfold Lj at a8
   simp only at a8 aa t0 t1 t2 t3
   have b8:f≤1099511627776:=by omega
   obtain ⟨xs,a1⟩:=Aq (AO (p++ [⟨d,m,f,n⟩]))
   have HX:Aside (AO (p++ [⟨d,m,f,n⟩])=xs):=a1
   rw[a1] at t0 t1 t2 t3 t
   clear a1
   haveI:At xs (np*4) (.int .i64 d):=⟨t0⟩
   haveI:At xs (np*4+1) (.int .i64 m):=⟨t1⟩
   haveI:At xs (np*4+2) (.int .i64 f):=⟨t2⟩
   haveI:At xs (np*4+3) (.int .i64 n):=⟨t3⟩
   haveI: ∀u,At (xs.set (np*4+3) u) (np*4+2) (.int .i64 f):=fun u=>⟨by rw[List.getElem?_set_ne (by omega)];exact t2⟩
   haveI:=t.i
   have b9:(np:Int)<(np:Int)+1:=by omega
   have aw:(0:Int)≤(np:Int):=by omega
   have hd:decide ((0:Int)≤(np:Int))=true:=decide_eq_true (by omega)
   have bb:(np:Int)≤1048576:=by omega
   have hw0:IntKind.i64.wrap ((np:Int)+1-1)=(np:Int):=by rw[IntWalk.i64_in _ (by omega)];omega
   have hw1:=Bg (m+f) (by omega)
   have hw2:=Bg (f+k) (by omega)
   have hw3:=Bg (n+r) (by omega)
   clear ab Y aa I T t0 t1 t2 t3
   by_cases h1:d=O
   · subst h1
     have b1:(d==d)=true:=by simp
     by_cases h2:m+f=D
     ·have hm:meets ⟨d,m,f,n⟩ ⟨d,D,k,r⟩=true:=by unfold meets;simp[h2]
      have b2:(m+f==D)=true:=by simp[h2]
      by_cases h4:n<0
      ·have G:Aside (A6 (p++ [⟨d,m,f,n⟩]) ⟨d,D,k,r⟩=p++ [⟨d,m,f+k,-1⟩]):=by rw[FX hm];unfold glue;simp[h4];exact (trivial:True)
       have d1:decide (0≤n)=false:=decide_eq_false (by omega)
       clear hm
       go_wp2_with fail
       go_quiet (fail)
       go_wp2_with fail
       go_region
       go_wp2_with fail
       go_roundg (L-(j+1))
       case measure=>have:=J.out.1;omega
       refine ⟨j+1,p++ [⟨d,m,f+k,-1⟩],some ⟨g,0,none⟩,c2,by go_num,?_,by omega,?_,⟨rfl,?_⟩,?_,?_⟩
       ·rw[List.length_append,K.out];rfl
       ·have:=M.out.2.2.2;rw[G.out] at this;exact this
       ·rw[W.out.1,G.out]
       ·have:=M.out;rw[G.out] at this;exact ⟨this.1,this.2.1,this.2.2.1⟩
       rw[show AO (p++ [⟨d,m,f+k,-1⟩])=_ from (Mr p (Ar.mk d m f n) np K.out (f+k) (-1)).symm,HX.out,List.length_append,K.out]
       show Sat (rw AG 4 (.slice (some ⟨g,0,none⟩) (np+1) c2) ((xs.set (np*4+3) (Value.int .i64 (-1))).set (np*4+2) (Value.int .i64 (f+k)))*(B*F)) _
       first|exact AD _ _ _|exact Sat.drewN 1 (AD _ _ _)
      have d1:decide (0≤n)=true:=decide_eq_true (by omega)
      by_cases h5:r<0
      ·have G:Aside (A6 (p++ [⟨d,m,f,n⟩]) ⟨d,D,k,r⟩=p++ [⟨d,m,f+k,-1⟩]):=by rw[FX hm];unfold glue;simp[h4,h5];exact (trivial:True)
       have d2:decide (0≤r)=false:=decide_eq_false (by omega)
       clear hm
       go_wp2_with fail
       go_quiet (fail)
       go_wp2_with fail
       go_region
       go_wp2_with fail
       go_roundg (L-(j+1))
       case measure=>have:=J.out.1;omega
       refine ⟨j+1,p++ [⟨d,m,f+k,-1⟩],some ⟨g,0,none⟩,c2,by go_num,?_,by omega,?_,⟨rfl,?_⟩,?_,?_⟩
       ·rw[List.length_append,K.out];rfl
       ·have:=M.out.2.2.2;rw[G.out] at this;exact this
       ·rw[W.out.1,G.out]
       ·have:=M.out;rw[G.out] at this;exact ⟨this.1,this.2.1,this.2.2.1⟩
       rw[show AO (p++ [⟨d,m,f+k,-1⟩])=_ from (Mr p (Ar.mk d m f n) np K.out (f+k) (-1)).symm,HX.out,List.length_append,K.out]
       show Sat (rw AG 4 (.slice (some ⟨g,0,none⟩) (np+1) c2) ((xs.set (np*4+3) (Value.int .i64 (-1))).set (np*4+2) (Value.int .i64 (f+k)))*(B*F)) _
       first|exact AD _ _ _|exact Sat.drewN 1 (AD _ _ _)
      have G:Aside (A6 (p++ [⟨d,m,f,n⟩]) ⟨d,D,k,r⟩=p++ [⟨d,m,f+k,n+r⟩]):=by rw[FX hm];unfold glue;simp[h4,h5];exact (trivial:True)
      have d2:decide (0≤r)=true:=decide_eq_true (by omega)
      clear hm
      go_wp2_with fail
      go_quiet (fail)
      go_wp2_with fail
      go_region
      go_wp2_with fail
      go_region
      go_wp2_with fail
      go_roundg (L-(j+1))
      case measure=>have:=J.out.1;omega
      refine ⟨j+1,p++ [⟨d,m,f+k,n+r⟩],some ⟨g,0,none⟩,c2,by go_num,?_,by omega,?_,⟨rfl,?_⟩,?_,?_⟩
      ·rw[List.length_append,K.out];rfl
      ·have:=M.out.2.2.2;rw[G.out] at this;exact this
      ·rw[W.out.1,G.out]
      ·have:=M.out;rw[G.out] at this;exact ⟨this.1,this.2.1,this.2.2.1⟩
      rw[show AO (p++ [⟨d,m,f+k,n+r⟩])=_ from (Mr p (Ar.mk d m f n) np K.out (f+k) (n+r)).symm,HX.out,List.length_append,K.out]
      show Sat (rw AG 4 (.slice (some ⟨g,0,none⟩) (np+1) c2) ((xs.set (np*4+3) (Value.int .i64 (n+r))).set (np*4+2) (Value.int .i64 (f+k)))*(B*F)) _
      first|exact AD _ _ _|exact Sat.drewN 1 (AD _ _ _)
     have G:Aside (A6 (p++ [⟨d,m,f,n⟩]) ⟨d,D,k,r⟩=(p++ [⟨d,m,f,n⟩])++ [⟨d,D,k,r⟩]):=GC (by unfold meets;simp[h2])
     have b2:(m+f==D)=false:=by simp[h2]
     go_wp2_with fail
     go_quiet (fail)
     go_wp2_with (at_builtin;refine Af E rfl (.tmp 93) (.tmp 95) rfl rfl rfl (Ae (rw AG 4 (.slice (some ⟨g,0,none⟩) (np+1) c2) xs)) (Src.new (b:=wr.heap.size+1) (e:=AG) (s:=4) (vs:= [.int .i64 d,.int .i64 D,.int .i64 k,.int .i64 r]) (Ae _) rfl (by intro u U;simp at U;rcases U with rfl|rfl|rfl|rfl<;>rfl)) (by unfold maxLen;omega) (by omega) ?_;intro P c9 w9 q9 z9;clear z9;haveI:=q9.i)
     go_roundg (L-(j+1))
     case measure=>have:=J.out.1;omega
     refine ⟨j+1,(p++ [⟨d,m,f,n⟩])++ [⟨d,D,k,r⟩],P,c9,by go_num,?_,by omega,?_,⟨rfl,?_⟩,?_,?_⟩
     ·rw[List.length_append,List.length_append,K.out];rfl
     ·have:=M.out.2.2.2;rw[G.out] at this;exact this
     ·rw[W.out.1,G.out]
     ·have:=M.out;rw[G.out] at this;exact ⟨this.1,this.2.1,this.2.2.1⟩
     rw[Dv (p++ [Ar.mk d m f n]),HX.out,List.length_append,List.length_append,K.out]
     show Sat (rw AG 4 (.slice P (np+1+1) c9) (xs++ [.int .i64 d,.int .i64 D,.int .i64 k,.int .i64 r])*(B*F)) _
     exact AD _ _ _
   have G:Aside (A6 (p++ [⟨d,m,f,n⟩]) ⟨O,D,k,r⟩=(p++ [⟨d,m,f,n⟩])++ [⟨O,D,k,r⟩]):=GC (by unfold meets;simp[h1])
   have b1:(d==O)=false:=by simp[h1]
   go_wp2_with fail
   go_quiet (fail)
   go_wp2_with (at_builtin;refine Af E rfl (.tmp 93) (.tmp 95) rfl rfl rfl (Ae (rw AG 4 (.slice (some ⟨g,0,none⟩) (np+1) c2) xs)) (Src.new (b:=wr.heap.size+1) (e:=AG) (s:=4) (vs:= [.int .i64 O,.int .i64 D,.int .i64 k,.int .i64 r]) (Ae _) rfl (by intro u U;simp at U;rcases U with rfl|rfl|rfl|rfl<;>rfl)) (by unfold maxLen;omega) (by omega) ?_;intro P c9 w9 q9 z9;clear z9;haveI:=q9.i)
   go_roundg (L-(j+1))
   case measure=>have:=J.out.1;omega
   refine ⟨j+1,(p++ [⟨d,m,f,n⟩])++ [⟨O,D,k,r⟩],P,c9,by go_num,?_,by omega,?_,⟨rfl,?_⟩,?_,?_⟩
   · rw[List.length_append,List.length_append,K.out];rfl
   · have:=M.out.2.2.2;rw[G.out] at this;exact this
   · rw[W.out.1,G.out]
   · have:=M.out;rw[G.out] at this;exact ⟨this.1,this.2.1,this.2.2.1⟩
   rw[Dv (p++ [Ar.mk d m f n]),HX.out,List.length_append,List.length_append,K.out]
   show Sat (rw AG 4 (.slice P (np+1+1) c9) (xs++ [.int .i64 O,.int .i64 D,.int .i64 k,.int .i64 r])*(B*F)) _
   exact AD _ _ _
 have ac: ¬(j:Int)<L:=by omega
 have hJ:=J.out.2
 rw[List.take_of_length_le (by rw[V.out];omega)] at hJ
 have HF:Aside (H=R):=(by rw[hJ,←HR.out];rfl:_=_)
 clear hJ
 go_wp2
 go_ret
 exact ⟨a2,c2,by rw[HF.out];rfl,by rw[←HF.out];exact AD _ _ _⟩
theorem lC{l:List Ar}(hm: ∀x∈l,Ai x=true):Aa l≤l.length*1048576:=by
 induction l with
 |nil=>simp[Aa]
 | cons x l a =>
  have h1:=Cl.1 (hm x (List.mem_cons_self ..))
  have b:=a fun y hy=>hm y (List.mem_cons_of_mem _ hy)
  rw[Bu,List.length_cons]
  omega
theorem UL(file:List UInt8)(v:Value)(B:Ab)(root:Int)(F:Ab)(w:World)(X:Reads B v file)(hl:file.length≤1099511627776)(hs:Sat (B*F) w):
 Calls Tryz.prog 16 #[v,.int .i64 root] w (Qy B F (A9 (As file) root)):=by
 by_cases h0:root=0
 · subst h0
   have u:A9 (As file) 0=⟨true,0,[],[]⟩:=rfl
   rw[u]
   haveI:=hs.i
   go_enter Tryz.func16,Tryz.ntmps16
   go_wp2
   go_returns
   exact ⟨_,1,rfl,⟨_,_,rfl,Aj.nil 4 _,Aj.nil 1 _⟩,by rw[Aw];exact Ao B F⟩
 obtain ⟨R,u⟩:=Aq (A9 (As file) root)
 obtain ⟨x,hx⟩:=Aq (AN (As file) 13 root true)
 have J:Aside (R=if x.ok=false∨(join x.Ag).length≠x.Ag.length then Fm else x):=(by
  rw[←u];unfold A9;rw[if_neg h0,hx]:_=_)
 rw[u]
 have l:PY true 13 x:=by rw[←hx];exact Gb (fun p n h=>EX h) 13 root true
 have g:=SI file v B X hl 13 root 0 true
 rw[hx] at g
 have o:Aside (∀(F:Ab)(w:World),Sat (B*F) w→Calls Tryz.prog 71 #[v,.int .i64 root,.bool true,.int .i64 0] w (Qy B F x)):=fun F w h=>g F w (by omega) (by omega) h
 have W:(root==0)=false:=by simpa using h0
 haveI:=hs.i
 clear u hx g
 go_enter Tryz.func16,Tryz.ntmps16
 go_wp2_with fail
 with_reducible refine Calls.mono (o.out _ _ (Ae B)) ?_
 rintro e U ⟨v1,G,rfl,Z,T⟩
 obtain ⟨vE,vP,rfl,r,H⟩:=Z
 obtain ⟨O,K,rfl,s,Y⟩:=r.v
 obtain ⟨xP,V,rfl,t,a0⟩:=H.v
 have Q:Aside (PY true 13 x):=l
 have y:=l.Ag
 obtain ⟨xo,xh,d,D⟩:=x
 simp only at y r H s t
 have P:Aside (∀(F:Ab)(w:World),Sat (G*F) w→Calls Tryz.prog 72 #[.slice O d.length K] w fun e I=> ∃a c,e= .returned (.slice a (join d).length c)∧Sat (rw AG 4 (.slice a (join d).length c) (AO (join d))*(G*F)) I):=fun F w h=>MM d _ G F w r h (by omega) Q.out.may (by have:=lC Q.out.may;simp only at this;omega)
 obtain ⟨z,j⟩:=Aq ((join d).length)
 obtain ⟨m,f⟩:=Aq d.length
 obtain ⟨M,k⟩:=Aq D.length
 have b:Aside (Au G (.slice O d.length K) d∧Jf G (.slice xP D.length V) D∧(join d).length=z∧d.length=m∧D.length=M):=⟨r,H,j,f,k⟩
 simp only[j,f] at P
 simp only[f,k] at T⊢
 haveI:=T.i
 clear r H s t y l j f k hs o
 cases xo with
 | false =>
   have q:Aside (R=Fm):=(by rw[J.out,if_pos (.inl rfl)]:_=_)
   go_upto_region 4 with (fail)
   go_region
   go_wp2
   go_returns
   rw[q.out]
   exact Ea (Ao B F)
 | true =>
   go_upto_region 4 with (fail)
   go_region_held3 (fun I=>I.cell? ⟨U.heap.size,0,none⟩=some (.bool true)∧I.cell? ⟨U.heap.size,2,none⟩=some (.slice O m K)) (exact ⟨Ac _ _ _,Ac _ _ _⟩) (first
    |(go_at_call 72;with_reducible refine Calls.mono (P.out _ _ (Ae G)) ?_;rintro e w7 ⟨a7,c7,rfl,q7⟩;haveI:=q7.i))
   all_goals
    cases L:((z:Int) !=(m:Int)) with
    | true =>
     have q:Aside (R=Fm):=(by
      have c9:z≠m:=by intro h;rw[h] at L;simp at L
      rw[J.out,if_pos (.inr (by rw[b.out.2.2.1,b.out.2.2.2.1];exact c9))]:_=_)
     go_wp2
     go_returns
     rw[q.out]
     exact Ea (Ao B F)
    | false =>
     have q:Aside (R=⟨true,xh,d,D⟩):=(by
      have c9:z=m:=by
       have:(z:Int)=m:=by simpa using L
       omega
      rw[J.out,if_neg (by rw[b.out.2.2.1,b.out.2.2.2.1];simp[c9])]:_=_)
     go_wp2
     go_returns
     rw[q.out]
     exact ⟨_,G,rfl,⟨_,_,rfl,by have:=b.out.1;rw[b.out.2.2.2.1] at this;exact this,by have:=b.out.2.1;rw[b.out.2.2.2.2] at this;exact this⟩,AD G B F⟩
