/- censusSound holds for every input. No condition. (part 28) -/
import Derived.Test.YtfhbmblbidcmmaaGreatWa23
import Derived.Test.YtfhbmblbidcmmaaGreatWa27
set_option linter.all false
set_option maxRecDepth 100000
set_option maxHeartbeats 3200000
namespace Go.Tr
theorem QX{n:Nd}(h:may n=false):Di n=(0,[],1):=by simp_all[Di]
theorem Po{n:Nd}(h:may n=true)(b:n.Ag.length≤12∧n.kids.length≤12): ∃k:Nat,(k=1∨k=2)∧(Di n).1=k∧(Di n).2.1.length≤244∧(Di n).2.2=0:=by
 have c: ∀l:List Av,(l.flatMap eb).length=l.length*13:=fun l=>by induction l with
  |nil=>rfl
  |cons x l a=>rw[List.flatMap_cons,List.length_append,O4,a,List.length_cons];omega
 have d: ∀l:List Kd,(l.flatMap kb).length=l.length*16:=fun l=>by induction l with
  |nil=>rfl
  |cons x l a=>rw[List.flatMap_cons,List.length_append,OP,a,List.length_cons];omega
 unfold Di
 rw[if_neg (by rw[h];simp)]
 cases n.leaf with
 | true =>
   refine ⟨1,.inl rfl,rfl,?_,rfl⟩
   simp only[if_true,List.length_append,AF,c]
   omega
 | false =>
   refine ⟨2,.inr rfl,rfl,?_,rfl⟩
   simp only[Bool.false_eq_true,if_false,List.length_append,AF,d]
   omega
end Go.Tr
namespace Go.Proofs.YtfhbmblbidcmmaaGreat
open Go.RowKit Go.Sl Go.Dk Go.Tr
def lX(k:Kd)(v:Value)(B:Ab):Prop:=v=mH k∧B=1
theorem Xm(h:Th)(s:TS)(n:Nd)(v:Value)(B F:Ab)(w:World)(hN:AN B v n)(hs:Sat (Ad h s*(B*F)) w)(an:n.Ag.length≤65536)(ao:n.kids.length≤65536)(hb:An n s≠ .bad):
 Calls Tryz.prog 165 #[.pointer (some ⟨h.t,0,none⟩),v] w (Et h (B*F) (An n s) lX):=by
 have a:=fun F w q=>Wx n v B F w hN q (by omega) (by omega)
 have a3:=fun F w q=>Kf n v B F w hN q (by omega) (by omega)
 obtain ⟨hi,h2⟩:=Ek hs
 obtain ⟨vE,vK,rfl,hE,hK⟩:=id hN
 obtain ⟨aE,cE,rfl,aj,ak⟩:=hE.v
 obtain ⟨aK,cK,rfl,al,am⟩:=hK.v
 have H:=As a3
 have W:=h2.eq (by ac_rfl)
 haveI:=W.i
 clear a3 hE hK hN h2
 cases hm:may n with
 | false =>
  have hr:An n s= .fault 13 s:=by
   unfold An
   rw[QX hm,if_pos (by simp)]
   rfl
  rw[hr]
  rw[QX hm] at a
  have Q:=As hi
  clear hm hr hi hs hb
  go_enter Tryz.func165,Tryz.ntmps165
  go_wp2_with fail
  refine (a _ _ (Ae B)).mono ?_
  rintro e w1 ⟨V,c1,rfl,z⟩
  haveI:=z.i
  clear a W
  go_wp2
  refine ⟨rfl,?_⟩
  exact ⟨rfl,Dw Q.out (DC _ _ _ _ _)⟩
 | true =>
  have ho:s.ops<BG:=by
   rcases Nat.lt_or_ge s.ops BG with h|h
   · exact h
   refine absurd ?_ hb
   obtain ⟨k,_,_,_,h0⟩:=Po hm (Cn hm)
   unfold An M.bind Jg
   rw[if_neg (by rw[h0];simp),if_neg (by omega)]
   rfl
  obtain ⟨k,hk,XF,J,K⟩:=Po hm (Cn hm)
  have hr:An n s=M.bind Jg (fun t=>M.bind (Fi (if t.2=9 then 7 else t.2)) fun _=>M.bind (Fi (Bw t.1 k (Di n).2.1).2) fun _=>M.bind (Zb t.1 (Bw t.1 k (Di n).2.1).1) fun e=>M.bind (Fi e) fun _=>M.pure ⟨t.1,(AZ n).1,(AZ n).2.1,(AZ n).2.2⟩) s:=by
   conv=>lhs;unfold An
   rw[if_neg (by rw[K];simp),XF]
  have c:=La h.S s.sp _ w (Ae (Cf h.S s.sp)) hi.res.1 hi.res.2 (by have:=hi.taken;have:=hi.ops;unfold BG at this;omega)
  have o:=hi.take ho
  have u:=hi.res
  have j:s.sp.taken.length≤1099511627776:=by have:=hi.taken;have:=hi.ops;unfold BG at this;omega
  have Z:Di n=((k:Int),(Di n).2.1,0):=Prod.ext XF (Prod.ext rfl K)
  rw[Z] at a
  clear Z
  obtain ⟨body,X⟩:=Aq ((Di n).2.1)
  rw[X] at a J hr
  have HH:=As hs
  obtain ⟨⟨sb,sl,ss⟩,G⟩:=Aq (AZ n)
  rw[G] at H hr
  simp only at H hr
  clear XF K hm X G hs c
  cases Y:s.sp.free with
  | none =>
    have c:s.sp.take=((0,9),s.sp):=by unfold Sp.take;rw[Y]
    have x:An n s= .fault 7 ⟨s.ck,s.sp,s.ops+1⟩:=by
     rw[hr]
     unfold M.bind Jg
     rw[if_pos ho,c]
     rfl
    rw[x]
    rw[c] at o
    have Q:=As o
    have y:=fun F w q=>La h.S s.sp F w q u.1 u.2 j
    rw[c] at y
    have I:=Ju 7 (by omega)
    clear hr x c Y hi o hb u j
    go_enter Tryz.func165,Tryz.ntmps165
    go_wp2_with fail
    refine (a _ _ (Ae B)).mono ?_
    rintro e w1 ⟨V,c1,rfl,z⟩
    haveI:=z.i
    clear a W
    go_wp2_with fail
    refine Dz (y _ _ (Ae (Cf h.S s.sp))) fun w2 q2 _=>?_
    clear y z
    go_wp2_with fail
    refine (I _).mono ?_
    rintro e w3 ⟨rfl,rfl⟩
    refine ⟨rfl,?_⟩
    exact ⟨rfl,Dw Q.out (DC _ _ _ _ _)⟩
  | some no =>
    have aa:0≤no∧no<1048576:=by
     obtain ⟨h1,h2,_⟩:=Sp.I4 Y
     omega
    obtain ⟨m,rfl⟩: ∃m:Nat,no=m:=⟨no.toNat,by omega⟩
    have a0:Bw (m:Int) k body=(AV m k body,0):=by
     unfold Bw
     rw[if_neg (by omega),if_neg (by omega)]
     simp
    obtain ⟨P,O⟩:=Aq s.sp.take.2
    have c:s.sp.take=(((m:Int),0),P):=by rw[←O];unfold Sp.take;rw[Y]
    have x:An n s=if (s.ck.put m (AV m k body)).1=0 then .ok ⟨m,sb,sl,ss⟩ ⟨(s.ck.put m (AV m k body)).2,P,s.ops+2⟩ else .fault (s.ck.put m (AV m k body)).1 ⟨(s.ck.put m (AV m k body)).2,P,s.ops+2⟩:=by
     rw[hr]
     unfold M.bind Jg Zb
     rw[if_pos ho,c]
     simp only[Fu.bind,show¬((0:Int)=9) by omega,if_false,a0,Fi,if_true,M.pure]
     by_cases h0:(s.ck.put m (AV m k body)).1=0<;>simp[h0,M.fail,M.pure,Fu.bind]
    rw[x]
    have r:=o.put m (AV m k body) (by simp only;omega)
    simp only[O] at o r
    have y:=fun F w q=>La h.S s.sp F w q u.1 u.2 j
    rw[c] at y
    simp only at y
    have L:=fun v B F w hB q=>Uy m k body v B F w hB q (by omega) (by omega) (by omega) J
    have d:=fun v B F w hB q=>fA h.C h.D s.ck 137438953472 m v (AV m k body) B F w hB q hi.ok (by omega)
    have f:=IF m k J
    obtain ⟨p,hp⟩:=Aq (AV m k body)
    rw[hp] at L d r f⊢
    obtain ⟨⟨er,k2⟩,a2⟩:=Aq (s.ck.put m p)
    rw[a2] at d r⊢
    simp only at d r⊢
    have Q:=As r
    have hz:=Q3
    have U:Aside (∀g,Reads (Sl.block g 346 (A4 p)) (.slice (some ⟨g,0,none⟩) 256 256) p):=fun g=>by
     have:=Reads.RJ (b:=g) (e:=346) (l:=p) (by rw[f];unfold maxLen;omega)
     rwa [f] at this
    have R:=As L
    have T:=As d
    clear hr x c Y hi o r hb u j hp a2 a0 L d f O aa
    by_cases h0:er=0
    · subst h0
      rw[if_pos rfl]
      go_enter Tryz.func165,Tryz.ntmps165
      go_wp2_with fail
      refine (a _ _ (Ae B)).mono ?_
      rintro e w1 ⟨V,c1,rfl,z⟩
      haveI:=z.i
      clear a W
      go_wp2_with fail
      refine Dz (y _ _ (Ae (Cf h.S s.sp))) fun w2 q2 _=>?_
      clear y z
      go_wp2_with fail
      refine (hz _).mono ?_
      rintro e w3 ⟨rfl,rfl⟩
      go_wp2_with fail
      refine (R.out _ _ _ _ Reads.rw (Ae (rw TB 1 (.slice V body.length c1) (A4 body)))).mono ?_
      rintro e w4 ⟨g,rfl,q4⟩
      haveI:=q4.i
      clear q2
      go_wp2_with fail
      refine (hz _).mono ?_
      rintro e w5 ⟨rfl,rfl⟩
      go_wp2_with fail
      refine Dz (T.out _ _ _ _ (U.out g) (Bh (Be h.C h.D s.ck) (Sl.block g 346 (A4 p)))) fun w6 q6 _=>?_
      clear q4
      go_wp2_with fail
      refine (hz _).mono ?_
      rintro e w7 ⟨rfl,rfl⟩
      go_wp2_with fail
      refine Dz (H.out _ _ (Ae B)) fun w8 q8 _=>?_
      clear q6
      go_wp2
      go_returns
      exact ⟨_,1,rfl,⟨rfl,rfl⟩,by rw[Ay];exact Dw Q.out (DC _ _ _ _ _)⟩
    rw[if_neg h0]
    have I:=Ju er h0
    clear h0
    go_enter Tryz.func165,Tryz.ntmps165
    go_wp2_with fail
    refine (a _ _ (Ae B)).mono ?_
    rintro e w1 ⟨V,c1,rfl,z⟩
    haveI:=z.i
    clear a W
    go_wp2_with fail
    refine Dz (y _ _ (Ae (Cf h.S s.sp))) fun w2 q2 _=>?_
    clear y z
    go_wp2_with fail
    refine (hz _).mono ?_
    rintro e w3 ⟨rfl,rfl⟩
    go_wp2_with fail
    refine (R.out _ _ _ _ Reads.rw (Ae (rw TB 1 (.slice V body.length c1) (A4 body)))).mono ?_
    rintro e w4 ⟨g,rfl,q4⟩
    haveI:=q4.i
    clear q2
    go_wp2_with fail
    refine (hz _).mono ?_
    rintro e w5 ⟨rfl,rfl⟩
    go_wp2_with fail
    refine Dz (T.out _ _ _ _ (U.out g) (Bh (Be h.C h.D s.ck) (Sl.block g 346 (A4 p)))) fun w6 q6 _=>?_
    clear q4
    go_wp2_with fail
    refine (I _).mono ?_
    rintro e w7 ⟨rfl,rfl⟩
    refine ⟨rfl,?_⟩
    exact ⟨rfl,Dw Q.out (DC _ _ _ _ _)⟩
end Go.Proofs.YtfhbmblbidcmmaaGreat
namespace Go.Tr
def Ov(m p i:Nat):Nat:=i*(m/p)+min i (m%p)
theorem Yv(m p i:Nat):Ov m p (i+1)=Ov m p i+(m/p+if i<m%p then 1 else 0):=by
 unfold Ov
 grind
theorem dO(m p i:Nat)(h:i≤p):Ov m p i≤m:=by
 have h1:=Nat.div_add_mod m p
 have a:i*(m/p)≤p*(m/p):=Nat.mul_le_mul_right _ h
 grind [Ov]
theorem JN{σ:Type}{wt:Nd→M σ Kd}{n:Nd}{A7:Nat} : ∀(c i at_:Nat)(out ks:List Kd)(s s':σ),C4 wt n A7 c i at_ out s= .ok ks s'→ks.length=out.length+c
 |0,i,at_,out,ks,s,s',h=>by cases h;rfl
 | c + 1, i, at_, out, ks, s, s', h => by
  unfold C4 M.bind Fu.bind at h
  split at h
  ·have:=JN c _ _ _ _ _ _ h
   grind
  ·grind
  grind
theorem EO{σ:Type}{wt:Nd→M σ Kd}{n:Nd}{ks:List Kd}{s s':σ}(h:BT wt n s= .ok ks s'):ks.length=(many n+11)/12:=by
 have:=JN _ _ _ _ _ _ _ h
 simp_all[Ba]
end Go.Tr
namespace Go.Proofs.YtfhbmblbidcmmaaGreat
open Go.RowKit Go.Sl Go.Dk Go.Tr
def kG(ks:List Kd)(v:Value)(B:Ab):Prop:=BE B v ks
def Pure(n:Nd):Prop:=many n=if n.leaf then n.Ag.length else n.kids.length
theorem Gq(h:Th)(s:TS)(n:Nd)(v:Value)(B F:Ab)(w:World)(hN:AN B v n)(hs:Sat (Ad h s*(B*F)) w)(hp:Pure n)(hm:many n≤65536)(hb:BT An n s≠ .bad):
 Calls Tryz.prog 137 #[.pointer (some ⟨h.t,0,none⟩),v] w (Et h (B*F) (BT An n s) kG):=by
 obtain ⟨i0,E⟩:=Mu
 have z:=fun F w q=>OY n v B F w hN q (by unfold many at hm;omega) (by unfold many at hm;omega)
 obtain ⟨vE,vK,rfl,hE,hK⟩:=id hN
 obtain ⟨aE,cE,rfl,f,ak⟩:=hE.v
 obtain ⟨aK,cK,rfl,az,b0⟩:=hK.v
 obtain ⟨v,hv⟩:=Aq (Value.agg #[.bool n.leaf,.slice aE n.Ag.length cE,.slice aK n.kids.length cK])
 have H:Aside (∀(i j:Nat) F w,i≤j→j≤many n→Sat (B*F) w→Calls Tryz.prog 166 #[.agg #[.bool n.leaf,.slice aE n.Ag.length cE,.slice aK n.kids.length cK],.int .i64 i,.int .i64 j] w fun e w'=> ∃v',e= .returned v'∧AN B v' (CO n i j)∧Sat (B*F) w'):=
  fun i j F w h1 h2 q=>PH n i j _ B F w hN q h1 (by rw[←hp];exact h2)
 obtain ⟨m,P⟩:=Aq (many n)
 rw[P] at hm z H
 obtain ⟨p,am⟩:=Aq ((m+11)/12)
 obtain ⟨R,hR⟩:=Aq (BT An n s)
 have HR:Aside (C4 An n p p 0 0 [] s=R):=(by rw[←hR];unfold BT Ba;rw[P,am]:_=_)
 have HM:=As P
 have HB:Aside (R≠ .bad):=(by rw[←hR];exact hb:_≠_)
 have b3:p≤5462:=by omega
 have a8:((m:Int)+12-1)/12=(p:Int):=by omega
 rw[hR]
 have h2:=hs.eq (by ac_rfl)
 haveI:=h2.i
 clear hE hK hN hs hb hR hp hv P
 go_enter Tryz.func137,Tryz.ntmps137
 go_wp2_with fail
 refine Dz (z _ _ (Ae B)) fun w1 q1 _=>?_
 clear z h2
 go_wp2_with fail
 obtain ⟨N,hN⟩:=Aq w.heap.size
 rw[hN] at q1⊢
 clear hN
 have e0:=(Sat.AG (e:=Lh) (s:=4) q1)
 simp only[a8]
 clear a8
 go_loopg [7,8,18] p (fun g t7 t8 ao wr=> ∃(i:Nat)(a:Option Addr)(c:Nat)(out:List Kd)(s':TS),ao= .int .i64 i∧t8= .int .i64 (Ov m p i:Nat)∧t7= .slice a i c∧i≤p∧out.length=i∧Aside (g=p-i∧C4 An n p (p-i) i (Ov m p i) out s'=R)∧
  Sat (rw Lh 4 (.slice a i c) (Hd out)*(Ad h s'*(B*(Sl.block N Cy [.bool n.leaf,.slice aE n.Ag.length cE,.slice aK n.kids.length cK]*F)))) wr)
 case atStart=>exact ⟨0,none,0,[],s,rfl,by simp[Ov],rfl,by omega,rfl,⟨rfl,by simpa[Ov] using HR.out⟩,e0.eq (by ac_rfl)⟩
 obtain ⟨i,a,c,out,s',rfl,rfl,rfl,hi,a1,A,I⟩:=hrel
 haveI:=I.i
 clear q1 e0
 by_cases b1:i<p
 · have a9:(i:Int)<p:=by omega
   have b2: ¬(p:Int)=0:=by omega
   obtain ⟨Y,f⟩:=Aq (m/p)
   have d1:(m:Int)/(p:Int)=(Y:Int):=by rw[←f];rfl
   have ak:Y≤65536:=by rw[←f];exact Nat.le_trans (Nat.div_le_self m p) hm
   have Q:=Yv m p i
   have al:=dO m p (i+1) (by omega)
   obtain ⟨pos,x⟩:=Aq (Ov m p i)
   simp only[x]
   rw[f] at Q
   obtain ⟨sz,G⟩:=Aq (Y+(if i<m%p then 1 else 0))
   rw[x,G] at Q
   have K:C4 An n p (p-i) i pos out s'=M.bind (An (CO n pos (pos+sz))) (fun k=>C4 An n p (p-(i+1)) (i+1) (pos+sz) (out++ [k])) s':=by
    rw[show p-i=(p-(i+1))+1 by omega]
    conv=>lhs;unfold C4
    rw[HM.out,f,G]
   have y:=A.out.2
   rw[x,K] at y
   obtain ⟨r,hr⟩:=Aq (An (CO n pos (pos+sz)) s')
   have a2:=fun v B F w q1 L=>Xm h s' (CO n pos (pos+sz)) v B F w q1 L (by unfold CO;split<;>simp[sub]<;>omega) (by unfold CO;split<;>simp[sub]<;>omega)
   rw[hr] at a2
   have hcut:=fun F w q=>H.out pos (pos+sz) F w (by omega) (by omega) q
   have b4:pos+sz≤65536:=by omega
   clear al
   unfold M.bind at y
   rw[hr] at y
   have a7:=A.out.1
   clear hr K H HR
   have O:=As a2
   have o:=As G
   have HA:Aside (pos=Ov m p i∧gk=p-i∧out.length=i):=⟨x.symm,a7,a1⟩
   have HX:=As Q
   clear a2 a7 A x Q a1
   cases r with
   |bad=>exact absurd y.symm HB.out
   | ok k s2 =>
     have J:Fu.ok k s2≠ .bad:=by simp
     have HC:=As y
     clear y
     by_cases d:i<m%p
     ·have D:(i:Int)<(m:Int)%(p:Int):=by exact_mod_cast d
      have hq:Y+1=sz:=by rw[←o.out,if_pos d]
      subst hq
      clear G o HB HM f
      rw[Int.natCast_add,Int.natCast_add,Int.natCast_one] at hcut
      go_wp2_with fail
      refine (hcut _ _ (Ae B)).mono ?_
      rintro e w2 ⟨vc,rfl,l,L⟩
      haveI:=L.i
      clear hcut I
      go_wp2_with fail
      with_reducible refine Calls.mono (O.out _ B _ _ l (Bh (Ad h s') B) J) ?_
      rintro e w3 ⟨v3,G3,rfl,⟨rfl,rfl⟩,X⟩
      rw[Ay] at X
      haveI:=X.i
      clear L l
      obtain ⟨T,U,V,W⟩:=k
      unfold mH
      simp only[]
      have Z:Aside (Hd (out++ [⟨T,U,V,W⟩])=Hd out++ [.int .i64 T,.int .i64 U,.int .i64 V,.int .i64 W]):=(by simp[Hd,Qe]:_=_)
      go_wp2_with (at_builtin;refine Af E rfl (.tmp 31) (.tmp 40) rfl rfl rfl (Ae (rw Lh 4 (.slice a i c) (Hd out))) (Src.new (b:=w3.heap.size) (e:=Lh) (s:=4) (vs:= [.int .i64 T,.int .i64 U,.int .i64 V,.int .i64 W]) (Ae _) rfl (by intro u hu;simp at hu;rcases hu with rfl|rfl|rfl|rfl<;>rfl)) (by unfold maxLen;omega) (by omega) ?_;intro a4 c4 w4 q4 z4;clear z4;haveI:=q4.i)
      go_roundg (p-(i+1))
      case measure=>have:=HA.out.2.1;omega
      refine ⟨i+1,a4,c4,out++ [⟨T,U,V,W⟩],s2,by go_num,?_,rfl,by omega,by rw[List.length_append,HA.out.2.2];rfl,⟨rfl,by rw[HX.out];exact HC.out⟩,?_⟩
      ·rw[HX.out];go_num
      rw[Z.out]
      exact DC _ _ _ _ _
     have D: ¬(i:Int)<(m:Int)%(p:Int):=by exact_mod_cast d
     have hq:Y=sz:=by rw[←o.out,if_neg d];rfl
     subst hq
     clear G o HB HM f
     rw[Int.natCast_add] at hcut
     go_wp2_with fail
     refine (hcut _ _ (Ae B)).mono ?_
     rintro e w2 ⟨vc,rfl,l,L⟩
     haveI:=L.i
     clear hcut I
     go_wp2_with fail
     with_reducible refine Calls.mono (O.out _ B _ _ l (Bh (Ad h s') B) J) ?_
     rintro e w3 ⟨v3,G3,rfl,⟨rfl,rfl⟩,X⟩
     rw[Ay] at X
     haveI:=X.i
     clear L l
     obtain ⟨T,U,V,W⟩:=k
     unfold mH
     simp only[]
     have Z:Aside (Hd (out++ [⟨T,U,V,W⟩])=Hd out++ [.int .i64 T,.int .i64 U,.int .i64 V,.int .i64 W]):=(by simp[Hd,Qe]:_=_)
     go_wp2_with (at_builtin;refine Af E rfl (.tmp 31) (.tmp 40) rfl rfl rfl (Ae (rw Lh 4 (.slice a i c) (Hd out))) (Src.new (b:=w3.heap.size) (e:=Lh) (s:=4) (vs:= [.int .i64 T,.int .i64 U,.int .i64 V,.int .i64 W]) (Ae _) rfl (by intro u hu;simp at hu;rcases hu with rfl|rfl|rfl|rfl<;>rfl)) (by unfold maxLen;omega) (by omega) ?_;intro a4 c4 w4 q4 z4;clear z4;haveI:=q4.i)
     go_roundg (p-(i+1))
     case measure=>have:=HA.out.2.1;omega
     refine ⟨i+1,a4,c4,out++ [⟨T,U,V,W⟩],s2,by go_num,?_,rfl,by omega,by rw[List.length_append,HA.out.2.2];rfl,⟨rfl,by rw[HX.out];exact HC.out⟩,?_⟩
     ·rw[HX.out];go_num
     rw[Z.out]
     exact DC _ _ _ _ _
   | fault er s2 =>
     have J:(Fu.fault er s2:Fu TS Kd)≠ .bad:=by simp
     subst y
     by_cases d:i<m%p
     ·have D:(i:Int)<(m:Int)%(p:Int):=by exact_mod_cast d
      have hq:Y+1=sz:=by rw[←o.out,if_pos d]
      subst hq
      clear G o HB HM f
      rw[Int.natCast_add,Int.natCast_add,Int.natCast_one] at hcut
      go_wp2_with fail
      refine (hcut _ _ (Ae B)).mono ?_
      rintro e w2 ⟨vc,rfl,l,L⟩
      haveI:=L.i
      clear hcut I
      go_wp2_with fail
      with_reducible refine Calls.mono (O.out _ B _ _ l (Bh (Ad h s') B) J) ?_
      rintro e w3 ⟨rfl,X⟩
      haveI:=X.i
      exact ⟨rfl,rfl,AD _ _ _⟩
     have D: ¬(i:Int)<(m:Int)%(p:Int):=by exact_mod_cast d
     have hq:Y=sz:=by rw[←o.out,if_neg d];rfl
     subst hq
     clear G o HB HM f
     rw[Int.natCast_add] at hcut
     go_wp2_with fail
     refine (hcut _ _ (Ae B)).mono ?_
     rintro e w2 ⟨vc,rfl,l,L⟩
     haveI:=L.i
     clear hcut I
     go_wp2_with fail
     with_reducible refine Calls.mono (O.out _ B _ _ l (Bh (Ad h s') B) J) ?_
     rintro e w3 ⟨rfl,X⟩
     haveI:=X.i
     exact ⟨rfl,rfl,AD _ _ _⟩
 have a9: ¬(i:Int)<p:=by omega
 obtain rfl:i=p:=by omega
 have hR:R= .ok out s':=by
  rw[←A.out.2,Nat.sub_self]
  rfl
 subst hR
 subst a1
 clear A H HR HB HM
 go_wp2
 go_returns
 exact ⟨_,rw Lh 4 (.slice a out.length c) (Hd out),rfl,Ai.rw I ⟨a,c,rfl⟩,Cz _ _ _ _⟩
end Go.Proofs.YtfhbmblbidcmmaaGreat
namespace Go.Tr
theorem Vn{σ:Type}{wt:Nd→M σ Kd}{l:List Kd}(h:1<l.length)(c:Int)(s:σ):Fb wt 0 l c s= .bad:=by match l,h with
 |a::b::t,_=>rfl
theorem Vm{σ:Type}{wt:Nd→M σ Kd}{l:List Kd}(h:1<l.length)(f:Nat)(c:Int):Fb wt (f+1) l c=M.bind (BT wt ⟨false,[],l⟩) fun ks=>Fb wt f ks (c+1):=by match l,h with
 |a::b::t,_=>rfl
end Go.Tr
namespace Go.Proofs.YtfhbmblbidcmmaaGreat
open Go.RowKit Go.Sl Go.Dk Go.Tr
def Qu(x:BK)(v:Value)(B:Ab):Prop:=v=Bi x∧B=1
theorem Zy(ks:List Kd):Pure ⟨false,[],ks⟩:=by unfold Pure many;simp
theorem Zx(l:List Av):Pure ⟨true,l,[]⟩:=by unfold Pure many;simp
theorem JE{B:Ab}{v:Value}{ks:List Kd}(h:BE B v ks):AN B (.agg #[.bool false,.slice none 0 0,v]) ⟨false,[],ks⟩:=⟨_,_,rfl,Ai.nil 4 _,h⟩
theorem UP{B:Ab}{v:Value}{l:List Av}(h:A1 B v l):AN B (.agg #[.bool true,v,.slice none 0 0]) ⟨true,l,[]⟩:=⟨_,_,rfl,h,Ai.nil 4 _⟩
theorem M3(h:Th)(s:TS)(ks:List Kd)(I:Int)(v:Value)(B F:Ab)(w:World)(U:BE B v ks)(hs:Sat (Ad h s*(B*F)) w)(hl:ks.length≤65536)(h1: -1048576≤I)(h2:I≤1048576)(hb:grown An ks I s≠ .bad):
 Calls Tryz.prog 136 #[.pointer (some ⟨h.t,0,none⟩),v,.int .i64 I] w (Et h (B*F) (grown An ks I s) Qu):=by
 obtain ⟨a0,c0,rfl,ac,ad⟩:=U.v
 obtain ⟨R,u⟩:=Aq (grown An ks I s)
 have HR:=As u
 have P:Aside (R≠ .bad):=(by rw[←u];exact hb:_≠_)
 have Z:Aside (BE (1*B) (.slice a0 ks.length c0) ks):=U.right
 rw[u]
 have q0:Sat (Ad h s*((1*B)*F)) w:=by rw[Ay];exact hs
 haveI:=q0.i
 clear hb u U hs
 go_enter Tryz.func136,Tryz.ntmps136
 go_wp2
 have O:Sat (Ad h s*((1*B)*(Sl.block w.heap.size DF [.int .i64 0,.int .i64 0,.int .i64 0,.int .i64 0,.int .i64 0]*F))) (w.alloc (.cells #[.int .i64 0,.int .i64 0,.int .i64 0,.int .i64 0,.int .i64 0] DF)):=Ap (by ac_rfl)
 obtain ⟨N,hN⟩:=Aq w.heap.size
 rw[hN] at O⊢
 clear hN q0 this
 go_loopg [1,2] ks.length (fun g t1 t2 wr=> ∃(l:List Kd)(y:Int)(f:Nat)(a:Option Addr)(c:Nat)(G:Ab)(s':TS),t1= .slice a l.length c∧t2= .int .i64 y∧l.length≤65536∧ -1048576≤y∧y+f≤2097152∧Aside (g=f∧Fb An f l y s'=R)∧Aside (BE (G*B) (.slice a l.length c) l)∧
  Sat (Ad h s'*((G*B)*(Sl.block N DF [.int .i64 0,.int .i64 0,.int .i64 0,.int .i64 0,.int .i64 0]*F))) wr)
 case atStart=>exact ⟨ks,I,ks.length,a0,c0,1,s,rfl,rfl,hl,h1,by omega,⟨rfl,HR.out⟩,Z,O⟩
 obtain ⟨l,y,f,a,c,G,s',rfl,rfl,ai,ag,ah,A,Q,d⟩:=hrel
 clear O HR Z
 by_cases o:1<l.length
 · have z:(1:Int)<l.length:=by omega
   obtain ⟨J,rfl⟩: ∃J,f=J+1:=by
    cases f with
    |zero=>exact absurd ((Vn o y s').symm.trans A.out.2).symm P.out
    |succ J=>exact ⟨J,rfl⟩
   have j:=A.out.2
   have K:=A.out.1
   rw[Vm o] at j
   obtain ⟨r,hr⟩:=Aq (BT An ⟨false,[],l⟩ s')
   have p:=fun F w O=>Gq h s' ⟨false,[],l⟩ _ (G*B) F w (JE Q.out) O (Zy l) (by simp[many];omega)
   have n: ∀x s2,r= .ok x s2→x.length=(l.length+11)/12:=fun x s2 e=>by
    have:=EO (hr.trans e)
    simpa[many] using this
   unfold M.bind at j
   rw[hr] at p j
   have HA:=As K
   clear hr A K
   cases r with
   |bad=>exact absurd j.symm P.out
   | ok m s2 =>
     have HC:=As j
     have V:=n m s2 rfl
     have W:m.length≤65536:=by omega
     have H:Fu.ok m s2≠ .bad:=by simp
     haveI:=d.i
     clear j n V
     go_wp2_with fail
     with_reducible refine Calls.mono (p _ _ d H) ?_
     rintro e w2 ⟨v2,Y,rfl,D,X⟩
     obtain ⟨a2,c2,rfl,ae,af⟩:=Ai.v D
     have T:Aside (BE (Y*B) (.slice a2 m.length c2) m):=Ai.left D
     clear d D p this
     go_wp2_with fail
     go_roundg J
     case measure=>have:=HA.out;omega
     refine ⟨m,y+1,J,a2,c2,Y,s2,rfl,by go_num,W,by omega,by omega,⟨rfl,HC.out⟩,T,?_⟩
     exact Sat.Dx (B:=G) (X.eq (by ac_rfl))
   | fault er s2 =>
     subst j
     have H:(Fu.fault er s2:Fu TS (List Kd))≠ .bad:=by simp
     haveI:=d.i
     clear n
     go_wp2_with fail
     with_reducible refine Calls.mono (p _ _ d H) ?_
     rintro e w2 ⟨rfl,X⟩
     exact ⟨rfl,rfl,Sat.Dx (B:=G*Sl.block N DF [.int .i64 0,.int .i64 0,.int .i64 0,.int .i64 0,.int .i64 0]) (X.eq (by ac_rfl))⟩
 have z: ¬(1:Int)<l.length:=by omega
 match l,o with
 | [],_=>
  have u:R= .ok C0 s':=by rw[←A.out.2];cases f<;>rfl
  subst u
  have q3:=d.eq (by ac_rfl)
  have L:=LH _ wr q3
  have z: ¬(1:Int)<(([]:List Kd).length:Nat):=by simp
  haveI:=d.i
  clear A Q P d
  go_wp2_with fail
  refine Dz L fun w2 q4 _=>?_
  clear L q3
  unfold Bi C0 kC
  go_wp2
  go_returns
  exact ⟨_,1,rfl,⟨rfl,rfl⟩,by rw[Ay];exact AD _ _ _⟩
 | [k],_=>
  have u:R= .ok ⟨k,y⟩ s':=by rw[←A.out.2];cases f<;>rfl
  subst u
  obtain ⟨b,q,rfl,r1,r2,r3,r4⟩:=Cp Q.out (i:=0) (x:=k) rfl
  haveI:=d.i
  clear A Q P
  go_wp2
  go_returns
  exact ⟨_,1,rfl,⟨rfl,rfl⟩,by rw[Ay];exact AD _ _ _⟩
 |a::b::t,o=>exact absurd (by simp) o
theorem I5(h:Th)(s:TS)(l:List Av)(v:Value)(B F:Ab)(w:World)(q:A1 B v l)(hs:Sat (Ad h s*(B*F)) w)(hl:l.length≤65536)(hb:Cs An l s≠ .bad):
 Calls Tryz.prog 84 #[.pointer (some ⟨h.t,0,none⟩),v] w (Et h (B*F) (Cs An l s) Qu):=by
 obtain ⟨P,c0,rfl,J,K⟩:=q.v
 have c:=fun F w D=>Gq h s ⟨true,l,[]⟩ _ B F w (UP q) D (Zx l) (by simp[many];omega)
 obtain ⟨R,d⟩:=Aq (Cs An l s)
 rw[d] at hb⊢
 unfold Cs M.bind at d
 obtain ⟨r,hr⟩:=Aq (BT An ⟨true,l,[]⟩ s)
 have b: ∀x s2,r= .ok x s2→x.length=(l.length+11)/12:=fun x s2 e=>by
  have:=EO (hr.trans e)
  simpa[many] using this
 rw[hr] at c d
 have p:=hs.eq (by ac_rfl)
 haveI:=p.i
 clear hr q hs
 cases r with
 |bad=>exact absurd d.symm hb
 | ok a s2 =>
   have y:=b a s2 rfl
   have z:a.length≤65536:=by omega
   have f:grown An a 0 s2=R:=d
   have u:=fun v B F w D m=>M3 h s2 a 0 v B F w D m z (by omega) (by omega) (by rw[f];exact hb)
   rw[f] at u
   have g:Fu.ok a s2≠ .bad:=by simp
   have I:=As u
   clear u f d b y p
   go_enter Tryz.func84,Tryz.ntmps84
   go_wp2_with fail
   with_reducible refine Calls.mono (c _ _ (Bh (Ad h s) B) g) ?_
   rintro e L ⟨v2,o,rfl,j,m⟩
   have k:BE o v2 a:=j
   obtain ⟨Q,c5,rfl,_,_⟩:=Ai.v k
   haveI:=m.i
   clear c j
   go_wp2_with fail
   with_reducible refine Calls.mono (I.out _ o _ _ k (Bh (Ad h s2) o)) ?_
   rintro e T H
   cases R with
   |bad=>exact absurd rfl hb
   | fault G s3 =>
    obtain ⟨rfl,n⟩:=H
    haveI:=n.i
    exact ⟨rfl,rfl,AD _ _ _⟩
   | ok x s3 =>
    obtain ⟨v3,O,rfl,⟨rfl,rfl⟩,n⟩:=H
    rw[Ay] at n
    haveI:=n.i
    unfold Bi
    go_wp2
    go_returns
    exact ⟨_,1,rfl,⟨rfl,rfl⟩,by rw[Ay];exact AD _ _ _⟩
 | fault G s2 =>
   have g:(Fu.fault G s2:Fu TS (List Kd))≠ .bad:=by simp
   subst d
   clear b p hb
   go_enter Tryz.func84,Tryz.ntmps84
   go_wp2_with fail
   with_reducible refine Calls.mono (c _ _ (Bh (Ad h s) B) g) ?_
   rintro e L ⟨rfl,m⟩
   haveI:=m.i
   exact ⟨rfl,rfl,AD _ _ _⟩
theorem LM(h:Th)(s:TS)(ks:List Kd)(a:Int)(v:Value)(B F:Ab)(w:World)(d:BE B v ks)(hs:Sat (Ad h s*(B*F)) w)(hl:ks.length≤65536)(h1: -1048000≤a)(c:a≤1048576)(hb:Ei An ks a s≠ .bad):
 Calls Tryz.prog 144 #[.pointer (some ⟨h.t,0,none⟩),v,.int .i64 a] w (Et h (B*F) (Ei An ks a s) Qu):=by
 unfold Ei at hb⊢
 have j:=fun B F w n o=>M3 h s ks (a-1) v B F w n o hl (by omega) (by omega) hb
 obtain ⟨R,g⟩:=Aq (grown An ks (a-1) s)
 rw[g] at j hb⊢
 obtain ⟨q,c0,rfl,l,m⟩:=d.v
 have c:=hs.eq (by ac_rfl)
 haveI:=c.i
 have k:=As d
 clear g d hs c
 go_enter Tryz.func144,Tryz.ntmps144
 go_wp2_with fail
 with_reducible refine Calls.mono (j B _ _ k.out (Bh (Ad h s) B)) ?_
 rintro e u f
 cases R with
 |bad=>exact absurd rfl hb
 | fault r s3 =>
  obtain ⟨rfl,b⟩:=f
  haveI:=b.i
  exact ⟨rfl,rfl,AD _ _ _⟩
 | ok x s3 =>
  obtain ⟨v3,p,rfl,⟨rfl,rfl⟩,b⟩:=f
  rw[Ay] at b
  haveI:=b.i
  unfold Bi
  go_wp2
  go_returns
  exact ⟨_,1,rfl,⟨rfl,rfl⟩,by rw[Ay];exact AD _ _ _⟩
end Go.Proofs.YtfhbmblbidcmmaaGreat
namespace Go.Tr
section
variable {σ α β:Type}
theorem Bf{m:M σ α}{f:α→M σ β}{s:σ}{R:Fu σ β}(h:M.bind m f s=R)(hb:R≠ .bad):m s≠ .bad:=fun e=>hb (by
 rw[←h]
 unfold M.bind
 rw[e]
 rfl)
theorem Bd{m:M σ α}{f:α→M σ β}{s s':σ}{a:α}{R:Fu σ β}(h:M.bind m f s=R)(hm:m s= .ok a s'):f a s'=R:=by
 rw[←h]
 unfold M.bind
 rw[hm]
 rfl
theorem B3{m:M σ α}{f:α→M σ β}{s s':σ}{e:Int}{R:Fu σ β}(h:M.bind m f s=R)(hm:m s= .fault e s'):R= .fault e s':=by
 rw[←h]
 unfold M.bind
 rw[hm]
 rfl
theorem Ci{m:M σ α}{f:α→M σ β}{s:σ}{R:Fu σ β}(h:M.bind m f s=R)(hm:m s= .bad):R= .bad:=by
 rw[←h]
 unfold M.bind
 rw[hm]
 rfl
theorem A5{m:M σ α}{f:α→M σ β}{s s2:σ}{b:β}(h:M.bind m f s= .ok b s2): ∃a s1,m s= .ok a s1∧f a s1= .ok b s2:=by
 unfold M.bind at h
 cases hm:m s with
 |ok a s1=>rw[hm] at h;exact ⟨a,s1,rfl,h⟩
 |fault e s1=>rw[hm] at h;cases h
 |bad=>rw[hm] at h;cases h
end
theorem Fk(a b:Nd):many (both a b)=many a+many b:=by simp[many,both];omega
theorem Kl{σ : Type}{rd : Int → M σ Nd}{wt : Nd → M σ Kd}(d : ∀ p s n s', rd p s = .ok n s' → many n ≤ 12) :
 ∀(f:Nat)(a b:BK)(s:σ)(r:List Kd×Int)(s':σ),C7 rd wt f a b s= .ok r s'→r.1.length≤2
 |0,a,b,s,r,s',h=>by cases h
 | f + 1, a, b, s, r, s', h => by
  unfold C7 at h
  split at h
  ·obtain ⟨x,s1,h1,h⟩:=A5 h
   cases e:x.kids.getLast? with
   |none=>simp only[e] at h;cases h
   | some z =>
    simp only[e] at h
    by_cases c:x.leaf=true
    · rw[if_pos c] at h;cases h
    rw[if_neg c] at h
    obtain ⟨q,s2,g,h⟩:=A5 h
    obtain ⟨o,s3,i,h⟩:=A5 h
    cases h
    have j:=Kl d f _ _ _ _ _ g
    have hx:=d _ _ _ _ h1
    rw[EO i,Fk]
    have:many (CO x 0 (x.kids.length-1))≤11:=by
     unfold CO
     rw[if_neg c]
     unfold many at hx⊢
     simp[sub]
     omega
    have:many (⟨false,[],q.1⟩:Nd)=q.1.length:=by simp[many]
    omega
  split at h
  ·obtain ⟨x,s1,h1,h⟩:=A5 h
   cases e:x.kids with
   |nil=>simp only[e] at h;cases h
   | cons z zs =>
    simp only[e] at h
    by_cases c:x.leaf=true
    · rw[if_pos c] at h;cases h
    rw[if_neg c,←e] at h
    obtain ⟨q,s2,g,h⟩:=A5 h
    obtain ⟨o,s3,i,h⟩:=A5 h
    cases h
    have j:=Kl d f _ _ _ _ _ g
    have hx:=d _ _ _ _ h1
    rw[EO i,Fk]
    have:many (CO x 1 x.kids.length)≤11:=by
     unfold CO
     rw[if_neg c]
     unfold many at hx⊢
     simp[sub]
     omega
    have:many (⟨false,[],q.1⟩:Nd)=q.1.length:=by simp[many]
    omega
  obtain ⟨x,s1,h1,h⟩:=A5 h
  obtain ⟨y,s2,g,h⟩:=A5 h
  by_cases c:x.leaf=y.leaf
  ·rw[if_pos c] at h
   obtain ⟨o,s3,i,h⟩:=A5 h
   cases h
   have hx:=d _ _ _ _ h1
   have hy:=d _ _ _ _ g
   rw[EO i,Fk]
   omega
  rw[if_neg c] at h
  cases h
end Go.Tr
namespace Go.Proofs.YtfhbmblbidcmmaaGreat
open Go.RowKit Go.Sl Go.Dk Go.Tr
theorem Hy{n:Nd}(h:may n=true):many n≤12∧Pure n:=by
 obtain ⟨h1,b⟩:=Ds h
 obtain ⟨c,d⟩:=Cn h
 unfold Pure many
 cases hl:n.leaf with
 | true =>
  have:n.kids= []:=by
   cases a:n.kids with
   |nil=>rfl
   | cons k l =>
    have:=(b k (by rw[a];simp)).1
    rw[hl] at this;cases this
  rw[this]
  exact ⟨by simp;omega,by simp⟩
 | false =>
  have:n.Ag= []:=by
   cases a:n.Ag with
   |nil=>rfl
   | cons k l =>
    have:=(h1 k (by rw[a];simp)).1
    rw[hl] at this;cases this
  rw[this]
  exact ⟨by simp;omega,by simp⟩
theorem Es{p:Int}{s s':TS}{n:Nd}(h:Ak p s= .ok n s'):may n=true:=by
 have b:s.ops<BG:=by
  rcases Nat.lt_or_ge s.ops BG with h|h1
  · exact h
  unfold Ak M.bind Ue at h
  rw[if_neg (by omega)] at h
  cases h
 rw[JR b] at h
 split at h
 · split at h
   · rename_i n' a
     cases h
     exact IB a
   cases h
 cases h
theorem PG{p:Int}{s s':TS}{n:Nd}(h:Ak p s= .ok n s'):many n≤12:=(Hy (Es h)).1
theorem MS{f:Nat}{a b:BK}{s s':TS}{r:List Kd×Int}(h:C7 Ak An f a b s= .ok r s'):r.1.length≤2:=Kl (fun _ _ _ _ h=>PG h) f a b s r s' h
theorem AN.left{A B:Ab}{v:Value}{n:Nd}(h:AN A v n):AN (A*B) v n:=by
 obtain ⟨b,vK,e,h1,a⟩:=h
 exact ⟨b,vK,e,Ai.left h1,Ai.left a⟩
theorem AN.right{A B:Ab}{v:Value}{n:Nd}(h:AN B v n):AN (A*B) v n:=by
 obtain ⟨b,vK,e,h1,a⟩:=h
 exact ⟨b,vK,e,Ai.right h1,Ai.right a⟩
theorem cJ{A R R':Ab}{w:World}[h:AR A w](X Y:Ab)[t:Take A X R][t':Take R Y R']:Sat (X*Y*R') w:=(h.out.NK X Y).eq (Az _ _ _).symm
theorem Zv{x y:Nd}(hx:may x=true)(hy:may y=true)(hl:x.leaf=y.leaf):Pure (both x y):=by
 have h1:=(Hy hx).2
 have a:=(Hy hy).2
 unfold Pure at h1 a⊢
 rw[Fk]
 rw[←hl] at a
 show _=if x.leaf then _ else _
 unfold both
 cases b:x.leaf with
 |true=>rw[b] at h1 a;simp only[if_true] at h1 a⊢;rw[List.length_append];omega
 |false=>rw[b] at h1 a;simp only[Bool.false_eq_true,if_false] at h1 a⊢;rw[List.length_append];omega
def Xv(r:List Kd×Int)(v:Value)(B:Ab):Prop:= ∃a,v= .tuple #[a,.int .i64 r.2]∧BE B a r.1
def ZS(f:Nat):Prop:= ∀(h:Th)(s:TS)(a b:BK)(F:Ab)(w:World),Sat (Ad h s*F) w→ -1≤a.Al→a.Al≤1000→ -1≤b.Al→b.Al≤1000→C7 Ak An f a b s≠ .bad→
 Calls Tryz.prog 145 #[.pointer (some ⟨h.t,0,none⟩),Bi a,Bi b] w (Et h F (C7 Ak An f a b s) Xv)
theorem Zf(f:Nat)(h:Th)(s:TS)(a b:BK)(F:Ab)(w:World)(hs:Sat (Ad h s*F) w)(D:a.Al=b.Al)(hb:C7 Ak An (f+1) a b s≠ .bad):
 Calls Tryz.prog 145 #[.pointer (some ⟨h.t,0,none⟩),Bi a,Bi b] w (Et h F (C7 Ak An (f+1) a b s) Xv):=by
 obtain ⟨⟨u,O,P,Q⟩,k⟩:=a
 obtain ⟨⟨v,b2,T,U⟩,bh⟩:=b
 simp only at D
 subst D
 obtain ⟨R,B⟩:=Aq (C7 Ak An (f+1) ⟨⟨u,O,P,Q⟩,k⟩ ⟨⟨v,b2,T,U⟩,k⟩ s)
 rw[B] at hb⊢
 have o:=As hb
 unfold C7 at B
 simp only[Int.lt_irrefl,if_false] at B
 have L:=As B
 have c1:=fun F w q=>Cu h s u F w q (Bf L.out o.out)
 unfold Bi
 haveI:=hs.i
 clear hb B
 go_enter Tryz.func145,Tryz.ntmps145
 go_upto_region 10 with (fail)
 obtain ⟨N,hN⟩:=Aq w.heap.size
 have q0:Sat (Ad h s*(Sl.block (N+1) DF [.int .i64 v,.int .i64 b2,.int .i64 T,.int .i64 U,.int .i64 k]*(Sl.block N DF [.int .i64 u,.int .i64 O,.int .i64 P,.int .i64 Q,.int .i64 k]*F))) ((w.alloc (.cells #[.int .i64 u,.int .i64 O,.int .i64 P,.int .i64 Q,.int .i64 k] DF)).alloc (.cells #[.int .i64 v,.int .i64 b2,.int .i64 T,.int .i64 U,.int .i64 k] DF)):=by
  rw[←hN]
  exact Ap (by ac_rfl)
 rw[hN]
 generalize (w.alloc (.cells #[.int .i64 u,.int .i64 O,.int .i64 P,.int .i64 Q,.int .i64 k] DF)).alloc (.cells #[.int .i64 v,.int .i64 b2,.int .i64 T,.int .i64 U,.int .i64 k] DF)=w0 at q0⊢
 clear hN hs this
 haveI:=q0.i
 go_region_law (first
  |(
   go_simp
   go_at_call 129
   with_reducible refine Calls.mono (c1 _ _ (Ae (Ad h s))) ?_
   rintro e w1 h1
   obtain ⟨r1,d⟩: ∃r,r=Ak u s:=⟨_,rfl⟩
   rw[←d] at h1
   rcases r1 with ⟨x,s1⟩|⟨er,s1⟩|_
   rotate_left
   ·obtain ⟨rfl,q1⟩:=h1
    haveI:=q1.i
    have c:=B3 L.out d.symm
    subst c
    exact ⟨rfl,rfl,Ar _ _⟩
   ·exact absurd (Ci L.out d.symm) o.out
   obtain ⟨v1,W,rfl,⟨hx,mx⟩,q1⟩:=h1
   haveI:=q1.i
   have G:=Bd L.out d.symm
   have l:=As G
   have c2:=fun F w q=>Cu h s1 v F w q (Bf l.out o.out)
   have z:Aside (AN W v1 x∧may x=true):=⟨hx,mx⟩
   clear hx mx d G)
  |(
   go_simp
   go_at_call 129
   with_reducible refine Calls.mono (c2 _ _ (Ae (Ad h s1))) ?_
   rintro e w2 Z
   obtain ⟨r2,g⟩: ∃r,r=Ak v s1:=⟨_,rfl⟩
   rw[←g] at Z
   rcases r2 with ⟨y,s2⟩|⟨er,s2⟩|_
   rotate_left
   ·obtain ⟨rfl,q2⟩:=Z
    haveI:=q2.i
    have c:=B3 l.out g.symm
    subst c
    exact ⟨rfl,rfl,Ar _ _⟩
   ·exact absurd (Ci l.out g.symm) o.out
   obtain ⟨v2,X,rfl,⟨hy,V⟩,q2⟩:=Z
   haveI:=q2.i
   have H:=Bd l.out g.symm
   have n:(if x.leaf=y.leaf then M.bind (BT An (both x y)) fun out=>M.pure (out,k) else M.bad) s2=R:=H
   have p:x.leaf=y.leaf:=Decidable.byContradiction fun hc=>o.out (by rw[←n,if_neg hc];rfl)
   rw[if_pos p] at n
   have m:=As n
   have Y:Aside (AN X v2 y∧may y=true∧x.leaf=y.leaf):=⟨hy,V,p⟩
   have c3:=fun F w q=>Ow x y v1 v2 (W*X) F w (AN.left z.out.1) (AN.right hy) q (by have:=Cn z.out.2;omega) (by have:=Cn V;omega) (by have:=Cn z.out.2;omega) (by have:=Cn V;omega)
   clear hy V g n p H)
  |(
   go_simp
   go_at_call 169
   with_reducible refine Calls.mono (c3 _ _ (cJ W X)) ?_
   rintro e w3 ⟨v3,G3,rfl,J,q3⟩
   haveI:=q3.i
   have c4:=fun F w q=>Gq h s2 (both x y) v3 G3 F w J q (Zv z.out.2 Y.out.2.1 Y.out.2.2) (by have:=(Hy z.out.2).1;have:=(Hy Y.out.2.1).1;rw[Fk];omega) (Bf m.out o.out)
   clear J)
  |(
   go_simp
   go_at_call 137
   with_reducible refine Calls.mono (c4 _ _ (Bh (Ad h s2) G3)) ?_
   rintro e w4 h4
   obtain ⟨r4,j⟩: ∃r,r=BT An (both x y) s2:=⟨_,rfl⟩
   rw[←j] at h4
   rcases r4 with ⟨out,s4⟩|⟨er,s4⟩|_
   rotate_left
   ·obtain ⟨rfl,q4⟩:=h4
    haveI:=q4.i
    have c:=B3 m.out j.symm
    subst c
    exact ⟨rfl,rfl,Ar _ _⟩
   ·exact absurd (Ci m.out j.symm) o.out
   obtain ⟨v4,G4,rfl,K,q4⟩:=h4
   have a7:BE G4 v4 out:=K
   haveI:=q4.i
   have I:=Bd m.out j.symm
   have a6:R= .ok (out,k) s4:=I.symm
   clear K j I))
 all_goals
  subst a6
  go_wp2
  go_ret2
  exact ⟨_,G4,rfl,⟨v4,rfl,a7⟩,AD _ _ _⟩
