/- censusPages holds for every input. No condition. (part 31) -/
import Derived.Test.YtfhbmblbidcmmaaGreatVa26
import Derived.Test.YtfhbmblbidcmmaaGreatVa30
set_option linter.all false
set_option maxRecDepth 100000
set_option maxHeartbeats 3200000
namespace Go.Tr
theorem Rf{n:Nd}(h:may n=false):Dm n=(0,[],1):=by simp_all[Dm]
theorem Pq{n:Nd}(h:may n=true)(b:n.Ag.length≤12∧n.kids.length≤12): ∃k:Nat,(k=1∨k=2)∧(Dm n).1=k∧(Dm n).2.1.length≤244∧(Dm n).2.2=0:=by
 have c: ∀l:List Ar,(l.flatMap eb).length=l.length*13:=fun l=>by induction l with
  |nil=>rfl
  |cons x l a=>rw[List.flatMap_cons,List.length_append,O6,a,List.length_cons];omega
 have d: ∀l:List Kd,(l.flatMap kb).length=l.length*16:=fun l=>by induction l with
  |nil=>rfl
  |cons x l a=>rw[List.flatMap_cons,List.length_append,OR,a,List.length_cons];omega
 unfold Dm
 rw[if_neg (by rw[h];simp)]
 cases n.leaf with
 | true =>
   refine ⟨1,.inl rfl,rfl,?_,rfl⟩
   simp only[if_true,List.length_append,AF,c]
   omega
 | false =>
   refine ⟨2,.inr rfl,rfl,?_,rfl⟩
   simp only[Bool.false_eq_true,if_false,List.length_append,AF,d]
   omega
end Go.Tr
namespace Go.Proofs.YtfhbmblbidcmmaaGreat
open Go.RowKit Go.Sl Go.Dk Go.Tr
def kU(k:Kd)(v:Value)(B:Ab):Prop:=v=mV k∧B=1
theorem Xw(h:Th)(s:TS)(n:Nd)(v:Value)(B F:Ab)(w:World)(hN:AJ B v n)(hs:Sat (Ad h s*(B*F)) w)(an:n.Ag.length≤65536)(ao:n.kids.length≤65536)(hb:Al n s≠ .bad):
 Calls Tryz.prog 165 #[.pointer (some ⟨h.t,0,none⟩),v] w (DT h (B*F) (Al n s) kU):=by
 have a:=fun F w q=>W7 n v B F w hN q (by omega) (by omega)
 have a3:=fun F w q=>Ka n v B F w hN q (by omega) (by omega)
 obtain ⟨hi,h2⟩:=Ej hs
 obtain ⟨vE,vK,rfl,hE,hK⟩:=id hN
 obtain ⟨aE,cE,rfl,aj,ak⟩:=hE.v
 obtain ⟨aK,cK,rfl,al,am⟩:=hK.v
 have H:=Ek a3
 have W:=h2.eq (by ac_rfl)
 haveI:=W.i
 clear a3 hE hK hN h2
 cases hm:may n with
 | false =>
  have hr:Al n s= .fault 13 s:=by
   unfold Al
   rw[Rf hm,if_pos (by simp)]
   rfl
  rw[hr]
  rw[Rf hm] at a
  have Q:=Ek hi
  clear hm hr hi hs hb
  go_enter Tryz.func165,Tryz.ntmps165
  go_wp2_with fail
  refine (a _ _ (Ae B)).mono ?_
  rintro e w1 ⟨V,c1,rfl,z⟩
  haveI:=z.i
  clear a W
  go_wp2
  refine ⟨rfl,?_⟩
  exact ⟨rfl,D0 Q.out (DE _ _ _ _ _)⟩
 | true =>
  have ho:s.ops<BG:=by
   rcases Nat.lt_or_ge s.ops BG with h|h
   · exact h
   refine absurd ?_ hb
   obtain ⟨k,_,_,_,h0⟩:=Pq hm (Cm hm)
   unfold Al M.bind IZ
   rw[if_neg (by rw[h0];simp),if_neg (by omega)]
   rfl
  obtain ⟨k,hk,XO,J,K⟩:=Pq hm (Cm hm)
  have hr:Al n s=M.bind IZ (fun t=>M.bind (Fo (if t.2=9 then 7 else t.2)) fun _=>M.bind (Fo (Bz t.1 k (Dm n).2.1).2) fun _=>M.bind (Zq t.1 (Bz t.1 k (Dm n).2.1).1) fun e=>M.bind (Fo e) fun _=>M.pure ⟨t.1,(AR n).1,(AR n).2.1,(AR n).2.2⟩) s:=by
   conv=>lhs;unfold Al
   rw[if_neg (by rw[K];simp),XO]
  have c:=La h.S s.sp _ w (Ae (Cd h.S s.sp)) hi.res.1 hi.res.2 (by have:=hi.taken;have:=hi.ops;unfold BG at this;omega)
  have o:=hi.take ho
  have u:=hi.res
  have j:s.sp.taken.length≤1099511627776:=by have:=hi.taken;have:=hi.ops;unfold BG at this;omega
  have Z:Dm n=((k:Int),(Dm n).2.1,0):=Prod.ext XO (Prod.ext rfl K)
  rw[Z] at a
  clear Z
  obtain ⟨body,X⟩:=Aq ((Dm n).2.1)
  rw[X] at a J hr
  have HH:=Ek hs
  obtain ⟨⟨sb,sl,ss⟩,G⟩:=Aq (AR n)
  rw[G] at H hr
  simp only at H hr
  clear XO K hm X G hs c
  cases Y:s.sp.free with
  | none =>
    have c:s.sp.take=((0,9),s.sp):=by unfold Sp.take;rw[Y]
    have x:Al n s= .fault 7 ⟨s.ck,s.sp,s.ops+1⟩:=by
     rw[hr]
     unfold M.bind IZ
     rw[if_pos ho,c]
     rfl
    rw[x]
    rw[c] at o
    have Q:=Ek o
    have y:=fun F w q=>La h.S s.sp F w q u.1 u.2 j
    rw[c] at y
    have I:=Jn 7 (by omega)
    clear hr x c Y hi o hb u j
    go_enter Tryz.func165,Tryz.ntmps165
    go_wp2_with fail
    refine (a _ _ (Ae B)).mono ?_
    rintro e w1 ⟨V,c1,rfl,z⟩
    haveI:=z.i
    clear a W
    go_wp2_with fail
    refine D1 (y _ _ (Ae (Cd h.S s.sp))) fun w2 q2 _=>?_
    clear y z
    go_wp2_with fail
    refine (I _).mono ?_
    rintro e w3 ⟨rfl,rfl⟩
    refine ⟨rfl,?_⟩
    exact ⟨rfl,D0 Q.out (DE _ _ _ _ _)⟩
  | some no =>
    have aa:0≤no∧no<1048576:=by
     obtain ⟨h1,h2,_⟩:=Sp.I0 Y
     omega
    obtain ⟨m,rfl⟩: ∃m:Nat,no=m:=⟨no.toNat,by omega⟩
    have a0:Bz (m:Int) k body=(AY m k body,0):=by
     unfold Bz
     rw[if_neg (by omega),if_neg (by omega)]
     simp
    obtain ⟨P,O⟩:=Aq s.sp.take.2
    have c:s.sp.take=(((m:Int),0),P):=by rw[←O];unfold Sp.take;rw[Y]
    have x:Al n s=if (s.ck.put m (AY m k body)).1=0 then .ok ⟨m,sb,sl,ss⟩ ⟨(s.ck.put m (AY m k body)).2,P,s.ops+2⟩ else .fault (s.ck.put m (AY m k body)).1 ⟨(s.ck.put m (AY m k body)).2,P,s.ops+2⟩:=by
     rw[hr]
     unfold M.bind IZ Zq
     rw[if_pos ho,c]
     simp only[Fx.bind,show¬((0:Int)=9) by omega,if_false,a0,Fo,if_true,M.pure]
     by_cases h0:(s.ck.put m (AY m k body)).1=0<;>simp[h0,M.fail,M.pure,Fx.bind]
    rw[x]
    have r:=o.put m (AY m k body) (by simp only;omega)
    simp only[O] at o r
    have y:=fun F w q=>La h.S s.sp F w q u.1 u.2 j
    rw[c] at y
    simp only at y
    have L:=fun v B F w hB q=>U7 m k body v B F w hB q (by omega) (by omega) (by omega) J
    have d:=fun v B F w hB q=>fV h.C h.D s.ck 137438953472 m v (AY m k body) B F w hB q hi.ok (by omega)
    have f:=IA m k J
    obtain ⟨p,hp⟩:=Aq (AY m k body)
    rw[hp] at L d r f⊢
    obtain ⟨⟨er,k2⟩,a2⟩:=Aq (s.ck.put m p)
    rw[a2] at d r⊢
    simp only at d r⊢
    have Q:=Ek r
    have hz:=QA
    have U:Aside (∀g,Reads (Sl.block g 346 (A0 p)) (.slice (some ⟨g,0,none⟩) 256 256) p):=fun g=>by
     have:=Reads.RS (b:=g) (e:=346) (l:=p) (by rw[f];unfold maxLen;omega)
     rwa [f] at this
    have R:=Ek L
    have T:=Ek d
    clear hr x c Y hi o r hb u j hp a2 a0 L d f O aa
    by_cases h0:er=0
    · subst h0
      rw[if_pos rfl]
      go_enter Tryz.func165,Tryz.ntmps165
      go_wp2_with fail
      refine (a _ _ (Ae B)).mono ?_
      rintro e w1 ⟨V,c1,rfl,z⟩
      haveI:=z.i
      clear a W
      go_wp2_with fail
      refine D1 (y _ _ (Ae (Cd h.S s.sp))) fun w2 q2 _=>?_
      clear y z
      go_wp2_with fail
      refine (hz _).mono ?_
      rintro e w3 ⟨rfl,rfl⟩
      go_wp2_with fail
      refine (R.out _ _ _ _ Reads.rw (Ae (rw TB 1 (.slice V body.length c1) (A0 body)))).mono ?_
      rintro e w4 ⟨g,rfl,q4⟩
      haveI:=q4.i
      clear q2
      go_wp2_with fail
      refine (hz _).mono ?_
      rintro e w5 ⟨rfl,rfl⟩
      go_wp2_with fail
      refine D1 (T.out _ _ _ _ (U.out g) (Bh (AU h.C h.D s.ck) (Sl.block g 346 (A0 p)))) fun w6 q6 _=>?_
      clear q4
      go_wp2_with fail
      refine (hz _).mono ?_
      rintro e w7 ⟨rfl,rfl⟩
      go_wp2_with fail
      refine D1 (H.out _ _ (Ae B)) fun w8 q8 _=>?_
      clear q6
      go_wp2
      go_returns
      exact ⟨_,1,rfl,⟨rfl,rfl⟩,by rw[Aw];exact D0 Q.out (DE _ _ _ _ _)⟩
    rw[if_neg h0]
    have I:=Jn er h0
    clear h0
    go_enter Tryz.func165,Tryz.ntmps165
    go_wp2_with fail
    refine (a _ _ (Ae B)).mono ?_
    rintro e w1 ⟨V,c1,rfl,z⟩
    haveI:=z.i
    clear a W
    go_wp2_with fail
    refine D1 (y _ _ (Ae (Cd h.S s.sp))) fun w2 q2 _=>?_
    clear y z
    go_wp2_with fail
    refine (hz _).mono ?_
    rintro e w3 ⟨rfl,rfl⟩
    go_wp2_with fail
    refine (R.out _ _ _ _ Reads.rw (Ae (rw TB 1 (.slice V body.length c1) (A0 body)))).mono ?_
    rintro e w4 ⟨g,rfl,q4⟩
    haveI:=q4.i
    clear q2
    go_wp2_with fail
    refine (hz _).mono ?_
    rintro e w5 ⟨rfl,rfl⟩
    go_wp2_with fail
    refine D1 (T.out _ _ _ _ (U.out g) (Bh (AU h.C h.D s.ck) (Sl.block g 346 (A0 p)))) fun w6 q6 _=>?_
    clear q4
    go_wp2_with fail
    refine (I _).mono ?_
    rintro e w7 ⟨rfl,rfl⟩
    refine ⟨rfl,?_⟩
    exact ⟨rfl,D0 Q.out (DE _ _ _ _ _)⟩
end Go.Proofs.YtfhbmblbidcmmaaGreat
namespace Go.Tr
def NQ(m p i:Nat):Nat:=i*(m/p)+min i (m%p)
theorem Y7(m p i:Nat):NQ m p (i+1)=NQ m p i+(m/p+if i<m%p then 1 else 0):=by
 unfold NQ
 grind
theorem eK(m p i:Nat)(h:i≤p):NQ m p i≤m:=by
 have h1:=Nat.div_add_mod m p
 have a:i*(m/p)≤p*(m/p):=Nat.mul_le_mul_right _ h
 grind [NQ]
theorem JJ{σ:Type}{wt:Nd→M σ Kd}{n:Nd}{Az:Nat} : ∀(c i at_:Nat)(out ks:List Kd)(s s':σ),Cv wt n Az c i at_ out s= .ok ks s'→ks.length=out.length+c
 |0,i,at_,out,ks,s,s',h=>by cases h;rfl
 | c + 1, i, at_, out, ks, s, s', h => by
  unfold Cv M.bind Fx.bind at h
  split at h
  ·have:=JJ c _ _ _ _ _ _ h
   grind
  ·grind
  grind
theorem ER{σ:Type}{wt:Nd→M σ Kd}{n:Nd}{ks:List Kd}{s s':σ}(h:B6 wt n s= .ok ks s'):ks.length=(many n+11)/12:=by
 have:=JJ _ _ _ _ _ _ _ h
 simp_all[Bc]
end Go.Tr
namespace Go.Proofs.YtfhbmblbidcmmaaGreat
open Go.RowKit Go.Sl Go.Dk Go.Tr
def kV(ks:List Kd)(v:Value)(B:Ab):Prop:=AS B v ks
def Pure(n:Nd):Prop:=many n=if n.leaf then n.Ag.length else n.kids.length
theorem Gw(h:Th)(s:TS)(n:Nd)(v:Value)(B F:Ab)(w:World)(hN:AJ B v n)(hs:Sat (Ad h s*(B*F)) w)(hp:Pure n)(hm:many n≤65536)(hb:B6 Al n s≠ .bad):
 Calls Tryz.prog 137 #[.pointer (some ⟨h.t,0,none⟩),v] w (DT h (B*F) (B6 Al n s) kV):=by
 obtain ⟨i0,E⟩:=Ms
 have z:=fun F w q=>Pa n v B F w hN q (by unfold many at hm;omega) (by unfold many at hm;omega)
 obtain ⟨vE,vK,rfl,hE,hK⟩:=id hN
 obtain ⟨aE,cE,rfl,f,ak⟩:=hE.v
 obtain ⟨aK,cK,rfl,az,b0⟩:=hK.v
 obtain ⟨v,hv⟩:=Aq (Value.agg #[.bool n.leaf,.slice aE n.Ag.length cE,.slice aK n.kids.length cK])
 have H:Aside (∀(i j:Nat) F w,i≤j→j≤many n→Sat (B*F) w→Calls Tryz.prog 166 #[.agg #[.bool n.leaf,.slice aE n.Ag.length cE,.slice aK n.kids.length cK],.int .i64 i,.int .i64 j] w fun e w'=> ∃v',e= .returned v'∧AJ B v' (C4 n i j)∧Sat (B*F) w'):=
  fun i j F w h1 h2 q=>PL n i j _ B F w hN q h1 (by rw[←hp];exact h2)
 obtain ⟨m,P⟩:=Aq (many n)
 rw[P] at hm z H
 obtain ⟨p,am⟩:=Aq ((m+11)/12)
 obtain ⟨R,hR⟩:=Aq (B6 Al n s)
 have HR:Aside (Cv Al n p p 0 0 [] s=R):=(by rw[←hR];unfold B6 Bc;rw[P,am]:_=_)
 have HM:=Ek P
 have HB:Aside (R≠ .bad):=(by rw[←hR];exact hb:_≠_)
 have b3:p≤5462:=by omega
 have a8:((m:Int)+12-1)/12=(p:Int):=by omega
 rw[hR]
 have h2:=hs.eq (by ac_rfl)
 haveI:=h2.i
 clear hE hK hN hs hb hR hp hv P
 go_enter Tryz.func137,Tryz.ntmps137
 go_wp2_with fail
 refine D1 (z _ _ (Ae B)) fun w1 q1 _=>?_
 clear z h2
 go_wp2_with fail
 obtain ⟨N,hN⟩:=Aq w.heap.size
 rw[hN] at q1⊢
 clear hN
 have e0:=(Sat.AE (e:=Kr) (s:=4) q1)
 simp only[a8]
 clear a8
 go_loopg [7,8,18] p (fun g t7 t8 ao wr=> ∃(i:Nat)(a:Option Addr)(c:Nat)(out:List Kd)(s':TS),ao= .int .i64 i∧t8= .int .i64 (NQ m p i:Nat)∧t7= .slice a i c∧i≤p∧out.length=i∧Aside (g=p-i∧Cv Al n p (p-i) i (NQ m p i) out s'=R)∧
  Sat (rw Kr 4 (.slice a i c) (G0 out)*(Ad h s'*(B*(Sl.block N C1 [.bool n.leaf,.slice aE n.Ag.length cE,.slice aK n.kids.length cK]*F)))) wr)
 case atStart=>exact ⟨0,none,0,[],s,rfl,by simp[NQ],rfl,by omega,rfl,⟨rfl,by simpa[NQ] using HR.out⟩,e0.eq (by ac_rfl)⟩
 obtain ⟨i,a,c,out,s',rfl,rfl,rfl,hi,a1,A,I⟩:=hrel
 haveI:=I.i
 clear q1 e0
 by_cases b1:i<p
 · have a9:(i:Int)<p:=by omega
   have b2: ¬(p:Int)=0:=by omega
   obtain ⟨Y,f⟩:=Aq (m/p)
   have d1:(m:Int)/(p:Int)=(Y:Int):=by rw[←f];rfl
   have ak:Y≤65536:=by rw[←f];exact Nat.le_trans (Nat.div_le_self m p) hm
   have Q:=Y7 m p i
   have al:=eK m p (i+1) (by omega)
   obtain ⟨pos,x⟩:=Aq (NQ m p i)
   simp only[x]
   rw[f] at Q
   obtain ⟨sz,G⟩:=Aq (Y+(if i<m%p then 1 else 0))
   rw[x,G] at Q
   have K:Cv Al n p (p-i) i pos out s'=M.bind (Al (C4 n pos (pos+sz))) (fun k=>Cv Al n p (p-(i+1)) (i+1) (pos+sz) (out++ [k])) s':=by
    rw[show p-i=(p-(i+1))+1 by omega]
    conv=>lhs;unfold Cv
    rw[HM.out,f,G]
   have y:=A.out.2
   rw[x,K] at y
   obtain ⟨r,hr⟩:=Aq (Al (C4 n pos (pos+sz)) s')
   have a2:=fun v B F w q1 L=>Xw h s' (C4 n pos (pos+sz)) v B F w q1 L (by unfold C4;split<;>simp[sub]<;>omega) (by unfold C4;split<;>simp[sub]<;>omega)
   rw[hr] at a2
   have hcut:=fun F w q=>H.out pos (pos+sz) F w (by omega) (by omega) q
   have b4:pos+sz≤65536:=by omega
   clear al
   unfold M.bind at y
   rw[hr] at y
   have a7:=A.out.1
   clear hr K H HR
   have O:=Ek a2
   have o:=Ek G
   have HA:Aside (pos=NQ m p i∧gk=p-i∧out.length=i):=⟨x.symm,a7,a1⟩
   have HX:=Ek Q
   clear a2 a7 A x Q a1
   cases r with
   |bad=>exact absurd y.symm HB.out
   | ok k s2 =>
     have J:Fx.ok k s2≠ .bad:=by simp
     have HC:=Ek y
     clear y
     by_cases d:i<m%p
     ·have D:(i:Int)<(m:Int)%(p:Int):=by exact_mod_cast d
      have hq:Y+1=sz:=by rw[←o.out,if_pos d]
      subst hq
      clear G o HB HM f
      rw[Int.natCast_add,Int.natCast_add,Int.natCast_one] at hcut
      go_wp2_with fail
      refine (hcut _ _ (Ae B)).mono ?_
      rintro e w2 ⟨vc,rfl,l,L⟩
      haveI:=L.i
      clear hcut I
      go_wp2_with fail
      with_reducible refine Calls.mono (O.out _ B _ _ l (Bh (Ad h s') B) J) ?_
      rintro e w3 ⟨v3,G3,rfl,⟨rfl,rfl⟩,X⟩
      rw[Aw] at X
      haveI:=X.i
      clear L l
      obtain ⟨T,U,V,W⟩:=k
      unfold mV
      simp only[]
      have Z:Aside (G0 (out++ [⟨T,U,V,W⟩])=G0 out++ [.int .i64 T,.int .i64 U,.int .i64 V,.int .i64 W]):=(by simp[G0,Ql]:_=_)
      go_wp2_with (at_builtin;refine Af E rfl (.tmp 31) (.tmp 40) rfl rfl rfl (Ae (rw Kr 4 (.slice a i c) (G0 out))) (Src.new (b:=w3.heap.size) (e:=Kr) (s:=4) (vs:= [.int .i64 T,.int .i64 U,.int .i64 V,.int .i64 W]) (Ae _) rfl (by intro u hu;simp at hu;rcases hu with rfl|rfl|rfl|rfl<;>rfl)) (by unfold maxLen;omega) (by omega) ?_;intro a4 c4 w4 q4 z4;clear z4;haveI:=q4.i)
      go_roundg (p-(i+1))
      case measure=>have:=HA.out.2.1;omega
      refine ⟨i+1,a4,c4,out++ [⟨T,U,V,W⟩],s2,by go_num,?_,rfl,by omega,by rw[List.length_append,HA.out.2.2];rfl,⟨rfl,by rw[HX.out];exact HC.out⟩,?_⟩
      ·rw[HX.out];go_num
      rw[Z.out]
      exact DE _ _ _ _ _
     have D: ¬(i:Int)<(m:Int)%(p:Int):=by exact_mod_cast d
     have hq:Y=sz:=by rw[←o.out,if_neg d];rfl
     subst hq
     clear G o HB HM f
     rw[Int.natCast_add] at hcut
     go_wp2_with fail
     refine (hcut _ _ (Ae B)).mono ?_
     rintro e w2 ⟨vc,rfl,l,L⟩
     haveI:=L.i
     clear hcut I
     go_wp2_with fail
     with_reducible refine Calls.mono (O.out _ B _ _ l (Bh (Ad h s') B) J) ?_
     rintro e w3 ⟨v3,G3,rfl,⟨rfl,rfl⟩,X⟩
     rw[Aw] at X
     haveI:=X.i
     clear L l
     obtain ⟨T,U,V,W⟩:=k
     unfold mV
     simp only[]
     have Z:Aside (G0 (out++ [⟨T,U,V,W⟩])=G0 out++ [.int .i64 T,.int .i64 U,.int .i64 V,.int .i64 W]):=(by simp[G0,Ql]:_=_)
     go_wp2_with (at_builtin;refine Af E rfl (.tmp 31) (.tmp 40) rfl rfl rfl (Ae (rw Kr 4 (.slice a i c) (G0 out))) (Src.new (b:=w3.heap.size) (e:=Kr) (s:=4) (vs:= [.int .i64 T,.int .i64 U,.int .i64 V,.int .i64 W]) (Ae _) rfl (by intro u hu;simp at hu;rcases hu with rfl|rfl|rfl|rfl<;>rfl)) (by unfold maxLen;omega) (by omega) ?_;intro a4 c4 w4 q4 z4;clear z4;haveI:=q4.i)
     go_roundg (p-(i+1))
     case measure=>have:=HA.out.2.1;omega
     refine ⟨i+1,a4,c4,out++ [⟨T,U,V,W⟩],s2,by go_num,?_,rfl,by omega,by rw[List.length_append,HA.out.2.2];rfl,⟨rfl,by rw[HX.out];exact HC.out⟩,?_⟩
     ·rw[HX.out];go_num
     rw[Z.out]
     exact DE _ _ _ _ _
   | fault er s2 =>
     have J:(Fx.fault er s2:Fx TS Kd)≠ .bad:=by simp
     subst y
     by_cases d:i<m%p
     ·have D:(i:Int)<(m:Int)%(p:Int):=by exact_mod_cast d
      have hq:Y+1=sz:=by rw[←o.out,if_pos d]
      subst hq
      clear G o HB HM f
      rw[Int.natCast_add,Int.natCast_add,Int.natCast_one] at hcut
      go_wp2_with fail
      refine (hcut _ _ (Ae B)).mono ?_
      rintro e w2 ⟨vc,rfl,l,L⟩
      haveI:=L.i
      clear hcut I
      go_wp2_with fail
      with_reducible refine Calls.mono (O.out _ B _ _ l (Bh (Ad h s') B) J) ?_
      rintro e w3 ⟨rfl,X⟩
      haveI:=X.i
      exact ⟨rfl,rfl,AD _ _ _⟩
     have D: ¬(i:Int)<(m:Int)%(p:Int):=by exact_mod_cast d
     have hq:Y=sz:=by rw[←o.out,if_neg d];rfl
     subst hq
     clear G o HB HM f
     rw[Int.natCast_add] at hcut
     go_wp2_with fail
     refine (hcut _ _ (Ae B)).mono ?_
     rintro e w2 ⟨vc,rfl,l,L⟩
     haveI:=L.i
     clear hcut I
     go_wp2_with fail
     with_reducible refine Calls.mono (O.out _ B _ _ l (Bh (Ad h s') B) J) ?_
     rintro e w3 ⟨rfl,X⟩
     haveI:=X.i
     exact ⟨rfl,rfl,AD _ _ _⟩
 have a9: ¬(i:Int)<p:=by omega
 obtain rfl:i=p:=by omega
 have hR:R= .ok out s':=by
  rw[←A.out.2,Nat.sub_self]
  rfl
 subst hR
 subst a1
 clear A H HR HB HM
 go_wp2
 go_returns
 exact ⟨_,rw Kr 4 (.slice a out.length c) (G0 out),rfl,Aj.rw I ⟨a,c,rfl⟩,Cx _ _ _ _⟩
end Go.Proofs.YtfhbmblbidcmmaaGreat
namespace Go.Tr
theorem Vy{σ:Type}{wt:Nd→M σ Kd}{l:List Kd}(h:1<l.length)(c:Int)(s:σ):Fc wt 0 l c s= .bad:=by match l,h with
 |a::b::t,_=>rfl
theorem Vx{σ:Type}{wt:Nd→M σ Kd}{l:List Kd}(h:1<l.length)(f:Nat)(c:Int):Fc wt (f+1) l c=M.bind (B6 wt ⟨false,[],l⟩) fun ks=>Fc wt f ks (c+1):=by match l,h with
 |a::b::t,_=>rfl
end Go.Tr
namespace Go.Proofs.YtfhbmblbidcmmaaGreat
open Go.RowKit Go.Sl Go.Dk Go.Tr
def Q3(x:BJ)(v:Value)(B:Ab):Prop:=v=Bj x∧B=1
theorem ZC(ks:List Kd):Pure ⟨false,[],ks⟩:=by unfold Pure many;simp
theorem ZB(l:List Ar):Pure ⟨true,l,[]⟩:=by unfold Pure many;simp
theorem J9{B:Ab}{v:Value}{ks:List Kd}(h:AS B v ks):AJ B (.agg #[.bool false,.slice none 0 0,v]) ⟨false,[],ks⟩:=⟨_,_,rfl,Aj.nil 4 _,h⟩
theorem Va{B:Ab}{v:Value}{l:List Ar}(h:Au B v l):AJ B (.agg #[.bool true,v,.slice none 0 0]) ⟨true,l,[]⟩:=⟨_,_,rfl,h,Aj.nil 4 _⟩
theorem Mz(h:Th)(s:TS)(ks:List Kd)(I:Int)(v:Value)(B F:Ab)(w:World)(U:AS B v ks)(hs:Sat (Ad h s*(B*F)) w)(hl:ks.length≤65536)(h1: -1048576≤I)(h2:I≤1048576)(hb:grown Al ks I s≠ .bad):
 Calls Tryz.prog 136 #[.pointer (some ⟨h.t,0,none⟩),v,.int .i64 I] w (DT h (B*F) (grown Al ks I s) Q3):=by
 obtain ⟨a0,c0,rfl,ac,ad⟩:=U.v
 obtain ⟨R,u⟩:=Aq (grown Al ks I s)
 have HR:=Ek u
 have P:Aside (R≠ .bad):=(by rw[←u];exact hb:_≠_)
 have Z:Aside (AS (1*B) (.slice a0 ks.length c0) ks):=U.right
 rw[u]
 have q0:Sat (Ad h s*((1*B)*F)) w:=by rw[Aw];exact hs
 haveI:=q0.i
 clear hb u U hs
 go_enter Tryz.func136,Tryz.ntmps136
 go_wp2
 have O:Sat (Ad h s*((1*B)*(Sl.block w.heap.size DH [.int .i64 0,.int .i64 0,.int .i64 0,.int .i64 0,.int .i64 0]*F))) (w.alloc (.cells #[.int .i64 0,.int .i64 0,.int .i64 0,.int .i64 0,.int .i64 0] DH)):=Av (by ac_rfl)
 obtain ⟨N,hN⟩:=Aq w.heap.size
 rw[hN] at O⊢
 clear hN q0 this
 go_loopg [1,2] ks.length (fun g t1 t2 wr=> ∃(l:List Kd)(y:Int)(f:Nat)(a:Option Addr)(c:Nat)(G:Ab)(s':TS),t1= .slice a l.length c∧t2= .int .i64 y∧l.length≤65536∧ -1048576≤y∧y+f≤2097152∧Aside (g=f∧Fc Al f l y s'=R)∧Aside (AS (G*B) (.slice a l.length c) l)∧
  Sat (Ad h s'*((G*B)*(Sl.block N DH [.int .i64 0,.int .i64 0,.int .i64 0,.int .i64 0,.int .i64 0]*F))) wr)
 case atStart=>exact ⟨ks,I,ks.length,a0,c0,1,s,rfl,rfl,hl,h1,by omega,⟨rfl,HR.out⟩,Z,O⟩
 obtain ⟨l,y,f,a,c,G,s',rfl,rfl,ai,ag,ah,A,Q,d⟩:=hrel
 clear O HR Z
 by_cases o:1<l.length
 · have z:(1:Int)<l.length:=by omega
   obtain ⟨J,rfl⟩: ∃J,f=J+1:=by
    cases f with
    |zero=>exact absurd ((Vy o y s').symm.trans A.out.2).symm P.out
    |succ J=>exact ⟨J,rfl⟩
   have j:=A.out.2
   have K:=A.out.1
   rw[Vx o] at j
   obtain ⟨r,hr⟩:=Aq (B6 Al ⟨false,[],l⟩ s')
   have p:=fun F w O=>Gw h s' ⟨false,[],l⟩ _ (G*B) F w (J9 Q.out) O (ZC l) (by simp[many];omega)
   have n: ∀x s2,r= .ok x s2→x.length=(l.length+11)/12:=fun x s2 e=>by
    have:=ER (hr.trans e)
    simpa[many] using this
   unfold M.bind at j
   rw[hr] at p j
   have HA:=Ek K
   clear hr A K
   cases r with
   |bad=>exact absurd j.symm P.out
   | ok m s2 =>
     have HC:=Ek j
     have V:=n m s2 rfl
     have W:m.length≤65536:=by omega
     have H:Fx.ok m s2≠ .bad:=by simp
     haveI:=d.i
     clear j n V
     go_wp2_with fail
     with_reducible refine Calls.mono (p _ _ d H) ?_
     rintro e w2 ⟨v2,Y,rfl,D,X⟩
     obtain ⟨a2,c2,rfl,ae,af⟩:=Aj.v D
     have T:Aside (AS (Y*B) (.slice a2 m.length c2) m):=Aj.left D
     clear d D p this
     go_wp2_with fail
     go_roundg J
     case measure=>have:=HA.out;omega
     refine ⟨m,y+1,J,a2,c2,Y,s2,rfl,by go_num,W,by omega,by omega,⟨rfl,HC.out⟩,T,?_⟩
     exact Sat.Dn (B:=G) (X.eq (by ac_rfl))
   | fault er s2 =>
     subst j
     have H:(Fx.fault er s2:Fx TS (List Kd))≠ .bad:=by simp
     haveI:=d.i
     clear n
     go_wp2_with fail
     with_reducible refine Calls.mono (p _ _ d H) ?_
     rintro e w2 ⟨rfl,X⟩
     exact ⟨rfl,rfl,Sat.Dn (B:=G*Sl.block N DH [.int .i64 0,.int .i64 0,.int .i64 0,.int .i64 0,.int .i64 0]) (X.eq (by ac_rfl))⟩
 have z: ¬(1:Int)<l.length:=by omega
 match l,o with
 | [],_=>
  have u:R= .ok C2 s':=by rw[←A.out.2];cases f<;>rfl
  subst u
  have q3:=d.eq (by ac_rfl)
  have L:=LF _ wr q3
  have z: ¬(1:Int)<(([]:List Kd).length:Nat):=by simp
  haveI:=d.i
  clear A Q P d
  go_wp2_with fail
  refine D1 L fun w2 q4 _=>?_
  clear L q3
  unfold Bj C2 kQ
  go_wp2
  go_returns
  exact ⟨_,1,rfl,⟨rfl,rfl⟩,by rw[Aw];exact AD _ _ _⟩
 | [k],_=>
  have u:R= .ok ⟨k,y⟩ s':=by rw[←A.out.2];cases f<;>rfl
  subst u
  obtain ⟨b,q,rfl,r1,r2,r3,r4⟩:=Co Q.out (i:=0) (x:=k) rfl
  haveI:=d.i
  clear A Q P
  go_wp2
  go_returns
  exact ⟨_,1,rfl,⟨rfl,rfl⟩,by rw[Aw];exact AD _ _ _⟩
 |a::b::t,o=>exact absurd (by simp) o
theorem I1(h:Th)(s:TS)(l:List Ar)(v:Value)(B F:Ab)(w:World)(q:Au B v l)(hs:Sat (Ad h s*(B*F)) w)(hl:l.length≤65536)(hb:BT Al l s≠ .bad):
 Calls Tryz.prog 84 #[.pointer (some ⟨h.t,0,none⟩),v] w (DT h (B*F) (BT Al l s) Q3):=by
 obtain ⟨P,c0,rfl,J,K⟩:=q.v
 have c:=fun F w D=>Gw h s ⟨true,l,[]⟩ _ B F w (Va q) D (ZB l) (by simp[many];omega)
 obtain ⟨R,d⟩:=Aq (BT Al l s)
 rw[d] at hb⊢
 unfold BT M.bind at d
 obtain ⟨r,hr⟩:=Aq (B6 Al ⟨true,l,[]⟩ s)
 have b: ∀x s2,r= .ok x s2→x.length=(l.length+11)/12:=fun x s2 e=>by
  have:=ER (hr.trans e)
  simpa[many] using this
 rw[hr] at c d
 have p:=hs.eq (by ac_rfl)
 haveI:=p.i
 clear hr q hs
 cases r with
 |bad=>exact absurd d.symm hb
 | ok a s2 =>
   have y:=b a s2 rfl
   have z:a.length≤65536:=by omega
   have f:grown Al a 0 s2=R:=d
   have u:=fun v B F w D m=>Mz h s2 a 0 v B F w D m z (by omega) (by omega) (by rw[f];exact hb)
   rw[f] at u
   have g:Fx.ok a s2≠ .bad:=by simp
   have I:=Ek u
   clear u f d b y p
   go_enter Tryz.func84,Tryz.ntmps84
   go_wp2_with fail
   with_reducible refine Calls.mono (c _ _ (Bh (Ad h s) B) g) ?_
   rintro e L ⟨v2,o,rfl,j,m⟩
   have k:AS o v2 a:=j
   obtain ⟨Q,c5,rfl,_,_⟩:=Aj.v k
   haveI:=m.i
   clear c j
   go_wp2_with fail
   with_reducible refine Calls.mono (I.out _ o _ _ k (Bh (Ad h s2) o)) ?_
   rintro e T H
   cases R with
   |bad=>exact absurd rfl hb
   | fault G s3 =>
    obtain ⟨rfl,n⟩:=H
    haveI:=n.i
    exact ⟨rfl,rfl,AD _ _ _⟩
   | ok x s3 =>
    obtain ⟨v3,O,rfl,⟨rfl,rfl⟩,n⟩:=H
    rw[Aw] at n
    haveI:=n.i
    unfold Bj
    go_wp2
    go_returns
    exact ⟨_,1,rfl,⟨rfl,rfl⟩,by rw[Aw];exact AD _ _ _⟩
 | fault G s2 =>
   have g:(Fx.fault G s2:Fx TS (List Kd))≠ .bad:=by simp
   subst d
   clear b p hb
   go_enter Tryz.func84,Tryz.ntmps84
   go_wp2_with fail
   with_reducible refine Calls.mono (c _ _ (Bh (Ad h s) B) g) ?_
   rintro e L ⟨rfl,m⟩
   haveI:=m.i
   exact ⟨rfl,rfl,AD _ _ _⟩
theorem LK(h:Th)(s:TS)(ks:List Kd)(a:Int)(v:Value)(B F:Ab)(w:World)(d:AS B v ks)(hs:Sat (Ad h s*(B*F)) w)(hl:ks.length≤65536)(h1: -1048000≤a)(c:a≤1048576)(hb:CU Al ks a s≠ .bad):
 Calls Tryz.prog 144 #[.pointer (some ⟨h.t,0,none⟩),v,.int .i64 a] w (DT h (B*F) (CU Al ks a s) Q3):=by
 unfold CU at hb⊢
 have j:=fun B F w n o=>Mz h s ks (a-1) v B F w n o hl (by omega) (by omega) hb
 obtain ⟨R,g⟩:=Aq (grown Al ks (a-1) s)
 rw[g] at j hb⊢
 obtain ⟨q,c0,rfl,l,m⟩:=d.v
 have c:=hs.eq (by ac_rfl)
 haveI:=c.i
 have k:=Ek d
 clear g d hs c
 go_enter Tryz.func144,Tryz.ntmps144
 go_wp2_with fail
 with_reducible refine Calls.mono (j B _ _ k.out (Bh (Ad h s) B)) ?_
 rintro e u f
 cases R with
 |bad=>exact absurd rfl hb
 | fault r s3 =>
  obtain ⟨rfl,b⟩:=f
  haveI:=b.i
  exact ⟨rfl,rfl,AD _ _ _⟩
 | ok x s3 =>
  obtain ⟨v3,p,rfl,⟨rfl,rfl⟩,b⟩:=f
  rw[Aw] at b
  haveI:=b.i
  unfold Bj
  go_wp2
  go_returns
  exact ⟨_,1,rfl,⟨rfl,rfl⟩,by rw[Aw];exact AD _ _ _⟩
end Go.Proofs.YtfhbmblbidcmmaaGreat
namespace Go.Tr
section
variable {σ α β:Type}
theorem Bi{m:M σ α}{f:α→M σ β}{s:σ}{R:Fx σ β}(h:M.bind m f s=R)(hb:R≠ .bad):m s≠ .bad:=fun e=>hb (by
 rw[←h]
 unfold M.bind
 rw[e]
 rfl)
theorem Be{m:M σ α}{f:α→M σ β}{s s':σ}{a:α}{R:Fx σ β}(h:M.bind m f s=R)(hm:m s= .ok a s'):f a s'=R:=by
 rw[←h]
 unfold M.bind
 rw[hm]
 rfl
theorem B4{m:M σ α}{f:α→M σ β}{s s':σ}{e:Int}{R:Fx σ β}(h:M.bind m f s=R)(hm:m s= .fault e s'):R= .fault e s':=by
 rw[←h]
 unfold M.bind
 rw[hm]
 rfl
theorem Cg{m:M σ α}{f:α→M σ β}{s:σ}{R:Fx σ β}(h:M.bind m f s=R)(hm:m s= .bad):R= .bad:=by
 rw[←h]
 unfold M.bind
 rw[hm]
 rfl
theorem A1{m:M σ α}{f:α→M σ β}{s s2:σ}{b:β}(h:M.bind m f s= .ok b s2): ∃a s1,m s= .ok a s1∧f a s1= .ok b s2:=by
 unfold M.bind at h
 cases hm:m s with
 |ok a s1=>rw[hm] at h;exact ⟨a,s1,rfl,h⟩
 |fault e s1=>rw[hm] at h;cases h
 |bad=>rw[hm] at h;cases h
end
theorem Fs(a b:Nd):many (both a b)=many a+many b:=by simp[many,both];omega
theorem Ki{σ : Type}{rd : Int → M σ Nd}{wt : Nd → M σ Kd}(d : ∀ p s n s', rd p s = .ok n s' → many n ≤ 12) :
 ∀(f:Nat)(a b:BJ)(s:σ)(r:List Kd×Int)(s':σ),Cu rd wt f a b s= .ok r s'→r.1.length≤2
 |0,a,b,s,r,s',h=>by cases h
 | f + 1, a, b, s, r, s', h => by
  unfold Cu at h
  split at h
  ·obtain ⟨x,s1,h1,h⟩:=A1 h
   cases e:x.kids.getLast? with
   |none=>simp only[e] at h;cases h
   | some z =>
    simp only[e] at h
    by_cases c:x.leaf=true
    · rw[if_pos c] at h;cases h
    rw[if_neg c] at h
    obtain ⟨q,s2,g,h⟩:=A1 h
    obtain ⟨o,s3,i,h⟩:=A1 h
    cases h
    have j:=Ki d f _ _ _ _ _ g
    have hx:=d _ _ _ _ h1
    rw[ER i,Fs]
    have:many (C4 x 0 (x.kids.length-1))≤11:=by
     unfold C4
     rw[if_neg c]
     unfold many at hx⊢
     simp[sub]
     omega
    have:many (⟨false,[],q.1⟩:Nd)=q.1.length:=by simp[many]
    omega
  split at h
  ·obtain ⟨x,s1,h1,h⟩:=A1 h
   cases e:x.kids with
   |nil=>simp only[e] at h;cases h
   | cons z zs =>
    simp only[e] at h
    by_cases c:x.leaf=true
    · rw[if_pos c] at h;cases h
    rw[if_neg c,←e] at h
    obtain ⟨q,s2,g,h⟩:=A1 h
    obtain ⟨o,s3,i,h⟩:=A1 h
    cases h
    have j:=Ki d f _ _ _ _ _ g
    have hx:=d _ _ _ _ h1
    rw[ER i,Fs]
    have:many (C4 x 1 x.kids.length)≤11:=by
     unfold C4
     rw[if_neg c]
     unfold many at hx⊢
     simp[sub]
     omega
    have:many (⟨false,[],q.1⟩:Nd)=q.1.length:=by simp[many]
    omega
  obtain ⟨x,s1,h1,h⟩:=A1 h
  obtain ⟨y,s2,g,h⟩:=A1 h
  by_cases c:x.leaf=y.leaf
  ·rw[if_pos c] at h
   obtain ⟨o,s3,i,h⟩:=A1 h
   cases h
   have hx:=d _ _ _ _ h1
   have hy:=d _ _ _ _ g
   rw[ER i,Fs]
   omega
  rw[if_neg c] at h
  cases h
end Go.Tr
namespace Go.Proofs.YtfhbmblbidcmmaaGreat
open Go.RowKit Go.Sl Go.Dk Go.Tr
theorem Hu{n:Nd}(h:may n=true):many n≤12∧Pure n:=by
 obtain ⟨h1,b⟩:=Dx h
 obtain ⟨c,d⟩:=Cm h
 unfold Pure many
 cases hl:n.leaf with
 | true =>
  have:n.kids= []:=by
   cases a:n.kids with
   |nil=>rfl
   | cons k l =>
    have:=(b k (by rw[a];simp)).1
    rw[hl] at this;cases this
  rw[this]
  exact ⟨by simp;omega,by simp⟩
 | false =>
  have:n.Ag= []:=by
   cases a:n.Ag with
   |nil=>rfl
   | cons k l =>
    have:=(h1 k (by rw[a];simp)).1
    rw[hl] at this;cases this
  rw[this]
  exact ⟨by simp;omega,by simp⟩
theorem Et{p:Int}{s s':TS}{n:Nd}(h:Ah p s= .ok n s'):may n=true:=by
 have b:s.ops<BG:=by
  rcases Nat.lt_or_ge s.ops BG with h|h1
  · exact h
  unfold Ah M.bind Un at h
  rw[if_neg (by omega)] at h
  cases h
 rw[JN b] at h
 split at h
 · split at h
   · rename_i n' a
     cases h
     exact I6 a
   cases h
 cases h
theorem PK{p:Int}{s s':TS}{n:Nd}(h:Ah p s= .ok n s'):many n≤12:=(Hu (Et h)).1
theorem MS{f:Nat}{a b:BJ}{s s':TS}{r:List Kd×Int}(h:Cu Ah Al f a b s= .ok r s'):r.1.length≤2:=Ki (fun _ _ _ _ h=>PK h) f a b s r s' h
theorem AJ.left{A B:Ab}{v:Value}{n:Nd}(h:AJ A v n):AJ (A*B) v n:=by
 obtain ⟨b,vK,e,h1,a⟩:=h
 exact ⟨b,vK,e,Aj.left h1,Aj.left a⟩
theorem AJ.right{A B:Ab}{v:Value}{n:Nd}(h:AJ B v n):AJ (A*B) v n:=by
 obtain ⟨b,vK,e,h1,a⟩:=h
 exact ⟨b,vK,e,Aj.right h1,Aj.right a⟩
theorem dK{A R R':Ab}{w:World}[h:AV A w](X Y:Ab)[t:Take A X R][t':Take R Y R']:Sat (X*Y*R') w:=(h.out.NK X Y).eq (Ax _ _ _).symm
theorem Z9{x y:Nd}(hx:may x=true)(hy:may y=true)(hl:x.leaf=y.leaf):Pure (both x y):=by
 have h1:=(Hu hx).2
 have a:=(Hu hy).2
 unfold Pure at h1 a⊢
 rw[Fs]
 rw[←hl] at a
 show _=if x.leaf then _ else _
 unfold both
 cases b:x.leaf with
 |true=>rw[b] at h1 a;simp only[if_true] at h1 a⊢;rw[List.length_append];omega
 |false=>rw[b] at h1 a;simp only[Bool.false_eq_true,if_false] at h1 a⊢;rw[List.length_append];omega
def X5(r:List Kd×Int)(v:Value)(B:Ab):Prop:= ∃a,v= .tuple #[a,.int .i64 r.2]∧AS B a r.1
def O'(f:Nat):Prop:= ∀(h:Th)(s:TS)(a b:BJ)(F:Ab)(w:World),Sat (Ad h s*F) w→ -1≤a.Am→a.Am≤1000→ -1≤b.Am→b.Am≤1000→Cu Ah Al f a b s≠ .bad→
 Calls Tryz.prog 145 #[.pointer (some ⟨h.t,0,none⟩),Bj a,Bj b] w (DT h F (Cu Ah Al f a b s) X5)
theorem Zu(f:Nat)(h:Th)(s:TS)(a b:BJ)(F:Ab)(w:World)(hs:Sat (Ad h s*F) w)(D:a.Am=b.Am)(hb:Cu Ah Al (f+1) a b s≠ .bad):
 Calls Tryz.prog 145 #[.pointer (some ⟨h.t,0,none⟩),Bj a,Bj b] w (DT h F (Cu Ah Al (f+1) a b s) X5):=by
 obtain ⟨⟨u,O,P,Q⟩,c⟩:=a
 obtain ⟨⟨o,b2,T,U⟩,bh⟩:=b
 simp only at D
 subst D
 obtain ⟨R,B⟩:=Aq (Cu Ah Al (f+1) ⟨⟨u,O,P,Q⟩,c⟩ ⟨⟨o,b2,T,U⟩,c⟩ s)
 rw[B] at hb⊢
 have p:Aside (R≠ .bad):=hb
 unfold Cu at B
 simp only[Int.lt_irrefl,if_false] at B
 have L:Aside (M.bind (Ah u) (fun x=>M.bind (Ah o) fun y=>if x.leaf=y.leaf then M.bind (B6 Al (both x y)) fun out=>M.pure (out,c) else M.bad) s=R):=B
 have c1:=fun F w q=>Cw h s u F w q (Bi L.out p.out)
 unfold Bj
 haveI:=hs.i
 clear hb B
 go_enter Tryz.func145,Tryz.ntmps145
 go_upto_region 10 with (fail)
 obtain ⟨N,hN⟩:=Aq w.heap.size
 have q0:Sat (Ad h s*(Sl.block (N+1) DH [.int .i64 o,.int .i64 b2,.int .i64 T,.int .i64 U,.int .i64 c]*(Sl.block N DH [.int .i64 u,.int .i64 O,.int .i64 P,.int .i64 Q,.int .i64 c]*F))) ((w.alloc (.cells #[.int .i64 u,.int .i64 O,.int .i64 P,.int .i64 Q,.int .i64 c] DH)).alloc (.cells #[.int .i64 o,.int .i64 b2,.int .i64 T,.int .i64 U,.int .i64 c] DH)):=by
  rw[←hN]
  exact Av (by ac_rfl)
 rw[hN]
 generalize (w.alloc (.cells #[.int .i64 u,.int .i64 O,.int .i64 P,.int .i64 Q,.int .i64 c] DH)).alloc (.cells #[.int .i64 o,.int .i64 b2,.int .i64 T,.int .i64 U,.int .i64 c] DH)=w0 at q0⊢
 clear hN hs this
 haveI:=q0.i
 go_region_law (first
  |(
   go_simp
   go_at_call 129
   with_reducible refine Calls.mono (c1 _ _ (Ae (Ad h s))) ?_
   rintro e w1 h1
   obtain ⟨r1,g⟩: ∃r,r=Ah u s:=⟨_,rfl⟩
   rw[←g] at h1
   rcases r1 with ⟨x,s1⟩|⟨er,s1⟩|_
   rotate_left
   ·obtain ⟨rfl,q1⟩:=h1
    haveI:=q1.i
    have d:=B4 L.out g.symm
    subst d
    exact ⟨rfl,rfl,Ao _ _⟩
   ·exact absurd (Cg L.out g.symm) p.out
   obtain ⟨v1,W,rfl,⟨hx,mx⟩,q1⟩:=h1
   haveI:=q1.i
   have G:=Be L.out g.symm
   have l:Aside (M.bind (Ah o) (fun y=>if x.leaf=y.leaf then M.bind (B6 Al (both x y)) fun out=>M.pure (out,c) else M.bad) s1=R):=G
   have c2:=fun F w q=>Cw h s1 o F w q (Bi l.out p.out)
   have z:Aside (AJ W v1 x∧may x=true):=⟨hx,mx⟩
   clear hx mx g G)
  |(
   go_simp
   go_at_call 129
   with_reducible refine Calls.mono (c2 _ _ (Ae (Ad h s1))) ?_
   rintro e w2 Z
   obtain ⟨r2,j⟩: ∃r,r=Ah o s1:=⟨_,rfl⟩
   rw[←j] at Z
   rcases r2 with ⟨y,s2⟩|⟨er,s2⟩|_
   rotate_left
   ·obtain ⟨rfl,q2⟩:=Z
    haveI:=q2.i
    have d:=B4 l.out j.symm
    subst d
    exact ⟨rfl,rfl,Ao _ _⟩
   ·exact absurd (Cg l.out j.symm) p.out
   obtain ⟨v2,X,rfl,⟨hy,V⟩,q2⟩:=Z
   haveI:=q2.i
   have H:=Be l.out j.symm
   have n:(if x.leaf=y.leaf then M.bind (B6 Al (both x y)) fun out=>M.pure (out,c) else M.bad) s2=R:=H
   have v:x.leaf=y.leaf:=Decidable.byContradiction fun hc=>p.out (by rw[←n,if_neg hc];rfl)
   rw[if_pos v] at n
   have m:Aside (M.bind (B6 Al (both x y)) (fun out=>M.pure (out,c)) s2=R):=n
   have Y:Aside (AJ X v2 y∧may y=true∧x.leaf=y.leaf):=⟨hy,V,v⟩
   have c3:=fun F w q=>Ow x y v1 v2 (W*X) F w (AJ.left z.out.1) (AJ.right hy) q (by have:=Cm z.out.2;omega) (by have:=Cm V;omega) (by have:=Cm z.out.2;omega) (by have:=Cm V;omega)
   clear hy V j n v H)
  |(
   go_simp
   go_at_call 169
   with_reducible refine Calls.mono (c3 _ _ (dK W X)) ?_
   rintro e w3 ⟨v3,G3,rfl,J,q3⟩
   haveI:=q3.i
   have c4:=fun F w q=>Gw h s2 (both x y) v3 G3 F w J q (Z9 z.out.2 Y.out.2.1 Y.out.2.2) (by have:=(Hu z.out.2).1;have:=(Hu Y.out.2.1).1;rw[Fs];omega) (Bi m.out p.out)
   clear J)
  |(
   go_simp
   go_at_call 137
   with_reducible refine Calls.mono (c4 _ _ (Bh (Ad h s2) G3)) ?_
   rintro e w4 h4
   obtain ⟨r4,k⟩: ∃r,r=B6 Al (both x y) s2:=⟨_,rfl⟩
   rw[←k] at h4
   rcases r4 with ⟨out,s4⟩|⟨er,s4⟩|_
   rotate_left
   ·obtain ⟨rfl,q4⟩:=h4
    haveI:=q4.i
    have d:=B4 m.out k.symm
    subst d
    exact ⟨rfl,rfl,Ao _ _⟩
   ·exact absurd (Cg m.out k.symm) p.out
   obtain ⟨v4,G4,rfl,K,q4⟩:=h4
   have a7:AS G4 v4 out:=K
   haveI:=q4.i
   have I:=Be m.out k.symm
   have a6:R= .ok (out,c) s4:=I.symm
   clear K k I))
 all_goals
  subst a6
  go_wp2
  go_ret2
  exact ⟨_,G4,rfl,⟨v4,rfl,a7⟩,AD _ _ _⟩
