/- treeFails holds for every input. No condition. (part 28) -/
import Derived.Test.YtfhbmblbidcmmaaGreatYa27
set_option linter.all false
set_option maxRecDepth 100000
set_option maxHeartbeats 3200000
namespace Go.Tr
theorem Pe{n:Nd}(h:may n=false):CU n=(0,[],1):=by
 unfold CU
 rw[if_pos h]
theorem Ns{n:Nd}(h:may n=true)(b:n.Ao.length≤12∧n.kids.length≤12): ∃k:Nat,(k=1∨k=2)∧(CU n).1=k∧(CU n).2.1.length≤244∧(CU n).2.2=0:=by
 have c: ∀l:List As,(l.flatMap eb).length=l.length*13:=fun l=>by
  induction l with
  |nil=>rfl
  |cons x l a=>rw[List.flatMap_cons,List.length_append,MG,a,List.length_cons];omega
 have d: ∀l:List Kd,(l.flatMap kb).length=l.length*16:=fun l=>by
  induction l with
  |nil=>rfl
  |cons x l a=>rw[List.flatMap_cons,List.length_append,MX,a,List.length_cons];omega
 unfold CU
 rw[if_neg (by rw[h];simp)]
 cases n.leaf with
 | true =>
   refine ⟨1,.inl rfl,rfl,?_,rfl⟩
   simp only[if_true,List.length_append,AB,c]
   omega
 | false =>
   refine ⟨2,.inr rfl,rfl,?_,rfl⟩
   simp only[Bool.false_eq_true,if_false,List.length_append,AB,d]
   omega
end Go.Tr
namespace Go.Proofs.YtfhbmblbidcmmaaGreat
open Go.RowKit Go.Sl Go.Dk Go.Tr
def H'(k:Kd)(v:Value)(B:Ac):Prop:=v=n0 k∧B=1
theorem TA(h:Th)(s:TS)(n:Nd)(v:Value)(B F:Ac)(w:World)(hN:AN B v n)(hs:Sat (Ad h s*(B*F)) w)(b0:n.Ao.length≤65536)(b1:n.kids.length≤65536)(hb:Ag n s≠ .bad):
 Calls Tryz.prog 165 #[.pointer (some ⟨h.t,0,none⟩),v] w (D4 h (B*F) (Ag n s) H'):=by
 have c:=fun F w q=>Tb n v B F w hN q (by omega) (by omega)
 have a9:=fun F w q=>L6 n v B F w hN q (by omega) (by omega)
 obtain ⟨hi,h2⟩:=Ek hs
 obtain ⟨vE,vK,rfl,hE,hK⟩:=id hN
 obtain ⟨aE,cE,rfl,aw,ax⟩:=hE.v
 obtain ⟨aK,cK,rfl,ay,az⟩:=hK.v
 have O:Aside (∀F w,Sat (B*F) w→Calls Tryz.prog 131 #[.agg #[.bool n.leaf,.slice aE n.Ao.length cE,.slice aK n.kids.length cK]] w fun e w'=>e= .returned (.tuple #[.int .i64 (Bl n).1,.int .i64 (Bl n).2.1,.int .i64 (Bl n).2.2])∧Sat (B*F) w'):=a9
 have h3:Sat (B*(AD h.C h.D s.ck*(BA h.S s.sp*(Sl.block h.t St [.pointer (some ⟨h.C,0,none⟩),.pointer (some ⟨h.S,0,none⟩)]*F)))) w:=h2.eq (by ac_rfl)
 haveI:=h3.i
 clear a9 hE hK hN h2
 cases hm:may n with
 | false =>
  have hr:Ag n s= .fault 13 s:=by
   unfold Ag
   rw[Pe hm,if_pos (by simp)]
   rfl
  rw[hr]
  rw[Pe hm] at c
  have W:Aside (Gt s):=hi
  clear hm hr hi hs hb
  go_enter Tryz.func165,Tryz.ntmps165
  go_wp2_with fail
  refine (c _ _ (Ae B)).mono ?_
  rintro e w1 ⟨a1,c1,rfl,I⟩
  haveI:=I.i
  clear c h3
  go_wp2
  refine ⟨rfl,?_⟩
  exact ⟨rfl,CM W.out (BL _ _ _ _ _)⟩
 | true =>
  have ho:s.ops<Bu:=by
   rcases Nat.lt_or_ge s.ops Bu with h|h
   · exact h
   refine absurd ?_ hb
   obtain ⟨k,_,_,_,K⟩:=Ns hm (Cl hm)
   unfold Ag M.bind F0
   rw[if_neg (by rw[K];simp),if_neg (by omega)]
   rfl
  obtain ⟨k,hk,XZ,Q,R⟩:=Ns hm (Cl hm)
  have hr:Ag n s=M.bind F0 (fun t=>M.bind (DQ (if t.2=9 then 7 else t.2)) fun _=>M.bind (DQ (CQ t.1 k (CU n).2.1).2) fun _=>M.bind (QR t.1 (CQ t.1 k (CU n).2.1).1) fun e=>M.bind (DQ e) fun _=>M.pure ⟨t.1,(Bl n).1,(Bl n).2.1,(Bl n).2.2⟩) s:=by
   conv=>lhs;unfold Ag
   rw[if_neg (by rw[R];simp),XZ]
  have d:=Ke h.S s.sp _ w (Ae (BA h.S s.sp)) hi.res.1 hi.res.2 (by have:=hi.taken;have:=hi.ops;unfold Bu at this;omega)
  have u:=hi.take ho
  have z:=hi.res
  have o:s.sp.taken.length≤1099511627776:=by have:=hi.taken;have:=hi.ops;unfold Bu at this;omega
  have a6:CU n=((k:Int),(CU n).2.1,0):=Prod.ext XZ (Prod.ext rfl R)
  rw[a6] at c
  clear a6
  obtain ⟨a,a4⟩: ∃b,(CU n).2.1=b:=⟨_,rfl⟩
  rw[a4] at c Q hr
  have HH:Aside (Sat (Ad h s*(B*F)) w):=hs
  obtain ⟨⟨sb,sl,ss⟩,L⟩: ∃r,Bl n=r:=⟨_,rfl⟩
  rw[L] at O hr
  simp only at O hr
  clear XZ R hm a4 L hs d
  cases hf:s.sp.free with
  | none =>
    have d:s.sp.take=((0,9),s.sp):=by unfold Sp.take;rw[hf]
    have G:Ag n s= .fault 7 ⟨s.ck,s.sp,s.ops+1⟩:=by
     rw[hr]
     unfold M.bind F0
     rw[if_pos ho,d]
     rfl
    rw[G]
    rw[d] at u
    have W:Aside (Gt ⟨s.ck,s.sp,s.ops+1⟩):=u
    have H:=fun F w q=>Ke h.S s.sp F w q z.1 z.2 o
    rw[d] at H
    have P:=Iv 7 (by omega)
    clear hr G d hf hi u hb z o
    go_enter Tryz.func165,Tryz.ntmps165
    go_wp2_with fail
    refine (c _ _ (Ae B)).mono ?_
    rintro e w1 ⟨a1,c1,rfl,I⟩
    haveI:=I.i
    clear c h3
    go_wp2_with fail
    refine (H _ _ (Ae (BA h.S s.sp))).mono ?_
    rintro e w2 ⟨rfl,V⟩
    haveI:=V.i
    clear H I
    go_wp2_with fail
    refine (P _).mono ?_
    rintro e w3 ⟨rfl,rfl⟩
    refine ⟨rfl,?_⟩
    exact ⟨rfl,CM W.out (BL _ _ _ _ _)⟩
  | some no =>
    have ai:0≤no∧no<1048576:=by
     obtain ⟨h1,h2,_⟩:=Sp.EO hf
     omega
    obtain ⟨m,rfl⟩: ∃m:Nat,no=m:=⟨no.toNat,by omega⟩
    have a7:CQ (m:Int) k a=(AF m k a,0):=by
     unfold CQ
     rw[if_neg (by omega),if_neg (by omega)]
     simp
    obtain ⟨J,U⟩: ∃x,s.sp.take.2=x:=⟨_,rfl⟩
    have d:s.sp.take=(((m:Int),0),J):=by rw[←U];unfold Sp.take;rw[hf]
    have G:Ag n s=if (s.ck.put m (AF m k a)).1=0 then .ok ⟨m,sb,sl,ss⟩ ⟨(s.ck.put m (AF m k a)).2,J,s.ops+2⟩ else .fault (s.ck.put m (AF m k a)).1 ⟨(s.ck.put m (AF m k a)).2,J,s.ops+2⟩:=by
     rw[hr]
     unfold M.bind F0 QR
     rw[if_pos ho,d]
     simp only[DR.bind,show¬((0:Int)=9) by omega,if_false,a7,DQ,if_true,M.pure]
     by_cases K:(s.ck.put m (AF m k a)).1=0<;>simp[K,M.fail,M.pure,DR.bind]
    rw[G]
    have y:=u.put m (AF m k a) (by simp only;omega)
    simp only[U] at u y
    have H:=fun F w q=>Ke h.S s.sp F w q z.1 z.2 o
    rw[d] at H
    simp only at H
    have T:=fun v B F w hB q=>Rx m k a v B F w hB q (by omega) (by omega) (by omega) Q
    have f:=fun v B F w hB q=>YI h.C h.D s.ck 137438953472 m v (AF m k a) B F w hB q hi.ok (by omega)
    have j:=Hw m k Q
    obtain ⟨p,hp⟩: ∃p,AF m k a=p:=⟨_,rfl⟩
    rw[hp] at T f y j⊢
    obtain ⟨⟨er,k2⟩,a8⟩: ∃r,s.ck.put m p=r:=⟨_,rfl⟩
    rw[a8] at f y⊢
    simp only at f y⊢
    have W:Aside (Gt ⟨k2,J,s.ops+2⟩):=y
    have hz:=OA
    have Z:Aside (∀g,Reads (Sl.block g 346 (A4 p)) (.slice (some ⟨g,0,none⟩) 256 256) p):=fun g=>by
     have:=Reads.MC (b:=g) (e:=346) (l:=p) (by rw[j];unfold maxLen;omega)
     rwa [j] at this
    have X:Aside (∀v B F w,Reads B v a→Sat (B*F) w→Calls Tryz.prog 194 #[.int .i64 m,.int .i64 k,v] w fun e w'=> ∃g,e= .returned (.tuple #[.slice (some ⟨g,0,none⟩) 256 256,.int .i64 0])∧Sat (Sl.block g 346 (A4 p)*(B*F)) w'):=T
    have Y:Aside (∀v B F w,Reads B v p→Sat (AD h.C h.D s.ck*(B*F)) w→Calls Tryz.prog 195 #[.pointer (some ⟨h.C,0,none⟩),.int .i64 m,v] w fun e w'=>e= .returned (.int .i64 er)∧Sat (AD h.C h.D k2*(B*F)) w'):=f
    clear hr G d hf hi u y hb z o hp a8 a7 T f j U ai
    by_cases K:er=0
    · subst K
      rw[if_pos rfl]
      go_enter Tryz.func165,Tryz.ntmps165
      go_wp2_with fail
      refine (c _ _ (Ae B)).mono ?_
      rintro e w1 ⟨a1,c1,rfl,I⟩
      haveI:=I.i
      clear c h3
      go_wp2_with fail
      refine (H _ _ (Ae (BA h.S s.sp))).mono ?_
      rintro e w2 ⟨rfl,V⟩
      haveI:=V.i
      clear H I
      go_wp2_with fail
      refine (hz _).mono ?_
      rintro e w3 ⟨rfl,rfl⟩
      go_wp2_with fail
      refine (X.out _ _ _ _ Reads.rw (Ae (rw TB 1 (.slice a1 a.length c1) (A4 a)))).mono ?_
      rintro e w4 ⟨g,rfl,q4⟩
      haveI:=q4.i
      clear V
      go_wp2_with fail
      refine (hz _).mono ?_
      rintro e w5 ⟨rfl,rfl⟩
      go_wp2_with fail
      refine (Y.out _ _ _ _ (Z.out g) (AY (AD h.C h.D s.ck) (Sl.block g 346 (A4 p)))).mono ?_
      rintro e w6 ⟨rfl,q6⟩
      haveI:=q6.i
      clear q4
      go_wp2_with fail
      refine (hz _).mono ?_
      rintro e w7 ⟨rfl,rfl⟩
      go_wp2_with fail
      refine (O.out _ _ (Ae B)).mono ?_
      rintro e w8 ⟨rfl,q8⟩
      haveI:=q8.i
      clear q6
      go_wp2
      go_returns
      exact ⟨_,1,rfl,⟨rfl,rfl⟩,by rw[Am];exact CM W.out (BL _ _ _ _ _)⟩
    rw[if_neg K]
    have P:=Iv er K
    clear K
    go_enter Tryz.func165,Tryz.ntmps165
    go_wp2_with fail
    refine (c _ _ (Ae B)).mono ?_
    rintro e w1 ⟨a1,c1,rfl,I⟩
    haveI:=I.i
    clear c h3
    go_wp2_with fail
    refine (H _ _ (Ae (BA h.S s.sp))).mono ?_
    rintro e w2 ⟨rfl,V⟩
    haveI:=V.i
    clear H I
    go_wp2_with fail
    refine (hz _).mono ?_
    rintro e w3 ⟨rfl,rfl⟩
    go_wp2_with fail
    refine (X.out _ _ _ _ Reads.rw (Ae (rw TB 1 (.slice a1 a.length c1) (A4 a)))).mono ?_
    rintro e w4 ⟨g,rfl,q4⟩
    haveI:=q4.i
    clear V
    go_wp2_with fail
    refine (hz _).mono ?_
    rintro e w5 ⟨rfl,rfl⟩
    go_wp2_with fail
    refine (Y.out _ _ _ _ (Z.out g) (AY (AD h.C h.D s.ck) (Sl.block g 346 (A4 p)))).mono ?_
    rintro e w6 ⟨rfl,q6⟩
    haveI:=q6.i
    clear q4
    go_wp2_with fail
    refine (P _).mono ?_
    rintro e w7 ⟨rfl,rfl⟩
    refine ⟨rfl,?_⟩
    exact ⟨rfl,CM W.out (BL _ _ _ _ _)⟩
end Go.Proofs.YtfhbmblbidcmmaaGreat
namespace Go.Tr
def Mn(m p i:Nat):Nat:=i*(m/p)+min i (m%p)
theorem UF(m p i:Nat):Mn m p (i+1)=Mn m p i+(m/p+if i<m%p then 1 else 0):=by
 unfold Mn
 rw[Nat.add_mul,Nat.one_mul]
 split<;>omega
theorem Yn(m p i:Nat)(h:i≤p):Mn m p i≤m:=by
 have a:p*(m/p)+m%p=m:=Nat.div_add_mod m p
 have b:i*(m/p)≤p*(m/p):=Nat.mul_le_mul_right _ h
 unfold Mn
 omega
theorem IV{σ:Type}{wt:Nd→M σ Kd}{n:Nd}{Bc:Nat} : ∀(c i at_:Nat)(out ks:List Kd)(s s':σ),Ci wt n Bc c i at_ out s= .ok ks s'→ks.length=out.length+c
 |0,i,at_,out,ks,s,s',h=>by cases h;rfl
 | c + 1, i, at_, out, ks, s, s', h => by
  unfold Ci M.bind DR.bind at h
  split at h
  ·have:=IV c _ _ _ _ _ _ h
   rw[this,List.length_append]
   simp
   omega
  ·cases h
  cases h
theorem Eo{σ:Type}{wt:Nd→M σ Kd}{n:Nd}{ks:List Kd}{s s':σ}(h:Bt wt n s= .ok ks s'):ks.length=(many n+11)/12:=by
 have:=IV _ _ _ _ _ _ _ h
 simpa[AV] using this
end Go.Tr
namespace Go.Proofs.YtfhbmblbidcmmaaGreat
open Go.RowKit Go.Sl Go.Dk Go.Tr
def I'(ks:List Kd)(v:Value)(B:Ac):Prop:=B1 B v ks
def Pure(n:Nd):Prop:=many n=if n.leaf then n.Ao.length else n.kids.length
theorem FY(h:Th)(s:TS)(n:Nd)(v:Value)(B F:Ac)(w:World)(hN:AN B v n)(hs:Sat (Ad h s*(B*F)) w)(hp:Pure n)(hm:many n≤65536)(hb:Bt Ag n s≠ .bad):
 Calls Tryz.prog 137 #[.pointer (some ⟨h.t,0,none⟩),v] w (D4 h (B*F) (Bt Ag n s) I'):=by
 obtain ⟨i0,E⟩:=MH
 have D:=fun F w q=>WX n v B F w hN q (by unfold many at hm;omega) (by unfold many at hm;omega)
 obtain ⟨vE,vK,rfl,hE,hK⟩:=id hN
 obtain ⟨aE,cE,rfl,f,ao⟩:=hE.v
 obtain ⟨aK,cK,rfl,b4,b5⟩:=hK.v
 obtain ⟨v,hv⟩: ∃v,Value.agg #[.bool n.leaf,.slice aE n.Ao.length cE,.slice aK n.kids.length cK]=v:=⟨_,rfl⟩
 have I:Aside (∀(i j:Nat) F w,i≤j→j≤many n→Sat (B*F) w→Calls Tryz.prog 166 #[.agg #[.bool n.leaf,.slice aE n.Ao.length cE,.slice aK n.kids.length cK],.int .i64 i,.int .i64 j] w fun e w'=> ∃v',e= .returned v'∧AN B v' (Cq n i j)∧Sat (B*F) w'):=
  fun i j F w h1 h2 q=>NS n i j _ B F w hN q h1 (by rw[←hp];exact h2)
 obtain ⟨m,Q⟩: ∃m,many n=m:=⟨_,rfl⟩
 rw[Q] at hm D I
 obtain ⟨p,aq⟩: ∃p,(m+11)/12=p:=⟨_,rfl⟩
 obtain ⟨R,hR⟩: ∃R,Bt Ag n s=R:=⟨_,rfl⟩
 have HR:Aside (Ci Ag n p p 0 0 [] s=R):=(by rw[←hR];unfold Bt AV;rw[Q,aq]:_=_)
 have HM:Aside (many n=m):=Q
 have HB:Aside (R≠ .bad):=(by rw[←hR];exact hb:_≠_)
 have b8:p≤5462:=by omega
 have aa:((m:Int)+12-1)/12=(p:Int):=by omega
 rw[hR]
 have h2:Sat (B*(Ad h s*F)) w:=hs.eq (by ac_rfl)
 haveI:=h2.i
 clear hE hK hN hs hb hR hp hv Q
 go_enter Tryz.func137,Tryz.ntmps137
 go_wp2_with fail
 refine (D _ _ (Ae B)).mono ?_
 rintro e w1 ⟨rfl,q1⟩
 haveI:=q1.i
 clear D h2
 go_wp2_with fail
 obtain ⟨N,hN⟩: ∃N,w.heap.size=N:=⟨_,rfl⟩
 rw[hN] at q1⊢
 clear hN
 have e0:=(Sat.Bj (e:=Oa) (s:=4) q1)
 simp only[aa]
 clear aa
 go_loopg [7,8,18] p (fun g t7 t8 au wr=> ∃(i:Nat)(a:Option Addr)(c:Nat)(out:List Kd)(s':TS),au= .int .i64 i∧t8= .int .i64 (Mn m p i:Nat)∧t7= .slice a i c∧i≤p∧out.length=i∧Aside (g=p-i∧Ci Ag n p (p-i) i (Mn m p i) out s'=R)∧
  Sat (rw Oa 4 (.slice a i c) (Ip out)*(Ad h s'*(B*(Sl.block N Ev [.bool n.leaf,.slice aE n.Ao.length cE,.slice aK n.kids.length cK]*F)))) wr)
 case atStart=>exact ⟨0,none,0,[],s,rfl,by simp[Mn],rfl,by omega,rfl,⟨rfl,by simpa[Mn] using HR.out⟩,e0.eq (by ac_rfl)⟩
 obtain ⟨i,a,c,out,s',rfl,rfl,rfl,hi,a2,A,J⟩:=hrel
 haveI:=J.i
 clear q1 e0
 by_cases b6:i<p
 · have ab:(i:Int)<p:=by omega
   have b7: ¬(p:Int)=0:=by omega
   obtain ⟨Z,f⟩: ∃x,m/p=x:=⟨_,rfl⟩
   have d1:(m:Int)/(p:Int)=(Z:Int):=by rw[←f];rfl
   have ao:Z≤65536:=by rw[←f];exact Nat.le_trans (Nat.div_le_self m p) hm
   have T:=UF m p i
   have ap:=Yn m p (i+1) (by omega)
   obtain ⟨pos,y⟩: ∃x,Mn m p i=x:=⟨_,rfl⟩
   simp only[y]
   rw[f] at T
   obtain ⟨sz,H⟩: ∃x,Z+(if i<m%p then 1 else 0)=x:=⟨_,rfl⟩
   rw[y,H] at T
   have L:Ci Ag n p (p-i) i pos out s'=M.bind (Ag (Cq n pos (pos+sz))) (fun k=>Ci Ag n p (p-(i+1)) (i+1) (pos+sz) (out++ [k])) s':=by
    rw[show p-i=(p-(i+1))+1 by omega]
    conv=>lhs;unfold Ci
    rw[HM.out,f,H]
   have z:=A.out.2
   rw[y,L] at z
   obtain ⟨r,hr⟩: ∃r,Ag (Cq n pos (pos+sz)) s'=r:=⟨_,rfl⟩
   have a3:=fun v B F w q1 O=>TA h s' (Cq n pos (pos+sz)) v B F w q1 O (by unfold Cq;split<;>simp[sub]<;>omega) (by unfold Cq;split<;>simp[sub]<;>omega)
   rw[hr] at a3
   have hcut:=fun F w q=>I.out pos (pos+sz) F w (by omega) (by omega) q
   have b9:pos+sz≤65536:=by omega
   clear ap
   unfold M.bind at z
   rw[hr] at z
   have a9:=A.out.1
   clear hr L I HR
   have P:Aside (∀(v:Value)(B F:Ac)(w:World),AN B v (Cq n pos (pos+sz))→Sat (Ad h s'*(B*F)) w→r≠ .bad→Calls Tryz.prog 165 #[.pointer (some ⟨h.t,0,none⟩),v] w (D4 h (B*F) r H')):=a3
   have o:Aside (Z+(if i<m%p then 1 else 0)=sz):=H
   have HA:Aside (pos=Mn m p i∧gk=p-i∧out.length=i):=⟨y.symm,a9,a2⟩
   have HX:Aside (Mn m p (i+1)=pos+sz):=T
   clear a3 a9 A y T a2
   cases r with
   |bad=>exact absurd z.symm HB.out
   | ok k s2 =>
     have K:DR.ok k s2≠ .bad:=by simp
     have HC:Aside (Ci Ag n p (p-(i+1)) (i+1) (pos+sz) (out++ [k]) s2=R):=z
     clear z
     by_cases d:i<m%p
     ·have G:(i:Int)<(m:Int)%(p:Int):=by exact_mod_cast d
      have hq:Z+1=sz:=by rw[←o.out,if_pos d]
      subst hq
      clear H o HB HM f
      rw[Int.natCast_add,Int.natCast_add,Int.natCast_one] at hcut
      go_wp2_with fail
      refine (hcut _ _ (Ae B)).mono ?_
      rintro e w2 ⟨vc,rfl,l,O⟩
      haveI:=O.i
      clear hcut J
      go_wp2_with fail
      with_reducible refine Calls.mono (P.out _ B _ _ l (AY (Ad h s') B) K) ?_
      rintro e w3 ⟨v3,G3,rfl,⟨rfl,rfl⟩,Y⟩
      rw[Am] at Y
      haveI:=Y.i
      clear O l
      obtain ⟨U,V,W,X⟩:=k
      unfold n0
      simp only[]
      have a0:Aside (Ip (out++ [⟨U,V,W,X⟩])=Ip out++ [.int .i64 U,.int .i64 V,.int .i64 W,.int .i64 X]):=(by simp[Ip,QM]:_=_)
      go_wp2_with (at_builtin;refine Aj E rfl (.tmp 31) (.tmp 40) rfl rfl rfl (Ae (rw Oa 4 (.slice a i c) (Ip out))) (Src.new (b:=w3.heap.size) (e:=Oa) (s:=4) (vs:= [.int .i64 U,.int .i64 V,.int .i64 W,.int .i64 X]) (Ae _) rfl (by intro u hu;simp at hu;rcases hu with rfl|rfl|rfl|rfl<;>rfl)) (by unfold maxLen;omega) (by omega) ?_;intro a4 c4 w4 q4 z4;clear z4;haveI:=q4.i)
      go_roundg (p-(i+1))
      case measure=>have:=HA.out.2.1;omega
      refine ⟨i+1,a4,c4,out++ [⟨U,V,W,X⟩],s2,by go_num,?_,rfl,by omega,by rw[List.length_append,HA.out.2.2];rfl,⟨rfl,by rw[HX.out];exact HC.out⟩,?_⟩
      ·rw[HX.out];go_num
      rw[a0.out]
      exact BL _ _ _ _ _
     have G: ¬(i:Int)<(m:Int)%(p:Int):=by exact_mod_cast d
     have hq:Z=sz:=by rw[←o.out,if_neg d];rfl
     subst hq
     clear H o HB HM f
     rw[Int.natCast_add] at hcut
     go_wp2_with fail
     refine (hcut _ _ (Ae B)).mono ?_
     rintro e w2 ⟨vc,rfl,l,O⟩
     haveI:=O.i
     clear hcut J
     go_wp2_with fail
     with_reducible refine Calls.mono (P.out _ B _ _ l (AY (Ad h s') B) K) ?_
     rintro e w3 ⟨v3,G3,rfl,⟨rfl,rfl⟩,Y⟩
     rw[Am] at Y
     haveI:=Y.i
     clear O l
     obtain ⟨U,V,W,X⟩:=k
     unfold n0
     simp only[]
     have a0:Aside (Ip (out++ [⟨U,V,W,X⟩])=Ip out++ [.int .i64 U,.int .i64 V,.int .i64 W,.int .i64 X]):=(by simp[Ip,QM]:_=_)
     go_wp2_with (at_builtin;refine Aj E rfl (.tmp 31) (.tmp 40) rfl rfl rfl (Ae (rw Oa 4 (.slice a i c) (Ip out))) (Src.new (b:=w3.heap.size) (e:=Oa) (s:=4) (vs:= [.int .i64 U,.int .i64 V,.int .i64 W,.int .i64 X]) (Ae _) rfl (by intro u hu;simp at hu;rcases hu with rfl|rfl|rfl|rfl<;>rfl)) (by unfold maxLen;omega) (by omega) ?_;intro a4 c4 w4 q4 z4;clear z4;haveI:=q4.i)
     go_roundg (p-(i+1))
     case measure=>have:=HA.out.2.1;omega
     refine ⟨i+1,a4,c4,out++ [⟨U,V,W,X⟩],s2,by go_num,?_,rfl,by omega,by rw[List.length_append,HA.out.2.2];rfl,⟨rfl,by rw[HX.out];exact HC.out⟩,?_⟩
     ·rw[HX.out];go_num
     rw[a0.out]
     exact BL _ _ _ _ _
   | fault er s2 =>
     have K:(DR.fault er s2:DR TS Kd)≠ .bad:=by simp
     subst z
     by_cases d:i<m%p
     ·have G:(i:Int)<(m:Int)%(p:Int):=by exact_mod_cast d
      have hq:Z+1=sz:=by rw[←o.out,if_pos d]
      subst hq
      clear H o HB HM f
      rw[Int.natCast_add,Int.natCast_add,Int.natCast_one] at hcut
      go_wp2_with fail
      refine (hcut _ _ (Ae B)).mono ?_
      rintro e w2 ⟨vc,rfl,l,O⟩
      haveI:=O.i
      clear hcut J
      go_wp2_with fail
      with_reducible refine Calls.mono (P.out _ B _ _ l (AY (Ad h s') B) K) ?_
      rintro e w3 ⟨rfl,Y⟩
      haveI:=Y.i
      exact ⟨rfl,rfl,AR _ _ _⟩
     have G: ¬(i:Int)<(m:Int)%(p:Int):=by exact_mod_cast d
     have hq:Z=sz:=by rw[←o.out,if_neg d];rfl
     subst hq
     clear H o HB HM f
     rw[Int.natCast_add] at hcut
     go_wp2_with fail
     refine (hcut _ _ (Ae B)).mono ?_
     rintro e w2 ⟨vc,rfl,l,O⟩
     haveI:=O.i
     clear hcut J
     go_wp2_with fail
     with_reducible refine Calls.mono (P.out _ B _ _ l (AY (Ad h s') B) K) ?_
     rintro e w3 ⟨rfl,Y⟩
     haveI:=Y.i
     exact ⟨rfl,rfl,AR _ _ _⟩
 have ab: ¬(i:Int)<p:=by omega
 obtain rfl:i=p:=by omega
 have hR:R= .ok out s':=by
  rw[←A.out.2,Nat.sub_self]
  rfl
 subst hR
 subst a2
 clear A I HR HB HM
 go_wp2
 go_returns
 exact ⟨_,rw Oa 4 (.slice a out.length c) (Ip out),rfl,Al.rw J ⟨a,c,rfl⟩,Dv _ _ _ _⟩
end Go.Proofs.YtfhbmblbidcmmaaGreat
namespace Go.Tr
theorem Sd{σ:Type}{wt:Nd→M σ Kd}{l:List Kd}(h:1<l.length)(c:Int)(s:σ):DS wt 0 l c s= .bad:=by
 match l,h with
 |a::b::t,_=>rfl
theorem Sc{σ:Type}{wt:Nd→M σ Kd}{l:List Kd}(h:1<l.length)(f:Nat)(c:Int):DS wt (f+1) l c=M.bind (Bt wt ⟨false,[],l⟩) fun ks=>DS wt f ks (c+1):=by
 match l,h with
 |a::b::t,_=>rfl
end Go.Tr
namespace Go.Proofs.YtfhbmblbidcmmaaGreat
open Go.RowKit Go.Sl Go.Dk Go.Tr
def J0(x:BH)(v:Value)(B:Ac):Prop:=v=AH x∧B=1
theorem V5(ks:List Kd):Pure ⟨false,[],ks⟩:=by unfold Pure many;simp
theorem V4(l:List As):Pure ⟨true,l,[]⟩:=by unfold Pure many;simp
theorem IJ{B:Ac}{v:Value}{ks:List Kd}(h:B1 B v ks):AN B (.agg #[.bool false,.slice none 0 0,v]) ⟨false,[],ks⟩:=⟨_,_,rfl,Al.nil 4 _,h⟩
theorem RH{B:Ac}{v:Value}{l:List As}(h:Aq B v l):AN B (.agg #[.bool true,v,.slice none 0 0]) ⟨true,l,[]⟩:=⟨_,_,rfl,h,Al.nil 4 _⟩
theorem Lw(h:Th)(s:TS)(ks:List Kd)(H:Int)(v:Value)(B F:Ac)(w:World)(U:B1 B v ks)(hs:Sat (Ad h s*(B*F)) w)(hl:ks.length≤65536)(h1: -1048576≤H)(h2:H≤1048576)(hb:grown Ag ks H s≠ .bad):
 Calls Tryz.prog 136 #[.pointer (some ⟨h.t,0,none⟩),v,.int .i64 H] w (D4 h (B*F) (grown Ag ks H s) J0):=by
 obtain ⟨a0,c0,rfl,ae,af⟩:=U.v
 obtain ⟨R,z⟩: ∃R,grown Ag ks H s=R:=⟨_,rfl⟩
 have HR:Aside (DS Ag ks.length ks H s=R):=z
 have P:Aside (R≠ .bad):=(by rw[←z];exact hb:_≠_)
 have Z:Aside (B1 (1*B) (.slice a0 ks.length c0) ks):=U.right
 rw[z]
 have q0:Sat (Ad h s*((1*B)*F)) w:=by rw[Am];exact hs
 haveI:=q0.i
 clear hb z U hs
 go_enter Tryz.func136,Tryz.ntmps136
 go_wp2
 have O:Sat (Ad h s*((1*B)*(Sl.block w.heap.size CG [.int .i64 0,.int .i64 0,.int .i64 0,.int .i64 0,.int .i64 0]*F))) (w.alloc (.cells #[.int .i64 0,.int .i64 0,.int .i64 0,.int .i64 0,.int .i64 0] CG)):=A8 (by ac_rfl)
 obtain ⟨N,hN⟩: ∃N,w.heap.size=N:=⟨_,rfl⟩
 rw[hN] at O⊢
 clear hN q0 this
 go_loopg [1,2] ks.length (fun g t1 t2 wr=> ∃(l:List Kd)(p:Int)(f:Nat)(a:Option Addr)(c:Nat)(G:Ac)(s':TS),t1= .slice a l.length c∧t2= .int .i64 p∧l.length≤65536∧ -1048576≤p∧p+f≤2097152∧Aside (g=f∧DS Ag f l p s'=R)∧Aside (B1 (G*B) (.slice a l.length c) l)∧
  Sat (Ad h s'*((G*B)*(Sl.block N CG [.int .i64 0,.int .i64 0,.int .i64 0,.int .i64 0,.int .i64 0]*F))) wr)
 case atStart=>exact ⟨ks,H,ks.length,a0,c0,1,s,rfl,rfl,hl,h1,by omega,⟨rfl,HR.out⟩,Z,O⟩
 obtain ⟨l,p,f,a,c,G,s',rfl,rfl,ak,ai,aj,A,Q,d⟩:=hrel
 clear O HR Z
 by_cases o:1<l.length
 · have D:(1:Int)<l.length:=by omega
   obtain ⟨y,rfl⟩: ∃y,f=y+1:=by
    cases f with
    |zero=>exact absurd ((Sd o p s').symm.trans A.out.2).symm P.out
    |succ y=>exact ⟨y,rfl⟩
   have j:=A.out.2
   have K:=A.out.1
   rw[Sc o] at j
   obtain ⟨r,hr⟩: ∃r,Bt Ag ⟨false,[],l⟩ s'=r:=⟨_,rfl⟩
   have u:=fun F w O=>FY h s' ⟨false,[],l⟩ _ (G*B) F w (IJ Q.out) O (V5 l) (by simp[many];omega)
   have n: ∀x s2,r= .ok x s2→x.length=(l.length+11)/12:=fun x s2 e=>by
    have:=Eo (hr.trans e)
    simpa[many] using this
   unfold M.bind at j
   rw[hr] at u j
   have HA:Aside (gk=y+1):=K
   clear hr A K
   cases r with
   |bad=>exact absurd j.symm P.out
   | ok m s2 =>
     have HC:Aside (DS Ag y m (p+1) s2=R):=j
     have V:=n m s2 rfl
     have W:m.length≤65536:=by omega
     have J:DR.ok m s2≠ .bad:=by simp
     haveI:=d.i
     clear j n V
     go_wp2_with fail
     with_reducible refine Calls.mono (u _ _ d J) ?_
     rintro e w2 ⟨v2,Y,rfl,I,X⟩
     obtain ⟨a2,c2,rfl,ag,ah⟩:=Al.v I
     have T:Aside (B1 (Y*B) (.slice a2 m.length c2) m):=Al.left I
     clear d I u this
     go_wp2_with fail
     go_roundg y
     case measure=>have:=HA.out;omega
     refine ⟨m,p+1,y,a2,c2,Y,s2,rfl,by go_num,W,by omega,by omega,⟨rfl,HC.out⟩,T,?_⟩
     exact Sat.CR (B:=G) (X.eq (by ac_rfl))
   | fault er s2 =>
     subst j
     have J:(DR.fault er s2:DR TS (List Kd))≠ .bad:=by simp
     haveI:=d.i
     clear n
     go_wp2_with fail
     with_reducible refine Calls.mono (u _ _ d J) ?_
     rintro e w2 ⟨rfl,X⟩
     exact ⟨rfl,rfl,Sat.CR (B:=G*Sl.block N CG [.int .i64 0,.int .i64 0,.int .i64 0,.int .i64 0,.int .i64 0]) (X.eq (by ac_rfl))⟩
 have D: ¬(1:Int)<l.length:=by omega
 match l,o with
 | [],_=>
  have z:R= .ok Co s':=by rw[←A.out.2];cases f<;>rfl
  subst z
  have q3:Sat ((Ad h s'*(B*F))*(G*Sl.block N CG [.int .i64 0,.int .i64 0,.int .i64 0,.int .i64 0,.int .i64 0])) wr:=d.eq (by ac_rfl)
  have L:=KM _ wr q3
  have D: ¬(1:Int)<(([]:List Kd).length:Nat):=by simp
  haveI:=d.i
  clear A Q P d
  go_wp2_with fail
  refine L.mono ?_
  rintro e w2 ⟨rfl,q4⟩
  haveI:=q4.i
  clear L q3
  unfold AH Co D'
  go_wp2
  go_returns
  exact ⟨_,1,rfl,⟨rfl,rfl⟩,by rw[Am];exact AR _ _ _⟩
 | [k],_=>
  have z:R= .ok ⟨k,p⟩ s':=by rw[←A.out.2];cases f<;>rfl
  subst z
  obtain ⟨b,q,rfl,r1,r2,r3,r4⟩:=Dc Q.out (i:=0) (x:=k) rfl
  haveI:=d.i
  clear A Q P
  go_wp2
  go_returns
  exact ⟨_,1,rfl,⟨rfl,rfl⟩,by rw[Am];exact AR _ _ _⟩
 |a::b::t,o=>exact absurd (by simp) o
theorem FR(h:Th)(s:TS)(l:List As)(v:Value)(B F:Ac)(w:World)(q:Aq B v l)(hs:Sat (Ad h s*(B*F)) w)(hl:l.length≤65536)(hb:BO Ag l s≠ .bad):
 Calls Tryz.prog 84 #[.pointer (some ⟨h.t,0,none⟩),v] w (D4 h (B*F) (BO Ag l s) J0):=by
 obtain ⟨Q,U,rfl,J,K⟩:=q.v
 have c:=fun F w D=>FY h s ⟨true,l,[]⟩ _ B F w (RH q) D (V4 l) (by simp[many];omega)
 obtain ⟨R,d⟩: ∃R,BO Ag l s=R:=⟨_,rfl⟩
 rw[d] at hb⊢
 unfold BO M.bind at d
 obtain ⟨r,hr⟩: ∃r,Bt Ag ⟨true,l,[]⟩ s=r:=⟨_,rfl⟩
 have b: ∀x s2,r= .ok x s2→x.length=(l.length+11)/12:=fun x s2 e=>by
  have:=Eo (hr.trans e)
  simpa[many] using this
 rw[hr] at c d
 have p:Sat (B*(Ad h s*F)) w:=hs.eq (by ac_rfl)
 haveI:=p.i
 clear hr q hs
 cases r with
 |bad=>exact absurd d.symm hb
 | ok a s2 =>
   have y:=b a s2 rfl
   have z:a.length≤65536:=by omega
   have f:grown Ag a 0 s2=R:=d
   have u:=fun v B F w D m=>Lw h s2 a 0 v B F w D m z (by omega) (by omega) (by rw[f];exact hb)
   rw[f] at u
   have g:DR.ok a s2≠ .bad:=by simp
   have I:Aside (∀(v:Value)(B F:Ac)(w:World),B1 B v a→Sat (Ad h s2*(B*F)) w→Calls Tryz.prog 136 #[.pointer (some ⟨h.t,0,none⟩),v,.int .i64 0] w (D4 h (B*F) R J0)):=u
   clear u f d b y p
   go_enter Tryz.func84,Tryz.ntmps84
   go_wp2_with fail
   with_reducible refine Calls.mono (c _ _ (AY (Ad h s) B) g) ?_
   rintro e O ⟨L,o,rfl,j,m⟩
   have k:B1 o L a:=j
   obtain ⟨T,V,rfl,_,_⟩:=Al.v k
   haveI:=m.i
   clear c j
   go_wp2_with fail
   with_reducible refine Calls.mono (I.out _ o _ _ k (AY (Ad h s2) o)) ?_
   rintro e X H
   cases R with
   |bad=>exact absurd rfl hb
   | fault G s3 =>
    obtain ⟨rfl,n⟩:=H
    haveI:=n.i
    exact ⟨rfl,rfl,AR _ _ _⟩
   | ok x s3 =>
    obtain ⟨W,P,rfl,⟨rfl,rfl⟩,n⟩:=H
    rw[Am] at n
    haveI:=n.i
    unfold AH
    go_wp2
    go_returns
    exact ⟨_,1,rfl,⟨rfl,rfl⟩,by rw[Am];exact AR _ _ _⟩
 | fault G s2 =>
   have g:(DR.fault G s2:DR TS (List Kd))≠ .bad:=by simp
   subst d
   clear b p hb
   go_enter Tryz.func84,Tryz.ntmps84
   go_wp2_with fail
   with_reducible refine Calls.mono (c _ _ (AY (Ad h s) B) g) ?_
   rintro e O ⟨rfl,m⟩
   haveI:=m.i
   exact ⟨rfl,rfl,AR _ _ _⟩
theorem KP(h:Th)(s:TS)(ks:List Kd)(a:Int)(v:Value)(B F:Ac)(w:World)(d:B1 B v ks)(hs:Sat (Ad h s*(B*F)) w)(hl:ks.length≤65536)(y: -1048000≤a)(c:a≤1048576)(hb:CE Ag ks a s≠ .bad):
 Calls Tryz.prog 144 #[.pointer (some ⟨h.t,0,none⟩),v,.int .i64 a] w (D4 h (B*F) (CE Ag ks a s) J0):=by
 unfold CE at hb⊢
 have j:=fun B F w p q=>Lw h s ks (a-1) v B F w p q hl (by omega) (by omega) hb
 obtain ⟨R,g⟩: ∃R,grown Ag ks (a-1) s=R:=⟨_,rfl⟩
 rw[g] at j hb⊢
 obtain ⟨l,m,rfl,n,o⟩:=d.v
 have c:Sat (B*(Ad h s*F)) w:=hs.eq (by ac_rfl)
 haveI:=c.i
 have k:Aside (B1 B (.slice l ks.length m) ks):=d
 clear g d hs c
 go_enter Tryz.func144,Tryz.ntmps144
 go_wp2_with fail
 with_reducible refine Calls.mono (j B _ _ k.out (AY (Ad h s) B)) ?_
 rintro e D f
 cases R with
 |bad=>exact absurd rfl hb
 | fault u s3 =>
  obtain ⟨rfl,b⟩:=f
  haveI:=b.i
  exact ⟨rfl,rfl,AR _ _ _⟩
 | ok x s3 =>
  obtain ⟨z,r,rfl,⟨rfl,rfl⟩,b⟩:=f
  rw[Am] at b
  haveI:=b.i
  unfold AH
  go_wp2
  go_returns
  exact ⟨_,1,rfl,⟨rfl,rfl⟩,by rw[Am];exact AR _ _ _⟩
end Go.Proofs.YtfhbmblbidcmmaaGreat
namespace Go.Tr
section
variable {σ α β:Type}
theorem AK{m:M σ α}{f:α→M σ β}{s:σ}{R:DR σ β}(h:M.bind m f s=R)(hb:R≠ .bad):m s≠ .bad:=fun e=>hb (by
 rw[←h]
 unfold M.bind
 rw[e]
 rfl)
theorem AJ{m:M σ α}{f:α→M σ β}{s s':σ}{a:α}{R:DR σ β}(h:M.bind m f s=R)(hm:m s= .ok a s'):f a s'=R:=by
 rw[←h]
 unfold M.bind
 rw[hm]
 rfl
theorem AL{m:M σ α}{f:α→M σ β}{s s':σ}{e:Int}{R:DR σ β}(h:M.bind m f s=R)(hm:m s= .fault e s'):R= .fault e s':=by
 rw[←h]
 unfold M.bind
 rw[hm]
 rfl
theorem B3{m:M σ α}{f:α→M σ β}{s:σ}{R:DR σ β}(h:M.bind m f s=R)(hm:m s= .bad):R= .bad:=by
 rw[←h]
 unfold M.bind
 rw[hm]
 rfl
theorem Aw{m:M σ α}{f:α→M σ β}{s s2:σ}{b:β}(h:M.bind m f s= .ok b s2): ∃a s1,m s= .ok a s1∧f a s1= .ok b s2:=by
 unfold M.bind at h
 cases hm:m s with
 |ok a s1=>rw[hm] at h;exact ⟨a,s1,rfl,h⟩
 |fault e s1=>rw[hm] at h;cases h
 |bad=>rw[hm] at h;cases h
end
theorem EL(a b:Nd):many (both a b)=many a+many b:=by simp[many,both];omega
theorem Jr{σ : Type}{rd : Int → M σ Nd}{wt : Nd → M σ Kd}(d : ∀ p s n s', rd p s = .ok n s' → many n ≤ 12) :
 ∀(f:Nat)(a b:BH)(s:σ)(r:List Kd×Int)(s':σ),Cd rd wt f a b s= .ok r s'→r.1.length≤2
 |0,a,b,s,r,s',h=>by cases h
 | f + 1, a, b, s, r, s', h => by
  unfold Cd at h
  split at h
  ·obtain ⟨x,s1,g,h⟩:=Aw h
   cases e:x.kids.getLast? with
   |none=>simp only[e] at h;cases h
   | some z =>
    simp only[e] at h
    by_cases c:x.leaf=true
    · rw[if_pos c] at h;cases h
    rw[if_neg c] at h
    obtain ⟨q,s2,i,h⟩:=Aw h
    obtain ⟨o,s3,j,h⟩:=Aw h
    cases h
    have k:=Jr d f _ _ _ _ _ i
    have hx:=d _ _ _ _ g
    rw[Eo j,EL]
    have:many (Cq x 0 (x.kids.length-1))≤11:=by
     unfold Cq
     rw[if_neg c]
     unfold many at hx⊢
     simp[sub]
     omega
    have:many (⟨false,[],q.1⟩:Nd)=q.1.length:=by simp[many]
    omega
  split at h
  ·obtain ⟨x,s1,g,h⟩:=Aw h
   cases e:x.kids with
   |nil=>simp only[e] at h;cases h
   | cons z zs =>
    simp only[e] at h
    by_cases c:x.leaf=true
    · rw[if_pos c] at h;cases h
    rw[if_neg c,←e] at h
    obtain ⟨q,s2,i,h⟩:=Aw h
    obtain ⟨o,s3,j,h⟩:=Aw h
    cases h
    have k:=Jr d f _ _ _ _ _ i
    have hx:=d _ _ _ _ g
    rw[Eo j,EL]
    have:many (Cq x 1 x.kids.length)≤11:=by
     unfold Cq
     rw[if_neg c]
     unfold many at hx⊢
     simp[sub]
     omega
    have:many (⟨false,[],q.1⟩:Nd)=q.1.length:=by simp[many]
    omega
  obtain ⟨x,s1,g,h⟩:=Aw h
  obtain ⟨y,s2,i,h⟩:=Aw h
  by_cases c:x.leaf=y.leaf
  ·rw[if_pos c] at h
   obtain ⟨o,s3,j,h⟩:=Aw h
   cases h
   have hx:=d _ _ _ _ g
   have hy:=d _ _ _ _ i
   rw[Eo j,EL]
   omega
  rw[if_neg c] at h
  cases h
end Go.Tr
namespace Go.Proofs.YtfhbmblbidcmmaaGreat
open Go.RowKit Go.Sl Go.Dk Go.Tr
theorem GM{n:Nd}(h:may n=true):many n≤12∧Pure n:=by
 obtain ⟨b,c⟩:=Db h
 obtain ⟨d,e⟩:=Cl h
 unfold Pure many
 cases hl:n.leaf with
 | true =>
  have:n.kids= []:=by
   cases a:n.kids with
   |nil=>rfl
   | cons k l =>
    have:=(c k (by rw[a];simp)).1
    rw[hl] at this;cases this
  rw[this]
  exact ⟨by simp;omega,by simp⟩
 | false =>
  have:n.Ao= []:=by
   cases a:n.Ao with
   |nil=>rfl
   | cons k l =>
    have:=(b k (by rw[a];simp)).1
    rw[hl] at this;cases this
  rw[this]
  exact ⟨by simp;omega,by simp⟩
theorem C6{p:Int}{s s':TS}{n:Nd}(h:Ah p s= .ok n s'):may n=true:=by
 have b:s.ops<Bu:=by
  rcases Nat.lt_or_ge s.ops Bu with h|c
  · exact h
  unfold Ah M.bind Mo at h
  rw[if_neg (by omega)] at h
  cases h
 rw[FZ b] at h
 split at h
 · split at h
   · rename_i n' a
     cases h
     exact Nw a
   cases h
 cases h
theorem Kf{p:Int}{s s':TS}{n:Nd}(h:Ah p s= .ok n s'):many n≤12:=(GM (C6 h)).1
theorem LK{f:Nat}{a b:BH}{s s':TS}{r:List Kd×Int}(h:Cd Ah Ag f a b s= .ok r s'):r.1.length≤2:=Jr (fun _ _ _ _ h=>Kf h) f a b s r s' h
theorem AN.left{A B:Ac}{v:Value}{n:Nd}(h:AN A v n):AN (A*B) v n:=by
 obtain ⟨c,d,e,a,b⟩:=h
 exact ⟨c,d,e,Al.left a,Al.left b⟩
theorem AN.right{A B:Ac}{v:Value}{n:Nd}(h:AN B v n):AN (A*B) v n:=by
 obtain ⟨c,d,e,a,b⟩:=h
 exact ⟨c,d,e,Al.right a,Al.right b⟩
theorem XN{A R R':Ac}{w:World}[h:BG A w](X Y:Ac)[t:Take A X R][t':Take R Y R']:Sat (X*Y*R') w:=(h.out.Mh X Y).eq (Ar _ _ _).symm
theorem V2{x y:Nd}(hx:may x=true)(hy:may y=true)(hl:x.leaf=y.leaf):Pure (both x y):=by
 have b:=(GM hx).2
 have a:=(GM hy).2
 unfold Pure at b a⊢
 rw[EL]
 rw[←hl] at a
 show _=if x.leaf then _ else _
 unfold both
 cases c:x.leaf with
 |true=>rw[c] at b a;simp only[if_true] at b a⊢;rw[List.length_append];omega
 |false=>rw[c] at b a;simp only[Bool.false_eq_true,if_false] at b a⊢;rw[List.length_append];omega
def TQ(r:List Kd×Int)(v:Value)(B:Ac):Prop:= ∃a,v= .tuple #[a,.int .i64 r.2]∧B1 B a r.1
def VY(f:Nat):Prop:= ∀(h:Th)(s:TS)(a b:BH)(F:Ac)(w:World),Sat (Ad h s*F) w→ -1≤a.An→a.An≤1000→ -1≤b.An→b.An≤1000→Cd Ah Ag f a b s≠ .bad→
 Calls Tryz.prog 145 #[.pointer (some ⟨h.t,0,none⟩),AH a,AH b] w (D4 h F (Cd Ah Ag f a b s) TQ)
theorem Vq(f:Nat)(h:Th)(s:TS)(a b:BH)(F:Ac)(w:World)(hs:Sat (Ad h s*F) w)(D:a.An=b.An)(hb:Cd Ah Ag (f+1) a b s≠ .bad):
 Calls Tryz.prog 145 #[.pointer (some ⟨h.t,0,none⟩),AH a,AH b] w (D4 h F (Cd Ah Ag (f+1) a b s) TQ):=by
 obtain ⟨⟨u,O,P,Q⟩,c⟩:=a
 obtain ⟨⟨o,b2,T,U⟩,bh⟩:=b
 simp only at D
 subst D
 obtain ⟨R,B⟩: ∃R,Cd Ah Ag (f+1) ⟨⟨u,O,P,Q⟩,c⟩ ⟨⟨o,b2,T,U⟩,c⟩ s=R:=⟨_,rfl⟩
 rw[B] at hb⊢
 have p:Aside (R≠ .bad):=hb
 unfold Cd at B
 simp only[Int.lt_irrefl,if_false] at B
 have L:Aside (M.bind (Ah u) (fun x=>M.bind (Ah o) fun y=>if x.leaf=y.leaf then M.bind (Bt Ag (both x y)) fun out=>M.pure (out,c) else M.bad) s=R):=B
 have c1:=fun F w q=>C7 h s u F w q (AK L.out p.out)
 unfold AH
 haveI:=hs.i
 clear hb B
 go_enter Tryz.func145,Tryz.ntmps145
 go_upto_region 10 with (fail)
 obtain ⟨N,hN⟩: ∃N,w.heap.size=N:=⟨_,rfl⟩
 have q0:Sat (Ad h s*(Sl.block (N+1) CG [.int .i64 o,.int .i64 b2,.int .i64 T,.int .i64 U,.int .i64 c]*(Sl.block N CG [.int .i64 u,.int .i64 O,.int .i64 P,.int .i64 Q,.int .i64 c]*F))) ((w.alloc (.cells #[.int .i64 u,.int .i64 O,.int .i64 P,.int .i64 Q,.int .i64 c] CG)).alloc (.cells #[.int .i64 o,.int .i64 b2,.int .i64 T,.int .i64 U,.int .i64 c] CG)):=by
  rw[←hN]
  exact A8 (by ac_rfl)
 rw[hN]
 generalize (w.alloc (.cells #[.int .i64 u,.int .i64 O,.int .i64 P,.int .i64 Q,.int .i64 c] CG)).alloc (.cells #[.int .i64 o,.int .i64 b2,.int .i64 T,.int .i64 U,.int .i64 c] CG)=w0 at q0⊢
 clear hN hs this
 haveI:=q0.i
 go_region_law (first
  |(
   go_simp
   go_at_call 129
   with_reducible refine Calls.mono (c1 _ _ (Ae (Ad h s))) ?_
   rintro e w1 Z
   obtain ⟨r1,g⟩: ∃r,r=Ah u s:=⟨_,rfl⟩
   rw[←g] at Z
   rcases r1 with ⟨x,s1⟩|⟨er,s1⟩|_
   rotate_left
   ·obtain ⟨rfl,q1⟩:=Z
    haveI:=q1.i
    have d:=AL L.out g.symm
    subst d
    exact ⟨rfl,rfl,Av _ _⟩
   ·exact absurd (B3 L.out g.symm) p.out
   obtain ⟨v1,W,rfl,⟨hx,mx⟩,q1⟩:=Z
   haveI:=q1.i
   have G:=AJ L.out g.symm
   have l:Aside (M.bind (Ah o) (fun y=>if x.leaf=y.leaf then M.bind (Bt Ag (both x y)) fun out=>M.pure (out,c) else M.bad) s1=R):=G
   have c2:=fun F w q=>C7 h s1 o F w q (AK l.out p.out)
   have z:Aside (AN W v1 x∧may x=true):=⟨hx,mx⟩
   clear hx mx g G)
  |(
   go_simp
   go_at_call 129
   with_reducible refine Calls.mono (c2 _ _ (Ae (Ad h s1))) ?_
   rintro e w2 h2
   obtain ⟨r2,j⟩: ∃r,r=Ah o s1:=⟨_,rfl⟩
   rw[←j] at h2
   rcases r2 with ⟨y,s2⟩|⟨er,s2⟩|_
   rotate_left
   ·obtain ⟨rfl,q2⟩:=h2
    haveI:=q2.i
    have d:=AL l.out j.symm
    subst d
    exact ⟨rfl,rfl,Av _ _⟩
   ·exact absurd (B3 l.out j.symm) p.out
   obtain ⟨v2,X,rfl,⟨hy,V⟩,q2⟩:=h2
   haveI:=q2.i
   have H:=AJ l.out j.symm
   have n:(if x.leaf=y.leaf then M.bind (Bt Ag (both x y)) fun out=>M.pure (out,c) else M.bad) s2=R:=H
   have v:x.leaf=y.leaf:=Decidable.byContradiction fun hc=>p.out (by rw[←n,if_neg hc];rfl)
   rw[if_pos v] at n
   have m:Aside (M.bind (Bt Ag (both x y)) (fun out=>M.pure (out,c)) s2=R):=n
   have Y:Aside (AN X v2 y∧may y=true∧x.leaf=y.leaf):=⟨hy,V,v⟩
   have c3:=fun F w q=>MD x y v1 v2 (W*X) F w (AN.left z.out.1) (AN.right hy) q (by have:=Cl z.out.2;omega) (by have:=Cl V;omega) (by have:=Cl z.out.2;omega) (by have:=Cl V;omega)
   clear hy V j n v H)
  |(
   go_simp
   go_at_call 169
   with_reducible refine Calls.mono (c3 _ _ (XN W X)) ?_
   rintro e w3 ⟨v3,G3,rfl,J,q3⟩
   haveI:=q3.i
   have c4:=fun F w q=>FY h s2 (both x y) v3 G3 F w J q (V2 z.out.2 Y.out.2.1 Y.out.2.2) (by have:=(GM z.out.2).1;have:=(GM Y.out.2.1).1;rw[EL];omega) (AK m.out p.out)
   clear J)
  |(
   go_simp
   go_at_call 137
   with_reducible refine Calls.mono (c4 _ _ (AY (Ad h s2) G3)) ?_
   rintro e w4 h4
   obtain ⟨r4,k⟩: ∃r,r=Bt Ag (both x y) s2:=⟨_,rfl⟩
   rw[←k] at h4
   rcases r4 with ⟨out,s4⟩|⟨er,s4⟩|_
   rotate_left
   ·obtain ⟨rfl,q4⟩:=h4
    haveI:=q4.i
    have d:=AL m.out k.symm
    subst d
    exact ⟨rfl,rfl,Av _ _⟩
   ·exact absurd (B3 m.out k.symm) p.out
   obtain ⟨v4,G4,rfl,K,q4⟩:=h4
   have a8:B1 G4 v4 out:=K
   haveI:=q4.i
   have I:=AJ m.out k.symm
   have a7:R= .ok (out,c) s4:=I.symm
   clear K k I))
 all_goals
  subst a7
  go_wp2
  go_ret2
  exact ⟨_,G4,rfl,⟨v4,rfl,a8⟩,AR _ _ _⟩
