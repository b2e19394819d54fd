/- censusSound holds for every input. No condition. (part 22) -/
import Derived.Test.YtfhbmblbidcmmaaGreatWa20
import Derived.Handy
set_option linter.all false
set_option maxRecDepth 100000
set_option maxHeartbeats 1600000
namespace Go.Proofs.YtfhbmblbidcmmaaGreat
open Go.RowKit Go.Sl Go.Dk Go.Tr
theorem Us(x:UInt8)(rest:List UInt8)(v:Value)(B F:Ab)(w:World)(O:Reads B v (x::rest))(hs:Sat (B*F) w)(t:rest.length=x.toNat*13):
 Calls Tryz.prog 160 #[.int .i64 1,v] w fun e w'=> ∃v' G,e= .returned (.tuple #[v',.int .i64 (if may ⟨true,Gy x.toNat rest,[]⟩ then 0 else 4)])∧AN G v' (if may ⟨true,Gy x.toNat rest,[]⟩ then ⟨true,Gy x.toNat rest,[]⟩ else I9)∧Sat (G*(B*F)) w':=by
 obtain ⟨i0,E⟩:=EW
 obtain ⟨va,vc,rfl,av,aw⟩:=(O F w hs).len
 have hx:=x.toNat_lt
 obtain ⟨m,hm⟩:=Aq x.toNat
 rw[hm] at hx t⊢
 obtain ⟨nd,I⟩:=Aq (⟨true,Gy m rest,[]⟩:Nd)
 rw[I]
 obtain ⟨mr,H⟩:=Aq (may nd)
 rw[H]
 have z:=As I
 have a0:=As H
 clear I H
 obtain ⟨l,hl⟩:=Aq (x::rest)
 have P:l.length=1+m*13:=by rw[←hl,List.length_cons];omega
 have h0:BX ((l.drop 0).take 1)=m:=by rw[←hl];simp[BX,hm]
 rw[hl] at O⊢
 have HL:=As hl
 have HB:=As O
 have q:=As P
 have ab:(m:Int)*13≤3315:=by omega
 have d:l.length≤1099511627776:=by omega
 haveI:=hs.i
 have U:=fun F w h=>Hq (.slice va l.length vc) l B F w O h d
 have k:=fun R a c F w h=>Ef R a c l 0 1 F w h d (by omega) (by omega) (by omega)
 rw[h0] at k
 have f:=fun R a c F w h=>IK R a c l 1 F w h (by omega) d
 have M:((l.length-1:Nat):Int)=(m:Int)*13:=by omega
 rw[M] at f
 clear hl O P h0 t hm M
 go_enter Tryz.func160,Tryz.ntmps160
 go_wp2_with fail
 refine (U _ _ (Ae B)).mono ?_
 rintro e w1 ⟨R,a,c,rfl,V⟩
 haveI:=V.i
 clear hs U
 go_wp2_with fail
 refine (k R a c _ _ (Ae (Ex R a c l 0))).mono ?_
 rintro e w2 ⟨rfl,J⟩
 haveI:=J.i
 clear V k
 have h1:Sat (Ex R a c l 1*(B*(Sl.block w.heap.size Cy [.bool false,.slice none 0 0,.slice none 0 0]*F))) w2:=J
 clear J this
 haveI:=h1.i
 go_wp2_with fail
 refine (f R a c _ _ (Ae (Ex R a c l 1))).mono ?_
 rintro e w3 ⟨rfl,K⟩
 clear f
 obtain ⟨N,D⟩:=Aq w2.heap.size
 rw[D] at K⊢
 clear D h1 this
 haveI:=K.i
 go_wp2_with fail
 go_loopg [49] m (fun g a8 wr=> ∃(i:Nat)(aE:Option Addr)(cE:Nat),a8= .int .i64 i∧i≤m∧Aside (g=m-i)∧
  Sat (rw AK 4 (.slice aE i cE) (AQ (Gy i rest))*(Ex R a c l (1+13*i)*(B*(Sl.block N Cy [.bool true,.slice aE i cE,.slice none 0 0]*(Sl.block w.heap.size Cy [.bool false,.slice none 0 0,.slice none 0 0]*F))))) wr)
 case atStart=>exact ⟨0,none,0,rfl,by omega,rfl,Sat.AG (Ap (by ac_rfl))⟩
 obtain ⟨i,aE,cE,rfl,hi,A,j⟩:=hrel
 haveI:=j.i
 clear K
 by_cases au:i<m
 · have Q:(i:Int)<m:=by omega
   obtain ⟨p,hp⟩:=Aq (1+13*i)
   have L:=kY x rest i
   rw[HL.out,hp] at L
   have HU:Aside (AQ (Gy (i+1) rest)=AQ (Gy i rest)++Dq (ue ((rest.drop (13*i)).take 13))):=(by rw[Vr];simp[AQ]:_=_)
   obtain ⟨y,hy⟩:=Aq (ue ((rest.drop (13*i)).take 13))
   rw[hy] at L
   have HY:Aside (AQ (Gy (i+1) rest)=AQ (Gy i rest)++Dq y):=(by rw[HU.out,hy]:_=_)
   rw[hp] at j
   have q1:=Ef R a c l p 1 _ wr (j.take (Ex R a c l p)) d (by have:=q.out;omega) (by omega) (by omega)
   have q2:=fun F w h=>Gc R a c l (p+1) F w h d (by have:=q.out;omega)
   have q3:=fun F w h=>Gc R a c l (p+1+4) F w h d (by have:=q.out;omega)
   have q4:=fun F w h=>Gc R a c l (p+1+4+4) F w h d (by have:=q.out;omega)
   obtain ⟨y1,y2,y3,y4⟩:=y
   simp only[Av.mk.injEq] at L
   obtain ⟨u1,u2,u3,u4⟩:=L
   rw[←u1] at q1
   rw[←u2] at q2
   rw[←u3] at q3
   rw[←u4] at q4
   have a1:p+13=1+13*(i+1):=by omega
   have HP:Aside (p+1+4+4+4=1+13*(i+1)):=(by omega:_=_)
   clear hy HU u1 u2 u3 u4 hp a1
   go_wp2_with fail
   refine q1.mono ?_
   rintro e w4 ⟨rfl,r⟩
   haveI:=r.i
   clear q1 j
   go_wp2_with fail
   refine (q2 _ _ (Ae (Ex R a c l (p+1)))).mono ?_
   rintro e w5 ⟨rfl,W⟩
   haveI:=W.i
   clear q2 r
   go_wp2_with fail
   refine (q3 _ _ (Ae (Ex R a c l (p+1+4)))).mono ?_
   rintro e w6 ⟨rfl,X⟩
   have Y:Sat (rw AK 4 (.slice aE i cE) (AQ (Gy i rest))*(Ex R a c l (p+1+4+4)*(B*(Sl.block N Cy [.bool true,.slice aE i cE,.slice none 0 0]*(Sl.block w.heap.size Cy [.bool false,.slice none 0 0,.slice none 0 0]*F))))) w6:=X.eq (by ac_rfl)
   clear q3 W X
   haveI:=Y.i
   have HQ:=As q4
   clear q4
   go_upto_region 17 with (fail)
   go_region_law first
    |(go_simp;go_at_call 189;refine (HQ.out _ _ (Ae (Ex R a c l (p+1+4+4)))).mono ?_;rintro e w7 ⟨rfl,a2⟩;haveI:=a2.i)
    |(refine A6 E rfl (.tmp 63) (.tmp 71) rfl rfl rfl (Ae (rw AK 4 (.slice aE i cE) (AQ (Gy i rest)))) (Src.new (b:=w7.heap.size) (e:=AK) (s:=4) (vs:= [.int .i64 y1,.int .i64 y2,.int .i64 y3,.int .i64 y4]) (Ae _) rfl (by intro u L;simp at L;rcases L with rfl|rfl|rfl|rfl<;>rfl)) (by unfold maxLen;omega) (by omega) ?_;intro a9 c9 w9 a3 T;clear T;haveI:=a3.i)
   all_goals
    go_wp2_with fail
    go_roundg (m-(i+1))
    case measure=>have:=A.out;omega
    refine ⟨i+1,a9,c9,by go_num,by omega,rfl,?_⟩
    rw[HY.out,←HP.out]
    exact Ax (C:=Sl.block w7.heap.size AK [.int .i64 y1,.int .i64 y2,.int .i64 y3,.int .i64 y4]) (by unfold Dq;ac_rfl)
 have Q: ¬(i:Int)<m:=by omega
 obtain rfl:i=m:=by omega
 have Z:=Yn rest i
 have D:AN (rw AK 4 (.slice aE i cE) (AQ (Gy i rest))) (.agg #[.bool true,.slice aE i cE,.slice none 0 0]) ⟨true,Gy i rest,[]⟩:=
  ⟨_,_,rfl,by have:=Ai.rw (j.take (rw AK 4 (.slice aE i cE) (AQ (Gy i rest)))) ⟨aE,cE,rfl⟩ (n:=i);show Ai 4 _ _ (Gy i rest).length _;rw[Z];exact this,Ai.nil 4 _⟩
 rw[z.out] at D
 have HN:=As D
 have o:=fun F w h=>LB nd _ _ F w D h (by rw[←z.out];simp only;omega) (by rw[←z.out];simp)
 rw[a0.out] at o
 clear Z D
 go_wp2_with fail
 refine (o _ _ (Ae (rw AK 4 (.slice aE i cE) (AQ (Gy i rest))))).mono ?_
 rintro e w4 ⟨rfl,r⟩
 haveI:=r.i
 clear o j
 cases mr with
 | true =>
   go_wp2
   go_returns
   exact ⟨_,rfl,_,HN.out,AD (rw AK 4 (.slice aE i cE) (AQ (Gy i rest))) B F⟩
 | false =>
   go_wp2
   go_returns
   exact ⟨_,rfl,1,⟨_,_,rfl,Ai.nil 4 _,Ai.nil 4 _⟩,by rw[Ay];exact Ar B F⟩
theorem Sm(x:UInt8)(rest:List UInt8)(v:Value)(B F:Ab)(w:World)(O:Reads B v (x::rest))(hs:Sat (B*F) w)(t:rest.length=x.toNat*16):
 Calls Tryz.prog 160 #[.int .i64 2,v] w fun e w'=> ∃v' G,e= .returned (.tuple #[v',.int .i64 (if may ⟨false,[],Gz x.toNat rest⟩ then 0 else 4)])∧AN G v' (if may ⟨false,[],Gz x.toNat rest⟩ then ⟨false,[],Gz x.toNat rest⟩ else I9)∧Sat (G*(B*F)) w':=by
 obtain ⟨i0,E⟩:=Mu
 obtain ⟨va,vc,rfl,av,aw⟩:=(O F w hs).len
 have hx:=x.toNat_lt
 obtain ⟨m,hm⟩:=Aq x.toNat
 rw[hm] at hx t⊢
 obtain ⟨nd,I⟩:=Aq (⟨false,[],Gz m rest⟩:Nd)
 rw[I]
 obtain ⟨mr,H⟩:=Aq (may nd)
 rw[H]
 have z:=As I
 have a0:=As H
 clear I H
 obtain ⟨l,hl⟩:=Aq (x::rest)
 have P:l.length=1+m*16:=by rw[←hl,List.length_cons];omega
 have h0:BX ((l.drop 0).take 1)=m:=by rw[←hl];simp[BX,hm]
 rw[hl] at O⊢
 have HL:=As hl
 have HB:=As O
 have q:=As P
 have ab:(m:Int)*16≤4080:=by omega
 have d:l.length≤1099511627776:=by omega
 haveI:=hs.i
 have U:=fun F w h=>Hq (.slice va l.length vc) l B F w O h d
 have k:=fun R a c F w h=>Ef R a c l 0 1 F w h d (by omega) (by omega) (by omega)
 rw[h0] at k
 have f:=fun R a c F w h=>IK R a c l 1 F w h (by omega) d
 have M:((l.length-1:Nat):Int)=(m:Int)*16:=by omega
 rw[M] at f
 clear hl O P h0 t hm M
 go_enter Tryz.func160,Tryz.ntmps160
 go_wp2_with fail
 refine (U _ _ (Ae B)).mono ?_
 rintro e w1 ⟨R,a,c,rfl,V⟩
 haveI:=V.i
 clear hs U
 go_wp2_with fail
 refine (k R a c _ _ (Ae (Ex R a c l 0))).mono ?_
 rintro e w2 ⟨rfl,J⟩
 haveI:=J.i
 clear V k
 have h1:Sat (Ex R a c l 1*(B*(Sl.block w.heap.size Cy [.bool false,.slice none 0 0,.slice none 0 0]*F))) w2:=J
 clear J this
 haveI:=h1.i
 go_wp2_with fail
 refine (f R a c _ _ (Ae (Ex R a c l 1))).mono ?_
 rintro e w3 ⟨rfl,K⟩
 clear f
 obtain ⟨N,D⟩:=Aq w2.heap.size
 rw[D] at K⊢
 clear D h1 this
 haveI:=K.i
 go_wp2_with fail
 go_loopg [49] m (fun g a8 wr=> ∃(i:Nat)(aE:Option Addr)(cE:Nat),a8= .int .i64 i∧i≤m∧Aside (g=m-i)∧
  Sat (rw Lh 4 (.slice aE i cE) (Hd (Gz i rest))*(Ex R a c l (1+16*i)*(B*(Sl.block N Cy [.bool false,.slice none 0 0,.slice aE i cE]*(Sl.block w.heap.size Cy [.bool false,.slice none 0 0,.slice none 0 0]*F))))) wr)
 case atStart=>exact ⟨0,none,0,rfl,by omega,rfl,Sat.AG (Ap (by ac_rfl))⟩
 obtain ⟨i,aE,cE,rfl,hi,A,j⟩:=hrel
 haveI:=j.i
 clear K
 by_cases au:i<m
 · have Q:(i:Int)<m:=by omega
   obtain ⟨p,hp⟩:=Aq (1+16*i)
   have L:=lA x rest i
   rw[HL.out,hp] at L
   have HU:Aside (Hd (Gz (i+1) rest)=Hd (Gz i rest)++Qe (uk ((rest.drop (16*i)).take 16))):=(by rw[Vs];simp[Hd]:_=_)
   obtain ⟨y,hy⟩:=Aq (uk ((rest.drop (16*i)).take 16))
   rw[hy] at L
   have HY:Aside (Hd (Gz (i+1) rest)=Hd (Gz i rest)++Qe y):=(by rw[HU.out,hy]:_=_)
   rw[hp] at j
   have q1:=Gc R a c l p _ wr (j.take (Ex R a c l p)) d (by have:=q.out;omega)
   have q2:=fun F w h=>Gc R a c l (p+4) F w h d (by have:=q.out;omega)
   have q3:=fun F w h=>Gc R a c l (p+4+4) F w h d (by have:=q.out;omega)
   have q4:=fun F w h=>Gc R a c l (p+4+4+4) F w h d (by have:=q.out;omega)
   obtain ⟨y1,y2,y3,y4⟩:=y
   simp only[Kd.mk.injEq] at L
   obtain ⟨u1,u2,u3,u4⟩:=L
   rw[←u1] at q1
   rw[←u2] at q2
   rw[←u3] at q3
   rw[←u4] at q4
   have a1:p+16=1+16*(i+1):=by omega
   have HP:Aside (p+4+4+4+4=1+16*(i+1)):=(by omega:_=_)
   clear hy HU u1 u2 u3 u4 hp a1
   go_wp2_with fail
   refine q1.mono ?_
   rintro e w4 ⟨rfl,r⟩
   haveI:=r.i
   clear q1 j
   go_wp2_with fail
   refine (q2 _ _ (Ae (Ex R a c l (p+4)))).mono ?_
   rintro e w5 ⟨rfl,W⟩
   haveI:=W.i
   clear q2 r
   go_wp2_with fail
   refine (q3 _ _ (Ae (Ex R a c l (p+4+4)))).mono ?_
   rintro e w6 ⟨rfl,X⟩
   have Y:Sat (rw Lh 4 (.slice aE i cE) (Hd (Gz i rest))*(Ex R a c l (p+4+4+4)*(B*(Sl.block N Cy [.bool false,.slice none 0 0,.slice aE i cE]*(Sl.block w.heap.size Cy [.bool false,.slice none 0 0,.slice none 0 0]*F))))) w6:=X.eq (by ac_rfl)
   clear q3 W X
   haveI:=Y.i
   have HQ:=As q4
   clear q4
   go_upto_region 21 with (fail)
   go_region_law first
    |(go_simp;go_at_call 189;refine (HQ.out _ _ (Ae (Ex R a c l (p+4+4+4)))).mono ?_;rintro e w7 ⟨rfl,a2⟩;haveI:=a2.i)
    |(refine A6 E rfl (.tmp 81) (.tmp 88) rfl rfl rfl (Ae (rw Lh 4 (.slice aE i cE) (Hd (Gz i rest)))) (Src.new (b:=w7.heap.size) (e:=Lh) (s:=4) (vs:= [.int .i64 y1,.int .i64 y2,.int .i64 y3,.int .i64 y4]) (Ae _) rfl (by intro u L;simp at L;rcases L with rfl|rfl|rfl|rfl<;>rfl)) (by unfold maxLen;omega) (by omega) ?_;intro a9 c9 w9 a3 T;clear T;haveI:=a3.i)
   all_goals
    go_wp2_with fail
    go_roundg (m-(i+1))
    case measure=>have:=A.out;omega
    refine ⟨i+1,a9,c9,by go_num,by omega,rfl,?_⟩
    rw[HY.out,←HP.out]
    exact Ax (C:=Sl.block w7.heap.size Lh [.int .i64 y1,.int .i64 y2,.int .i64 y3,.int .i64 y4]) (by unfold Qe;ac_rfl)
 have Q: ¬(i:Int)<m:=by omega
 obtain rfl:i=m:=by omega
 have Z:=Yo rest i
 have D:AN (rw Lh 4 (.slice aE i cE) (Hd (Gz i rest))) (.agg #[.bool false,.slice none 0 0,.slice aE i cE]) ⟨false,[],Gz i rest⟩:=
  ⟨_,_,rfl,Ai.nil 4 _,by have:=Ai.rw (j.take (rw Lh 4 (.slice aE i cE) (Hd (Gz i rest)))) ⟨aE,cE,rfl⟩ (n:=i);show Ai 4 _ _ (Gz i rest).length _;rw[Z];exact this⟩
 rw[z.out] at D
 have HN:=As D
 have o:=fun F w h=>LB nd _ _ F w D h (by rw[←z.out];simp) (by rw[←z.out];simp only;omega)
 rw[a0.out] at o
 clear Z D
 go_wp2_with fail
 refine (o _ _ (Ae (rw Lh 4 (.slice aE i cE) (Hd (Gz i rest))))).mono ?_
 rintro e w4 ⟨rfl,r⟩
 haveI:=r.i
 clear o j
 cases mr with
 | true =>
   go_wp2
   go_returns
   exact ⟨_,rfl,_,HN.out,AD (rw Lh 4 (.slice aE i cE) (Hd (Gz i rest))) B F⟩
 | false =>
   go_wp2
   go_returns
   exact ⟨_,rfl,1,⟨_,_,rfl,Ai.nil 4 _,Ai.nil 4 _⟩,by rw[Ay];exact Ar B F⟩
def Kt(B F:Ab)(r:Nd×Int)(e:Ending)(a:World):Prop:= ∃v' G,e= .returned (.tuple #[v',.int .i64 r.2])∧AN G v' r.1∧Sat (G*(B*F)) a
theorem Fz{B F:Ab}{w:World}(hs:Sat (B*F) w):Kt B F (I9,4) (.returned (.tuple #[.agg #[.bool false,.slice none 0 0,.slice none 0 0],.int .i64 4])) w:=
 ⟨_,1,rfl,⟨_,_,rfl,Ai.nil 4 _,Ai.nil 4 _⟩,by rw[Ay];exact hs⟩
theorem Ut(kind:Int)(v:Value)(B F:Ab)(w:World)(j:Reads B v [])(hs:Sat (B*F) w):
 Calls Tryz.prog 160 #[.int .i64 kind,v] w (Kt B F (I9,4)):=by
 obtain ⟨m,n,rfl,k,l⟩:=(j F w hs).len
 haveI:=hs.i
 have d:=fun F w h=>Hq (.slice m ([]:List UInt8).length n) [] B F w j h (by simp)
 have b:=fun R a c F w h=>bM R a c [] 0 1 F w h (by simp) (by simp) (by simp) (by omega) (by omega)
 go_enter Tryz.func160,Tryz.ntmps160
 go_wp2_with fail
 refine (d _ _ (Ae B)).mono ?_
 rintro e o ⟨R,a,c,rfl,f⟩
 haveI:=f.i
 clear hs d
 go_wp2_with fail
 refine (b R a c _ _ (Ae (Ex R a c [] 0))).mono ?_
 rintro e p ⟨rfl,g⟩
 haveI:=g.i
 clear f b
 go_wp2
 go_returns
 exact Fz (Ar B F)
theorem Ur(kind:Int)(x:UInt8)(rest:List UInt8)(v:Value)(B F:Ab)(w:World)(j:Reads B v (x::rest))(hs:Sat (B*F) w)(hl:(x::rest).length≤1099511627776)(h1:kind≠1)(k:kind≠2):
 Calls Tryz.prog 160 #[.int .i64 kind,v] w (Kt B F (I9,4)):=by
 obtain ⟨o,p,rfl,l,n⟩:=(j F w hs).len
 haveI:=hs.i
 have d:=fun F w h=>Hq (.slice o (x::rest).length p) (x::rest) B F w j h hl
 have b:=fun R a c F w h=>Ef R a c (x::rest) 0 1 F w h hl (by simp) (by omega) (by omega)
 obtain ⟨m,hm⟩:=Aq (BX (((x::rest).drop 0).take 1))
 rw[hm] at b
 have q:(kind !=1)=true:=by simp[h1]
 have r:(kind !=2)=true:=by simp[k]
 clear hm
 go_enter Tryz.func160,Tryz.ntmps160
 go_wp2_with fail
 refine (d _ _ (Ae B)).mono ?_
 rintro e s ⟨R,a,c,rfl,f⟩
 haveI:=f.i
 clear hs d
 go_wp2_with fail
 refine (b R a c _ _ (Ae (Ex R a c (x::rest) 0))).mono ?_
 rintro e t ⟨rfl,g⟩
 haveI:=g.i
 clear f b
 go_wp2
 go_returns
 exact Fz (Ar B F)
theorem Pn(kind each:Int)(x:UInt8)(rest:List UInt8)(v:Value)(B F:Ab)(w:World)(t:Reads B v (x::rest))(hs:Sat (B*F) w)(hl:(x::rest).length≤1099511627776)(D:kind=1∧each=13∨kind=2∧each=16)(h:(rest.length:Int)≠x.toNat*each):
 Calls Tryz.prog 160 #[.int .i64 kind,v] w (Kt B F (I9,4)):=by
 obtain ⟨I,J,rfl,G,H⟩:=(t F w hs).len
 haveI:=hs.i
 have j:=fun F w h=>Hq (.slice I (x::rest).length J) (x::rest) B F w t h hl
 have d:=fun R a c F w h=>Ef R a c (x::rest) 0 1 F w h hl (by simp) (by omega) (by omega)
 have b:=fun R a c F w h=>IK R a c (x::rest) 1 F w h (by simp) hl
 have hm:BX (((x::rest).drop 0).take 1)=x.toNat:=by simp[BX]
 have hx:=x.toNat_lt
 rw[hm] at d
 have y:(x::rest).length-1=rest.length:=by simp
 rw[y] at b
 obtain ⟨l,q⟩:=Aq (x::rest)
 obtain ⟨m,r⟩:=Aq x.toNat
 obtain ⟨n,z⟩:=Aq rest.length
 rw[q] at j d b t hl⊢
 rw[r] at d h hx
 rw[z] at b h
 clear hm y q r z
 rcases D with ⟨rfl,rfl⟩|⟨rfl,rfl⟩
 ·have g:((n:Int) !=(m:Int)*13)=true:=by simp only[bne_iff_ne,ne_eq];exact h
  have s:(m:Int)*13≤3315:=by omega
  go_enter Tryz.func160,Tryz.ntmps160
  go_wp2_with fail
  refine (j _ _ (Ae B)).mono ?_
  rintro e K ⟨R,a,c,rfl,k⟩
  haveI:=k.i
  clear hs j
  go_wp2_with fail
  refine (d R a c _ _ (Ae (Ex R a c l 0))).mono ?_
  rintro e u ⟨rfl,o⟩
  have f:Sat (Ex R a c l 1*(B*(Sl.block w.heap.size Cy [.bool false,.slice none 0 0,.slice none 0 0]*F))) u:=o
  clear k d o
  haveI:=f.i
  go_wp2_with fail
  refine (b R a c _ _ (Ae (Ex R a c l 1))).mono ?_
  rintro e L ⟨rfl,p⟩
  haveI:=p.i
  clear f b
  go_wp2
  go_returns
  exact Fz (Ar B F)
 have g:((n:Int) !=(m:Int)*16)=true:=by simp only[bne_iff_ne,ne_eq];exact h
 have s:(m:Int)*16≤4080:=by omega
 go_enter Tryz.func160,Tryz.ntmps160
 go_wp2_with fail
 refine (j _ _ (Ae B)).mono ?_
 rintro e K ⟨R,a,c,rfl,k⟩
 haveI:=k.i
 clear hs j
 go_wp2_with fail
 refine (d R a c _ _ (Ae (Ex R a c l 0))).mono ?_
 rintro e u ⟨rfl,o⟩
 have f:Sat (Ex R a c l 1*(B*(Sl.block w.heap.size Cy [.bool false,.slice none 0 0,.slice none 0 0]*F))) u:=o
 clear k d o
 haveI:=f.i
 go_wp2_with fail
 refine (b R a c _ _ (Ae (Ex R a c l 1))).mono ?_
 rintro e L ⟨rfl,p⟩
 haveI:=p.i
 clear f b
 go_wp2
 go_returns
 exact Fz (Ar B F)
theorem Wu(kind:Int)(b:List UInt8)(v:Value)(B F:Ab)(w:World)(c:Reads B v b)(hs:Sat (B*F) w)(hl:b.length≤1099511627776):
 Calls Tryz.prog 160 #[.int .i64 kind,v] w (Kt B F (DN kind b)):=by
 cases b with
 |nil=>exact Ut kind v B F w c hs
 | cons x rest =>
  unfold DN
  simp only
  by_cases f:kind≠1∧kind≠2
  ·rw[if_pos f]
   exact Ur kind x rest v B F w c hs hl f.1 f.2
  rw[if_neg f]
  by_cases h1:kind=1
  ·subst h1
   simp only[if_true]
   by_cases d:rest.length≠x.toNat*13
   ·rw[if_pos d]
    exact Pn 1 13 x rest v B F w c hs hl (.inl ⟨rfl,rfl⟩) (by omega)
   rw[if_neg d]
   refine (Us x rest v B F w c hs (by omega)).mono ?_
   rintro e g ⟨v',G,rfl,h1,a⟩
   cases hm:may ⟨true,Gy x.toNat rest,[]⟩ with
   |true=>rw[hm] at h1;rw[if_pos rfl] at h1⊢;exact ⟨v',G,by simp,h1,a⟩
   |false=>rw[hm] at h1;rw[if_neg (by simp)] at h1⊢;exact ⟨v',G,by simp,h1,a⟩
  have a:kind=2:=by omega
  subst a
  simp only[show¬(2:Int)=1 by omega,if_false]
  by_cases d:rest.length≠x.toNat*16
  ·rw[if_pos d]
   exact Pn 2 16 x rest v B F w c hs hl (.inr ⟨rfl,rfl⟩) (by omega)
  rw[if_neg d]
  refine (Sm x rest v B F w c hs (by omega)).mono ?_
  rintro e g ⟨v',G,rfl,h1,a⟩
  cases hm:may ⟨false,[],Gz x.toNat rest⟩ with
  |true=>rw[hm] at h1;rw[if_pos rfl] at h1⊢;exact ⟨v',G,by simp,h1,a⟩
  |false=>rw[hm] at h1;rw[if_neg (by simp)] at h1⊢;exact ⟨v',G,by simp,h1,a⟩
