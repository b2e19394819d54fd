/- treeFails holds for every input. No condition. (part 26) -/
import Derived.Test.YtfhbmblbidcmmaaGreatYa24
import Derived.Handy
set_option linter.all false
set_option maxRecDepth 100000
set_option maxHeartbeats 1600000
namespace Go.Proofs.YtfhbmblbidcmmaaGreat
open Go.RowKit Go.Sl Go.Dk Go.Tr
theorem Rk(x:UInt8)(rest:List UInt8)(v:Value)(B F:Ac)(w:World)(Q:Reads B v (x::rest))(hs:Sat (B*F) w)(D:rest.length=x.toNat*13):
 Calls Tryz.prog 160 #[.int .i64 1,v] w fun e w'=> ∃v' G,e= .returned (.tuple #[v',.int .i64 (if may ⟨true,IY x.toNat rest,[]⟩ then 0 else 4)])∧AN G v' (if may ⟨true,IY x.toNat rest,[]⟩ then ⟨true,IY x.toNat rest,[]⟩ else Ob)∧Sat (G*(B*F)) w':=by
 obtain ⟨i0,E⟩:=FK
 obtain ⟨va,vc,rfl,b4,b5⟩:=(Q F w hs).len
 have hx:=x.toNat_lt
 obtain ⟨m,hm⟩: ∃m,x.toNat=m:=⟨_,rfl⟩
 rw[hm] at hx D⊢
 obtain ⟨nd,K⟩: ∃nd,(⟨true,IY m rest,[]⟩:Nd)=nd:=⟨_,rfl⟩
 rw[K]
 obtain ⟨mr,J⟩: ∃mr,may nd=mr:=⟨_,rfl⟩
 rw[J]
 have H:Aside ((⟨true,IY m rest,[]⟩:Nd)=nd):=K
 have a3:Aside (may nd=mr):=J
 clear K J
 obtain ⟨l,hl⟩: ∃l,x::rest=l:=⟨_,rfl⟩
 have T:l.length=1+m*13:=by rw[←hl,List.length_cons];omega
 have h0:EI ((l.drop 0).take 1)=m:=by rw[←hl];simp[EI,hm]
 rw[hl] at Q⊢
 have HL:Aside (x::rest=l):=hl
 have HB:Aside (Reads B (.slice va l.length vc) l):=Q
 have t:Aside (l.length=1+m*13):=T
 have ai:(m:Int)*13≤3315:=by omega
 have d:l.length≤1099511627776:=by omega
 haveI:=hs.i
 have W:=fun F w h=>GF (.slice va l.length vc) l B F w Q h d
 have q:=fun R a c F w h=>DF R a c l 0 1 F w h d (by omega) (by omega) (by omega)
 rw[h0] at q
 have f:=fun R a c F w h=>Hy R a c l 1 F w h (by omega) d
 have P:((l.length-1:Nat):Int)=(m:Int)*13:=by omega
 rw[P] at f
 clear hl Q T h0 D hm P
 go_enter Tryz.func160,Tryz.ntmps160
 go_wp2_with fail
 refine (W _ _ (Ae B)).mono ?_
 rintro e w1 ⟨R,a,c,rfl,X⟩
 haveI:=X.i
 clear hs W
 go_wp2_with fail
 refine (q R a c _ _ (Ae (DI R a c l 0))).mono ?_
 rintro e w2 ⟨rfl,L⟩
 haveI:=L.i
 clear X q
 have h1:Sat (DI R a c l 1*(B*(Sl.block w.heap.size Ev [.bool false,.slice none 0 0,.slice none 0 0]*F))) w2:=L
 clear L this
 haveI:=h1.i
 go_wp2_with fail
 refine (f R a c _ _ (Ae (DI R a c l 1))).mono ?_
 rintro e w3 ⟨rfl,M⟩
 clear f
 obtain ⟨N,I⟩: ∃N,w2.heap.size=N:=⟨_,rfl⟩
 rw[I] at M⊢
 clear I h1 this
 haveI:=M.i
 go_wp2_with fail
 go_loopg [49] m (fun g ac wr=> ∃(i:Nat)(j:Option Addr)(k:Nat),ac= .int .i64 i∧i≤m∧Aside (g=m-i)∧
  Sat (rw A9 4 (.slice j i k) (AQ (IY i rest))*(DI R a c l (1+13*i)*(B*(Sl.block N Ev [.bool true,.slice j i k,.slice none 0 0]*(Sl.block w.heap.size Ev [.bool false,.slice none 0 0,.slice none 0 0]*F))))) wr)
 case atStart=>exact ⟨0,none,0,rfl,by omega,rfl,Sat.Bj (A8 (by ac_rfl))⟩
 obtain ⟨i,j,k,rfl,hi,A,o⟩:=hrel
 haveI:=o.i
 clear M
 by_cases b3:i<m
 · have U:(i:Int)<m:=by omega
   obtain ⟨p,hp⟩: ∃p,1+13*i=p:=⟨_,rfl⟩
   have O:=i' x rest i
   rw[HL.out,hp] at O
   have HU:Aside (AQ (IY (i+1) rest)=AQ (IY i rest)++CZ (ue ((rest.drop (13*i)).take 13))):=(by rw[XT];simp[AQ]:_=_)
   obtain ⟨y,hy⟩: ∃y,ue ((rest.drop (13*i)).take 13)=y:=⟨_,rfl⟩
   rw[hy] at O
   have HY:Aside (AQ (IY (i+1) rest)=AQ (IY i rest)++CZ y):=(by rw[HU.out,hy]:_=_)
   rw[hp] at o
   have q1:=DF R a c l p 1 _ wr (o.take (DI R a c l p)) d (by have:=t.out;omega) (by omega) (by omega)
   have q2:=fun F w h=>FO R a c l (p+1) F w h d (by have:=t.out;omega)
   have q3:=fun F w h=>FO R a c l (p+1+4) F w h d (by have:=t.out;omega)
   have q4:=fun F w h=>FO R a c l (p+1+4+4) F w h d (by have:=t.out;omega)
   obtain ⟨y1,y2,y3,y4⟩:=y
   simp only[As.mk.injEq] at O
   obtain ⟨u1,u2,u3,u4⟩:=O
   rw[←u1] at q1
   rw[←u2] at q2
   rw[←u3] at q3
   rw[←u4] at q4
   have a4:p+13=1+13*(i+1):=by omega
   have HP:Aside (p+1+4+4+4=1+13*(i+1)):=(by omega:_=_)
   clear hy HU u1 u2 u3 u4 hp a4
   go_wp2_with fail
   refine q1.mono ?_
   rintro e w4 ⟨rfl,z⟩
   haveI:=z.i
   clear q1 o
   go_wp2_with fail
   refine (q2 _ _ (Ae (DI R a c l (p+1)))).mono ?_
   rintro e w5 ⟨rfl,Y⟩
   haveI:=Y.i
   clear q2 z
   go_wp2_with fail
   refine (q3 _ _ (Ae (DI R a c l (p+1+4)))).mono ?_
   rintro e w6 ⟨rfl,Z⟩
   have a0:Sat (rw A9 4 (.slice j i k) (AQ (IY i rest))*(DI R a c l (p+1+4+4)*(B*(Sl.block N Ev [.bool true,.slice j i k,.slice none 0 0]*(Sl.block w.heap.size Ev [.bool false,.slice none 0 0,.slice none 0 0]*F))))) w6:=Z.eq (by ac_rfl)
   clear q3 Y Z
   haveI:=a0.i
   have HQ:Aside (∀F w,Sat (DI R a c l (p+1+4+4)*F) w→Calls Tryz.prog 189 #[.pointer (some ⟨R,0,none⟩)] w fun e w'=>e= .returned (.int .i64 y4)∧Sat (DI R a c l (p+1+4+4+4)*F) w'):=q4
   clear q4
   go_upto_region 17 with (fail)
   go_region_law first
    |(go_simp;go_at_call 189;refine (HQ.out _ _ (Ae (DI R a c l (p+1+4+4)))).mono ?_;rintro e w7 ⟨rfl,a5⟩;haveI:=a5.i)
    |(refine A1 E rfl (.tmp 63) (.tmp 71) rfl rfl rfl (Ae (rw A9 4 (.slice j i k) (AQ (IY i rest)))) (Src.new (b:=w7.heap.size) (e:=A9) (s:=4) (vs:= [.int .i64 y1,.int .i64 y2,.int .i64 y3,.int .i64 y4]) (Ae _) rfl (by intro u O;simp at O;rcases O with rfl|rfl|rfl|rfl<;>rfl)) (by unfold maxLen;omega) (by omega) ?_;intro a9 c9 w9 a6 V;clear V;haveI:=a6.i)
   all_goals
    go_wp2_with fail
    go_roundg (m-(i+1))
    case measure=>have:=A.out;omega
    refine ⟨i+1,a9,c9,by go_num,by omega,rfl,?_⟩
    rw[HY.out,←HP.out]
    exact Br (C:=Sl.block w7.heap.size A9 [.int .i64 y1,.int .i64 y2,.int .i64 y3,.int .i64 y4]) (by unfold CZ;ac_rfl)
 have U: ¬(i:Int)<m:=by omega
 obtain rfl:i=m:=by omega
 have a1:=Zc rest i
 have I:AN (rw A9 4 (.slice j i k) (AQ (IY i rest))) (.agg #[.bool true,.slice j i k,.slice none 0 0]) ⟨true,IY i rest,[]⟩:=
  ⟨_,_,rfl,by have:=Al.rw (o.take (rw A9 4 (.slice j i k) (AQ (IY i rest)))) ⟨j,k,rfl⟩ (n:=i);show Al 4 _ _ (IY i rest).length _;rw[a1];exact this,Al.nil 4 _⟩
 rw[H.out] at I
 have HN:Aside (AN (rw A9 4 (.slice j i k) (AQ (IY i rest))) (.agg #[.bool true,.slice j i k,.slice none 0 0]) nd):=I
 have r:=fun F w h=>KE nd _ _ F w I h (by rw[←H.out];simp only;omega) (by rw[←H.out];simp)
 rw[a3.out] at r
 clear a1 I
 go_wp2_with fail
 refine (r _ _ (Ae (rw A9 4 (.slice j i k) (AQ (IY i rest))))).mono ?_
 rintro e w4 ⟨rfl,z⟩
 haveI:=z.i
 clear r o
 cases mr with
 | true =>
   go_wp2
   go_returns
   exact ⟨_,rfl,_,HN.out,AR (rw A9 4 (.slice j i k) (AQ (IY i rest))) B F⟩
 | false =>
   go_wp2
   go_returns
   exact ⟨_,rfl,1,⟨_,_,rfl,Al.nil 4 _,Al.nil 4 _⟩,by rw[Am];exact Av B F⟩
theorem PX(x:UInt8)(rest:List UInt8)(v:Value)(B F:Ac)(w:World)(Q:Reads B v (x::rest))(hs:Sat (B*F) w)(D:rest.length=x.toNat*16):
 Calls Tryz.prog 160 #[.int .i64 2,v] w fun e w'=> ∃v' G,e= .returned (.tuple #[v',.int .i64 (if may ⟨false,[],IZ x.toNat rest⟩ then 0 else 4)])∧AN G v' (if may ⟨false,[],IZ x.toNat rest⟩ then ⟨false,[],IZ x.toNat rest⟩ else Ob)∧Sat (G*(B*F)) w':=by
 obtain ⟨i0,E⟩:=MH
 obtain ⟨va,vc,rfl,b4,b5⟩:=(Q F w hs).len
 have hx:=x.toNat_lt
 obtain ⟨m,hm⟩: ∃m,x.toNat=m:=⟨_,rfl⟩
 rw[hm] at hx D⊢
 obtain ⟨nd,K⟩: ∃nd,(⟨false,[],IZ m rest⟩:Nd)=nd:=⟨_,rfl⟩
 rw[K]
 obtain ⟨mr,J⟩: ∃mr,may nd=mr:=⟨_,rfl⟩
 rw[J]
 have H:Aside ((⟨false,[],IZ m rest⟩:Nd)=nd):=K
 have a3:Aside (may nd=mr):=J
 clear K J
 obtain ⟨l,hl⟩: ∃l,x::rest=l:=⟨_,rfl⟩
 have T:l.length=1+m*16:=by rw[←hl,List.length_cons];omega
 have h0:EI ((l.drop 0).take 1)=m:=by rw[←hl];simp[EI,hm]
 rw[hl] at Q⊢
 have HL:Aside (x::rest=l):=hl
 have HB:Aside (Reads B (.slice va l.length vc) l):=Q
 have t:Aside (l.length=1+m*16):=T
 have ai:(m:Int)*16≤4080:=by omega
 have d:l.length≤1099511627776:=by omega
 haveI:=hs.i
 have W:=fun F w h=>GF (.slice va l.length vc) l B F w Q h d
 have q:=fun R a c F w h=>DF R a c l 0 1 F w h d (by omega) (by omega) (by omega)
 rw[h0] at q
 have f:=fun R a c F w h=>Hy R a c l 1 F w h (by omega) d
 have P:((l.length-1:Nat):Int)=(m:Int)*16:=by omega
 rw[P] at f
 clear hl Q T h0 D hm P
 go_enter Tryz.func160,Tryz.ntmps160
 go_wp2_with fail
 refine (W _ _ (Ae B)).mono ?_
 rintro e w1 ⟨R,a,c,rfl,X⟩
 haveI:=X.i
 clear hs W
 go_wp2_with fail
 refine (q R a c _ _ (Ae (DI R a c l 0))).mono ?_
 rintro e w2 ⟨rfl,L⟩
 haveI:=L.i
 clear X q
 have h1:Sat (DI R a c l 1*(B*(Sl.block w.heap.size Ev [.bool false,.slice none 0 0,.slice none 0 0]*F))) w2:=L
 clear L this
 haveI:=h1.i
 go_wp2_with fail
 refine (f R a c _ _ (Ae (DI R a c l 1))).mono ?_
 rintro e w3 ⟨rfl,M⟩
 clear f
 obtain ⟨N,I⟩: ∃N,w2.heap.size=N:=⟨_,rfl⟩
 rw[I] at M⊢
 clear I h1 this
 haveI:=M.i
 go_wp2_with fail
 go_loopg [49] m (fun g ac wr=> ∃(i:Nat)(j:Option Addr)(k:Nat),ac= .int .i64 i∧i≤m∧Aside (g=m-i)∧
  Sat (rw Oa 4 (.slice j i k) (Ip (IZ i rest))*(DI R a c l (1+16*i)*(B*(Sl.block N Ev [.bool false,.slice none 0 0,.slice j i k]*(Sl.block w.heap.size Ev [.bool false,.slice none 0 0,.slice none 0 0]*F))))) wr)
 case atStart=>exact ⟨0,none,0,rfl,by omega,rfl,Sat.Bj (A8 (by ac_rfl))⟩
 obtain ⟨i,j,k,rfl,hi,A,o⟩:=hrel
 haveI:=o.i
 clear M
 by_cases b3:i<m
 · have U:(i:Int)<m:=by omega
   obtain ⟨p,hp⟩: ∃p,1+16*i=p:=⟨_,rfl⟩
   have O:=j3 x rest i
   rw[HL.out,hp] at O
   have HU:Aside (Ip (IZ (i+1) rest)=Ip (IZ i rest)++QM (uk ((rest.drop (16*i)).take 16))):=(by rw[XU];simp[Ip]:_=_)
   obtain ⟨y,hy⟩: ∃y,uk ((rest.drop (16*i)).take 16)=y:=⟨_,rfl⟩
   rw[hy] at O
   have HY:Aside (Ip (IZ (i+1) rest)=Ip (IZ i rest)++QM y):=(by rw[HU.out,hy]:_=_)
   rw[hp] at o
   have q1:=FO R a c l p _ wr (o.take (DI R a c l p)) d (by have:=t.out;omega)
   have q2:=fun F w h=>FO R a c l (p+4) F w h d (by have:=t.out;omega)
   have q3:=fun F w h=>FO R a c l (p+4+4) F w h d (by have:=t.out;omega)
   have q4:=fun F w h=>FO R a c l (p+4+4+4) F w h d (by have:=t.out;omega)
   obtain ⟨y1,y2,y3,y4⟩:=y
   simp only[Kd.mk.injEq] at O
   obtain ⟨u1,u2,u3,u4⟩:=O
   rw[←u1] at q1
   rw[←u2] at q2
   rw[←u3] at q3
   rw[←u4] at q4
   have a4:p+16=1+16*(i+1):=by omega
   have HP:Aside (p+4+4+4+4=1+16*(i+1)):=(by omega:_=_)
   clear hy HU u1 u2 u3 u4 hp a4
   go_wp2_with fail
   refine q1.mono ?_
   rintro e w4 ⟨rfl,z⟩
   haveI:=z.i
   clear q1 o
   go_wp2_with fail
   refine (q2 _ _ (Ae (DI R a c l (p+4)))).mono ?_
   rintro e w5 ⟨rfl,Y⟩
   haveI:=Y.i
   clear q2 z
   go_wp2_with fail
   refine (q3 _ _ (Ae (DI R a c l (p+4+4)))).mono ?_
   rintro e w6 ⟨rfl,Z⟩
   have a0:Sat (rw Oa 4 (.slice j i k) (Ip (IZ i rest))*(DI R a c l (p+4+4+4)*(B*(Sl.block N Ev [.bool false,.slice none 0 0,.slice j i k]*(Sl.block w.heap.size Ev [.bool false,.slice none 0 0,.slice none 0 0]*F))))) w6:=Z.eq (by ac_rfl)
   clear q3 Y Z
   haveI:=a0.i
   have HQ:Aside (∀F w,Sat (DI R a c l (p+4+4+4)*F) w→Calls Tryz.prog 189 #[.pointer (some ⟨R,0,none⟩)] w fun e w'=>e= .returned (.int .i64 y4)∧Sat (DI R a c l (p+4+4+4+4)*F) w'):=q4
   clear q4
   go_upto_region 21 with (fail)
   go_region_law first
    |(go_simp;go_at_call 189;refine (HQ.out _ _ (Ae (DI R a c l (p+4+4+4)))).mono ?_;rintro e w7 ⟨rfl,a5⟩;haveI:=a5.i)
    |(refine A1 E rfl (.tmp 81) (.tmp 88) rfl rfl rfl (Ae (rw Oa 4 (.slice j i k) (Ip (IZ i rest)))) (Src.new (b:=w7.heap.size) (e:=Oa) (s:=4) (vs:= [.int .i64 y1,.int .i64 y2,.int .i64 y3,.int .i64 y4]) (Ae _) rfl (by intro u O;simp at O;rcases O with rfl|rfl|rfl|rfl<;>rfl)) (by unfold maxLen;omega) (by omega) ?_;intro a9 c9 w9 a6 V;clear V;haveI:=a6.i)
   all_goals
    go_wp2_with fail
    go_roundg (m-(i+1))
    case measure=>have:=A.out;omega
    refine ⟨i+1,a9,c9,by go_num,by omega,rfl,?_⟩
    rw[HY.out,←HP.out]
    exact Br (C:=Sl.block w7.heap.size Oa [.int .i64 y1,.int .i64 y2,.int .i64 y3,.int .i64 y4]) (by unfold QM;ac_rfl)
 have U: ¬(i:Int)<m:=by omega
 obtain rfl:i=m:=by omega
 have a1:=Ze rest i
 have I:AN (rw Oa 4 (.slice j i k) (Ip (IZ i rest))) (.agg #[.bool false,.slice none 0 0,.slice j i k]) ⟨false,[],IZ i rest⟩:=
  ⟨_,_,rfl,Al.nil 4 _,by have:=Al.rw (o.take (rw Oa 4 (.slice j i k) (Ip (IZ i rest)))) ⟨j,k,rfl⟩ (n:=i);show Al 4 _ _ (IZ i rest).length _;rw[a1];exact this⟩
 rw[H.out] at I
 have HN:Aside (AN (rw Oa 4 (.slice j i k) (Ip (IZ i rest))) (.agg #[.bool false,.slice none 0 0,.slice j i k]) nd):=I
 have r:=fun F w h=>KE nd _ _ F w I h (by rw[←H.out];simp) (by rw[←H.out];simp only;omega)
 rw[a3.out] at r
 clear a1 I
 go_wp2_with fail
 refine (r _ _ (Ae (rw Oa 4 (.slice j i k) (Ip (IZ i rest))))).mono ?_
 rintro e w4 ⟨rfl,z⟩
 haveI:=z.i
 clear r o
 cases mr with
 | true =>
   go_wp2
   go_returns
   exact ⟨_,rfl,_,HN.out,AR (rw Oa 4 (.slice j i k) (Ip (IZ i rest))) B F⟩
 | false =>
   go_wp2
   go_returns
   exact ⟨_,rfl,1,⟨_,_,rfl,Al.nil 4 _,Al.nil 4 _⟩,by rw[Am];exact Av B F⟩
def M7(B F:Ac)(r:Nd×Int)(e:Ending)(a:World):Prop:= ∃v' G,e= .returned (.tuple #[v',.int .i64 r.2])∧AN G v' r.1∧Sat (G*(B*F)) a
theorem M0{B F:Ac}{w:World}(hs:Sat (B*F) w):M7 B F (Ob,4) (.returned (.tuple #[.agg #[.bool false,.slice none 0 0,.slice none 0 0],.int .i64 4])) w:=
 ⟨_,1,rfl,⟨_,_,rfl,Al.nil 4 _,Al.nil 4 _⟩,by rw[Am];exact hs⟩
theorem Rl(g:Int)(v:Value)(B F:Ac)(w:World)(k:Reads B v [])(hs:Sat (B*F) w):
 Calls Tryz.prog 160 #[.int .i64 g,v] w (M7 B F (Ob,4)):=by
 obtain ⟨n,o,rfl,l,m⟩:=(k F w hs).len
 haveI:=hs.i
 have d:=fun F w h=>GF (.slice n ([]:List UInt8).length o) [] B F w k h (by simp)
 have b:=fun R a c F w h=>Xx R a c [] 0 1 F w h (by simp) (by simp) (by simp) (by omega) (by omega)
 go_enter Tryz.func160,Tryz.ntmps160
 go_wp2_with fail
 refine (d _ _ (Ae B)).mono ?_
 rintro e p ⟨R,a,c,rfl,f⟩
 haveI:=f.i
 clear hs d
 go_wp2_with fail
 refine (b R a c _ _ (Ae (DI R a c [] 0))).mono ?_
 rintro e q ⟨rfl,j⟩
 haveI:=j.i
 clear f b
 go_wp2
 go_returns
 exact M0 (Av B F)
theorem Rj(b:Int)(x:UInt8)(rest:List UInt8)(v:Value)(B F:Ac)(w:World)(k:Reads B v (x::rest))(hs:Sat (B*F) w)(hl:(x::rest).length≤1099511627776)(l:b≠1)(n:b≠2):
 Calls Tryz.prog 160 #[.int .i64 b,v] w (M7 B F (Ob,4)):=by
 obtain ⟨q,r,rfl,o,p⟩:=(k F w hs).len
 haveI:=hs.i
 have f:=fun F w h=>GF (.slice q (x::rest).length r) (x::rest) B F w k h hl
 have d:=fun R a c F w h=>DF R a c (x::rest) 0 1 F w h hl (by simp) (by omega) (by omega)
 obtain ⟨m,hm⟩: ∃m,EI (((x::rest).drop 0).take 1)=m:=⟨_,rfl⟩
 rw[hm] at d
 have s:(b !=1)=true:=by simp[l]
 have t:(b !=2)=true:=by simp[n]
 clear hm
 go_enter Tryz.func160,Tryz.ntmps160
 go_wp2_with fail
 refine (f _ _ (Ae B)).mono ?_
 rintro e u ⟨R,a,c,rfl,g⟩
 haveI:=g.i
 clear hs f
 go_wp2_with fail
 refine (d R a c _ _ (Ae (DI R a c (x::rest) 0))).mono ?_
 rintro e y ⟨rfl,j⟩
 haveI:=j.i
 clear g d
 go_wp2
 go_returns
 exact M0 (Av B F)
theorem Nr(q j:Int)(x:UInt8)(rest:List UInt8)(v:Value)(B F:Ac)(w:World)(y:Reads B v (x::rest))(hs:Sat (B*F) w)(hl:(x::rest).length≤1099511627776)(H:q=1∧j=13∨q=2∧j=16)(h:(rest.length:Int)≠x.toNat*j):
 Calls Tryz.prog 160 #[.int .i64 q,v] w (M7 B F (Ob,4)):=by
 obtain ⟨K,L,rfl,I,J⟩:=(y F w hs).len
 haveI:=hs.i
 have k:=fun F w h=>GF (.slice K (x::rest).length L) (x::rest) B F w y h hl
 have d:=fun R a c F w h=>DF R a c (x::rest) 0 1 F w h hl (by simp) (by omega) (by omega)
 have b:=fun R a c F w h=>Hy R a c (x::rest) 1 F w h (by simp) hl
 have hm:EI (((x::rest).drop 0).take 1)=x.toNat:=by simp[EI]
 have hx:=x.toNat_lt
 rw[hm] at d
 have D:(x::rest).length-1=rest.length:=by simp
 rw[D] at b
 obtain ⟨l,s⟩: ∃l,x::rest=l:=⟨_,rfl⟩
 obtain ⟨m,t⟩: ∃m,x.toNat=m:=⟨_,rfl⟩
 obtain ⟨n,G⟩: ∃n,rest.length=n:=⟨_,rfl⟩
 rw[s] at k d b y hl⊢
 rw[t] at d h hx
 rw[G] at b h
 clear hm D s t G
 rcases H with ⟨rfl,rfl⟩|⟨rfl,rfl⟩
 ·have g:((n:Int) !=(m:Int)*13)=true:=by simp only[bne_iff_ne,ne_eq];exact h
  have u:(m:Int)*13≤3315:=by omega
  go_enter Tryz.func160,Tryz.ntmps160
  go_wp2_with fail
  refine (k _ _ (Ae B)).mono ?_
  rintro e M ⟨R,a,c,rfl,o⟩
  haveI:=o.i
  clear hs k
  go_wp2_with fail
  refine (d R a c _ _ (Ae (DI R a c l 0))).mono ?_
  rintro e z ⟨rfl,p⟩
  have f:Sat (DI R a c l 1*(B*(Sl.block w.heap.size Ev [.bool false,.slice none 0 0,.slice none 0 0]*F))) z:=p
  clear o d p
  haveI:=f.i
  go_wp2_with fail
  refine (b R a c _ _ (Ae (DI R a c l 1))).mono ?_
  rintro e O ⟨rfl,r⟩
  haveI:=r.i
  clear f b
  go_wp2
  go_returns
  exact M0 (Av B F)
 have g:((n:Int) !=(m:Int)*16)=true:=by simp only[bne_iff_ne,ne_eq];exact h
 have u:(m:Int)*16≤4080:=by omega
 go_enter Tryz.func160,Tryz.ntmps160
 go_wp2_with fail
 refine (k _ _ (Ae B)).mono ?_
 rintro e M ⟨R,a,c,rfl,o⟩
 haveI:=o.i
 clear hs k
 go_wp2_with fail
 refine (d R a c _ _ (Ae (DI R a c l 0))).mono ?_
 rintro e z ⟨rfl,p⟩
 have f:Sat (DI R a c l 1*(B*(Sl.block w.heap.size Ev [.bool false,.slice none 0 0,.slice none 0 0]*F))) z:=p
 clear o d p
 haveI:=f.i
 go_wp2_with fail
 refine (b R a c _ _ (Ae (DI R a c l 1))).mono ?_
 rintro e O ⟨rfl,r⟩
 haveI:=r.i
 clear f b
 go_wp2
 go_returns
 exact M0 (Av B F)
theorem SZ(a:Int)(b:List UInt8)(v:Value)(B F:Ac)(w:World)(f:Reads B v b)(hs:Sat (B*F) w)(hl:b.length≤1099511627776):
 Calls Tryz.prog 160 #[.int .i64 a,v] w (M7 B F (Fy a b)):=by
 cases b with
 |nil=>exact Rl a v B F w f hs
 | cons x rest =>
  unfold Fy
  simp only
  by_cases i:a≠1∧a≠2
  ·rw[if_pos i]
   exact Rj a x rest v B F w f hs hl i.1 i.2
  rw[if_neg i]
  by_cases c:a=1
  ·subst c
   simp only[if_true]
   by_cases g:rest.length≠x.toNat*13
   ·rw[if_pos g]
    exact Nr 1 13 x rest v B F w f hs hl (.inl ⟨rfl,rfl⟩) (by omega)
   rw[if_neg g]
   refine (Rk x rest v B F w f hs (by omega)).mono ?_
   rintro e j ⟨v',G,rfl,c,d⟩
   cases hm:may ⟨true,IY x.toNat rest,[]⟩ with
   |true=>rw[hm] at c;rw[if_pos rfl] at c⊢;exact ⟨v',G,by simp,c,d⟩
   |false=>rw[hm] at c;rw[if_neg (by simp)] at c⊢;exact ⟨v',G,by simp,c,d⟩
  have d:a=2:=by omega
  subst d
  simp only[show¬(2:Int)=1 by omega,if_false]
  by_cases g:rest.length≠x.toNat*16
  ·rw[if_pos g]
   exact Nr 2 16 x rest v B F w f hs hl (.inr ⟨rfl,rfl⟩) (by omega)
  rw[if_neg g]
  refine (PX x rest v B F w f hs (by omega)).mono ?_
  rintro e j ⟨v',G,rfl,c,d⟩
  cases hm:may ⟨false,[],IZ x.toNat rest⟩ with
  |true=>rw[hm] at c;rw[if_pos rfl] at c⊢;exact ⟨v',G,by simp,c,d⟩
  |false=>rw[hm] at c;rw[if_neg (by simp)] at c⊢;exact ⟨v',G,by simp,c,d⟩
