/- censusPages holds for every input. No condition. (part 54) -/
import Derived.Test.YtfhbmblbidcmmaaGreatVa53
set_option linter.all false
set_option maxRecDepth 100000
set_option maxHeartbeats 3200000
namespace Go.Tr
theorem T2{x:Ar}(h:Ai x=true){a n:Int}(h0:0≤a)(h1:1≤n)(b:a+n≤x.len):Ai (CJ x a n)=true:=by grind [Cl,CJ]
theorem JT: ∀(l:List Ar)(n:Int),(∀x∈l,Ai x=true)→(∀x∈(first l n).1,Ai x=true)∧(∀x∈(first l n).2,Ai x=true)
 | [],n,_=>by simp[first]
 | x :: l, n, hm => by
  have a:=JT l (n-x.len) fun y hy=>hm y (List.mem_cons_of_mem _ hy)
  have hx:=hm x List.mem_cons_self
  rw[Gg]
  split
  ·simp_all
  split
  ·simp_all
  exact ⟨fun y hy=>by rcases List.mem_cons.1 hy with rfl|hy;exact T2 hx (by omega) (by omega) (by omega);exact a.1 y hy,fun y hy=>by rcases List.mem_cons.1 hy with rfl|hy;exact T2 hx (by omega) (by omega) (by omega);exact a.2 y hy⟩
theorem Mv: ∀(l:List Ar)(n:Int),Aa (first l n).1+Aa (first l n).2=Aa l
 | [],n=>by simp[first,Aa]
 | x :: l, n => by
  have a:=Mv l (n-x.len)
  rw[Gg,Bu]
  split
  ·grind [Bu]
  split
  ·grind [Bu]
  simp only[Bu];unfold CJ;simp only;omega
theorem Nh(l:List Ar)(n:Int)(hm: ∀x∈l,Ai x=true)(h0:0≤n)(h1:n≤Aa l):Aa (first l n).1=n:=by induction l generalizing n with
 |nil=>simp[Aa] at h1;simp[first,Aa];omega
 | cons x l c =>
  rw[Gg]
  split
  ·grind [Bu]
  rename_i b
  have a:=EG l (n-x.len) (by omega) fun y hy=>hm y (List.mem_cons_of_mem _ hy)
  split
  ·simp only[a]
   grind [Aa]
  simp[a,CJ,Aa]
theorem PI{l put:List Ar}{at_ n:Int}(hm: ∀x∈l,Ai x=true)(hp: ∀x∈put,Ai x=true)(h0:0≤at_)(a:0≤n)(h1:at_+n≤Aa l):
 (∀x∈(first l at_).1++put++(first (first l at_).2 n).2,Ai x=true)∧Aa ((first l at_).1++put++(first (first l at_).2 n).2)=Aa l-n+Aa put:=by
 have m1:=JT l at_ hm
 have b:=JT (first l at_).2 n m1.2
 have s1:=Mv l at_
 have s2:=Mv (first l at_).2 n
 have c:=Nh l at_ hm h0 (by omega)
 have b2:=Nh (first l at_).2 n m1.2 a (by omega)
 refine ⟨fun x hx=>?_,?_⟩
 ·rcases List.mem_append.1 hx with hx|hx
  ·rcases List.mem_append.1 hx with hx|hx
   ·exact m1.1 x hx
   exact hp x hx
  exact b.2 x hx
 rw[An,An]
 omega
end Go.Tr
namespace Go.Proofs.YtfhbmblbidcmmaaGreat
open Go.Tr
def Gc(l:List Ar):Prop:=Fit l∧AH l
theorem QI{l:List Ar}(h: ∀x∈l,Ai x=true)(hb:Aa l≤1048576)(hl: ¬1024<(join l).length):Gc (join l):=⟨⟨OP h hb,by rw[Jl];exact hb,by omega⟩,TX l⟩
theorem Tx{l:List Ar}(h:(CV l).1=0):Gc (CV l).2:=by
 unfold CV at h⊢
 by_cases hm:Bf l=false
 ·simp_all
 rw[if_neg hm] at h⊢
 by_cases a:1024<(join l).length
 ·simp_all
 rw[if_neg a]
 obtain ⟨h1,b⟩:=Cz (by simpa using hm)
 exact QI h1 b a
theorem SU{l put:List Ar}{at_ n:Int}(hl:Gc l)(h:(Cn l at_ n put).1=0):Gc (Cn l at_ n put).2:=by
 unfold Cn at h⊢
 by_cases hm:Bf put=false
 ·simp_all
 rw[if_neg hm] at h⊢
 by_cases b:at_<0∨n<0∨Aa l<at_∨Aa l-at_<n
 ·simp_all
 rw[if_neg b] at h⊢
 by_cases hb:1048576<Aa l-n+Aa put
 ·simp_all
 rw[if_neg hb] at h⊢
 by_cases c:n=0∧put= []
 ·simp_all
 rw[if_neg c] at h⊢
 by_cases a:1024<(Er l at_ n put).length
 ·simp_all
 rw[if_neg a]
 obtain ⟨h1,e⟩:=Cz (by simpa using hm:Bf put=true)
 obtain ⟨d,f⟩:=PI (n:=n) (at_:=at_) hl.1.1 h1 (by omega) (by omega) (by omega)
 exact QI d (by omega) a
open Go.Dk Go.RowKit Go.Sl
def Hc(b B F:Ab)(r:Int×List Ar)(e:Ending)(d:World):Prop:= ∃(a:Option Addr)(c:Nat)(G:Ab),e= .returned (.tuple #[.slice a r.2.length c,.int .i64 r.1])∧Au (G*b) (.slice a r.2.length c) r.2∧Sat (G*(B*F)) d
theorem Cj{a B F:Ab}{n:Int}{w:World}(hs:Sat (B*F) w):Hc a B F (n,[]) (.returned (.tuple #[.slice none 0 0,.int .i64 n])) w:=⟨none,0,1,rfl,Aj.nil 4 _,by rw[Aw];exact hs⟩
theorem WO(l:List Ar)(v:Value)(B F:Ab)(w:World)(q:Au B v l)(hs:Sat (B*F) w)(hl:l.length≤65536):
 Calls Tryz.prog 114 #[v] w (Hc B B F (CV l)):=by
 have d:=fun F w h=>PC l v B F w q h hl
 unfold CV
 by_cases hm:Bf l=false
 ·rw[if_pos hm]
  rw[hm] at d
  go_enter Tryz.func114,Tryz.ntmps114
  go_wp2_with fail
  refine (d _ _ hs).mono ?_
  rintro e s ⟨rfl,f⟩
  go_wp2
  go_ret2
  exact Cj f
 rw[if_neg hm]
 have j:Bf l=true:=by simpa using hm
 rw[j] at d
 obtain ⟨h1,p⟩:=Cz j
 have b:=fun F w h=>MM l v B F w q h (by omega) h1 (by omega)
 by_cases i:1024<(join l).length
 ·rw[if_pos i]
  obtain ⟨n,g⟩:=Aq ((join l).length)
  rw[g] at i b
  have o:(1024:Int)<n:=by omega
  clear h1 p g
  go_enter Tryz.func114,Tryz.ntmps114
  go_wp2_with fail
  refine (d _ _ hs).mono ?_
  rintro e s ⟨rfl,f⟩
  clear hs
  go_wp2_with fail
  refine (b _ _ f).mono ?_
  rintro e t ⟨a,c,rfl,k⟩
  clear f
  go_wp2
  go_ret2
  exact Cj k.right
 rw[if_neg i]
 obtain ⟨R,r⟩:=Aq (join l)
 rw[r] at i b⊢
 obtain ⟨n,g⟩:=Aq R.length
 have m:Aside (R.length=n):=g
 rw[g] at i b
 have o: ¬(1024:Int)<n:=by omega
 clear h1 p g r
 go_enter Tryz.func114,Tryz.ntmps114
 go_wp2_with fail
 refine (d _ _ hs).mono ?_
 rintro e s ⟨rfl,f⟩
 clear hs
 go_wp2_with fail
 refine (b _ _ f).mono ?_
 rintro e t ⟨a,c,rfl,k⟩
 clear f
 go_wp2
 go_ret2
 refine ⟨a,c,_,by rw[m.out];rfl,Aj.left (DJ (by simp only;rw[m.out];exact k) rfl),?_⟩
 simp only
 rw[m.out]
 exact k
theorem dF{a:Option Addr}{c:Nat}(l:List Ar)(n:Nat)(b:l.length=n): ∀(F:Ab)(w:World),Sat (rw AG 4 (.slice a n c) (AO l)*F) w→Src Tryz.prog 4 w (.slice a n c) n (AO l):=fun F w h=>by
 subst b
 exact Aj.src (DJ h rfl) (Ip l) h
theorem Vj(l put:List Ar)(at_ n:Int)(v vp:Value)(B0 B F:Ab)(w:World)(aj:Au B0 v l)(hE:Au B v l)(hP:Au B vp put)(hs:Sat (B*F) w)(hg:Gc l)(cb:put.length≤1000):
 Calls Tryz.prog 40 #[v,.int .i64 at_,.int .i64 n,vp] w (Hc B0 B F (Cn l at_ n put)):=by
 obtain ⟨⟨Q,b8,bx⟩,bw⟩:=hg
 have d:=fun F w h=>PC put vp B F w hP h (by omega)
 have f:=fun F w h=>Kf l v B F w hE h (by omega) fun x hx=>by have:=Cq (Q x hx);omega
 unfold Cn
 by_cases hm:Bf put=false
 · rw[if_pos hm]
   rw[hm] at d
   go_enter Tryz.func40,Tryz.ntmps40
   go_wp2_with fail
   refine (d _ _ hs).mono ?_
   rintro e w1 ⟨rfl,G⟩
   go_wp2
   go_ret2
   exact Cj G
 rw[if_neg hm]
 have an:Bf put=true:=by simpa using hm
 rw[an] at d
 obtain ⟨ad,c5⟩:=Cz an
 have m:=fun F w h=>Kf put vp B F w hP h (by omega) fun x hx=>by have:=Cq (ad x hx);omega
 have bz:=(GJ (o:=put) fun y hy=>(Lj.of (ad y hy)).1).1
 have be:=(GJ (o:=l) fun y hy=>(Lj.of (Q y hy)).1).1
 by_cases hc:at_<0∨n<0∨Aa l<at_∨Aa l-at_<n
 · rw[if_pos hc]
   obtain ⟨z,hz⟩:=Aq (Aa l)
   rw[hz] at hc f be b8
   by_cases c1:at_<0
   · go_enter Tryz.func40,Tryz.ntmps40
     go_wp2_with fail
     refine (d _ _ hs).mono ?_
     rintro e w1 ⟨rfl,G⟩
     go_wp2_with fail
     refine (f _ _ G).mono ?_
     rintro e w2 ⟨rfl,I⟩
     go_wp2
     go_ret2
     exact Cj I
   by_cases c2:n<0
   · go_enter Tryz.func40,Tryz.ntmps40
     go_wp2_with fail
     refine (d _ _ hs).mono ?_
     rintro e w1 ⟨rfl,G⟩
     go_wp2_with fail
     refine (f _ _ G).mono ?_
     rintro e w2 ⟨rfl,I⟩
     go_wp2
     go_ret2
     exact Cj I
   by_cases c3:z<at_
   · go_enter Tryz.func40,Tryz.ntmps40
     go_wp2_with fail
     refine (d _ _ hs).mono ?_
     rintro e w1 ⟨rfl,G⟩
     go_wp2_with fail
     refine (f _ _ G).mono ?_
     rintro e w2 ⟨rfl,I⟩
     go_wp2
     go_ret2
     exact Cj I
   have c4:z-at_<n:=by omega
   have hw:=Bg (z-at_) (by omega)
   go_enter Tryz.func40,Tryz.ntmps40
   go_wp2_with fail
   refine (d _ _ hs).mono ?_
   rintro e w1 ⟨rfl,G⟩
   go_wp2_with fail
   refine (f _ _ G).mono ?_
   rintro e w2 ⟨rfl,I⟩
   go_wp2
   go_ret2
   exact Cj I
 rw[if_neg hc]
 have c1:0≤at_:=by omega
 have c2:0≤n:=by omega
 have c3:at_≤Aa l:=by omega
 have c4:n≤Aa l-at_:=by omega
 obtain ⟨b6,b7⟩:=PI (n:=n) (at_:=at_) Q ad c1 c2 (by omega)
 have HO:Aside ((∀x∈(first l at_).1++put++(first (first l at_).2 n).2,Ai x=true)∧Aa ((first l at_).1++put++(first (first l at_).2 n).2)≤1099511627776):=⟨b6,by rw[b7];omega⟩
 have HM:Aside ((∀x∈l,Ai x=true)∧(∀x∈(first l at_).2,Ai x=true)):=⟨Q,(JT l at_ Q).2⟩
 have O:Aside ((first l at_).1.length≤1024∧(first l at_).2.length≤1024∧(first (first l at_).2 n).1.length≤1024∧(first (first l at_).2 n).2.length≤1024):=by
  have h1:=Mu l at_
  have h2:=Mu (first l at_).2 n
  exact ⟨by omega,by omega,by omega,by omega⟩
 unfold Er
 obtain ⟨z,hz⟩:=Aq (Aa l)
 obtain ⟨pz,ba⟩:=Aq (Aa put)
 rw[hz] at f be b8 c3 c4⊢
 rw[ba] at m bz c5⊢
 have hw1:=Bg (z-at_) (by omega)
 have hw2:=Bg (z-n) (by omega)
 have hw3:=Bg (z-n+pz) (by omega)
 have d1: ¬at_<0:=by omega
 have d2: ¬n<0:=by omega
 have d3: ¬z<at_:=by omega
 have d4: ¬z-at_<n:=by omega
 clear hc b6 b7 hz ba bw hm an Q ad
 by_cases hb:1048576<z-n+pz
 · rw[if_pos hb]
   go_enter Tryz.func40,Tryz.ntmps40
   go_wp2_with fail
   refine (d _ _ hs).mono ?_
   rintro e w1 ⟨rfl,G⟩
   go_wp2_with fail
   refine (f _ _ G).mono ?_
   rintro e w2 ⟨rfl,I⟩
   go_wp2_with fail
   refine (m _ _ I).mono ?_
   rintro e w3 ⟨rfl,q3⟩
   go_wp2
   go_ret2
   exact Cj q3
 rw[if_neg hb]
 obtain ⟨ap,cp,rfl,c0,d8⟩:=hP.v
 obtain ⟨np,H⟩:=Aq put.length
 by_cases Z:n=0∧put= []
 · rw[if_pos Z]
   obtain ⟨rfl,ca⟩:=Z
   obtain rfl:np=0:=by rw[←H,ca];rfl
   rw[H] at d m⊢
   obtain ⟨al,cl,rfl,d6,d7⟩:=hE.v
   have HE:Aside (Au B0 (.slice al l.length cl) l):=aj
   clear aj hE hP HO HM O
   go_enter Tryz.func40,Tryz.ntmps40
   go_wp2_with fail
   refine (d _ _ hs).mono ?_
   rintro e w1 ⟨rfl,G⟩
   go_wp2_with fail
   refine (f _ _ G).mono ?_
   rintro e w2 ⟨rfl,I⟩
   go_wp2_with fail
   refine (m _ _ I).mono ?_
   rintro e w3 ⟨rfl,q3⟩
   go_wp2
   go_ret2
   exact ⟨al,cl,1,rfl,Aj.right HE.out,by rw[Aw];exact q3⟩
 rw[if_neg Z]
 obtain ⟨i0,E⟩:=EW
 have SP:Aside (∀(F:Ab)(w:World),Sat (B*F) w→Src Tryz.prog 4 w (.slice ap np cp) np (AO put)):=fun F w h=>by
  rw[←H]
  exact Aj.src hP (Ip put) h
 obtain ⟨L,hL⟩:=Aq ((first l at_).1)
 obtain ⟨R,hR⟩:=Aq ((first l at_).2)
 obtain ⟨M,hM⟩:=Aq ((first R n).1)
 obtain ⟨K,hK⟩:=Aq ((first R n).2)
 have k:=fun F w h=>PA l at_ v B F w hE h (by omega) HM.out.1 (by omega) (by omega)
 have j:=fun a c F w (h:Sat (rw AG 4 (.slice a R.length c) (AO R)*F) w)=>PA R n _ _ F w (DJ h rfl) h (by have:=O.out.2.1;rw[hR] at this;omega) (by have:=HM.out.2;rw[hR] at this;exact this) (by omega) (by omega)
 rw[hL,hR] at k
 rw[hM,hK] at j
 rw[hL,hR,hK] at HO
 rw[hL,hR,hM,hK] at O
 rw[hL,hR,hK]
 obtain ⟨t,Y⟩:=Aq L.length
 obtain ⟨nR,ac⟩:=Aq R.length
 obtain ⟨nM,aq⟩:=Aq M.length
 obtain ⟨nK,X⟩:=Aq K.length
 have SL:Aside (∀(a:Option Addr)(c:Nat)(F:Ab)(w:World),Sat (rw AG 4 (.slice a t c) (AO L)*F) w→Src Tryz.prog 4 w (.slice a t c) t (AO L)):=fun a c=>dF L t Y
 have SK:Aside (∀(a:Option Addr)(c:Nat)(F:Ab)(w:World),Sat (rw AG 4 (.slice a nK c) (AO K)*F) w→Src Tryz.prog 4 w (.slice a nK c) nK (AO K)):=fun a c=>dF K nK X
 have q:=fun a c F w (h:Sat (rw AG 4 (.slice a (t+np+nK) c) (AO L++AO put++AO K)*F) w)=>MM (L++put++K) (.slice a (t+np+nK) c) (rw AG 4 (.slice a (t+np+nK) c) (AO L++AO put++AO K)) F w
  (by
    have e1:AO (L++put++K)=AO L++AO put++AO K:=by simp[AO]
    have e2:(L++put++K).length=t+np+nK:=by rw[List.length_append,List.length_append,Y,H,X]
    rw[←e1] at h⊢
    exact DJ h e2.symm) h (by have:=O.out;rw[List.length_append,List.length_append];omega) HO.out.1 HO.out.2
 rw[Y,ac] at k
 rw[ac] at j
 rw[aq,X] at j
 have bu:=O.out
 rw[Y,ac,aq,X] at bu
 have cm:np≤1000:=by omega
 obtain ⟨J,hJ⟩:=Aq (join (L++put++K))
 rw[hJ] at q⊢
 obtain ⟨D,ao⟩:=Aq J.length
 have b:Aside (J.length=D):=ao
 obtain ⟨RR,am⟩: ∃r:Int×List Ar,(if 1024<J.length then (11,[]) else (0,J))=r:=⟨_,rfl⟩
 rw[am]
 have P:Aside ((if 1024<J.length then ((11:Int),([]:List Ar)) else (0,J))=RR):=am
 clear am
 rw[ao] at q
 rw[H] at d m c0⊢
 have bt:Aside (n≠0∨np≠0):=by
  rcases Classical.em (n=0) with h1|h1
  · right
    intro h2
    exact Z ⟨h1,List.length_eq_zero_iff.1 (by rw[H,h2])⟩
  exact .inl h1
 clear Z hL hR hM hK Y ac aq X H ao hJ O HO HM aj hE hP cb bx
 obtain ⟨xL,bc⟩:=Aq (AO L)
 obtain ⟨xP,bd⟩:=Aq (AO put)
 obtain ⟨xK,bb⟩:=Aq (AO K)
 rw[bc] at k SL q
 rw[bd] at SP q
 rw[bb] at j SK q
 clear bc bd bb
 go_enter Tryz.func40,Tryz.ntmps40
 go_wp2_with fail
 refine (d _ _ hs).mono ?_
 rintro e w1 ⟨rfl,G⟩
 go_wp2_with fail
 refine (f _ _ G).mono ?_
 rintro e w2 ⟨rfl,I⟩
 go_wp2_with fail
 refine (m _ _ I).mono ?_
 rintro e w3 ⟨rfl,q3⟩
 clear hs G I
 rcases bt.out with hz|hz
 · have cc:(n==0)=false:=by simp[hz]
   go_wp2_with fail
   refine (k _ _ q3).mono ?_
   rintro e w4 ⟨a1,U,a2,p,rfl,q4⟩
   haveI:=q4.i
   clear q3 k d f m
   go_wp2_with fail
   refine (j a2 p _ _ (Ae (rw AG 4 (.slice a2 nR p) (AO R)))).mono ?_
   rintro e w5 ⟨a3,b2,a4,V,rfl,q5⟩
   haveI:=q5.i
   clear q4 j
   go_wp2_with (first
    |(at_builtin;refine Af E rfl (.tmp 66) (.tmp 67) rfl rfl rfl (Sat.AE (e:=AG) (s:=4) ES) (SL.out _ _ _ _ (Ae (rw AG 4 (.slice a1 t U) xL))) (by unfold maxLen;omega) (by omega) ?_;intro a6 c6 w6 q6 z6;clear z6;rw[List.nil_append] at q6;rw[Nat.zero_add] at q6⊢;haveI:=q6.i)
    |(at_builtin;refine Af E rfl (.tmp 69) (.tmp 70) rfl rfl rfl (Ae (rw AG 4 (.slice a6 t c6) xL)) (SP.out _ _ (Ae B)) (by unfold maxLen;omega) (by omega) ?_;intro a7 c7 w7 q7 z7;clear z7;haveI:=q7.i)
    |(at_builtin;refine Af E rfl (.tmp 72) (.tmp 73) rfl rfl rfl (Ae (rw AG 4 (.slice a7 (t+np) c7) (xL++xP))) (SK.out _ _ _ _ (Ae (rw AG 4 (.slice a4 nK V) xK))) (by unfold maxLen;omega) (by omega) ?_;intro a8 c8 w8 q8 z8;clear z8;haveI:=q8.i))
   refine (q a8 c8 _ _ q8).mono ?_
   rintro e w9 ⟨T,c9,rfl,q9⟩
   haveI:=q9.i
   clear q8
   by_cases hj:1024<D
   · have W:(1024:Int)<D:=by omega
     have g:1024<J.length:=by rw[b.out];exact hj
     go_wp2
     go_ret2
     rw[←P.out,if_pos g]
     exact Cj (Ao B F)
   have W: ¬(1024:Int)<D:=by omega
   have g: ¬1024<J.length:=by rw[b.out];exact hj
   go_wp2
   go_ret2
   rw[←P.out,if_neg g]
   have u:Sat (rw AG 4 (.slice T D c9) (AO J)*(B*F)) w9:=AD _ B F
   refine ⟨T,c9,rw AG 4 (.slice T D c9) (AO J),by simp only;rw[b.out];rfl,Aj.left ?_,u⟩
   have:=DJ u b.out.symm
   unfold Au at this
   rw[b.out] at this
   simp only
   rw[b.out]
   exact this
 have cc:(np==0)=false:=by simp[hz]
 have d9:((np:Int)==0)=false:=by simp[hz]
 by_cases b9:n=0
 · subst b9
   go_wp2_with fail
   refine (k _ _ q3).mono ?_
   rintro e w4 ⟨a1,U,a2,p,rfl,q4⟩
   haveI:=q4.i
   clear q3 k d f m
   go_wp2_with fail
   refine (j a2 p _ _ (Ae (rw AG 4 (.slice a2 nR p) (AO R)))).mono ?_
   rintro e w5 ⟨a3,b2,a4,V,rfl,q5⟩
   haveI:=q5.i
   clear q4 j
   go_wp2_with (first
    |(at_builtin;refine Af E rfl (.tmp 66) (.tmp 67) rfl rfl rfl (Sat.AE (e:=AG) (s:=4) ES) (SL.out _ _ _ _ (Ae (rw AG 4 (.slice a1 t U) xL))) (by unfold maxLen;omega) (by omega) ?_;intro a6 c6 w6 q6 z6;clear z6;rw[List.nil_append] at q6;rw[Nat.zero_add] at q6⊢;haveI:=q6.i)
    |(at_builtin;refine Af E rfl (.tmp 69) (.tmp 70) rfl rfl rfl (Ae (rw AG 4 (.slice a6 t c6) xL)) (SP.out _ _ (Ae B)) (by unfold maxLen;omega) (by omega) ?_;intro a7 c7 w7 q7 z7;clear z7;haveI:=q7.i)
    |(at_builtin;refine Af E rfl (.tmp 72) (.tmp 73) rfl rfl rfl (Ae (rw AG 4 (.slice a7 (t+np) c7) (xL++xP))) (SK.out _ _ _ _ (Ae (rw AG 4 (.slice a4 nK V) xK))) (by unfold maxLen;omega) (by omega) ?_;intro a8 c8 w8 q8 z8;clear z8;haveI:=q8.i))
   refine (q a8 c8 _ _ q8).mono ?_
   rintro e w9 ⟨T,c9,rfl,q9⟩
   haveI:=q9.i
   clear q8
   by_cases hj:1024<D
   · have W:(1024:Int)<D:=by omega
     have g:1024<J.length:=by rw[b.out];exact hj
     go_wp2
     go_ret2
     rw[←P.out,if_pos g]
     exact Cj (Ao B F)
   have W: ¬(1024:Int)<D:=by omega
   have g: ¬1024<J.length:=by rw[b.out];exact hj
   go_wp2
   go_ret2
   rw[←P.out,if_neg g]
   have u:Sat (rw AG 4 (.slice T D c9) (AO J)*(B*F)) w9:=AD _ B F
   refine ⟨T,c9,rw AG 4 (.slice T D c9) (AO J),by simp only;rw[b.out];rfl,Aj.left ?_,u⟩
   have:=DJ u b.out.symm
   unfold Au at this
   rw[b.out] at this
   simp only
   rw[b.out]
   exact this
 have da:(n==0)=false:=by simp[b9]
 go_wp2_with fail
 refine (k _ _ q3).mono ?_
 rintro e w4 ⟨a1,U,a2,p,rfl,q4⟩
 haveI:=q4.i
 clear q3 k d f m
 go_wp2_with fail
 refine (j a2 p _ _ (Ae (rw AG 4 (.slice a2 nR p) (AO R)))).mono ?_
 rintro e w5 ⟨a3,b2,a4,V,rfl,q5⟩
 haveI:=q5.i
 clear q4 j
 go_wp2_with (first
  |(at_builtin;refine Af E rfl (.tmp 66) (.tmp 67) rfl rfl rfl (Sat.AE (e:=AG) (s:=4) ES) (SL.out _ _ _ _ (Ae (rw AG 4 (.slice a1 t U) xL))) (by unfold maxLen;omega) (by omega) ?_;intro a6 c6 w6 q6 z6;clear z6;rw[List.nil_append] at q6;rw[Nat.zero_add] at q6⊢;haveI:=q6.i)
  |(at_builtin;refine Af E rfl (.tmp 69) (.tmp 70) rfl rfl rfl (Ae (rw AG 4 (.slice a6 t c6) xL)) (SP.out _ _ (Ae B)) (by unfold maxLen;omega) (by omega) ?_;intro a7 c7 w7 q7 z7;clear z7;haveI:=q7.i)
  |(at_builtin;refine Af E rfl (.tmp 72) (.tmp 73) rfl rfl rfl (Ae (rw AG 4 (.slice a7 (t+np) c7) (xL++xP))) (SK.out _ _ _ _ (Ae (rw AG 4 (.slice a4 nK V) xK))) (by unfold maxLen;omega) (by omega) ?_;intro a8 c8 w8 q8 z8;clear z8;haveI:=q8.i))
 refine (q a8 c8 _ _ q8).mono ?_
 rintro e w9 ⟨T,c9,rfl,q9⟩
 haveI:=q9.i
 clear q8
 by_cases hj:1024<D
 · have W:(1024:Int)<D:=by omega
   have g:1024<J.length:=by rw[b.out];exact hj
   go_wp2
   go_ret2
   rw[←P.out,if_pos g]
   exact Cj (Ao B F)
 have W: ¬(1024:Int)<D:=by omega
 have g: ¬1024<J.length:=by rw[b.out];exact hj
 go_wp2
 go_ret2
 rw[←P.out,if_neg g]
 have u:Sat (rw AG 4 (.slice T D c9) (AO J)*(B*F)) w9:=AD _ B F
 refine ⟨T,c9,rw AG 4 (.slice T D c9) (AO J),by simp only;rw[b.out];rfl,Aj.left ?_,u⟩
 have:=DJ u b.out.symm
 unfold Au at this
 rw[b.out] at this
 simp only
 rw[b.out]
 exact this
open Go.ChangeShapes Go.WideShapes
theorem R4{α:Type}{f:α→List Value} : ∀l:List (List Value),(∀r∈l,∃c,r=f c)→ ∃cs:List α,l=cs.map f
 | [],_=>⟨[],rfl⟩
 | r :: l, hl => by
  obtain ⟨c,rfl⟩:=hl r (by simp)
  obtain ⟨cs,rfl⟩:=R4 l fun b a=>hl b (by simp[a])
  exact ⟨c::cs,rfl⟩
theorem eW{r:List Value}(h:r.length=4): ∃a b c d,r= [a,b,c,d]:=by
 match r,h with
 | [a,b,c,d],_=>exact ⟨a,b,c,d,rfl⟩
theorem WR{w:World}{a:Option Addr}{cap:Nat}{l:List Ar}(h:iT w (.slice a l.length cap) 4 (l.map Dw))(h1:l.length≤cap)(m:cap≤9223372036854775807):Au (Ja w) (.slice a l.length cap) l:=by
 have c:(AO l).length=l.length*4:=My (f:=Dw) (fun _=>rfl) l
 refine ⟨c,a,cap,rfl,h1,m,fun j u k=>?_⟩
 have p:j<l.length*4:=by
  rw[←c]
  exact (List.getElem?_eq_some_iff.1 k).1
 obtain ⟨x,hx⟩: ∃x,l[j/4]?=some x:=⟨_,List.getElem?_eq_getElem (by omega)⟩
 have g:=JU (f:=Dw) (s:=4) (fun _=>rfl) l (j/4) (j%4) x hx (by omega)
 have d:j/4*4+j%4=j:=by omega
 rw[d] at g
 obtain ⟨b,o,rfl,n⟩:=h.at (i:=j/4) (r:=Dw x) (by simp[hx])
 refine ⟨b,o,rfl,?_⟩
 have e:=n (j%4) u (g.symm.trans k)
 rw[Nat.add_assoc,d] at e
 haveI:P' w b (o+j) u:=⟨e⟩
 exact inferInstance
theorem Hf{H:Type}{enc:TypeId×Value→H}{w:World}{b:Nat}{a:Nat→Bool}{d:Bool}{t e:Nat}{r:List Value}{x:DataW H×List MemPlace}{fs:Array Field}
 (s:Tryz.prog.underlying t=some (.struct fs)) (h:DataW.trod enc Tryz.prog w b a d e t r=some x) (i j g c:Nat) (q:(fs[i]?).map (fun f=>(f.type,f.offset))=some (j,g)) (p:Tryz.prog.cellsOf j=c):
 ∃n y,DataW.trod enc Tryz.prog w b a d n j ((r.drop g).take c)=some y:=by
 obtain ⟨_,n,l⟩:=F3 s h
 obtain ⟨f,m,o⟩:=Option.map_eq_some_iff.1 q
 obtain ⟨y,k⟩:=l i f m
 cases o
 rw[p] at k
 exact ⟨n,y,k⟩
theorem Wc{H:Type}{enc:TypeId×Value→H}{w:World}{e:Nat}{d:Nat→Bool}{g:Bool}{a:Option Addr}{len cap:Nat}
 (h: ∃b x,DataW.trod enc Tryz.prog w e d g b 29 [.slice a len cap]=some x):
 ∃l:List Ar,l.length=len∧Au (Ja w) (.slice a len cap) l:=by
 obtain ⟨b,x,hx⟩:=h
 have c:len≤cap∧cap≤maxLen:=by
  rcases DataW.trod_slice Tryz.underlying29 hx with ⟨h0,_⟩|⟨a',u,p,k,rest,n,_,h1,_,_,o,t,_⟩
  ·simp only[List.cons.injEq,Value.slice.injEq,and_true] at h0
   obtain ⟨_,rfl,rfl⟩:=h0
   exact ⟨Nat.le_refl _,by unfold maxLen;decide⟩
  simp only[List.cons.injEq,Value.slice.injEq,and_true] at h1
  obtain ⟨_,rfl,rfl⟩:=h1
  exact ⟨o,t⟩
 have q:Tryz.prog.cellsOf AG=4:=by kernel_rfl
 have v:Tryz.prog.cellsOf 75=3:=by kernel_rfl
 have j:Tryz.prog.cellsOf 3=1:=by kernel_rfl
 obtain ⟨I,h1,o,t,G⟩:=IJ (s:=4) Tryz.underlying29 q (by omega) hx
 obtain ⟨l,rfl⟩:=R4 (f:=Dw) I (by
  intro r hr
  obtain ⟨n,y,hy⟩:=G r hr
  obtain ⟨hl,n',O⟩:=F3 Tryz.underlying77 hy
  obtain ⟨v0,v1,v2,v3,rfl⟩:=eW (hl.trans q)
  obtain ⟨_,P,m⟩:=Hf Tryz.underlying77 hy 0 75 0 3 rfl v
  obtain ⟨_,Q,z⟩:=Hf Tryz.underlying77 hy 1 3 3 1 rfl j
  obtain ⟨_,R,g0⟩:=Hf Tryz.underlying75 m 0 3 0 1 rfl j
  obtain ⟨_,T,B⟩:=Hf Tryz.underlying75 m 1 3 1 1 rfl j
  obtain ⟨_,U,D⟩:=Hf Tryz.underlying75 m 2 3 2 1 rfl j
  obtain ⟨J,rfl,_⟩:=De Tryz.underlying3 g0
  obtain ⟨K,rfl,_⟩:=De Tryz.underlying3 B
  obtain ⟨L,rfl,_⟩:=De Tryz.underlying3 D
  obtain ⟨M,rfl,_⟩:=De Tryz.underlying3 z
  exact ⟨⟨J,K,L,M⟩,rfl⟩)
 have i:l.length=len:=by simpa using o
 subst i
 exact ⟨l,rfl,WR h1 c.1 c.2⟩
end Go.Proofs.YtfhbmblbidcmmaaGreat
namespace Go.Proofs.YtfhbmblbidcmmaaGreat
open Go.RowKit Go.Sl Go.Dk Go.Tr
variable [En]
abbrev X7:TypeId:=29
theorem jD: ∃i,C8 Tryz.prog 103 X7 1 24 i (.slice none 0 0):=Iq Tryz.underlying103 (by kernel_rfl) rfl (by omega)
structure Ml (s:TS) (ms:List (Int×List Ar)) (vs:List Value) (G:Ab):Prop where
 len:vs.length=ms.length
 each: ∀(i:Nat)(v:Value)(p:Int×List Ar),vs[i]?=some v→ms[i]?=some p→Au G v p.2∧Rt (nodeAt s) p.1 p.2∧Gc p.2
def iJ(ms:List (Int×List Ar)):List Value:=ms.map fun p=> .int .i64 p.1
theorem Ml.more{s s':TS}{ms:List (Int×List Ar)}{vs:List Value}{G d:Ab}(h:Ml s ms vs G)(c:Le (nodeAt s) (nodeAt s')){r:Int}{l:List Ar}{v:Value}(h1:Au (d*G) v l)(e:Rt (nodeAt s') r l)(f:Gc l):
 Ml s' (ms++ [(r,l)]) (vs++ [v]) (d*G):=
 ⟨by rw [List.length_append, List.length_append, h.len]; rfl, fun i u p b a => by
  by_cases hi:i<ms.length
  ·rw[List.getElem?_append_left (by rw[h.len];exact hi)] at b
   rw[List.getElem?_append_left hi] at a
   obtain ⟨m1,j,m3⟩:=h.each i u p b a
   exact ⟨Aj.right m1,j.le c,m3⟩
  rw[List.getElem?_append_right (by rw[h.len];omega),h.len] at b
  rw[List.getElem?_append_right (by omega)] at a
  by_cases g:i-ms.length=0
  ·rw[g] at b a
   cases b
   cases a
   exact ⟨h1,e,f⟩
  rw[List.getElem?_eq_none (by simp;omega)] at a
  cases a⟩
theorem Ml.at{s:TS}{ms:List (Int×List Ar)}{vs:List Value}{G:Ab}(h:Ml s ms vs G){i:Nat}(hi:i<ms.length): ∃v r l,vs[i]?=some v∧(iJ ms)[i]?=some (.int .i64 r)∧Au G v l∧Rt (nodeAt s) r l∧Gc l∧ms[i]?=some (r,l):=by
 obtain ⟨v,a⟩: ∃v,vs[i]?=some v:=⟨_,List.getElem?_eq_getElem (by rw[h.len];exact hi)⟩
 obtain ⟨⟨r,l⟩,hp⟩: ∃p,ms[i]?=some p:=⟨_,List.getElem?_eq_getElem hi⟩
 obtain ⟨b,c,d⟩:=h.each i v _ a hp
 exact ⟨v,r,l,a,by unfold iJ;rw[List.getElem?_map,hp];rfl,b,c,d,hp⟩
end Go.Proofs.YtfhbmblbidcmmaaGreat
namespace Go.Proofs.YtfhbmblbidcmmaaGreat
open Go.RowKit Go.Sl Go.Dk Go.Tr
variable [En]
end Go.Proofs.YtfhbmblbidcmmaaGreat
namespace Go.Proofs.YtfhbmblbidcmmaaGreat
open Go.RowKit Go.Sl Go.Dk Go.Tr
theorem Vq(A B C:Ab):A*(B*C)=B*(A*C):=by ac_rfl
theorem jJ{A R1 R2 f g i j k l m a:Ab}{w:World}[h:AV A w](c d e n o p q r s b:Ab)[t1:Take A c R1][t2:Take R1 d R2][t3:Take R2 e f][t4:Take f n g][t5:Take g o i][t6:Take i p j][t7:Take j q k][t8:Take k r l][t9:Take l s m][t10:Take m b a]:Sat (c*(d*(e*(n*(o*(p*(q*(r*(s*b))))))))) w:=Sat.Dn (B:=a) ((h.out.K1 c d e).eq (by rw[t4.out,t5.out,t6.out,t7.out,t8.out,t9.out,t10.out];ac_rfl))
theorem VV{l:List Ar}(h:(CV l).1≠0):(CV l).2= []:=by
 unfold CV at h⊢
 by_cases hm:Bf l=false
 ·rw[if_pos hm]
 rw[if_neg hm] at h⊢
 by_cases a:1024<(join l).length
 ·rw[if_pos a]
 rw[if_neg a] at h;exact absurd rfl h
variable [En]
