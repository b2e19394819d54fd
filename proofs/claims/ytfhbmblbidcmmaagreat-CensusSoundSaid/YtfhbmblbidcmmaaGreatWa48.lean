/- censusSound holds for every input. No condition. (part 48) -/
import Derived.Test.YtfhbmblbidcmmaaGreatWa47
import Derived.Test.YtfhbmblbidcmmaaGreatWa41
set_option linter.all false
set_option maxRecDepth 100000
set_option maxHeartbeats 12800000
namespace Go.Tr
theorem Tv{x:Av}(h:Ah x=true){a n:Int}(h0:0≤a)(h1:1≤n)(b:a+n≤x.len):Ah (C5 x a n)=true:=by grind [Cb,C5]
theorem JW: ∀(l:List Av)(n:Int),(∀x∈l,Ah x=true)→(∀x∈(first l n).1,Ah x=true)∧(∀x∈(first l n).2,Ah x=true)
 | [],n,_=>by simp[first]
 | x :: l, n, hm => by
  have a:=JW l (n-x.len) fun y hy=>hm y (List.mem_cons_of_mem _ hy)
  have hx:=hm x List.mem_cons_self
  rw[Gb]
  split
  ·simp_all
  split
  ·simp_all
  exact ⟨fun y hy=>by rcases List.mem_cons.1 hy with rfl|hy;exact Tv hx (by omega) (by omega) (by omega);exact a.1 y hy,fun y hy=>by rcases List.mem_cons.1 hy with rfl|hy;exact Tv hx (by omega) (by omega) (by omega);exact a.2 y hy⟩
theorem Mx: ∀(l:List Av)(n:Int),Aa (first l n).1+Aa (first l n).2=Aa l
 | [],n=>by simp[first,Aa]
 | x :: l, n => by
  have a:=Mx l (n-x.len)
  rw[Gb,Bt]
  split
  ·grind [Bt]
  split
  ·grind [Bt]
  simp only[Bt];unfold C5;simp only;omega
theorem Nh(l:List Av)(n:Int)(hm: ∀x∈l,Ah x=true)(h0:0≤n)(h1:n≤Aa l):Aa (first l n).1=n:=by induction l generalizing n with
 |nil=>simp[Aa] at h1;simp[first,Aa];omega
 | cons x l c =>
  rw[Gb]
  split
  ·grind [Bt]
  rename_i b
  have a:=EF l (n-x.len) (by omega) fun y hy=>hm y (List.mem_cons_of_mem _ hy)
  split
  ·simp only[a]
   grind [Aa]
  simp[a,C5,Aa]
theorem PE{l put:List Av}{at_ n:Int}(hm: ∀x∈l,Ah x=true)(hp: ∀x∈put,Ah x=true)(h0:0≤at_)(a:0≤n)(h1:at_+n≤Aa l):
 (∀x∈(first l at_).1++put++(first (first l at_).2 n).2,Ah x=true)∧Aa ((first l at_).1++put++(first (first l at_).2 n).2)=Aa l-n+Aa put:=by
 have m1:=JW l at_ hm
 have b:=JW (first l at_).2 n m1.2
 have s1:=Mx l at_
 have s2:=Mx (first l at_).2 n
 have c:=Nh l at_ hm h0 (by omega)
 have b2:=Nh (first l at_).2 n m1.2 a (by omega)
 refine ⟨fun x hx=>?_,?_⟩
 ·rcases List.mem_append.1 hx with hx|hx
  ·rcases List.mem_append.1 hx with hx|hx
   ·exact m1.1 x hx
   exact hp x hx
  exact b.2 x hx
 rw[Ao,Ao]
 omega
end Go.Tr
namespace Go.Proofs.YtfhbmblbidcmmaaGreat
open Go.Tr
def He(l:List Av):Prop:=Fit l∧AL l
theorem QB{l:List Av}(h: ∀x∈l,Ah x=true)(hb:Aa l≤1048576)(hl: ¬1024<(join l).length):He (join l):=⟨⟨ON h hb,by rw[Js];exact hb,by omega⟩,TK l⟩
theorem Tp{l:List Av}(h:(CS l).1=0):He (CS l).2:=by
 unfold CS at h⊢
 by_cases hm:Bk l=false
 ·simp_all
 rw[if_neg hm] at h⊢
 by_cases a:1024<(join l).length
 ·simp_all
 rw[if_neg a]
 obtain ⟨h1,b⟩:=Cw (by simpa using hm)
 exact QB h1 b a
theorem SJ{l put:List Av}{at_ n:Int}(hl:He l)(h:(Co l at_ n put).1=0):He (Co l at_ n put).2:=by
 unfold Co at h⊢
 by_cases hm:Bk put=false
 ·simp_all
 rw[if_neg hm] at h⊢
 by_cases b:at_<0∨n<0∨Aa l<at_∨Aa l-at_<n
 ·simp_all
 rw[if_neg b] at h⊢
 by_cases hb:1048576<Aa l-n+Aa put
 ·simp_all
 rw[if_neg hb] at h⊢
 by_cases c:n=0∧put= []
 ·simp_all
 rw[if_neg c] at h⊢
 by_cases a:1024<(Ep l at_ n put).length
 ·simp_all
 rw[if_neg a]
 obtain ⟨h1,e⟩:=Cw (by simpa using hm:Bk put=true)
 obtain ⟨d,f⟩:=PE (n:=n) (at_:=at_) hl.1.1 h1 (by omega) (by omega) (by omega)
 exact QB d (by omega) a
open Go.Dk Go.RowKit Go.Sl
def Jl(b B F:Ab)(r:Int×List Av)(e:Ending)(d:World):Prop:= ∃(a:Option Addr)(c:Nat)(G:Ab),e= .returned (.tuple #[.slice a r.2.length c,.int .i64 r.1])∧A1 (G*b) (.slice a r.2.length c) r.2∧Sat (G*(B*F)) d
theorem Cm{a B F:Ab}{n:Int}{w:World}(hs:Sat (B*F) w):Jl a B F (n,[]) (.returned (.tuple #[.slice none 0 0,.int .i64 n])) w:=⟨none,0,1,rfl,Ai.nil 4 _,by rw[Ay];exact hs⟩
theorem WE(l:List Av)(v:Value)(B F:Ab)(w:World)(q:A1 B v l)(hs:Sat (B*F) w)(hl:l.length≤65536):
 Calls Tryz.prog 114 #[v] w (Jl B B F (CS l)):=by
 have d:=fun F w h=>P9 l v B F w q h hl
 unfold CS
 by_cases hm:Bk l=false
 ·rw[if_pos hm]
  rw[hm] at d
  go_enter Tryz.func114,Tryz.ntmps114
  go_wp2_with fail
  refine (d _ _ hs).mono ?_
  rintro e s ⟨rfl,f⟩
  go_wp2
  go_ret2
  exact Cm f
 rw[if_neg hm]
 have j:Bk l=true:=by simpa using hm
 rw[j] at d
 obtain ⟨h1,p⟩:=Cw j
 have b:=fun F w h=>MM l v B F w q h (by omega) h1 (by omega)
 by_cases i:1024<(join l).length
 ·rw[if_pos i]
  obtain ⟨n,g⟩:=Aq ((join l).length)
  rw[g] at i b
  have o:(1024:Int)<n:=by omega
  clear h1 p g
  go_enter Tryz.func114,Tryz.ntmps114
  go_wp2_with fail
  refine (d _ _ hs).mono ?_
  rintro e s ⟨rfl,f⟩
  clear hs
  go_wp2_with fail
  refine (b _ _ f).mono ?_
  rintro e t ⟨a,c,rfl,k⟩
  clear f
  go_wp2
  go_ret2
  exact Cm k.right
 rw[if_neg i]
 obtain ⟨R,r⟩:=Aq (join l)
 rw[r] at i b⊢
 obtain ⟨n,g⟩:=Aq R.length
 have m:=As g
 rw[g] at i b
 have o: ¬(1024:Int)<n:=by omega
 clear h1 p g r
 go_enter Tryz.func114,Tryz.ntmps114
 go_wp2_with fail
 refine (d _ _ hs).mono ?_
 rintro e s ⟨rfl,f⟩
 clear hs
 go_wp2_with fail
 refine (b _ _ f).mono ?_
 rintro e t ⟨a,c,rfl,k⟩
 clear f
 go_wp2
 go_ret2
 refine ⟨a,c,_,by rw[m.out];rfl,Ai.left (DH (by simp only;rw[m.out];exact k) rfl),?_⟩
 simp only
 rw[m.out]
 exact k
theorem bY{a:Option Addr}{c:Nat}(l:List Av)(n:Nat)(b:l.length=n): ∀(F:Ab)(w:World),Sat (rw AK 4 (.slice a n c) (AQ l)*F) w→Src Tryz.prog 4 w (.slice a n c) n (AQ l):=fun F w h=>by
 subst b
 exact Ai.src (DH h rfl) (Is l) h
theorem UY(l put:List Av)(at_ n:Int)(v vp:Value)(B0 B F:Ab)(w:World)(aj:A1 B0 v l)(hE:A1 B v l)(hP:A1 B vp put)(hs:Sat (B*F) w)(hg:He l)(ca:put.length≤1000):
 Calls Tryz.prog 40 #[v,.int .i64 at_,.int .i64 n,vp] w (Jl B0 B F (Co l at_ n put)):=by
 obtain ⟨⟨Q,b8,bw⟩,bv⟩:=hg
 have d:=fun F w h=>P9 put vp B F w hP h (by omega)
 have f:=fun F w h=>Ie l v B F w hE h (by omega) fun x hx=>by have:=Ca (Q x hx);omega
 unfold Co
 by_cases hm:Bk put=false
 · rw[if_pos hm]
   rw[hm] at d
   go_enter Tryz.func40,Tryz.ntmps40
   go_wp2_with fail
   refine (d _ _ hs).mono ?_
   rintro e w1 ⟨rfl,D⟩
   go_wp2
   go_ret2
   exact Cm D
 rw[if_neg hm]
 have an:Bk put=true:=by simpa using hm
 rw[an] at d
 obtain ⟨ad,c0⟩:=Cw an
 have m:=fun F w h=>Ie put vp B F w hP h (by omega) fun x hx=>by have:=Ca (ad x hx);omega
 have bx:=(GJ (o:=put) fun y hy=>(Ll.of (ad y hy)).1).1
 have be:=(GJ (o:=l) fun y hy=>(Ll.of (Q y hy)).1).1
 by_cases hc:at_<0∨n<0∨Aa l<at_∨Aa l-at_<n
 · rw[if_pos hc]
   obtain ⟨z,hz⟩:=Aq (Aa l)
   rw[hz] at hc f be b8
   by_cases c1:at_<0
   · go_enter Tryz.func40,Tryz.ntmps40
     go_wp2_with fail
     refine (d _ _ hs).mono ?_
     rintro e w1 ⟨rfl,D⟩
     go_wp2_with fail
     refine (f _ _ D).mono ?_
     rintro e w2 ⟨rfl,I⟩
     go_wp2
     go_ret2
     exact Cm I
   by_cases c2:n<0
   · go_enter Tryz.func40,Tryz.ntmps40
     go_wp2_with fail
     refine (d _ _ hs).mono ?_
     rintro e w1 ⟨rfl,D⟩
     go_wp2_with fail
     refine (f _ _ D).mono ?_
     rintro e w2 ⟨rfl,I⟩
     go_wp2
     go_ret2
     exact Cm I
   by_cases c3:z<at_
   · go_enter Tryz.func40,Tryz.ntmps40
     go_wp2_with fail
     refine (d _ _ hs).mono ?_
     rintro e w1 ⟨rfl,D⟩
     go_wp2_with fail
     refine (f _ _ D).mono ?_
     rintro e w2 ⟨rfl,I⟩
     go_wp2
     go_ret2
     exact Cm I
   have c4:z-at_<n:=by omega
   have hw:=Bb (z-at_) (by omega)
   go_enter Tryz.func40,Tryz.ntmps40
   go_wp2_with fail
   refine (d _ _ hs).mono ?_
   rintro e w1 ⟨rfl,D⟩
   go_wp2_with fail
   refine (f _ _ D).mono ?_
   rintro e w2 ⟨rfl,I⟩
   go_wp2
   go_ret2
   exact Cm I
 rw[if_neg hc]
 have c1:0≤at_:=by omega
 have c2:0≤n:=by omega
 have c3:at_≤Aa l:=by omega
 have c4:n≤Aa l-at_:=by omega
 obtain ⟨b6,b7⟩:=PE (n:=n) (at_:=at_) Q ad c1 c2 (by omega)
 have HO:Aside ((∀x∈(first l at_).1++put++(first (first l at_).2 n).2,Ah x=true)∧Aa ((first l at_).1++put++(first (first l at_).2 n).2)≤1099511627776):=⟨b6,by rw[b7];omega⟩
 have HM:Aside ((∀x∈l,Ah x=true)∧(∀x∈(first l at_).2,Ah x=true)):=⟨Q,(JW l at_ Q).2⟩
 have O:Aside ((first l at_).1.length≤1024∧(first l at_).2.length≤1024∧(first (first l at_).2 n).1.length≤1024∧(first (first l at_).2 n).2.length≤1024):=by
  have h1:=Mw l at_
  have h2:=Mw (first l at_).2 n
  exact ⟨by omega,by omega,by omega,by omega⟩
 unfold Ep
 obtain ⟨z,hz⟩:=Aq (Aa l)
 obtain ⟨pz,ba⟩:=Aq (Aa put)
 rw[hz] at f be b8 c3 c4⊢
 rw[ba] at m bx c0⊢
 have hw1:=Bb (z-at_) (by omega)
 have hw2:=Bb (z-n) (by omega)
 have hw3:=Bb (z-n+pz) (by omega)
 have d1: ¬at_<0:=by omega
 have d2: ¬n<0:=by omega
 have d3: ¬z<at_:=by omega
 have d4: ¬z-at_<n:=by omega
 clear hc b6 b7 hz ba bv hm an Q ad
 by_cases hb:1048576<z-n+pz
 · rw[if_pos hb]
   go_enter Tryz.func40,Tryz.ntmps40
   go_wp2_with fail
   refine (d _ _ hs).mono ?_
   rintro e w1 ⟨rfl,D⟩
   go_wp2_with fail
   refine (f _ _ D).mono ?_
   rintro e w2 ⟨rfl,I⟩
   go_wp2_with fail
   refine (m _ _ I).mono ?_
   rintro e w3 ⟨rfl,q3⟩
   go_wp2
   go_ret2
   exact Cm q3
 rw[if_neg hb]
 obtain ⟨ap,cp,rfl,bz,d7⟩:=hP.v
 obtain ⟨np,G⟩:=Aq put.length
 by_cases Z:n=0∧put= []
 · rw[if_pos Z]
   obtain ⟨rfl,c5⟩:=Z
   obtain rfl:np=0:=by rw[←G,c5];rfl
   rw[G] at d m⊢
   obtain ⟨al,cl,rfl,d5,d6⟩:=hE.v
   have HE:=As aj
   clear aj hE hP HO HM O
   go_enter Tryz.func40,Tryz.ntmps40
   go_wp2_with fail
   refine (d _ _ hs).mono ?_
   rintro e w1 ⟨rfl,D⟩
   go_wp2_with fail
   refine (f _ _ D).mono ?_
   rintro e w2 ⟨rfl,I⟩
   go_wp2_with fail
   refine (m _ _ I).mono ?_
   rintro e w3 ⟨rfl,q3⟩
   go_wp2
   go_ret2
   exact ⟨al,cl,1,rfl,Ai.right HE.out,by rw[Ay];exact q3⟩
 rw[if_neg Z]
 obtain ⟨i0,E⟩:=EW
 have SP:Aside (∀(F:Ab)(w:World),Sat (B*F) w→Src Tryz.prog 4 w (.slice ap np cp) np (AQ put)):=fun F w h=>by
  rw[←G]
  exact Ai.src hP (Is put) h
 obtain ⟨L,hL⟩:=Aq ((first l at_).1)
 obtain ⟨R,hR⟩:=Aq ((first l at_).2)
 obtain ⟨M,hM⟩:=Aq ((first R n).1)
 obtain ⟨K,hK⟩:=Aq ((first R n).2)
 have k:=fun F w h=>P7 l at_ v B F w hE h (by omega) HM.out.1 (by omega) (by omega)
 have j:=fun a c F w (h:Sat (rw AK 4 (.slice a R.length c) (AQ R)*F) w)=>P7 R n _ _ F w (DH h rfl) h (by have:=O.out.2.1;rw[hR] at this;omega) (by have:=HM.out.2;rw[hR] at this;exact this) (by omega) (by omega)
 rw[hL,hR] at k
 rw[hM,hK] at j
 rw[hL,hR,hK] at HO
 rw[hL,hR,hM,hK] at O
 rw[hL,hR,hK]
 obtain ⟨t,Y⟩:=Aq L.length
 obtain ⟨nR,ac⟩:=Aq R.length
 obtain ⟨nM,aq⟩:=Aq M.length
 obtain ⟨nK,X⟩:=Aq K.length
 have SL:Aside (∀(a:Option Addr)(c:Nat)(F:Ab)(w:World),Sat (rw AK 4 (.slice a t c) (AQ L)*F) w→Src Tryz.prog 4 w (.slice a t c) t (AQ L)):=fun a c=>bY L t Y
 have SK:Aside (∀(a:Option Addr)(c:Nat)(F:Ab)(w:World),Sat (rw AK 4 (.slice a nK c) (AQ K)*F) w→Src Tryz.prog 4 w (.slice a nK c) nK (AQ K)):=fun a c=>bY K nK X
 have q:=fun a c F w (h:Sat (rw AK 4 (.slice a (t+np+nK) c) (AQ L++AQ put++AQ K)*F) w)=>MM (L++put++K) (.slice a (t+np+nK) c) (rw AK 4 (.slice a (t+np+nK) c) (AQ L++AQ put++AQ K)) F w
  (by
    have e1:AQ (L++put++K)=AQ L++AQ put++AQ K:=by simp[AQ]
    have e2:(L++put++K).length=t+np+nK:=by rw[List.length_append,List.length_append,Y,G,X]
    rw[←e1] at h⊢
    exact DH h e2.symm) h (by have:=O.out;rw[List.length_append,List.length_append];omega) HO.out.1 HO.out.2
 rw[Y,ac] at k
 rw[ac] at j
 rw[aq,X] at j
 have bt:=O.out
 rw[Y,ac,aq,X] at bt
 have cj:np≤1000:=by omega
 obtain ⟨J,hJ⟩:=Aq (join (L++put++K))
 rw[hJ] at q⊢
 obtain ⟨H,ao⟩:=Aq J.length
 have b:=As ao
 obtain ⟨RR,am⟩: ∃r:Int×List Av,(if 1024<J.length then (11,[]) else (0,J))=r:=⟨_,rfl⟩
 rw[am]
 have P:=As am
 clear am
 rw[ao] at q
 rw[G] at d m bz⊢
 have bs:Aside (n≠0∨np≠0):=by
  rcases Classical.em (n=0) with h1|h1
  · right
    intro h2
    exact Z ⟨h1,List.length_eq_zero_iff.1 (by rw[G,h2])⟩
  exact .inl h1
 clear Z hL hR hM hK Y ac aq X G ao hJ O HO HM aj hE hP ca bw
 obtain ⟨xL,bc⟩:=Aq (AQ L)
 obtain ⟨xP,bd⟩:=Aq (AQ put)
 obtain ⟨xK,bb⟩:=Aq (AQ K)
 rw[bc] at k SL q
 rw[bd] at SP q
 rw[bb] at j SK q
 clear bc bd bb
 go_enter Tryz.func40,Tryz.ntmps40
 go_wp2_with fail
 refine (d _ _ hs).mono ?_
 rintro e w1 ⟨rfl,D⟩
 go_wp2_with fail
 refine (f _ _ D).mono ?_
 rintro e w2 ⟨rfl,I⟩
 go_wp2_with fail
 refine (m _ _ I).mono ?_
 rintro e w3 ⟨rfl,q3⟩
 clear hs D I
 rcases bs.out with hz|hz
 · have cb:(n==0)=false:=by simp[hz]
   go_wp2_with fail
   refine (k _ _ q3).mono ?_
   rintro e w4 ⟨a1,U,a2,p,rfl,q4⟩
   haveI:=q4.i
   clear q3 k d f m
   go_wp2_with fail
   refine (j a2 p _ _ (Ae (rw AK 4 (.slice a2 nR p) (AQ R)))).mono ?_
   rintro e w5 ⟨a3,b2,a4,V,rfl,q5⟩
   haveI:=q5.i
   clear q4 j
   go_wp2_with (first
    |(at_builtin;refine Af E rfl (.tmp 66) (.tmp 67) rfl rfl rfl (Sat.AG (e:=AK) (s:=4) ES) (SL.out _ _ _ _ (Ae (rw AK 4 (.slice a1 t U) xL))) (by unfold maxLen;omega) (by omega) ?_;intro a6 c6 w6 q6 z6;clear z6;rw[List.nil_append] at q6;rw[Nat.zero_add] at q6⊢;haveI:=q6.i)
    |(at_builtin;refine Af E rfl (.tmp 69) (.tmp 70) rfl rfl rfl (Ae (rw AK 4 (.slice a6 t c6) xL)) (SP.out _ _ (Ae B)) (by unfold maxLen;omega) (by omega) ?_;intro a7 c7 w7 q7 z7;clear z7;haveI:=q7.i)
    |(at_builtin;refine Af E rfl (.tmp 72) (.tmp 73) rfl rfl rfl (Ae (rw AK 4 (.slice a7 (t+np) c7) (xL++xP))) (SK.out _ _ _ _ (Ae (rw AK 4 (.slice a4 nK V) xK))) (by unfold maxLen;omega) (by omega) ?_;intro a8 c8 w8 q8 z8;clear z8;haveI:=q8.i))
   refine (q a8 c8 _ _ q8).mono ?_
   rintro e w9 ⟨T,c9,rfl,q9⟩
   haveI:=q9.i
   clear q8
   by_cases hj:1024<H
   · have W:(1024:Int)<H:=by omega
     have g:1024<J.length:=by rw[b.out];exact hj
     go_wp2
     go_ret2
     rw[←P.out,if_pos g]
     exact Cm (Ar B F)
   have W: ¬(1024:Int)<H:=by omega
   have g: ¬1024<J.length:=by rw[b.out];exact hj
   go_wp2
   go_ret2
   rw[←P.out,if_neg g]
   have u:Sat (rw AK 4 (.slice T H c9) (AQ J)*(B*F)) w9:=AD _ B F
   refine ⟨T,c9,rw AK 4 (.slice T H c9) (AQ J),by simp only;rw[b.out];rfl,Ai.left ?_,u⟩
   have:=DH u b.out.symm
   unfold A1 at this
   rw[b.out] at this
   simp only
   rw[b.out]
   exact this
 have cb:(np==0)=false:=by simp[hz]
 have d8:((np:Int)==0)=false:=by simp[hz]
 by_cases b9:n=0
 · subst b9
   go_wp2_with fail
   refine (k _ _ q3).mono ?_
   rintro e w4 ⟨a1,U,a2,p,rfl,q4⟩
   haveI:=q4.i
   clear q3 k d f m
   go_wp2_with fail
   refine (j a2 p _ _ (Ae (rw AK 4 (.slice a2 nR p) (AQ R)))).mono ?_
   rintro e w5 ⟨a3,b2,a4,V,rfl,q5⟩
   haveI:=q5.i
   clear q4 j
   go_wp2_with (first
    |(at_builtin;refine Af E rfl (.tmp 66) (.tmp 67) rfl rfl rfl (Sat.AG (e:=AK) (s:=4) ES) (SL.out _ _ _ _ (Ae (rw AK 4 (.slice a1 t U) xL))) (by unfold maxLen;omega) (by omega) ?_;intro a6 c6 w6 q6 z6;clear z6;rw[List.nil_append] at q6;rw[Nat.zero_add] at q6⊢;haveI:=q6.i)
    |(at_builtin;refine Af E rfl (.tmp 69) (.tmp 70) rfl rfl rfl (Ae (rw AK 4 (.slice a6 t c6) xL)) (SP.out _ _ (Ae B)) (by unfold maxLen;omega) (by omega) ?_;intro a7 c7 w7 q7 z7;clear z7;haveI:=q7.i)
    |(at_builtin;refine Af E rfl (.tmp 72) (.tmp 73) rfl rfl rfl (Ae (rw AK 4 (.slice a7 (t+np) c7) (xL++xP))) (SK.out _ _ _ _ (Ae (rw AK 4 (.slice a4 nK V) xK))) (by unfold maxLen;omega) (by omega) ?_;intro a8 c8 w8 q8 z8;clear z8;haveI:=q8.i))
   refine (q a8 c8 _ _ q8).mono ?_
   rintro e w9 ⟨T,c9,rfl,q9⟩
   haveI:=q9.i
   clear q8
   by_cases hj:1024<H
   · have W:(1024:Int)<H:=by omega
     have g:1024<J.length:=by rw[b.out];exact hj
     go_wp2
     go_ret2
     rw[←P.out,if_pos g]
     exact Cm (Ar B F)
   have W: ¬(1024:Int)<H:=by omega
   have g: ¬1024<J.length:=by rw[b.out];exact hj
   go_wp2
   go_ret2
   rw[←P.out,if_neg g]
   have u:Sat (rw AK 4 (.slice T H c9) (AQ J)*(B*F)) w9:=AD _ B F
   refine ⟨T,c9,rw AK 4 (.slice T H c9) (AQ J),by simp only;rw[b.out];rfl,Ai.left ?_,u⟩
   have:=DH u b.out.symm
   unfold A1 at this
   rw[b.out] at this
   simp only
   rw[b.out]
   exact this
 have d9:(n==0)=false:=by simp[b9]
 go_wp2_with fail
 refine (k _ _ q3).mono ?_
 rintro e w4 ⟨a1,U,a2,p,rfl,q4⟩
 haveI:=q4.i
 clear q3 k d f m
 go_wp2_with fail
 refine (j a2 p _ _ (Ae (rw AK 4 (.slice a2 nR p) (AQ R)))).mono ?_
 rintro e w5 ⟨a3,b2,a4,V,rfl,q5⟩
 haveI:=q5.i
 clear q4 j
 go_wp2_with (first
  |(at_builtin;refine Af E rfl (.tmp 66) (.tmp 67) rfl rfl rfl (Sat.AG (e:=AK) (s:=4) ES) (SL.out _ _ _ _ (Ae (rw AK 4 (.slice a1 t U) xL))) (by unfold maxLen;omega) (by omega) ?_;intro a6 c6 w6 q6 z6;clear z6;rw[List.nil_append] at q6;rw[Nat.zero_add] at q6⊢;haveI:=q6.i)
  |(at_builtin;refine Af E rfl (.tmp 69) (.tmp 70) rfl rfl rfl (Ae (rw AK 4 (.slice a6 t c6) xL)) (SP.out _ _ (Ae B)) (by unfold maxLen;omega) (by omega) ?_;intro a7 c7 w7 q7 z7;clear z7;haveI:=q7.i)
  |(at_builtin;refine Af E rfl (.tmp 72) (.tmp 73) rfl rfl rfl (Ae (rw AK 4 (.slice a7 (t+np) c7) (xL++xP))) (SK.out _ _ _ _ (Ae (rw AK 4 (.slice a4 nK V) xK))) (by unfold maxLen;omega) (by omega) ?_;intro a8 c8 w8 q8 z8;clear z8;haveI:=q8.i))
 refine (q a8 c8 _ _ q8).mono ?_
 rintro e w9 ⟨T,c9,rfl,q9⟩
 haveI:=q9.i
 clear q8
 by_cases hj:1024<H
 · have W:(1024:Int)<H:=by omega
   have g:1024<J.length:=by rw[b.out];exact hj
   go_wp2
   go_ret2
   rw[←P.out,if_pos g]
   exact Cm (Ar B F)
 have W: ¬(1024:Int)<H:=by omega
 have g: ¬1024<J.length:=by rw[b.out];exact hj
 go_wp2
 go_ret2
 rw[←P.out,if_neg g]
 have u:Sat (rw AK 4 (.slice T H c9) (AQ J)*(B*F)) w9:=AD _ B F
 refine ⟨T,c9,rw AK 4 (.slice T H c9) (AQ J),by simp only;rw[b.out];rfl,Ai.left ?_,u⟩
 have:=DH u b.out.symm
 unfold A1 at this
 rw[b.out] at this
 simp only
 rw[b.out]
 exact this
open Go.ChangeShapes Go.WideShapes
theorem Rv{α:Type}{f:α→List Value} : ∀l:List (List Value),(∀r∈l,∃c,r=f c)→ ∃cs:List α,l=cs.map f
 | [],_=>⟨[],rfl⟩
 | r :: l, hl => by
  obtain ⟨c,rfl⟩:=hl r (by simp)
  obtain ⟨cs,rfl⟩:=Rv l fun b a=>hl b (by simp[a])
  exact ⟨c::cs,rfl⟩
theorem eC{r:List Value}(h:r.length=4): ∃a b c d,r= [a,b,c,d]:=by
 match r,h with
 | [a,b,c,d],_=>exact ⟨a,b,c,d,rfl⟩
theorem WH{w:World}{a:Option Addr}{cap:Nat}{l:List Av}(h:iA w (.slice a l.length cap) 4 (l.map Dq))(h1:l.length≤cap)(m:cap≤9223372036854775807):A1 (Fq w) (.slice a l.length cap) l:=by
 have c:(AQ l).length=l.length*4:=M0 (f:=Dq) (fun _=>rfl) l
 refine ⟨c,a,cap,rfl,h1,m,fun j u k=>?_⟩
 have p:j<l.length*4:=by
  rw[←c]
  exact (List.getElem?_eq_some_iff.1 k).1
 obtain ⟨x,hx⟩: ∃x,l[j/4]?=some x:=⟨_,List.getElem?_eq_getElem (by omega)⟩
 have g:=JX (f:=Dq) (s:=4) (fun _=>rfl) l (j/4) (j%4) x hx (by omega)
 have d:j/4*4+j%4=j:=by omega
 rw[d] at g
 obtain ⟨b,o,rfl,n⟩:=h.at (i:=j/4) (r:=Dq x) (by simp[hx])
 refine ⟨b,o,rfl,?_⟩
 have e:=n (j%4) u (g.symm.trans k)
 rw[Nat.add_assoc,d] at e
 haveI:ZT w b (o+j) u:=⟨e⟩
 exact inferInstance
theorem Hl{H:Type}{enc:TypeId×Value→H}{w:World}{b:Nat}{a:Nat→Bool}{d:Bool}{t e:Nat}{r:List Value}{x:DataW H×List MemPlace}{fs:Array Field}
 (s:Tryz.prog.underlying t=some (.struct fs)) (h:DataW.trod enc Tryz.prog w b a d e t r=some x) (i j g c:Nat) (q:(fs[i]?).map (fun f=>(f.type,f.offset))=some (j,g)) (p:Tryz.prog.cellsOf j=c):
 ∃n y,DataW.trod enc Tryz.prog w b a d n j ((r.drop g).take c)=some y:=by
 obtain ⟨_,n,l⟩:=Fy s h
 obtain ⟨f,m,o⟩:=Option.map_eq_some_iff.1 q
 obtain ⟨y,k⟩:=l i f m
 cases o
 rw[p] at k
 exact ⟨n,y,k⟩
theorem VT{H:Type}{enc:TypeId×Value→H}{w:World}{e:Nat}{d:Nat→Bool}{g:Bool}{a:Option Addr}{len cap:Nat}
 (h: ∃b x,DataW.trod enc Tryz.prog w e d g b 29 [.slice a len cap]=some x):
 ∃l:List Av,l.length=len∧A1 (Fq w) (.slice a len cap) l:=by
 obtain ⟨b,x,hx⟩:=h
 have c:len≤cap∧cap≤maxLen:=by
  rcases DataW.trod_slice Tryz.underlying29 hx with ⟨h0,_⟩|⟨a',u,p,k,rest,n,_,h1,_,_,o,t,_⟩
  ·simp only[List.cons.injEq,Value.slice.injEq,and_true] at h0
   obtain ⟨_,rfl,rfl⟩:=h0
   exact ⟨Nat.le_refl _,by unfold maxLen;decide⟩
  simp only[List.cons.injEq,Value.slice.injEq,and_true] at h1
  obtain ⟨_,rfl,rfl⟩:=h1
  exact ⟨o,t⟩
 have q:Tryz.prog.cellsOf AK=4:=by kernel_rfl
 have v:Tryz.prog.cellsOf 75=3:=by kernel_rfl
 have j:Tryz.prog.cellsOf 3=1:=by kernel_rfl
 obtain ⟨I,h1,o,t,G⟩:=IU (s:=4) Tryz.underlying29 q (by omega) hx
 obtain ⟨l,rfl⟩:=Rv (f:=Dq) I (by
  intro r hr
  obtain ⟨n,y,hy⟩:=G r hr
  obtain ⟨hl,n',O⟩:=Fy Tryz.underlying77 hy
  obtain ⟨v0,v1,v2,v3,rfl⟩:=eC (hl.trans q)
  obtain ⟨_,P,m⟩:=Hl Tryz.underlying77 hy 0 75 0 3 rfl v
  obtain ⟨_,Q,z⟩:=Hl Tryz.underlying77 hy 1 3 3 1 rfl j
  obtain ⟨_,R,g0⟩:=Hl Tryz.underlying75 m 0 3 0 1 rfl j
  obtain ⟨_,T,B⟩:=Hl Tryz.underlying75 m 1 3 1 1 rfl j
  obtain ⟨_,U,D⟩:=Hl Tryz.underlying75 m 2 3 2 1 rfl j
  obtain ⟨J,rfl,_⟩:=Dd Tryz.underlying3 g0
  obtain ⟨K,rfl,_⟩:=Dd Tryz.underlying3 B
  obtain ⟨L,rfl,_⟩:=Dd Tryz.underlying3 D
  obtain ⟨M,rfl,_⟩:=Dd Tryz.underlying3 z
  exact ⟨⟨J,K,L,M⟩,rfl⟩)
 have i:l.length=len:=by simpa using o
 subst i
 exact ⟨l,rfl,WH h1 c.1 c.2⟩
end Go.Proofs.YtfhbmblbidcmmaaGreat
namespace Go.Proofs.YtfhbmblbidcmmaaGreat
open Go.RowKit Go.Sl Go.Dk Go.Tr
variable [Em]
abbrev Xy:TypeId:=29
theorem iN: ∃i,C8 Tryz.prog 103 Xy 1 24 i (.slice none 0 0):=Iu Tryz.underlying103 (by kernel_rfl) rfl (by omega)
structure Mm (s:TS) (ms:List (Int×List Av)) (vs:List Value) (G:Ab):Prop where
 len:vs.length=ms.length
 each: ∀(i:Nat)(v:Value)(p:Int×List Av),vs[i]?=some v→ms[i]?=some p→A1 G v p.2∧Rt (nodeAt s) p.1 p.2∧He p.2
def gU(ms:List (Int×List Av)):List Value:=ms.map fun p=> .int .i64 p.1
theorem Mm.more{s s':TS}{ms:List (Int×List Av)}{vs:List Value}{G d:Ab}(h:Mm s ms vs G)(c:Le (nodeAt s) (nodeAt s')){r:Int}{l:List Av}{v:Value}(h1:A1 (d*G) v l)(e:Rt (nodeAt s') r l)(f:He l):
 Mm s' (ms++ [(r,l)]) (vs++ [v]) (d*G):=
 ⟨by rw [List.length_append, List.length_append, h.len]; rfl, fun i u p b a => by
  by_cases hi:i<ms.length
  ·rw[List.getElem?_append_left (by rw[h.len];exact hi)] at b
   rw[List.getElem?_append_left hi] at a
   obtain ⟨m1,j,m3⟩:=h.each i u p b a
   exact ⟨Ai.right m1,j.le c,m3⟩
  rw[List.getElem?_append_right (by rw[h.len];omega),h.len] at b
  rw[List.getElem?_append_right (by omega)] at a
  by_cases g:i-ms.length=0
  ·rw[g] at b a
   cases b
   cases a
   exact ⟨h1,e,f⟩
  rw[List.getElem?_eq_none (by simp;omega)] at a
  cases a⟩
theorem Mm.at{s:TS}{ms:List (Int×List Av)}{vs:List Value}{G:Ab}(h:Mm s ms vs G){i:Nat}(hi:i<ms.length): ∃v r l,vs[i]?=some v∧(gU ms)[i]?=some (.int .i64 r)∧A1 G v l∧Rt (nodeAt s) r l∧He l∧ms[i]?=some (r,l):=by
 obtain ⟨v,a⟩: ∃v,vs[i]?=some v:=⟨_,List.getElem?_eq_getElem (by rw[h.len];exact hi)⟩
 obtain ⟨⟨r,l⟩,hp⟩: ∃p,ms[i]?=some p:=⟨_,List.getElem?_eq_getElem hi⟩
 obtain ⟨b,c,d⟩:=h.each i v _ a hp
 exact ⟨v,r,l,a,by unfold gU;rw[List.getElem?_map,hp];rfl,b,c,d,hp⟩
end Go.Proofs.YtfhbmblbidcmmaaGreat
namespace Go.Proofs.YtfhbmblbidcmmaaGreat
open Go.RowKit Go.Sl Go.Dk Go.Tr
variable [Em]
end Go.Proofs.YtfhbmblbidcmmaaGreat
namespace Go.Proofs.YtfhbmblbidcmmaaGreat
open Go.RowKit Go.Sl Go.Dk Go.Tr
theorem Vf(A B C:Ab):A*(B*C)=B*(A*C):=by ac_rfl
theorem iU{A R1 R2 f g i j k l m a:Ab}{w:World}[h:AR A w](c d e n o p q r s b:Ab)[t1:Take A c R1][t2:Take R1 d R2][t3:Take R2 e f][t4:Take f n g][t5:Take g o i][t6:Take i p j][t7:Take j q k][t8:Take k r l][t9:Take l s m][t10:Take m b a]:Sat (c*(d*(e*(n*(o*(p*(q*(r*(s*b))))))))) w:=Sat.Dx (B:=a) ((h.out.K6 c d e).eq (by rw[t4.out,t5.out,t6.out,t7.out,t8.out,t9.out,t10.out];ac_rfl))
theorem VL{l:List Av}(h:(CS l).1≠0):(CS l).2= []:=by
 unfold CS at h⊢
 by_cases hm:Bk l=false
 ·rw[if_pos hm]
 rw[if_neg hm] at h⊢
 by_cases a:1024<(join l).length
 ·rw[if_pos a]
 rw[if_neg a] at h;exact absurd rfl h
variable [Em]
end Go.Proofs.YtfhbmblbidcmmaaGreat
namespace Go.Proofs.YtfhbmblbidcmmaaGreat
open Go.RowKit Go.Sl Go.Dk Go.Tr
abbrev iD:TypeId:=232
structure MW where
 f:Int
 pos:Int
 n:Int
 a:Option Addr
 c:Nat
 put:List Av
 Hi:Int
 rt:Int
def eU(x:MW):List Value:= [.int .i64 x.f,.int .i64 x.pos,.int .i64 x.n,.slice x.a x.put.length x.c,.int .i64 x.Hi,.int .i64 x.rt]
def nQ(l:List MW):List Value:=l.flatMap eU
abbrev Ot(B:Ab)(v:Value)(l:List MW):Prop:=Ai 6 B v l.length (nQ l)
theorem Rq{B:Ab}{a:Option Addr}{c:Nat}{l:List MW}(h:Ot B (.slice a l.length c) l){i:Nat}{x:MW}(hi:l[i]?=some x):
 ∃b o,a=some ⟨b,o,none⟩∧Mn B b (o+i*6) (.int .i64 x.f)∧Mn B b (o+i*6+1) (.int .i64 x.pos)∧Mn B b (o+i*6+2) (.int .i64 x.n)∧Mn B b (o+i*6+3) (.slice x.a x.put.length x.c)∧Mn B b (o+i*6+4) (.int .i64 x.Hi)∧Mn B b (o+i*6+5) (.int .i64 x.rt):=by
 obtain ⟨b,o,e,r⟩:=Ai.row (f:=eU) (fun _=>rfl) (by omega) h hi
 exact ⟨b,o,e,r 0 _ rfl,r 1 _ rfl,r 2 _ rfl,r 3 _ rfl,r 4 _ rfl,r 5 _ rfl⟩
theorem iO: ∃i,C8 Tryz.prog 121 Kq 2 16 i (.agg #[.int .i64 0,.int .i64 0]):=Iu Tryz.underlying121 (by kernel_rfl) rfl (by omega)
def PL(ms:List (Int×List Av)):List (Int×Int):=ms.map fun p=>(p.1,Aa p.2)
structure lV (s0 s:TS) (ms:List (Int×List Av)) (vs:List Value) (G:Ab) (i:Nat):Prop where
 pl:Mm s ms vs G
 inv:GS true s
 len:ms.length=i
 ops:60000000+(12-i)*5600≤AM s
 room:5000+(12-i)*2600≤CB s.sp
 cap:Fv s0 s
def dD(h:Th)(s0:TS)(b:Nat)(F:Ab)(e:Ending)(d:World):Prop:=
 (e= .returned (.tuple #[.slice none 0 0,.bool false])∧ ∃s',Sat (Ad h s'*(DQ b h*F)) d)∨
 (∃(s':TS)(vl:List (Int×Int))(a:Option Addr)(c:Nat),e= .returned (.tuple #[.slice a vl.length c,.bool true])∧vl.length≤12∧GS true s'∧Clean s'.ck∧59000000≤AM s'∧Fv s0 s'∧Sat (rw Kq 2 (.slice a vl.length c) (B9 vl)*(Ad h s'*(DQ b h*F))) d)
theorem i'(l:List Av)(a b c d:Int):AQ (l++ [⟨a,b,c,d⟩])=AQ l++ [.int .i64 a,.int .i64 b,.int .i64 c,.int .i64 d]:=by simp[AQ,Dq]
theorem Nk{a:Int}{out:List Av}(h:(a≠0→out= [])∧(a=0→He out)): ∀x∈out,0≤x.len∧x.len≤1048576:=by
 by_cases b:a=0
 ·intro x hx
  have:=Ca ((h.2 b).1.1 x hx)
  omega
 simp_all
theorem T9{a:Int}{out:List Av}(h:(a≠0→out= [])∧(a=0→He out)):out.length≤65536:=by
 by_cases b:a=0
 ·have:=(h.2 b).1.2.2
  omega
 simp_all
theorem UT: ∀{vl:List (Int×Int)}{k:Nat}{r b:Int},vl[k]?=some (r,b)→ ∀z:Int,(B9 vl).set (k*2+1) (.int .i64 z)=B9 (vl.set k (r,z))
 | [],k,r,b,h,z=>by simp at h
 |p::vl,0,r,b,h,z=>by simp_all[B9,KX]
 | p :: vl, k + 1, r, b, h, z => by
  have c:=UT (vl:=vl) (k:=k) (r:=r) (b:=b) (by simpa using h) z
  have e:B9 (p::vl)=KX p++B9 vl:=by simp[B9]
  have a:B9 ((p::vl).set (k+1) (r,z))=KX p++B9 (vl.set k (r,z)):=by simp[B9]
  grind [KX]
theorem US: ∀{vl:List (Int×Int)}{k:Nat}{r b:Int},vl[k]?=some (r,b)→ ∀z:Int,(B9 vl).set (k*2) (.int .i64 z)=B9 (vl.set k (z,b))
 | [],k,r,b,h,z=>by simp at h
 |p::vl,0,r,b,h,z=>by simp_all[B9,KX]
 | p :: vl, k + 1, r, b, h, z => by
  have c:=US (vl:=vl) (k:=k) (r:=r) (b:=b) (by simpa using h) z
  have e:B9 (p::vl)=KX p++B9 vl:=by simp[B9]
  have a:B9 ((p::vl).set (k+1) (z,b))=KX p++B9 (vl.set k (z,b)):=by simp[B9]
  grind [KX]
theorem SM{l put:List Av}{at_ n:Int}(h:(Co l at_ n put).1≠0):(Co l at_ n put).2= []:=by grind [Co]
theorem cS{ms:List (Int×List Av)}{j:Nat}{r:Int}{l:List Av}(h:ms[j]?=some (r,l)):(PL ms)[j]?=some (r,Aa l):=by simp[PL,h]
theorem Tn(h : Th)(s0 : TS)(b : Nat)(U : Option Addr)(Y V : Nat)(L : Option Addr)(I M : Nat)(T : List UInt8)(cs : List MW)(v : Value)(Bp F : Ab)(w : World)(hI : GS true s0)(hf : 66000000 ≤ AM s0)(em : 50000 ≤ CB s0.sp)(d5 : s0.ck.cap ≤ 1000)
 (hT:Reads Bp (.slice L I M) T) (d2:T.length=I) (ek:I≤3000) (hM:Ot Bp v cs) (d1: ∀c∈cs,A1 Bp (.slice c.a c.put.length c.c) c.put) (e7:cs.length≤9223372036854775807)
 (hs:Sat (Ad h s0*(DQ b h*(Bp*F))) w):
 Calls Tryz.prog 56 #[.pointer (some ⟨b,0,none⟩),v,.agg #[.slice U Y V,.slice L I M]] w (dD h s0 b (Bp*F)):=by
 obtain ⟨_,av,cv,rfl,d7,fg,_⟩:=id hM
 obtain ⟨n,hn⟩:=Aq cs.length
 have HM:Aside (Ot Bp (.slice av cs.length cv) cs∧cs.length=n∧ ∀c∈cs,A1 Bp (.slice c.a c.put.length c.c) c.put):=⟨hM,hn,d1⟩
 rw[hn] at d7 e7⊢
 have ds:Aside (∀(x1 x2 x3 x4:Int) F w,Sat (Bp*F) w→Calls Tryz.prog 121 #[.agg #[.int .i64 x1,.int .i64 x2,.int .i64 x3,.int .i64 x4],.agg #[.slice U Y V,.slice L I M]] w fun e o=> ∃y1 y2 y3 y4:Int,e= .returned (.agg #[.int .i64 y1,.int .i64 y2,.int .i64 y3,.int .i64 y4])∧Sat (Bp*F) o):=fun x1 x2 x3 x4 F w q=>Y9 x1 x2 x3 x4 U Y V L I M T Bp F w hT q ek d2
 have cr:Aside (lV s0 s0 [] [] 1 0):=⟨⟨rfl,fun i v p h1 h2=>by cases h1⟩,hI,rfl,by omega,by omega,AW.same _⟩
 obtain ⟨iV,EV⟩:=iO
 obtain ⟨iL,EL⟩:=iN
 obtain ⟨iE,EE⟩:=EW
 obtain ⟨NF,br⟩:=Aq w.heap.size
 unfold DQ at hs
 have h0:=Sat.AG (e:=Xy) (s:=1) (Sat.AG (e:=Kq) (s:=2) hs)
 haveI:=h0.i
 clear hM d1 hn hT d2 hs hI hf em
 go_enter Tryz.func56,Tryz.ntmps56
 go_wp2_with fail
 have q1:Sat (Ad h s0*(1*(rw Kq 2 (.slice none 0 0) (B9 (PL []))*(rw Xy 1 (.slice none 0 0) []*(Sl.block b Hf [.pointer (some ⟨h.D,0,none⟩),.pointer (some ⟨h.C,0,none⟩),.pointer (some ⟨h.t,0,none⟩)]*(Sl.block NF GQ [.slice U Y V,.slice L I M]*(Bp*F))))))) (w.alloc (.cells #[.slice U Y V,.slice L I M] GQ)):=by
  rw[←br,Ay]
  show Sat (_*(rw Kq 2 (.slice none 0 0) []*_)) _
  exact Ap (by ac_rfl)
 try rw[br]
 generalize w.alloc (.cells #[.slice U Y V,.slice L I M] GQ)=w1 at q1⊢
 clear br h0 this
 haveI:=q1.i
 go_loopg [10,8,9] 12 (fun g ey t8 t9 wr=> ∃(i:Nat)(s:TS)(Z:Option Addr)(c1:Nat)(a2:Option Addr)(c2:Nat)(ms:List (Int×List Av))(vs:List Value)(G:Ab),ey= .int .i64 i∧t8= .slice Z i c1∧t9= .slice a2 i c2∧i≤12∧i≤n∧Aside (g=12-i)∧Aside (lV s0 s ms vs G i)∧Sat (Ad h s*(G*(rw Kq 2 (.slice Z i c1) (B9 (PL ms))*(rw Xy 1 (.slice a2 i c2) vs*(Sl.block b Hf [.pointer (some ⟨h.D,0,none⟩),.pointer (some ⟨h.C,0,none⟩),.pointer (some ⟨h.t,0,none⟩)]*(Sl.block NF GQ [.slice U Y V,.slice L I M]*(Bp*F))))))) wr)
 case atStart=>exact ⟨0,s0,none,0,none,0,[],[],1,rfl,rfl,rfl,by omega,by omega,rfl,cr,q1⟩
 clear q1 cr
 obtain ⟨i,s,Z,c1,a2,c2,ms,vs,G,rfl,rfl,rfl,hi,fx,A,P,q2⟩:=hrel
 haveI:=q2.i
 by_cases ed:i<n∧i<12
 · obtain ⟨ee, fu⟩ := ed
   have fv:(i:Int)<n:=by omega
   have fw:(i:Int)<12:=by omega
   obtain ⟨⟨k1,k2,k3,ap,cp,put,k5,k6⟩,hx⟩: ∃x,cs[i]?=some x:=⟨_,List.getElem?_eq_getElem (by rw[HM.out.2.1];exact ee)⟩
   obtain ⟨bm,om,e1,r0,r1,r2,r3,r4,r5⟩:=Rq HM.out.1 hx
   subst e1
   have hE:=HM.out.2.2 _ (List.mem_of_getElem? hx)
   simp only at hE r0 r1 r2 r3 r4 r5
   obtain ⟨_,_,e0,el,bz⟩:=hE.v
   cases e0
   obtain ⟨np,bx⟩:=Aq put.length
   have HE:Aside (A1 Bp (.slice ap put.length cp) put∧put.length=np):=⟨hE,bx⟩
   rw[bx] at r3 el
   obtain ⟨NM,bs⟩:=Aq wr.heap.size
   clear hx hE bx
   by_cases eh:60<np
   · have b9:(60:Int)<np:=by omega
     go_wp2
     go_ret2
     exact .inl ⟨rfl,s,by unfold DQ;exact Cz _ _ _ _⟩
   have b9: ¬(60:Int)<np:=by omega
   have h1:=Sat.AG (e:=AK) (s:=4) q2
   clear this
   haveI:=h1.i
   go_wp2_with fail
   have q3:Sat (rw AK 4 (.slice none 0 0) (AQ [])*(Ad h s*(G*(rw Kq 2 (.slice Z i c1) (B9 (PL ms))*(rw Xy 1 (.slice a2 i c2) vs*(Sl.block NM iD [.int .i64 k1,.int .i64 k2,.int .i64 k3,.slice ap np cp,.int .i64 k5,.int .i64 k6]*(Sl.block b Hf [.pointer (some ⟨h.D,0,none⟩),.pointer (some ⟨h.C,0,none⟩),.pointer (some ⟨h.t,0,none⟩)]*(Sl.block NF GQ [.slice U Y V,.slice L I M]*(Bp*F))))))))) (wr.alloc (.cells #[.int .i64 k1,.int .i64 k2,.int .i64 k3,.slice ap np cp,.int .i64 k5,.int .i64 k6] iD)):=by
    rw[←bs]
    show Sat (rw AK 4 (.slice none 0 0) []*_) _
    exact Ap (by ac_rfl)
   try rw[bs]
   generalize wr.alloc (.cells #[.int .i64 k1,.int .i64 k2,.int .i64 k3,.slice ap np cp,.int .i64 k5,.int .i64 k6] iD)=w3 at q3⊢
   clear bs h1 q2 this
   haveI:=q3.i
   go_loopg [13,12] np (fun g f0 ez wx=> ∃(k:Nat)(f:Option Addr)(m:Nat)(d:List Av),f0= .int .i64 k∧ez= .slice f k m∧k≤np∧Aside (g=np-k∧d.length=k)∧Sat (rw AK 4 (.slice f k m) (AQ d)*(Ad h s*(G*(rw Kq 2 (.slice Z i c1) (B9 (PL ms))*(rw Xy 1 (.slice a2 i c2) vs*(Sl.block NM iD [.int .i64 k1,.int .i64 k2,.int .i64 k3,.slice ap np cp,.int .i64 k5,.int .i64 k6]*(Sl.block b Hf [.pointer (some ⟨h.D,0,none⟩),.pointer (some ⟨h.C,0,none⟩),.pointer (some ⟨h.t,0,none⟩)]*(Sl.block NF GQ [.slice U Y V,.slice L I M]*(Bp*F))))))))) wx)
   case atStart=>exact ⟨0,none,0,[],rfl,rfl,by omega,⟨rfl,rfl⟩,q3⟩
   obtain ⟨k,f,m,d,rfl,rfl,hk,K,q4⟩:=hrel
   clear q3
   haveI:=q4.i
   by_cases bw:k<np
   · have bb:(k:Int)<np:=by omega
     obtain ⟨⟨x1,x2,x3,x4⟩,hy⟩: ∃y,put[k]?=some y:=⟨_,List.getElem?_eq_getElem (by rw[HE.out.2];exact bw)⟩
     obtain ⟨bl,ol,e8,y1,y2,y3,y4⟩:=BH HE.out.1 hy
     subst e8
     simp only at y1 y2 y3 y4
     clear hy
     go_wp2_with fail
     go_region_held3 (fun o=>o.cell? ⟨NM,3,none⟩=some (.slice (some ⟨bl,ol,none⟩) np cp)∧o.cell? ⟨NF,0,none⟩=some (.slice U Y V)∧o.cell? ⟨NF,1,none⟩=some (.slice L I M)∧o.cell? ⟨bl,ol+k*4,none⟩=some (.int .i64 x1)∧o.cell? ⟨bl,ol+k*4+1,none⟩=some (.int .i64 x2)∧o.cell? ⟨bl,ol+k*4+2,none⟩=some (.int .i64 x3)∧o.cell? ⟨bl,ol+k*4+3,none⟩=some (.int .i64 x4)) (first|exact ⟨Ac _ _ _,Ac _ _ _,Ac _ _ _,Ac _ _ _,Ac _ _ _,Ac _ _ _,Ac _ _ _⟩) (first
      |(go_at_call 121;with_reducible refine Calls.mono (ds.out x1 x2 x3 x4 _ _ (Ae Bp)) ?_;rintro e w5 ⟨y1,y2,y3,y4,rfl,q5⟩;haveI:=q5.i)
      |(refine A6 EE rfl (.tmp 47) (.tmp 55) rfl rfl rfl (Ae (rw AK 4 (.slice f k m) (AQ d))) (Src.new (e:=AK) (s:=4) (vs:= [.int .i64 y1,.int .i64 y2,.int .i64 y3,.int .i64 y4]) (Ae _) rfl (by intro u hu;simp at hu;rcases hu with rfl|rfl|rfl|rfl<;>rfl)) (by unfold maxLen;omega) (by omega) ?_;intro a9 c9 w9 ep db;clear db;haveI:=ep.i))
     all_goals
      go_wp2_with fail
      go_roundg (np-(k+1))
      case measure=>have:=K.out.1;omega
      case rel=>exact ⟨k+1,a9,c9,d++ [⟨y1,y2,y3,y4⟩],by go_num,rfl,by omega,⟨rfl,by rw[List.length_append,K.out.2];rfl⟩,by rw[i'];exact Nn _ _ _ _ _ _ _ _ _⟩
   have bb: ¬(k:Int)<np:=by omega
   obtain rfl:np=k:=by omega
   have dd:A1 (rw AK 4 (.slice f np m) (AQ d)) (.slice f np m) d:=by
    have:=Ai.rw q4 ⟨f,m,rfl⟩
    show Ai 4 _ _ d.length _
    rw[K.out.2]
    exact this
   have HQ:Aside (A1 (rw AK 4 (.slice f np m) (AQ d)) (.slice f np m) d∧d.length=np):=⟨dd,K.out.2⟩
   have bi:Aside (∀F w,Sat (rw AK 4 (.slice f np m) (AQ d)*F) w→Calls Tryz.prog 105 #[.slice f np m] w fun e o=>e= .returned (.bool (Bk d))∧Sat (rw AK 4 (.slice f np m) (AQ d)*F) o):=fun F w q=>P9 d (.slice f np m) (rw AK 4 (.slice f np m) (AQ d)) F w HQ.out.1 q (by rw[HQ.out.2];omega)
   obtain ⟨mb,ei⟩:=Aq (Bk d)
   rw[ei] at bi
   clear dd K bw bb hk
   go_wp2_with fail
   with_reducible refine Calls.mono (bi.out _ _ (Ae (rw AK 4 (.slice f np m) (AQ d)))) ?_
   rintro e w5 ⟨rfl,q5⟩
   haveI:=q5.i
   clear q4 bi
   cases mb with
   | false =>
     go_wp2
     go_ret2
     exact .inl ⟨rfl,s,by unfold DQ;exact Cz _ _ _ _⟩
   | true =>
     obtain ⟨j,hj,fy⟩: ∃j:Nat,k1%((i:Int)+1)=(j:Int)∧j≤i:=⟨(k1%((i:Int)+1)).toNat,by have:=Int.emod_nonneg k1 (show (i:Int)+1≠0 by omega);omega,by have:=Int.emod_lt_of_pos k1 (show (0:Int)<(i:Int)+1 by omega);omega⟩
     have g7:=Bb ((i:Int)+1) (by omega)
     have ab:=fun w=>LR k1 ((i:Int)+1) w (by omega) (by omega)
     rw[hj] at ab
     clear hj
     go_wp2_with fail
     with_reducible refine Calls.mono (ab _) ?_
     rintro e w6 ⟨rfl,hw6⟩
     subst hw6
     clear ab
     obtain ⟨bA,d3⟩: ∃x:Bool,x=true↔ ∃r l,ms[j]?=some (r,l)∧0<r:=⟨@decide (∃r l,ms[j]?=some (r,l)∧0<r) (Classical.propDecidable _), @decide_eq_true_iff _ (Classical.propDecidable _)⟩
     have HA:=As d3
     clear d3
     go_upto_region 19 with (fail)
     go_cut [77] (fun f4 wx=>f4= .bool bA∧Sat (rw AK 4 (.slice f np m) (AQ d)*(Ad h s*(G*(rw Kq 2 (.slice Z i c1) (B9 (PL ms))*(rw Xy 1 (.slice a2 i c2) vs*(Sl.block NM iD [.int .i64 k1,.int .i64 k2,.int .i64 k3,.slice ap np cp,.int .i64 k5,.int .i64 k6]*(Sl.block b Hf [.pointer (some ⟨h.D,0,none⟩),.pointer (some ⟨h.C,0,none⟩),.pointer (some ⟨h.t,0,none⟩)]*(Sl.block NF GQ [.slice U Y V,.slice L I M]*(Bp*F))))))))) wx)
     case first =>
      by_cases bu:j<i
      · have ba:(j:Int)<i:=by omega
        obtain ⟨⟨r,l⟩,hp⟩: ∃p,ms[j]?=some p:=⟨_,List.getElem?_eq_getElem (by rw[P.out.len];exact bu)⟩
        obtain ⟨ga,rfl⟩:=Dv (hs:=q5.take (rw Kq 2 (.slice Z i c1) (B9 (PL ms)))) (by omega)
        haveI:=q5.i
        haveI:At (B9 (PL ms)) (j*2) (.int .i64 r):=⟨EJ (cS hp) 0 (by omega)⟩
        by_cases hr:0<r
        · have hb:bA=true:=HA.out.2 ⟨r,l,hp,hr⟩
          subst hb
          clear hp
          go_wp2
          go_meet
          exact ⟨rfl,Nn _ _ _ _ _ _ _ _ _⟩
        have hb:bA=false:=by
         cases bA with
         |false=>rfl
         | true =>
           obtain ⟨H,l',h1,h2⟩:=HA.out.1 rfl
           rw[hp] at h1
           cases h1
           exact absurd h2 hr
        subst hb
        clear hp
        go_wp2
        go_meet
        exact ⟨rfl,Nn _ _ _ _ _ _ _ _ _⟩
      have ba: ¬(j:Int)<i:=by omega
      have hb:bA=false:=by
       cases bA with
       |false=>rfl
       | true =>
         obtain ⟨H,l',h1,h2⟩:=HA.out.1 rfl
         rw[List.getElem?_eq_none (by rw[P.out.len];omega)] at h1
         cases h1
      subst hb
      go_wp2
      go_meet
      exact ⟨rfl,Nn _ _ _ _ _ _ _ _ _⟩
     obtain ⟨rfl,q6⟩:=hcut
     clear q5 this
     haveI:=q6.i
     go_upto_if 77 with (fail)
     go_cut [14,15,16] (fun c6 c7 f1 wx=> ∃(H cd:Int)(out:List Av)(mo:Nat)(ao:Option Addr)(co:Nat)(s1:TS)(O:Ab),c6= .int .i64 H∧c7= .int .i64 cd∧f1= .slice ao mo co∧Aside (RE s s1 200 2600∧(cd=0→Rt (nodeAt s1) H out∧He out)∧A1 (O*G) (.slice ao mo co) out∧out.length=mo∧(∀x∈out,0≤x.len∧x.len≤1048576)∧out.length≤65536)∧Sat (Ad h s1*(O*(G*(rw Kq 2 (.slice Z i c1) (B9 (PL ms))*(rw Xy 1 (.slice a2 i c2) vs*(Sl.block NM iD [.int .i64 k1,.int .i64 k2,.int .i64 k3,.slice ap np cp,.int .i64 k5,.int .i64 k6]*(Sl.block b Hf [.pointer (some ⟨h.D,0,none⟩),.pointer (some ⟨h.C,0,none⟩),.pointer (some ⟨h.t,0,none⟩)]*(Sl.block NF GQ [.slice U Y V,.slice L I M]*(Bp*F))))))))) wx)
     case first =>
      cases bA with
      | true => as_aux_lemma =>
        obtain ⟨r,l,hp,hr⟩:=HA.out.1 rfl
        have bu:j<i:=by have:=(List.getElem?_eq_some_iff.1 hp).1;rw[P.out.len] at this;exact this
        have ba:(j:Int)<i:=by omega
        obtain ⟨vj,H,l',hv,en,au,de,hg,aw⟩:=P.out.pl.at (i:=j) (by rw[P.out.len];exact bu)
        rw[hp] at aw
        cases aw
        obtain ⟨al,cl,rfl,eg,g0⟩:=au.v
        have bt:=hg.1.1
        have ec:=hg.1.2.2
        have es:Aa l≤1048576:=hg.1.2.1
        have er:0≤Aa l:=by have:=Bo bt;omega
        have d0: ∀h:Nat,2*4^h≤l.length→h≤4:=fun q hq=>by
         rcases Nat.lt_or_ge 4 q with h1|h1
         · have:4^5≤4^q:=Nat.pow_le_pow_right (by omega) h1
           omega
         exact h1
        obtain ⟨ga,rfl⟩:=Dv (hs:=q6.take (rw Kq 2 (.slice Z i c1) (B9 (PL ms)))) (by omega)
        obtain ⟨gb,rfl⟩:=Dv (hs:=q6.take (rw Xy 1 (.slice a2 i c2) vs)) (by omega)
        have b7:Aside (∀F w,Sat (G*F) w→Calls Tryz.prog 31 #[.slice al l.length cl] w fun e o=>e= .returned (.int .i64 (Aa l))∧Sat (G*F) o):=fun F w q=>Ie l (.slice al l.length cl) G F w au q (by omega) (fun x hx=>by have:=Ca (bt x hx);omega)
        have cu:Aside (∀(at_ n':Int) F w,Sat (Ad h s*(rw AK 4 (.slice f np m) (AQ d)*F)) w→Calls Tryz.prog 33 #[.pointer (some ⟨h.t,0,none⟩),.int .i64 r,.int .i64 at_,.int .i64 n',.slice f np m] w fun e o=> ∃(H:Int)(s1:TS),e= .returned (.tuple #[.int .i64 H,.int .i64 (Co l at_ n' d).1])∧Sat (Ad h s1*(rw AK 4 (.slice f np m) (AQ d)*F)) o∧Aside (RE s s1 200 2600∧((Co l at_ n' d).1=0→Rt (nodeAt s1) H (Co l at_ n' d).2))):=fun at_ n' F w q=>(Vi h s r at_ n' l d (.slice f np m) (rw AK 4 (.slice f np m) (AQ d)) F w HQ.out.1 q (by rw[HQ.out.2];omega) P.out.inv de hg.2 4 (by omega) d0 (by have:=P.out.room;omega) (by have:=P.out.ops;omega)).mono fun e o ⟨H,s1,g1,g2,g3,g4,_⟩=>⟨H,s1,g1,g2,g3.more (by omega) (by omega),g4⟩
        have bk:Aside (∀(at_ n':Int) F w,Sat (G*(rw AK 4 (.slice f np m) (AQ d)*F)) w→Calls Tryz.prog 40 #[.slice al l.length cl,.int .i64 at_,.int .i64 n',.slice f np m] w (Jl G (G*rw AK 4 (.slice f np m) (AQ d)) F (Co l at_ n' d))):=fun at_ n' F w q=>UY l d at_ n' (.slice al l.length cl) (.slice f np m) G (G*rw AK 4 (.slice f np m) (AQ d)) F w au (Ai.left au) (Ai.right HQ.out.1) (q.eq (Az _ _ _).symm) hg (by rw[HQ.out.2];omega)
        have a7:Aside (∀at_ n':Int,((Co l at_ n' d).1≠0→(Co l at_ n' d).2= [])∧((Co l at_ n' d).1=0→He (Co l at_ n' d).2)):=fun at_ n'=>⟨SM,SJ hg⟩
        obtain ⟨nl,dc⟩:=Aq l.length
        obtain ⟨z,hz⟩:=Aq (Aa l)
        rw[hz] at b7 er es
        have df:(B9 (PL ms))[j*2]?=some (.int .i64 r):=EJ (cS hp) 0 (by omega)
        rw[dc] at b7 bk eg hv
        haveI:=q6.i
        haveI:At (B9 (PL ms)) (j*2) (.int .i64 r):=⟨df⟩
        haveI:At vs j (.slice al nl cl):=⟨hv⟩
        obtain ⟨p2,bz,g5,g6⟩: ∃y:Int,k2%(z+1)=y∧0≤y∧y≤z:=⟨_,rfl,Int.emod_nonneg k2 (by omega),by have:=Int.emod_lt_of_pos k2 (show (0:Int)<z+1 by omega);omega⟩
        have hw1:=Bb (z+1) (by omega)
        have hw2:=Bb (z-p2) (by omega)
        have hw3:=Bb (z-p2+1) (by omega)
        have XF:=fun w=>LR k2 (z+1) w (by omega) (by omega)
        have bv:=fun w=>LR k3 (z-p2+1) w (by omega) (by omega)
        rw[bz] at XF
        obtain ⟨n2,da⟩: ∃y:Int,k3%(z-p2+1)=y:=⟨_,rfl⟩
        rw[da] at bv
        clear hp hv en au de hg bt ec d0 df bz da dc hz
        go_wp2_with fail
        with_reducible refine Calls.mono (b7.out _ _ (Ae G)) ?_
        rintro e w7 ⟨rfl,q7⟩
        haveI:=q7.i
        clear q6 b7
        go_wp2_with fail
        with_reducible refine Calls.mono (XF _) ?_
        rintro e w8 ⟨rfl,hw8⟩
        subst hw8
        go_wp2_with fail
        with_reducible refine Calls.mono (bv _) ?_
        rintro e w8 ⟨rfl,hw8⟩
        subst hw8
        clear XF bv
        go_wp2_with fail
        obtain ⟨⟨cd,out⟩,ar⟩:=Aq (Co l p2 n2 d)
        have ai:=cu.out p2 n2
        have ag:=bk.out p2 n2
        have af:=a7.out p2 n2
        rw[ar] at ai ag af
        have ct:=As ai
        have dw:=As ag
        have R:=As af
        clear cu bk a7 ai ag af ar
        go_cut [14,15] (fun c6 c7 wx=> ∃(H:Int)(s1:TS),c6= .int .i64 H∧c7= .int .i64 cd∧Aside (RE s s1 200 2600∧(cd=0→Rt (nodeAt s1) H out))∧Sat (rw AK 4 (.slice f np m) (AQ d)*(Ad h s1*(G*(rw Kq 2 (.slice (some ⟨ga,0,none⟩) i c1) (B9 (PL ms))*(rw Xy 1 (.slice (some ⟨gb,0,none⟩) i c2) vs*(Sl.block NM iD [.int .i64 k1,.int .i64 k2,.int .i64 k3,.slice ap np cp,.int .i64 k5,.int .i64 k6]*(Sl.block b Hf [.pointer (some ⟨h.D,0,none⟩),.pointer (some ⟨h.C,0,none⟩),.pointer (some ⟨h.t,0,none⟩)]*(Sl.block NF GQ [.slice U Y V,.slice L I M]*(Bp*F))))))))) wx)
        case first=>
         go_region_held3 (fun o=>o.cell? ⟨b,2,none⟩=some (.pointer (some ⟨h.t,0,none⟩))∧o.cell? ⟨ga,j*2,none⟩=some (.int .i64 r)) (first|exact ⟨Ac _ _ _,Ac _ _ _⟩) (first
          |(go_at_call 33;with_reducible refine Calls.mono (ct.out _ _ (Bh (Ad h s) (rw AK 4 (.slice f np m) (AQ d)))) ?_;rintro e w9 ⟨H,s1,rfl,q9,eo⟩;haveI:=q9.i))
         all_goals
          go_wp2_with fail
          go_meet
          exact ⟨H,s1,rfl,rfl,eo,Nn _ _ _ _ _ _ _ _ _⟩
        obtain ⟨H,s1,rfl,rfl,ah,q9⟩:=hcut
        clear q7 ct this
        haveI:=q9.i
        go_wp2_with fail
        with_reducible refine Calls.mono (dw.out _ _ (Bh G (rw AK 4 (.slice f np m) (AQ d)))) ?_
        rintro e f5 ⟨ao,co,O,rfl,X,ay⟩
        simp only at X ay⊢
        obtain ⟨mo,W⟩:=Aq out.length
        have J:Aside (A1 (O*G) (.slice ao out.length co) out∧out.length=mo):=⟨X,W⟩
        rw[W]
        haveI:=ay.i
        clear X W
        go_wp2_with fail
        go_meet
        refine ⟨H,cd,out,mo,ao,co,s1,O,rfl,rfl,rfl,⟨ah.out.1,fun hc=>⟨ah.out.2 hc,R.out.2 hc⟩,by have:=J.out.1;rwa [J.out.2] at this,J.out.2,Nk R.out,T9 R.out⟩,Nn _ _ _ _ _ _ _ _ _⟩
      | false => as_aux_lemma =>
        have b6:Aside (∀F w,Sat (Ad h s*(rw AK 4 (.slice f np m) (AQ d)*F)) w→Calls Tryz.prog 23 #[.pointer (some ⟨h.t,0,none⟩),.slice f np m] w fun e o=> ∃(H:Int)(s1:TS),e= .returned (.tuple #[.int .i64 H,.int .i64 (CS d).1])∧Sat (Ad h s1*(rw AK 4 (.slice f np m) (AQ d)*F)) o∧Aside (RE s s1 200 2600∧((CS d).1=0→Rt (nodeAt s1) H (CS d).2))):=fun F w q=>(dQ h s d (.slice f np m) (rw AK 4 (.slice f np m) (AQ d)) F w HQ.out.1 q P.out.inv (by rw[HQ.out.2];omega) (by have:=P.out.room;omega) (by have:=P.out.ops;omega)).mono fun e o ⟨H,s1,g1,g2,g3,g4,_⟩=>⟨H,s1,g1,g2,g3.more (by omega) (by omega),g4⟩
        have cn:Aside (∀F w,Sat (rw AK 4 (.slice f np m) (AQ d)*F) w→Calls Tryz.prog 114 #[.slice f np m] w (Jl (rw AK 4 (.slice f np m) (AQ d)) (rw AK 4 (.slice f np m) (AQ d)) F (CS d))):=fun F w q=>WE d (.slice f np m) (rw AK 4 (.slice f np m) (AQ d)) F w HQ.out.1 q (by rw[HQ.out.2];omega)
        have a7:Aside (((CS d).1≠0→(CS d).2= [])∧((CS d).1=0→He (CS d).2)):=⟨VL,Tp⟩
        obtain ⟨⟨cd,out⟩,ar⟩:=Aq (CS d)
        rw[ar] at b6 cn a7
        have R:=As a7.out
        have b6:=As b6.out
        clear a7 ar
        go_wp2_with fail
        with_reducible refine Calls.mono (b6.out _ _ (Bh (Ad h s) (rw AK 4 (.slice f np m) (AQ d)))) ?_
        rintro e w9 ⟨H,s1,rfl,q9,ah⟩
        haveI:=q9.i
        clear q6
        go_wp2_with fail
        with_reducible refine Calls.mono (cn.out _ _ (Ae (rw AK 4 (.slice f np m) (AQ d)))) ?_
        rintro e f5 ⟨ao,co,O,rfl,X,ay⟩
        simp only at X ay⊢
        obtain ⟨mo,W⟩:=Aq out.length
        have J:Aside (A1 (O*rw AK 4 (.slice f np m) (AQ d)) (.slice ao out.length co) out∧out.length=mo):=⟨X,W⟩
        rw[W]
        haveI:=ay.i
        clear X W q9
        go_wp2_with fail
        go_meet
        refine ⟨H,cd,out,mo,ao,co,s1,O*rw AK 4 (.slice f np m) (AQ d),rfl,rfl,rfl,⟨ah.out.1,fun hc=>⟨ah.out.2 hc,R.out.2 hc⟩,by have:=Ai.left (B:=G) J.out.1;rw[J.out.2] at this;show Ai 4 _ _ out.length _;rw[J.out.2];exact this,J.out.2,Nk R.out,T9 R.out⟩,?_⟩
        rw[Az]
        exact iU _ _ _ _ _ _ _ _ _ _
     obtain ⟨H,cd,out,mo,ao,co,s1,O,rfl,rfl,rfl,HO,q7⟩:=hcut
     clear q6 this
     haveI:=q7.i
     by_cases d6:cd=0
     · subst d6
       have bn:Aside (∀F w,Sat (O*(G*F)) w→Calls Tryz.prog 31 #[.slice ao mo co] w fun e o=>e= .returned (.int .i64 (Aa out))∧Sat (O*(G*F)) o):=fun F w q=>by
        have h9:=HO.out.2.2.1
        have e9:=HO.out.2.2.2.1
        subst e9
        refine (Ie out (.slice ao out.length co) (O*G) F w h9 (q.eq (Az _ _ _).symm) HO.out.2.2.2.2.2 HO.out.2.2.2.2.1).mono ?_
        rintro e o ⟨rfl,q'⟩
        exact ⟨rfl,q'.eq (Az _ _ _)⟩
       have bj:Aside (lV s0 s1 (ms++ [(H,out)]) (vs++ [.slice ao mo co]) (O*G) (i+1)∧B9 (PL (ms++ [(H,out)]))=B9 (PL ms)++ [.int .i64 H,.int .i64 (Aa out)]):=⟨⟨by
        have h9:=HO.out.2.2.1
        have e9:=HO.out.2.2.2.1
        subst e9
        exact P.out.pl.more HO.out.1.le h9 (HO.out.2.1 rfl).1 (HO.out.2.1 rfl).2,HO.out.1.inv,by rw[List.length_append,P.out.len];rfl,by have:=HO.out.1.left;have:=P.out.ops;omega,by have:=HO.out.1.room;have:=P.out.room;omega,AW.next _ _ _ P.out.cap HO.out.1.cap⟩,by simp[PL,B9,KX]⟩
       obtain ⟨zo,dh⟩:=Aq (Aa out)
       rw[dh] at bn bj
       clear dh
       go_wp2_with fail
       with_reducible refine Calls.mono (bn.out _ _ (Bh O G)) ?_
       rintro e w9 ⟨rfl,q9⟩
       haveI:=q9.i
       clear q7 bn
       go_wp2_with (at_builtin;first|(refine Af EV rfl (.tmp 138) (.tmp 143) rfl rfl rfl (Ae (rw Kq 2 (.slice Z i c1) (B9 (PL ms)))) (Src.new (e:=Kq) (s:=2) (vs:= [.int .i64 H,.int .i64 zo]) (Ae _) rfl (by intro u hu;simp at hu;rcases hu with rfl|rfl<;>rfl)) (by unfold maxLen;omega) (by omega) ?_;intro a3 c3 gh et f7;clear f7;haveI:=et.i)|(refine Af EL rfl (.tmp 145) (.tmp 147) rfl rfl rfl (Ae (rw Xy 1 (.slice a2 i c2) vs)) (Src.new (e:=Xy) (s:=1) (vs:= [.slice ao mo co]) (Ae _) rfl (by intro u hu;simp at hu;rcases hu with rfl;rfl)) (by unfold maxLen;omega) (by omega) ?_;intro a4 c4 gi eu f8;clear f8;haveI:=eu.i))
       go_roundg (12-(i+1))
       case measure=>have:=A.out;omega
       refine ⟨i+1,s1,a3,c3,a4,c4,ms++ [(H,out)],vs++ [Value.slice ao mo co],O*G,by go_num,rfl,rfl,by omega,by omega,rfl,bj.out.1,?_⟩
       rw[bj.out.2,Az]
       exact Nn _ _ _ _ _ _ _ _ _
     have ff:(cd !=0)=true:=by simp[d6]
     go_wp2
     go_ret2
     exact .inl ⟨rfl,s1,by unfold DQ;exact Cz _ _ _ _⟩
 have ax:(¬(i:Int)<n)∨((i:Int)<n∧ ¬(i:Int)<12):=by omega
 go_upto_region 4 with (fail)
 go_cut [29] (fun f3 wx=>f3= .bool false∧Sat (Ad h s*(G*(rw Kq 2 (.slice Z i c1) (B9 (PL ms))*(rw Xy 1 (.slice a2 i c2) vs*(Sl.block b Hf [.pointer (some ⟨h.D,0,none⟩),.pointer (some ⟨h.C,0,none⟩),.pointer (some ⟨h.t,0,none⟩)]*(Sl.block NF GQ [.slice U Y V,.slice L I M]*(Bp*F))))))) wx)
 case first=>
  rcases ax with h1|⟨h1,h2⟩
  all_goals
   go_wp2
   go_meet
   exact ⟨rfl,n9 _ _ _ _ _ _ _ _⟩
 obtain ⟨rfl,q3⟩:=hcut
 have hf:=T5 P.out.inv (by have:=P.out.ops;unfold AM BG at this;unfold BG;omega)
 have d8:=fun F w q=>Wa h s F w P.out.inv (by have:=P.out.ops;unfold AM BG at this;unfold BG;omega) (by rw[P.out.cap.cap];exact d5) q
 have Q:Aside ((∀F w,Sat (Ad h s*F) w→Calls Tryz.prog 36 #[.pointer (some ⟨h.C,0,none⟩)] w fun e o=>e= .returned (.int .i64 0)∧Sat (Ad h s.Lv*F) o)∧ZO s s.Lv∧60000000≤AM s∧Fv s0 s):=⟨d8,hf,by have:=P.out.ops;omega,P.out.cap⟩
 have cw:Aside ((PL ms).length=i∧ ∀q p,0≤q→(PL ms)[q]?=some p→0≤p.2∧p.2≤1048576):=⟨by unfold PL;rw[List.length_map,P.out.len],fun q p _ hp=>by
  obtain ⟨⟨r,l⟩,h1,rfl⟩:=List.mem_map.1 (List.mem_of_getElem? hp)
  obtain ⟨q2,h2⟩:=List.getElem?_of_mem h1
  have hq:=(List.getElem?_eq_some_iff.1 h2).1
  obtain ⟨_,_,_,_,_,_,_,hg,aw⟩:=P.out.pl.at hq
  rw[h2] at aw
  cases aw
  have h3:=hg.1.2.1
  have h4:=Bo hg.1.1
  simp only
  omega⟩
 haveI:=q3.i
 clear q2 ax A hf d8 P
 go_wp2_with fail
 go_loopg [21] i (fun g f2 wx=> ∃(k:Nat)(vl:List (Int×Int)),f2= .int .i64 k∧k≤i∧Aside (g=i-k∧vl.length=i∧ ∀q p,k≤q→vl[q]?=some p→0≤p.2∧p.2≤1048576)∧Sat (Ad h s*(G*(rw Kq 2 (.slice Z i c1) (B9 vl)*(rw Xy 1 (.slice a2 i c2) vs*(Sl.block b Hf [.pointer (some ⟨h.D,0,none⟩),.pointer (some ⟨h.C,0,none⟩),.pointer (some ⟨h.t,0,none⟩)]*(Sl.block NF GQ [.slice U Y V,.slice L I M]*(Bp*F))))))) wx)
 case atStart=>exact ⟨0,PL ms,rfl,by omega,⟨rfl,cw.out.1,cw.out.2⟩,q3⟩
 obtain ⟨k,vl,rfl,hk,K,q4⟩:=hrel
 clear q3
 haveI:=q4.i
 by_cases ef:k<i
 · have d9:(k:Int)<i:=by omega
   have bw:(k:Int)<n:=by omega
   obtain ⟨⟨k1,k2,k3,ap,cp,put,k5,k6⟩,hx⟩: ∃x,cs[k]?=some x:=⟨_,List.getElem?_eq_getElem (by rw[HM.out.2.1];omega)⟩
   obtain ⟨bm,om,e1,r0,r1,r2,r3,r4,r5⟩:=Rq HM.out.1 hx
   subst e1
   simp only at r4 r5
   obtain ⟨⟨ro,bo⟩,hv⟩: ∃p,vl[k]?=some p:=⟨_,List.getElem?_eq_getElem (by rw[K.out.2.1];exact ef)⟩
   obtain ⟨ea,eb⟩:=K.out.2.2 k _ (Nat.le_refl _) hv
   simp only at ea eb
   obtain ⟨ga,rfl⟩:=Dv (hs:=q4.take (rw Kq 2 (.slice Z i c1) (B9 vl))) (by omega)
   obtain ⟨y,hy,hy0,hy1⟩: ∃y:Int,k5%100=y∧0≤y∧y<100:=⟨_,rfl,Int.emod_nonneg k5 (by omega),Int.emod_lt_of_pos k5 (by omega)⟩
   have ab:=fun w=>LR k5 100 w (by omega) (by omega)
   rw[hy] at ab
   have hw1:=Bb (bo+y) (by omega)
   haveI:=q4.i
   have i0:At (B9 vl) (k*2) (.int .i64 ro):=⟨EJ hv 0 (by omega)⟩
   have i1:At (B9 vl) (k*2+1) (.int .i64 bo):=⟨EJ hv 1 (by omega)⟩
   haveI:=i0
   haveI:=i1
   have HV:=As hv
   have hz: ∀z:Int,(B9 vl).set (k*2+1) (.int .i64 z)=B9 (vl.set k (ro,z)):=fun z=>UT hv z
   clear hv hx hy r0 r1 r2 r3
   have i2:At ((B9 vl).set (k*2+1) (.int .i64 (bo+y))) (k*2) (.int .i64 ro):=⟨by rw[List.getElem?_set_ne (by omega)];exact EJ HV.out 0 (by omega)⟩
   haveI:=i2
   have dg: ∀z:Int,((B9 vl).set (k*2+1) (.int .i64 (bo+y))).set (k*2) (.int .i64 z)=B9 ((vl.set k (ro,bo+y)).set k (z,bo+y)):=fun z=>by
    rw[hz]
    exact US (by rw[List.getElem?_set_self (List.getElem?_eq_some_iff.1 HV.out).1]) z
   have HZ:Aside ((∀z:Int,(B9 vl).set (k*2+1) (.int .i64 z)=B9 (vl.set k (ro,z)))∧ ∀z:Int,((B9 vl).set (k*2+1) (.int .i64 (bo+y))).set (k*2) (.int .i64 z)=B9 ((vl.set k (ro,bo+y)).set k (z,bo+y))):=⟨hz,dg⟩
   have du:Aside (∀z:Int×Int,(vl.set k z).length=i∧ ∀q p,k+1≤q→(vl.set k z)[q]?=some p→0≤p.2∧p.2≤1048576):=fun z=>⟨by rw[List.length_set];exact K.out.2.1,fun q p hq hp=>by
    rw[List.getElem?_set_ne (by omega)] at hp
    exact K.out.2.2 q p (by omega) hp⟩
   have dv:Aside (∀z u:Int×Int,((vl.set k z).set k u).length=i∧ ∀q p,k+1≤q→((vl.set k z).set k u)[q]?=some p→0≤p.2∧p.2≤1048576):=fun z u=>⟨by rw[List.length_set,List.length_set];exact K.out.2.1,fun q p hq hp=>by
    rw[List.getElem?_set_ne (by omega),List.getElem?_set_ne (by omega)] at hp
    exact K.out.2.2 q p (by omega) hp⟩
   clear hz dg
   go_wp2_with fail
   refine Dr.Ft (fun o=>o.cell? ⟨ga,k*2+1,none⟩=some (.int .i64 bo)∧o.cell? ⟨bm,om+k*6+4,none⟩=some (.int .i64 k5)) [14,15,16] (by kernel_rfl) ⟨Ac _ _ _,Ac _ _ _⟩ (fun an=>?_)
   refine Dr.Am 0 (v:=?v0) (by simp only[List.getElem?_toArray,List.getElem?_cons_succ,List.getElem?_cons_zero];rfl) (by kernel_rfl) ?hQ0 (.inl ⟨?hw0,fun o=>?hy0⟩) ?_
   case hy0=>go_simp;try (with_reducible rfl)
   case hQ0=>exact fun _ _ _ h=>h
   case hw0=>rfl
   simp only[Act.put,List.setIfInBounds_toArray,List.set_cons_zero,List.set_cons_succ]
   refine Dr.Am 1 (v:=?v1) (by simp only[List.getElem?_toArray,List.getElem?_cons_succ,List.getElem?_cons_zero];rfl) (by kernel_rfl) ?hQ1 (.inl ⟨?hw1,fun o=>?hy1⟩) ?_
   case hy1=>go_simp;try (with_reducible rfl)
   case hQ1=>exact fun _ _ _ h=>h
   case hw1=>rfl
   simp only[Act.put,List.setIfInBounds_toArray,List.set_cons_zero,List.set_cons_succ]
   refine Dr.Am 2 (v:=?v2) (by simp only[List.getElem?_toArray,List.getElem?_cons_succ,List.getElem?_cons_zero];rfl) (by kernel_rfl) ?hQ2 (.inl ⟨?hw2,fun o=>?hy2⟩) ?_
   case hy2=>go_simp;try (with_reducible rfl)
   case hQ2=>exact fun _ _ _ h=>h
   case hw2=>rfl
   simp only[Act.put,List.setIfInBounds_toArray,List.set_cons_zero,List.set_cons_succ]
   refine Dr.Am 3 (v:=?v3) (by simp only[List.getElem?_toArray,List.getElem?_cons_succ,List.getElem?_cons_zero];rfl) (by kernel_rfl) ?hQ3 (.inl ⟨?hw3,fun o=>?hy3⟩) ?_
   case hy3=>go_simp;try (with_reducible rfl)
   case hQ3=>exact fun _ _ _ h=>h
   case hw3=>rfl
   simp only[Act.put,List.setIfInBounds_toArray,List.set_cons_zero,List.set_cons_succ]
   refine Dr.Am 4 (v:=?v4) (by simp only[List.getElem?_toArray,List.getElem?_cons_succ,List.getElem?_cons_zero];rfl) (by kernel_rfl) ?hQ4 (.inl ⟨?hw4,fun o=>?hy4⟩) ?_
   case hy4=>go_simp;try (with_reducible rfl)
   case hQ4=>exact fun _ _ _ h=>h
   case hw4=>rfl
   simp only[Act.put,List.setIfInBounds_toArray,List.set_cons_zero,List.set_cons_succ]
   refine Dr.Am 5 (v:=?v5) (by simp only[List.getElem?_toArray,List.getElem?_cons_succ,List.getElem?_cons_zero];rfl) (by kernel_rfl) ?hQ5 (.inl ⟨?hw5,fun o=>?hy5⟩) ?_
   case hy5=>go_simp;try (with_reducible rfl)
   case hQ5=>exact fun _ _ _ h=>h
   case hw5=>rfl
   simp only[Act.put,List.setIfInBounds_toArray,List.set_cons_zero,List.set_cons_succ]
   refine Dr.Dy 6 (v:=?v6) (by simp only[List.getElem?_toArray,List.getElem?_cons_succ,List.getElem?_cons_zero];rfl) (by kernel_rfl) ?hQ6 (.inl ⟨?hw6,fun o hw=>?hy6⟩) an ?_
   case hy6=>(try dsimp only at hw);go_simp;try (with_reducible rfl)
   case hQ6=>exact fun _ _ _ h=>h
   case hw6=>rfl
   simp only[Act.put,List.setIfInBounds_toArray,List.set_cons_zero,List.set_cons_succ]
   refine Dr.Am 7 (v:=?v7) (by simp only[List.getElem?_toArray,List.getElem?_cons_succ,List.getElem?_cons_zero];rfl) (by kernel_rfl) ?hQ7 (.inl ⟨?hw7,fun o=>?hy7⟩) ?_
   case hy7=>go_simp;try (with_reducible rfl)
   case hQ7=>exact fun _ _ _ h=>h
   case hw7=>rfl
   simp only[Act.put,List.setIfInBounds_toArray,List.set_cons_zero,List.set_cons_succ]
   refine Dr.Am 8 (v:=?v8) (by simp only[List.getElem?_toArray,List.getElem?_cons_succ,List.getElem?_cons_zero];rfl) (by kernel_rfl) ?hQ8 (.inl ⟨?hw8,fun o=>?hy8⟩) ?_
   case hy8=>go_simp;try (with_reducible rfl)
   case hQ8=>exact fun _ _ _ h=>h
   case hw8=>rfl
   simp only[Act.put,List.setIfInBounds_toArray,List.set_cons_zero,List.set_cons_succ]
   refine Dr.Am 9 (v:=?v9) (by simp only[List.getElem?_toArray,List.getElem?_cons_succ,List.getElem?_cons_zero];rfl) (by kernel_rfl) ?hQ9 (.inl ⟨?hw9,fun o=>?hy9⟩) ?_
   case hy9=>go_simp;try (with_reducible rfl)
   case hQ9=>exact fun _ _ _ h=>h
   case hw9=>rfl
   simp only[Act.put,List.setIfInBounds_toArray,List.set_cons_zero,List.set_cons_succ]
   refine Dr.Am 10 (v:=?v10) (by simp only[List.getElem?_toArray,List.getElem?_cons_succ,List.getElem?_cons_zero];rfl) (by kernel_rfl) ?hQ10 (.inl ⟨?hw10,fun o=>?hy10⟩) ?_
   case hy10=>go_simp;try (with_reducible rfl)
   case hQ10=>exact fun _ _ _ h=>h
   case hw10=>rfl
   simp only[Act.put,List.setIfInBounds_toArray,List.set_cons_zero,List.set_cons_succ]
   refine Dr.Dy 11 (v:=?v11) (by simp only[List.getElem?_toArray,List.getElem?_cons_succ,List.getElem?_cons_zero];rfl) (by kernel_rfl) ?hQ11 (.inl ⟨?hw11,fun o hw=>?hy11⟩) an ?_
   case hy11=>(try dsimp only at hw);go_simp;try (with_reducible rfl)
   case hQ11=>exact fun _ _ _ h=>h
   case hw11=>rfl
   simp only[Act.put,List.setIfInBounds_toArray,List.set_cons_zero,List.set_cons_succ]
   refine Dr.CC 12 (by simp only[List.getElem?_toArray,List.getElem?_cons_succ,List.getElem?_cons_zero];rfl) (by kernel_rfl) ?_
   go_wp2_with (go_simp;go_at_call 21;with_reducible refine Calls.mono (ab _) ?_;rintro e w7 ⟨rfl,hw7⟩;subst hw7)
   refine Dr.C9 ⟨⟨Ac _ _ _,Ac _ _ _⟩,?_⟩
   refine Dr.Am 13 (v:=?v13) (by simp only[List.getElem?_toArray,List.getElem?_cons_succ,List.getElem?_cons_zero];rfl) (by kernel_rfl) ?hQ13 (.inl ⟨?hw13,fun o=>?hy13⟩) ?_
   case hy13=>go_simp;try (with_reducible rfl)
   case hQ13=>exact fun _ _ _ h=>h
   case hw13=>rfl
   simp only[Act.put,List.setIfInBounds_toArray,List.set_cons_zero,List.set_cons_succ]
   refine Dr.Gu [14,15,16] (os:= [_,_,_]) (by decide) (by simp only[List.map_cons,List.map_nil,List.getElem?_toArray,List.getElem?_cons_succ,List.getElem?_cons_zero];rfl) (by kernel_rfl) ?_
   by_cases fz:0<k6
   · go_wp2_with fail
     go_roundg (i-(k+1))
     case measure=>have:=K.out.1;omega
     case rel=>exact ⟨k+1,(vl.set k (ro,bo+y)).set k (k6%50,bo+y),by go_num,by omega,⟨rfl,dv.out _ _⟩,by rw[←HZ.out.2];exact n9 _ _ _ _ _ _ _ _⟩
   go_wp2_with fail
   go_roundg (i-(k+1))
   case measure=>have:=K.out.1;omega
   case rel=>exact ⟨k+1,vl.set k (ro,bo+y),by go_num,by omega,⟨rfl,du.out _⟩,by rw[←HZ.out.1];exact n9 _ _ _ _ _ _ _ _⟩
 have d9: ¬(k:Int)<i:=by omega
 obtain rfl:i=k:=by omega
 have HL:=As K.out.2.1
 clear K
 go_wp2_with fail
 with_reducible refine Calls.mono (Q.out.1 _ _ (Ae (Ad h s))) ?_
 rintro e w5 ⟨rfl,q5⟩
 haveI:=q5.i
 go_wp2
 go_ret2
 refine .inr ⟨s.Lv,vl,Z,c1,by rw[HL.out];rfl,by rw[HL.out];omega,Q.out.2.1.inv,Q.out.2.1.clean,by have:=Q.out.2.1.left;have:=Q.out.2.2.1;omega,AW.next _ _ _ Q.out.2.2.2 Q.out.2.1.cap,?_⟩
 rw[HL.out]
 unfold DQ
 exact DC _ _ _ _ _
