/- treeFails holds for every input. No condition. (part 53) -/
import Derived.Test.YtfhbmblbidcmmaaGreatYa52
import Derived.Test.YtfhbmblbidcmmaaGreatYa48
set_option linter.all false
set_option maxRecDepth 1000000
set_option maxHeartbeats 3200000
namespace Go.Tr
theorem Q5{x:As}(h:Ai x=true){a n:Int}(c:0≤a)(d:1≤n)(e:a+n≤x.len):Ai (Hh x a n)=true:=by
 rw[BS] at h⊢
 unfold Hh
 simp only
 refine ⟨h.1,by omega,by omega,by omega,by omega,by omega,?_,?_⟩
 ·split<;>omega
 rcases h.2.2.2.2.2.2.2 with b|b
 ·exact .inl b
 right
 rw[if_neg (by omega)]
theorem Je: ∀(l:List As)(n:Int),(∀x∈l,Ai x=true)→(∀x∈(first l n).1,Ai x=true)∧(∀x∈(first l n).2,Ai x=true)
 | [],n,_=>by simp[first]
 | x :: l, n, hm => by
  have a:=Je l (n-x.len) fun y hy=>hm y (List.mem_cons_of_mem _ hy)
  have hx:=hm x List.mem_cons_self
  rw[FN]
  split
  ·exact ⟨fun y hy=>by rcases List.mem_cons.1 hy with rfl|hy;exact hx;exact a.1 y hy,a.2⟩
  split
  ·exact ⟨a.1,fun y hy=>by rcases List.mem_cons.1 hy with rfl|hy;exact hx;exact a.2 y hy⟩
  exact ⟨fun y hy=>by rcases List.mem_cons.1 hy with rfl|hy;exact Q5 hx (by omega) (by omega) (by omega);exact a.1 y hy,fun y hy=>by rcases List.mem_cons.1 hy with rfl|hy;exact Q5 hx (by omega) (by omega) (by omega);exact a.2 y hy⟩
theorem Ls: ∀(l:List As)(n:Int),Ab (first l n).1+Ab (first l n).2=Ab l
 | [],n=>by simp[first,Ab]
 | x :: l, n => by
  have a:=Ls l (n-x.len)
  rw[FN,Bo]
  split
  ·simp only[Bo];omega
  split
  ·simp only[Bo];omega
  simp only[Bo];unfold Hh;simp only;omega
theorem LR(l:List As)(n:Int)(hm: ∀x∈l,Ai x=true)(e:0≤n)(b:n≤Ab l):Ab (first l n).1=n:=by
 induction l generalizing n with
 |nil=>simp[Ab] at b;simp[first,Ab];omega
 | cons x l d =>
  have hx:=BS.1 (hm x List.mem_cons_self)
  rw[Bo] at b
  rw[FN]
  split
  ·rename_i c
   rw[Bo,d (n-x.len) (fun y hy=>hm y (List.mem_cons_of_mem _ hy)) (by omega) (by omega)]
   omega
  rename_i c
  have a:=Eg l (n-x.len) (by omega) fun y hy=>hm y (List.mem_cons_of_mem _ hy)
  split
  ·simp only[a]
   simp[Ab]
   omega
  simp only[a]
  unfold Hh
  simp[Ab]
theorem T8{l put:List As}{at_ n:Int}(hm: ∀x∈l,Ai x=true)(hp: ∀x∈put,Ai x=true)(b:0≤at_)(c:0≤n)(f:at_+n≤Ab l):
 (∀x∈(first l at_).1++put++(first (first l at_).2 n).2,Ai x=true)∧Ab ((first l at_).1++put++(first (first l at_).2 n).2)=Ab l-n+Ab put:=by
 have a:=Je l at_ hm
 have d:=Je (first l at_).2 n a.2
 have s1:=Ls l at_
 have s2:=Ls (first l at_).2 n
 have e:=LR l at_ hm b (by omega)
 have b2:=LR (first l at_).2 n a.2 c (by omega)
 refine ⟨fun x hx=>?_,?_⟩
 ·rcases List.mem_append.1 hx with hx|hx
  ·rcases List.mem_append.1 hx with hx|hx
   ·exact a.1 x hx
   exact hp x hx
  exact d.2 x hx
 rw[Ak,Ak]
 omega
end Go.Tr
namespace Go.Proofs.YtfhbmblbidcmmaaGreat
open Go.Tr
def G'(l:List As):Prop:=Fit l∧BI l
open Go.Dk Go.RowKit Go.Sl
theorem V9(a c:List As)(va vb:Value)(B F:Ac)(w:World)(I:Aq B va a)(L:Aq B vb c)(hs:Sat (B*F) w)(hl:a.length≤65536)(O:c.length≤65536):
 Calls Tryz.prog 45 #[va,vb] w fun e w'=>e= .returned (.bool (decide (a=c)))∧Sat (B*F) w':=by
 obtain ⟨a0,c0,rfl,K,ah⟩:=I.v
 obtain ⟨a1,c1,rfl,M,ai⟩:=L.v
 have HA:Aside (Aq B (.slice a0 a.length c0) a):=I
 have HB:Aside (Aq B (.slice a1 c.length c1) c):=L
 obtain ⟨d,k⟩: ∃R,a.length=R:=⟨_,rfl⟩
 obtain ⟨x,l⟩: ∃R,c.length=R:=⟨_,rfl⟩
 have n:Aside (a.length=d∧c.length=x):=⟨k,l⟩
 obtain ⟨r,hr⟩: ∃r,decide (a=c)=r:=⟨_,rfl⟩
 have u:Aside (decide (a=c)=r):=hr
 rw[k] at hl K
 rw[l] at O M
 rw[k,l,hr]
 haveI:=hs.i
 clear I L k l hr
 by_cases t:d=x
 · subst t
   have b1:((d:Int) !=(d:Int))=false:=by simp
   go_enter Tryz.func45,Tryz.ntmps45
   go_wp2
   go_loopg [5] d (fun g t5 wr=> ∃(j:Nat),t5= .int .i64 j∧j≤d∧Aside (g=d-j∧a.take j=c.take j)∧Sat (B*F) wr)
   case atStart=>exact ⟨0,rfl,by omega,⟨rfl,by simp⟩,hs⟩
   obtain ⟨j,rfl,hj,J,P⟩:=hrel
   clear hs this
   haveI:=P.i
   by_cases aj:j<d
   · have s:(j:Int)<d:=by omega
     obtain ⟨y,hy⟩: ∃y,a[j]?=some y:=⟨_,List.getElem?_eq_getElem (by have:=n.out;omega)⟩
     obtain ⟨z,Q⟩: ∃y,c[j]?=some y:=⟨_,List.getElem?_eq_getElem (by have:=n.out;omega)⟩
     obtain ⟨b,q,rfl,r1,X,Y,Z⟩:=BW HA.out hy
     obtain ⟨b',q',rfl,s1,s2,s3,s4⟩:=BW HB.out Q
     have o:Aside (a[j]?=some y∧c[j]?=some z):=⟨hy,Q⟩
     clear hy Q
     by_cases f:y=z
     · have HE:Aside (a.take (j+1)=c.take (j+1)):=(by rw[AA o.out.1,AA o.out.2,J.out.2,f]:_=_)
       subst f
       obtain ⟨T,U,V,W⟩:=y
       simp only at r1 X Y Z s1 s2 s3 s4
       go_wp2_with fail
       go_region
       go_wp2
       go_roundg (d-(j+1))
       case measure=>have:=J.out.1;omega
       case rel=>exact ⟨j+1,by go_num,by omega,⟨rfl,HE.out⟩,Av _ _⟩
     have m:Aside (r=false):=by
      rw[←u.out]
      apply decide_eq_false
      intro e
      rw[e,o.out.2] at o
      exact f (Option.some.inj o.out.1).symm
     obtain ⟨T,U,V,W⟩:=y
     obtain ⟨z1,z2,z3,z4⟩:=z
     simp only at r1 X Y Z s1 s2 s3 s4
     have p: ¬(T=z1∧U=z2∧V=z3∧W=z4):=by simpa using f
     clear f u o
     by_cases D: ¬T=z1
     · clear p
       go_wp2_with fail
       go_region
       go_wp2
       go_ret
       exact ⟨by rw[m.out];rfl,Av B F⟩
     have D:=Classical.not_not.1 D
     subst D
     by_cases G: ¬U=z2
     · clear p
       go_wp2_with fail
       go_region
       go_wp2
       go_ret
       exact ⟨by rw[m.out];rfl,Av B F⟩
     have G:=Classical.not_not.1 G
     subst G
     by_cases H: ¬V=z3
     · clear p
       go_wp2_with fail
       go_region
       go_wp2
       go_ret
       exact ⟨by rw[m.out];rfl,Av B F⟩
     have H:=Classical.not_not.1 H
     subst H
     by_cases e4:W=z4
     · exact absurd ⟨rfl,rfl,rfl,e4⟩ p
     clear p
     go_wp2_with fail
     go_region
     go_wp2
     go_ret
     exact ⟨by rw[m.out];rfl,Av B F⟩
   have s: ¬(j:Int)<d:=by omega
   have m:Aside (r=true):=by
    rw[←u.out]
    apply decide_eq_true
    have h:=J.out.2
    rwa [List.take_of_length_le (by rw[n.out.1];omega),List.take_of_length_le (by rw[n.out.2];omega)] at h
   go_wp2
   go_ret
   exact ⟨by rw[m.out];rfl,Av B F⟩
 have m:Aside (r=false):=by
  rw[←u.out]
  apply decide_eq_false
  intro e
  apply t
  rw[←n.out.1,←n.out.2,e]
 have b1:((d:Int) !=(x:Int))=true:=by simp;omega
 have b2:((d:Int)==(x:Int))=false:=by simp;omega
 go_enter Tryz.func45,Tryz.ntmps45
 go_wp2
 go_ret
 exact ⟨by rw[m.out];rfl,Av B F⟩
def M6(b B F:Ac)(r:Int×List As)(e:Ending)(d:World):Prop:= ∃(a:Option Addr)(c:Nat)(G:Ac),e= .returned (.tuple #[.slice a r.2.length c,.int .i64 r.1])∧Aq (G*b) (.slice a r.2.length c) r.2∧Sat (G*(B*F)) d
theorem Cx{a B F:Ac}{n:Int}{w:World}(hs:Sat (B*F) w):M6 a B F (n,[]) (.returned (.tuple #[.slice none 0 0,.int .i64 n])) w:=⟨none,0,1,rfl,Al.nil 4 _,by rw[Am];exact hs⟩
theorem XF{a:Option Addr}{c:Nat}(l:List As)(n:Nat)(b:l.length=n): ∀(F:Ac)(w:World),Sat (rw A9 4 (.slice a n c) (AQ l)*F) w→Src Tryz.prog 4 w (.slice a n c) n (AQ l):=fun F w h=>by
 subst b
 exact Al.src (EZ h rfl) (Ky l) h
theorem RO(l put:List As)(at_ n:Int)(v vp:Value)(B0 B F:Ac)(w:World)(an:Aq B0 v l)(hE:Aq B v l)(hP:Aq B vp put)(hs:Sat (B*F) w)(hg:G' l)(ci:put.length≤1000):
 Calls Tryz.prog 40 #[v,.int .i64 at_,.int .i64 n,vp] w (M6 B0 B F (Ld l at_ n put)):=by
 obtain ⟨⟨U,be,cd⟩,cc⟩:=hg
 have d:=fun F w h=>X5 put vp B F w hP h (by omega)
 have f:=fun F w h=>LG l v B F w hE h (by omega) fun x hx=>by have:=C0 (U x hx);omega
 unfold Ld
 by_cases hm:BD put=false
 · rw[if_pos hm]
   rw[hm] at d
   go_enter Tryz.func40,Tryz.ntmps40
   go_wp2_with fail
   refine (d _ _ hs).mono ?_
   rintro e w1 ⟨rfl,H⟩
   go_wp2
   go_ret2
   exact Cx H
 rw[if_neg hm]
 have ar:BD put=true:=by simpa using hm
 rw[ar] at d
 obtain ⟨ag,cg⟩:=D0 ar
 have p:=fun F w h=>LG put vp B F w hP h (by omega) fun x hx=>by have:=C0 (ag x hx);omega
 have ce:=(Gp (o:=put) fun y hy=>(Km.of (ag y hy)).1).1
 have bk:=(Gp (o:=l) fun y hy=>(Km.of (U y hy)).1).1
 by_cases hc:at_<0∨n<0∨Ab l<at_∨Ab l-at_<n
 · rw[if_pos hc]
   obtain ⟨z,hz⟩: ∃z,Ab l=z:=⟨_,rfl⟩
   rw[hz] at hc f bk be
   by_cases c1:at_<0
   · go_enter Tryz.func40,Tryz.ntmps40
     go_wp2_with fail
     refine (d _ _ hs).mono ?_
     rintro e w1 ⟨rfl,H⟩
     go_wp2_with fail
     refine (f _ _ H).mono ?_
     rintro e w2 ⟨rfl,P⟩
     go_wp2
     go_ret2
     exact Cx P
   by_cases c2:n<0
   · go_enter Tryz.func40,Tryz.ntmps40
     go_wp2_with fail
     refine (d _ _ hs).mono ?_
     rintro e w1 ⟨rfl,H⟩
     go_wp2_with fail
     refine (f _ _ H).mono ?_
     rintro e w2 ⟨rfl,P⟩
     go_wp2
     go_ret2
     exact Cx P
   by_cases c3:z<at_
   · go_enter Tryz.func40,Tryz.ntmps40
     go_wp2_with fail
     refine (d _ _ hs).mono ?_
     rintro e w1 ⟨rfl,H⟩
     go_wp2_with fail
     refine (f _ _ H).mono ?_
     rintro e w2 ⟨rfl,P⟩
     go_wp2
     go_ret2
     exact Cx P
   have c4:z-at_<n:=by omega
   have hw:IntKind.i64.wrap (z-at_)=z-at_:=IntWalk.i64_in _ (by omega)
   go_enter Tryz.func40,Tryz.ntmps40
   go_wp2_with fail
   refine (d _ _ hs).mono ?_
   rintro e w1 ⟨rfl,H⟩
   go_wp2_with fail
   refine (f _ _ H).mono ?_
   rintro e w2 ⟨rfl,P⟩
   go_wp2
   go_ret2
   exact Cx P
 rw[if_neg hc]
 have c1:0≤at_:=by omega
 have c2:0≤n:=by omega
 have c3:at_≤Ab l:=by omega
 have c4:n≤Ab l-at_:=by omega
 obtain ⟨bc,bd⟩:=T8 (n:=n) (at_:=at_) U ag c1 c2 (by omega)
 have HO:Aside ((∀x∈(first l at_).1++put++(first (first l at_).2 n).2,Ai x=true)∧Ab ((first l at_).1++put++(first (first l at_).2 n).2)≤1099511627776):=⟨bc,by rw[bd];omega⟩
 have HM:Aside ((∀x∈l,Ai x=true)∧(∀x∈(first l at_).2,Ai x=true)):=⟨U,(Je l at_ U).2⟩
 have Q:Aside ((first l at_).1.length≤1024∧(first l at_).2.length≤1024∧(first (first l at_).2 n).1.length≤1024∧(first (first l at_).2 n).2.length≤1024):=by
  have h1:=GC l at_
  have h2:=GC (first l at_).2 n
  exact ⟨by omega,by omega,by omega,by omega⟩
 unfold D8
 obtain ⟨z,hz⟩: ∃z,Ab l=z:=⟨_,rfl⟩
 obtain ⟨pz,bg⟩: ∃z,Ab put=z:=⟨_,rfl⟩
 rw[hz] at f bk be c3 c4⊢
 rw[bg] at p ce cg⊢
 have dj:IntKind.i64.wrap (z-at_)=z-at_:=IntWalk.i64_in _ (by omega)
 have dk:IntKind.i64.wrap (z-n)=z-n:=IntWalk.i64_in _ (by omega)
 have dl:IntKind.i64.wrap (z-n+pz)=z-n+pz:=IntWalk.i64_in _ (by omega)
 have d1: ¬at_<0:=by omega
 have d2: ¬n<0:=by omega
 have d3: ¬z<at_:=by omega
 have d4: ¬z-at_<n:=by omega
 clear hc bc bd hz bg cc hm ar U ag
 by_cases hb:1048576<z-n+pz
 · rw[if_pos hb]
   go_enter Tryz.func40,Tryz.ntmps40
   go_wp2_with fail
   refine (d _ _ hs).mono ?_
   rintro e w1 ⟨rfl,H⟩
   go_wp2_with fail
   refine (f _ _ H).mono ?_
   rintro e w2 ⟨rfl,P⟩
   go_wp2_with fail
   refine (p _ _ P).mono ?_
   rintro e w3 ⟨rfl,q3⟩
   go_wp2
   go_ret2
   exact Cx q3
 rw[if_neg hb]
 obtain ⟨ap,cp,rfl,cf,di⟩:=hP.v
 obtain ⟨O,I⟩: ∃k,put.length=k:=⟨_,rfl⟩
 by_cases aa:n=0∧put= []
 · rw[if_pos aa]
   obtain ⟨rfl,ch⟩:=aa
   obtain rfl:O=0:=by rw[←I,ch];rfl
   rw[I] at d p⊢
   obtain ⟨al,cl,rfl,dg,dh⟩:=hE.v
   have HE:Aside (Aq B0 (.slice al l.length cl) l):=an
   clear an hE hP HO HM Q
   go_enter Tryz.func40,Tryz.ntmps40
   go_wp2_with fail
   refine (d _ _ hs).mono ?_
   rintro e w1 ⟨rfl,H⟩
   go_wp2_with fail
   refine (f _ _ H).mono ?_
   rintro e w2 ⟨rfl,P⟩
   go_wp2_with fail
   refine (p _ _ P).mono ?_
   rintro e w3 ⟨rfl,q3⟩
   go_wp2
   go_ret2
   exact ⟨al,cl,1,rfl,Al.right HE.out,by rw[Am];exact q3⟩
 rw[if_neg aa]
 obtain ⟨i0,E⟩:=FK
 have SP:Aside (∀(F:Ac)(w:World),Sat (B*F) w→Src Tryz.prog 4 w (.slice ap O cp) O (AQ put)):=fun F w h=>by
  rw[←I]
  exact Al.src hP (Ky put) h
 obtain ⟨L,hL⟩: ∃x,(first l at_).1=x:=⟨_,rfl⟩
 obtain ⟨R,hR⟩: ∃x,(first l at_).2=x:=⟨_,rfl⟩
 obtain ⟨M,hM⟩: ∃x,(first R n).1=x:=⟨_,rfl⟩
 obtain ⟨K,hK⟩: ∃x,(first R n).2=x:=⟨_,rfl⟩
 have m:=fun F w h=>NH l at_ v B F w hE h (by omega) HM.out.1 (by omega) (by omega)
 have j:=fun a c F w (h:Sat (rw A9 4 (.slice a R.length c) (AQ R)*F) w)=>NH R n _ _ F w (EZ h rfl) h (by have:=Q.out.2.1;rw[hR] at this;omega) (by have:=HM.out.2;rw[hR] at this;exact this) (by omega) (by omega)
 rw[hL,hR] at m
 rw[hM,hK] at j
 rw[hL,hR,hK] at HO
 rw[hL,hR,hM,hK] at Q
 rw[hL,hR,hK]
 obtain ⟨u,a5⟩: ∃k,L.length=k:=⟨_,rfl⟩
 obtain ⟨nR,af⟩: ∃k,R.length=k:=⟨_,rfl⟩
 obtain ⟨nM,av⟩: ∃k,M.length=k:=⟨_,rfl⟩
 obtain ⟨nK,a0⟩: ∃k,K.length=k:=⟨_,rfl⟩
 have SL:Aside (∀(a:Option Addr)(c:Nat)(F:Ac)(w:World),Sat (rw A9 4 (.slice a u c) (AQ L)*F) w→Src Tryz.prog 4 w (.slice a u c) u (AQ L)):=fun a c=>XF L u a5
 have SK:Aside (∀(a:Option Addr)(c:Nat)(F:Ac)(w:World),Sat (rw A9 4 (.slice a nK c) (AQ K)*F) w→Src Tryz.prog 4 w (.slice a nK c) nK (AQ K)):=fun a c=>XF K nK a0
 have t:=fun a c F w (h:Sat (rw A9 4 (.slice a (u+O+nK) c) (AQ L++AQ put++AQ K)*F) w)=>V8 (L++put++K) (.slice a (u+O+nK) c) (rw A9 4 (.slice a (u+O+nK) c) (AQ L++AQ put++AQ K)) F w
  (by
    have e1:AQ (L++put++K)=AQ L++AQ put++AQ K:=by simp[AQ]
    have e2:(L++put++K).length=u+O+nK:=by rw[List.length_append,List.length_append,a5,I,a0]
    rw[←e1] at h⊢
    exact EZ h e2.symm) h (by have:=Q.out;rw[List.length_append,List.length_append];omega) HO.out.1 HO.out.2
 rw[a5,af] at m
 rw[af] at j
 rw[av,a0] at j
 have ca:=Q.out
 rw[a5,af,av,a0] at ca
 have cy:O≤1000:=by omega
 obtain ⟨J,hJ⟩: ∃x,join (L++put++K)=x:=⟨_,rfl⟩
 rw[hJ] at t⊢
 obtain ⟨G,au⟩: ∃k,J.length=k:=⟨_,rfl⟩
 have b:Aside (J.length=G):=au
 obtain ⟨RR,aq⟩: ∃r:Int×List As,(if 1024<J.length then (11,[]) else (0,J))=r:=⟨_,rfl⟩
 rw[aq]
 have T:Aside ((if 1024<J.length then ((11:Int),([]:List As)) else (0,J))=RR):=aq
 clear aq
 rw[au] at t
 rw[I] at d p cf⊢
 have c5:Aside (n≠0∨O≠0):=by
  rcases Classical.em (n=0) with h1|h1
  · right
    intro h2
    exact aa ⟨h1,List.length_eq_zero_iff.1 (by rw[I,h2])⟩
  exact .inl h1
 clear aa hL hR hM hK a5 af av a0 I au hJ Q HO HM an hE hP ci cd
 obtain ⟨xL,bi⟩: ∃x,AQ L=x:=⟨_,rfl⟩
 obtain ⟨xP,bj⟩: ∃x,AQ put=x:=⟨_,rfl⟩
 obtain ⟨xK,bh⟩: ∃x,AQ K=x:=⟨_,rfl⟩
 rw[bi] at m SL t
 rw[bj] at SP t
 rw[bh] at j SK t
 clear bi bj bh
 go_enter Tryz.func40,Tryz.ntmps40
 go_wp2_with fail
 refine (d _ _ hs).mono ?_
 rintro e w1 ⟨rfl,H⟩
 go_wp2_with fail
 refine (f _ _ H).mono ?_
 rintro e w2 ⟨rfl,P⟩
 go_wp2_with fail
 refine (p _ _ P).mono ?_
 rintro e w3 ⟨rfl,q3⟩
 clear hs H P
 rcases c5.out with hz|hz
 · have cj:(n==0)=false:=by simp[hz]
   go_wp2_with fail
   refine (m _ _ q3).mono ?_
   rintro e w4 ⟨a1,W,a2,q,rfl,q4⟩
   haveI:=q4.i
   clear q3 m d f p
   go_wp2_with fail
   refine (j a2 q _ _ (Ae (rw A9 4 (.slice a2 nR q) (AQ R)))).mono ?_
   rintro e w5 ⟨a3,b5,a4,X,rfl,q5⟩
   haveI:=q5.i
   clear q4 j
   go_wp2_with (first
    |(at_builtin;refine Aj E rfl (.tmp 66) (.tmp 67) rfl rfl rfl (Sat.Bj (e:=A9) (s:=4) Es) (SL.out _ _ _ _ (Ae (rw A9 4 (.slice a1 u W) xL))) (by unfold maxLen;omega) (by omega) ?_;intro a6 c6 w6 q6 z6;clear z6;rw[List.nil_append] at q6;rw[Nat.zero_add] at q6⊢;haveI:=q6.i)
    |(at_builtin;refine Aj E rfl (.tmp 69) (.tmp 70) rfl rfl rfl (Ae (rw A9 4 (.slice a6 u c6) xL)) (SP.out _ _ (Ae B)) (by unfold maxLen;omega) (by omega) ?_;intro a7 c7 w7 q7 z7;clear z7;haveI:=q7.i)
    |(at_builtin;refine Aj E rfl (.tmp 72) (.tmp 73) rfl rfl rfl (Ae (rw A9 4 (.slice a7 (u+O) c7) (xL++xP))) (SK.out _ _ _ _ (Ae (rw A9 4 (.slice a4 nK X) xK))) (by unfold maxLen;omega) (by omega) ?_;intro a8 c8 w8 q8 z8;clear z8;haveI:=q8.i))
   refine (t a8 c8 _ _ q8).mono ?_
   rintro e w9 ⟨V,Y,rfl,q9⟩
   haveI:=q9.i
   clear q8
   by_cases hj:1024<G
   · have Z:(1024:Int)<G:=by omega
     have g:1024<J.length:=by rw[b.out];exact hj
     go_wp2
     go_ret2
     rw[←T.out,if_pos g]
     exact Cx (Av B F)
   have Z: ¬(1024:Int)<G:=by omega
   have g: ¬1024<J.length:=by rw[b.out];exact hj
   go_wp2
   go_ret2
   rw[←T.out,if_neg g]
   have D:Sat (rw A9 4 (.slice V G Y) (AQ J)*(B*F)) w9:=AR _ B F
   refine ⟨V,Y,rw A9 4 (.slice V G Y) (AQ J),by simp only;rw[b.out];rfl,Al.left ?_,D⟩
   have:=EZ D b.out.symm
   unfold Aq at this
   rw[b.out] at this
   simp only
   rw[b.out]
   exact this
 have cj:(O==0)=false:=by simp[hz]
 have dm:((O:Int)==0)=false:=by simp[hz]
 by_cases bf:n=0
 · subst bf
   go_wp2_with fail
   refine (m _ _ q3).mono ?_
   rintro e w4 ⟨a1,W,a2,q,rfl,q4⟩
   haveI:=q4.i
   clear q3 m d f p
   go_wp2_with fail
   refine (j a2 q _ _ (Ae (rw A9 4 (.slice a2 nR q) (AQ R)))).mono ?_
   rintro e w5 ⟨a3,b5,a4,X,rfl,q5⟩
   haveI:=q5.i
   clear q4 j
   go_wp2_with (first
    |(at_builtin;refine Aj E rfl (.tmp 66) (.tmp 67) rfl rfl rfl (Sat.Bj (e:=A9) (s:=4) Es) (SL.out _ _ _ _ (Ae (rw A9 4 (.slice a1 u W) xL))) (by unfold maxLen;omega) (by omega) ?_;intro a6 c6 w6 q6 z6;clear z6;rw[List.nil_append] at q6;rw[Nat.zero_add] at q6⊢;haveI:=q6.i)
    |(at_builtin;refine Aj E rfl (.tmp 69) (.tmp 70) rfl rfl rfl (Ae (rw A9 4 (.slice a6 u c6) xL)) (SP.out _ _ (Ae B)) (by unfold maxLen;omega) (by omega) ?_;intro a7 c7 w7 q7 z7;clear z7;haveI:=q7.i)
    |(at_builtin;refine Aj E rfl (.tmp 72) (.tmp 73) rfl rfl rfl (Ae (rw A9 4 (.slice a7 (u+O) c7) (xL++xP))) (SK.out _ _ _ _ (Ae (rw A9 4 (.slice a4 nK X) xK))) (by unfold maxLen;omega) (by omega) ?_;intro a8 c8 w8 q8 z8;clear z8;haveI:=q8.i))
   refine (t a8 c8 _ _ q8).mono ?_
   rintro e w9 ⟨V,Y,rfl,q9⟩
   haveI:=q9.i
   clear q8
   by_cases hj:1024<G
   · have Z:(1024:Int)<G:=by omega
     have g:1024<J.length:=by rw[b.out];exact hj
     go_wp2
     go_ret2
     rw[←T.out,if_pos g]
     exact Cx (Av B F)
   have Z: ¬(1024:Int)<G:=by omega
   have g: ¬1024<J.length:=by rw[b.out];exact hj
   go_wp2
   go_ret2
   rw[←T.out,if_neg g]
   have D:Sat (rw A9 4 (.slice V G Y) (AQ J)*(B*F)) w9:=AR _ B F
   refine ⟨V,Y,rw A9 4 (.slice V G Y) (AQ J),by simp only;rw[b.out];rfl,Al.left ?_,D⟩
   have:=EZ D b.out.symm
   unfold Aq at this
   rw[b.out] at this
   simp only
   rw[b.out]
   exact this
 have dn:(n==0)=false:=by simp[bf]
 go_wp2_with fail
 refine (m _ _ q3).mono ?_
 rintro e w4 ⟨a1,W,a2,q,rfl,q4⟩
 haveI:=q4.i
 clear q3 m d f p
 go_wp2_with fail
 refine (j a2 q _ _ (Ae (rw A9 4 (.slice a2 nR q) (AQ R)))).mono ?_
 rintro e w5 ⟨a3,b5,a4,X,rfl,q5⟩
 haveI:=q5.i
 clear q4 j
 go_wp2_with (first
  |(at_builtin;refine Aj E rfl (.tmp 66) (.tmp 67) rfl rfl rfl (Sat.Bj (e:=A9) (s:=4) Es) (SL.out _ _ _ _ (Ae (rw A9 4 (.slice a1 u W) xL))) (by unfold maxLen;omega) (by omega) ?_;intro a6 c6 w6 q6 z6;clear z6;rw[List.nil_append] at q6;rw[Nat.zero_add] at q6⊢;haveI:=q6.i)
  |(at_builtin;refine Aj E rfl (.tmp 69) (.tmp 70) rfl rfl rfl (Ae (rw A9 4 (.slice a6 u c6) xL)) (SP.out _ _ (Ae B)) (by unfold maxLen;omega) (by omega) ?_;intro a7 c7 w7 q7 z7;clear z7;haveI:=q7.i)
  |(at_builtin;refine Aj E rfl (.tmp 72) (.tmp 73) rfl rfl rfl (Ae (rw A9 4 (.slice a7 (u+O) c7) (xL++xP))) (SK.out _ _ _ _ (Ae (rw A9 4 (.slice a4 nK X) xK))) (by unfold maxLen;omega) (by omega) ?_;intro a8 c8 w8 q8 z8;clear z8;haveI:=q8.i))
 refine (t a8 c8 _ _ q8).mono ?_
 rintro e w9 ⟨V,Y,rfl,q9⟩
 haveI:=q9.i
 clear q8
 by_cases hj:1024<G
 · have Z:(1024:Int)<G:=by omega
   have g:1024<J.length:=by rw[b.out];exact hj
   go_wp2
   go_ret2
   rw[←T.out,if_pos g]
   exact Cx (Av B F)
 have Z: ¬(1024:Int)<G:=by omega
 have g: ¬1024<J.length:=by rw[b.out];exact hj
 go_wp2
 go_ret2
 rw[←T.out,if_neg g]
 have D:Sat (rw A9 4 (.slice V G Y) (AQ J)*(B*F)) w9:=AR _ B F
 refine ⟨V,Y,rw A9 4 (.slice V G Y) (AQ J),by simp only;rw[b.out];rfl,Al.left ?_,D⟩
 have:=EZ D b.out.symm
 unfold Aq at this
 rw[b.out] at this
 simp only
 rw[b.out]
 exact this
def YE{α:Type} :DR TS α→Option α
 | .ok a _=>some a
 |_=>none
def l9:M TS (Int×Int×Int×List As):=M.bind (ER [⟨0,0,10,-1⟩]) fun r=>M.bind (En Ah r) fun n=>M.bind (EB Ah Ag r 3 2 n [⟨1,0,1,1⟩]) fun q=>M.bind (F4 Ah q) fun l=>M.pure (r,n,q,l)
theorem x8:(match YE (l9 (Jz 1048576 8)) with|some (r,n,q,l)=>decide (r=1∧n=10)&&(l.map fun e=>(e.src,e.pos,e.len,e.lines))== [(0,0,3,-1),(1,0,1,1),(0,5,5,-1)]|none=>false)=true:=by kernel_rfl
theorem Jl{α β:Type}{m:M TS α}{f:α→M TS β}{s:TS}{x:β}(h:YE (M.bind m f s)=some x): ∃a s1,m s= .ok a s1∧YE (f a s1)=some x:=by
 unfold M.bind DR.bind at h
 cases hm:m s with
 |ok a s1=>rw[hm] at h;exact ⟨a,s1,rfl,h⟩
 |fault e s1=>rw[hm] at h;cases h
 |bad=>rw[hm] at h;cases h
theorem Wh: ∃(s1 s2 s3 s4:TS)(q:Int),ER [⟨0,0,10,-1⟩] (Jz 1048576 8)= .ok 1 s1∧En Ah 1 s1= .ok 10 s2∧EB Ah Ag 1 3 2 10 [⟨1,0,1,1⟩] s2= .ok q s3∧F4 Ah q s3= .ok [⟨0,0,3,-1⟩,⟨1,0,1,1⟩,⟨0,5,5,-1⟩] s4:=by
 have h:=x8
 cases f:YE (l9 (Jz 1048576 8)) with
 |none=>rw[f] at h;cases h
 | some x =>
  obtain ⟨r,n,q,l⟩:=x
  rw[f] at h
  simp only[Bool.and_eq_true,decide_eq_true_eq] at h
  obtain ⟨⟨rfl,rfl⟩,m⟩:=h
  have o:=eq_of_beq m
  have hl:l= [⟨0,0,3,-1⟩,⟨1,0,1,1⟩,⟨0,5,5,-1⟩]:=by
   have e:(l.map fun e:As=>(e.src,e.pos,e.len,e.lines)).map (fun t:Int×Int×Int×Int=>(⟨t.1,t.2.1,t.2.2.1,t.2.2.2⟩:As))=l:=by
    rw[List.map_map]
    exact List.map_id'' (fun _=>rfl) l
   rw[o] at e
   exact e.symm
  unfold l9 at f
  obtain ⟨a,s1,i,f⟩:=Jl f
  obtain ⟨b,s2,j,f⟩:=Jl f
  obtain ⟨c,s3,k,f⟩:=Jl f
  obtain ⟨d,s4,g,f⟩:=Jl f
  cases f
  rw[hl] at g
  exact ⟨s1,s2,s3,s4,_,i,j,k,g⟩
theorem Oz(F:Ac)(w:World)(hs:Sat F w):Calls Tryz.prog 12 #[] w fun e l=>e= .returned (.bool true)∧Sat F l:=by
 haveI:G1:=⟨1048576,Nat.le_refl _⟩
 obtain ⟨s1,s2,s3,s4,qr,H,X,Y,I⟩:=Wh
 obtain ⟨L,t1,Z,d⟩:=Aw Y
 obtain ⟨R,t2,g2,d⟩:=Aw d
 obtain ⟨whole,t3,g3,d⟩:=Aw d
 obtain ⟨r1,t4,g4,d⟩:=Aw d
 obtain ⟨r0,t5,g5,d⟩:=Aw d
 have k: ¬1024<whole.DK.A7-r1+r0+((join (L.1++ [⟨1,0,1,1⟩]++R.1)).length:Int):=fun K=>by rw[if_pos K] at d;cases d
 rw[if_neg k] at d
 obtain ⟨p,t6,g6,d⟩:=Aw d
 obtain ⟨q,t7,g7,d⟩:=Aw d
 obtain ⟨m,t8,g8,d⟩:=Aw d
 obtain ⟨x,t9,g9,d⟩:=Aw d
 obtain ⟨y,af,n,d⟩:=Aw d
 cases d
 have J:=fun B F w o q=>O0 ⟨0,0,0,0⟩ (Jz 1048576 8) [⟨0,0,10,-1⟩] (.slice none 0 0) B F w o q
 have T:Aside (∀(h:Th)(v:Value)(B F:Ac)(w:World),Aq B v [⟨0,0,10,-1⟩]→Sat (Ad h (Jz 1048576 8)*(B*F)) w→
  Calls Tryz.prog 23 #[.pointer (some ⟨h.t,0,none⟩),v] w fun e l=>e= .returned (.tuple #[.int .i64 1,.int .i64 0])∧Sat (Ad h s1*(B*F)) l):=fun h v B F w o q=>by
  have:=O0 h (Jz 1048576 8) [⟨0,0,10,-1⟩] v B F w o q (by simp) (by rw[H];simp)
  rw[H] at this
  exact this
 have V:Aside (∀(h:Th)(v:Value)(B F:Ac)(w:World),Aq B v [⟨1,0,1,1⟩]→Sat (Ad h s1*(B*F)) w→
  Calls Tryz.prog 33 #[.pointer (some ⟨h.t,0,none⟩),.int .i64 1,.int .i64 3,.int .i64 2,v] w fun e l=>e= .returned (.tuple #[.int .i64 y.DK.Ay,.int .i64 0])∧Sat (Ad h s3*(B*F)) l):=fun h v B F w o hq=>
  RW h s1 1 3 2 [⟨1,0,1,1⟩] v B F w o hq (by simp) (by decide) 10 s2 X (by omega) (by omega) (by omega) (by omega) (by simp[Ab]) (by omega) L R whole r1 r0 t1 t2 t3 t4 t5 ⟨Z,g2,g3,g4,g5⟩ (.ok y.DK.Ay s3) (fun K=>absurd K k) (fun _=>⟨p,q,m,x,y,t6,t7,t8,t9,s3,⟨g6,g7,g8,g9,n⟩,rfl⟩)
 have U:Aside (∀(h:Th)(F:Ac)(w:World),Sat (Ad h s3*F) w→
  Calls Tryz.prog 44 #[.pointer (some ⟨h.t,0,none⟩),.int .i64 y.DK.Ay] w fun e l=> ∃(a:Option Addr)(c:Nat),e= .returned (.tuple #[.slice a 3 c,.int .i64 0])∧Sat (rw A9 4 (.slice a 3 c) [.int .i64 0,.int .i64 0,.int .i64 3,.int .i64 (-1),.int .i64 1,.int .i64 0,.int .i64 1,.int .i64 1,.int .i64 0,.int .i64 5,.int .i64 5,.int .i64 (-1)]*(Ad h s4*F)) l):=fun h F w hq=>by
  have:=L0 h s3 y.DK.Ay F w hq (by rw[I];simp)
  rw[I] at this
  exact this
 obtain ⟨pg,r⟩: ∃z,y.DK.Ay=z:=⟨_,rfl⟩
 rw[r] at V U
 clear r Z g2 g3 g4 g5 g6 g7 g8 g9 n k H X Y I J
 go_enter Tryz.func12,Tryz.ntmps12
 go_wp2_with fail
 with_reducible refine Calls.mono (U2 1048576 8 F w hs (by omega) (by omega) (by omega) (by omega)) ?_
 rintro e P ⟨b,h,rfl,O⟩
 obtain ⟨s0,u⟩: ∃s,Jz 1048576 8=s:=⟨_,rfl⟩
 rw[u] at O T
 haveI:=O.i
 obtain ⟨G,f⟩: ∃M,P.heap.size=M:=⟨_,rfl⟩
 clear u
 go_wp2_with fail
 try rw[f]
 have q2:Sat (Ad h s0*(Sl.block G A9 (CZ ⟨0,0,10,-1⟩)*(Sl.block b TU [.pointer (some ⟨h.D,0,none⟩),.pointer (some ⟨h.C,0,none⟩),.pointer (some ⟨h.S,0,none⟩),.pointer (some ⟨h.t,0,none⟩)]*F))) (P.alloc (.cells #[.int .i64 0,.int .i64 0,.int .i64 10,.int .i64 (-1)] A9)):=by
  rw[←f]
  show Sat (Ad h s0*(Sl.block P.heap.size A9 [.int .i64 0,.int .i64 0,.int .i64 10,.int .i64 (-1)]*_)) _
  exact A8 (by ac_rfl)
 with_reducible refine Calls.mono (T.out h _ _ _ _ (CL ⟨0,0,10,-1⟩ G) q2) ?_
 rintro e Q ⟨rfl,q3⟩
 haveI:=q3.i
 obtain ⟨W,j⟩: ∃M,Q.heap.size=M:=⟨_,rfl⟩
 clear f O q2
 go_wp2_with fail
 try rw[j]
 have q4:Sat (Ad h s1*(Sl.block W A9 (CZ ⟨1,0,1,1⟩)*(Sl.block b TU [.pointer (some ⟨h.D,0,none⟩),.pointer (some ⟨h.C,0,none⟩),.pointer (some ⟨h.S,0,none⟩),.pointer (some ⟨h.t,0,none⟩)]*F))) (Q.alloc (.cells #[.int .i64 1,.int .i64 0,.int .i64 1,.int .i64 1] A9)):=by
  rw[←j]
  show Sat (Ad h s1*(Sl.block Q.heap.size A9 [.int .i64 1,.int .i64 0,.int .i64 1,.int .i64 1]*_)) _
  exact Br (C:=Sl.block G A9 (CZ ⟨0,0,10,-1⟩)) (by ac_rfl)
 with_reducible refine Calls.mono (V.out h _ _ _ _ (CL ⟨1,0,1,1⟩ W) q4) ?_
 rintro e w3 ⟨rfl,q5⟩
 haveI:=q5.i
 clear j q3 q4
 go_wp2_with fail
 with_reducible refine Calls.mono (U.out h _ _ (Ae (Ad h s3))) ?_
 rintro e w4 ⟨al,cl,rfl,q6⟩
 obtain ⟨g,rfl⟩:=DZ q6 (by omega)
 haveI:=q6.i
 clear q5
 go_wp2
 go_ret
 exact ⟨rfl,WL F⟩
