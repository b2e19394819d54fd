/- treeShape holds for every input. No condition. (part 46) -/
import Derived.Test.YtfhbmblbidcmmaaGreatSk45
import Derived.Test.YtfhbmblbidcmmaaGreatSk44
set_option linter.all false
set_option maxRecDepth 100000
set_option maxHeartbeats 6400000
namespace Go.Tr
theorem Su{x:Au}(h:Ah x=true){a n:Int}(h0:0≤a)(h1:1≤n)(b:a+n≤x.len):Ah (Hz x a n)=true:=by grind [C9,Hz]
theorem JD: ∀(l:List Au)(n:Int),(∀x∈l,Ah x=true)→(∀x∈(first l n).1,Ah x=true)∧(∀x∈(first l n).2,Ah x=true)
 | [],n,_=>by simp[first]
 | x :: l, n, hm => by
  have a:=JD l (n-x.len) fun y hy=>hm y (List.mem_cons_of_mem _ hy)
  have hx:=hm x List.mem_cons_self
  rw[FW]
  split
  ·simp_all
  split
  ·simp_all
  exact ⟨fun y hy=>by rcases List.mem_cons.1 hy with rfl|hy;exact Su hx (by omega) (by omega) (by omega);exact a.1 y hy,fun y hy=>by rcases List.mem_cons.1 hy with rfl|hy;exact Su hx (by omega) (by omega) (by omega);exact a.2 y hy⟩
theorem LN: ∀(l:List Au)(n:Int),Aa (first l n).1+Aa (first l n).2=Aa l
 | [],n=>by simp[first,Aa]
 | x :: l, n => by
  have a:=LN l (n-x.len)
  rw[FW,Bl]
  split
  ·grind [Bl]
  split
  ·grind [Bl]
  simp only[Bl];unfold Hz;simp only;omega
theorem M4(l:List Au)(n:Int)(hm: ∀x∈l,Ah x=true)(h0:0≤n)(h1:n≤Aa l):Aa (first l n).1=n:=by induction l generalizing n with
 |nil=>simp[Aa] at h1;simp[first,Aa];omega
 | cons x l c =>
  rw[FW]
  split
  ·grind [Bl]
  rename_i b
  have a:=Ez l (n-x.len) (by omega) fun y hy=>hm y (List.mem_cons_of_mem _ hy)
  split
  ·simp only[a]
   grind [Aa]
  simp[a,Hz,Aa]
theorem OO{l put:List Au}{at_ n:Int}(hm: ∀x∈l,Ah x=true)(hp: ∀x∈put,Ah x=true)(h0:0≤at_)(a:0≤n)(h1:at_+n≤Aa l):
 (∀x∈(first l at_).1++put++(first (first l at_).2 n).2,Ah x=true)∧Aa ((first l at_).1++put++(first (first l at_).2 n).2)=Aa l-n+Aa put:=by
 have m1:=JD l at_ hm
 have b:=JD (first l at_).2 n m1.2
 have s1:=LN l at_
 have s2:=LN (first l at_).2 n
 have c:=M4 l at_ hm h0 (by omega)
 have b2:=M4 (first l at_).2 n m1.2 a (by omega)
 refine ⟨fun x hx=>?_,?_⟩
 ·rcases List.mem_append.1 hx with hx|hx
  ·rcases List.mem_append.1 hx with hx|hx
   ·exact m1.1 x hx
   exact hp x hx
  exact b.2 x hx
 rw[Ao,Ao]
 omega
end Go.Tr
namespace Go.Proofs.YtfhbmblbidcmmaaGreat
open Go.Tr
def DB(l:List Au):Prop:=Fit l∧AF l
theorem KU:DB []:=⟨⟨by simp,by simp[Aa],by simp⟩,trivial⟩
theorem PS{l:List Au}(h: ∀x∈l,Ah x=true)(hb:Aa l≤1048576)(hl: ¬1024<(join l).length):DB (join l):=⟨⟨NZ h hb,by rw[IM];exact hb,by omega⟩,SD l⟩
theorem Mu{l:List Au}(h:(Ex l).1=0):DB (Ex l).2:=by
 unfold Ex at h⊢
 by_cases hm:Bh l=false
 ·simp_all
 rw[if_neg hm] at h⊢
 by_cases a:1024<(join l).length
 ·simp_all
 rw[if_neg a]
 obtain ⟨h1,b⟩:=Cy (by simpa using hm)
 exact PS h1 b a
theorem RQ{l put:List Au}{at_ n:Int}(hl:DB l)(h:(D0 l at_ n put).1=0):DB (D0 l at_ n put).2:=by
 unfold D0 at h⊢
 by_cases hm:Bh put=false
 ·simp_all
 rw[if_neg hm] at h⊢
 by_cases b:at_<0∨n<0∨Aa l<at_∨Aa l-at_<n
 ·simp_all
 rw[if_neg b] at h⊢
 by_cases hb:1048576<Aa l-n+Aa put
 ·simp_all
 rw[if_neg hb] at h⊢
 by_cases c:n=0∧put= []
 ·simp_all
 rw[if_neg c] at h⊢
 by_cases a:1024<(DY l at_ n put).length
 ·simp_all
 rw[if_neg a]
 obtain ⟨h1,e⟩:=Cy (by simpa using hm:Bh put=true)
 obtain ⟨d,f⟩:=OO (n:=n) (at_:=at_) hl.1.1 h1 (by omega) (by omega) (by omega)
 exact PS d (by omega) a
open Go.Dk Go.RowKit Go.Sl
theorem Q6(a c:List Au)(Z vb:Value)(B F:Ac)(w:World)(I:An B Z a)(L:An B vb c)(hs:Sat (B*F) w)(hl:a.length≤65536)(O:c.length≤65536):
 Calls Tryz.prog 45 #[Z,vb] w fun e w'=>e= .returned (.bool (decide (a=c)))∧Sat (B*F) w':=by
 obtain ⟨a0,c0,rfl,K,ae⟩:=I.v
 obtain ⟨a1,c1,rfl,M,af⟩:=L.v
 have HA:Aside (An B (.slice a0 a.length c0) a):=I
 have HB:Aside (An B (.slice a1 c.length c1) c):=L
 obtain ⟨d,k⟩:=Aq a.length
 obtain ⟨x,l⟩:=Aq c.length
 have n:Aside (a.length=d∧c.length=x):=⟨k,l⟩
 obtain ⟨r,hr⟩:=Aq (decide (a=c))
 have u:Aside (decide (a=c)=r):=hr
 rw[k] at hl K
 rw[l] at O M
 rw[k,l,hr]
 haveI:=hs.i
 clear I L k l hr
 by_cases t:d=x
 · subst t
   have b1:((d:Int) !=(d:Int))=false:=by simp
   go_enter Tryz.func45,Tryz.ntmps45
   go_wp2
   go_loopg [5] d (fun g t5 wr=> ∃(j:Nat),t5= .int .i64 j∧j≤d∧Aside (g=d-j∧a.take j=c.take j)∧Sat (B*F) wr)
   case atStart=>exact ⟨0,rfl,by omega,⟨rfl,by simp⟩,hs⟩
   obtain ⟨j,rfl,hj,J,P⟩:=hrel
   clear hs this
   haveI:=P.i
   by_cases ag:j<d
   · have s:(j:Int)<d:=by omega
     obtain ⟨y,hy⟩: ∃y,a[j]?=some y:=⟨_,List.getElem?_eq_getElem (by have:=n.out;omega)⟩
     obtain ⟨z,Q⟩: ∃y,c[j]?=some y:=⟨_,List.getElem?_eq_getElem (by have:=n.out;omega)⟩
     obtain ⟨b,q,rfl,r1,W,X,Y⟩:=BD HA.out hy
     obtain ⟨b',q',rfl,s1,s2,s3,s4⟩:=BD HB.out Q
     have o:Aside (a[j]?=some y∧c[j]?=some z):=⟨hy,Q⟩
     clear hy Q
     by_cases f:y=z
     · have HE:Aside (a.take (j+1)=c.take (j+1)):=(by rw[A9 o.out.1,A9 o.out.2,J.out.2,f]:_=_)
       subst f
       obtain ⟨R,T,U,V⟩:=y
       simp only at r1 W X Y s1 s2 s3 s4
       go_wp2_with fail
       go_region
       go_wp2
       go_roundg (d-(j+1))
       case measure=>have:=J.out.1;omega
       case rel=>exact ⟨j+1,by go_num,by omega,⟨rfl,HE.out⟩,Ap _ _⟩
     have m:Aside (r=false):=by
      rw[←u.out]
      apply decide_eq_false
      intro e
      rw[e,o.out.2] at o
      exact f (Option.some.inj o.out.1).symm
     obtain ⟨R,T,U,V⟩:=y
     obtain ⟨z1,z2,z3,z4⟩:=z
     simp only at r1 W X Y s1 s2 s3 s4
     have p: ¬(R=z1∧T=z2∧U=z3∧V=z4):=by simpa using f
     clear f u o
     by_cases D: ¬R=z1
     · clear p
       go_wp2_with fail
       go_region
       go_wp2
       go_ret
       exact ⟨by rw[m.out];rfl,Ap B F⟩
     have D:=Classical.not_not.1 D
     subst D
     by_cases G: ¬T=z2
     · clear p
       go_wp2_with fail
       go_region
       go_wp2
       go_ret
       exact ⟨by rw[m.out];rfl,Ap B F⟩
     have G:=Classical.not_not.1 G
     subst G
     by_cases H: ¬U=z3
     · clear p
       go_wp2_with fail
       go_region
       go_wp2
       go_ret
       exact ⟨by rw[m.out];rfl,Ap B F⟩
     have H:=Classical.not_not.1 H
     subst H
     by_cases e4:V=z4
     · exact absurd ⟨rfl,rfl,rfl,e4⟩ p
     clear p
     go_wp2_with fail
     go_region
     go_wp2
     go_ret
     exact ⟨by rw[m.out];rfl,Ap B F⟩
   have s: ¬(j:Int)<d:=by omega
   have m:Aside (r=true):=by
    rw[←u.out]
    apply decide_eq_true
    have h:=J.out.2
    rwa [List.take_of_length_le (by rw[n.out.1];omega),List.take_of_length_le (by rw[n.out.2];omega)] at h
   go_wp2
   go_ret
   exact ⟨by rw[m.out];rfl,Ap B F⟩
 have m:Aside (r=false):=by
  rw[←u.out]
  apply decide_eq_false
  intro e
  apply t
  rw[←n.out.1,←n.out.2,e]
 have b1:((d:Int) !=(x:Int))=true:=by simp;omega
 have b2:((d:Int)==(x:Int))=false:=by simp;omega
 go_enter Tryz.func45,Tryz.ntmps45
 go_wp2
 go_ret
 exact ⟨by rw[m.out];rfl,Ap B F⟩
def Bs(g c:Nat)(l:List Au):Ac:=rw AM 4 (.slice (some ⟨g,0,none⟩) (l.length+1) c) (Bb (l++ [⟨0,0,0,77⟩]))
theorem Al.front{s:Nat}{B:Ac}{a:Option Addr}{n m c:Nat}{b f:List Value}(h:Al s B (.slice a m c) m (b++f))(k:b.length=n*s)(hm:n≤m):Al s B (.slice a n c) n b:=by
 obtain ⟨_,a',l,e,o,g,i⟩:=h
 cases e
 exact ⟨k,a,c,rfl,by omega,g,fun j u d=>i j u (by rw[List.getElem?_append_left (List.getElem?_eq_some_iff.1 d).1];exact d)⟩
theorem Fe{g c:Nat}{l:List Au}{F:Ac}{w:World}(hs:Sat (Bs g c l*F) w):An (Bs g c l) (.slice (some ⟨g,0,none⟩) l.length c) l∧l.length+1≤c:=by
 have h:=Dm hs (by simp)
 have a:(l++ [(⟨0,0,0,77⟩:Au)]).length=l.length+1:=by simp
 unfold An at h
 rw[a] at h
 obtain ⟨a',f,e,b,j⟩:=h.v
 cases e
 have i:Bb (l++ [⟨0,0,0,77⟩])=Bb l++Cx ⟨0,0,0,77⟩:=Cj _ _
 refine ⟨?_,by simpa using b⟩
 have d:Al 4 (rw AM 4 (.slice (some ⟨g,0,none⟩) (l.length+1) c) (Bb (l++ [⟨0,0,0,77⟩]))) (.slice (some ⟨g,0,none⟩) (l.length+1) c) (l.length+1) (Bb l++Cx ⟨0,0,0,77⟩):=by simp_all
 exact Al.front d (Gq l) (by omega)
theorem Jd(l:List Au)(v:Value)(B F:Ac)(w:World)(f:An B v l)(hs:Sat (B*F) w)(hl:l.length≤65536):
 Calls Tryz.prog 113 #[v] w fun e t=> ∃g c,e= .returned (.slice (some ⟨g,0,none⟩) l.length c)∧Sat (Bs g c l*(B*F)) t:=by
 obtain ⟨i0,E⟩:=Ey
 have d:Aside (∀(F:Ac)(w:World),Sat (B*F) w→Src Tryz.prog 4 w v l.length (Bb l)):=fun F w h=>Al.src f (Gr l) h
 obtain ⟨D,c0,rfl,j,r⟩:=f.v
 unfold Bs
 rw[Cj]
 unfold Cx
 obtain ⟨n,o⟩:=Aq l.length
 obtain ⟨xs,a⟩:=Aq (Bb l)
 rw[o] at hl j d⊢
 rw[a] at d⊢
 haveI:=hs.i
 clear f o a
 go_enter Tryz.func113,Tryz.ntmps113
 go_wp2_with (first
  |(at_builtin;refine Ad E rfl (.tmp 4) (.tmp 5) rfl rfl rfl (Sat.AH (e:=AM) (s:=4) E3) (d.out _ _ (Af B)) (by unfold maxLen;omega) (by omega) ?_;intro q c1 x k y;clear y;rw[List.nil_append] at k;rw[Nat.zero_add] at k⊢;haveI:=k.i)
  |(at_builtin;refine Ad E rfl (.tmp 7) (.tmp 9) rfl rfl rfl (Af (rw AM 4 (.slice q n c1) xs)) (Src.new (b:=x.heap.size) (e:=AM) (s:=4) (vs:= [.int .i64 0,.int .i64 0,.int .i64 0,.int .i64 77]) (Af _) rfl (by intro u p;simp at p;rcases p with rfl|rfl|rfl|rfl<;>rfl)) (by unfold maxLen;omega) (by omega) ?_;intro G c2 I m z;clear z;obtain ⟨g,rfl⟩:=BN m (by omega);have H:=D' m;haveI:=m.i))
 go_ret
 exact ⟨g,c2,rfl,AD _ B F⟩
theorem SG(l:List Au)(g c:Nat)(v:Value)(B F:Ac)(w:World)(j:An B v l)(hs:Sat (Bs g c l*(B*F)) w)(hl:l.length≤65536):
 Calls Tryz.prog 115 #[.slice (some ⟨g,0,none⟩) l.length c,v] w fun e J=>e= .returned (.bool true)∧Sat (Bs g c l*(B*F)) J:=by
 obtain ⟨m,u⟩:=Fe hs
 have a:=fun F w h=>Q6 l l _ _ (Bs g c l*B) F w (Al.left m) (Al.right j) h hl hl
 rw[decide_eq_true rfl] at a
 obtain ⟨K,c0,rfl,s,t⟩:=j.v
 have d:Sat ((Bs g c l*B)*F) w:=hs.eq (by ac_rfl)
 have p: ∀b:World,Sat ((Bs g c l*B)*F) b→b.cell? ⟨g,l.length*4+3,none⟩=some (.int .i64 77)∧Sat (Bs g c l*(B*F)) b:=fun b h=>by
  have f:Sat (Bs g c l*(B*F)) b:=h.eq (by ac_rfl)
  refine ⟨?_,f⟩
  unfold Bs at f
  haveI:=f.i
  have I:=H2 l ⟨0,0,0,77⟩ l.length rfl 3 _ rfl
  haveI:At (Bb (l++ [⟨0,0,0,77⟩])) (l.length*4+3) (.int .i64 77):=⟨I⟩
  exact Ab _ _ _
 have k:=FK p
 obtain ⟨n,o⟩:=Aq l.length
 rw[o] at a u hl k⊢
 have x:(n:Int)<c:=by omega
 have y:n+1≤c:=by omega
 have z:(n:Int)+1≤c:=by omega
 have hw:=Bc ((n:Int)+1) (by omega)
 have D:(n:Int)<(n:Int)+1:=by omega
 have G:(0:Int)≤(n:Int):=by omega
 clear j m p o
 go_enter Tryz.func115,Tryz.ntmps115
 go_wp2_with fail
 refine (a _ _ d).mono ?_
 rintro e b ⟨rfl,q⟩
 obtain ⟨r,H⟩:=k.out _ q
 clear a hs d q
 go_wp2
 go_ret
 exact ⟨rfl,H⟩
def Nq(b B F:Ac)(r:Int×List Au)(e:Ending)(d:World):Prop:= ∃(a:Option Addr)(c:Nat)(G:Ac),e= .returned (.tuple #[.slice a r.2.length c,.int .i64 r.1])∧An (G*b) (.slice a r.2.length c) r.2∧Sat (G*(B*F)) d
theorem Cl{a B F:Ac}{n:Int}{w:World}(hs:Sat (B*F) w):Nq a B F (n,[]) (.returned (.tuple #[.slice none 0 0,.int .i64 n])) w:=⟨none,0,1,rfl,Al.nil 4 _,by rw[Aw];exact hs⟩
theorem OB(l:List Au)(v:Value)(B F:Ac)(w:World)(q:An B v l)(hs:Sat (B*F) w)(hl:l.length≤65536):
 Calls Tryz.prog 114 #[v] w (Nq B B F (Ex l)):=by
 have d:=fun F w h=>TY l v B F w q h hl
 unfold Ex
 by_cases hm:Bh l=false
 ·rw[if_pos hm]
  rw[hm] at d
  go_enter Tryz.func114,Tryz.ntmps114
  go_wp2_with fail
  refine (d _ _ hs).mono ?_
  rintro e s ⟨rfl,f⟩
  go_wp2
  go_ret2
  exact Cl f
 rw[if_neg hm]
 have j:Bh l=true:=by simpa using hm
 rw[j] at d
 obtain ⟨h1,p⟩:=Cy j
 have b:=fun F w h=>Mj l v B F w q h (by omega) h1 (by omega)
 by_cases i:1024<(join l).length
 ·rw[if_pos i]
  obtain ⟨n,g⟩:=Aq ((join l).length)
  rw[g] at i b
  have o:(1024:Int)<n:=by omega
  clear h1 p g
  go_enter Tryz.func114,Tryz.ntmps114
  go_wp2_with fail
  refine (d _ _ hs).mono ?_
  rintro e s ⟨rfl,f⟩
  clear hs
  go_wp2_with fail
  refine (b _ _ f).mono ?_
  rintro e t ⟨a,c,rfl,k⟩
  clear f
  go_wp2
  go_ret2
  exact Cl k.right
 rw[if_neg i]
 obtain ⟨R,r⟩:=Aq (join l)
 rw[r] at i b⊢
 obtain ⟨n,g⟩:=Aq R.length
 have m:Aside (R.length=n):=g
 rw[g] at i b
 have o: ¬(1024:Int)<n:=by omega
 clear h1 p g r
 go_enter Tryz.func114,Tryz.ntmps114
 go_wp2_with fail
 refine (d _ _ hs).mono ?_
 rintro e s ⟨rfl,f⟩
 clear hs
 go_wp2_with fail
 refine (b _ _ f).mono ?_
 rintro e t ⟨a,c,rfl,k⟩
 clear f
 go_wp2
 go_ret2
 refine ⟨a,c,_,by rw[m.out];rfl,Al.left (Dm (by simp only;rw[m.out];exact k) rfl),?_⟩
 simp only
 rw[m.out]
 exact k
theorem K'{a:Option Addr}{c:Nat}(l:List Au)(n:Nat)(b:l.length=n): ∀(F:Ac)(w:World),Sat (rw AM 4 (.slice a n c) (Bb l)*F) w→Src Tryz.prog 4 w (.slice a n c) n (Bb l):=fun F w h=>by
 subst b
 exact Al.src (Dm h rfl) (Gr l) h
theorem Uc(l put:List Au)(at_ n:Int)(v vp:Value)(B0 B F:Ac)(w:World)(aj:An B0 v l)(hE:An B v l)(hP:An B vp put)(hs:Sat (B*F) w)(hg:DB l)(cb:put.length≤1000):
 Calls Tryz.prog 40 #[v,.int .i64 at_,.int .i64 n,vp] w (Nq B0 B F (D0 l at_ n put)):=by
 obtain ⟨⟨Q,b8,bx⟩,bw⟩:=hg
 have d:=fun F w h=>TY put vp B F w hP h (by omega)
 have f:=fun F w h=>Ml l v B F w hE h (by omega) fun x hx=>by have:=Ca (Q x hx);omega
 unfold D0
 by_cases hm:Bh put=false
 · rw[if_pos hm]
   rw[hm] at d
   go_enter Tryz.func40,Tryz.ntmps40
   go_wp2_with fail
   refine (d _ _ hs).mono ?_
   rintro e w1 ⟨rfl,G⟩
   go_wp2
   go_ret2
   exact Cl G
 rw[if_neg hm]
 have an:Bh put=true:=by simpa using hm
 rw[an] at d
 obtain ⟨ad,c5⟩:=Cy an
 have m:=fun F w h=>Ml put vp B F w hP h (by omega) fun x hx=>by have:=Ca (ad x hx);omega
 have bz:=(FI (o:=put) fun y hy=>(KD.of (ad y hy)).1).1
 have be:=(FI (o:=l) fun y hy=>(KD.of (Q y hy)).1).1
 by_cases hc:at_<0∨n<0∨Aa l<at_∨Aa l-at_<n
 · rw[if_pos hc]
   obtain ⟨z,hz⟩:=Aq (Aa l)
   rw[hz] at hc f be b8
   by_cases c1:at_<0
   · go_enter Tryz.func40,Tryz.ntmps40
     go_wp2_with fail
     refine (d _ _ hs).mono ?_
     rintro e w1 ⟨rfl,G⟩
     go_wp2_with fail
     refine (f _ _ G).mono ?_
     rintro e w2 ⟨rfl,I⟩
     go_wp2
     go_ret2
     exact Cl I
   by_cases c2:n<0
   · go_enter Tryz.func40,Tryz.ntmps40
     go_wp2_with fail
     refine (d _ _ hs).mono ?_
     rintro e w1 ⟨rfl,G⟩
     go_wp2_with fail
     refine (f _ _ G).mono ?_
     rintro e w2 ⟨rfl,I⟩
     go_wp2
     go_ret2
     exact Cl I
   by_cases c3:z<at_
   · go_enter Tryz.func40,Tryz.ntmps40
     go_wp2_with fail
     refine (d _ _ hs).mono ?_
     rintro e w1 ⟨rfl,G⟩
     go_wp2_with fail
     refine (f _ _ G).mono ?_
     rintro e w2 ⟨rfl,I⟩
     go_wp2
     go_ret2
     exact Cl I
   have c4:z-at_<n:=by omega
   have hw:=Bc (z-at_) (by omega)
   go_enter Tryz.func40,Tryz.ntmps40
   go_wp2_with fail
   refine (d _ _ hs).mono ?_
   rintro e w1 ⟨rfl,G⟩
   go_wp2_with fail
   refine (f _ _ G).mono ?_
   rintro e w2 ⟨rfl,I⟩
   go_wp2
   go_ret2
   exact Cl I
 rw[if_neg hc]
 have c1:0≤at_:=by omega
 have c2:0≤n:=by omega
 have c3:at_≤Aa l:=by omega
 have c4:n≤Aa l-at_:=by omega
 obtain ⟨b6,b7⟩:=OO (n:=n) (at_:=at_) Q ad c1 c2 (by omega)
 have HO:Aside ((∀x∈(first l at_).1++put++(first (first l at_).2 n).2,Ah x=true)∧Aa ((first l at_).1++put++(first (first l at_).2 n).2)≤1099511627776):=⟨b6,by rw[b7];omega⟩
 have HM:Aside ((∀x∈l,Ah x=true)∧(∀x∈(first l at_).2,Ah x=true)):=⟨Q,(JD l at_ Q).2⟩
 have O:Aside ((first l at_).1.length≤1024∧(first l at_).2.length≤1024∧(first (first l at_).2 n).1.length≤1024∧(first (first l at_).2 n).2.length≤1024):=by
  have h1:=LM l at_
  have h2:=LM (first l at_).2 n
  exact ⟨by omega,by omega,by omega,by omega⟩
 unfold DY
 obtain ⟨z,hz⟩:=Aq (Aa l)
 obtain ⟨pz,ba⟩:=Aq (Aa put)
 rw[hz] at f be b8 c3 c4⊢
 rw[ba] at m bz c5⊢
 have hw1:=Bc (z-at_) (by omega)
 have hw2:=Bc (z-n) (by omega)
 have hw3:=Bc (z-n+pz) (by omega)
 have d1: ¬at_<0:=by omega
 have d2: ¬n<0:=by omega
 have d3: ¬z<at_:=by omega
 have d4: ¬z-at_<n:=by omega
 clear hc b6 b7 hz ba bw hm an Q ad
 by_cases hb:1048576<z-n+pz
 · rw[if_pos hb]
   go_enter Tryz.func40,Tryz.ntmps40
   go_wp2_with fail
   refine (d _ _ hs).mono ?_
   rintro e w1 ⟨rfl,G⟩
   go_wp2_with fail
   refine (f _ _ G).mono ?_
   rintro e w2 ⟨rfl,I⟩
   go_wp2_with fail
   refine (m _ _ I).mono ?_
   rintro e w3 ⟨rfl,q3⟩
   go_wp2
   go_ret2
   exact Cl q3
 rw[if_neg hb]
 obtain ⟨ap,cp,rfl,c0,d8⟩:=hP.v
 obtain ⟨np,H⟩:=Aq put.length
 by_cases Z:n=0∧put= []
 · rw[if_pos Z]
   obtain ⟨rfl,ca⟩:=Z
   obtain rfl:np=0:=by rw[←H,ca];rfl
   rw[H] at d m⊢
   obtain ⟨al,cl,rfl,d6,d7⟩:=hE.v
   have HE:Aside (An B0 (.slice al l.length cl) l):=aj
   clear aj hE hP HO HM O
   go_enter Tryz.func40,Tryz.ntmps40
   go_wp2_with fail
   refine (d _ _ hs).mono ?_
   rintro e w1 ⟨rfl,G⟩
   go_wp2_with fail
   refine (f _ _ G).mono ?_
   rintro e w2 ⟨rfl,I⟩
   go_wp2_with fail
   refine (m _ _ I).mono ?_
   rintro e w3 ⟨rfl,q3⟩
   go_wp2
   go_ret2
   exact ⟨al,cl,1,rfl,Al.right HE.out,by rw[Aw];exact q3⟩
 rw[if_neg Z]
 obtain ⟨i0,E⟩:=Ey
 have SP:Aside (∀(F:Ac)(w:World),Sat (B*F) w→Src Tryz.prog 4 w (.slice ap np cp) np (Bb put)):=fun F w h=>by
  rw[←H]
  exact Al.src hP (Gr put) h
 obtain ⟨L,hL⟩:=Aq ((first l at_).1)
 obtain ⟨R,hR⟩:=Aq ((first l at_).2)
 obtain ⟨M,hM⟩:=Aq ((first R n).1)
 obtain ⟨K,hK⟩:=Aq ((first R n).2)
 have k:=fun F w h=>OE l at_ v B F w hE h (by omega) HM.out.1 (by omega) (by omega)
 have j:=fun a c F w (h:Sat (rw AM 4 (.slice a R.length c) (Bb R)*F) w)=>OE R n _ _ F w (Dm h rfl) h (by have:=O.out.2.1;rw[hR] at this;omega) (by have:=HM.out.2;rw[hR] at this;exact this) (by omega) (by omega)
 rw[hL,hR] at k
 rw[hM,hK] at j
 rw[hL,hR,hK] at HO
 rw[hL,hR,hM,hK] at O
 rw[hL,hR,hK]
 obtain ⟨t,Y⟩:=Aq L.length
 obtain ⟨nR,ac⟩:=Aq R.length
 obtain ⟨nM,aq⟩:=Aq M.length
 obtain ⟨nK,X⟩:=Aq K.length
 have SL:Aside (∀(a:Option Addr)(c:Nat)(F:Ac)(w:World),Sat (rw AM 4 (.slice a t c) (Bb L)*F) w→Src Tryz.prog 4 w (.slice a t c) t (Bb L)):=fun a c=>K' L t Y
 have SK:Aside (∀(a:Option Addr)(c:Nat)(F:Ac)(w:World),Sat (rw AM 4 (.slice a nK c) (Bb K)*F) w→Src Tryz.prog 4 w (.slice a nK c) nK (Bb K)):=fun a c=>K' K nK X
 have q:=fun a c F w (h:Sat (rw AM 4 (.slice a (t+np+nK) c) (Bb L++Bb put++Bb K)*F) w)=>Mj (L++put++K) (.slice a (t+np+nK) c) (rw AM 4 (.slice a (t+np+nK) c) (Bb L++Bb put++Bb K)) F w
  (by
    have e1:Bb (L++put++K)=Bb L++Bb put++Bb K:=by simp[Bb]
    have e2:(L++put++K).length=t+np+nK:=by rw[List.length_append,List.length_append,Y,H,X]
    rw[←e1] at h⊢
    exact Dm h e2.symm) h (by have:=O.out;rw[List.length_append,List.length_append];omega) HO.out.1 HO.out.2
 rw[Y,ac] at k
 rw[ac] at j
 rw[aq,X] at j
 have bu:=O.out
 rw[Y,ac,aq,X] at bu
 have cm:np≤1000:=by omega
 obtain ⟨J,hJ⟩:=Aq (join (L++put++K))
 rw[hJ] at q⊢
 obtain ⟨D,ao⟩:=Aq J.length
 have b:Aside (J.length=D):=ao
 obtain ⟨RR,am⟩: ∃r:Int×List Au,(if 1024<J.length then (11,[]) else (0,J))=r:=⟨_,rfl⟩
 rw[am]
 have P:Aside ((if 1024<J.length then ((11:Int),([]:List Au)) else (0,J))=RR):=am
 clear am
 rw[ao] at q
 rw[H] at d m c0⊢
 have bt:Aside (n≠0∨np≠0):=by
  rcases Classical.em (n=0) with h1|h1
  · right
    intro h2
    exact Z ⟨h1,List.length_eq_zero_iff.1 (by rw[H,h2])⟩
  exact .inl h1
 clear Z hL hR hM hK Y ac aq X H ao hJ O HO HM aj hE hP cb bx
 obtain ⟨xL,bc⟩:=Aq (Bb L)
 obtain ⟨xP,bd⟩:=Aq (Bb put)
 obtain ⟨xK,bb⟩:=Aq (Bb K)
 rw[bc] at k SL q
 rw[bd] at SP q
 rw[bb] at j SK q
 clear bc bd bb
 go_enter Tryz.func40,Tryz.ntmps40
 go_wp2_with fail
 refine (d _ _ hs).mono ?_
 rintro e w1 ⟨rfl,G⟩
 go_wp2_with fail
 refine (f _ _ G).mono ?_
 rintro e w2 ⟨rfl,I⟩
 go_wp2_with fail
 refine (m _ _ I).mono ?_
 rintro e w3 ⟨rfl,q3⟩
 clear hs G I
 rcases bt.out with hz|hz
 · have cc:(n==0)=false:=by simp[hz]
   go_wp2_with fail
   refine (k _ _ q3).mono ?_
   rintro e w4 ⟨a1,U,a2,p,rfl,q4⟩
   haveI:=q4.i
   clear q3 k d f m
   go_wp2_with fail
   refine (j a2 p _ _ (Af (rw AM 4 (.slice a2 nR p) (Bb R)))).mono ?_
   rintro e w5 ⟨a3,b2,a4,V,rfl,q5⟩
   haveI:=q5.i
   clear q4 j
   go_wp2_with (first
    |(at_builtin;refine Ad E rfl (.tmp 66) (.tmp 67) rfl rfl rfl (Sat.AH (e:=AM) (s:=4) E3) (SL.out _ _ _ _ (Af (rw AM 4 (.slice a1 t U) xL))) (by unfold maxLen;omega) (by omega) ?_;intro a6 c6 w6 q6 z6;clear z6;rw[List.nil_append] at q6;rw[Nat.zero_add] at q6⊢;haveI:=q6.i)
    |(at_builtin;refine Ad E rfl (.tmp 69) (.tmp 70) rfl rfl rfl (Af (rw AM 4 (.slice a6 t c6) xL)) (SP.out _ _ (Af B)) (by unfold maxLen;omega) (by omega) ?_;intro a7 c7 w7 q7 z7;clear z7;haveI:=q7.i)
    |(at_builtin;refine Ad E rfl (.tmp 72) (.tmp 73) rfl rfl rfl (Af (rw AM 4 (.slice a7 (t+np) c7) (xL++xP))) (SK.out _ _ _ _ (Af (rw AM 4 (.slice a4 nK V) xK))) (by unfold maxLen;omega) (by omega) ?_;intro a8 c8 w8 q8 z8;clear z8;haveI:=q8.i))
   refine (q a8 c8 _ _ q8).mono ?_
   rintro e w9 ⟨T,c9,rfl,q9⟩
   haveI:=q9.i
   clear q8
   by_cases hj:1024<D
   · have W:(1024:Int)<D:=by omega
     have g:1024<J.length:=by rw[b.out];exact hj
     go_wp2
     go_ret2
     rw[←P.out,if_pos g]
     exact Cl (Ap B F)
   have W: ¬(1024:Int)<D:=by omega
   have g: ¬1024<J.length:=by rw[b.out];exact hj
   go_wp2
   go_ret2
   rw[←P.out,if_neg g]
   have u:Sat (rw AM 4 (.slice T D c9) (Bb J)*(B*F)) w9:=AD _ B F
   refine ⟨T,c9,rw AM 4 (.slice T D c9) (Bb J),by simp only;rw[b.out];rfl,Al.left ?_,u⟩
   have:=Dm u b.out.symm
   unfold An at this
   rw[b.out] at this
   simp only
   rw[b.out]
   exact this
 have cc:(np==0)=false:=by simp[hz]
 have d9:((np:Int)==0)=false:=by simp[hz]
 by_cases b9:n=0
 · subst b9
   go_wp2_with fail
   refine (k _ _ q3).mono ?_
   rintro e w4 ⟨a1,U,a2,p,rfl,q4⟩
   haveI:=q4.i
   clear q3 k d f m
   go_wp2_with fail
   refine (j a2 p _ _ (Af (rw AM 4 (.slice a2 nR p) (Bb R)))).mono ?_
   rintro e w5 ⟨a3,b2,a4,V,rfl,q5⟩
   haveI:=q5.i
   clear q4 j
   go_wp2_with (first
    |(at_builtin;refine Ad E rfl (.tmp 66) (.tmp 67) rfl rfl rfl (Sat.AH (e:=AM) (s:=4) E3) (SL.out _ _ _ _ (Af (rw AM 4 (.slice a1 t U) xL))) (by unfold maxLen;omega) (by omega) ?_;intro a6 c6 w6 q6 z6;clear z6;rw[List.nil_append] at q6;rw[Nat.zero_add] at q6⊢;haveI:=q6.i)
    |(at_builtin;refine Ad E rfl (.tmp 69) (.tmp 70) rfl rfl rfl (Af (rw AM 4 (.slice a6 t c6) xL)) (SP.out _ _ (Af B)) (by unfold maxLen;omega) (by omega) ?_;intro a7 c7 w7 q7 z7;clear z7;haveI:=q7.i)
    |(at_builtin;refine Ad E rfl (.tmp 72) (.tmp 73) rfl rfl rfl (Af (rw AM 4 (.slice a7 (t+np) c7) (xL++xP))) (SK.out _ _ _ _ (Af (rw AM 4 (.slice a4 nK V) xK))) (by unfold maxLen;omega) (by omega) ?_;intro a8 c8 w8 q8 z8;clear z8;haveI:=q8.i))
   refine (q a8 c8 _ _ q8).mono ?_
   rintro e w9 ⟨T,c9,rfl,q9⟩
   haveI:=q9.i
   clear q8
   by_cases hj:1024<D
   · have W:(1024:Int)<D:=by omega
     have g:1024<J.length:=by rw[b.out];exact hj
     go_wp2
     go_ret2
     rw[←P.out,if_pos g]
     exact Cl (Ap B F)
   have W: ¬(1024:Int)<D:=by omega
   have g: ¬1024<J.length:=by rw[b.out];exact hj
   go_wp2
   go_ret2
   rw[←P.out,if_neg g]
   have u:Sat (rw AM 4 (.slice T D c9) (Bb J)*(B*F)) w9:=AD _ B F
   refine ⟨T,c9,rw AM 4 (.slice T D c9) (Bb J),by simp only;rw[b.out];rfl,Al.left ?_,u⟩
   have:=Dm u b.out.symm
   unfold An at this
   rw[b.out] at this
   simp only
   rw[b.out]
   exact this
 have da:(n==0)=false:=by simp[b9]
 go_wp2_with fail
 refine (k _ _ q3).mono ?_
 rintro e w4 ⟨a1,U,a2,p,rfl,q4⟩
 haveI:=q4.i
 clear q3 k d f m
 go_wp2_with fail
 refine (j a2 p _ _ (Af (rw AM 4 (.slice a2 nR p) (Bb R)))).mono ?_
 rintro e w5 ⟨a3,b2,a4,V,rfl,q5⟩
 haveI:=q5.i
 clear q4 j
 go_wp2_with (first
  |(at_builtin;refine Ad E rfl (.tmp 66) (.tmp 67) rfl rfl rfl (Sat.AH (e:=AM) (s:=4) E3) (SL.out _ _ _ _ (Af (rw AM 4 (.slice a1 t U) xL))) (by unfold maxLen;omega) (by omega) ?_;intro a6 c6 w6 q6 z6;clear z6;rw[List.nil_append] at q6;rw[Nat.zero_add] at q6⊢;haveI:=q6.i)
  |(at_builtin;refine Ad E rfl (.tmp 69) (.tmp 70) rfl rfl rfl (Af (rw AM 4 (.slice a6 t c6) xL)) (SP.out _ _ (Af B)) (by unfold maxLen;omega) (by omega) ?_;intro a7 c7 w7 q7 z7;clear z7;haveI:=q7.i)
  |(at_builtin;refine Ad E rfl (.tmp 72) (.tmp 73) rfl rfl rfl (Af (rw AM 4 (.slice a7 (t+np) c7) (xL++xP))) (SK.out _ _ _ _ (Af (rw AM 4 (.slice a4 nK V) xK))) (by unfold maxLen;omega) (by omega) ?_;intro a8 c8 w8 q8 z8;clear z8;haveI:=q8.i))
 refine (q a8 c8 _ _ q8).mono ?_
 rintro e w9 ⟨T,c9,rfl,q9⟩
 haveI:=q9.i
 clear q8
 by_cases hj:1024<D
 · have W:(1024:Int)<D:=by omega
   have g:1024<J.length:=by rw[b.out];exact hj
   go_wp2
   go_ret2
   rw[←P.out,if_pos g]
   exact Cl (Ap B F)
 have W: ¬(1024:Int)<D:=by omega
 have g: ¬1024<J.length:=by rw[b.out];exact hj
 go_wp2
 go_ret2
 rw[←P.out,if_neg g]
 have u:Sat (rw AM 4 (.slice T D c9) (Bb J)*(B*F)) w9:=AD _ B F
 refine ⟨T,c9,rw AM 4 (.slice T D c9) (Bb J),by simp only;rw[b.out];rfl,Al.left ?_,u⟩
 have:=Dm u b.out.symm
 unfold An at this
 rw[b.out] at this
 simp only
 rw[b.out]
 exact this
open Go.ChangeShapes Go.WideShapes
theorem Q4{α:Type}{f:α→List Value} : ∀l:List (List Value),(∀r∈l,∃c,r=f c)→ ∃a:List α,l=a.map f
 | [],_=>⟨[],rfl⟩
 | r :: l, hl => by
  obtain ⟨c,rfl⟩:=hl r (by simp)
  obtain ⟨a,rfl⟩:=Q4 l fun d b=>hl d (by simp[b])
  exact ⟨c::a,rfl⟩
theorem p7{r:List Value}(h:r.length=4): ∃a b c d,r= [a,b,c,d]:=by
 match r,h with
 | [a,b,c,d],_=>exact ⟨a,b,c,d,rfl⟩
theorem V1{w:World}{a:Option Addr}{cap:Nat}{l:List Au}(h:j9 w (.slice a l.length cap) 4 (l.map Cx))(h1:l.length≤cap)(m:cap≤9223372036854775807):An (Kc w) (.slice a l.length cap) l:=by
 have c:(Bb l).length=l.length*4:=PK (f:=Cx) (fun _=>rfl) l
 refine ⟨c,a,cap,rfl,h1,m,fun j u k=>?_⟩
 have p:j<l.length*4:=by
  rw[←c]
  exact (List.getElem?_eq_some_iff.1 k).1
 obtain ⟨x,hx⟩: ∃x,l[j/4]?=some x:=⟨_,List.getElem?_eq_getElem (by omega)⟩
 have g:=KQ (f:=Cx) (s:=4) (fun _=>rfl) l (j/4) (j%4) x hx (by omega)
 have d:j/4*4+j%4=j:=by omega
 rw[d] at g
 obtain ⟨b,o,rfl,n⟩:=h.at (i:=j/4) (r:=Cx x) (by simp[hx])
 refine ⟨b,o,rfl,?_⟩
 have e:=n (j%4) u (g.symm.trans k)
 rw[Nat.add_assoc,d] at e
 haveI:Ns w b (o+j) u:=⟨e⟩
 exact inferInstance
theorem D6{H:Type}{enc:TypeId×Value→H}{w:World}{b:Nat}{a:Nat→Bool}{d:Bool}{t e:Nat}{r:List Value}{x:DataW H×List MemPlace}{fs:Array Field}
 (s:Tryz.prog.underlying t=some (.struct fs)) (h:DataW.trod enc Tryz.prog w b a d e t r=some x) (i j g c:Nat) (q:(fs[i]?).map (fun f=>(f.type,f.offset))=some (j,g)) (p:Tryz.prog.cellsOf j=c):
 ∃n y,DataW.trod enc Tryz.prog w b a d n j ((r.drop g).take c)=some y:=by
 obtain ⟨_,n,l⟩:=GF s h
 obtain ⟨f,m,o⟩:=Option.map_eq_some_iff.1 q
 obtain ⟨y,k⟩:=l i f m
 cases o
 rw[p] at k
 exact ⟨n,y,k⟩
theorem UN{H:Type}{enc:TypeId×Value→H}{w:World}{e:Nat}{d:Nat→Bool}{g:Bool}{a:Option Addr}{len cap:Nat}
 (h: ∃b x,DataW.trod enc Tryz.prog w e d g b 29 [.slice a len cap]=some x):
 ∃l:List Au,l.length=len∧An (Kc w) (.slice a len cap) l:=by
 obtain ⟨b,x,hx⟩:=h
 have c:len≤cap∧cap≤maxLen:=by
  rcases DataW.trod_slice Tryz.underlying29 hx with ⟨h0,_⟩|⟨a',u,p,k,rest,n,_,h1,_,_,o,t,_⟩
  ·simp only[List.cons.injEq,Value.slice.injEq,and_true] at h0
   obtain ⟨_,rfl,rfl⟩:=h0
   exact ⟨Nat.le_refl _,by unfold maxLen;decide⟩
  simp only[List.cons.injEq,Value.slice.injEq,and_true] at h1
  obtain ⟨_,rfl,rfl⟩:=h1
  exact ⟨o,t⟩
 have q:Tryz.prog.cellsOf AM=4:=by kernel_rfl
 have v:Tryz.prog.cellsOf 75=3:=by kernel_rfl
 have j:Tryz.prog.cellsOf 3=1:=by kernel_rfl
 obtain ⟨I,h1,o,t,G⟩:=Lz (s:=4) Tryz.underlying29 q (by omega) hx
 obtain ⟨l,rfl⟩:=Q4 (f:=Cx) I (by
  intro r hr
  obtain ⟨n,y,hy⟩:=G r hr
  obtain ⟨hl,n',O⟩:=GF Tryz.underlying77 hy
  obtain ⟨v0,v1,v2,v3,rfl⟩:=p7 (hl.trans q)
  obtain ⟨_,P,m⟩:=D6 Tryz.underlying77 hy 0 75 0 3 rfl v
  obtain ⟨_,Q,z⟩:=D6 Tryz.underlying77 hy 1 3 3 1 rfl j
  obtain ⟨_,R,g0⟩:=D6 Tryz.underlying75 m 0 3 0 1 rfl j
  obtain ⟨_,T,B⟩:=D6 Tryz.underlying75 m 1 3 1 1 rfl j
  obtain ⟨_,U,D⟩:=D6 Tryz.underlying75 m 2 3 2 1 rfl j
  obtain ⟨J,rfl,_⟩:=Dt Tryz.underlying3 g0
  obtain ⟨K,rfl,_⟩:=Dt Tryz.underlying3 B
  obtain ⟨L,rfl,_⟩:=Dt Tryz.underlying3 D
  obtain ⟨M,rfl,_⟩:=Dt Tryz.underlying3 z
  exact ⟨⟨J,K,L,M⟩,rfl⟩)
 have i:l.length=len:=by simpa using o
 subst i
 exact ⟨l,rfl,V1 h1 c.1 c.2⟩
end Go.Proofs.YtfhbmblbidcmmaaGreat
namespace Go.Proofs.YtfhbmblbidcmmaaGreat
open Go.RowKit Go.Sl Go.Dk Go.Tr
variable [EZ]
abbrev IF:TypeId:=105
abbrev Nu:TypeId:=107
abbrev DS:TypeId:=29
theorem UL: ∃i,CJ Tryz.prog 103 DS 1 24 i (.slice none 0 0):=IQ Tryz.underlying103 (by kernel_rfl) rfl (by omega)
structure CQ (s:TS) (ms:List (Int×List Au)) (vs:List Value) (G:Ac):Prop where
 len:vs.length=ms.length
 each: ∀(i:Nat)(v:Value)(p:Int×List Au),vs[i]?=some v→ms[i]?=some p→An G v p.2∧Rt (nodeAt s) p.1 p.2∧DB p.2
def D4(ms:List (Int×List Au)):List Value:=ms.map fun p=> .int .i64 p.1
def EV(c:Nat)(a:Option Addr)(c1:Nat)(b:Option Addr)(c2 n:Nat)(d vs:List Value):Ac:=
 Sl.block c IF [.slice a n c1,.slice b n c2]*(rw B3 1 (.slice a n c1) d*rw DS 1 (.slice b n c2) vs)
def D9(b:Nat)(h:Th):Ac:=Sl.block b I8 [.pointer (some ⟨h.D,0,none⟩),.pointer (some ⟨h.C,0,none⟩),.pointer (some ⟨h.S,0,none⟩),.pointer (some ⟨h.t,0,none⟩)]
theorem CQ.same{s s':TS}{ms:List (Int×List Au)}{vs:List Value}{G:Ac}(h:CQ s ms vs G)(a:Le (nodeAt s) (nodeAt s')):CQ s' ms vs G:=
 ⟨h.len,fun i v p h1 b=>by
  obtain ⟨c,d,e⟩:=h.each i v p h1 b
  exact ⟨c,d.le a,e⟩⟩
theorem CQ.more{s s':TS}{ms:List (Int×List Au)}{vs:List Value}{G d:Ac}(h:CQ s ms vs G)(c:Le (nodeAt s) (nodeAt s')){r:Int}{l:List Au}{v:Value}(h1:An (d*G) v l)(e:Rt (nodeAt s') r l)(f:DB l):
 CQ s' (ms++ [(r,l)]) (vs++ [v]) (d*G):=
 ⟨by rw [List.length_append, List.length_append, h.len]; rfl, fun i u p b a => by
  by_cases hi:i<ms.length
  ·rw[List.getElem?_append_left (by rw[h.len];exact hi)] at b
   rw[List.getElem?_append_left hi] at a
   obtain ⟨m1,j,m3⟩:=h.each i u p b a
   exact ⟨Al.right m1,j.le c,m3⟩
  rw[List.getElem?_append_right (by rw[h.len];omega),h.len] at b
  rw[List.getElem?_append_right (by omega)] at a
  by_cases g:i-ms.length=0
  ·rw[g] at b a
   cases b
   cases a
   exact ⟨h1,e,f⟩
  rw[List.getElem?_eq_none (by simp;omega)] at a
  cases a⟩
theorem CQ.at{s:TS}{ms:List (Int×List Au)}{vs:List Value}{G:Ac}(h:CQ s ms vs G){i:Nat}(hi:i<ms.length): ∃v r l,vs[i]?=some v∧(D4 ms)[i]?=some (.int .i64 r)∧An G v l∧Rt (nodeAt s) r l∧DB l∧ms[i]?=some (r,l):=by
 obtain ⟨v,a⟩: ∃v,vs[i]?=some v:=⟨_,List.getElem?_eq_getElem (by rw[h.len];exact hi)⟩
 obtain ⟨⟨r,l⟩,hp⟩: ∃p,ms[i]?=some p:=⟨_,List.getElem?_eq_getElem hi⟩
 obtain ⟨b,c,d⟩:=h.each i v _ a hp
 exact ⟨v,r,l,a,by unfold D4;rw[List.getElem?_map,hp];rfl,b,c,d,hp⟩
end Go.Proofs.YtfhbmblbidcmmaaGreat
namespace Go.Proofs.YtfhbmblbidcmmaaGreat
open Go.RowKit Go.Sl Go.Dk Go.Tr
variable [EZ]
def Ep(h:Th)(s:TS)(d b m:Nat)(Bp F:Ac)(e:Ending)(f:World):Prop:=
 ∃(s':TS)(a:Option Addr)(c1:Nat)(c:Option Addr)(c2:Nat)(ms:List (Int×List Au))(vs:List Value)(G:Ac),e= .returned (.bool true)∧
  Sat (Ae h s'*(G*(EV d a c1 c c2 ms.length (D4 ms) vs*(D9 b h*(Bp*F))))) f∧CQ s' ms vs G∧m≤ms.length∧ms.length≤m+1∧LB s s' 3000 2600
theorem E'{l l1 l2:List Au}{x:Au}(hl:l=l1++x::l2)(hm: ∀y∈l,Ah y=true){i:Nat}(hi:i<l1.length):Aa (l.take (i+1))≤Aa l1:=by
 have e:l.take (i+1)=l1.take (i+1):=by rw[hl,List.take_append_of_le_length (by omega)]
 rw[e]
 have h1:Aa l1=Aa (l1.take (i+1))+Aa (l1.drop (i+1)):=by rw[←Ao,List.take_append_drop]
 have a:=(FI (o:=l1.drop (i+1)) (fun y hy=>(KD.of (hm y (by rw[hl];exact List.mem_append_left _ (List.mem_of_mem_drop hy)))).1)).1
 omega
theorem YU(h:Th)(s:TS)(J b:Nat)(a1:Option Addr)(c1:Nat)(a2:Option Addr)(c2:Nat)(ms:List (Int×List Au))(vs:List Value)(G:Ac)(k f at_ n:Int)(put:List Au)(v:Value)(Bp F:Ac)(w:World)
 (Wx:k≠1) (b8:k≠2) (b9:k≠3) (hP:CQ s ms vs G) (bb:0<ms.length) (bc:ms.length≤64) (hI:Fs true s) (hf:10000≤AL s) (hE:An Bp v put) (ch:put.length≤60)
 (hs:Sat (Ae h s*(G*(EV J a1 c1 a2 c2 ms.length (D4 ms) vs*(D9 b h*(Bp*F))))) w):
 Calls Tryz.prog 48 #[.pointer (some ⟨J,0,none⟩),.pointer (some ⟨b,0,none⟩),.agg #[.int .i64 k,.int .i64 f,.int .i64 at_,.int .i64 n,v]] w (Ep h s J b ms.length Bp F):=by
 obtain ⟨nm,L⟩:=Aq ms.length
 have Y:Aside (ms.length=nm):=L
 obtain ⟨j,hj,ae⟩: ∃j:Nat,f%(ms.length:Int)=(j:Int)∧j<ms.length:=⟨(f%(ms.length:Int)).toNat,by have:=Int.emod_nonneg f (show (ms.length:Int)≠0 by omega);omega,by have:=Int.emod_lt_of_pos f (show 0<(ms.length:Int) by omega);omega⟩
 obtain ⟨vj,r,l,hv,hr,a,ag,hg,-⟩:=hP.at ae
 obtain ⟨al,cl,rfl,ba,cd⟩:=a.v
 obtain ⟨W,O⟩:=Aq (D4 ms)
 have au:Aside (CQ s ms vs G):=hP
 have V:Aside (An G (.slice al l.length cl) l∧Rt (nodeAt s) r l∧DB l):=⟨a,ag,hg⟩
 have av:Aside (D4 ms=W):=O
 have ap:Aside (∀(F:Ac)(w:World),Sat (Bp*F) w→Calls Tryz.prog 113 #[v] w fun e p=> ∃g c,e= .returned (.slice (some ⟨g,0,none⟩) put.length c)∧Sat (Bs g c put*(Bp*F)) p):=fun F w h=>Jd put v Bp F w hE h (by omega)
 rw[O,L] at hs
 rw[O] at hr
 rw[L] at hj ae bb bc⊢
 haveI:At W j (.int .i64 r):=⟨hr⟩
 haveI:At vs j (.slice al l.length cl):=⟨hv⟩
 have b6:=hg.1.2.2
 have b5:=hg.1.2.1
 obtain ⟨z,hz⟩:=Aq (Aa l)
 obtain ⟨nl,Z⟩:=Aq l.length
 have H:Aside (Aa l=z∧l.length=nl):=⟨hz,Z⟩
 rw[Z] at ba b6
 rw[hz] at b5
 unfold EV D9 at hs
 have q0:Sat (Ae h s*(G*(Sl.block J IF [.slice a1 nm c1,.slice a2 nm c2]*(rw B3 1 (.slice a1 nm c1) W*(rw DS 1 (.slice a2 nm c2) vs*(Sl.block b I8 [.pointer (some ⟨h.D,0,none⟩),.pointer (some ⟨h.C,0,none⟩),.pointer (some ⟨h.S,0,none⟩),.pointer (some ⟨h.t,0,none⟩)]*(Bp*F))))))) w:=hs.eq (by ac_rfl)
 have bu:(j:Int)<nm:=by omega
 have cc:(0:Int)≤j:=by omega
 have e1:(k==1)=false:=by simp[Wx]
 have e2:(k==2)=false:=by simp[b8]
 have e3:(k==3)=false:=by simp[b9]
 have ci: ∀g w,(Sem.run Tryz.prog (Instr.indexAt 45 (Value.slice (some ⟨g,0,none⟩) nm c1) (Value.int IntKind.i64 j)) w)= .ok (.pointer (some ⟨g,j,none⟩)) w:=by
  intro g w
  simp[go_sem, *]
 obtain ⟨I,rfl⟩:=BN (hs:=q0.take (rw B3 1 (.slice a1 nm c1) W)) (by omega)
 obtain ⟨K,rfl⟩:=BN (hs:=q0.take (rw DS 1 (.slice a2 nm c2) vs)) (by omega)
 have u:Aside (∀(p:World)(s':TS),LB s s' 3000 2600→Sat (Ae h s'*(G*(Sl.block J IF [.slice (some ⟨I,0,none⟩) nm c1,.slice (some ⟨K,0,none⟩) nm c2]*(rw B3 1 (.slice (some ⟨I,0,none⟩) nm c1) W*(rw DS 1 (.slice (some ⟨K,0,none⟩) nm c2) vs*(Sl.block b I8 [.pointer (some ⟨h.D,0,none⟩),.pointer (some ⟨h.C,0,none⟩),.pointer (some ⟨h.S,0,none⟩),.pointer (some ⟨h.t,0,none⟩)]*(Bp*F))))))) p→Ep h s J b nm Bp F (.returned (.bool true)) p):=fun p s' nx q=>by
  refine ⟨s',some ⟨I,0,none⟩,c1,some ⟨K,0,none⟩,c2,ms,vs,G,rfl,?_,au.out.same nx.le,by rw[Y.out];exact Nat.le_refl _,by rw[Y.out];omega,nx⟩
  rw[Y.out,av.out]
  unfold EV D9
  exact q.eq (by ac_rfl)
 clear a ag hg hP hs O L hr hv hE hz Z
 go_enter Tryz.func48,Tryz.ntmps48
 haveI:=q0.i
 go_wp2_with fail
 obtain ⟨N,hN⟩:=Aq w.heap.size
 have q1:Sat (Ae h s*(G*(Sl.block N Nu [.int .i64 k,.int .i64 f,.int .i64 at_,.int .i64 n,v]*(Sl.block J IF [.slice (some ⟨I,0,none⟩) nm c1,.slice (some ⟨K,0,none⟩) nm c2]*(rw B3 1 (.slice (some ⟨I,0,none⟩) nm c1) W*(rw DS 1 (.slice (some ⟨K,0,none⟩) nm c2) vs*(Sl.block b I8 [.pointer (some ⟨h.D,0,none⟩),.pointer (some ⟨h.C,0,none⟩),.pointer (some ⟨h.S,0,none⟩),.pointer (some ⟨h.t,0,none⟩)]*(Bp*F)))))))) (w.alloc (.cells #[.int .i64 k,.int .i64 f,.int .i64 at_,.int .i64 n,v] Nu)):=by
  rw[←hN]
  show Sat (_*(_*(Sl.block w.heap.size Nu [.int .i64 k,.int .i64 f,.int .i64 at_,.int .i64 n,v]*_))) _
  exact Av (by ac_rfl)
 try rw[hN]
 generalize w.alloc (.cells #[.int .i64 k,.int .i64 f,.int .i64 at_,.int .i64 n,v] Nu)=w0 at q1⊢
 clear hN q0 this
 haveI:=q1.i
 go_region_held3 (fun p=>p.cell? ⟨N,1,none⟩=some (.int .i64 f)∧p.cell? ⟨J,0,none⟩=some (.slice (some ⟨I,0,none⟩) nm c1)) (first|exact ⟨Ab _ _ _,Ab _ _ _⟩) (first|(go_at_call 21;refine (Hm f nm _ (by omega) (by omega)).mono ?_;rintro e w9 ⟨rfl,rfl⟩))
 go_wp2_with fail
 go_region
 go_wp2_with fail
 with_reducible refine Calls.mono (ap.out _ _ (Af Bp)) ?_
 rintro e w2 ⟨gp,cp,rfl,q2⟩
 haveI:=q2.i
 clear q1
 go_wp2_with fail
 have a3:=fun F w q=>Yh h s r l F w q hI V.out.2.1 (by omega)
 rw[H.out.1] at a3
 with_reducible refine Calls.mono (a3 _ _ (Af (Ae h s))) ?_
 rintro e w3 ⟨s1,rfl,q3,o⟩
 unfold KC
 haveI:=q3.i
 clear q2 a3
 go_wp2_with fail
 have ad: ∀h:Nat,2*4^h≤l.length→h≤4:=fun q hq=>by
  rcases Nat.lt_or_ge 4 q with h1|h1
  · have:4^5≤4^q:=Nat.pow_le_pow_right (by omega) h1
    have:=H.out.2
    omega
  exact h1
 have ah:=fun F w q=>Yf h s1 r at_ l F w q o.inv (V.out.2.1.le o.le) 4 ad (by have:=o.left;omega)
 clear ad
 go_cut [21,22,23] (fun bm bn bo wx=> ∃(M:Nat)(Q R T U xa xe:Int)(s2:TS),bm= .pointer (some ⟨M,0,none⟩)∧bn= .int .i64 xa∧bo= .int .i64 xe∧Aside (LB s1 s2 6 0∧Nt l at_ ⟨Q,R,T,U⟩ xa xe)∧
  Sat (Ae h s2*(G*(Sl.block M AM [.int .i64 Q,.int .i64 R,.int .i64 T,.int .i64 U]*(Sl.block N Nu [.int .i64 k,.int .i64 f,.int .i64 at_,.int .i64 n,v]*(Sl.block J IF [.slice (some ⟨I,0,none⟩) nm c1,.slice (some ⟨K,0,none⟩) nm c2]*(rw B3 1 (.slice (some ⟨I,0,none⟩) nm c1) W*(rw DS 1 (.slice (some ⟨K,0,none⟩) nm c2) vs*(Sl.block b I8 [.pointer (some ⟨h.D,0,none⟩),.pointer (some ⟨h.C,0,none⟩),.pointer (some ⟨h.S,0,none⟩),.pointer (some ⟨h.t,0,none⟩)]*(Bp*F))))))))) wx)
 case first=>
  go_region_held3 (fun p=>p.cell? ⟨b,3,none⟩=some (.pointer (some ⟨h.t,0,none⟩))∧p.cell? ⟨N,2,none⟩=some (.int .i64 at_)) (first|exact ⟨Ab _ _ _,Ab _ _ _⟩) (first|(go_at_call 116;with_reducible refine Calls.mono (ah _ _ (Af (Ae h s1))) ?_;rintro e w4 ⟨⟨Q,R,T,U⟩,xa,xe,s2,rfl,q4,bj,be⟩;unfold Ui;haveI:=q4.i))
  all_goals
   go_wp2_with fail
   go_meet
   exact ⟨_,Q,R,T,U,xa,xe,s2,rfl,rfl,rfl,⟨bj,be⟩,PX _ _ _ _ _ _ _ _ _⟩
 obtain ⟨M,Q,R,T,U,xa,xe,s2,rfl,rfl,rfl,HX,q5⟩:=hcut
 clear q3 ah
 haveI:=q5.i
 have a0:=fun F w q=>Ml l _ G F w V.out.1 q (by have:=H.out.2;omega) (fun x hx=>by have:=Ca (V.out.2.2.1.1 x hx);omega)
 rw[H.out.1,H.out.2] at a0
 have aw:Aside (∀(F:Ac)(w:World),Sat (G*F) w→Calls Tryz.prog 31 #[.slice al nl cl] w fun e p=>e= .returned (.int .i64 z)∧Sat (G*F) p):=a0
 rw[H.out.2]
 clear a0
 go_wp2_with fail
 with_reducible refine Calls.mono (aw.out _ _ (Af G)) ?_
 rintro e w6 ⟨rfl,q6⟩
 haveI:=q6.i
 clear q5
 by_cases m:at_<0∨z≤at_
 · obtain ⟨hx,bf,bg⟩:(⟨Q,R,T,U⟩:Au)=⟨0,0,0,0⟩∧xa=0∧xe=2:=by
    have h3:=HX.out.2
    unfold Nt at h3
    rwa [H.out.1,if_pos m] at h3
   cases hx
   subst bf bg
   rcases m with ho|ho
   · go_wp2
     go_ret
     exact u.out _ s2 ((o.trans HX.out.1).more (by omega) (by omega)) (SF _ _ _ _ _ _ _ _)
   have af: ¬at_<0∨at_<0:=by omega
   clear af
   go_wp2
   all_goals go_ret
   all_goals exact u.out _ s2 ((o.trans HX.out.1).more (by omega) (by omega)) (SF _ _ _ _ _ _ _ _)
 have h3:=HX.out.2
 unfold Nt at h3
 rw[H.out.1,if_neg m] at h3
 obtain ⟨rfl,l1,l2,hl,rfl,h5,h6⟩:=h3
 have HS:Aside (l=l1++⟨Q,R,T,U⟩::l2):=hl
 have X:Aside (∀i:Nat,i<l1.length→Aa (l.take (i+1))≤Aa l1):=fun i hi=>E' hl V.out.2.2.1.1 hi
 obtain ⟨n1,d⟩:=Aq l1.length
 have ce:n1<nl:=by
  rw[←H.out.2,hl,←d,List.length_append,List.length_cons]
  omega
 have b3:Aside (∀i:Nat,0≤Aa (l.take i)∧Aa (l.take i)≤i*1048576):=C6 fun x hx=>by have:=Ca (V.out.2.2.1.1 x hx);omega
 have ab:Aside (l[n1]?=some ⟨Q,R,T,U⟩∧l.take n1=l1):=by
  rw[hl,←d]
  exact ⟨by simp,by simp⟩
 have aq:Aside (∀(i:Nat)(y:Au),l[i]?=some y→1≤y.len∧y.len≤1048576):=fun i y hy=>Ca (V.out.2.2.1.1 y (List.mem_of_getElem? hy))
 rw[d] at X
 obtain ⟨z1,a4⟩:=Aq (Aa l1)
 rw[a4] at X h5 h6⊢
 have ax:Aside (Aa l1=z1):=a4
 simp only at h6
 clear hl d a4
 have cg: ¬at_<0:=by omega
 have af: ¬z≤at_:=by omega
 have ar:Aside (LB s s2 3000 2600):=(o.trans HX.out.1).more (by omega) (by omega)
 clear m HX
 go_wp2
 go_loopg [24,25] nl (fun g bp bq wr=> ∃(i:Nat),bq= .int .i64 i∧bp= .int .i64 (Aa (l.take i))∧i≤n1∧Aside (g=nl-i)∧
  Sat (Ae h s2*(G*(Sl.block M AM [.int .i64 Q,.int .i64 R,.int .i64 T,.int .i64 U]*(Sl.block N Nu [.int .i64 k,.int .i64 f,.int .i64 at_,.int .i64 n,v]*(Sl.block J IF [.slice (some ⟨I,0,none⟩) nm c1,.slice (some ⟨K,0,none⟩) nm c2]*(rw B3 1 (.slice (some ⟨I,0,none⟩) nm c1) W*(rw DS 1 (.slice (some ⟨K,0,none⟩) nm c2) vs*(Sl.block b I8 [.pointer (some ⟨h.D,0,none⟩),.pointer (some ⟨h.C,0,none⟩),.pointer (some ⟨h.S,0,none⟩),.pointer (some ⟨h.t,0,none⟩)]*(Bp*F))))))))) wr)
 case atStart=>exact ⟨0,rfl,by simp[Aa],by omega,rfl,PX _ _ _ _ _ _ _ _ _⟩
 obtain ⟨i,rfl,rfl,hi,A,q7⟩:=hrel
 clear q6
 haveI:=q7.i
 have ca:(i:Int)<nl:=by omega
 obtain ⟨y,hy⟩: ∃y,l[i]?=some y:=⟨_,List.getElem?_eq_getElem (by rw[H.out.2];omega)⟩
 have a:=V.out.1
 obtain ⟨bl,ol,b2,r1,r2,r3,r4⟩:=BD a hy
 subst b2
 have ai:=aq.out i y hy
 have B:=BR hy
 have b4:=b3.out i
 obtain ⟨zi,P⟩:=Aq (Aa (l.take i))
 rw[P] at B b4⊢
 have hw1:=Bc (zi+y.len) (by omega)
 by_cases b7:i<n1
 · have h7:=X.out i b7
   rw[B] at h7
   have ac:Aside (Aa (l.take (i+1))=zi+y.len):=B
   have bd: ¬at_<zi+y.len:=by omega
   obtain ⟨y1,y2,y3,y4⟩:=y
   simp only at r1 r2 r3 r4 ai hw1 ac bd
   clear hy P B a h7
   go_wp2_with fail
   go_region
   go_wp2_with fail
   go_roundg (nl-(i+1))
   case measure=>have:=A.out;omega
   case rel=>exact ⟨i+1,by go_num,by rw[ac.out],by omega,rfl,PX _ _ _ _ _ _ _ _ _⟩
 obtain rfl:i=n1:=by omega
 rw[ab.out.1] at hy
 cases hy
 have bi:zi=z1:=by rw[←P,ab.out.2,ax.out]
 subst bi
 simp only at r1 r2 r3 r4 ai hw1
 clear P B a
 go_wp2_with fail
 go_region
 go_wp2_with fail
 go_region
 go_wp2_with fail
 go_ret
 exact u.out _ s2 ar.out (SF _ _ _ _ _ _ _ _)
