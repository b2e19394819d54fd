/- censusSound holds for every input. No condition. (part 47) -/
import Derived.Test.YtfhbmblbidcmmaaGreatWa45
set_option linter.all false
set_option maxRecDepth 100000
set_option maxHeartbeats 3200000
namespace Go.Tr
theorem Gb(x:Av)(l:List Av)(n:Int):first (x::l) n=if x.len≤n then (x::(first l (n-x.len)).1,(first l (n-x.len)).2)
 else if n≤0 then ((first l (n-x.len)).1,x::(first l (n-x.len)).2)
 else (C5 x 0 n::(first l (n-x.len)).1,C5 x n (x.len-n)::(first l (n-x.len)).2):=by rw[first]
theorem O7(y:Av): ∀(l:List Av)(n:Int),first (l++ [y]) n=((first l n).1++(first [y] (n-Aa l)).1,(first l n).2++(first [y] (n-Aa l)).2)
 | [],n=>by simp[first,Aa]
 | x :: l, n => by
  have h:=O7 y l (n-x.len)
  have e:n-x.len-Aa l=n-Aa (x::l):=by
   have:Aa (x::l)=x.len+Aa l:=by simp[Aa]
   omega
  rw[e] at h
  rw[List.cons_append,Gb x (l++ [y]) n,h,Gb x l n]
  generalize first [y] (n-Aa (x::l))=f
  split
  · rfl
  split<;>rfl
theorem Y8(x:Av)(n:Int):first [x] n=if x.len≤n then ([x],[]) else if n≤0 then ([],[x]) else ([C5 x 0 n],[C5 x n (x.len-n)]):=by
 rw[first]
 simp only[first]
theorem Mw(l:List Av)(n:Int):(first l n).1.length≤l.length∧(first l n).2.length≤l.length:=by
 induction l generalizing n with
 |nil=>simp[first]
 | cons x l a =>
  have:=a (n-x.len)
  rw[first]
  split
  ·simp;omega
  split
  ·simp;omega
  simp;omega
end Go.Tr
namespace Go.Proofs.YtfhbmblbidcmmaaGreat
open Go.RowKit Go.Sl Go.Dk Go.Tr
theorem P7(l:List Av)(f:Int)(v:Value)(B F:Ab)(w:World)(hE:A1 B v l)(hs:Sat (B*F) w)(hl:l.length≤65536)(hm: ∀x∈l,Ah x=true)(h0: -1099511627776≤f)(h1:f≤1099511627776):
 Calls Tryz.prog 106 #[v,.int .i64 f] w fun e w'=> ∃a c a' G,e= .returned (.tuple #[.slice a (first l f).1.length c,.slice a' (first l f).2.length G])∧
  Sat (rw AK 4 (.slice a (first l f).1.length c) (AQ (first l f).1)*(rw AK 4 (.slice a' (first l f).2.length G) (AQ (first l f).2)*(B*F))) w':=by
 obtain ⟨i0,E⟩:=EW
 obtain ⟨a0,c0,rfl,a7,al⟩:=hE.v
 have HL:=As hE
 have HM:=As hm
 have HB:Aside (∀i:Nat,0≤Aa (l.take i)∧Aa (l.take i)≤i*1048576):=Dc fun x hx=>by have:=Ca (hm x hx);omega
 have a3:Aside (∀i,(first (l.take i) f).1.length≤i∧(first (l.take i) f).2.length≤i):=fun i=>by
  have:=Mw (l.take i) f
  have h2:(l.take i).length≤i:=by rw[List.length_take];omega
  omega
 obtain ⟨D,M⟩:=Aq l.length
 have a4:=As M
 have HR:Aside (first l f=first (l.take D) f):=(by rw[←M,List.take_length]:first l f=first (l.take D) f)
 rw[M] at hl a7⊢
 obtain ⟨R,U⟩:=Aq (first l f)
 rw[U]
 have a5:=As U
 have q0:=hs.AG (e:=AK) (s:=4)|>.AG (e:=AK) (s:=4)
 haveI:=hs.i
 clear hE hm M U
 go_enter Tryz.func106,Tryz.ntmps106
 go_wp2
 go_loopg [1,6,7,8] D (fun g t1 t6 t7 t8 wr=> ∃(j:Nat)(L R:List Av)(a:Option Addr)(c:Nat)(a':Option Addr)(G:Nat),t8= .int .i64 j∧t1= .int .i64 (f-Aa (l.take j))∧t6= .slice a L.length c∧t7= .slice a' R.length G∧j≤D∧L.length≤65536∧R.length≤65536∧Aside (g=D-j∧L=(first (l.take j) f).1∧R=(first (l.take j) f).2)∧
  Sat (rw AK 4 (.slice a L.length c) (AQ L)*(rw AK 4 (.slice a' R.length G) (AQ R)*(B*F))) wr)
 case atStart=>exact ⟨0,[],[],none,0,none,0,rfl,by simp[Aa],rfl,rfl,by omega,by simp,by simp,⟨rfl,by simp[first],by simp[first]⟩,q0⟩
 obtain ⟨j,L,R',a,c,a',G,rfl,rfl,rfl,rfl,hj,hL,U,J,O⟩:=hrel
 clear q0 hs this
 haveI:=O.i
 by_cases an:j<D
 · have X:(j:Int)<D:=by omega
   obtain ⟨y,hy⟩: ∃y,l[j]?=some y:=⟨_,List.getElem?_eq_getElem (by have:=a4.out;omega)⟩
   obtain ⟨b,q,rfl,r1,r2,r3,r4⟩:=BH HL.out hy
   have d:=O7 y (l.take j) f
   rw[←AB hy,←J.out.2.1,←J.out.2.2,Y8] at d
   have V:=BZ hy
   have ab:=Cb.1 (HM.out y (List.mem_of_getElem? hy))
   have aa:=HB.out j
   have K:=a3.out (j+1)
   obtain ⟨z,hz⟩:=Aq (f-Aa (l.take j))
   rw[hz] at d⊢
   have Y:f-Aa (l.take (j+1))=z-y.len:=by rw[V];omega
   have ao: -1168231104512≤z∧z≤1168231104512:=by omega
   obtain ⟨k,hk⟩:=Aq (first (l.take (j+1)) f)
   rw[hk] at K
   have o:Aside (first (l.take (j+1)) f=k∧k.1.length≤j+1∧k.2.length≤j+1∧f-Aa (l.take (j+1))=z-y.len):=⟨hk,K.1,K.2,Y⟩
   rw[hk] at d
   obtain ⟨n,m,t,I⟩:=y
   simp only at r1 r2 r3 r4 ab d o
   have hw1:=Bb (z-t) (by omega)
   clear hy V aa K hz Y hk
   by_cases c1:t≤z
   · rw[if_pos c1] at d
     have r:=As d
     clear d
     go_wp2_with (at_builtin;refine Af E rfl (.tmp 26) (.tmp 28) rfl rfl rfl (Ae (rw AK 4 (.slice a L.length c) (AQ L))) (Src.new (b:=wr.heap.size+1) (e:=AK) (s:=4) (vs:= [.int .i64 n,.int .i64 m,.int .i64 t,.int .i64 I]) (Ae _) rfl (by intro u p;simp at p;rcases p with rfl|rfl|rfl|rfl<;>rfl)) (by unfold maxLen;omega) (by omega) ?_;intro H c9 Z P Q;clear Q;haveI:=P.i)
     go_roundg (D-(j+1))
     case measure=>have:=J.out.1;omega
     refine ⟨j+1,L++ [⟨n,m,t,I⟩],R',H,c9,a',G,by go_num,by rw[o.out.2.2.2],?_,rfl,by omega,?_,U,⟨rfl,?_,?_⟩,?_⟩
     ·rw[List.length_append];rfl
     ·have:=o.out.2.1;rw[r.out] at this;simp only at this;omega
     ·rw[o.out.1,r.out]
     ·rw[o.out.1,r.out,List.append_nil]
     rw[Dn,List.length_append]
     show Sat (rw AK 4 (.slice H (L.length+1) c9) (AQ L++ [.int .i64 n,.int .i64 m,.int .i64 t,.int .i64 I])*(rw AK 4 (.slice a' R'.length G) (AQ R')*(B*F))) _
     exact Cz _ _ _ _
   rw[if_neg c1] at d
   by_cases c2:z≤0
   · rw[if_pos c2] at d
     have r:=As d
     clear d
     go_wp2_with (at_builtin;refine Af E rfl (.tmp 32) (.tmp 34) rfl rfl rfl (Ae (rw AK 4 (.slice a' R'.length G) (AQ R'))) (Src.new (b:=wr.heap.size+1) (e:=AK) (s:=4) (vs:= [.int .i64 n,.int .i64 m,.int .i64 t,.int .i64 I]) (Ae _) rfl (by intro u p;simp at p;rcases p with rfl|rfl|rfl|rfl<;>rfl)) (by unfold maxLen;omega) (by omega) ?_;intro H c9 Z P Q;clear Q;haveI:=P.i)
     go_roundg (D-(j+1))
     case measure=>have:=J.out.1;omega
     refine ⟨j+1,L,R'++ [⟨n,m,t,I⟩],a,c,H,c9,by go_num,by rw[o.out.2.2.2],rfl,?_,by omega,hL,?_,⟨rfl,?_,?_⟩,?_⟩
     ·rw[List.length_append];rfl
     ·have:=o.out.2.2.1;rw[r.out] at this;simp only at this;omega
     ·rw[o.out.1,r.out,List.append_nil]
     ·rw[o.out.1,r.out]
     rw[Dn,List.length_append]
     show Sat (rw AK 4 (.slice a L.length c) (AQ L)*(rw AK 4 (.slice H (R'.length+1) c9) (AQ R'++ [.int .i64 n,.int .i64 m,.int .i64 t,.int .i64 I])*(B*F))) _
     exact Cz _ _ _ _
   rw[if_neg c2] at d
   have hw2:=Bb (m+z) (by omega)
   have hw3:=Bb (t-z) (by omega)
   have r:Aside (k=(L++ [⟨n,m,z,if I=0 then 0 else-1⟩],R'++ [⟨n,m+z,t-z,if I=0 then 0 else-1⟩])):=by
    rw[d]
    unfold C5
    simp only[Int.add_zero]
    exact (trivial:True)
   clear d
   by_cases c3:I=0
   · subst c3
     go_wp2_with (first|(at_builtin;refine Af E rfl (.tmp 39) (.tmp 50) rfl rfl rfl (Ae (rw AK 4 (.slice a L.length c) (AQ L))) (Src.new (b:=wr.heap.size+1) (e:=AK) (s:=4) (vs:= [.int .i64 n,.int .i64 m,.int .i64 z,.int .i64 (0)]) (Ae _) rfl (by intro u p;simp at p;rcases p with rfl|rfl|rfl|rfl<;>rfl)) (by unfold maxLen;omega) (by omega) ?_;intro H c9 Z P Q;clear Q;haveI:=P.i)|(at_builtin;refine Af E rfl (.tmp 52) (.tmp 69) rfl rfl rfl (Ae (rw AK 4 (.slice a' R'.length G) (AQ R'))) (Src.new (b:=Z.heap.size) (e:=AK) (s:=4) (vs:= [.int .i64 n,.int .i64 (m+z),.int .i64 (t-z),.int .i64 (0)]) (Ae _) rfl (by intro u p;simp at p;rcases p with rfl|rfl|rfl|rfl<;>rfl)) (by unfold maxLen;omega) (by omega) ?_;intro T c8 w8 q8 z8;clear z8;haveI:=q8.i))
     go_roundg (D-(j+1))
     case measure=>have:=J.out.1;omega
     refine ⟨j+1,L++ [⟨n,m,z,0⟩],R'++ [⟨n,m+z,t-z,0⟩],H,c9,T,c8,by go_num,by rw[o.out.2.2.2],?_,?_,by omega,?_,?_,⟨rfl,?_,?_⟩,?_⟩
     ·rw[List.length_append];rfl
     ·rw[List.length_append];rfl
     ·have:=o.out.2.1;rw[r.out] at this;simp only[List.length_append,List.length_singleton] at this⊢;omega
     ·have:=o.out.2.2.1;rw[r.out] at this;simp only[List.length_append,List.length_singleton] at this⊢;omega
     ·rw[o.out.1,r.out];simp
     ·rw[o.out.1,r.out];simp
     rw[Dn,Dn,List.length_append,List.length_append]
     show Sat (rw AK 4 (.slice H (L.length+1) c9) (AQ L++ [.int .i64 n,.int .i64 m,.int .i64 z,.int .i64 (0)])*(rw AK 4 (.slice T (R'.length+1) c8) (AQ R'++ [.int .i64 n,.int .i64 (m+z),.int .i64 (t-z),.int .i64 (0)])*(B*F))) _
     exact Cz _ _ _ _
   have c4:(I==0)=false:=by simp[c3]
   have C3:=As c3
   go_wp2_with (first|(at_builtin;refine Af E rfl (.tmp 39) (.tmp 50) rfl rfl rfl (Ae (rw AK 4 (.slice a L.length c) (AQ L))) (Src.new (b:=wr.heap.size+1) (e:=AK) (s:=4) (vs:= [.int .i64 n,.int .i64 m,.int .i64 z,.int .i64 (-1)]) (Ae _) rfl (by intro u p;simp at p;rcases p with rfl|rfl|rfl|rfl<;>rfl)) (by unfold maxLen;omega) (by omega) ?_;intro H c9 Z P Q;clear Q;haveI:=P.i)|(at_builtin;refine Af E rfl (.tmp 52) (.tmp 69) rfl rfl rfl (Ae (rw AK 4 (.slice a' R'.length G) (AQ R'))) (Src.new (b:=Z.heap.size) (e:=AK) (s:=4) (vs:= [.int .i64 n,.int .i64 (m+z),.int .i64 (t-z),.int .i64 (-1)]) (Ae _) rfl (by intro u p;simp at p;rcases p with rfl|rfl|rfl|rfl<;>rfl)) (by unfold maxLen;omega) (by omega) ?_;intro T c8 w8 q8 z8;clear z8;haveI:=q8.i))
   go_roundg (D-(j+1))
   case measure=>have:=J.out.1;omega
   refine ⟨j+1,L++ [⟨n,m,z,-1⟩],R'++ [⟨n,m+z,t-z,-1⟩],H,c9,T,c8,by go_num,by rw[o.out.2.2.2],?_,?_,by omega,?_,?_,⟨rfl,?_,?_⟩,?_⟩
   · rw[List.length_append];rfl
   · rw[List.length_append];rfl
   · have:=o.out.2.1;rw[r.out] at this;simp only[List.length_append,List.length_singleton] at this⊢;omega
   · have:=o.out.2.2.1;rw[r.out] at this;simp only[List.length_append,List.length_singleton] at this⊢;omega
   · rw[o.out.1,r.out];simp[C3.out]
   · rw[o.out.1,r.out];simp[C3.out]
   rw[Dn,Dn,List.length_append,List.length_append]
   show Sat (rw AK 4 (.slice H (L.length+1) c9) (AQ L++ [.int .i64 n,.int .i64 m,.int .i64 z,.int .i64 (-1)])*(rw AK 4 (.slice T (R'.length+1) c8) (AQ R'++ [.int .i64 n,.int .i64 (m+z),.int .i64 (t-z),.int .i64 (-1)])*(B*F))) _
   exact Cz _ _ _ _
 have X: ¬(j:Int)<D:=by omega
 have W:j=D:=by omega
 have HF:Aside (L=R.1∧R'=R.2):=(by rw[J.out.2.1,J.out.2.2,W,←HR.out,a5.out];exact ⟨rfl,rfl⟩:_∧_)
 clear W
 go_wp2
 go_ret2
 rw[HF.out.1,HF.out.2] at O
 exact ⟨a,c,a',G,by rw[HF.out.1,HF.out.2];rfl,O⟩
