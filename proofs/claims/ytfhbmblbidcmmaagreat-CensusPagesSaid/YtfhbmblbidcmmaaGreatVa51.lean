/- censusPages holds for every input. No condition. (part 51) -/
import Derived.Test.YtfhbmblbidcmmaaGreatVa32
import Derived.Test.YtfhbmblbidcmmaaGreatVa50
import Derived.Test.YtfhbmblbidcmmaaGreatVa40
import Derived.Test.YtfhbmblbidcmmaaGreatVa44
set_option linter.all false
set_option maxRecDepth 100000
set_option maxHeartbeats 6400000
namespace Go.Proofs.YtfhbmblbidcmmaaGreat
open Go.RowKit Go.Sl Go.Dk Go.Tr
def E'(x:Ar):Prop:=(x.src=0∨x.src=1)∧0≤x.pos∧1≤x.len∧x.pos≤16777216∧x.len≤16777216∧x.pos+x.len≤16777216∧ -1≤x.lines∧x.lines≤x.len∧(x.src=1∨x.lines= -1)
theorem Ym{x:Ar} :Ai x=true↔E' x∧x.len≤1048576:=by
 rw[Cl]
 unfold E'
 omega
theorem fW{x:Ar}(h: ¬E' x):Ai x=false:=by
 cases hm:Ai x with
 |false=>rfl
 |true=>exact absurd (Ym.1 hm).1 h
theorem Xd{l:List Ar}(h: ∀x∈l,E' x)(h1:1≤l.length)(b:l.length≤12):may ⟨true,l,[]⟩=decide (Aa l≤1048576):=by
 by_cases hb:Aa l≤1048576
 · have hm: ∀x∈l,Ai x=true:=fun x hx=>Ym.2 ⟨h x hx,by
    have:=(GJ (o:=l) fun y hy=>by have:=h y hy;unfold E' at this;unfold Lj;omega).2 x hx
    omega⟩
   rw[Ht (fun x hx=>⟨rfl,hm x hx⟩) (fun x hx=>by cases hx),decide_eq_true hb]
   simp[Bd,Bl]
   omega
 rw[decide_eq_false hb]
 by_cases hm: ∀x∈l,Ai x=true
 · rw[Ht (fun x hx=>⟨rfl,hm x hx⟩) (fun x hx=>by cases hx)]
   simp[Bd,Bl]
   omega
 obtain ⟨x,hx,a⟩: ∃x∈l,Ai x=false:=by
  rcases Classical.em (∃x∈l,Ai x=false) with h|h
  · exact h
  exfalso;apply hm;intro x hx
  cases hq:Ai x with
  |true=>rfl
  |false=>exact absurd ⟨x,hx,hq⟩ h
 exact Gn hx (.inr a)
theorem SD(G:Option Addr)(H:Nat)(es:List Ar)(a:Option Addr)(c:Nat)(B F:Ab)(w:World)(O:Au B (.slice a es.length c) es)(hs:Sat (B*F) w):
 Calls Tryz.prog 64 #[.agg #[.bool true,.slice a es.length c,.slice G 0 H]] w fun e d=>e= .returned (.bool (may ⟨true,es,[]⟩))∧Sat (B*F) d:=by
 have Y:Aside (Au B (.slice a es.length c) es):=O
 obtain ⟨r,s⟩:=Aq (may ⟨true,es,[]⟩)
 have J:Aside (may ⟨true,es,[]⟩=r):=s
 rw[s]
 obtain ⟨n,R⟩:=Aq es.length
 have t:Aside (es.length=n):=R
 rw[R] at O⊢
 clear O s R
 haveI:=hs.i
 by_cases h1:n<1
 · have W:n=0:=by omega
   have m:Aside (r=false):=(by
    have:es= []:=List.length_eq_zero_iff.1 (by rw[t.out,W])
    rw[←J.out,this];rfl:_=_)
   subst W
   go_enter Tryz.func64,Tryz.ntmps64
   go_wp2
   go_ret
   exact ⟨by rw[m.out];rfl,Ao B F⟩
 by_cases h2:12<n
 · have m:Aside (r=false):=(by
    rw[←J.out]
    by_cases hm: ∀x∈es,Ai x=true
    · rw[Ht (fun x hx=>⟨rfl,hm x hx⟩) (fun x hx=>by cases hx)]
      have:=t.out
      simp[Bd,Bl]
      omega
    obtain ⟨x,hx,he⟩: ∃x∈es,Ai x=false:=by
     rcases Classical.em (∃x∈es,Ai x=false) with h|h
     · exact h
     exfalso;apply hm;intro x hx
     cases hq:Ai x with
     |true=>rfl
     |false=>exact absurd ⟨x,hx,hq⟩ h
    exact Gn hx (.inr he):_=_)
   have K: ¬(n:Int)<1:=by omega
   have L:(12:Int)<n:=by omega
   go_enter Tryz.func64,Tryz.ntmps64
   go_wp2
   go_ret
   exact ⟨by rw[m.out];rfl,Ao B F⟩
 have K: ¬(n:Int)<1:=by omega
 have L: ¬(12:Int)<n:=by omega
 go_enter Tryz.func64,Tryz.ntmps64
 go_wp2_with fail
 obtain ⟨N,P⟩:=Aq w.heap.size
 have T:Sat (Sl.block N C1 [.bool true,.slice a n c,.slice G 0 H]*(B*F)) (w.alloc (.cells #[.bool true,.slice a n c,.slice G 0 H] C1)):=by
  rw[←P]
  exact ES
 try rw[P]
 generalize w.alloc (.cells #[.bool true,.slice a n c,.slice G 0 H] C1)=w0 at T⊢
 clear P hs this
 go_loopg [3,4] n (fun g t3 t4 wr=> ∃(i:Nat)(l:Int),t4= .int .i64 i∧t3= .int .i64 l∧i≤n∧0≤l∧l≤i*16777216∧Aside (g=n-i∧l=Aa (es.take i)∧ ∀x∈es.take i,E' x)∧
  Sat (Sl.block N C1 [.bool true,.slice a n c,.slice G 0 H]*(B*F)) wr)
 case atStart=>exact ⟨0,0,rfl,rfl,by omega,by omega,by omega,⟨rfl,by simp[Aa],by simp⟩,T⟩
 obtain ⟨i,l,rfl,rfl,hi,a1,a2,A,q1⟩:=hrel
 clear T
 haveI:=q1.i
 by_cases Q:i<n
 · have v:(i:Int)<n:=by omega
   obtain ⟨x,hx⟩: ∃x,es[i]?=some x:=⟨_,List.getElem?_eq_getElem (by rw[t.out];exact Q)⟩
   obtain ⟨b,o,rfl,r1,r2,r3,r4⟩:=BN Y.out hx
   have u:Aside (es[i]?=some x):=hx
   obtain ⟨I,k,j,p⟩:=x
   simp only at r1 r2 r3 r4
   have q:Aside (¬E' ⟨I,k,j,p⟩→r=false):=fun h=>J.out.symm.trans (Gn (List.mem_of_getElem? u.out) (.inr (fW h)))
   clear hx
   by_cases f:E' ⟨I,k,j,p⟩
   · have V:Aside (E' ⟨I,k,j,p⟩):=f
     unfold E' at f
     simp only at f
     obtain ⟨D,k2,k3,k4,k5,k6,k7,k8,X⟩:=f
     have hw2:=Bg (l+j) (by omega)
     have hw1:=Bg (k+j) (by omega)
     have d1:decide (k<0)=false:=decide_eq_false (by omega)
     have d2:decide (j<1)=false:=decide_eq_false (by omega)
     have d3:decide (16777216<k)=false:=decide_eq_false (by omega)
     have d4:decide (16777216<j)=false:=decide_eq_false (by omega)
     have d5:decide (16777216<k+j)=false:=decide_eq_false (by omega)
     have d6:decide (p< -1)=false:=decide_eq_false (by omega)
     have d7:decide (j<p)=false:=decide_eq_false (by omega)
     rcases D with D|D
     · obtain rfl:p= -1:=by omega
       subst D
       clear X
       go_wp2_with fail
       go_region_held3 (fun d=>d.cell? ⟨N,1,none⟩=some (.slice (some ⟨b,o,none⟩) n c)∧d.cell? ⟨b,o+i*4,none⟩=some (.int .i64 0)∧d.cell? ⟨b,o+i*4+1,none⟩=some (.int .i64 k)∧d.cell? ⟨b,o+i*4+2,none⟩=some (.int .i64 j)∧d.cell? ⟨b,o+i*4+3,none⟩=some (.int .i64 (-1))) (first|exact ⟨Ac _ _ _,Ac _ _ _,Ac _ _ _,Ac _ _ _,Ac _ _ _⟩) (fail)
       go_wp2
       go_roundg (n-(i+1))
       case measure=>have:=A.out.1;omega
       refine ⟨i+1,l+j,by go_num,rfl,by omega,by omega,by omega,⟨rfl,?_,?_⟩,AD _ B F⟩
       ·rw[BZ u.out,A.out.2.1]
       rw[AA u.out]
       intro y hy
       rcases List.mem_append.1 hy with hy|hy
       ·exact A.out.2.2 y hy
       simp at hy;subst hy;exact V.out
     subst D
     clear X
     go_wp2_with fail
     go_region_held3 (fun d=>d.cell? ⟨N,1,none⟩=some (.slice (some ⟨b,o,none⟩) n c)∧d.cell? ⟨b,o+i*4,none⟩=some (.int .i64 1)∧d.cell? ⟨b,o+i*4+1,none⟩=some (.int .i64 k)∧d.cell? ⟨b,o+i*4+2,none⟩=some (.int .i64 j)∧d.cell? ⟨b,o+i*4+3,none⟩=some (.int .i64 p)) (first|exact ⟨Ac _ _ _,Ac _ _ _,Ac _ _ _,Ac _ _ _,Ac _ _ _⟩) (fail)
     go_wp2
     go_roundg (n-(i+1))
     case measure=>have:=A.out.1;omega
     refine ⟨i+1,l+j,by go_num,rfl,by omega,by omega,by omega,⟨rfl,?_,?_⟩,AD _ B F⟩
     · rw[BZ u.out,A.out.2.1]
     rw[AA u.out]
     intro y hy
     rcases List.mem_append.1 hy with hy|hy
     · exact A.out.2.2 y hy
     simp at hy;subst hy;exact V.out
   have m:Aside (r=false):=q.out f
   have Z:Aside (¬E' ⟨I,k,j,p⟩):=f
   clear f q
   go_wp2_with fail
   go_region_held3 (fun d=>d.cell? ⟨N,1,none⟩=some (.slice (some ⟨b,o,none⟩) n c)∧d.cell? ⟨b,o+i*4,none⟩=some (.int .i64 I)∧d.cell? ⟨b,o+i*4+1,none⟩=some (.int .i64 k)∧d.cell? ⟨b,o+i*4+2,none⟩=some (.int .i64 j)∧d.cell? ⟨b,o+i*4+3,none⟩=some (.int .i64 p)) (first|exact ⟨Ac _ _ _,Ac _ _ _,Ac _ _ _,Ac _ _ _,Ac _ _ _⟩) (fail)
   all_goals go_wp2
   all_goals (try go_ret)
   all_goals first
    |exact ⟨by rw[m.out];rfl,Ao B F⟩
    |(exfalso;apply Z.out;unfold E';simp only;simp at*;omega)
 have v: ¬(i:Int)<n:=by omega
 obtain rfl:i=n:=by omega
 have hx:es.take i=es:=List.take_of_length_le (by rw[t.out];exact Nat.le_refl _)
 have U:Aside (r=decide (l≤1048576)):=(by
  have M:=A.out.2
  rw[hx] at M
  rw[←J.out,Xd M.2 (by rw[t.out];omega) (by rw[t.out];omega),M.1]:_=_)
 clear hx
 by_cases z:l≤1048576
 · have m:Aside (r=true):=U.out.trans (decide_eq_true z)
   go_wp2
   go_ret
   exact ⟨by rw[m.out];rfl,Ao B F⟩
 have m:Aside (r=false):=U.out.trans (decide_eq_false z)
 go_wp2
 go_ret
 exact ⟨by rw[m.out];rfl,Ao B F⟩
theorem Ny(es:List Ar)(a:Option Addr)(c:Nat)(B F:Ab)(w:World)(b:Au B (.slice a es.length c) es)(hs:Sat (B*F) w):
 Calls Tryz.prog 64 #[.agg #[.bool true,.slice a es.length c,.slice none 0 0]] w fun e d=>e= .returned (.bool (may ⟨true,es,[]⟩))∧Sat (B*F) d:=SD none 0 es a c B F w b hs
theorem cV(y:Ar)(a:Option Addr)(c:Nat)(B F:Ab)(w:World)(b:Au B (.slice a 1 c) [y])(hs:Sat (B*F) w):
 Calls Tryz.prog 64 #[.agg #[.bool true,.slice a 1 c,.slice none 0 0]] w fun e d=>e= .returned (.bool (Ai y))∧Sat (B*F) d:=by
 rw[←Ye]
 exact Ny [y] a c B F w b hs
end Go.Proofs.YtfhbmblbidcmmaaGreat
namespace Go.Tr
theorem Us{k:Kd} :AB k=true↔(1≤k.Ap∧k.Ap<1048576∧1≤k.bytes∧k.bytes≤1048576∧(-1≤k.lines∧k.lines≤k.bytes)∧1≤k.A7∧k.A7≤k.bytes):=by
 unfold AB
 exact decide_eq_true_iff
end Go.Tr
namespace Go.Proofs.YtfhbmblbidcmmaaGreat
open Go.RowKit Go.Sl Go.Tr Go.Dk
theorem Xc{l:List Kd}(h: ∀x∈l,AB x=true)(h1:2≤l.length)(a:l.length≤12):may ⟨false,[],l⟩=decide (Bd l≤1048576∧Bl l≤1024):=by
 rw[Ht (fun x hx=>by cases hx) (fun x hx=>⟨rfl,h x hx⟩)]
 show decide (2≤l.length∧l.length≤12∧Aa []+Bd l≤1048576∧Bl l≤1024)=_
 have e0:Aa []=0:=rfl
 exact decide_eq_decide.2 (by rw[e0];constructor<;>intro b<;>omega)
theorem R3{l:List Kd}(h:l.length<2∨12<l.length):may ⟨false,[],l⟩=false:=by
 by_cases hm: ∀x∈l,AB x=true
 · rw[Ht (fun x hx=>by cases hx) (fun x hx=>⟨rfl,hm x hx⟩)]
   simp[Aa]
   omega
 obtain ⟨x,hx,a⟩: ∃x∈l,AB x=false:=by
  rcases Classical.em (∃x∈l,AB x=false) with h|h
  · exact h
  exfalso;apply hm;intro x hx
  cases hq:AB x with
  |true=>rfl
  |false=>exact absurd ⟨x,hx,hq⟩ h
 exact Hs hx (.inr a)
theorem SC(I:Option Addr)(J:Nat)(ks:List Kd)(a:Option Addr)(c:Nat)(B F:Ab)(w:World)(R:AS B (.slice a ks.length c) ks)(hs:Sat (B*F) w):
 Calls Tryz.prog 64 #[.agg #[.bool false,.slice I 0 J,.slice a ks.length c]] w fun e w'=>e= .returned (.bool (may ⟨false,[],ks⟩))∧Sat (B*F) w':=by
 have HK:Aside (AS B (.slice a ks.length c) ks):=R
 obtain ⟨u,z⟩:=Aq (may ⟨false,[],ks⟩)
 have K:Aside (may ⟨false,[],ks⟩=u):=z
 rw[z]
 obtain ⟨n,V⟩:=Aq ks.length
 have D:Aside (ks.length=n):=V
 rw[V] at R⊢
 clear R z V
 haveI:=hs.i
 by_cases h1:n<2
 · have f:Aside (u=false):=(by rw[←K.out];exact R3 (.inl (by rw[D.out];exact h1)):_=_)
   have q:(n:Int)<2:=by omega
   have G:decide ((n:Int)<2)=true:=decide_eq_true q
   go_enter Tryz.func64,Tryz.ntmps64
   go_wp2
   go_ret
   exact ⟨by rw[f.out];rfl,Ao B F⟩
 by_cases h2:12<n
 · have f:Aside (u=false):=(by rw[←K.out];exact R3 (.inr (by rw[D.out];exact h2)):_=_)
   have q: ¬(n:Int)<2:=by omega
   have v:(12:Int)<n:=by omega
   have G:decide ((n:Int)<2)=false:=decide_eq_false q
   have Q:decide ((12:Int)<n)=true:=decide_eq_true v
   go_enter Tryz.func64,Tryz.ntmps64
   go_wp2
   go_ret
   exact ⟨by rw[f.out];rfl,Ao B F⟩
 have q: ¬(n:Int)<2:=by omega
 have v: ¬(12:Int)<n:=by omega
 have G:decide ((n:Int)<2)=false:=decide_eq_false q
 have Q:decide ((12:Int)<n)=false:=decide_eq_false v
 go_enter Tryz.func64,Tryz.ntmps64
 go_wp2_with fail
 obtain ⟨N,T⟩:=Aq w.heap.size
 have W:Sat (Sl.block N C1 [.bool false,.slice I 0 J,.slice a n c]*(B*F)) (w.alloc (.cells #[.bool false,.slice I 0 J,.slice a n c] C1)):=by
  rw[←T]
  exact ES
 try rw[T]
 generalize w.alloc (.cells #[.bool false,.slice I 0 J,.slice a n c] C1)=w0 at W⊢
 clear T hs this
 go_loopg [3,7,8] n (fun g t3 t7 t8 wr=> ∃(i:Nat)(p s:Int),t8= .int .i64 i∧t3= .int .i64 p∧t7= .int .i64 s∧i≤n∧0≤p∧p≤i*16777216∧0≤s∧s≤i*16777216∧Aside (g=n-i∧p=Bd (ks.take i)∧s=Bl (ks.take i)∧ ∀x∈ks.take i,AB x=true)∧
  Sat (Sl.block N C1 [.bool false,.slice I 0 J,.slice a n c]*(B*F)) wr)
 case atStart=>exact ⟨0,0,0,rfl,rfl,rfl,by omega,by omega,by omega,by omega,by omega,⟨rfl,by simp[Bd],by simp[Bl],by simp⟩,W⟩
 obtain ⟨i,p,s,rfl,rfl,rfl,hi,aa,ab,ac,ad,A,q1⟩:=hrel
 clear W
 haveI:=q1.i
 by_cases U:i<n
 · have H:(i:Int)<n:=by omega
   obtain ⟨x,hx⟩: ∃x,ks[i]?=some x:=⟨_,List.getElem?_eq_getElem (by rw[D.out];exact U)⟩
   obtain ⟨b,o,rfl,r1,r2,r3,r4⟩:=Co HK.out hx
   have L:Aside (ks[i]?=some x):=hx
   obtain ⟨l,d,m,k⟩:=x
   simp only at r1 r2 r3 r4
   clear hx
   by_cases j:AB ⟨l,d,m,k⟩=true
   ·have P:Aside (AB ⟨l,d,m,k⟩=true):=j
    rw[Us] at j
    simp only at j
    obtain ⟨k1,k2,k3,k4,⟨k5,k6⟩,k7,k8⟩:=j
    have hw1:=Bg (p+d) (by omega)
    have hw2:=Bg (s+k) (by omega)
    have X:decide (l<1)=false:=decide_eq_false (by omega)
    have Y:decide (1048576≤l)=false:=decide_eq_false (by omega)
    have Z:decide (d<1)=false:=decide_eq_false (by omega)
    have d4:decide (1048576<d)=false:=decide_eq_false (by omega)
    have d5:decide (m< -1)=false:=decide_eq_false (by omega)
    have d6:decide (d<m)=false:=decide_eq_false (by omega)
    have d7:decide (k<1)=false:=decide_eq_false (by omega)
    have d8:decide (d<k)=false:=decide_eq_false (by omega)
    go_wp2
    go_roundg (n-(i+1))
    case measure=>have:=A.out.1;omega
    refine ⟨i+1,p+d,s+k,by go_num,rfl,rfl,by omega,by omega,by omega,by omega,by omega,⟨rfl,?_,?_,?_⟩,AD _ B F⟩
    ·rw[GF L.out,A.out.2.1]
    ·rw[FN L.out,A.out.2.2.1]
    rw[AA L.out]
    intro y hy
    rcases List.mem_append.1 hy with hy|hy
    ·exact A.out.2.2.2 y hy
    simp at hy;subst hy;exact P.out
   have HO:Aside (AB ⟨l,d,m,k⟩≠true):=j
   have f:Aside (u=false):=K.out.symm.trans (Hs (n:=⟨false,[],ks⟩) (List.mem_of_getElem? L.out) (.inr (by simpa using j)))
   clear j
   by_cases c1:l<1
   ·have X:decide (l<1)=true:=decide_eq_true c1
    clear c1
    go_wp2
    go_ret
    exact ⟨by rw[f.out];rfl,Ao B F⟩
   have X:decide (l<1)=false:=decide_eq_false c1
   by_cases c2:1048576≤l
   ·have Y:decide (1048576≤l)=true:=decide_eq_true c2
    clear c2
    go_wp2
    go_ret
    exact ⟨by rw[f.out];rfl,Ao B F⟩
   have Y:decide (1048576≤l)=false:=decide_eq_false c2
   by_cases c3:d<1
   ·have Z:decide (d<1)=true:=decide_eq_true c3
    clear c3
    go_wp2
    go_ret
    exact ⟨by rw[f.out];rfl,Ao B F⟩
   have Z:decide (d<1)=false:=decide_eq_false c3
   by_cases c4:1048576<d
   ·have d4:decide (1048576<d)=true:=decide_eq_true c4
    clear c4
    go_wp2
    go_ret
    exact ⟨by rw[f.out];rfl,Ao B F⟩
   have d4:decide (1048576<d)=false:=decide_eq_false c4
   by_cases c5:m< -1
   ·have d5:decide (m< -1)=true:=decide_eq_true c5
    clear c5
    go_wp2
    go_ret
    exact ⟨by rw[f.out];rfl,Ao B F⟩
   have d5:decide (m< -1)=false:=decide_eq_false c5
   by_cases c6:d<m
   ·have d6:decide (d<m)=true:=decide_eq_true c6
    clear c6
    go_wp2
    go_ret
    exact ⟨by rw[f.out];rfl,Ao B F⟩
   have d6:decide (d<m)=false:=decide_eq_false c6
   by_cases c7:k<1
   ·have d7:decide (k<1)=true:=decide_eq_true c7
    clear c7
    go_wp2
    go_ret
    exact ⟨by rw[f.out];rfl,Ao B F⟩
   have d7:decide (k<1)=false:=decide_eq_false c7
   by_cases c8:d<k
   ·have d8:decide (d<k)=true:=decide_eq_true c8
    clear c8
    go_wp2
    go_ret
    exact ⟨by rw[f.out];rfl,Ao B F⟩
   have d8:decide (d<k)=false:=decide_eq_false c8
   exact absurd (Us.2 (by show 1≤l∧l<1048576∧1≤d∧d≤1048576∧(-1≤m∧m≤d)∧1≤k∧k≤d;omega)) HO.out
 have H: ¬(i:Int)<n:=by omega
 obtain rfl:i=n:=by omega
 have hx:ks.take i=ks:=List.take_of_length_le (by rw[D.out];exact Nat.le_refl _)
 have O:Aside (u=decide (p≤1048576∧s≤1024)):=(by
  have M:=A.out.2
  rw[hx] at M
  rw[←K.out,Xc M.2.2 (by rw[D.out];omega) (by rw[D.out];omega),M.1,M.2.1]:_=_)
 clear hx
 by_cases r:p≤1048576
 · by_cases t:s≤1024
   ·have f:Aside (u=true):=O.out.trans (decide_eq_true ⟨r,t⟩)
    have e1:decide (p≤1048576)=true:=decide_eq_true r
    have e2:decide (s≤1024)=true:=decide_eq_true t
    go_wp2
    go_ret
    exact ⟨by rw[f.out];rfl,Ao B F⟩
   have f:Aside (u=false):=O.out.trans (decide_eq_false fun h=>t h.2)
   have e1:decide (p≤1048576)=true:=decide_eq_true r
   have e2:decide (s≤1024)=false:=decide_eq_false t
   go_wp2
   go_ret
   exact ⟨by rw[f.out];rfl,Ao B F⟩
 have f:Aside (u=false):=O.out.trans (decide_eq_false fun h=>r h.1)
 have e1:decide (p≤1048576)=false:=decide_eq_false r
 go_wp2
 go_ret
 exact ⟨by rw[f.out];rfl,Ao B F⟩
theorem UJ(ks:List Kd)(a:Option Addr)(c:Nat)(B F:Ab)(w:World)(b:AS B (.slice a ks.length c) ks)(hs:Sat (B*F) w):
 Calls Tryz.prog 64 #[.agg #[.bool false,.slice none 0 0,.slice a ks.length c]] w fun e d=>e= .returned (.bool (may ⟨false,[],ks⟩))∧Sat (B*F) d:=SC none 0 ks a c B F w b hs
theorem byte_at{B F:Ab}{w:World}{a:Option Addr}{n c:Nat}{l:List UInt8}(h:Reads B (.slice a n c) l)(hs:Sat (B*F) w){q:Nat}{x:UInt8}(hq:l[q]?=some x): ∃b o,a=some ⟨b,o,none⟩∧Mm B b (o+q) (.int .u8 x.toNat):=by
 obtain ⟨b,o,e,_⟩:=(h F w hs).at hq
 refine ⟨b,o,e,⟨fun G g d=>?_⟩⟩
 obtain ⟨b',o',e',f⟩:=(h G g d).at hq
 rw[e] at e'
 cases e'
 exact f
theorem SH(kind:Int)(v:Value)(B F:Ab)(w:World)(a:Reads B v [])(hs:Sat (B*F) w):
 Calls Tryz.prog 156 #[.int .i64 kind,v] w (IX B F (Hb,4)):=by
 obtain ⟨d,e,rfl,b,c⟩:=(a F w hs).len
 haveI:=hs.i
 have e0:([]:List UInt8).length=0:=rfl
 rw[e0]
 go_enter Tryz.func156,Tryz.ntmps156
 go_wp2
 go_returns
 exact F4 (Ao B F)
theorem J5(kind:Int)(x:UInt8)(rest:List UInt8)(v:Value)(B F:Ab)(w:World)(a:Reads B v (x::rest))(hs:Sat (B*F) w)(hl:rest.length≤1048576)(h1: ¬(kind=1∧rest.length=x.toNat*13))(k: ¬(kind=2∧rest.length=x.toNat*16)):
 Calls Tryz.prog 156 #[.int .i64 kind,v] w (IX B F (Hb,4)):=by
 obtain ⟨j,b,rfl,g,y⟩:=(a F w hs).len
 obtain ⟨i0,E⟩:=D3
 haveI:=hs.i
 have hx:=x.toNat_lt
 obtain ⟨m,hm⟩:=Aq x.toNat
 obtain ⟨n,e⟩:=Aq rest.length
 rw[List.length_cons,e] at a g⊢
 rw[e] at hl h1 k
 have D:Aside (x.toNat=m):=hm
 rw[hm] at h1 k hx
 have z:Aside (Reads B (.slice j (n+1) b) (x::rest)):=a
 have u: ∀w,(Instr.sliceAt 26 (.slice j (n+1) b) (some (.int .i64 1)) none none).run Tryz.prog w= .ok (.slice (AK j b 1 1) n (b-1)) w:=fun w=>E7 E 1 (by omega) w
 obtain ⟨b2,I,t,c⟩:=byte_at a hs (q:=0) (x:=x) rfl
 rw[Nat.add_zero,hm] at c
 subst t
 have d: ¬((n:Int)+1<1):=by omega
 have l:13*(m:Int)≤3315:=by omega
 have o:16*(m:Int)≤4080:=by omega
 clear a e hm
 by_cases r:kind=1
 ·subst r
  have f:((n:Int)==13*(m:Int))=false:=by simp;omega
  have p: ¬((n:Int)=13*(m:Int)):=by omega
  go_enter Tryz.func156,Tryz.ntmps156
  go_wp2
  try rw[Exit.noGoto_ret]
  go_returns
  exact F4 (Ao B F)
 by_cases s:kind=2
 ·subst s
  have f:((n:Int)==16*(m:Int))=false:=by simp;omega
  go_enter Tryz.func156,Tryz.ntmps156
  go_wp2
  try rw[Exit.noGoto_ret]
  go_returns
  exact F4 (Ao B F)
 have G:(kind==1)=false:=by simpa using r
 have H:(kind==2)=false:=by simpa using s
 go_enter Tryz.func156,Tryz.ntmps156
 go_wp2
 try rw[Exit.noGoto_ret]
 go_returns
 exact F4 (Ao B F)
theorem WL(n:Nd)(v:Value)(B F:Ab)(w:World)(H:AJ B v n)(P:Eu n)(hs:Sat (B*F) w):
 Calls Tryz.prog 127 #[v] w fun e w'=>e= .returned (.tuple #[.int .i64 (Gu n).1,.int .i64 (Gu n).2.1,.int .i64 (Gu n).2.2])∧Sat (B*F) w':=by
 obtain ⟨vE,vK,rfl,U,V⟩:=H
 obtain ⟨aE,cE,rfl,_⟩:=Aj.v U
 obtain ⟨u,y,rfl,_⟩:=Aj.v V
 have HE:Aside (Au B (.slice aE n.Ag.length cE) n.Ag):=U
 have HK:Aside (AS B (.slice u n.kids.length y) n.kids):=V
 have HO:Aside (Eu n):=P
 have h1:=P.e
 have h2:=P.k
 obtain ⟨le,r⟩:=Aq n.Ag.length
 obtain ⟨lk,s⟩:=Aq n.kids.length
 have q:Aside (n.Ag.length=le):=r
 have D:Aside (n.kids.length=lk):=s
 obtain ⟨Z,t⟩:=Aq (Gu n)
 have HR:Aside (Gu n=Z):=t
 rw[t]
 rw[r] at h1⊢
 rw[s] at h2⊢
 clear U V P r s t
 obtain ⟨lf,I⟩:=Aq n.leaf
 rw[I]
 clear I
 haveI:=hs.i
 go_enter Tryz.func127,Tryz.ntmps127
 go_wp2_with fail
 obtain ⟨N,H⟩:=Aq w.heap.size
 have X:Sat (Sl.block N C1 [.bool lf,.slice aE le cE,.slice u lk y]*(B*F)) (w.alloc (.cells #[.bool lf,.slice aE le cE,.slice u lk y] C1)):=by
  rw[←H]
  exact ES
 try rw[H]
 generalize w.alloc (.cells #[.bool lf,.slice aE le cE,.slice u lk y] C1)=w0 at X⊢
 clear H hs this
 haveI:=X.i
 go_region
 go_wp2_with fail
 go_loopg [5,6,8] le (fun g t5 t6 t8 wr=> ∃(i:Nat)(a L:Int),t8= .int .i64 i∧t5= .int .i64 a∧t6= .int .i64 L∧i≤le∧0≤a∧a≤i*1048576∧ -1099511627777≤L∧L≤i*1048576∧Aside (g=le-i∧a=Aa (n.Ag.take i)∧L=Ko ((n.Ag.take i).map (·.lines)) 0)∧
  Sat (Sl.block N C1 [.bool lf,.slice aE le cE,.slice u lk y]*(B*F)) wr)
 case atStart=>exact ⟨0,0,0,rfl,rfl,rfl,by omega,by omega,by omega,by omega,by omega,⟨rfl,by simp[Aa],by simp[Ko]⟩,Av (by ac_rfl)⟩
 obtain ⟨i,a,L,rfl,rfl,rfl,hi,ae,af,ag,ah,A,q1⟩:=hrel
 clear X
 haveI:=q1.i
 by_cases l:i<le
 · have c:(i:Int)<le:=by omega
   obtain ⟨x,hx⟩: ∃x,n.Ag[i]?=some x:=⟨_,List.getElem?_eq_getElem (by rw[q.out];exact l)⟩
   obtain ⟨b,o,rfl,r1,J,K,Y⟩:=BN HE.out hx
   have HX:Aside (n.Ag[i]?=some x):=hx
   have hb:=HO.out.es x (List.mem_of_getElem? hx)
   have G:Aside (Aa (n.Ag.take (i+1))=a+x.len):=(by rw[BZ hx,A.out.2.1]:_=_)
   have z:Aside (Ko ((n.Ag.take (i+1)).map (·.lines)) 0=(if x.lines<0 then-1099511627776 else L)+x.lines):=(by rw[Ya (fun e:Ar=>e.lines) hx,A.out.2.2]:_=_)
   obtain ⟨x1,Q,m,p⟩:=x
   simp only at r1 J K Y hb
   clear hx
   have hw1:=Bg (a+m) (by omega)
   by_cases W:p<0
   ·have hw2:=Bg (-1099511627776+p) (by omega)
    go_wp2
    go_roundg (le-(i+1))
    case measure=>have:=A.out.1;omega
    refine ⟨i+1,a+m,-1099511627776+p,by go_num,rfl,rfl,by omega,by omega,by omega,by omega,by omega,⟨rfl,G.out.symm,?_⟩,Av (by ac_rfl)⟩
    rw[z.out,if_pos W]
   have hw2:=Bg (L+p) (by omega)
   go_wp2
   go_roundg (le-(i+1))
   case measure=>have:=A.out.1;omega
   refine ⟨i+1,a+m,L+p,by go_num,rfl,rfl,by omega,by omega,by omega,by omega,by omega,⟨rfl,G.out.symm,?_⟩,Av (by ac_rfl)⟩
   rw[z.out,if_neg (by omega)]
 have c: ¬(i:Int)<le:=by omega
 obtain rfl:i=le:=by omega
 have hx:n.Ag.take i=n.Ag:=List.take_of_length_le (by rw[q.out];exact Nat.le_refl _)
 have R:Aside (a=Aa n.Ag∧L=Ko (n.Ag.map (·.lines)) 0):=(by have:=A.out.2;rw[hx] at this;exact this:_∧_)
 clear A hx l
 go_wp2_with fail
 go_loopg [5,6,7,9] lk (fun g t5 t6 t7 t9 wr=> ∃(j:Nat)(d M f:Int),t9= .int .i64 j∧t5= .int .i64 d∧t6= .int .i64 M∧t7= .int .i64 f∧j≤lk∧0≤d∧d≤12582912+j*1048576∧ -1099511627777≤M∧M≤12582912+j*1048576∧0≤f∧f≤12+j*1048576∧Aside (g=lk-j∧d=a+Bd (n.kids.take j)∧M=Ko ((n.kids.take j).map (·.lines)) L∧f=i+Bl (n.kids.take j))∧
  Sat (Sl.block N C1 [.bool lf,.slice aE i cE,.slice u lk y]*(B*F)) wr)
 case atStart=>exact ⟨0,a,L,i,rfl,rfl,rfl,rfl,by omega,by omega,by omega,by omega,by omega,by omega,by omega,⟨rfl,by simp[Bd],by simp[Ko],by simp[Bl]⟩,Av (by ac_rfl)⟩
 obtain ⟨j,d,M,f,rfl,rfl,rfl,rfl,hj,ai,aj,ak,al,am,an,A,q2⟩:=hrel
 clear q1
 haveI:=q2.i
 by_cases l:j<lk
 · have c:(j:Int)<lk:=by omega
   obtain ⟨x,hx⟩: ∃x,n.kids[j]?=some x:=⟨_,List.getElem?_eq_getElem (by rw[D.out];exact l)⟩
   obtain ⟨b,o,rfl,r1,J,K,Y⟩:=Co HK.out hx
   have HX:Aside (n.kids[j]?=some x):=hx
   have hb:=HO.out.ks x (List.mem_of_getElem? hx)
   have G:Aside (a+Bd (n.kids.take (j+1))=d+x.bytes):=(by rw[GF hx,A.out.2.1];omega:_=_)
   have HC:Aside ((i:Int)+Bl (n.kids.take (j+1))=f+x.A7):=(by rw[FN hx,A.out.2.2.2];omega:_=_)
   have z:Aside (Ko ((n.kids.take (j+1)).map (·.lines)) L=(if x.lines<0 then-1099511627776 else M)+x.lines):=(by rw[Ya (fun e:Kd=>e.lines) hx,A.out.2.2.1]:_=_)
   obtain ⟨x1,Q,m,p⟩:=x
   simp only at r1 J K Y hb
   clear hx
   have hw1:=Bg (d+Q) (by omega)
   have hw3:=Bg (f+p) (by omega)
   by_cases W:m<0
   ·have hw2:=Bg (-1099511627776+m) (by omega)
    go_wp2
    go_roundg (lk-(j+1))
    case measure=>have:=A.out.1;omega
    refine ⟨j+1,d+Q,-1099511627776+m,f+p,by go_num,rfl,rfl,rfl,by omega,by omega,by omega,by omega,by omega,by omega,by omega,⟨rfl,G.out.symm,?_,HC.out.symm⟩,Av (by ac_rfl)⟩
    rw[z.out,if_pos W]
   have hw2:=Bg (M+m) (by omega)
   go_wp2
   go_roundg (lk-(j+1))
   case measure=>have:=A.out.1;omega
   refine ⟨j+1,d+Q,M+m,f+p,by go_num,rfl,rfl,rfl,by omega,by omega,by omega,by omega,by omega,by omega,by omega,⟨rfl,G.out.symm,?_,HC.out.symm⟩,Av (by ac_rfl)⟩
   rw[z.out,if_neg (by omega)]
 have c: ¬(j:Int)<lk:=by omega
 obtain rfl:j=lk:=by omega
 have hx:n.kids.take j=n.kids:=List.take_of_length_le (by rw[D.out];exact Nat.le_refl _)
 have HG:Aside (Z=(d,max M (-1),f)):=(by
  have O:=A.out.2
  rw[hx] at O
  rw[←HR.out]
  unfold Gu
  rw[O.1,O.2.1,O.2.2,←R.out.1,←R.out.2,q.out]:_=_)
 obtain ⟨r1,J,K⟩:=Z
 have T:Aside (r1=d∧J=max M (-1)∧K=f):=(by have:=HG.out;simp only[Prod.mk.injEq] at this;exact this:_∧_∧_)
 clear HG HR A R hx
 go_wp2
 go_returns
 obtain ⟨e1,e2,e3⟩:=T.out
 subst e1 e2 e3
 exact ⟨rfl,Ao B F⟩
theorem SG(x:UInt8)(rest:List UInt8)(v:Value)(B F:Ab)(w:World)(Y:Reads B v (x::rest))(hs:Sat (B*F) w)(r:rest.length=x.toNat*13):
 Calls Tryz.prog 156 #[.int .i64 1,v] w (IX B F (if may ⟨true,FJ x.toNat rest,[]⟩ then (⟨true,FJ x.toNat rest,[]⟩,0) else (Hb,4))):=by
 obtain ⟨va,O,rfl,b5,bw⟩:=(Y F w hs).len
 obtain ⟨iB,W⟩:=D3
 obtain ⟨i0,E⟩:=EW
 haveI:=hs.i
 have hx:=x.toNat_lt
 have j:Reads B (.slice (AK va O 1 1) rest.length (O-1)) rest:=by
  have J:=Reads.from Y 1 (by simp)
  simpa using J
 obtain ⟨m,hm⟩:=Aq x.toNat
 obtain ⟨n,hn⟩:=Aq rest.length
 rw[List.length_cons,hn] at Y b5⊢
 rw[hn] at r j
 rw[hm] at r hx⊢
 obtain ⟨rr,T⟩:=Aq (if may ⟨true,FJ m rest,[]⟩ then ((⟨true,FJ m rest,[]⟩:Nd),(0:Int)) else (Hb,4))
 have ap:Aside ((if may ⟨true,FJ m rest,[]⟩ then ((⟨true,FJ m rest,[]⟩:Nd),(0:Int)) else (Hb,4))=rr):=T
 rw[T]
 clear T
 have a0: ∀w,(Instr.sliceAt 26 (.slice va (n+1) O) (some (.int .i64 1)) none none).run Tryz.prog w= .ok (.slice (AK va O 1 1) n (O-1)) w:=fun w=>E7 W 1 (by omega) w
 obtain ⟨b2,o2,e5,av⟩:=byte_at Y hs (q:=0) (x:=x) rfl
 rw[Nat.add_zero,hm] at av
 subst e5
 obtain ⟨V,a6⟩:=Aq (AK (some ⟨b2,o2,none⟩) O 1 1)
 rw[a6] at a0 j
 have z:Aside (Reads B (.slice V n (O-1)) rest∧rest.length=n∧n≤O-1∧n=m*13):=⟨j,hn,by omega,r⟩
 have az: ¬((n:Int)+1<1):=by omega
 have ba:13*(m:Int)≤3315:=by omega
 have bt:((n:Int)==13*(m:Int))=true:=by simp;omega
 have b0:(n:Int)=13*(m:Int):=by omega
 obtain ⟨H,ax⟩:=Aq (O-1)
 rw[ax] at a0 z
 clear Y hn hm j a6 r b0
 go_enter Tryz.func156,Tryz.ntmps156
 go_wp2_with fail
 obtain ⟨N,hN⟩:=Aq w.heap.size
 have q0:Sat (Sl.block (N+1) C1 [.bool true,.slice none 0 0,.slice none 0 0]*(Sl.block N C1 [.bool false,.slice none 0 0,.slice none 0 0]*(B*F))) ((w.alloc (.cells #[.bool false,.slice none 0 0,.slice none 0 0] C1)).alloc (.cells #[.bool true,.slice none 0 0,.slice none 0 0] C1)):=by
  rw[←hN]
  exact Av (by ac_rfl)
 rw[hN]
 generalize ((w.alloc (.cells #[.bool false,.slice none 0 0,.slice none 0 0] C1)).alloc (.cells #[.bool true,.slice none 0 0,.slice none 0 0] C1))=w0 at q0⊢
 clear hN hs this
 go_loopg [9] m (fun g t9 wr=> ∃(i:Nat)(aE:Option Addr)(cE:Nat),t9= .int .i64 i∧i≤m∧Aside (g=m-i)∧
  Sat (rw AG 4 (.slice aE i cE) (AO (FJ i rest))*(Sl.block (N+1) C1 [.bool true,.slice aE i cE,.slice none 0 0]*(Sl.block N C1 [.bool false,.slice none 0 0,.slice none 0 0]*(B*F)))) wr)
 case atStart=>
  exact ⟨0,none,0,rfl,by omega,(rfl:_=_),Sat.AE q0⟩
 obtain ⟨i,aE,cE,rfl,hi,A,k⟩:=hrel
 haveI:=k.i
 clear q0
 by_cases bv:i<m
 · have a7:(i:Int)<m:=by omega
   obtain ⟨p,hp⟩:=Aq (13*i)
   obtain ⟨U,b1⟩:=Aq (p+13)
   have ab:U≤n:=by have:=z.out.2.2.2;omega
   have a8:n≤H:=z.out.2.2.1
   have hw1:IntKind.i64.wrap (13*(i:Int))=(p:Int):=(IntWalk.i64_in _ (by omega)).trans (by omega)
   have hw2:IntKind.i64.wrap ((p:Int)+13)=(U:Int):=(IntWalk.i64_in _ (by omega)).trans (by omega)
   have aw: ∀w,(Instr.sliceAt 26 (.slice V n H) (some (.int .i64 p)) (some (.int .i64 U)) none).run Tryz.prog w= .ok (.slice (AK V H p 1) 13 (H-p)) w:=fun w=>by
    have J:=DN (P:=Tryz.prog) W (a:=V) (n:=n) (c:=H) p U (by omega) (by omega) w
    rw[show U-p=13 by omega] at J
    exact J
   have o:Reads B (.slice (AK V H p 1) 13 (H-p)) ((rest.drop p).take 13):=fun F w h=>by
    have J:=(z.out.1 F w h).cut p U (by omega) ab
    rw[show U-p=13 by omega] at J
    exact J
   obtain ⟨pc,M⟩:=Aq ((rest.drop p).take 13)
   have b3:pc.length=13:=by rw[←M,List.length_take,List.length_drop,z.out.2.1];omega
   have HY:Aside (AO (FJ (i+1) rest)=AO (FJ i rest)++Dw (ue pc)):=(by rw[V2,hp,M];simp[AO]:_=_)
   rw[M] at o
   obtain ⟨I,a5⟩:=Aq (AK V H p 1)
   obtain ⟨d,a4⟩:=Aq (H-p)
   rw[a5,a4] at o aw
   have ay:13≤d:=by omega
   obtain ⟨x0,G⟩: ∃x0,pc[0]?=some x0:=⟨pc[0]'(by omega),by simp⟩
   have rA:Reads B (.slice (AK I d 1 1) 4 (d-1)) ((pc.drop 1).take 4):=fun F w h=>(o F w h).cut 1 5 (by omega) (by omega)
   have rB:Reads B (.slice (AK I d 5 1) 4 (d-5)) ((pc.drop 5).take 4):=fun F w h=>(o F w h).cut 5 9 (by omega) (by omega)
   have rC:Reads B (.slice (AK I d 9 1) 4 (d-9)) ((pc.drop 9).take 4):=fun F w h=>(o F w h).cut 9 13 (by omega) (by omega)
   have hA: ∀w,(Instr.sliceAt 26 (.slice I 13 d) (some (.int .i64 1)) (some (.int .i64 5)) none).run Tryz.prog w= .ok (.slice (AK I d 1 1) 4 (d-1)) w:=fun w=>DN W 1 5 (by omega) (by omega) w
   have aq: ∀w,(Instr.sliceAt 26 (.slice I 13 d) (some (.int .i64 5)) (some (.int .i64 9)) none).run Tryz.prog w= .ok (.slice (AK I d 5 1) 4 (d-5)) w:=fun w=>DN W 5 9 (by omega) (by omega) w
   have hC: ∀w,(Instr.sliceAt 26 (.slice I 13 d) (some (.int .i64 9)) (some (.int .i64 13)) none).run Tryz.prog w= .ok (.slice (AK I d 9 1) 4 (d-9)) w:=fun w=>DN W 9 13 (by omega) (by omega) w
   have nA:=fun F w q=>Ef _ _ B F w rA q (by simp;omega)
   have nB:=fun F w q=>Ef _ _ B F w rB q (by simp;omega)
   have nC:=fun F w q=>Ef _ _ B F w rC q (by simp;omega)
   have b:ue pc=⟨(x0.toNat:Int),i4 (BX ((pc.drop 1).take 4)),i4 (BX ((pc.drop 5).take 4)),i4 (BX ((pc.drop 9).take 4))⟩:=by
    have J:BX (pc.take 1)=x0.toNat:=by
     cases pc with
     |nil=>simp at G
     |cons y l=>simp at G;subst G;exact jM _
    unfold ue
    rw[J]
   obtain ⟨y2,hy2⟩:=Aq (i4 (BX ((pc.drop 1).take 4)))
   obtain ⟨y3,hy3⟩:=Aq (i4 (BX ((pc.drop 5).take 4)))
   obtain ⟨y4,hy4⟩:=Aq (i4 (BX ((pc.drop 9).take 4)))
   rw[hy2] at nA b
   rw[hy3] at nB b
   rw[hy4] at nC b
   rw[b] at HY
   have hq:=k.take B
   obtain ⟨bb,oo,e6,au⟩:=byte_at o hq G
   rw[Nat.add_zero] at au
   subst e6
   obtain ⟨cA,a1⟩:=Aq (AK (some ⟨bb,oo,none⟩) d 1 1)
   obtain ⟨cB,a2⟩:=Aq (AK (some ⟨bb,oo,none⟩) d 5 1)
   obtain ⟨cC,a3⟩:=Aq (AK (some ⟨bb,oo,none⟩) d 9 1)
   rw[a1] at hA nA
   rw[a2] at aq nB
   rw[a3] at hC nC
   have NA:Aside (∀(F:Ab)(w:World),Sat (B*F) w→Calls Tryz.prog 179 #[.slice cA 4 (d-1)] w fun e f=>e= .returned (.int .i64 y2)∧w=f):=nA
   have NB:Aside (∀(F:Ab)(w:World),Sat (B*F) w→Calls Tryz.prog 179 #[.slice cB 4 (d-5)] w fun e f=>e= .returned (.int .i64 y3)∧w=f):=nB
   have NC:Aside (∀(F:Ab)(w:World),Sat (B*F) w→Calls Tryz.prog 179 #[.slice cC 4 (d-9)] w fun e f=>e= .returned (.int .i64 y4)∧w=f):=nC
   have bd:=x0.toNat_lt
   have bx:IntKind.i64.wrap (x0.toNat:Int)=(x0.toNat:Int):=IntWalk.i64_in _ (by omega)
   clear nA nB nC rA rB rC o b hy2 hy3 hy4 a1 a2 a3 hq G a5 a4 M b3 hp b1 ab a8
   have bu:i≤255:=by omega
   go_upto_region 12 with (fail)
   refine Dr.Ii (fun f=>f.cell? ⟨N+1,1,none⟩=some (.slice aE i cE)∧f.cell? ⟨bb,oo,none⟩=some (.int .u8 x0.toNat)) [19,20] (by kernel_rfl) ⟨Ac _ _ _,Ac _ _ _⟩ (fun D=>?_)
   refine Dr.AL 0 (v:=?v0) (by simp only[List.getElem?_toArray,List.getElem?_cons_succ,List.getElem?_cons_zero];rfl) (by kernel_rfl) ?hQ0 (.inl ⟨?hw0,fun f=>?hy0⟩) ?_
   case hy0=>go_simp;try (with_reducible rfl)
   case hQ0=>exact fun _ _ _ h=>h
   case hw0=>rfl
   simp only[Act.put,List.setIfInBounds_toArray,List.set_cons_zero,List.set_cons_succ]
   refine Dr.Fh 1 (v:=?v1) (by simp only[List.getElem?_toArray,List.getElem?_cons_succ,List.getElem?_cons_zero];rfl) (by kernel_rfl) ?hQ1 (.inl ⟨?hw1,fun f hw=>?hy1⟩) D ?_
   case hy1=>(try dsimp only at hw);go_simp;try (with_reducible rfl)
   case hQ1=>exact fun _ _ _ h=>h
   case hw1=>rfl
   simp only[Act.put,List.setIfInBounds_toArray,List.set_cons_zero,List.set_cons_succ]
   refine Dr.AL 2 (v:=?v2) (by simp only[List.getElem?_toArray,List.getElem?_cons_succ,List.getElem?_cons_zero];rfl) (by kernel_rfl) ?hQ2 (.inl ⟨?hw2,fun f=>?hy2⟩) ?_
   case hy2=>go_simp;try (with_reducible rfl)
   case hQ2=>exact fun _ _ _ h=>h
   case hw2=>rfl
   simp only[Act.put,List.setIfInBounds_toArray,List.set_cons_zero,List.set_cons_succ]
   refine Dr.AL 3 (v:=?v3) (by simp only[List.getElem?_toArray,List.getElem?_cons_succ,List.getElem?_cons_zero];rfl) (by kernel_rfl) ?hQ3 (.inl ⟨?hw3,fun f=>?hy3⟩) ?_
   case hy3=>go_simp;try (with_reducible rfl)
   case hQ3=>exact fun _ _ _ h=>h
   case hw3=>rfl
   simp only[Act.put,List.setIfInBounds_toArray,List.set_cons_zero,List.set_cons_succ]
   refine Dr.Fh 4 (v:=?v4) (by simp only[List.getElem?_toArray,List.getElem?_cons_succ,List.getElem?_cons_zero];rfl) (by kernel_rfl) ?hQ4 (.inl ⟨?hw4,fun f hw=>?hy4⟩) D ?_
   case hy4=>(try dsimp only at hw);go_simp;try (with_reducible rfl)
   case hQ4=>exact fun _ _ _ h=>h
   case hw4=>rfl
   simp only[Act.put,List.setIfInBounds_toArray,List.set_cons_zero,List.set_cons_succ]
   refine Dr.AL 5 (v:=?v5) (by simp only[List.getElem?_toArray,List.getElem?_cons_succ,List.getElem?_cons_zero];rfl) (by kernel_rfl) ?hQ5 (.inl ⟨?hw5,fun f=>?hy5⟩) ?_
   case hy5=>go_simp;try (with_reducible rfl)
   case hQ5=>exact fun _ _ _ h=>h
   case hw5=>rfl
   simp only[Act.put,List.setIfInBounds_toArray,List.set_cons_zero,List.set_cons_succ]
   refine Dr.AL 6 (v:=?v6) (by simp only[List.getElem?_toArray,List.getElem?_cons_succ,List.getElem?_cons_zero];rfl) (by kernel_rfl) ?hQ6 (.inl ⟨?hw6,fun f=>?hy6⟩) ?_
   case hy6=>go_simp;try (with_reducible rfl)
   case hQ6=>exact fun _ _ _ h=>h
   case hw6=>rfl
   simp only[Act.put,List.setIfInBounds_toArray,List.set_cons_zero,List.set_cons_succ]
   refine Dr.AL 7 (v:=?v7) (by simp only[List.getElem?_toArray,List.getElem?_cons_succ,List.getElem?_cons_zero];rfl) (by kernel_rfl) ?hQ7 (.inl ⟨?hw7,fun f=>?hy7⟩) ?_
   case hy7=>go_simp;try (with_reducible rfl)
   case hQ7=>exact fun _ _ _ h=>h
   case hw7=>rfl
   simp only[Act.put,List.setIfInBounds_toArray,List.set_cons_zero,List.set_cons_succ]
   refine Dr.AL 9 (v:=?v9) (by simp only[List.getElem?_toArray,List.getElem?_cons_succ,List.getElem?_cons_zero];rfl) (by kernel_rfl) ?hQ9 (.inl ⟨?hw9,fun f=>?hy9⟩) ?_
   case hy9=>go_simp;try (with_reducible rfl)
   case hQ9=>exact fun _ _ _ h=>h
   case hw9=>rfl
   simp only[Act.put,List.setIfInBounds_toArray,List.set_cons_zero,List.set_cons_succ]
   refine Dr.AL 10 (v:=?v10) (by simp only[List.getElem?_toArray,List.getElem?_cons_succ,List.getElem?_cons_zero];rfl) (by kernel_rfl) ?hQ10 (.inl ⟨?hw10,fun f=>?hy10⟩) ?_
   case hy10=>go_simp;try (with_reducible rfl)
   case hQ10=>exact fun _ _ _ h=>h
   case hw10=>rfl
   simp only[Act.put,List.setIfInBounds_toArray,List.set_cons_zero,List.set_cons_succ]
   refine Dr.AL 13 (v:=?v13) (by simp only[List.getElem?_toArray,List.getElem?_cons_succ,List.getElem?_cons_zero];rfl) (by kernel_rfl) ?hQ13 (.inl ⟨?hw13,fun f=>?hy13⟩) ?_
   case hy13=>go_simp;try (with_reducible rfl)
   case hQ13=>exact fun _ _ _ h=>h
   case hw13=>rfl
   simp only[Act.put,List.setIfInBounds_toArray,List.set_cons_zero,List.set_cons_succ]
   refine Dr.AL 14 (v:=?v14) (by simp only[List.getElem?_toArray,List.getElem?_cons_succ,List.getElem?_cons_zero];rfl) (by kernel_rfl) ?hQ14 (.inl ⟨?hw14,fun f=>?hy14⟩) ?_
   case hy14=>go_simp;try (with_reducible rfl)
   case hQ14=>exact fun _ _ _ h=>h
   case hw14=>rfl
   simp only[Act.put,List.setIfInBounds_toArray,List.set_cons_zero,List.set_cons_succ]
   refine Dr.CC 8 (by simp only[List.getElem?_toArray,List.getElem?_cons_succ,List.getElem?_cons_zero];rfl) (by kernel_rfl) ?_
   go_wp2_with ((go_simp;go_at_call 179;with_reducible refine Calls.mono (NA.out _ _ (Ae B)) ?_;rintro e w7 ⟨rfl,rfl⟩))
   refine Dr.C9 ⟨⟨Ac _ _ _,Ac _ _ _⟩,?_⟩
   refine Dr.CC 11 (by simp only[List.getElem?_toArray,List.getElem?_cons_succ,List.getElem?_cons_zero];rfl) (by kernel_rfl) ?_
   go_wp2_with ((go_simp;go_at_call 179;with_reducible refine Calls.mono (NB.out _ _ (Ae B)) ?_;rintro e w7 ⟨rfl,rfl⟩))
   refine Dr.C9 ⟨⟨Ac _ _ _,Ac _ _ _⟩,?_⟩
   refine Dr.AL 12 (v:=?v12) (by simp only[List.getElem?_toArray,List.getElem?_cons_succ,List.getElem?_cons_zero];rfl) (by kernel_rfl) ?hQ12 (.inl ⟨?hw12,fun f=>?hy12⟩) ?_
   case hy12=>go_simp;try (with_reducible rfl)
   case hQ12=>exact fun _ _ _ h=>h
   case hw12=>rfl
   simp only[Act.put,List.setIfInBounds_toArray,List.set_cons_zero,List.set_cons_succ]
   refine Dr.CC 15 (by simp only[List.getElem?_toArray,List.getElem?_cons_succ,List.getElem?_cons_zero];rfl) (by kernel_rfl) ?_
   go_wp2_with ((go_simp;go_at_call 179;with_reducible refine Calls.mono (NC.out _ _ (Ae B)) ?_;rintro e w7 ⟨rfl,rfl⟩))
   refine Dr.C9 ⟨⟨Ac _ _ _,Ac _ _ _⟩,?_⟩
   refine Dr.CC 16 (by simp only[List.getElem?_toArray,List.getElem?_cons_succ,List.getElem?_cons_zero];rfl) (by kernel_rfl) ?_
   go_wp2_with (fail)
   refine Dr.C9 ⟨⟨Ac _ _ _,Ac _ _ _⟩,?_⟩
   refine Dr.CC 17 (by simp only[List.getElem?_toArray,List.getElem?_cons_succ,List.getElem?_cons_zero];rfl) (by kernel_rfl) ?_
   go_wp2_with (fail)
   refine Dr.C9 ⟨⟨Ac _ _ _,Ac _ _ _⟩,?_⟩
   refine Dr.CC 18 (by simp only[List.getElem?_toArray,List.getElem?_cons_succ,List.getElem?_cons_zero];rfl) (by kernel_rfl) ?_
   go_wp2_with (at_builtin;refine Af E rfl (.tmp 46) (.tmp 62) rfl rfl rfl (Ae (rw AG 4 (.slice aE i cE) (AO (FJ i rest)))) (Src.new (e:=AG) (s:=4) (vs:= [.int .i64 (x0.toNat:Int),.int .i64 y2,.int .i64 y3,.int .i64 y4]) (Ae (Sl.block _ AG [.int .i64 (x0.toNat:Int),.int .i64 y2,.int .i64 y3,.int .i64 y4])) rfl (by intro u hu;simp at hu;rcases hu with rfl|rfl|rfl|rfl<;>rfl)) (by unfold maxLen;omega) (by omega) ?_;intro a9 c9 w9 b4 aa;clear aa;haveI:=b4.i)
   refine Dr.C9 ⟨⟨Ac _ _ _,Ac _ _ _⟩,?_⟩
   refine Dr.JO [19,20] (os:= [_,_]) (by decide) (by simp only[List.map_cons,List.map_nil,List.getElem?_toArray,List.getElem?_cons_succ,List.getElem?_cons_zero];rfl) (by kernel_rfl) ?_
   go_wp2_with fail
   go_roundg (m-(i+1))
   case measure=>have:=A.out;omega
   refine ⟨i+1,a9,c9,by go_num,by omega,(rfl:_=_),?_⟩
   rw[HY.out]
   exact A4 (C:=Sl.block wr.heap.size AG [.int .i64 x0.toNat,.int .i64 y2,.int .i64 y3,.int .i64 y4]) (by unfold Dw;ac_rfl)
 have a7: ¬(i:Int)<m:=by omega
 obtain rfl:i=m:=by omega
 have b:=Yy rest i
 have K:Au (rw AG 4 (.slice aE i cE) (AO (FJ i rest))) (.slice aE i cE) (FJ i rest):=DJ k b.symm
 obtain ⟨es,L⟩:=Aq (FJ i rest)
 rw[L] at b K k
 have am:Aside (FJ i rest=es):=L
 have Q:Aside ((if may ⟨true,es,[]⟩ then ((⟨true,es,[]⟩:Nd),(0:Int)) else (Hb,4))=rr):=(by rw[←ap.out,L]:_=_)
 have Z:Au (rw AG 4 (.slice aE i cE) (AO es)) (.slice aE es.length cE) es:=by rw[b];exact K
 have t:=Ny es aE cE _ _ wr Z k
 rw[b] at t
 have ao:Aside (Au (rw AG 4 (.slice aE i cE) (AO es)) (.slice aE i cE) es):=K
 haveI:=k.i
 obtain ⟨mb,R⟩:=Aq (may ⟨true,es,[]⟩)
 rw[R] at t
 have X:Aside (may ⟨true,es,[]⟩=mb):=R
 clear L b K Z R am
 go_wp2_with fail
 with_reducible refine Calls.mono t ?_
 rintro e w7 ⟨rfl,q7⟩
 haveI:=q7.i
 clear t k
 cases mb with
 | true =>
   have HF:Aside (rr=(⟨true,es,[]⟩,0)):=(by rw[←Q.out,X.out];rfl:_=_)
   go_wp2
   go_returns
   rw[HF.out]
   exact ⟨_,_,rfl,⟨_,_,rfl,ao.out,Aj.nil 4 _⟩,AD _ B F⟩
 | false =>
   have HF:Aside (rr=(Hb,4)):=(by rw[←Q.out,X.out];rfl:_=_)
   go_wp2
   go_returns
   rw[HF.out]
   exact F4 (Ao B F)
theorem SF(x:UInt8)(rest:List UInt8)(v:Value)(B F:Ab)(w:World)(V:Reads B v (x::rest))(hs:Sat (B*F) w)(l:rest.length=x.toNat*16):
 Calls Tryz.prog 156 #[.int .i64 2,v] w (IX B F (if may ⟨false,[],FK x.toNat rest⟩ then (⟨false,[],FK x.toNat rest⟩,0) else (Hb,4))):=by
 obtain ⟨va,I,rfl,b4,bw⟩:=(V F w hs).len
 obtain ⟨iB,R⟩:=D3
 obtain ⟨i0,E⟩:=Ms
 haveI:=hs.i
 have hx:=x.toNat_lt
 have f:Reads B (.slice (AK va I 1 1) rest.length (I-1)) rest:=by
  have K:=Reads.from V 1 (by simp)
  simpa using K
 obtain ⟨m,hm⟩:=Aq x.toNat
 obtain ⟨n,hn⟩:=Aq rest.length
 rw[List.length_cons,hn] at V b4⊢
 rw[hn] at l f
 rw[hm] at l hx⊢
 obtain ⟨rr,O⟩:=Aq (if may ⟨false,[],FK m rest⟩ then ((⟨false,[],FK m rest⟩:Nd),(0:Int)) else (Hb,4))
 have ap:Aside ((if may ⟨false,[],FK m rest⟩ then ((⟨false,[],FK m rest⟩:Nd),(0:Int)) else (Hb,4))=rr):=O
 rw[O]
 clear O
 have X: ∀w,(Instr.sliceAt 26 (.slice va (n+1) I) (some (.int .i64 1)) none none).run Tryz.prog w= .ok (.slice (AK va I 1 1) n (I-1)) w:=fun w=>E7 R 1 (by omega) w
 obtain ⟨b2,o2,e5,au⟩:=byte_at V hs (q:=0) (x:=x) rfl
 rw[Nat.add_zero,hm] at au
 subst e5
 obtain ⟨T,a4⟩:=Aq (AK (some ⟨b2,o2,none⟩) I 1 1)
 rw[a4] at X f
 have t:Aside (Reads B (.slice T n (I-1)) rest∧rest.length=n∧n≤I-1∧n=m*16):=⟨f,hn,by omega,l⟩
 have ay: ¬((n:Int)+1<1):=by omega
 have b9:16*(m:Int)≤4080:=by omega
 have bt:((n:Int)==16*(m:Int))=true:=by simp;omega
 have az:(n:Int)=16*(m:Int):=by omega
 obtain ⟨z,aw⟩:=Aq (I-1)
 rw[aw] at X t
 clear V hn hm f a4 l az
 go_enter Tryz.func156,Tryz.ntmps156
 go_wp2_with fail
 obtain ⟨N,hN⟩:=Aq w.heap.size
 have q0:Sat (Sl.block (N+1) C1 [.bool false,.slice none 0 0,.slice none 0 0]*(Sl.block N C1 [.bool false,.slice none 0 0,.slice none 0 0]*(B*F))) ((w.alloc (.cells #[.bool false,.slice none 0 0,.slice none 0 0] C1)).alloc (.cells #[.bool false,.slice none 0 0,.slice none 0 0] C1)):=by
  rw[←hN]
  exact Av (by ac_rfl)
 rw[hN]
 generalize ((w.alloc (.cells #[.bool false,.slice none 0 0,.slice none 0 0] C1)).alloc (.cells #[.bool false,.slice none 0 0,.slice none 0 0] C1))=w0 at q0⊢
 clear hN hs this
 go_loopg [11] m (fun g b6 wr=> ∃(i:Nat)(aE:Option Addr)(cE:Nat),b6= .int .i64 i∧i≤m∧Aside (g=m-i)∧
  Sat (rw Kr 4 (.slice aE i cE) (G0 (FK i rest))*(Sl.block (N+1) C1 [.bool false,.slice none 0 0,.slice aE i cE]*(Sl.block N C1 [.bool false,.slice none 0 0,.slice none 0 0]*(B*F)))) wr)
 case atStart=>
  exact ⟨0,none,0,rfl,by omega,(rfl:_=_),Sat.AE q0⟩
 obtain ⟨i,aE,cE,rfl,hi,A,r⟩:=hrel
 haveI:=r.i
 clear q0
 by_cases bv:i<m
 · have a5:(i:Int)<m:=by omega
   obtain ⟨p,hp⟩:=Aq (16*i)
   obtain ⟨Q,b0⟩:=Aq (p+16)
   have a8:Q≤n:=by have:=t.out.2.2.2;omega
   have a6:n≤z:=t.out.2.2.1
   have hw1:IntKind.i64.wrap (16*(i:Int))=(p:Int):=(IntWalk.i64_in _ (by omega)).trans (by omega)
   have hw2:IntKind.i64.wrap ((p:Int)+16)=(Q:Int):=(IntWalk.i64_in _ (by omega)).trans (by omega)
   have av: ∀w,(Instr.sliceAt 26 (.slice T n z) (some (.int .i64 p)) (some (.int .i64 Q)) none).run Tryz.prog w= .ok (.slice (AK T z p 1) 16 (z-p)) w:=fun w=>by
    have K:=DN (P:=Tryz.prog) R (a:=T) (n:=n) (c:=z) p Q (by omega) (by omega) w
    rw[show Q-p=16 by omega] at K
    exact K
   have k:Reads B (.slice (AK T z p 1) 16 (z-p)) ((rest.drop p).take 16):=fun F w h=>by
    have K:=(t.out.1 F w h).cut p Q (by omega) a8
    rw[show Q-p=16 by omega] at K
    exact K
   obtain ⟨pc,H⟩:=Aq ((rest.drop p).take 16)
   have b1:pc.length=16:=by rw[←H,List.length_take,List.length_drop,t.out.2.1];omega
   have HY:Aside (G0 (FK (i+1) rest)=G0 (FK i rest)++Ql (uk pc)):=(by rw[V3,hp,H];simp[G0]:_=_)
   rw[H] at k
   obtain ⟨j,a3⟩:=Aq (AK T z p 1)
   obtain ⟨b,a2⟩:=Aq (z-p)
   rw[a3,a2] at k av
   have ax:16≤b:=by omega
   have rA:Reads B (.slice (AK j b 0 1) 4 b) (pc.take 4):=fun F w h=>(k F w h).cut 0 4 (by omega) (by omega)
   have rB:Reads B (.slice (AK j b 4 1) 4 (b-4)) ((pc.drop 4).take 4):=fun F w h=>(k F w h).cut 4 8 (by omega) (by omega)
   have rC:Reads B (.slice (AK j b 8 1) 4 (b-8)) ((pc.drop 8).take 4):=fun F w h=>(k F w h).cut 8 12 (by omega) (by omega)
   have rD:Reads B (.slice (AK j b 12 1) 4 (b-12)) ((pc.drop 12).take 4):=fun F w h=>(k F w h).cut 12 16 (by omega) (by omega)
   have hA: ∀w,(Instr.sliceAt 26 (.slice j 16 b) (some (.int .i64 0)) (some (.int .i64 4)) none).run Tryz.prog w= .ok (.slice (AK j b 0 1) 4 b) w:=fun w=>DN R 0 4 (by omega) (by omega) w
   have aq: ∀w,(Instr.sliceAt 26 (.slice j 16 b) (some (.int .i64 4)) (some (.int .i64 8)) none).run Tryz.prog w= .ok (.slice (AK j b 4 1) 4 (b-4)) w:=fun w=>DN R 4 8 (by omega) (by omega) w
   have hC: ∀w,(Instr.sliceAt 26 (.slice j 16 b) (some (.int .i64 8)) (some (.int .i64 12)) none).run Tryz.prog w= .ok (.slice (AK j b 8 1) 4 (b-8)) w:=fun w=>DN R 8 12 (by omega) (by omega) w
   have hD: ∀w,(Instr.sliceAt 26 (.slice j 16 b) (some (.int .i64 12)) (some (.int .i64 16)) none).run Tryz.prog w= .ok (.slice (AK j b 12 1) 4 (b-12)) w:=fun w=>DN R 12 16 (by omega) (by omega) w
   have nA:=fun F w q=>Ef _ _ B F w rA q (by simp;omega)
   have nB:=fun F w q=>Ef _ _ B F w rB q (by simp;omega)
   have nC:=fun F w q=>Ef _ _ B F w rC q (by simp;omega)
   have nD:=fun F w q=>Ef _ _ B F w rD q (by simp;omega)
   have aa:uk pc=⟨i4 (BX (pc.take 4)),i4 (BX ((pc.drop 4).take 4)),i4 (BX ((pc.drop 8).take 4)),i4 (BX ((pc.drop 12).take 4))⟩:=rfl
   obtain ⟨y1,hy1⟩:=Aq (i4 (BX (pc.take 4)))
   obtain ⟨y2,hy2⟩:=Aq (i4 (BX ((pc.drop 4).take 4)))
   obtain ⟨y3,hy3⟩:=Aq (i4 (BX ((pc.drop 8).take 4)))
   obtain ⟨y4,hy4⟩:=Aq (i4 (BX ((pc.drop 12).take 4)))
   rw[hy1] at nA
   rw[hy2] at nB
   rw[hy3] at nC
   rw[hy4] at nD
   rw[aa,hy1,hy2,hy3,hy4] at HY
   obtain ⟨cA,Y⟩:=Aq (AK j b 0 1)
   obtain ⟨cB,Z⟩:=Aq (AK j b 4 1)
   obtain ⟨cC,a0⟩:=Aq (AK j b 8 1)
   obtain ⟨cD,a1⟩:=Aq (AK j b 12 1)
   rw[Y] at hA nA
   rw[Z] at aq nB
   rw[a0] at hC nC
   rw[a1] at hD nD
   have NA:Aside (∀(F:Ab)(w:World),Sat (B*F) w→Calls Tryz.prog 179 #[.slice cA 4 b] w fun e d=>e= .returned (.int .i64 y1)∧w=d):=nA
   have NB:Aside (∀(F:Ab)(w:World),Sat (B*F) w→Calls Tryz.prog 179 #[.slice cB 4 (b-4)] w fun e d=>e= .returned (.int .i64 y2)∧w=d):=nB
   have NC:Aside (∀(F:Ab)(w:World),Sat (B*F) w→Calls Tryz.prog 179 #[.slice cC 4 (b-8)] w fun e d=>e= .returned (.int .i64 y3)∧w=d):=nC
   have ND:Aside (∀(F:Ab)(w:World),Sat (B*F) w→Calls Tryz.prog 179 #[.slice cD 4 (b-12)] w fun e d=>e= .returned (.int .i64 y4)∧w=d):=nD
   clear nA nB nC nD rA rB rC rD k aa hy1 hy2 hy3 hy4 Y Z a0 a1 a3 a2 H b1 hp b0 a8 a6
   have bu:i≤255:=by omega
   go_upto_region 18 with (fail)
   refine Dr.Ii (fun d=>d.cell? ⟨N+1,2,none⟩=some (.slice aE i cE)) [17,18] (by kernel_rfl) (Ac _ _ _) (fun L=>?_)
   refine Dr.AL 0 (v:=?v0) (by simp only[List.getElem?_toArray,List.getElem?_cons_succ,List.getElem?_cons_zero];rfl) (by kernel_rfl) ?hQ0 (.inl ⟨?hw0,fun d=>?hy0⟩) ?_
   case hy0=>go_simp;try (with_reducible rfl)
   case hQ0=>exact fun _ _ _ h=>h
   case hw0=>rfl
   simp only[Act.put,List.setIfInBounds_toArray,List.set_cons_zero,List.set_cons_succ]
   refine Dr.Fh 1 (v:=?v1) (by simp only[List.getElem?_toArray,List.getElem?_cons_succ,List.getElem?_cons_zero];rfl) (by kernel_rfl) ?hQ1 (.inl ⟨?hw1,fun d hw=>?hy1⟩) L ?_
   case hy1=>(try dsimp only at hw);go_simp;try (with_reducible rfl)
   case hQ1=>exact fun _ _ _ h=>h
   case hw1=>rfl
   simp only[Act.put,List.setIfInBounds_toArray,List.set_cons_zero,List.set_cons_succ]
   refine Dr.AL 2 (v:=?v2) (by simp only[List.getElem?_toArray,List.getElem?_cons_succ,List.getElem?_cons_zero];rfl) (by kernel_rfl) ?hQ2 (.inl ⟨?hw2,fun d=>?hy2⟩) ?_
   case hy2=>go_simp;try (with_reducible rfl)
   case hQ2=>exact fun _ _ _ h=>h
   case hw2=>rfl
   simp only[Act.put,List.setIfInBounds_toArray,List.set_cons_zero,List.set_cons_succ]
   refine Dr.AL 3 (v:=?v3) (by simp only[List.getElem?_toArray,List.getElem?_cons_succ,List.getElem?_cons_zero];rfl) (by kernel_rfl) ?hQ3 (.inl ⟨?hw3,fun d=>?hy3⟩) ?_
   case hy3=>go_simp;try (with_reducible rfl)
   case hQ3=>exact fun _ _ _ h=>h
   case hw3=>rfl
   simp only[Act.put,List.setIfInBounds_toArray,List.set_cons_zero,List.set_cons_succ]
   refine Dr.AL 5 (v:=?v5) (by simp only[List.getElem?_toArray,List.getElem?_cons_succ,List.getElem?_cons_zero];rfl) (by kernel_rfl) ?hQ5 (.inl ⟨?hw5,fun d=>?hy5⟩) ?_
   case hy5=>go_simp;try (with_reducible rfl)
   case hQ5=>exact fun _ _ _ h=>h
   case hw5=>rfl
   simp only[Act.put,List.setIfInBounds_toArray,List.set_cons_zero,List.set_cons_succ]
   refine Dr.AL 6 (v:=?v6) (by simp only[List.getElem?_toArray,List.getElem?_cons_succ,List.getElem?_cons_zero];rfl) (by kernel_rfl) ?hQ6 (.inl ⟨?hw6,fun d=>?hy6⟩) ?_
   case hy6=>go_simp;try (with_reducible rfl)
   case hQ6=>exact fun _ _ _ h=>h
   case hw6=>rfl
   simp only[Act.put,List.setIfInBounds_toArray,List.set_cons_zero,List.set_cons_succ]
   refine Dr.AL 8 (v:=?v8) (by simp only[List.getElem?_toArray,List.getElem?_cons_succ,List.getElem?_cons_zero];rfl) (by kernel_rfl) ?hQ8 (.inl ⟨?hw8,fun d=>?hy8⟩) ?_
   case hy8=>go_simp;try (with_reducible rfl)
   case hQ8=>exact fun _ _ _ h=>h
   case hw8=>rfl
   simp only[Act.put,List.setIfInBounds_toArray,List.set_cons_zero,List.set_cons_succ]
   refine Dr.AL 9 (v:=?v9) (by simp only[List.getElem?_toArray,List.getElem?_cons_succ,List.getElem?_cons_zero];rfl) (by kernel_rfl) ?hQ9 (.inl ⟨?hw9,fun d=>?hy9⟩) ?_
   case hy9=>go_simp;try (with_reducible rfl)
   case hQ9=>exact fun _ _ _ h=>h
   case hw9=>rfl
   simp only[Act.put,List.setIfInBounds_toArray,List.set_cons_zero,List.set_cons_succ]
   refine Dr.AL 11 (v:=?v11) (by simp only[List.getElem?_toArray,List.getElem?_cons_succ,List.getElem?_cons_zero];rfl) (by kernel_rfl) ?hQ11 (.inl ⟨?hw11,fun d=>?hy11⟩) ?_
   case hy11=>go_simp;try (with_reducible rfl)
   case hQ11=>exact fun _ _ _ h=>h
   case hw11=>rfl
   simp only[Act.put,List.setIfInBounds_toArray,List.set_cons_zero,List.set_cons_succ]
   refine Dr.AL 12 (v:=?v12) (by simp only[List.getElem?_toArray,List.getElem?_cons_succ,List.getElem?_cons_zero];rfl) (by kernel_rfl) ?hQ12 (.inl ⟨?hw12,fun d=>?hy12⟩) ?_
   case hy12=>go_simp;try (with_reducible rfl)
   case hQ12=>exact fun _ _ _ h=>h
   case hw12=>rfl
   simp only[Act.put,List.setIfInBounds_toArray,List.set_cons_zero,List.set_cons_succ]
   refine Dr.CC 4 (by simp only[List.getElem?_toArray,List.getElem?_cons_succ,List.getElem?_cons_zero];rfl) (by kernel_rfl) ?_
   go_wp2_with ((go_simp;go_at_call 179;with_reducible refine Calls.mono (NA.out _ _ (Ae B)) ?_;rintro e w7 ⟨rfl,rfl⟩))
   refine Dr.C9 ⟨(Ac _ _ _),?_⟩
   refine Dr.CC 7 (by simp only[List.getElem?_toArray,List.getElem?_cons_succ,List.getElem?_cons_zero];rfl) (by kernel_rfl) ?_
   go_wp2_with ((go_simp;go_at_call 179;with_reducible refine Calls.mono (NB.out _ _ (Ae B)) ?_;rintro e w7 ⟨rfl,rfl⟩))
   refine Dr.C9 ⟨(Ac _ _ _),?_⟩
   refine Dr.CC 10 (by simp only[List.getElem?_toArray,List.getElem?_cons_succ,List.getElem?_cons_zero];rfl) (by kernel_rfl) ?_
   go_wp2_with ((go_simp;go_at_call 179;with_reducible refine Calls.mono (NC.out _ _ (Ae B)) ?_;rintro e w7 ⟨rfl,rfl⟩))
   refine Dr.C9 ⟨(Ac _ _ _),?_⟩
   refine Dr.CC 13 (by simp only[List.getElem?_toArray,List.getElem?_cons_succ,List.getElem?_cons_zero];rfl) (by kernel_rfl) ?_
   go_wp2_with ((go_simp;go_at_call 179;with_reducible refine Calls.mono (ND.out _ _ (Ae B)) ?_;rintro e w7 ⟨rfl,rfl⟩))
   refine Dr.C9 ⟨(Ac _ _ _),?_⟩
   refine Dr.AL 14 (v:=?v14) (by simp only[List.getElem?_toArray,List.getElem?_cons_succ,List.getElem?_cons_zero];rfl) (by kernel_rfl) ?hQ14 (.inl ⟨?hw14,fun d=>?hy14⟩) ?_
   case hy14=>go_simp;try (with_reducible rfl)
   case hQ14=>exact fun _ _ _ h=>h
   case hw14=>rfl
   simp only[Act.put,List.setIfInBounds_toArray,List.set_cons_zero,List.set_cons_succ]
   refine Dr.CC 15 (by simp only[List.getElem?_toArray,List.getElem?_cons_succ,List.getElem?_cons_zero];rfl) (by kernel_rfl) ?_
   go_wp2_with (fail)
   refine Dr.C9 ⟨(Ac _ _ _),?_⟩
   refine Dr.CC 16 (by simp only[List.getElem?_toArray,List.getElem?_cons_succ,List.getElem?_cons_zero];rfl) (by kernel_rfl) ?_
   go_wp2_with (at_builtin;refine Af E rfl (.tmp 87) (.tmp 101) rfl rfl rfl (Ae (rw Kr 4 (.slice aE i cE) (G0 (FK i rest)))) (Src.new (e:=Kr) (s:=4) (vs:= [.int .i64 y1,.int .i64 y2,.int .i64 y3,.int .i64 y4]) (Ae (Sl.block _ Kr [.int .i64 y1,.int .i64 y2,.int .i64 y3,.int .i64 y4])) rfl (by intro u hu;simp at hu;rcases hu with rfl|rfl|rfl|rfl<;>rfl)) (by unfold maxLen;omega) (by omega) ?_;intro a9 c9 w9 b3 a7;clear a7;haveI:=b3.i)
   refine Dr.C9 ⟨(Ac _ _ _),?_⟩
   refine Dr.JO [17,18] (os:= [_,_]) (by decide) (by simp only[List.map_cons,List.map_nil,List.getElem?_toArray,List.getElem?_cons_succ,List.getElem?_cons_zero];rfl) (by kernel_rfl) ?_
   go_wp2_with fail
   go_roundg (m-(i+1))
   case measure=>have:=A.out;omega
   refine ⟨i+1,a9,c9,by go_num,by omega,(rfl:_=_),?_⟩
   rw[HY.out]
   exact A4 (C:=Sl.block wr.heap.size Kr [.int .i64 y1,.int .i64 y2,.int .i64 y3,.int .i64 y4]) (by unfold Ql;ac_rfl)
 have a5: ¬(i:Int)<m:=by omega
 obtain rfl:i=m:=by omega
 have y:=Yz rest i
 have D:AS (rw Kr 4 (.slice aE i cE) (G0 (FK i rest))) (.slice aE i cE) (FK i rest):=ZH r y.symm
 obtain ⟨es,G⟩:=Aq (FK i rest)
 rw[G] at y D r
 have am:Aside (FK i rest=es):=G
 have J:Aside ((if may ⟨false,[],es⟩ then ((⟨false,[],es⟩:Nd),(0:Int)) else (Hb,4))=rr):=(by rw[←ap.out,G]:_=_)
 have W:AS (rw Kr 4 (.slice aE i cE) (G0 es)) (.slice aE es.length cE) es:=by rw[y];exact D
 have o:=UJ es aE cE _ _ wr W r
 rw[y] at o
 have ao:Aside (AS (rw Kr 4 (.slice aE i cE) (G0 es)) (.slice aE i cE) es):=D
 haveI:=r.i
 obtain ⟨mb,M⟩:=Aq (may ⟨false,[],es⟩)
 rw[M] at o
 have U:Aside (may ⟨false,[],es⟩=mb):=M
 clear G y D W M am
 go_wp2_with fail
 with_reducible refine Calls.mono o ?_
 rintro e w7 ⟨rfl,q7⟩
 haveI:=q7.i
 clear o r
 cases mb with
 | true =>
   have HF:Aside (rr=(⟨false,[],es⟩,0)):=(by rw[←J.out,U.out];rfl:_=_)
   go_wp2
   go_returns
   rw[HF.out]
   exact ⟨_,_,rfl,⟨_,_,rfl,Aj.nil 4 _,ao.out⟩,AD _ B F⟩
 | false =>
   have HF:Aside (rr=(Hb,4)):=(by rw[←J.out,U.out];rfl:_=_)
   go_wp2
   go_returns
   rw[HF.out]
   exact F4 (Ao B F)
theorem UK(kind:Int)(b:List UInt8)(v:Value)(B F:Ab)(w:World)(c:Reads B v b)(hs:Sat (B*F) w)(hl:b.length≤1048576):
 Calls Tryz.prog 156 #[.int .i64 kind,v] w (IX B F (CQ kind b)):=by
 cases b with
 |nil=>exact SH kind v B F w c hs
 | cons x rest =>
  rw[List.length_cons] at hl
  unfold CQ
  simp only
  by_cases d:kind≠1∧kind≠2
  ·rw[if_pos d]
   exact J5 kind x rest v B F w c hs (by omega) (fun h=>d.1 h.1) (fun h=>d.2 h.1)
  rw[if_neg d]
  by_cases h1:kind=1
  ·subst h1
   simp only[if_true]
   by_cases a:rest.length≠x.toNat*13
   ·rw[if_pos a]
    exact J5 1 x rest v B F w c hs (by omega) (fun h=>a h.2) (fun h=>by omega)
   rw[if_neg a]
   exact SG x rest v B F w c hs (by omega)
  have e:kind=2:=by omega
  subst e
  simp only[show¬(2:Int)=1 by omega,if_false]
  by_cases a:rest.length≠x.toNat*16
  ·rw[if_pos a]
   exact J5 2 x rest v B F w c hs (by omega) (fun h=>by omega) (fun h=>a h.2)
  rw[if_neg a]
  exact SF x rest v B F w c hs (by omega)
theorem W5{kind:Int}{b:List UInt8}(h:(CQ kind b).2≠0):(CQ kind b).1=Hb:=by
 cases b with
 |nil=>rfl
 | cons b rest =>
  unfold CQ at h⊢
  simp only at h⊢
  by_cases h1:kind≠1∧kind≠2
  ·rw[if_pos h1]
  rw[if_neg h1] at h⊢
  by_cases a:rest.length≠b.toNat*(if kind=1 then 13 else 16)
  ·rw[if_pos a]
  rw[if_neg a] at h⊢
  generalize (if kind=1 then (⟨true,FJ b.toNat rest,[]⟩:Nd) else ⟨false,[],FK b.toNat rest⟩)=n at h⊢
  by_cases c:may n=true
  ·rw[if_pos c] at h;exact absurd rfl h
  rw[if_neg c]
def RJ(B F:Ab)(o:Option Nd)(e:Ending)(a:World):Prop:= ∃v' G,e= .returned (.tuple #[v',.bool o.isSome])∧AJ G v' (o.getD Hb)∧Sat (G*(B*F)) a
theorem FR{B F:Ab}{w:World}(hs:Sat (B*F) w):RJ B F none (.returned (.tuple #[.agg #[.bool false,.slice none 0 0,.slice none 0 0],.bool false])) w:=
 ⟨_,1,rfl,⟨_,_,rfl,Aj.nil 4 _,Aj.nil 4 _⟩,by rw[Aw];exact hs⟩
theorem J6(file:List UInt8)(v:Value)(no:Int)(B F:Ab)(w:World)(Y:Reads B v file)(hl:file.length≤1099511627776)(hs:Sat (B*F) w):
 Calls Tryz.prog 126 #[v,.int .i64 no] w (RJ B F (As file no)):=by
 obtain ⟨i0,E⟩:=D3
 obtain ⟨x,t,rfl,a4,al⟩:=(Y F w hs).len
 have HB:Aside (Reads B (.slice x file.length t) file):=Y
 obtain ⟨R,hR⟩:=Aq (As file no)
 have L:Aside (As file no=R):=hR
 rw[hR]
 obtain ⟨n,hn⟩:=Aq file.length
 have T:Aside (file.length=n):=hn
 rw[hn] at hl a4⊢
 clear Y hR hn
 haveI:=hs.i
 by_cases h1:no<1
 · have d1:decide (no<1)=true:=decide_eq_true h1
   have g:Aside (R=none):=(by rw[←L.out];unfold As;rw[if_pos (.inl h1)]:_=_)
   go_enter Tryz.func126,Tryz.ntmps126
   go_wp2
   go_returns
   rw[g.out]
   exact FR (Ao B F)
 have d1:decide (no<1)=false:=decide_eq_false h1
 by_cases W:1048576≤no
 · have d2:decide (1048576≤no)=true:=decide_eq_true W
   have g:Aside (R=none):=(by rw[←L.out];unfold As;rw[if_pos (.inr (.inl W))]:_=_)
   go_enter Tryz.func126,Tryz.ntmps126
   go_wp2
   go_returns
   rw[g.out]
   exact FR (Ao B F)
 have d2:decide (1048576≤no)=false:=decide_eq_false W
 obtain ⟨p,hp⟩: ∃p:Nat,no=p:=⟨no.toNat,by omega⟩
 subst hp
 have hw1:IntKind.i64.wrap (256*(p:Int))=((256*p:Nat):Int):=(IntWalk.i64_in _ (by omega)).trans (by omega)
 have hw2:IntKind.i64.wrap (((256*p:Nat):Int)+256)=((256*p+256:Nat):Int):=(IntWalk.i64_in _ (by omega)).trans (by omega)
 obtain ⟨q,hq⟩:=Aq (256*p)
 rw[hq] at hw1 hw2
 obtain ⟨f,a3⟩:=Aq (q+256)
 rw[a3] at hw2
 by_cases h3:n<f
 · have d3:decide ((n:Int)<(f:Int))=true:=decide_eq_true (by omega)
   have X:(n:Int)<(f:Int):=by omega
   have g:Aside (R=none):=(by rw[←L.out];unfold As;rw[if_pos (.inr (.inr (by rw[T.out];omega)))]:_=_)
   go_enter Tryz.func126,Tryz.ntmps126
   go_wp2
   go_returns
   rw[g.out]
   exact FR (Ao B F)
 have d3:decide ((n:Int)<(f:Int))=false:=decide_eq_false (by omega)
 have X: ¬(n:Int)<(f:Int):=by omega
 have hc: ∀w,(Instr.sliceAt 26 (.slice x n t) (some (.int .i64 q)) (some (.int .i64 (f:Int))) none).run Tryz.prog w= .ok (.slice (AK x t q 1) 256 (t-q)) w:=fun w=>by
  have j:=DN (P:=Tryz.prog) E (a:=x) (n:=n) (c:=t) q f (by omega) (by omega) w
  rw[show f-q=256 by omega] at j
  exact j
 obtain ⟨s,m⟩:=Aq ((file.drop q).take 256)
 have hr:Reads B (.slice (AK x t q 1) 256 (t-q)) s:=fun F w h=>by
  have j:=(HB.out F w h).cut q f (by omega) (by rw[T.out];omega)
  rw[show f-q=256 by omega,m] at j
  exact j
 have HG:Aside (R=CR (p:Int) s):=(by
  rw[←L.out]
  unfold As
  rw[if_neg (by rw[T.out];omega),Int.toNat_natCast,hq,m]:_=_)
 have u:=fun F w h=>Vf (p:Int) _ s B F w hr h
 unfold T' at u
 obtain ⟨⟨r,d,Q⟩,O⟩:=Aq (AP (p:Int) s)
 have V:Aside (AP (p:Int) s=(r,d,Q)):=O
 rw[O] at u
 obtain ⟨cv,D⟩:=Aq (AK x t q 1)
 rw[D] at hc u
 have am:d.length≤256:=by
  have j:=LL (p:Int) s
  have h8:s.length≤256:=by rw[←m,List.length_take];omega
  rw[O] at j
  simp only at j
  omega
 simp only at u
 clear O hr D m
 go_enter Tryz.func126,Tryz.ntmps126
 go_wp2_with fail
 with_reducible refine Calls.mono (u _ _ (Ae B)) ?_
 rintro e w1 ⟨a,c,rfl,q1⟩
 haveI:=q1.i
 clear u hs
 by_cases M:Q=0
 · subst M
   have I:=UK r d (.slice a d.length c) (rw TB 1 (.slice a d.length c) (A0 d)) _ w1 Reads.rw q1 (by omega)
   go_wp2_with fail
   with_reducible refine Calls.mono I ?_
   rintro e w2 ⟨v',G,rfl,hN,f⟩
   obtain ⟨vE,vK,rfl,Z,hK⟩:=hN
   obtain ⟨aE,cE,rfl,y,ah⟩:=Z.v
   obtain ⟨aK,cK,rfl,z,ai⟩:=hK.v
   haveI:=f.i
   have HH:Aside (R=CR (p:Int) s):=HG
   have J:Aside (Au G (.slice aE (CQ r d).1.Ag.length cE) (CQ r d).1.Ag):=Z
   have K:Aside (AS G (.slice aK (CQ r d).1.kids.length cK) (CQ r d).1.kids):=hK
   obtain ⟨⟨o,oe⟩,k⟩:=Aq (CQ r d)
   have HO:Aside (CQ r d=(o,oe)):=k
   rw[k] at J K y z⊢
   simp only at J K y z⊢
   have H:oe≠0→o=Hb:=fun h=>by have j:=W5 (kind:=r) (b:=d) (by rw[k];exact h);rw[k] at j;exact j
   have U:Aside (oe≠0→o=Hb):=H
   clear I Z hK q1 k H
   by_cases l:oe=0
   ·subst l
    have g:Aside (R=some o):=(by rw[HH.out];unfold CR;rw[V.out];simp only;rw[HO.out];simp:_=_)
    go_wp2
    go_returns
    rw[g.out]
    exact ⟨_,G,rfl,⟨_,_,rfl,J.out,K.out⟩,AD G B F⟩
   have d4:(oe==0)=false:=by simpa using l
   have g:Aside (R=none):=(by rw[HH.out];unfold CR;rw[V.out];simp only;rw[HO.out];simp[l]:_=_)
   have HD:Aside (o=Hb):=U.out l
   go_wp2
   go_returns
   rw[g.out]
   exact ⟨_,G,rfl,by rw[show (none:Option Nd).getD Hb=o from HD.out.symm];exact ⟨_,_,rfl,J.out,K.out⟩,AD G B F⟩
 have d4:(Q !=0)=true:=by simpa using M
 have d5:(Q==0)=false:=by simpa using M
 have g:Aside (R=none):=(by rw[HG.out];unfold CR;rw[V.out];exact if_neg M:_=_)
 go_wp2
 go_returns
 rw[g.out]
 exact FR (Ao B F)
