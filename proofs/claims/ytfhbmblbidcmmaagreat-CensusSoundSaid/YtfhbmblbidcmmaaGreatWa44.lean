/- censusSound holds for every input. No condition. (part 44) -/
import Derived.Test.YtfhbmblbidcmmaaGreatWa29
import Derived.Test.YtfhbmblbidcmmaaGreatWa43
import Derived.Test.YtfhbmblbidcmmaaGreatWa35
import Derived.Test.YtfhbmblbidcmmaaGreatWa39
set_option linter.all false
set_option maxRecDepth 100000
set_option maxHeartbeats 6400000
namespace Go.Proofs.YtfhbmblbidcmmaaGreat
open Go.RowKit Go.Sl Go.Dk Go.Tr
def dA(x:Av):Prop:=(x.src=0∨x.src=1)∧0≤x.pos∧1≤x.len∧x.pos≤16777216∧x.len≤16777216∧x.pos+x.len≤16777216∧ -1≤x.lines∧x.lines≤x.len∧(x.src=1∨x.lines= -1)
theorem Yd{x:Av} :Ah x=true↔dA x∧x.len≤1048576:=by
 rw[Cb]
 unfold dA
 omega
theorem fB{x:Av}(h: ¬dA x):Ah x=false:=by
 cases hm:Ah x with
 |false=>rfl
 |true=>exact absurd (Yd.1 hm).1 h
theorem WU{l:List Av}(h: ∀x∈l,dA x)(h1:1≤l.length)(b:l.length≤12):may ⟨true,l,[]⟩=decide (Aa l≤1048576):=by
 by_cases hb:Aa l≤1048576
 · have hm: ∀x∈l,Ah x=true:=fun x hx=>Yd.2 ⟨h x hx,by
    have:=(GJ (o:=l) fun y hy=>by have:=h y hy;unfold dA at this;unfold Ll;omega).2 x hx
    omega⟩
   rw[Hx (fun x hx=>⟨rfl,hm x hx⟩) (fun x hx=>by cases hx),decide_eq_true hb]
   simp[Bc,Bj]
   omega
 rw[decide_eq_false hb]
 by_cases hm: ∀x∈l,Ah x=true
 · rw[Hx (fun x hx=>⟨rfl,hm x hx⟩) (fun x hx=>by cases hx)]
   simp[Bc,Bj]
   omega
 obtain ⟨x,hx,a⟩: ∃x∈l,Ah x=false:=by
  rcases Classical.em (∃x∈l,Ah x=false) with h|h
  · exact h
  exfalso;apply hm;intro x hx
  cases hq:Ah x with
  |true=>rfl
  |false=>exact absurd ⟨x,hx,hq⟩ h
 exact Gi hx (.inr a)
theorem S5(G:Option Addr)(H:Nat)(es:List Av)(a:Option Addr)(c:Nat)(B F:Ab)(w:World)(M:A1 B (.slice a es.length c) es)(hs:Sat (B*F) w):
 Calls Tryz.prog 64 #[.agg #[.bool true,.slice a es.length c,.slice G 0 H]] w fun e d=>e= .returned (.bool (may ⟨true,es,[]⟩))∧Sat (B*F) d:=by
 have Y:=As M
 obtain ⟨r,q⟩:=Aq (may ⟨true,es,[]⟩)
 have I:=As q
 rw[q]
 obtain ⟨n,Q⟩:=Aq es.length
 have t:=As Q
 rw[Q] at M⊢
 clear M q Q
 haveI:=hs.i
 by_cases h1:n<1
 · have W:n=0:=by omega
   have l:Aside (r=false):=(by
    have:es= []:=List.length_eq_zero_iff.1 (by rw[t.out,W])
    rw[←I.out,this];rfl:_=_)
   subst W
   go_enter Tryz.func64,Tryz.ntmps64
   go_wp2
   go_ret
   exact ⟨by rw[l.out];rfl,Ar B F⟩
 by_cases h2:12<n
 · have l:Aside (r=false):=(by
    rw[←I.out]
    by_cases hm: ∀x∈es,Ah x=true
    · rw[Hx (fun x hx=>⟨rfl,hm x hx⟩) (fun x hx=>by cases hx)]
      have:=t.out
      simp[Bc,Bj]
      omega
    obtain ⟨x,hx,he⟩: ∃x∈es,Ah x=false:=by
     rcases Classical.em (∃x∈es,Ah x=false) with h|h
     · exact h
     exfalso;apply hm;intro x hx
     cases hq:Ah x with
     |true=>rfl
     |false=>exact absurd ⟨x,hx,hq⟩ h
    exact Gi hx (.inr he):_=_)
   have J: ¬(n:Int)<1:=by omega
   have K:(12:Int)<n:=by omega
   go_enter Tryz.func64,Tryz.ntmps64
   go_wp2
   go_ret
   exact ⟨by rw[l.out];rfl,Ar B F⟩
 have J: ¬(n:Int)<1:=by omega
 have K: ¬(12:Int)<n:=by omega
 go_enter Tryz.func64,Tryz.ntmps64
 go_wp2_with fail
 obtain ⟨N,O⟩:=Aq w.heap.size
 have R:Sat (Sl.block N Cy [.bool true,.slice a n c,.slice G 0 H]*(B*F)) (w.alloc (.cells #[.bool true,.slice a n c,.slice G 0 H] Cy)):=by
  rw[←O]
  exact ES
 try rw[O]
 generalize w.alloc (.cells #[.bool true,.slice a n c,.slice G 0 H] Cy)=w0 at R⊢
 clear O hs this
 go_loopg [3,4] n (fun g t3 t4 wr=> ∃(i:Nat)(k:Int),t4= .int .i64 i∧t3= .int .i64 k∧i≤n∧0≤k∧k≤i*16777216∧Aside (g=n-i∧k=Aa (es.take i)∧ ∀x∈es.take i,dA x)∧
  Sat (Sl.block N Cy [.bool true,.slice a n c,.slice G 0 H]*(B*F)) wr)
 case atStart=>exact ⟨0,0,rfl,rfl,by omega,by omega,by omega,⟨rfl,by simp[Aa],by simp⟩,R⟩
 obtain ⟨i,k,rfl,rfl,hi,a1,a2,A,q1⟩:=hrel
 clear R
 haveI:=q1.i
 by_cases P:i<n
 · have v:(i:Int)<n:=by omega
   obtain ⟨x,hx⟩: ∃x,es[i]?=some x:=⟨_,List.getElem?_eq_getElem (by rw[t.out];exact P)⟩
   obtain ⟨b,o,rfl,r1,r2,r3,r4⟩:=BH Y.out hx
   have u:=As hx
   obtain ⟨T,m,j,s⟩:=x
   simp only at r1 r2 r3 r4
   have p:Aside (¬dA ⟨T,m,j,s⟩→r=false):=fun h=>I.out.symm.trans (Gi (List.mem_of_getElem? u.out) (.inr (fB h)))
   clear hx
   by_cases f:dA ⟨T,m,j,s⟩
   · have V:=As f
     unfold dA at f
     simp only at f
     obtain ⟨D,k2,k3,k4,k5,k6,k7,k8,X⟩:=f
     have hw2:=Bb (k+j) (by omega)
     have hw1:=Bb (m+j) (by omega)
     have d1:decide (m<0)=false:=decide_eq_false (by omega)
     have d2:decide (j<1)=false:=decide_eq_false (by omega)
     have d3:decide (16777216<m)=false:=decide_eq_false (by omega)
     have d4:decide (16777216<j)=false:=decide_eq_false (by omega)
     have d5:decide (16777216<m+j)=false:=decide_eq_false (by omega)
     have d6:decide (s< -1)=false:=decide_eq_false (by omega)
     have d7:decide (j<s)=false:=decide_eq_false (by omega)
     rcases D with D|D
     · obtain rfl:s= -1:=by omega
       subst D
       clear X
       go_wp2_with fail
       go_region_held3 (fun d=>d.cell? ⟨N,1,none⟩=some (.slice (some ⟨b,o,none⟩) n c)∧d.cell? ⟨b,o+i*4,none⟩=some (.int .i64 0)∧d.cell? ⟨b,o+i*4+1,none⟩=some (.int .i64 m)∧d.cell? ⟨b,o+i*4+2,none⟩=some (.int .i64 j)∧d.cell? ⟨b,o+i*4+3,none⟩=some (.int .i64 (-1))) (first|exact ⟨Ac _ _ _,Ac _ _ _,Ac _ _ _,Ac _ _ _,Ac _ _ _⟩) (fail)
       go_wp2
       go_roundg (n-(i+1))
       case measure=>have:=A.out.1;omega
       refine ⟨i+1,k+j,by go_num,rfl,by omega,by omega,by omega,⟨rfl,?_,?_⟩,AD _ B F⟩
       ·rw[BZ u.out,A.out.2.1]
       rw[AB u.out]
       intro y hy
       rcases List.mem_append.1 hy with hy|hy
       ·exact A.out.2.2 y hy
       simp at hy;subst hy;exact V.out
     subst D
     clear X
     go_wp2_with fail
     go_region_held3 (fun d=>d.cell? ⟨N,1,none⟩=some (.slice (some ⟨b,o,none⟩) n c)∧d.cell? ⟨b,o+i*4,none⟩=some (.int .i64 1)∧d.cell? ⟨b,o+i*4+1,none⟩=some (.int .i64 m)∧d.cell? ⟨b,o+i*4+2,none⟩=some (.int .i64 j)∧d.cell? ⟨b,o+i*4+3,none⟩=some (.int .i64 s)) (first|exact ⟨Ac _ _ _,Ac _ _ _,Ac _ _ _,Ac _ _ _,Ac _ _ _⟩) (fail)
     go_wp2
     go_roundg (n-(i+1))
     case measure=>have:=A.out.1;omega
     refine ⟨i+1,k+j,by go_num,rfl,by omega,by omega,by omega,⟨rfl,?_,?_⟩,AD _ B F⟩
     · rw[BZ u.out,A.out.2.1]
     rw[AB u.out]
     intro y hy
     rcases List.mem_append.1 hy with hy|hy
     · exact A.out.2.2 y hy
     simp at hy;subst hy;exact V.out
   have l:Aside (r=false):=p.out f
   have Z:=As f
   clear f p
   go_wp2_with fail
   go_region_held3 (fun d=>d.cell? ⟨N,1,none⟩=some (.slice (some ⟨b,o,none⟩) n c)∧d.cell? ⟨b,o+i*4,none⟩=some (.int .i64 T)∧d.cell? ⟨b,o+i*4+1,none⟩=some (.int .i64 m)∧d.cell? ⟨b,o+i*4+2,none⟩=some (.int .i64 j)∧d.cell? ⟨b,o+i*4+3,none⟩=some (.int .i64 s)) (first|exact ⟨Ac _ _ _,Ac _ _ _,Ac _ _ _,Ac _ _ _,Ac _ _ _⟩) (fail)
   all_goals go_wp2
   all_goals (try go_ret)
   all_goals first
    |exact ⟨by rw[l.out];rfl,Ar B F⟩
    |(exfalso;apply Z.out;unfold dA;simp only;simp at*;omega)
 have v: ¬(i:Int)<n:=by omega
 obtain rfl:i=n:=by omega
 have hx:es.take i=es:=List.take_of_length_le (by rw[t.out];exact Nat.le_refl _)
 have U:Aside (r=decide (k≤1048576)):=(by
  have L:=A.out.2
  rw[hx] at L
  rw[←I.out,WU L.2 (by rw[t.out];omega) (by rw[t.out];omega),L.1]:_=_)
 clear hx
 by_cases z:k≤1048576
 · have l:Aside (r=true):=U.out.trans (decide_eq_true z)
   go_wp2
   go_ret
   exact ⟨by rw[l.out];rfl,Ar B F⟩
 have l:Aside (r=false):=U.out.trans (decide_eq_false z)
 go_wp2
 go_ret
 exact ⟨by rw[l.out];rfl,Ar B F⟩
theorem Ny(es:List Av)(a:Option Addr)(c:Nat)(B F:Ab)(w:World)(b:A1 B (.slice a es.length c) es)(hs:Sat (B*F) w):
 Calls Tryz.prog 64 #[.agg #[.bool true,.slice a es.length c,.slice none 0 0]] w fun e d=>e= .returned (.bool (may ⟨true,es,[]⟩))∧Sat (B*F) d:=S5 none 0 es a c B F w b hs
theorem bQ(y:Av)(a:Option Addr)(c:Nat)(B F:Ab)(w:World)(b:A1 B (.slice a 1 c) [y])(hs:Sat (B*F) w):
 Calls Tryz.prog 64 #[.agg #[.bool true,.slice a 1 c,.slice none 0 0]] w fun e d=>e= .returned (.bool (Ah y))∧Sat (B*F) d:=by
 rw[←XU]
 exact Ny [y] a c B F w b hs
end Go.Proofs.YtfhbmblbidcmmaaGreat
namespace Go.Tr
theorem Uj{k:Kd} :AE k=true↔(1≤k.Au∧k.Au<1048576∧1≤k.bytes∧k.bytes≤1048576∧(-1≤k.lines∧k.lines≤k.bytes)∧1≤k.AA∧k.AA≤k.bytes):=by
 unfold AE
 exact decide_eq_true_iff
end Go.Tr
namespace Go.Proofs.YtfhbmblbidcmmaaGreat
open Go.RowKit Go.Sl Go.Tr Go.Dk
theorem WT{l:List Kd}(h: ∀x∈l,AE x=true)(h1:2≤l.length)(a:l.length≤12):may ⟨false,[],l⟩=decide (Bc l≤1048576∧Bj l≤1024):=by
 rw[Hx (fun x hx=>by cases hx) (fun x hx=>⟨rfl,h x hx⟩)]
 show decide (2≤l.length∧l.length≤12∧Aa []+Bc l≤1048576∧Bj l≤1024)=_
 have e0:Aa []=0:=rfl
 exact decide_eq_decide.2 (by rw[e0];constructor<;>intro b<;>omega)
theorem Ru{l:List Kd}(h:l.length<2∨12<l.length):may ⟨false,[],l⟩=false:=by
 by_cases hm: ∀x∈l,AE x=true
 · rw[Hx (fun x hx=>by cases hx) (fun x hx=>⟨rfl,hm x hx⟩)]
   simp[Aa]
   omega
 obtain ⟨x,hx,a⟩: ∃x∈l,AE x=false:=by
  rcases Classical.em (∃x∈l,AE x=false) with h|h
  · exact h
  exfalso;apply hm;intro x hx
  cases hq:AE x with
  |true=>rfl
  |false=>exact absurd ⟨x,hx,hq⟩ h
 exact Hw hx (.inr a)
theorem S4(I:Option Addr)(J:Nat)(ks:List Kd)(a:Option Addr)(c:Nat)(B F:Ab)(w:World)(R:BE B (.slice a ks.length c) ks)(hs:Sat (B*F) w):
 Calls Tryz.prog 64 #[.agg #[.bool false,.slice I 0 J,.slice a ks.length c]] w fun e w'=>e= .returned (.bool (may ⟨false,[],ks⟩))∧Sat (B*F) w':=by
 have HK:=As R
 obtain ⟨z,v⟩:=Aq (may ⟨false,[],ks⟩)
 have K:=As v
 rw[v]
 obtain ⟨n,V⟩:=Aq ks.length
 have D:=As V
 rw[V] at R⊢
 clear R v V
 haveI:=hs.i
 by_cases h1:n<2
 · have f:Aside (z=false):=(by rw[←K.out];exact Ru (.inl (by rw[D.out];exact h1)):_=_)
   have m:(n:Int)<2:=by omega
   have G:decide ((n:Int)<2)=true:=decide_eq_true m
   go_enter Tryz.func64,Tryz.ntmps64
   go_wp2
   go_ret
   exact ⟨by rw[f.out];rfl,Ar B F⟩
 by_cases h2:12<n
 · have f:Aside (z=false):=(by rw[←K.out];exact Ru (.inr (by rw[D.out];exact h2)):_=_)
   have m: ¬(n:Int)<2:=by omega
   have u:(12:Int)<n:=by omega
   have G:decide ((n:Int)<2)=false:=decide_eq_false m
   have Q:decide ((12:Int)<n)=true:=decide_eq_true u
   go_enter Tryz.func64,Tryz.ntmps64
   go_wp2
   go_ret
   exact ⟨by rw[f.out];rfl,Ar B F⟩
 have m: ¬(n:Int)<2:=by omega
 have u: ¬(12:Int)<n:=by omega
 have G:decide ((n:Int)<2)=false:=decide_eq_false m
 have Q:decide ((12:Int)<n)=false:=decide_eq_false u
 go_enter Tryz.func64,Tryz.ntmps64
 go_wp2_with fail
 obtain ⟨N,T⟩:=Aq w.heap.size
 have W:Sat (Sl.block N Cy [.bool false,.slice I 0 J,.slice a n c]*(B*F)) (w.alloc (.cells #[.bool false,.slice I 0 J,.slice a n c] Cy)):=by
  rw[←T]
  exact ES
 try rw[T]
 generalize w.alloc (.cells #[.bool false,.slice I 0 J,.slice a n c] Cy)=w0 at W⊢
 clear T hs this
 go_loopg [3,7,8] n (fun g t3 t7 t8 wr=> ∃(i:Nat)(l q:Int),t8= .int .i64 i∧t3= .int .i64 l∧t7= .int .i64 q∧i≤n∧0≤l∧l≤i*16777216∧0≤q∧q≤i*16777216∧Aside (g=n-i∧l=Bc (ks.take i)∧q=Bj (ks.take i)∧ ∀x∈ks.take i,AE x=true)∧
  Sat (Sl.block N Cy [.bool false,.slice I 0 J,.slice a n c]*(B*F)) wr)
 case atStart=>exact ⟨0,0,0,rfl,rfl,rfl,by omega,by omega,by omega,by omega,by omega,⟨rfl,by simp[Bc],by simp[Bj],by simp⟩,W⟩
 obtain ⟨i,l,q,rfl,rfl,rfl,hi,aa,ab,ac,ad,A,q1⟩:=hrel
 clear W
 haveI:=q1.i
 by_cases U:i<n
 · have H:(i:Int)<n:=by omega
   obtain ⟨x,hx⟩: ∃x,ks[i]?=some x:=⟨_,List.getElem?_eq_getElem (by rw[D.out];exact U)⟩
   obtain ⟨b,o,rfl,r1,r2,r3,r4⟩:=Cp HK.out hx
   have L:=As hx
   obtain ⟨r,d,s,k⟩:=x
   simp only at r1 r2 r3 r4
   clear hx
   by_cases j:AE ⟨r,d,s,k⟩=true
   ·have P:=As j
    rw[Uj] at j
    simp only at j
    obtain ⟨k1,k2,k3,k4,⟨k5,k6⟩,k7,k8⟩:=j
    have hw1:=Bb (l+d) (by omega)
    have hw2:=Bb (q+k) (by omega)
    have X:decide (r<1)=false:=decide_eq_false (by omega)
    have Y:decide (1048576≤r)=false:=decide_eq_false (by omega)
    have Z:decide (d<1)=false:=decide_eq_false (by omega)
    have d4:decide (1048576<d)=false:=decide_eq_false (by omega)
    have d5:decide (s< -1)=false:=decide_eq_false (by omega)
    have d6:decide (d<s)=false:=decide_eq_false (by omega)
    have d7:decide (k<1)=false:=decide_eq_false (by omega)
    have d8:decide (d<k)=false:=decide_eq_false (by omega)
    go_wp2
    go_roundg (n-(i+1))
    case measure=>have:=A.out.1;omega
    refine ⟨i+1,l+d,q+k,by go_num,rfl,rfl,by omega,by omega,by omega,by omega,by omega,⟨rfl,?_,?_,?_⟩,AD _ B F⟩
    ·rw[GD L.out,A.out.2.1]
    ·rw[FK L.out,A.out.2.2.1]
    rw[AB L.out]
    intro y hy
    rcases List.mem_append.1 hy with hy|hy
    ·exact A.out.2.2.2 y hy
    simp at hy;subst hy;exact P.out
   have HO:=As j
   have f:Aside (z=false):=K.out.symm.trans (Hw (n:=⟨false,[],ks⟩) (List.mem_of_getElem? L.out) (.inr (by simpa using j)))
   clear j
   by_cases c1:r<1
   ·have X:decide (r<1)=true:=decide_eq_true c1
    clear c1
    go_wp2
    go_ret
    exact ⟨by rw[f.out];rfl,Ar B F⟩
   have X:decide (r<1)=false:=decide_eq_false c1
   by_cases c2:1048576≤r
   ·have Y:decide (1048576≤r)=true:=decide_eq_true c2
    clear c2
    go_wp2
    go_ret
    exact ⟨by rw[f.out];rfl,Ar B F⟩
   have Y:decide (1048576≤r)=false:=decide_eq_false c2
   by_cases c3:d<1
   ·have Z:decide (d<1)=true:=decide_eq_true c3
    clear c3
    go_wp2
    go_ret
    exact ⟨by rw[f.out];rfl,Ar B F⟩
   have Z:decide (d<1)=false:=decide_eq_false c3
   by_cases c4:1048576<d
   ·have d4:decide (1048576<d)=true:=decide_eq_true c4
    clear c4
    go_wp2
    go_ret
    exact ⟨by rw[f.out];rfl,Ar B F⟩
   have d4:decide (1048576<d)=false:=decide_eq_false c4
   by_cases c5:s< -1
   ·have d5:decide (s< -1)=true:=decide_eq_true c5
    clear c5
    go_wp2
    go_ret
    exact ⟨by rw[f.out];rfl,Ar B F⟩
   have d5:decide (s< -1)=false:=decide_eq_false c5
   by_cases c6:d<s
   ·have d6:decide (d<s)=true:=decide_eq_true c6
    clear c6
    go_wp2
    go_ret
    exact ⟨by rw[f.out];rfl,Ar B F⟩
   have d6:decide (d<s)=false:=decide_eq_false c6
   by_cases c7:k<1
   ·have d7:decide (k<1)=true:=decide_eq_true c7
    clear c7
    go_wp2
    go_ret
    exact ⟨by rw[f.out];rfl,Ar B F⟩
   have d7:decide (k<1)=false:=decide_eq_false c7
   by_cases c8:d<k
   ·have d8:decide (d<k)=true:=decide_eq_true c8
    clear c8
    go_wp2
    go_ret
    exact ⟨by rw[f.out];rfl,Ar B F⟩
   have d8:decide (d<k)=false:=decide_eq_false c8
   exact absurd (Uj.2 (by show 1≤r∧r<1048576∧1≤d∧d≤1048576∧(-1≤s∧s≤d)∧1≤k∧k≤d;omega)) HO.out
 have H: ¬(i:Int)<n:=by omega
 obtain rfl:i=n:=by omega
 have hx:ks.take i=ks:=List.take_of_length_le (by rw[D.out];exact Nat.le_refl _)
 have O:Aside (z=decide (l≤1048576∧q≤1024)):=(by
  have M:=A.out.2
  rw[hx] at M
  rw[←K.out,WT M.2.2 (by rw[D.out];omega) (by rw[D.out];omega),M.1,M.2.1]:_=_)
 clear hx
 by_cases p:l≤1048576
 · by_cases t:q≤1024
   ·have f:Aside (z=true):=O.out.trans (decide_eq_true ⟨p,t⟩)
    have e1:decide (l≤1048576)=true:=decide_eq_true p
    have e2:decide (q≤1024)=true:=decide_eq_true t
    go_wp2
    go_ret
    exact ⟨by rw[f.out];rfl,Ar B F⟩
   have f:Aside (z=false):=O.out.trans (decide_eq_false fun h=>t h.2)
   have e1:decide (l≤1048576)=true:=decide_eq_true p
   have e2:decide (q≤1024)=false:=decide_eq_false t
   go_wp2
   go_ret
   exact ⟨by rw[f.out];rfl,Ar B F⟩
 have f:Aside (z=false):=O.out.trans (decide_eq_false fun h=>p h.1)
 have e1:decide (l≤1048576)=false:=decide_eq_false p
 go_wp2
 go_ret
 exact ⟨by rw[f.out];rfl,Ar B F⟩
theorem U9(ks:List Kd)(a:Option Addr)(c:Nat)(B F:Ab)(w:World)(b:BE B (.slice a ks.length c) ks)(hs:Sat (B*F) w):
 Calls Tryz.prog 64 #[.agg #[.bool false,.slice none 0 0,.slice a ks.length c]] w fun e d=>e= .returned (.bool (may ⟨false,[],ks⟩))∧Sat (B*F) d:=S4 none 0 ks a c B F w b hs
theorem byte_at{B F:Ab}{w:World}{a:Option Addr}{n c:Nat}{l:List UInt8}(h:Reads B (.slice a n c) l)(hs:Sat (B*F) w){q:Nat}{x:UInt8}(hq:l[q]?=some x): ∃b o,a=some ⟨b,o,none⟩∧Mn B b (o+q) (.int .u8 x.toNat):=by
 obtain ⟨b,o,e,_⟩:=(h F w hs).at hq
 refine ⟨b,o,e,⟨fun G g d=>?_⟩⟩
 obtain ⟨b',o',e',f⟩:=(h G g d).at hq
 rw[e] at e'
 cases e'
 exact f
theorem S8(kind:Int)(v:Value)(B F:Ab)(w:World)(a:Reads B v [])(hs:Sat (B*F) w):
 Calls Tryz.prog 156 #[.int .i64 kind,v] w (Kt B F (I9,4)):=by
 obtain ⟨d,e,rfl,b,c⟩:=(a F w hs).len
 haveI:=hs.i
 have e0:([]:List UInt8).length=0:=rfl
 rw[e0]
 go_enter Tryz.func156,Tryz.ntmps156
 go_wp2
 go_returns
 exact Fz (Ar B F)
theorem JB(kind:Int)(x:UInt8)(rest:List UInt8)(v:Value)(B F:Ab)(w:World)(a:Reads B v (x::rest))(hs:Sat (B*F) w)(hl:rest.length≤1048576)(h1: ¬(kind=1∧rest.length=x.toNat*13))(j: ¬(kind=2∧rest.length=x.toNat*16)):
 Calls Tryz.prog 156 #[.int .i64 kind,v] w (Kt B F (I9,4)):=by
 obtain ⟨s,g,rfl,f,y⟩:=(a F w hs).len
 obtain ⟨i0,E⟩:=Dp
 haveI:=hs.i
 have hx:=x.toNat_lt
 obtain ⟨m,hm⟩:=Aq x.toNat
 obtain ⟨n,d⟩:=Aq rest.length
 rw[List.length_cons,d] at a f⊢
 rw[d] at hl h1 j
 have D:=As hm
 rw[hm] at h1 j hx
 have z:=As a
 have u: ∀w,(Instr.sliceAt 26 (.slice s (n+1) g) (some (.int .i64 1)) none none).run Tryz.prog w= .ok (.slice (AH s g 1 1) n (g-1)) w:=fun w=>E6 E 1 (by omega) w
 obtain ⟨b2,I,t,b⟩:=byte_at a hs (q:=0) (x:=x) rfl
 rw[Nat.add_zero,hm] at b
 subst t
 have c: ¬((n:Int)+1<1):=by omega
 have k:13*(m:Int)≤3315:=by omega
 have l:16*(m:Int)≤4080:=by omega
 clear a d hm
 by_cases p:kind=1
 ·subst p
  have e:((n:Int)==13*(m:Int))=false:=by simp;omega
  have o: ¬((n:Int)=13*(m:Int)):=by omega
  go_enter Tryz.func156,Tryz.ntmps156
  go_wp2
  try rw[Exit.noGoto_ret]
  go_returns
  exact Fz (Ar B F)
 by_cases r:kind=2
 ·subst r
  have e:((n:Int)==16*(m:Int))=false:=by simp;omega
  go_enter Tryz.func156,Tryz.ntmps156
  go_wp2
  try rw[Exit.noGoto_ret]
  go_returns
  exact Fz (Ar B F)
 have G:(kind==1)=false:=by simpa using p
 have H:(kind==2)=false:=by simpa using r
 go_enter Tryz.func156,Tryz.ntmps156
 go_wp2
 try rw[Exit.noGoto_ret]
 go_returns
 exact Fz (Ar B F)
theorem WB(n:Nd)(v:Value)(B F:Ab)(w:World)(H:AN B v n)(P:EM n)(hs:Sat (B*F) w):
 Calls Tryz.prog 127 #[v] w fun e w'=>e= .returned (.tuple #[.int .i64 (GW n).1,.int .i64 (GW n).2.1,.int .i64 (GW n).2.2])∧Sat (B*F) w':=by
 obtain ⟨vE,vK,rfl,U,V⟩:=H
 obtain ⟨aE,cE,rfl,_⟩:=Ai.v U
 obtain ⟨D,G,rfl,_⟩:=Ai.v V
 have HE:=As U
 have HK:=As V
 have HO:=As P
 have h1:=P.e
 have h2:=P.k
 obtain ⟨le,r⟩:=Aq n.Ag.length
 obtain ⟨lk,s⟩:=Aq n.kids.length
 have q:=As r
 have y:=As s
 obtain ⟨rr,t⟩:=Aq (GW n)
 have HR:=As t
 rw[t]
 rw[r] at h1⊢
 rw[s] at h2⊢
 clear U V P r s t
 obtain ⟨lf,I⟩:=Aq n.leaf
 rw[I]
 clear I
 haveI:=hs.i
 go_enter Tryz.func127,Tryz.ntmps127
 go_wp2_with fail
 obtain ⟨N,H⟩:=Aq w.heap.size
 have X:Sat (Sl.block N Cy [.bool lf,.slice aE le cE,.slice D lk G]*(B*F)) (w.alloc (.cells #[.bool lf,.slice aE le cE,.slice D lk G] Cy)):=by
  rw[←H]
  exact ES
 try rw[H]
 generalize w.alloc (.cells #[.bool lf,.slice aE le cE,.slice D lk G] Cy)=w0 at X⊢
 clear H hs this
 haveI:=X.i
 go_region
 go_wp2_with fail
 go_loopg [5,6,8] le (fun g Z t6 t8 wr=> ∃(i:Nat)(a L:Int),t8= .int .i64 i∧Z= .int .i64 a∧t6= .int .i64 L∧i≤le∧0≤a∧a≤i*1048576∧ -1099511627777≤L∧L≤i*1048576∧Aside (g=le-i∧a=Aa (n.Ag.take i)∧L=Kr ((n.Ag.take i).map (·.lines)) 0)∧
  Sat (Sl.block N Cy [.bool lf,.slice aE le cE,.slice D lk G]*(B*F)) wr)
 case atStart=>exact ⟨0,0,0,rfl,rfl,rfl,by omega,by omega,by omega,by omega,by omega,⟨rfl,by simp[Aa],by simp[Kr]⟩,Ap (by ac_rfl)⟩
 obtain ⟨i,a,L,rfl,rfl,rfl,hi,ae,af,ag,ah,A,q1⟩:=hrel
 clear X
 haveI:=q1.i
 by_cases l:i<le
 · have c:(i:Int)<le:=by omega
   obtain ⟨x,hx⟩: ∃x,n.Ag[i]?=some x:=⟨_,List.getElem?_eq_getElem (by rw[q.out];exact l)⟩
   obtain ⟨b,o,rfl,r1,J,K,Y⟩:=BH HE.out hx
   have HX:=As hx
   have hb:=HO.out.es x (List.mem_of_getElem? hx)
   have z:Aside (Aa (n.Ag.take (i+1))=a+x.len):=(by rw[BZ hx,A.out.2.1]:_=_)
   have u:Aside (Kr ((n.Ag.take (i+1)).map (·.lines)) 0=(if x.lines<0 then-1099511627776 else L)+x.lines):=(by rw[XQ (fun e:Av=>e.lines) hx,A.out.2.2]:_=_)
   obtain ⟨x1,Q,m,p⟩:=x
   simp only at r1 J K Y hb
   clear hx
   have hw1:=Bb (a+m) (by omega)
   by_cases W:p<0
   ·have hw2:=Bb (-1099511627776+p) (by omega)
    go_wp2
    go_roundg (le-(i+1))
    case measure=>have:=A.out.1;omega
    refine ⟨i+1,a+m,-1099511627776+p,by go_num,rfl,rfl,by omega,by omega,by omega,by omega,by omega,⟨rfl,z.out.symm,?_⟩,Ap (by ac_rfl)⟩
    rw[u.out,if_pos W]
   have hw2:=Bb (L+p) (by omega)
   go_wp2
   go_roundg (le-(i+1))
   case measure=>have:=A.out.1;omega
   refine ⟨i+1,a+m,L+p,by go_num,rfl,rfl,by omega,by omega,by omega,by omega,by omega,⟨rfl,z.out.symm,?_⟩,Ap (by ac_rfl)⟩
   rw[u.out,if_neg (by omega)]
 have c: ¬(i:Int)<le:=by omega
 obtain rfl:i=le:=by omega
 have hx:n.Ag.take i=n.Ag:=List.take_of_length_le (by rw[q.out];exact Nat.le_refl _)
 have R:Aside (a=Aa n.Ag∧L=Kr (n.Ag.map (·.lines)) 0):=(by have:=A.out.2;rw[hx] at this;exact this:_∧_)
 clear A hx l
 go_wp2_with fail
 go_loopg [5,6,7,9] lk (fun g Z t6 t7 t9 wr=> ∃(j:Nat)(d M f:Int),t9= .int .i64 j∧Z= .int .i64 d∧t6= .int .i64 M∧t7= .int .i64 f∧j≤lk∧0≤d∧d≤12582912+j*1048576∧ -1099511627777≤M∧M≤12582912+j*1048576∧0≤f∧f≤12+j*1048576∧Aside (g=lk-j∧d=a+Bc (n.kids.take j)∧M=Kr ((n.kids.take j).map (·.lines)) L∧f=i+Bj (n.kids.take j))∧
  Sat (Sl.block N Cy [.bool lf,.slice aE i cE,.slice D lk G]*(B*F)) wr)
 case atStart=>exact ⟨0,a,L,i,rfl,rfl,rfl,rfl,by omega,by omega,by omega,by omega,by omega,by omega,by omega,⟨rfl,by simp[Bc],by simp[Kr],by simp[Bj]⟩,Ap (by ac_rfl)⟩
 obtain ⟨j,d,M,f,rfl,rfl,rfl,rfl,hj,ai,aj,ak,al,am,an,A,q2⟩:=hrel
 clear q1
 haveI:=q2.i
 by_cases l:j<lk
 · have c:(j:Int)<lk:=by omega
   obtain ⟨x,hx⟩: ∃x,n.kids[j]?=some x:=⟨_,List.getElem?_eq_getElem (by rw[y.out];exact l)⟩
   obtain ⟨b,o,rfl,r1,J,K,Y⟩:=Cp HK.out hx
   have HX:=As hx
   have hb:=HO.out.ks x (List.mem_of_getElem? hx)
   have z:Aside (a+Bc (n.kids.take (j+1))=d+x.bytes):=(by rw[GD hx,A.out.2.1];omega:_=_)
   have HC:Aside ((i:Int)+Bj (n.kids.take (j+1))=f+x.AA):=(by rw[FK hx,A.out.2.2.2];omega:_=_)
   have u:Aside (Kr ((n.kids.take (j+1)).map (·.lines)) L=(if x.lines<0 then-1099511627776 else M)+x.lines):=(by rw[XQ (fun e:Kd=>e.lines) hx,A.out.2.2.1]:_=_)
   obtain ⟨x1,Q,m,p⟩:=x
   simp only at r1 J K Y hb
   clear hx
   have hw1:=Bb (d+Q) (by omega)
   have hw3:=Bb (f+p) (by omega)
   by_cases W:m<0
   ·have hw2:=Bb (-1099511627776+m) (by omega)
    go_wp2
    go_roundg (lk-(j+1))
    case measure=>have:=A.out.1;omega
    refine ⟨j+1,d+Q,-1099511627776+m,f+p,by go_num,rfl,rfl,rfl,by omega,by omega,by omega,by omega,by omega,by omega,by omega,⟨rfl,z.out.symm,?_,HC.out.symm⟩,Ap (by ac_rfl)⟩
    rw[u.out,if_pos W]
   have hw2:=Bb (M+m) (by omega)
   go_wp2
   go_roundg (lk-(j+1))
   case measure=>have:=A.out.1;omega
   refine ⟨j+1,d+Q,M+m,f+p,by go_num,rfl,rfl,rfl,by omega,by omega,by omega,by omega,by omega,by omega,by omega,⟨rfl,z.out.symm,?_,HC.out.symm⟩,Ap (by ac_rfl)⟩
   rw[u.out,if_neg (by omega)]
 have c: ¬(j:Int)<lk:=by omega
 obtain rfl:j=lk:=by omega
 have hx:n.kids.take j=n.kids:=List.take_of_length_le (by rw[y.out];exact Nat.le_refl _)
 have HG:Aside (rr=(d,max M (-1),f)):=(by
  have O:=A.out.2
  rw[hx] at O
  rw[←HR.out]
  unfold GW
  rw[O.1,O.2.1,O.2.2,←R.out.1,←R.out.2,q.out]:_=_)
 obtain ⟨r1,J,K⟩:=rr
 have T:Aside (r1=d∧J=max M (-1)∧K=f):=(by have:=HG.out;simp only[Prod.mk.injEq] at this;exact this:_∧_∧_)
 clear HG HR A R hx
 go_wp2
 go_returns
 obtain ⟨e1,e2,e3⟩:=T.out
 subst e1 e2 e3
 exact ⟨rfl,Ar B F⟩
theorem S7(x:UInt8)(rest:List UInt8)(v:Value)(B F:Ab)(w:World)(Y:Reads B v (x::rest))(hs:Sat (B*F) w)(r:rest.length=x.toNat*13):
 Calls Tryz.prog 156 #[.int .i64 1,v] w (Kt B F (if may ⟨true,Gy x.toNat rest,[]⟩ then (⟨true,Gy x.toNat rest,[]⟩,0) else (I9,4))):=by
 obtain ⟨va,O,rfl,b0,bs⟩:=(Y F w hs).len
 obtain ⟨iB,W⟩:=Dp
 obtain ⟨i0,E⟩:=EW
 haveI:=hs.i
 have hx:=x.toNat_lt
 have f:Reads B (.slice (AH va O 1 1) rest.length (O-1)) rest:=by
  have J:=Reads.from Y 1 (by simp)
  simpa using J
 obtain ⟨m,hm⟩:=Aq x.toNat
 obtain ⟨n,hn⟩:=Aq rest.length
 rw[List.length_cons,hn] at Y b0⊢
 rw[hn] at r f
 rw[hm] at r hx⊢
 obtain ⟨rr,T⟩:=Aq (if may ⟨true,Gy m rest,[]⟩ then ((⟨true,Gy m rest,[]⟩:Nd),(0:Int)) else (I9,4))
 have al:=As T
 rw[T]
 clear T
 have a0: ∀w,(Instr.sliceAt 26 (.slice va (n+1) O) (some (.int .i64 1)) none none).run Tryz.prog w= .ok (.slice (AH va O 1 1) n (O-1)) w:=fun w=>E6 W 1 (by omega) w
 obtain ⟨b2,o2,e5,ap⟩:=byte_at Y hs (q:=0) (x:=x) rfl
 rw[Nat.add_zero,hm] at ap
 subst e5
 obtain ⟨V,a6⟩:=Aq (AH (some ⟨b2,o2,none⟩) O 1 1)
 rw[a6] at a0 f
 have z:Aside (Reads B (.slice V n (O-1)) rest∧rest.length=n∧n≤O-1∧n=m*13):=⟨f,hn,by omega,r⟩
 have av: ¬((n:Int)+1<1):=by omega
 have ba:13*(m:Int)≤3315:=by omega
 have bp:((n:Int)==13*(m:Int))=true:=by simp;omega
 have aw:(n:Int)=13*(m:Int):=by omega
 obtain ⟨H,ar⟩:=Aq (O-1)
 rw[ar] at a0 z
 clear Y hn hm f a6 r aw
 go_enter Tryz.func156,Tryz.ntmps156
 go_wp2_with fail
 obtain ⟨N,hN⟩:=Aq w.heap.size
 have q0:Sat (Sl.block (N+1) Cy [.bool true,.slice none 0 0,.slice none 0 0]*(Sl.block N Cy [.bool false,.slice none 0 0,.slice none 0 0]*(B*F))) ((w.alloc (.cells #[.bool false,.slice none 0 0,.slice none 0 0] Cy)).alloc (.cells #[.bool true,.slice none 0 0,.slice none 0 0] Cy)):=by
  rw[←hN]
  exact Ap (by ac_rfl)
 rw[hN]
 generalize ((w.alloc (.cells #[.bool false,.slice none 0 0,.slice none 0 0] Cy)).alloc (.cells #[.bool true,.slice none 0 0,.slice none 0 0] Cy))=w0 at q0⊢
 clear hN hs this
 go_loopg [9] m (fun g t9 wr=> ∃(i:Nat)(aE:Option Addr)(cE:Nat),t9= .int .i64 i∧i≤m∧Aside (g=m-i)∧
  Sat (rw AK 4 (.slice aE i cE) (AQ (Gy i rest))*(Sl.block (N+1) Cy [.bool true,.slice aE i cE,.slice none 0 0]*(Sl.block N Cy [.bool false,.slice none 0 0,.slice none 0 0]*(B*F)))) wr)
 case atStart=>
  exact ⟨0,none,0,rfl,by omega,(rfl:_=_),Sat.AG q0⟩
 obtain ⟨i,aE,cE,rfl,hi,A,j⟩:=hrel
 haveI:=j.i
 clear q0
 by_cases br:i<m
 · have a7:(i:Int)<m:=by omega
   obtain ⟨p,hp⟩:=Aq (13*i)
   obtain ⟨U,ax⟩:=Aq (p+13)
   have ab:U≤n:=by have:=z.out.2.2.2;omega
   have a8:n≤H:=z.out.2.2.1
   have hw1:IntKind.i64.wrap (13*(i:Int))=(p:Int):=(IntWalk.i64_in _ (by omega)).trans (by omega)
   have hw2:IntKind.i64.wrap ((p:Int)+13)=(U:Int):=(IntWalk.i64_in _ (by omega)).trans (by omega)
   have aq: ∀w,(Instr.sliceAt 26 (.slice V n H) (some (.int .i64 p)) (some (.int .i64 U)) none).run Tryz.prog w= .ok (.slice (AH V H p 1) 13 (H-p)) w:=fun w=>by
    have J:=DL (P:=Tryz.prog) W (a:=V) (n:=n) (c:=H) p U (by omega) (by omega) w
    rw[show U-p=13 by omega] at J
    exact J
   have k:Reads B (.slice (AH V H p 1) 13 (H-p)) ((rest.drop p).take 13):=fun F w h=>by
    have J:=(z.out.1 F w h).cut p U (by omega) ab
    rw[show U-p=13 by omega] at J
    exact J
   obtain ⟨pc,M⟩:=Aq ((rest.drop p).take 13)
   have ay:pc.length=13:=by rw[←M,List.length_take,List.length_drop,z.out.2.1];omega
   have HY:Aside (AQ (Gy (i+1) rest)=AQ (Gy i rest)++Dq (ue pc)):=(by rw[Vr,hp,M];simp[AQ]:_=_)
   rw[M] at k
   obtain ⟨I,a5⟩:=Aq (AH V H p 1)
   obtain ⟨d,a4⟩:=Aq (H-p)
   rw[a5,a4] at k aq
   have au:13≤d:=by omega
   obtain ⟨x0,G⟩: ∃x0,pc[0]?=some x0:=⟨pc[0]'(by omega),by simp⟩
   have rA:Reads B (.slice (AH I d 1 1) 4 (d-1)) ((pc.drop 1).take 4):=fun F w h=>(k F w h).cut 1 5 (by omega) (by omega)
   have rB:Reads B (.slice (AH I d 5 1) 4 (d-5)) ((pc.drop 5).take 4):=fun F w h=>(k F w h).cut 5 9 (by omega) (by omega)
   have rC:Reads B (.slice (AH I d 9 1) 4 (d-9)) ((pc.drop 9).take 4):=fun F w h=>(k F w h).cut 9 13 (by omega) (by omega)
   have hA: ∀w,(Instr.sliceAt 26 (.slice I 13 d) (some (.int .i64 1)) (some (.int .i64 5)) none).run Tryz.prog w= .ok (.slice (AH I d 1 1) 4 (d-1)) w:=fun w=>DL W 1 5 (by omega) (by omega) w
   have am: ∀w,(Instr.sliceAt 26 (.slice I 13 d) (some (.int .i64 5)) (some (.int .i64 9)) none).run Tryz.prog w= .ok (.slice (AH I d 5 1) 4 (d-5)) w:=fun w=>DL W 5 9 (by omega) (by omega) w
   have hC: ∀w,(Instr.sliceAt 26 (.slice I 13 d) (some (.int .i64 9)) (some (.int .i64 13)) none).run Tryz.prog w= .ok (.slice (AH I d 9 1) 4 (d-9)) w:=fun w=>DL W 9 13 (by omega) (by omega) w
   have nA:=fun F w q=>Eg _ _ B F w rA q (by simp;omega)
   have nB:=fun F w q=>Eg _ _ B F w rB q (by simp;omega)
   have nC:=fun F w q=>Eg _ _ B F w rC q (by simp;omega)
   have b:ue pc=⟨(x0.toNat:Int),i4 (BX ((pc.drop 1).take 4)),i4 (BX ((pc.drop 5).take 4)),i4 (BX ((pc.drop 9).take 4))⟩:=by
    have J:BX (pc.take 1)=x0.toNat:=by
     cases pc with
     |nil=>simp at G
     |cons y l=>simp at G;subst G;exact iY _
    unfold ue
    rw[J]
   obtain ⟨y2,hy2⟩:=Aq (i4 (BX ((pc.drop 1).take 4)))
   obtain ⟨y3,hy3⟩:=Aq (i4 (BX ((pc.drop 5).take 4)))
   obtain ⟨y4,hy4⟩:=Aq (i4 (BX ((pc.drop 9).take 4)))
   rw[hy2] at nA b
   rw[hy3] at nB b
   rw[hy4] at nC b
   rw[b] at HY
   have hq:=j.take B
   obtain ⟨bb,oo,e6,ao⟩:=byte_at k hq G
   rw[Nat.add_zero] at ao
   subst e6
   obtain ⟨cA,a1⟩:=Aq (AH (some ⟨bb,oo,none⟩) d 1 1)
   obtain ⟨cB,a2⟩:=Aq (AH (some ⟨bb,oo,none⟩) d 5 1)
   obtain ⟨cC,a3⟩:=Aq (AH (some ⟨bb,oo,none⟩) d 9 1)
   rw[a1] at hA nA
   rw[a2] at am nB
   rw[a3] at hC nC
   have NA:=As nA
   have NB:=As nB
   have NC:=As nC
   have bd:=x0.toNat_lt
   have bt:IntKind.i64.wrap (x0.toNat:Int)=(x0.toNat:Int):=IntWalk.i64_in _ (by omega)
   clear nA nB nC rA rB rC k b hy2 hy3 hy4 a1 a2 a3 hq G a5 a4 M ay hp ax ab a8
   have bq:i≤255:=by omega
   go_upto_region 12 with (fail)
   refine Dr.Ft (fun o=>o.cell? ⟨N+1,1,none⟩=some (.slice aE i cE)∧o.cell? ⟨bb,oo,none⟩=some (.int .u8 x0.toNat)) [19,20] (by kernel_rfl) ⟨Ac _ _ _,Ac _ _ _⟩ (fun D=>?_)
   refine Dr.Am 0 (v:=?v0) (by simp only[List.getElem?_toArray,List.getElem?_cons_succ,List.getElem?_cons_zero];rfl) (by kernel_rfl) ?hQ0 (.inl ⟨?hw0,fun o=>?hy0⟩) ?_
   case hy0=>go_simp;try (with_reducible rfl)
   case hQ0=>exact fun _ _ _ h=>h
   case hw0=>rfl
   simp only[Act.put,List.setIfInBounds_toArray,List.set_cons_zero,List.set_cons_succ]
   refine Dr.Dy 1 (v:=?v1) (by simp only[List.getElem?_toArray,List.getElem?_cons_succ,List.getElem?_cons_zero];rfl) (by kernel_rfl) ?hQ1 (.inl ⟨?hw1,fun o hw=>?hy1⟩) D ?_
   case hy1=>(try dsimp only at hw);go_simp;try (with_reducible rfl)
   case hQ1=>exact fun _ _ _ h=>h
   case hw1=>rfl
   simp only[Act.put,List.setIfInBounds_toArray,List.set_cons_zero,List.set_cons_succ]
   refine Dr.Am 2 (v:=?v2) (by simp only[List.getElem?_toArray,List.getElem?_cons_succ,List.getElem?_cons_zero];rfl) (by kernel_rfl) ?hQ2 (.inl ⟨?hw2,fun o=>?hy2⟩) ?_
   case hy2=>go_simp;try (with_reducible rfl)
   case hQ2=>exact fun _ _ _ h=>h
   case hw2=>rfl
   simp only[Act.put,List.setIfInBounds_toArray,List.set_cons_zero,List.set_cons_succ]
   refine Dr.Am 3 (v:=?v3) (by simp only[List.getElem?_toArray,List.getElem?_cons_succ,List.getElem?_cons_zero];rfl) (by kernel_rfl) ?hQ3 (.inl ⟨?hw3,fun o=>?hy3⟩) ?_
   case hy3=>go_simp;try (with_reducible rfl)
   case hQ3=>exact fun _ _ _ h=>h
   case hw3=>rfl
   simp only[Act.put,List.setIfInBounds_toArray,List.set_cons_zero,List.set_cons_succ]
   refine Dr.Dy 4 (v:=?v4) (by simp only[List.getElem?_toArray,List.getElem?_cons_succ,List.getElem?_cons_zero];rfl) (by kernel_rfl) ?hQ4 (.inl ⟨?hw4,fun o hw=>?hy4⟩) D ?_
   case hy4=>(try dsimp only at hw);go_simp;try (with_reducible rfl)
   case hQ4=>exact fun _ _ _ h=>h
   case hw4=>rfl
   simp only[Act.put,List.setIfInBounds_toArray,List.set_cons_zero,List.set_cons_succ]
   refine Dr.Am 5 (v:=?v5) (by simp only[List.getElem?_toArray,List.getElem?_cons_succ,List.getElem?_cons_zero];rfl) (by kernel_rfl) ?hQ5 (.inl ⟨?hw5,fun o=>?hy5⟩) ?_
   case hy5=>go_simp;try (with_reducible rfl)
   case hQ5=>exact fun _ _ _ h=>h
   case hw5=>rfl
   simp only[Act.put,List.setIfInBounds_toArray,List.set_cons_zero,List.set_cons_succ]
   refine Dr.Am 6 (v:=?v6) (by simp only[List.getElem?_toArray,List.getElem?_cons_succ,List.getElem?_cons_zero];rfl) (by kernel_rfl) ?hQ6 (.inl ⟨?hw6,fun o=>?hy6⟩) ?_
   case hy6=>go_simp;try (with_reducible rfl)
   case hQ6=>exact fun _ _ _ h=>h
   case hw6=>rfl
   simp only[Act.put,List.setIfInBounds_toArray,List.set_cons_zero,List.set_cons_succ]
   refine Dr.Am 7 (v:=?v7) (by simp only[List.getElem?_toArray,List.getElem?_cons_succ,List.getElem?_cons_zero];rfl) (by kernel_rfl) ?hQ7 (.inl ⟨?hw7,fun o=>?hy7⟩) ?_
   case hy7=>go_simp;try (with_reducible rfl)
   case hQ7=>exact fun _ _ _ h=>h
   case hw7=>rfl
   simp only[Act.put,List.setIfInBounds_toArray,List.set_cons_zero,List.set_cons_succ]
   refine Dr.Am 9 (v:=?v9) (by simp only[List.getElem?_toArray,List.getElem?_cons_succ,List.getElem?_cons_zero];rfl) (by kernel_rfl) ?hQ9 (.inl ⟨?hw9,fun o=>?hy9⟩) ?_
   case hy9=>go_simp;try (with_reducible rfl)
   case hQ9=>exact fun _ _ _ h=>h
   case hw9=>rfl
   simp only[Act.put,List.setIfInBounds_toArray,List.set_cons_zero,List.set_cons_succ]
   refine Dr.Am 10 (v:=?v10) (by simp only[List.getElem?_toArray,List.getElem?_cons_succ,List.getElem?_cons_zero];rfl) (by kernel_rfl) ?hQ10 (.inl ⟨?hw10,fun o=>?hy10⟩) ?_
   case hy10=>go_simp;try (with_reducible rfl)
   case hQ10=>exact fun _ _ _ h=>h
   case hw10=>rfl
   simp only[Act.put,List.setIfInBounds_toArray,List.set_cons_zero,List.set_cons_succ]
   refine Dr.Am 13 (v:=?v13) (by simp only[List.getElem?_toArray,List.getElem?_cons_succ,List.getElem?_cons_zero];rfl) (by kernel_rfl) ?hQ13 (.inl ⟨?hw13,fun o=>?hy13⟩) ?_
   case hy13=>go_simp;try (with_reducible rfl)
   case hQ13=>exact fun _ _ _ h=>h
   case hw13=>rfl
   simp only[Act.put,List.setIfInBounds_toArray,List.set_cons_zero,List.set_cons_succ]
   refine Dr.Am 14 (v:=?v14) (by simp only[List.getElem?_toArray,List.getElem?_cons_succ,List.getElem?_cons_zero];rfl) (by kernel_rfl) ?hQ14 (.inl ⟨?hw14,fun o=>?hy14⟩) ?_
   case hy14=>go_simp;try (with_reducible rfl)
   case hQ14=>exact fun _ _ _ h=>h
   case hw14=>rfl
   simp only[Act.put,List.setIfInBounds_toArray,List.set_cons_zero,List.set_cons_succ]
   refine Dr.CC 8 (by simp only[List.getElem?_toArray,List.getElem?_cons_succ,List.getElem?_cons_zero];rfl) (by kernel_rfl) ?_
   go_wp2_with ((go_simp;go_at_call 179;with_reducible refine Calls.mono (NA.out _ _ (Ae B)) ?_;rintro e w7 ⟨rfl,rfl⟩))
   refine Dr.C9 ⟨⟨Ac _ _ _,Ac _ _ _⟩,?_⟩
   refine Dr.CC 11 (by simp only[List.getElem?_toArray,List.getElem?_cons_succ,List.getElem?_cons_zero];rfl) (by kernel_rfl) ?_
   go_wp2_with ((go_simp;go_at_call 179;with_reducible refine Calls.mono (NB.out _ _ (Ae B)) ?_;rintro e w7 ⟨rfl,rfl⟩))
   refine Dr.C9 ⟨⟨Ac _ _ _,Ac _ _ _⟩,?_⟩
   refine Dr.Am 12 (v:=?v12) (by simp only[List.getElem?_toArray,List.getElem?_cons_succ,List.getElem?_cons_zero];rfl) (by kernel_rfl) ?hQ12 (.inl ⟨?hw12,fun o=>?hy12⟩) ?_
   case hy12=>go_simp;try (with_reducible rfl)
   case hQ12=>exact fun _ _ _ h=>h
   case hw12=>rfl
   simp only[Act.put,List.setIfInBounds_toArray,List.set_cons_zero,List.set_cons_succ]
   refine Dr.CC 15 (by simp only[List.getElem?_toArray,List.getElem?_cons_succ,List.getElem?_cons_zero];rfl) (by kernel_rfl) ?_
   go_wp2_with ((go_simp;go_at_call 179;with_reducible refine Calls.mono (NC.out _ _ (Ae B)) ?_;rintro e w7 ⟨rfl,rfl⟩))
   refine Dr.C9 ⟨⟨Ac _ _ _,Ac _ _ _⟩,?_⟩
   refine Dr.CC 16 (by simp only[List.getElem?_toArray,List.getElem?_cons_succ,List.getElem?_cons_zero];rfl) (by kernel_rfl) ?_
   go_wp2_with (fail)
   refine Dr.C9 ⟨⟨Ac _ _ _,Ac _ _ _⟩,?_⟩
   refine Dr.CC 17 (by simp only[List.getElem?_toArray,List.getElem?_cons_succ,List.getElem?_cons_zero];rfl) (by kernel_rfl) ?_
   go_wp2_with (fail)
   refine Dr.C9 ⟨⟨Ac _ _ _,Ac _ _ _⟩,?_⟩
   refine Dr.CC 18 (by simp only[List.getElem?_toArray,List.getElem?_cons_succ,List.getElem?_cons_zero];rfl) (by kernel_rfl) ?_
   go_wp2_with (at_builtin;refine Af E rfl (.tmp 46) (.tmp 62) rfl rfl rfl (Ae (rw AK 4 (.slice aE i cE) (AQ (Gy i rest)))) (Src.new (e:=AK) (s:=4) (vs:= [.int .i64 (x0.toNat:Int),.int .i64 y2,.int .i64 y3,.int .i64 y4]) (Ae (Sl.block _ AK [.int .i64 (x0.toNat:Int),.int .i64 y2,.int .i64 y3,.int .i64 y4])) rfl (by intro u hu;simp at hu;rcases hu with rfl|rfl|rfl|rfl<;>rfl)) (by unfold maxLen;omega) (by omega) ?_;intro a9 c9 w9 az aa;clear aa;haveI:=az.i)
   refine Dr.C9 ⟨⟨Ac _ _ _,Ac _ _ _⟩,?_⟩
   refine Dr.Gu [19,20] (os:= [_,_]) (by decide) (by simp only[List.map_cons,List.map_nil,List.getElem?_toArray,List.getElem?_cons_succ,List.getElem?_cons_zero];rfl) (by kernel_rfl) ?_
   go_wp2_with fail
   go_roundg (m-(i+1))
   case measure=>have:=A.out;omega
   refine ⟨i+1,a9,c9,by go_num,by omega,(rfl:_=_),?_⟩
   rw[HY.out]
   exact Ax (C:=Sl.block wr.heap.size AK [.int .i64 x0.toNat,.int .i64 y2,.int .i64 y3,.int .i64 y4]) (by unfold Dq;ac_rfl)
 have a7: ¬(i:Int)<m:=by omega
 obtain rfl:i=m:=by omega
 have b:=Yn rest i
 have K:A1 (rw AK 4 (.slice aE i cE) (AQ (Gy i rest))) (.slice aE i cE) (Gy i rest):=DH j b.symm
 obtain ⟨es,L⟩:=Aq (Gy i rest)
 rw[L] at b K j
 have ai:=As L
 have Q:Aside ((if may ⟨true,es,[]⟩ then ((⟨true,es,[]⟩:Nd),(0:Int)) else (I9,4))=rr):=(by rw[←al.out,L]:_=_)
 have Z:A1 (rw AK 4 (.slice aE i cE) (AQ es)) (.slice aE es.length cE) es:=by rw[b];exact K
 have t:=Ny es aE cE _ _ wr Z j
 rw[b] at t
 have ak:=As K
 haveI:=j.i
 obtain ⟨mb,R⟩:=Aq (may ⟨true,es,[]⟩)
 rw[R] at t
 have X:=As R
 clear L b K Z R ai
 go_wp2_with fail
 with_reducible refine Calls.mono t ?_
 rintro e w7 ⟨rfl,q7⟩
 haveI:=q7.i
 clear t j
 cases mb with
 | true =>
   have HF:Aside (rr=(⟨true,es,[]⟩,0)):=(by rw[←Q.out,X.out];rfl:_=_)
   go_wp2
   go_returns
   rw[HF.out]
   exact ⟨_,_,rfl,⟨_,_,rfl,ak.out,Ai.nil 4 _⟩,AD _ B F⟩
 | false =>
   have HF:Aside (rr=(I9,4)):=(by rw[←Q.out,X.out];rfl:_=_)
   go_wp2
   go_returns
   rw[HF.out]
   exact Fz (Ar B F)
