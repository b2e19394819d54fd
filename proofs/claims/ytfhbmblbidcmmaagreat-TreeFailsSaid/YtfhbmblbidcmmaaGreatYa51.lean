/- treeFails holds for every input. No condition. (part 51) -/
import Derived.Test.YtfhbmblbidcmmaaGreatYa39
import Derived.Test.YtfhbmblbidcmmaaGreatYa31
set_option linter.all false
set_option maxRecDepth 100000
set_option maxHeartbeats 3200000
namespace Go.Proofs.YtfhbmblbidcmmaaGreat
open Go.RowKit Go.Sl Go.Dk Go.Tr
def VT(x:As):Prop:=(x.src=0∨x.src=1)∧0≤x.pos∧1≤x.len∧x.pos≤16777216∧x.len≤16777216∧x.pos+x.len≤16777216∧ -1≤x.lines∧x.lines≤x.len∧(x.src=1∨x.lines= -1)
theorem Uy{x:As} :Ai x=true↔VT x∧x.len≤1048576:=by
 rw[BS]
 unfold VT
 omega
theorem YJ{x:As}(h: ¬VT x):Ai x=false:=by
 cases hm:Ai x with
 |false=>rfl
 |true=>exact absurd (Uy.1 hm).1 h
theorem Tw{l:List As}(h: ∀x∈l,VT x)(b:1≤l.length)(c:l.length≤12):may ⟨true,l,[]⟩=decide (Ab l≤1048576):=by
 by_cases hb:Ab l≤1048576
 · have hm: ∀x∈l,Ai x=true:=fun x hx=>Uy.2 ⟨h x hx,by
    have:=(Gp (o:=l) fun y hy=>by have:=h y hy;unfold VT at this;unfold Km;omega).2 x hx
    omega⟩
   rw[KG (fun x hx=>⟨rfl,hm x hx⟩) (fun x hx=>by cases hx),decide_eq_true hb]
   simp[BZ,BB]
   omega
 rw[decide_eq_false hb]
 by_cases hm: ∀x∈l,Ai x=true
 · rw[KG (fun x hx=>⟨rfl,hm x hx⟩) (fun x hx=>by cases hx)]
   simp[BZ,BB]
   omega
 obtain ⟨x,hx,a⟩: ∃x∈l,Ai x=false:=by
  rcases Classical.em (∃x∈l,Ai x=false) with h|h
  · exact h
  exfalso;apply hm;intro x hx
  cases hq:Ai x with
  |true=>rfl
  |false=>exact absurd ⟨x,hx,hq⟩ h
 exact FT hx (.inr a)
theorem Qi(H:Option Addr)(I:Nat)(es:List As)(a:Option Addr)(c:Nat)(B F:Ac)(w:World)(P:Aq B (.slice a es.length c) es)(hs:Sat (B*F) w):
 Calls Tryz.prog 64 #[.agg #[.bool true,.slice a es.length c,.slice H 0 I]] w fun e d=>e= .returned (.bool (may ⟨true,es,[]⟩))∧Sat (B*F) d:=by
 have Z:Aside (Aq B (.slice a es.length c) es):=P
 obtain ⟨s,t⟩: ∃r,may ⟨true,es,[]⟩=r:=⟨_,rfl⟩
 have K:Aside (may ⟨true,es,[]⟩=s):=t
 rw[t]
 obtain ⟨n,T⟩: ∃n,es.length=n:=⟨_,rfl⟩
 have u:Aside (es.length=n):=T
 rw[T] at P⊢
 clear P t T
 haveI:=hs.i
 by_cases h1:n<1
 · have X:n=0:=by omega
   have m:Aside (s=false):=(by
    have:es= []:=List.length_eq_zero_iff.1 (by rw[u.out,X])
    rw[←K.out,this];rfl:_=_)
   subst X
   go_enter Tryz.func64,Tryz.ntmps64
   go_wp2
   go_ret
   exact ⟨by rw[m.out];rfl,Av B F⟩
 by_cases h2:12<n
 · have m:Aside (s=false):=(by
    rw[←K.out]
    by_cases hm: ∀x∈es,Ai x=true
    · rw[KG (fun x hx=>⟨rfl,hm x hx⟩) (fun x hx=>by cases hx)]
      have:=u.out
      simp[BZ,BB]
      omega
    obtain ⟨x,hx,he⟩: ∃x∈es,Ai x=false:=by
     rcases Classical.em (∃x∈es,Ai x=false) with h|h
     · exact h
     exfalso;apply hm;intro x hx
     cases hq:Ai x with
     |true=>rfl
     |false=>exact absurd ⟨x,hx,hq⟩ h
    exact FT hx (.inr he):_=_)
   have L: ¬(n:Int)<1:=by omega
   have M:(12:Int)<n:=by omega
   go_enter Tryz.func64,Tryz.ntmps64
   go_wp2
   go_ret
   exact ⟨by rw[m.out];rfl,Av B F⟩
 have L: ¬(n:Int)<1:=by omega
 have M: ¬(12:Int)<n:=by omega
 go_enter Tryz.func64,Tryz.ntmps64
 go_wp2_with fail
 obtain ⟨N,Q⟩: ∃N,w.heap.size=N:=⟨_,rfl⟩
 have U:Sat (Sl.block N Ev [.bool true,.slice a n c,.slice H 0 I]*(B*F)) (w.alloc (.cells #[.bool true,.slice a n c,.slice H 0 I] Ev)):=by
  rw[←Q]
  exact Es
 try rw[Q]
 generalize w.alloc (.cells #[.bool true,.slice a n c,.slice H 0 I] Ev)=w0 at U⊢
 clear Q hs this
 go_loopg [3,4] n (fun g t3 t4 wr=> ∃(i:Nat)(l:Int),t4= .int .i64 i∧t3= .int .i64 l∧i≤n∧0≤l∧l≤i*16777216∧Aside (g=n-i∧l=Ab (es.take i)∧ ∀x∈es.take i,VT x)∧
  Sat (Sl.block N Ev [.bool true,.slice a n c,.slice H 0 I]*(B*F)) wr)
 case atStart=>exact ⟨0,0,rfl,rfl,by omega,by omega,by omega,⟨rfl,by simp[Ab],by simp⟩,U⟩
 obtain ⟨i,l,rfl,rfl,hi,a2,a3,A,q1⟩:=hrel
 clear U
 haveI:=q1.i
 by_cases R:i<n
 · have z:(i:Int)<n:=by omega
   obtain ⟨x,hx⟩: ∃x,es[i]?=some x:=⟨_,List.getElem?_eq_getElem (by rw[u.out];exact R)⟩
   obtain ⟨b,o,rfl,r1,r2,r3,r4⟩:=BW Z.out hx
   have v:Aside (es[i]?=some x):=hx
   obtain ⟨J,k,f,p⟩:=x
   simp only at r1 r2 r3 r4
   have q:Aside (¬VT ⟨J,k,f,p⟩→s=false):=fun h=>K.out.symm.trans (FT (List.mem_of_getElem? v.out) (.inr (YJ h)))
   clear hx
   by_cases j:VT ⟨J,k,f,p⟩
   · have W:Aside (VT ⟨J,k,f,p⟩):=j
     unfold VT at j
     simp only at j
     obtain ⟨G,k2,k3,k4,k5,k6,k7,k8,Y⟩:=j
     have a5:IntKind.i64.wrap (l+f)=l+f:=IntWalk.i64_in _ (by omega)
     have a4:IntKind.i64.wrap (k+f)=k+f:=IntWalk.i64_in _ (by omega)
     have d1:decide (k<0)=false:=decide_eq_false (by omega)
     have d2:decide (f<1)=false:=decide_eq_false (by omega)
     have d3:decide (16777216<k)=false:=decide_eq_false (by omega)
     have d4:decide (16777216<f)=false:=decide_eq_false (by omega)
     have d5:decide (16777216<k+f)=false:=decide_eq_false (by omega)
     have d6:decide (p< -1)=false:=decide_eq_false (by omega)
     have d7:decide (f<p)=false:=decide_eq_false (by omega)
     rcases G with G|G
     · obtain rfl:p= -1:=by omega
       subst G
       clear Y
       go_wp2_with fail
       go_region_held3 (fun d=>d.cell? ⟨N,1,none⟩=some (.slice (some ⟨b,o,none⟩) n c)∧d.cell? ⟨b,o+i*4,none⟩=some (.int .i64 0)∧d.cell? ⟨b,o+i*4+1,none⟩=some (.int .i64 k)∧d.cell? ⟨b,o+i*4+2,none⟩=some (.int .i64 f)∧d.cell? ⟨b,o+i*4+3,none⟩=some (.int .i64 (-1))) (first|exact ⟨Aa _ _ _,Aa _ _ _,Aa _ _ _,Aa _ _ _,Aa _ _ _⟩) (fail)
       go_wp2
       go_roundg (n-(i+1))
       case measure=>have:=A.out.1;omega
       refine ⟨i+1,l+f,by go_num,rfl,by omega,by omega,by omega,⟨rfl,?_,?_⟩,AR _ B F⟩
       ·rw[BX v.out,A.out.2.1]
       rw[AA v.out]
       intro y hy
       rcases List.mem_append.1 hy with hy|hy
       ·exact A.out.2.2 y hy
       simp at hy;subst hy;exact W.out
     subst G
     clear Y
     go_wp2_with fail
     go_region_held3 (fun d=>d.cell? ⟨N,1,none⟩=some (.slice (some ⟨b,o,none⟩) n c)∧d.cell? ⟨b,o+i*4,none⟩=some (.int .i64 1)∧d.cell? ⟨b,o+i*4+1,none⟩=some (.int .i64 k)∧d.cell? ⟨b,o+i*4+2,none⟩=some (.int .i64 f)∧d.cell? ⟨b,o+i*4+3,none⟩=some (.int .i64 p)) (first|exact ⟨Aa _ _ _,Aa _ _ _,Aa _ _ _,Aa _ _ _,Aa _ _ _⟩) (fail)
     go_wp2
     go_roundg (n-(i+1))
     case measure=>have:=A.out.1;omega
     refine ⟨i+1,l+f,by go_num,rfl,by omega,by omega,by omega,⟨rfl,?_,?_⟩,AR _ B F⟩
     · rw[BX v.out,A.out.2.1]
     rw[AA v.out]
     intro y hy
     rcases List.mem_append.1 hy with hy|hy
     · exact A.out.2.2 y hy
     simp at hy;subst hy;exact W.out
   have m:Aside (s=false):=q.out j
   have HO:Aside (¬VT ⟨J,k,f,p⟩):=j
   clear j q
   go_wp2_with fail
   go_region_held3 (fun d=>d.cell? ⟨N,1,none⟩=some (.slice (some ⟨b,o,none⟩) n c)∧d.cell? ⟨b,o+i*4,none⟩=some (.int .i64 J)∧d.cell? ⟨b,o+i*4+1,none⟩=some (.int .i64 k)∧d.cell? ⟨b,o+i*4+2,none⟩=some (.int .i64 f)∧d.cell? ⟨b,o+i*4+3,none⟩=some (.int .i64 p)) (first|exact ⟨Aa _ _ _,Aa _ _ _,Aa _ _ _,Aa _ _ _,Aa _ _ _⟩) (fail)
   all_goals go_wp2
   all_goals (try go_ret)
   all_goals first
    |exact ⟨by rw[m.out];rfl,Av B F⟩
    |(exfalso;apply HO.out;unfold VT;simp only;simp at*;omega)
 have z: ¬(i:Int)<n:=by omega
 obtain rfl:i=n:=by omega
 have hx:es.take i=es:=List.take_of_length_le (by rw[u.out];exact Nat.le_refl _)
 have V:Aside (s=decide (l≤1048576)):=(by
  have O:=A.out.2
  rw[hx] at O
  rw[←K.out,Tw O.2 (by rw[u.out];omega) (by rw[u.out];omega),O.1]:_=_)
 clear hx
 by_cases D:l≤1048576
 · have m:Aside (s=true):=V.out.trans (decide_eq_true D)
   go_wp2
   go_ret
   exact ⟨by rw[m.out];rfl,Av B F⟩
 have m:Aside (s=false):=V.out.trans (decide_eq_false D)
 go_wp2
 go_ret
 exact ⟨by rw[m.out];rfl,Av B F⟩
theorem RB(es:List As)(a:Option Addr)(c:Nat)(B F:Ac)(w:World)(b:Aq B (.slice a es.length c) es)(hs:Sat (B*F) w):
 Calls Tryz.prog 64 #[.agg #[.bool true,.slice a es.length c,.slice none 0 0]] w fun e d=>e= .returned (.bool (may ⟨true,es,[]⟩))∧Sat (B*F) d:=Qi none 0 es a c B F w b hs
theorem X6(y:As)(a:Option Addr)(c:Nat)(B F:Ac)(w:World)(b:Aq B (.slice a 1 c) [y])(hs:Sat (B*F) w):
 Calls Tryz.prog 64 #[.agg #[.bool true,.slice a 1 c,.slice none 0 0]] w fun e d=>e= .returned (.bool (Ai y))∧Sat (B*F) d:=by
 rw[←Up]
 exact RB [y] a c B F w b hs
