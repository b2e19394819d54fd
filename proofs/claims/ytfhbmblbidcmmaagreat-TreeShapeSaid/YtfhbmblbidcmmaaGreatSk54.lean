/- treeShape holds for every input. No condition. (part 54) -/
import Derived.Test.YtfhbmblbidcmmaaGreatSk53
import Derived.Test.YtfhbmblbidcmmaaGreatSk45
import Derived.Test.YtfhbmblbidcmmaaGreatSk37
import Derived.Test.YtfhbmblbidcmmaaGreatSk47
set_option linter.all false
set_option maxRecDepth 100000
set_option maxHeartbeats 12800000
namespace Go.Tr
theorem Td{k:Kd} :AA k=true↔(1≤k.As∧k.As<1048576∧1≤k.bytes∧k.bytes≤1048576∧(-1≤k.lines∧k.lines≤k.bytes)∧1≤k.A4∧k.A4≤k.bytes):=by
 unfold AA
 exact decide_eq_true_iff
end Go.Tr
namespace Go.Proofs.YtfhbmblbidcmmaaGreat
open Go.RowKit Go.Sl Go.Tr Go.Dk
theorem VB{l:List Kd}(h: ∀x∈l,AA x=true)(h1:2≤l.length)(a:l.length≤12):may ⟨false,[],l⟩=decide (B7 l≤1048576∧Be l≤1024):=by
 rw[He (fun x hx=>by cases hx) (fun x hx=>⟨rfl,h x hx⟩)]
 show decide (2≤l.length∧l.length≤12∧Aa []+B7 l≤1048576∧Be l≤1024)=_
 have e0:Aa []=0:=rfl
 exact decide_eq_decide.2 (by rw[e0];constructor<;>intro b<;>omega)
theorem Q3{l:List Kd}(h:l.length<2∨12<l.length):may ⟨false,[],l⟩=false:=by
 by_cases hm: ∀x∈l,AA x=true
 · rw[He (fun x hx=>by cases hx) (fun x hx=>⟨rfl,hm x hx⟩)]
   simp[Aa]
   omega
 obtain ⟨x,hx,a⟩: ∃x∈l,AA x=false:=by
  rcases Classical.em (∃x∈l,AA x=false) with h|h
  · exact h
  exfalso;apply hm;intro x hx
  cases hq:AA x with
  |true=>rfl
  |false=>exact absurd ⟨x,hx,hq⟩ h
 exact Hd hx (.inr a)
theorem R9(I:Option Addr)(J:Nat)(ks:List Kd)(a:Option Addr)(c:Nat)(B F:Ac)(w:World)(R:AR B (.slice a ks.length c) ks)(hs:Sat (B*F) w):
 Calls Tryz.prog 64 #[.agg #[.bool false,.slice I 0 J,.slice a ks.length c]] w fun e w'=>e= .returned (.bool (may ⟨false,[],ks⟩))∧Sat (B*F) w':=by
 have HK:Aside (AR B (.slice a ks.length c) ks):=R
 obtain ⟨u,z⟩:=Aq (may ⟨false,[],ks⟩)
 have K:Aside (may ⟨false,[],ks⟩=u):=z
 rw[z]
 obtain ⟨n,V⟩:=Aq ks.length
 have D:Aside (ks.length=n):=V
 rw[V] at R⊢
 clear R z V
 haveI:=hs.i
 by_cases h1:n<2
 · have f:Aside (u=false):=(by rw[←K.out];exact Q3 (.inl (by rw[D.out];exact h1)):_=_)
   have q:(n:Int)<2:=by omega
   have G:decide ((n:Int)<2)=true:=decide_eq_true q
   go_enter Tryz.func64,Tryz.ntmps64
   go_wp2
   go_ret
   exact ⟨by rw[f.out];rfl,Ap B F⟩
 by_cases h2:12<n
 · have f:Aside (u=false):=(by rw[←K.out];exact Q3 (.inr (by rw[D.out];exact h2)):_=_)
   have q: ¬(n:Int)<2:=by omega
   have v:(12:Int)<n:=by omega
   have G:decide ((n:Int)<2)=false:=decide_eq_false q
   have Q:decide ((12:Int)<n)=true:=decide_eq_true v
   go_enter Tryz.func64,Tryz.ntmps64
   go_wp2
   go_ret
   exact ⟨by rw[f.out];rfl,Ap B F⟩
 have q: ¬(n:Int)<2:=by omega
 have v: ¬(12:Int)<n:=by omega
 have G:decide ((n:Int)<2)=false:=decide_eq_false q
 have Q:decide ((12:Int)<n)=false:=decide_eq_false v
 go_enter Tryz.func64,Tryz.ntmps64
 go_wp2_with fail
 obtain ⟨N,T⟩:=Aq w.heap.size
 have W:Sat (Sl.block N C0 [.bool false,.slice I 0 J,.slice a n c]*(B*F)) (w.alloc (.cells #[.bool false,.slice I 0 J,.slice a n c] C0)):=by
  rw[←T]
  exact E3
 try rw[T]
 generalize w.alloc (.cells #[.bool false,.slice I 0 J,.slice a n c] C0)=w0 at W⊢
 clear T hs this
 go_loopg [3,7,8] n (fun g t3 t7 t8 wr=> ∃(i:Nat)(p s:Int),t8= .int .i64 i∧t3= .int .i64 p∧t7= .int .i64 s∧i≤n∧0≤p∧p≤i*16777216∧0≤s∧s≤i*16777216∧Aside (g=n-i∧p=B7 (ks.take i)∧s=Be (ks.take i)∧ ∀x∈ks.take i,AA x=true)∧
  Sat (Sl.block N C0 [.bool false,.slice I 0 J,.slice a n c]*(B*F)) wr)
 case atStart=>exact ⟨0,0,0,rfl,rfl,rfl,by omega,by omega,by omega,by omega,by omega,⟨rfl,by simp[B7],by simp[Be],by simp⟩,W⟩
 obtain ⟨i,p,s,rfl,rfl,rfl,hi,aa,ab,ac,ad,A,q1⟩:=hrel
 clear W
 haveI:=q1.i
 by_cases U:i<n
 · have H:(i:Int)<n:=by omega
   obtain ⟨x,hx⟩: ∃x,ks[i]?=some x:=⟨_,List.getElem?_eq_getElem (by rw[D.out];exact U)⟩
   obtain ⟨b,o,rfl,r1,r2,r3,r4⟩:=Co HK.out hx
   have L:Aside (ks[i]?=some x):=hx
   obtain ⟨l,d,m,k⟩:=x
   simp only at r1 r2 r3 r4
   clear hx
   by_cases j:AA ⟨l,d,m,k⟩=true
   ·have P:Aside (AA ⟨l,d,m,k⟩=true):=j
    rw[Td] at j
    simp only at j
    obtain ⟨k1,k2,k3,k4,⟨k5,k6⟩,k7,k8⟩:=j
    have hw1:=Bc (p+d) (by omega)
    have hw2:=Bc (s+k) (by omega)
    have X:decide (l<1)=false:=decide_eq_false (by omega)
    have Y:decide (1048576≤l)=false:=decide_eq_false (by omega)
    have Z:decide (d<1)=false:=decide_eq_false (by omega)
    have d4:decide (1048576<d)=false:=decide_eq_false (by omega)
    have d5:decide (m< -1)=false:=decide_eq_false (by omega)
    have d6:decide (d<m)=false:=decide_eq_false (by omega)
    have d7:decide (k<1)=false:=decide_eq_false (by omega)
    have d8:decide (d<k)=false:=decide_eq_false (by omega)
    go_wp2
    go_roundg (n-(i+1))
    case measure=>have:=A.out.1;omega
    refine ⟨i+1,p+d,s+k,by go_num,rfl,rfl,by omega,by omega,by omega,by omega,by omega,⟨rfl,?_,?_,?_⟩,AD _ B F⟩
    ·rw[Gu L.out,A.out.2.1]
    ·rw[FF L.out,A.out.2.2.1]
    rw[A9 L.out]
    intro y hy
    rcases List.mem_append.1 hy with hy|hy
    ·exact A.out.2.2.2 y hy
    simp at hy;subst hy;exact P.out
   have HO:Aside (AA ⟨l,d,m,k⟩≠true):=j
   have f:Aside (u=false):=K.out.symm.trans (Hd (n:=⟨false,[],ks⟩) (List.mem_of_getElem? L.out) (.inr (by simpa using j)))
   clear j
   by_cases c1:l<1
   ·have X:decide (l<1)=true:=decide_eq_true c1
    clear c1
    go_wp2
    go_ret
    exact ⟨by rw[f.out];rfl,Ap B F⟩
   have X:decide (l<1)=false:=decide_eq_false c1
   by_cases c2:1048576≤l
   ·have Y:decide (1048576≤l)=true:=decide_eq_true c2
    clear c2
    go_wp2
    go_ret
    exact ⟨by rw[f.out];rfl,Ap B F⟩
   have Y:decide (1048576≤l)=false:=decide_eq_false c2
   by_cases c3:d<1
   ·have Z:decide (d<1)=true:=decide_eq_true c3
    clear c3
    go_wp2
    go_ret
    exact ⟨by rw[f.out];rfl,Ap B F⟩
   have Z:decide (d<1)=false:=decide_eq_false c3
   by_cases c4:1048576<d
   ·have d4:decide (1048576<d)=true:=decide_eq_true c4
    clear c4
    go_wp2
    go_ret
    exact ⟨by rw[f.out];rfl,Ap B F⟩
   have d4:decide (1048576<d)=false:=decide_eq_false c4
   by_cases c5:m< -1
   ·have d5:decide (m< -1)=true:=decide_eq_true c5
    clear c5
    go_wp2
    go_ret
    exact ⟨by rw[f.out];rfl,Ap B F⟩
   have d5:decide (m< -1)=false:=decide_eq_false c5
   by_cases c6:d<m
   ·have d6:decide (d<m)=true:=decide_eq_true c6
    clear c6
    go_wp2
    go_ret
    exact ⟨by rw[f.out];rfl,Ap B F⟩
   have d6:decide (d<m)=false:=decide_eq_false c6
   by_cases c7:k<1
   ·have d7:decide (k<1)=true:=decide_eq_true c7
    clear c7
    go_wp2
    go_ret
    exact ⟨by rw[f.out];rfl,Ap B F⟩
   have d7:decide (k<1)=false:=decide_eq_false c7
   by_cases c8:d<k
   ·have d8:decide (d<k)=true:=decide_eq_true c8
    clear c8
    go_wp2
    go_ret
    exact ⟨by rw[f.out];rfl,Ap B F⟩
   have d8:decide (d<k)=false:=decide_eq_false c8
   exact absurd (Td.2 (by show 1≤l∧l<1048576∧1≤d∧d≤1048576∧(-1≤m∧m≤d)∧1≤k∧k≤d;omega)) HO.out
 have H: ¬(i:Int)<n:=by omega
 obtain rfl:i=n:=by omega
 have hx:ks.take i=ks:=List.take_of_length_le (by rw[D.out];exact Nat.le_refl _)
 have O:Aside (u=decide (p≤1048576∧s≤1024)):=(by
  have M:=A.out.2
  rw[hx] at M
  rw[←K.out,VB M.2.2 (by rw[D.out];omega) (by rw[D.out];omega),M.1,M.2.1]:_=_)
 clear hx
 by_cases r:p≤1048576
 · by_cases t:s≤1024
   ·have f:Aside (u=true):=O.out.trans (decide_eq_true ⟨r,t⟩)
    have e1:decide (p≤1048576)=true:=decide_eq_true r
    have e2:decide (s≤1024)=true:=decide_eq_true t
    go_wp2
    go_ret
    exact ⟨by rw[f.out];rfl,Ap B F⟩
   have f:Aside (u=false):=O.out.trans (decide_eq_false fun h=>t h.2)
   have e1:decide (p≤1048576)=true:=decide_eq_true r
   have e2:decide (s≤1024)=false:=decide_eq_false t
   go_wp2
   go_ret
   exact ⟨by rw[f.out];rfl,Ap B F⟩
 have f:Aside (u=false):=O.out.trans (decide_eq_false fun h=>r h.1)
 have e1:decide (p≤1048576)=false:=decide_eq_false r
 go_wp2
 go_ret
 exact ⟨by rw[f.out];rfl,Ap B F⟩
theorem T6(ks:List Kd)(a:Option Addr)(c:Nat)(B F:Ac)(w:World)(b:AR B (.slice a ks.length c) ks)(hs:Sat (B*F) w):
 Calls Tryz.prog 64 #[.agg #[.bool false,.slice none 0 0,.slice a ks.length c]] w fun e d=>e= .returned (.bool (may ⟨false,[],ks⟩))∧Sat (B*F) d:=R9 none 0 ks a c B F w b hs
theorem byte_at{B F:Ac}{w:World}{a:Option Addr}{n c:Nat}{l:List UInt8}(h:Reads B (.slice a n c) l)(hs:Sat (B*F) w){q:Nat}{x:UInt8}(hq:l[q]?=some x): ∃b o,a=some ⟨b,o,none⟩∧Pj B b (o+q) (.int .u8 x.toNat):=by
 obtain ⟨b,o,e,_⟩:=(h F w hs).at hq
 refine ⟨b,o,e,⟨fun G g d=>?_⟩⟩
 obtain ⟨b',o',e',f⟩:=(h G g d).at hq
 rw[e] at e'
 cases e'
 exact f
theorem RD(kind:Int)(v:Value)(B F:Ac)(w:World)(a:Reads B v [])(hs:Sat (B*F) w):
 Calls Tryz.prog 156 #[.int .i64 kind,v] w (I7 B F (GP,4)):=by
 obtain ⟨d,e,rfl,b,c⟩:=(a F w hs).len
 haveI:=hs.i
 have e0:([]:List UInt8).length=0:=rfl
 rw[e0]
 go_enter Tryz.func156,Tryz.ntmps156
 go_wp2
 go_returns
 exact Fm (Ap B F)
theorem Jp(kind:Int)(x:UInt8)(rest:List UInt8)(v:Value)(B F:Ac)(w:World)(a:Reads B v (x::rest))(hs:Sat (B*F) w)(hl:rest.length≤1048576)(h1: ¬(kind=1∧rest.length=x.toNat*13))(k: ¬(kind=2∧rest.length=x.toNat*16)):
 Calls Tryz.prog 156 #[.int .i64 kind,v] w (I7 B F (GP,4)):=by
 obtain ⟨j,b,rfl,g,y⟩:=(a F w hs).len
 obtain ⟨i0,E⟩:=D2
 haveI:=hs.i
 have hx:=x.toNat_lt
 obtain ⟨m,hm⟩:=Aq x.toNat
 obtain ⟨n,e⟩:=Aq rest.length
 rw[List.length_cons,e] at a g⊢
 rw[e] at hl h1 k
 have D:Aside (x.toNat=m):=hm
 rw[hm] at h1 k hx
 have z:Aside (Reads B (.slice j (n+1) b) (x::rest)):=a
 have u: ∀w,(Instr.sliceAt 26 (.slice j (n+1) b) (some (.int .i64 1)) none none).run Tryz.prog w= .ok (.slice (AJ j b 1 1) n (b-1)) w:=fun w=>Er E 1 (by omega) w
 obtain ⟨b2,I,t,c⟩:=byte_at a hs (q:=0) (x:=x) rfl
 rw[Nat.add_zero,hm] at c
 subst t
 have d: ¬((n:Int)+1<1):=by omega
 have l:13*(m:Int)≤3315:=by omega
 have o:16*(m:Int)≤4080:=by omega
 clear a e hm
 by_cases r:kind=1
 ·subst r
  have f:((n:Int)==13*(m:Int))=false:=by simp;omega
  have p: ¬((n:Int)=13*(m:Int)):=by omega
  go_enter Tryz.func156,Tryz.ntmps156
  go_wp2
  try rw[Exit.noGoto_ret]
  go_returns
  exact Fm (Ap B F)
 by_cases s:kind=2
 ·subst s
  have f:((n:Int)==16*(m:Int))=false:=by simp;omega
  go_enter Tryz.func156,Tryz.ntmps156
  go_wp2
  try rw[Exit.noGoto_ret]
  go_returns
  exact Fm (Ap B F)
 have G:(kind==1)=false:=by simpa using r
 have H:(kind==2)=false:=by simpa using s
 go_enter Tryz.func156,Tryz.ntmps156
 go_wp2
 try rw[Exit.noGoto_ret]
 go_returns
 exact Fm (Ap B F)
theorem Vy(n:Nd)(v:Value)(B F:Ac)(w:World)(H:AG B v n)(P:Eb n)(hs:Sat (B*F) w):
 Calls Tryz.prog 127 #[v] w fun e w'=>e= .returned (.tuple #[.int .i64 (Gl n).1,.int .i64 (Gl n).2.1,.int .i64 (Gl n).2.2])∧Sat (B*F) w':=by
 obtain ⟨vE,vK,rfl,U,V⟩:=H
 obtain ⟨aE,cE,rfl,_⟩:=Al.v U
 obtain ⟨u,y,rfl,_⟩:=Al.v V
 have HE:Aside (An B (.slice aE n.Ag.length cE) n.Ag):=U
 have HK:Aside (AR B (.slice u n.kids.length y) n.kids):=V
 have HO:Aside (Eb n):=P
 have h1:=P.e
 have h2:=P.k
 obtain ⟨le,r⟩:=Aq n.Ag.length
 obtain ⟨lk,s⟩:=Aq n.kids.length
 have q:Aside (n.Ag.length=le):=r
 have D:Aside (n.kids.length=lk):=s
 obtain ⟨Z,t⟩:=Aq (Gl n)
 have HR:Aside (Gl n=Z):=t
 rw[t]
 rw[r] at h1⊢
 rw[s] at h2⊢
 clear U V P r s t
 obtain ⟨lf,I⟩:=Aq n.leaf
 rw[I]
 clear I
 haveI:=hs.i
 go_enter Tryz.func127,Tryz.ntmps127
 go_wp2_with fail
 obtain ⟨N,H⟩:=Aq w.heap.size
 have X:Sat (Sl.block N C0 [.bool lf,.slice aE le cE,.slice u lk y]*(B*F)) (w.alloc (.cells #[.bool lf,.slice aE le cE,.slice u lk y] C0)):=by
  rw[←H]
  exact E3
 try rw[H]
 generalize w.alloc (.cells #[.bool lf,.slice aE le cE,.slice u lk y] C0)=w0 at X⊢
 clear H hs this
 haveI:=X.i
 go_region
 go_wp2_with fail
 go_loopg [5,6,8] le (fun g t5 t6 t8 wr=> ∃(i:Nat)(a L:Int),t8= .int .i64 i∧t5= .int .i64 a∧t6= .int .i64 L∧i≤le∧0≤a∧a≤i*1048576∧ -1099511627777≤L∧L≤i*1048576∧Aside (g=le-i∧a=Aa (n.Ag.take i)∧L=JV ((n.Ag.take i).map (·.lines)) 0)∧
  Sat (Sl.block N C0 [.bool lf,.slice aE le cE,.slice u lk y]*(B*F)) wr)
 case atStart=>exact ⟨0,0,0,rfl,rfl,rfl,by omega,by omega,by omega,by omega,by omega,⟨rfl,by simp[Aa],by simp[JV]⟩,Av (by ac_rfl)⟩
 obtain ⟨i,a,L,rfl,rfl,rfl,hi,ae,af,ag,ah,A,q1⟩:=hrel
 clear X
 haveI:=q1.i
 by_cases l:i<le
 · have c:(i:Int)<le:=by omega
   obtain ⟨x,hx⟩: ∃x,n.Ag[i]?=some x:=⟨_,List.getElem?_eq_getElem (by rw[q.out];exact l)⟩
   obtain ⟨b,o,rfl,r1,J,K,Y⟩:=BD HE.out hx
   have HX:Aside (n.Ag[i]?=some x):=hx
   have hb:=HO.out.es x (List.mem_of_getElem? hx)
   have G:Aside (Aa (n.Ag.take (i+1))=a+x.len):=(by rw[BR hx,A.out.2.1]:_=_)
   have z:Aside (JV ((n.Ag.take (i+1)).map (·.lines)) 0=(if x.lines<0 then-1099511627776 else L)+x.lines):=(by rw[W8 (fun e:Au=>e.lines) hx,A.out.2.2]:_=_)
   obtain ⟨x1,Q,m,p⟩:=x
   simp only at r1 J K Y hb
   clear hx
   have hw1:=Bc (a+m) (by omega)
   by_cases W:p<0
   ·have hw2:=Bc (-1099511627776+p) (by omega)
    go_wp2
    go_roundg (le-(i+1))
    case measure=>have:=A.out.1;omega
    refine ⟨i+1,a+m,-1099511627776+p,by go_num,rfl,rfl,by omega,by omega,by omega,by omega,by omega,⟨rfl,G.out.symm,?_⟩,Av (by ac_rfl)⟩
    rw[z.out,if_pos W]
   have hw2:=Bc (L+p) (by omega)
   go_wp2
   go_roundg (le-(i+1))
   case measure=>have:=A.out.1;omega
   refine ⟨i+1,a+m,L+p,by go_num,rfl,rfl,by omega,by omega,by omega,by omega,by omega,⟨rfl,G.out.symm,?_⟩,Av (by ac_rfl)⟩
   rw[z.out,if_neg (by omega)]
 have c: ¬(i:Int)<le:=by omega
 obtain rfl:i=le:=by omega
 have hx:n.Ag.take i=n.Ag:=List.take_of_length_le (by rw[q.out];exact Nat.le_refl _)
 have R:Aside (a=Aa n.Ag∧L=JV (n.Ag.map (·.lines)) 0):=(by have:=A.out.2;rw[hx] at this;exact this:_∧_)
 clear A hx l
 go_wp2_with fail
 go_loopg [5,6,7,9] lk (fun g t5 t6 t7 t9 wr=> ∃(j:Nat)(d M f:Int),t9= .int .i64 j∧t5= .int .i64 d∧t6= .int .i64 M∧t7= .int .i64 f∧j≤lk∧0≤d∧d≤12582912+j*1048576∧ -1099511627777≤M∧M≤12582912+j*1048576∧0≤f∧f≤12+j*1048576∧Aside (g=lk-j∧d=a+B7 (n.kids.take j)∧M=JV ((n.kids.take j).map (·.lines)) L∧f=i+Be (n.kids.take j))∧
  Sat (Sl.block N C0 [.bool lf,.slice aE i cE,.slice u lk y]*(B*F)) wr)
 case atStart=>exact ⟨0,a,L,i,rfl,rfl,rfl,rfl,by omega,by omega,by omega,by omega,by omega,by omega,by omega,⟨rfl,by simp[B7],by simp[JV],by simp[Be]⟩,Av (by ac_rfl)⟩
 obtain ⟨j,d,M,f,rfl,rfl,rfl,rfl,hj,ai,aj,ak,al,am,an,A,q2⟩:=hrel
 clear q1
 haveI:=q2.i
 by_cases l:j<lk
 · have c:(j:Int)<lk:=by omega
   obtain ⟨x,hx⟩: ∃x,n.kids[j]?=some x:=⟨_,List.getElem?_eq_getElem (by rw[D.out];exact l)⟩
   obtain ⟨b,o,rfl,r1,J,K,Y⟩:=Co HK.out hx
   have HX:Aside (n.kids[j]?=some x):=hx
   have hb:=HO.out.ks x (List.mem_of_getElem? hx)
   have G:Aside (a+B7 (n.kids.take (j+1))=d+x.bytes):=(by rw[Gu hx,A.out.2.1];omega:_=_)
   have HC:Aside ((i:Int)+Be (n.kids.take (j+1))=f+x.A4):=(by rw[FF hx,A.out.2.2.2];omega:_=_)
   have z:Aside (JV ((n.kids.take (j+1)).map (·.lines)) L=(if x.lines<0 then-1099511627776 else M)+x.lines):=(by rw[W8 (fun e:Kd=>e.lines) hx,A.out.2.2.1]:_=_)
   obtain ⟨x1,Q,m,p⟩:=x
   simp only at r1 J K Y hb
   clear hx
   have hw1:=Bc (d+Q) (by omega)
   have hw3:=Bc (f+p) (by omega)
   by_cases W:m<0
   ·have hw2:=Bc (-1099511627776+m) (by omega)
    go_wp2
    go_roundg (lk-(j+1))
    case measure=>have:=A.out.1;omega
    refine ⟨j+1,d+Q,-1099511627776+m,f+p,by go_num,rfl,rfl,rfl,by omega,by omega,by omega,by omega,by omega,by omega,by omega,⟨rfl,G.out.symm,?_,HC.out.symm⟩,Av (by ac_rfl)⟩
    rw[z.out,if_pos W]
   have hw2:=Bc (M+m) (by omega)
   go_wp2
   go_roundg (lk-(j+1))
   case measure=>have:=A.out.1;omega
   refine ⟨j+1,d+Q,M+m,f+p,by go_num,rfl,rfl,rfl,by omega,by omega,by omega,by omega,by omega,by omega,by omega,⟨rfl,G.out.symm,?_,HC.out.symm⟩,Av (by ac_rfl)⟩
   rw[z.out,if_neg (by omega)]
 have c: ¬(j:Int)<lk:=by omega
 obtain rfl:j=lk:=by omega
 have hx:n.kids.take j=n.kids:=List.take_of_length_le (by rw[D.out];exact Nat.le_refl _)
 have HG:Aside (Z=(d,max M (-1),f)):=(by
  have O:=A.out.2
  rw[hx] at O
  rw[←HR.out]
  unfold Gl
  rw[O.1,O.2.1,O.2.2,←R.out.1,←R.out.2,q.out]:_=_)
 obtain ⟨r1,J,K⟩:=Z
 have T:Aside (r1=d∧J=max M (-1)∧K=f):=(by have:=HG.out;simp only[Prod.mk.injEq] at this;exact this:_∧_∧_)
 clear HG HR A R hx
 go_wp2
 go_returns
 obtain ⟨e1,e2,e3⟩:=T.out
 subst e1 e2 e3
 exact ⟨rfl,Ap B F⟩
theorem RC(x:UInt8)(rest:List UInt8)(v:Value)(B F:Ac)(w:World)(Y:Reads B v (x::rest))(hs:Sat (B*F) w)(r:rest.length=x.toNat*13):
 Calls Tryz.prog 156 #[.int .i64 1,v] w (I7 B F (if may ⟨true,FA x.toNat rest,[]⟩ then (⟨true,FA x.toNat rest,[]⟩,0) else (GP,4))):=by
 obtain ⟨va,O,rfl,b5,bw⟩:=(Y F w hs).len
 obtain ⟨iB,W⟩:=D2
 obtain ⟨i0,E⟩:=Ey
 haveI:=hs.i
 have hx:=x.toNat_lt
 have j:Reads B (.slice (AJ va O 1 1) rest.length (O-1)) rest:=by
  have J:=Reads.from Y 1 (by simp)
  simpa using J
 obtain ⟨m,hm⟩:=Aq x.toNat
 obtain ⟨n,hn⟩:=Aq rest.length
 rw[List.length_cons,hn] at Y b5⊢
 rw[hn] at r j
 rw[hm] at r hx⊢
 obtain ⟨rr,T⟩:=Aq (if may ⟨true,FA m rest,[]⟩ then ((⟨true,FA m rest,[]⟩:Nd),(0:Int)) else (GP,4))
 have ap:Aside ((if may ⟨true,FA m rest,[]⟩ then ((⟨true,FA m rest,[]⟩:Nd),(0:Int)) else (GP,4))=rr):=T
 rw[T]
 clear T
 have a0: ∀w,(Instr.sliceAt 26 (.slice va (n+1) O) (some (.int .i64 1)) none none).run Tryz.prog w= .ok (.slice (AJ va O 1 1) n (O-1)) w:=fun w=>Er W 1 (by omega) w
 obtain ⟨b2,o2,e5,av⟩:=byte_at Y hs (q:=0) (x:=x) rfl
 rw[Nat.add_zero,hm] at av
 subst e5
 obtain ⟨V,a6⟩:=Aq (AJ (some ⟨b2,o2,none⟩) O 1 1)
 rw[a6] at a0 j
 have z:Aside (Reads B (.slice V n (O-1)) rest∧rest.length=n∧n≤O-1∧n=m*13):=⟨j,hn,by omega,r⟩
 have az: ¬((n:Int)+1<1):=by omega
 have ba:13*(m:Int)≤3315:=by omega
 have bt:((n:Int)==13*(m:Int))=true:=by simp;omega
 have b0:(n:Int)=13*(m:Int):=by omega
 obtain ⟨H,ax⟩:=Aq (O-1)
 rw[ax] at a0 z
 clear Y hn hm j a6 r b0
 go_enter Tryz.func156,Tryz.ntmps156
 go_wp2_with fail
 obtain ⟨N,hN⟩:=Aq w.heap.size
 have q0:Sat (Sl.block (N+1) C0 [.bool true,.slice none 0 0,.slice none 0 0]*(Sl.block N C0 [.bool false,.slice none 0 0,.slice none 0 0]*(B*F))) ((w.alloc (.cells #[.bool false,.slice none 0 0,.slice none 0 0] C0)).alloc (.cells #[.bool true,.slice none 0 0,.slice none 0 0] C0)):=by
  rw[←hN]
  exact Av (by ac_rfl)
 rw[hN]
 generalize ((w.alloc (.cells #[.bool false,.slice none 0 0,.slice none 0 0] C0)).alloc (.cells #[.bool true,.slice none 0 0,.slice none 0 0] C0))=w0 at q0⊢
 clear hN hs this
 go_loopg [9] m (fun g t9 wr=> ∃(i:Nat)(aE:Option Addr)(cE:Nat),t9= .int .i64 i∧i≤m∧Aside (g=m-i)∧
  Sat (rw AM 4 (.slice aE i cE) (Bb (FA i rest))*(Sl.block (N+1) C0 [.bool true,.slice aE i cE,.slice none 0 0]*(Sl.block N C0 [.bool false,.slice none 0 0,.slice none 0 0]*(B*F)))) wr)
 case atStart=>
  exact ⟨0,none,0,rfl,by omega,(rfl:_=_),Sat.AH q0⟩
 obtain ⟨i,aE,cE,rfl,hi,A,k⟩:=hrel
 haveI:=k.i
 clear q0
 by_cases bv:i<m
 · have a7:(i:Int)<m:=by omega
   obtain ⟨p,hp⟩:=Aq (13*i)
   obtain ⟨U,b1⟩:=Aq (p+13)
   have ab:U≤n:=by have:=z.out.2.2.2;omega
   have a8:n≤H:=z.out.2.2.1
   have hw1:IntKind.i64.wrap (13*(i:Int))=(p:Int):=(IntWalk.i64_in _ (by omega)).trans (by omega)
   have hw2:IntKind.i64.wrap ((p:Int)+13)=(U:Int):=(IntWalk.i64_in _ (by omega)).trans (by omega)
   have aw: ∀w,(Instr.sliceAt 26 (.slice V n H) (some (.int .i64 p)) (some (.int .i64 U)) none).run Tryz.prog w= .ok (.slice (AJ V H p 1) 13 (H-p)) w:=fun w=>by
    have J:=D8 (P:=Tryz.prog) W (a:=V) (n:=n) (c:=H) p U (by omega) (by omega) w
    rw[show U-p=13 by omega] at J
    exact J
   have o:Reads B (.slice (AJ V H p 1) 13 (H-p)) ((rest.drop p).take 13):=fun F w h=>by
    have J:=(z.out.1 F w h).cut p U (by omega) ab
    rw[show U-p=13 by omega] at J
    exact J
   obtain ⟨pc,M⟩:=Aq ((rest.drop p).take 13)
   have b3:pc.length=13:=by rw[←M,List.length_take,List.length_drop,z.out.2.1];omega
   have HY:Aside (Bb (FA (i+1) rest)=Bb (FA i rest)++Cx (ue pc)):=(by rw[Ux,hp,M];simp[Bb]:_=_)
   rw[M] at o
   obtain ⟨I,a5⟩:=Aq (AJ V H p 1)
   obtain ⟨d,a4⟩:=Aq (H-p)
   rw[a5,a4] at o aw
   have ay:13≤d:=by omega
   obtain ⟨x0,G⟩: ∃x0,pc[0]?=some x0:=⟨pc[0]'(by omega),by simp⟩
   have rA:Reads B (.slice (AJ I d 1 1) 4 (d-1)) ((pc.drop 1).take 4):=fun F w h=>(o F w h).cut 1 5 (by omega) (by omega)
   have rB:Reads B (.slice (AJ I d 5 1) 4 (d-5)) ((pc.drop 5).take 4):=fun F w h=>(o F w h).cut 5 9 (by omega) (by omega)
   have rC:Reads B (.slice (AJ I d 9 1) 4 (d-9)) ((pc.drop 9).take 4):=fun F w h=>(o F w h).cut 9 13 (by omega) (by omega)
   have hA: ∀w,(Instr.sliceAt 26 (.slice I 13 d) (some (.int .i64 1)) (some (.int .i64 5)) none).run Tryz.prog w= .ok (.slice (AJ I d 1 1) 4 (d-1)) w:=fun w=>D8 W 1 5 (by omega) (by omega) w
   have aq: ∀w,(Instr.sliceAt 26 (.slice I 13 d) (some (.int .i64 5)) (some (.int .i64 9)) none).run Tryz.prog w= .ok (.slice (AJ I d 5 1) 4 (d-5)) w:=fun w=>D8 W 5 9 (by omega) (by omega) w
   have hC: ∀w,(Instr.sliceAt 26 (.slice I 13 d) (some (.int .i64 9)) (some (.int .i64 13)) none).run Tryz.prog w= .ok (.slice (AJ I d 9 1) 4 (d-9)) w:=fun w=>D8 W 9 13 (by omega) (by omega) w
   have nA:=fun F w q=>DN _ _ B F w rA q (by simp;omega)
   have nB:=fun F w q=>DN _ _ B F w rB q (by simp;omega)
   have nC:=fun F w q=>DN _ _ B F w rC q (by simp;omega)
   have b:ue pc=⟨(x0.toNat:Int),i4 (BZ ((pc.drop 1).take 4)),i4 (BZ ((pc.drop 5).take 4)),i4 (BZ ((pc.drop 9).take 4))⟩:=by
    have J:BZ (pc.take 1)=x0.toNat:=by
     cases pc with
     |nil=>simp at G
     |cons y l=>simp at G;subst G;exact dH _
    unfold ue
    rw[J]
   obtain ⟨y2,hy2⟩:=Aq (i4 (BZ ((pc.drop 1).take 4)))
   obtain ⟨y3,hy3⟩:=Aq (i4 (BZ ((pc.drop 5).take 4)))
   obtain ⟨y4,hy4⟩:=Aq (i4 (BZ ((pc.drop 9).take 4)))
   rw[hy2] at nA b
   rw[hy3] at nB b
   rw[hy4] at nC b
   rw[b] at HY
   have hq:=k.take B
   obtain ⟨bb,oo,e6,au⟩:=byte_at o hq G
   rw[Nat.add_zero] at au
   subst e6
   obtain ⟨cA,a1⟩:=Aq (AJ (some ⟨bb,oo,none⟩) d 1 1)
   obtain ⟨cB,a2⟩:=Aq (AJ (some ⟨bb,oo,none⟩) d 5 1)
   obtain ⟨cC,a3⟩:=Aq (AJ (some ⟨bb,oo,none⟩) d 9 1)
   rw[a1] at hA nA
   rw[a2] at aq nB
   rw[a3] at hC nC
   have NA:Aside (∀(F:Ac)(w:World),Sat (B*F) w→Calls Tryz.prog 179 #[.slice cA 4 (d-1)] w fun e f=>e= .returned (.int .i64 y2)∧w=f):=nA
   have NB:Aside (∀(F:Ac)(w:World),Sat (B*F) w→Calls Tryz.prog 179 #[.slice cB 4 (d-5)] w fun e f=>e= .returned (.int .i64 y3)∧w=f):=nB
   have NC:Aside (∀(F:Ac)(w:World),Sat (B*F) w→Calls Tryz.prog 179 #[.slice cC 4 (d-9)] w fun e f=>e= .returned (.int .i64 y4)∧w=f):=nC
   have bd:=x0.toNat_lt
   have bx:IntKind.i64.wrap (x0.toNat:Int)=(x0.toNat:Int):=IntWalk.i64_in _ (by omega)
   clear nA nB nC rA rB rC o b hy2 hy3 hy4 a1 a2 a3 hq G a5 a4 M b3 hp b1 ab a8
   have bu:i≤255:=by omega
   go_upto_region 12 with (fail)
   refine Dr.E9 (fun f=>f.cell? ⟨N+1,1,none⟩=some (.slice aE i cE)∧f.cell? ⟨bb,oo,none⟩=some (.int .u8 x0.toNat)) [19,20] (by kernel_rfl) ⟨Ab _ _ _,Ab _ _ _⟩ (fun D=>?_)
   refine Dr.Ar 0 (v:=?v0) (by simp only[List.getElem?_toArray,List.getElem?_cons_succ,List.getElem?_cons_zero];rfl) (by kernel_rfl) ?hQ0 (.inl ⟨?hw0,fun f=>?hy0⟩) ?_
   case hy0=>go_simp;try (with_reducible rfl)
   case hQ0=>exact fun _ _ _ h=>h
   case hw0=>rfl
   simp only[Act.put,List.setIfInBounds_toArray,List.set_cons_zero,List.set_cons_succ]
   refine Dr.CZ 1 (v:=?v1) (by simp only[List.getElem?_toArray,List.getElem?_cons_succ,List.getElem?_cons_zero];rfl) (by kernel_rfl) ?hQ1 (.inl ⟨?hw1,fun f hw=>?hy1⟩) D ?_
   case hy1=>(try dsimp only at hw);go_simp;try (with_reducible rfl)
   case hQ1=>exact fun _ _ _ h=>h
   case hw1=>rfl
   simp only[Act.put,List.setIfInBounds_toArray,List.set_cons_zero,List.set_cons_succ]
   refine Dr.Ar 2 (v:=?v2) (by simp only[List.getElem?_toArray,List.getElem?_cons_succ,List.getElem?_cons_zero];rfl) (by kernel_rfl) ?hQ2 (.inl ⟨?hw2,fun f=>?hy2⟩) ?_
   case hy2=>go_simp;try (with_reducible rfl)
   case hQ2=>exact fun _ _ _ h=>h
   case hw2=>rfl
   simp only[Act.put,List.setIfInBounds_toArray,List.set_cons_zero,List.set_cons_succ]
   refine Dr.Ar 3 (v:=?v3) (by simp only[List.getElem?_toArray,List.getElem?_cons_succ,List.getElem?_cons_zero];rfl) (by kernel_rfl) ?hQ3 (.inl ⟨?hw3,fun f=>?hy3⟩) ?_
   case hy3=>go_simp;try (with_reducible rfl)
   case hQ3=>exact fun _ _ _ h=>h
   case hw3=>rfl
   simp only[Act.put,List.setIfInBounds_toArray,List.set_cons_zero,List.set_cons_succ]
   refine Dr.CZ 4 (v:=?v4) (by simp only[List.getElem?_toArray,List.getElem?_cons_succ,List.getElem?_cons_zero];rfl) (by kernel_rfl) ?hQ4 (.inl ⟨?hw4,fun f hw=>?hy4⟩) D ?_
   case hy4=>(try dsimp only at hw);go_simp;try (with_reducible rfl)
   case hQ4=>exact fun _ _ _ h=>h
   case hw4=>rfl
   simp only[Act.put,List.setIfInBounds_toArray,List.set_cons_zero,List.set_cons_succ]
   refine Dr.Ar 5 (v:=?v5) (by simp only[List.getElem?_toArray,List.getElem?_cons_succ,List.getElem?_cons_zero];rfl) (by kernel_rfl) ?hQ5 (.inl ⟨?hw5,fun f=>?hy5⟩) ?_
   case hy5=>go_simp;try (with_reducible rfl)
   case hQ5=>exact fun _ _ _ h=>h
   case hw5=>rfl
   simp only[Act.put,List.setIfInBounds_toArray,List.set_cons_zero,List.set_cons_succ]
   refine Dr.Ar 6 (v:=?v6) (by simp only[List.getElem?_toArray,List.getElem?_cons_succ,List.getElem?_cons_zero];rfl) (by kernel_rfl) ?hQ6 (.inl ⟨?hw6,fun f=>?hy6⟩) ?_
   case hy6=>go_simp;try (with_reducible rfl)
   case hQ6=>exact fun _ _ _ h=>h
   case hw6=>rfl
   simp only[Act.put,List.setIfInBounds_toArray,List.set_cons_zero,List.set_cons_succ]
   refine Dr.Ar 7 (v:=?v7) (by simp only[List.getElem?_toArray,List.getElem?_cons_succ,List.getElem?_cons_zero];rfl) (by kernel_rfl) ?hQ7 (.inl ⟨?hw7,fun f=>?hy7⟩) ?_
   case hy7=>go_simp;try (with_reducible rfl)
   case hQ7=>exact fun _ _ _ h=>h
   case hw7=>rfl
   simp only[Act.put,List.setIfInBounds_toArray,List.set_cons_zero,List.set_cons_succ]
   refine Dr.Ar 9 (v:=?v9) (by simp only[List.getElem?_toArray,List.getElem?_cons_succ,List.getElem?_cons_zero];rfl) (by kernel_rfl) ?hQ9 (.inl ⟨?hw9,fun f=>?hy9⟩) ?_
   case hy9=>go_simp;try (with_reducible rfl)
   case hQ9=>exact fun _ _ _ h=>h
   case hw9=>rfl
   simp only[Act.put,List.setIfInBounds_toArray,List.set_cons_zero,List.set_cons_succ]
   refine Dr.Ar 10 (v:=?v10) (by simp only[List.getElem?_toArray,List.getElem?_cons_succ,List.getElem?_cons_zero];rfl) (by kernel_rfl) ?hQ10 (.inl ⟨?hw10,fun f=>?hy10⟩) ?_
   case hy10=>go_simp;try (with_reducible rfl)
   case hQ10=>exact fun _ _ _ h=>h
   case hw10=>rfl
   simp only[Act.put,List.setIfInBounds_toArray,List.set_cons_zero,List.set_cons_succ]
   refine Dr.Ar 13 (v:=?v13) (by simp only[List.getElem?_toArray,List.getElem?_cons_succ,List.getElem?_cons_zero];rfl) (by kernel_rfl) ?hQ13 (.inl ⟨?hw13,fun f=>?hy13⟩) ?_
   case hy13=>go_simp;try (with_reducible rfl)
   case hQ13=>exact fun _ _ _ h=>h
   case hw13=>rfl
   simp only[Act.put,List.setIfInBounds_toArray,List.set_cons_zero,List.set_cons_succ]
   refine Dr.Ar 14 (v:=?v14) (by simp only[List.getElem?_toArray,List.getElem?_cons_succ,List.getElem?_cons_zero];rfl) (by kernel_rfl) ?hQ14 (.inl ⟨?hw14,fun f=>?hy14⟩) ?_
   case hy14=>go_simp;try (with_reducible rfl)
   case hQ14=>exact fun _ _ _ h=>h
   case hw14=>rfl
   simp only[Act.put,List.setIfInBounds_toArray,List.set_cons_zero,List.set_cons_succ]
   refine Dr.AQ 8 (by simp only[List.getElem?_toArray,List.getElem?_cons_succ,List.getElem?_cons_zero];rfl) (by kernel_rfl) ?_
   go_wp2_with ((go_simp;go_at_call 179;with_reducible refine Calls.mono (NA.out _ _ (Af B)) ?_;rintro e w7 ⟨rfl,rfl⟩))
   refine Dr.AB ⟨⟨Ab _ _ _,Ab _ _ _⟩,?_⟩
   refine Dr.AQ 11 (by simp only[List.getElem?_toArray,List.getElem?_cons_succ,List.getElem?_cons_zero];rfl) (by kernel_rfl) ?_
   go_wp2_with ((go_simp;go_at_call 179;with_reducible refine Calls.mono (NB.out _ _ (Af B)) ?_;rintro e w7 ⟨rfl,rfl⟩))
   refine Dr.AB ⟨⟨Ab _ _ _,Ab _ _ _⟩,?_⟩
   refine Dr.Ar 12 (v:=?v12) (by simp only[List.getElem?_toArray,List.getElem?_cons_succ,List.getElem?_cons_zero];rfl) (by kernel_rfl) ?hQ12 (.inl ⟨?hw12,fun f=>?hy12⟩) ?_
   case hy12=>go_simp;try (with_reducible rfl)
   case hQ12=>exact fun _ _ _ h=>h
   case hw12=>rfl
   simp only[Act.put,List.setIfInBounds_toArray,List.set_cons_zero,List.set_cons_succ]
   refine Dr.AQ 15 (by simp only[List.getElem?_toArray,List.getElem?_cons_succ,List.getElem?_cons_zero];rfl) (by kernel_rfl) ?_
   go_wp2_with ((go_simp;go_at_call 179;with_reducible refine Calls.mono (NC.out _ _ (Af B)) ?_;rintro e w7 ⟨rfl,rfl⟩))
   refine Dr.AB ⟨⟨Ab _ _ _,Ab _ _ _⟩,?_⟩
   refine Dr.AQ 16 (by simp only[List.getElem?_toArray,List.getElem?_cons_succ,List.getElem?_cons_zero];rfl) (by kernel_rfl) ?_
   go_wp2_with (fail)
   refine Dr.AB ⟨⟨Ab _ _ _,Ab _ _ _⟩,?_⟩
   refine Dr.AQ 17 (by simp only[List.getElem?_toArray,List.getElem?_cons_succ,List.getElem?_cons_zero];rfl) (by kernel_rfl) ?_
   go_wp2_with (fail)
   refine Dr.AB ⟨⟨Ab _ _ _,Ab _ _ _⟩,?_⟩
   refine Dr.AQ 18 (by simp only[List.getElem?_toArray,List.getElem?_cons_succ,List.getElem?_cons_zero];rfl) (by kernel_rfl) ?_
   go_wp2_with (at_builtin;refine Ad E rfl (.tmp 46) (.tmp 62) rfl rfl rfl (Af (rw AM 4 (.slice aE i cE) (Bb (FA i rest)))) (Src.new (e:=AM) (s:=4) (vs:= [.int .i64 (x0.toNat:Int),.int .i64 y2,.int .i64 y3,.int .i64 y4]) (Af (Sl.block _ AM [.int .i64 (x0.toNat:Int),.int .i64 y2,.int .i64 y3,.int .i64 y4])) rfl (by intro u hu;simp at hu;rcases hu with rfl|rfl|rfl|rfl<;>rfl)) (by unfold maxLen;omega) (by omega) ?_;intro a9 c9 w9 b4 aa;clear aa;haveI:=b4.i)
   refine Dr.AB ⟨⟨Ab _ _ _,Ab _ _ _⟩,?_⟩
   refine Dr.CY [19,20] (os:= [_,_]) (by decide) (by simp only[List.map_cons,List.map_nil,List.getElem?_toArray,List.getElem?_cons_succ,List.getElem?_cons_zero];rfl) (by kernel_rfl) ?_
   go_wp2_with fail
   go_roundg (m-(i+1))
   case measure=>have:=A.out;omega
   refine ⟨i+1,a9,c9,by go_num,by omega,(rfl:_=_),?_⟩
   rw[HY.out]
   exact A6 (C:=Sl.block wr.heap.size AM [.int .i64 x0.toNat,.int .i64 y2,.int .i64 y3,.int .i64 y4]) (by unfold Cx;ac_rfl)
 have a7: ¬(i:Int)<m:=by omega
 obtain rfl:i=m:=by omega
 have b:=WV rest i
 have K:An (rw AM 4 (.slice aE i cE) (Bb (FA i rest))) (.slice aE i cE) (FA i rest):=Dm k b.symm
 obtain ⟨es,L⟩:=Aq (FA i rest)
 rw[L] at b K k
 have am:Aside (FA i rest=es):=L
 have Q:Aside ((if may ⟨true,es,[]⟩ then ((⟨true,es,[]⟩:Nd),(0:Int)) else (GP,4))=rr):=(by rw[←ap.out,L]:_=_)
 have Z:An (rw AM 4 (.slice aE i cE) (Bb es)) (.slice aE es.length cE) es:=by rw[b];exact K
 have t:=MH es aE cE _ _ wr Z k
 rw[b] at t
 have ao:Aside (An (rw AM 4 (.slice aE i cE) (Bb es)) (.slice aE i cE) es):=K
 haveI:=k.i
 obtain ⟨mb,R⟩:=Aq (may ⟨true,es,[]⟩)
 rw[R] at t
 have X:Aside (may ⟨true,es,[]⟩=mb):=R
 clear L b K Z R am
 go_wp2_with fail
 with_reducible refine Calls.mono t ?_
 rintro e w7 ⟨rfl,q7⟩
 haveI:=q7.i
 clear t k
 cases mb with
 | true =>
   have HF:Aside (rr=(⟨true,es,[]⟩,0)):=(by rw[←Q.out,X.out];rfl:_=_)
   go_wp2
   go_returns
   rw[HF.out]
   exact ⟨_,_,rfl,⟨_,_,rfl,ao.out,Al.nil 4 _⟩,AD _ B F⟩
 | false =>
   have HF:Aside (rr=(GP,4)):=(by rw[←Q.out,X.out];rfl:_=_)
   go_wp2
   go_returns
   rw[HF.out]
   exact Fm (Ap B F)
theorem RB(x:UInt8)(rest:List UInt8)(v:Value)(B F:Ac)(w:World)(V:Reads B v (x::rest))(hs:Sat (B*F) w)(l:rest.length=x.toNat*16):
 Calls Tryz.prog 156 #[.int .i64 2,v] w (I7 B F (if may ⟨false,[],FB x.toNat rest⟩ then (⟨false,[],FB x.toNat rest⟩,0) else (GP,4))):=by
 obtain ⟨va,I,rfl,b4,bw⟩:=(V F w hs).len
 obtain ⟨iB,R⟩:=D2
 obtain ⟨i0,E⟩:=LK
 haveI:=hs.i
 have hx:=x.toNat_lt
 have f:Reads B (.slice (AJ va I 1 1) rest.length (I-1)) rest:=by
  have K:=Reads.from V 1 (by simp)
  simpa using K
 obtain ⟨m,hm⟩:=Aq x.toNat
 obtain ⟨n,hn⟩:=Aq rest.length
 rw[List.length_cons,hn] at V b4⊢
 rw[hn] at l f
 rw[hm] at l hx⊢
 obtain ⟨rr,O⟩:=Aq (if may ⟨false,[],FB m rest⟩ then ((⟨false,[],FB m rest⟩:Nd),(0:Int)) else (GP,4))
 have ap:Aside ((if may ⟨false,[],FB m rest⟩ then ((⟨false,[],FB m rest⟩:Nd),(0:Int)) else (GP,4))=rr):=O
 rw[O]
 clear O
 have X: ∀w,(Instr.sliceAt 26 (.slice va (n+1) I) (some (.int .i64 1)) none none).run Tryz.prog w= .ok (.slice (AJ va I 1 1) n (I-1)) w:=fun w=>Er R 1 (by omega) w
 obtain ⟨b2,o2,e5,au⟩:=byte_at V hs (q:=0) (x:=x) rfl
 rw[Nat.add_zero,hm] at au
 subst e5
 obtain ⟨T,a4⟩:=Aq (AJ (some ⟨b2,o2,none⟩) I 1 1)
 rw[a4] at X f
 have t:Aside (Reads B (.slice T n (I-1)) rest∧rest.length=n∧n≤I-1∧n=m*16):=⟨f,hn,by omega,l⟩
 have ay: ¬((n:Int)+1<1):=by omega
 have b9:16*(m:Int)≤4080:=by omega
 have bt:((n:Int)==16*(m:Int))=true:=by simp;omega
 have az:(n:Int)=16*(m:Int):=by omega
 obtain ⟨z,aw⟩:=Aq (I-1)
 rw[aw] at X t
 clear V hn hm f a4 l az
 go_enter Tryz.func156,Tryz.ntmps156
 go_wp2_with fail
 obtain ⟨N,hN⟩:=Aq w.heap.size
 have q0:Sat (Sl.block (N+1) C0 [.bool false,.slice none 0 0,.slice none 0 0]*(Sl.block N C0 [.bool false,.slice none 0 0,.slice none 0 0]*(B*F))) ((w.alloc (.cells #[.bool false,.slice none 0 0,.slice none 0 0] C0)).alloc (.cells #[.bool false,.slice none 0 0,.slice none 0 0] C0)):=by
  rw[←hN]
  exact Av (by ac_rfl)
 rw[hN]
 generalize ((w.alloc (.cells #[.bool false,.slice none 0 0,.slice none 0 0] C0)).alloc (.cells #[.bool false,.slice none 0 0,.slice none 0 0] C0))=w0 at q0⊢
 clear hN hs this
 go_loopg [11] m (fun g b6 wr=> ∃(i:Nat)(aE:Option Addr)(cE:Nat),b6= .int .i64 i∧i≤m∧Aside (g=m-i)∧
  Sat (rw JX 4 (.slice aE i cE) (Gk (FB i rest))*(Sl.block (N+1) C0 [.bool false,.slice none 0 0,.slice aE i cE]*(Sl.block N C0 [.bool false,.slice none 0 0,.slice none 0 0]*(B*F)))) wr)
 case atStart=>
  exact ⟨0,none,0,rfl,by omega,(rfl:_=_),Sat.AH q0⟩
 obtain ⟨i,aE,cE,rfl,hi,A,r⟩:=hrel
 haveI:=r.i
 clear q0
 by_cases bv:i<m
 · have a5:(i:Int)<m:=by omega
   obtain ⟨p,hp⟩:=Aq (16*i)
   obtain ⟨Q,b0⟩:=Aq (p+16)
   have a8:Q≤n:=by have:=t.out.2.2.2;omega
   have a6:n≤z:=t.out.2.2.1
   have hw1:IntKind.i64.wrap (16*(i:Int))=(p:Int):=(IntWalk.i64_in _ (by omega)).trans (by omega)
   have hw2:IntKind.i64.wrap ((p:Int)+16)=(Q:Int):=(IntWalk.i64_in _ (by omega)).trans (by omega)
   have av: ∀w,(Instr.sliceAt 26 (.slice T n z) (some (.int .i64 p)) (some (.int .i64 Q)) none).run Tryz.prog w= .ok (.slice (AJ T z p 1) 16 (z-p)) w:=fun w=>by
    have K:=D8 (P:=Tryz.prog) R (a:=T) (n:=n) (c:=z) p Q (by omega) (by omega) w
    rw[show Q-p=16 by omega] at K
    exact K
   have k:Reads B (.slice (AJ T z p 1) 16 (z-p)) ((rest.drop p).take 16):=fun F w h=>by
    have K:=(t.out.1 F w h).cut p Q (by omega) a8
    rw[show Q-p=16 by omega] at K
    exact K
   obtain ⟨pc,H⟩:=Aq ((rest.drop p).take 16)
   have b1:pc.length=16:=by rw[←H,List.length_take,List.length_drop,t.out.2.1];omega
   have HY:Aside (Gk (FB (i+1) rest)=Gk (FB i rest)++Pv (uk pc)):=(by rw[Uy,hp,H];simp[Gk]:_=_)
   rw[H] at k
   obtain ⟨j,a3⟩:=Aq (AJ T z p 1)
   obtain ⟨b,a2⟩:=Aq (z-p)
   rw[a3,a2] at k av
   have ax:16≤b:=by omega
   have rA:Reads B (.slice (AJ j b 0 1) 4 b) (pc.take 4):=fun F w h=>(k F w h).cut 0 4 (by omega) (by omega)
   have rB:Reads B (.slice (AJ j b 4 1) 4 (b-4)) ((pc.drop 4).take 4):=fun F w h=>(k F w h).cut 4 8 (by omega) (by omega)
   have rC:Reads B (.slice (AJ j b 8 1) 4 (b-8)) ((pc.drop 8).take 4):=fun F w h=>(k F w h).cut 8 12 (by omega) (by omega)
   have rD:Reads B (.slice (AJ j b 12 1) 4 (b-12)) ((pc.drop 12).take 4):=fun F w h=>(k F w h).cut 12 16 (by omega) (by omega)
   have hA: ∀w,(Instr.sliceAt 26 (.slice j 16 b) (some (.int .i64 0)) (some (.int .i64 4)) none).run Tryz.prog w= .ok (.slice (AJ j b 0 1) 4 b) w:=fun w=>D8 R 0 4 (by omega) (by omega) w
   have aq: ∀w,(Instr.sliceAt 26 (.slice j 16 b) (some (.int .i64 4)) (some (.int .i64 8)) none).run Tryz.prog w= .ok (.slice (AJ j b 4 1) 4 (b-4)) w:=fun w=>D8 R 4 8 (by omega) (by omega) w
   have hC: ∀w,(Instr.sliceAt 26 (.slice j 16 b) (some (.int .i64 8)) (some (.int .i64 12)) none).run Tryz.prog w= .ok (.slice (AJ j b 8 1) 4 (b-8)) w:=fun w=>D8 R 8 12 (by omega) (by omega) w
   have hD: ∀w,(Instr.sliceAt 26 (.slice j 16 b) (some (.int .i64 12)) (some (.int .i64 16)) none).run Tryz.prog w= .ok (.slice (AJ j b 12 1) 4 (b-12)) w:=fun w=>D8 R 12 16 (by omega) (by omega) w
   have nA:=fun F w q=>DN _ _ B F w rA q (by simp;omega)
   have nB:=fun F w q=>DN _ _ B F w rB q (by simp;omega)
   have nC:=fun F w q=>DN _ _ B F w rC q (by simp;omega)
   have nD:=fun F w q=>DN _ _ B F w rD q (by simp;omega)
   have aa:uk pc=⟨i4 (BZ (pc.take 4)),i4 (BZ ((pc.drop 4).take 4)),i4 (BZ ((pc.drop 8).take 4)),i4 (BZ ((pc.drop 12).take 4))⟩:=rfl
   obtain ⟨y1,hy1⟩:=Aq (i4 (BZ (pc.take 4)))
   obtain ⟨y2,hy2⟩:=Aq (i4 (BZ ((pc.drop 4).take 4)))
   obtain ⟨y3,hy3⟩:=Aq (i4 (BZ ((pc.drop 8).take 4)))
   obtain ⟨y4,hy4⟩:=Aq (i4 (BZ ((pc.drop 12).take 4)))
   rw[hy1] at nA
   rw[hy2] at nB
   rw[hy3] at nC
   rw[hy4] at nD
   rw[aa,hy1,hy2,hy3,hy4] at HY
   obtain ⟨cA,Y⟩:=Aq (AJ j b 0 1)
   obtain ⟨cB,Z⟩:=Aq (AJ j b 4 1)
   obtain ⟨cC,a0⟩:=Aq (AJ j b 8 1)
   obtain ⟨cD,a1⟩:=Aq (AJ j b 12 1)
   rw[Y] at hA nA
   rw[Z] at aq nB
   rw[a0] at hC nC
   rw[a1] at hD nD
   have NA:Aside (∀(F:Ac)(w:World),Sat (B*F) w→Calls Tryz.prog 179 #[.slice cA 4 b] w fun e d=>e= .returned (.int .i64 y1)∧w=d):=nA
   have NB:Aside (∀(F:Ac)(w:World),Sat (B*F) w→Calls Tryz.prog 179 #[.slice cB 4 (b-4)] w fun e d=>e= .returned (.int .i64 y2)∧w=d):=nB
   have NC:Aside (∀(F:Ac)(w:World),Sat (B*F) w→Calls Tryz.prog 179 #[.slice cC 4 (b-8)] w fun e d=>e= .returned (.int .i64 y3)∧w=d):=nC
   have ND:Aside (∀(F:Ac)(w:World),Sat (B*F) w→Calls Tryz.prog 179 #[.slice cD 4 (b-12)] w fun e d=>e= .returned (.int .i64 y4)∧w=d):=nD
   clear nA nB nC nD rA rB rC rD k aa hy1 hy2 hy3 hy4 Y Z a0 a1 a3 a2 H b1 hp b0 a8 a6
   have bu:i≤255:=by omega
   go_upto_region 18 with (fail)
   refine Dr.E9 (fun d=>d.cell? ⟨N+1,2,none⟩=some (.slice aE i cE)) [17,18] (by kernel_rfl) (Ab _ _ _) (fun L=>?_)
   refine Dr.Ar 0 (v:=?v0) (by simp only[List.getElem?_toArray,List.getElem?_cons_succ,List.getElem?_cons_zero];rfl) (by kernel_rfl) ?hQ0 (.inl ⟨?hw0,fun d=>?hy0⟩) ?_
   case hy0=>go_simp;try (with_reducible rfl)
   case hQ0=>exact fun _ _ _ h=>h
   case hw0=>rfl
   simp only[Act.put,List.setIfInBounds_toArray,List.set_cons_zero,List.set_cons_succ]
   refine Dr.CZ 1 (v:=?v1) (by simp only[List.getElem?_toArray,List.getElem?_cons_succ,List.getElem?_cons_zero];rfl) (by kernel_rfl) ?hQ1 (.inl ⟨?hw1,fun d hw=>?hy1⟩) L ?_
   case hy1=>(try dsimp only at hw);go_simp;try (with_reducible rfl)
   case hQ1=>exact fun _ _ _ h=>h
   case hw1=>rfl
   simp only[Act.put,List.setIfInBounds_toArray,List.set_cons_zero,List.set_cons_succ]
   refine Dr.Ar 2 (v:=?v2) (by simp only[List.getElem?_toArray,List.getElem?_cons_succ,List.getElem?_cons_zero];rfl) (by kernel_rfl) ?hQ2 (.inl ⟨?hw2,fun d=>?hy2⟩) ?_
   case hy2=>go_simp;try (with_reducible rfl)
   case hQ2=>exact fun _ _ _ h=>h
   case hw2=>rfl
   simp only[Act.put,List.setIfInBounds_toArray,List.set_cons_zero,List.set_cons_succ]
   refine Dr.Ar 3 (v:=?v3) (by simp only[List.getElem?_toArray,List.getElem?_cons_succ,List.getElem?_cons_zero];rfl) (by kernel_rfl) ?hQ3 (.inl ⟨?hw3,fun d=>?hy3⟩) ?_
   case hy3=>go_simp;try (with_reducible rfl)
   case hQ3=>exact fun _ _ _ h=>h
   case hw3=>rfl
   simp only[Act.put,List.setIfInBounds_toArray,List.set_cons_zero,List.set_cons_succ]
   refine Dr.Ar 5 (v:=?v5) (by simp only[List.getElem?_toArray,List.getElem?_cons_succ,List.getElem?_cons_zero];rfl) (by kernel_rfl) ?hQ5 (.inl ⟨?hw5,fun d=>?hy5⟩) ?_
   case hy5=>go_simp;try (with_reducible rfl)
   case hQ5=>exact fun _ _ _ h=>h
   case hw5=>rfl
   simp only[Act.put,List.setIfInBounds_toArray,List.set_cons_zero,List.set_cons_succ]
   refine Dr.Ar 6 (v:=?v6) (by simp only[List.getElem?_toArray,List.getElem?_cons_succ,List.getElem?_cons_zero];rfl) (by kernel_rfl) ?hQ6 (.inl ⟨?hw6,fun d=>?hy6⟩) ?_
   case hy6=>go_simp;try (with_reducible rfl)
   case hQ6=>exact fun _ _ _ h=>h
   case hw6=>rfl
   simp only[Act.put,List.setIfInBounds_toArray,List.set_cons_zero,List.set_cons_succ]
   refine Dr.Ar 8 (v:=?v8) (by simp only[List.getElem?_toArray,List.getElem?_cons_succ,List.getElem?_cons_zero];rfl) (by kernel_rfl) ?hQ8 (.inl ⟨?hw8,fun d=>?hy8⟩) ?_
   case hy8=>go_simp;try (with_reducible rfl)
   case hQ8=>exact fun _ _ _ h=>h
   case hw8=>rfl
   simp only[Act.put,List.setIfInBounds_toArray,List.set_cons_zero,List.set_cons_succ]
   refine Dr.Ar 9 (v:=?v9) (by simp only[List.getElem?_toArray,List.getElem?_cons_succ,List.getElem?_cons_zero];rfl) (by kernel_rfl) ?hQ9 (.inl ⟨?hw9,fun d=>?hy9⟩) ?_
   case hy9=>go_simp;try (with_reducible rfl)
   case hQ9=>exact fun _ _ _ h=>h
   case hw9=>rfl
   simp only[Act.put,List.setIfInBounds_toArray,List.set_cons_zero,List.set_cons_succ]
   refine Dr.Ar 11 (v:=?v11) (by simp only[List.getElem?_toArray,List.getElem?_cons_succ,List.getElem?_cons_zero];rfl) (by kernel_rfl) ?hQ11 (.inl ⟨?hw11,fun d=>?hy11⟩) ?_
   case hy11=>go_simp;try (with_reducible rfl)
   case hQ11=>exact fun _ _ _ h=>h
   case hw11=>rfl
   simp only[Act.put,List.setIfInBounds_toArray,List.set_cons_zero,List.set_cons_succ]
   refine Dr.Ar 12 (v:=?v12) (by simp only[List.getElem?_toArray,List.getElem?_cons_succ,List.getElem?_cons_zero];rfl) (by kernel_rfl) ?hQ12 (.inl ⟨?hw12,fun d=>?hy12⟩) ?_
   case hy12=>go_simp;try (with_reducible rfl)
   case hQ12=>exact fun _ _ _ h=>h
   case hw12=>rfl
   simp only[Act.put,List.setIfInBounds_toArray,List.set_cons_zero,List.set_cons_succ]
   refine Dr.AQ 4 (by simp only[List.getElem?_toArray,List.getElem?_cons_succ,List.getElem?_cons_zero];rfl) (by kernel_rfl) ?_
   go_wp2_with ((go_simp;go_at_call 179;with_reducible refine Calls.mono (NA.out _ _ (Af B)) ?_;rintro e w7 ⟨rfl,rfl⟩))
   refine Dr.AB ⟨(Ab _ _ _),?_⟩
   refine Dr.AQ 7 (by simp only[List.getElem?_toArray,List.getElem?_cons_succ,List.getElem?_cons_zero];rfl) (by kernel_rfl) ?_
   go_wp2_with ((go_simp;go_at_call 179;with_reducible refine Calls.mono (NB.out _ _ (Af B)) ?_;rintro e w7 ⟨rfl,rfl⟩))
   refine Dr.AB ⟨(Ab _ _ _),?_⟩
   refine Dr.AQ 10 (by simp only[List.getElem?_toArray,List.getElem?_cons_succ,List.getElem?_cons_zero];rfl) (by kernel_rfl) ?_
   go_wp2_with ((go_simp;go_at_call 179;with_reducible refine Calls.mono (NC.out _ _ (Af B)) ?_;rintro e w7 ⟨rfl,rfl⟩))
   refine Dr.AB ⟨(Ab _ _ _),?_⟩
   refine Dr.AQ 13 (by simp only[List.getElem?_toArray,List.getElem?_cons_succ,List.getElem?_cons_zero];rfl) (by kernel_rfl) ?_
   go_wp2_with ((go_simp;go_at_call 179;with_reducible refine Calls.mono (ND.out _ _ (Af B)) ?_;rintro e w7 ⟨rfl,rfl⟩))
   refine Dr.AB ⟨(Ab _ _ _),?_⟩
   refine Dr.Ar 14 (v:=?v14) (by simp only[List.getElem?_toArray,List.getElem?_cons_succ,List.getElem?_cons_zero];rfl) (by kernel_rfl) ?hQ14 (.inl ⟨?hw14,fun d=>?hy14⟩) ?_
   case hy14=>go_simp;try (with_reducible rfl)
   case hQ14=>exact fun _ _ _ h=>h
   case hw14=>rfl
   simp only[Act.put,List.setIfInBounds_toArray,List.set_cons_zero,List.set_cons_succ]
   refine Dr.AQ 15 (by simp only[List.getElem?_toArray,List.getElem?_cons_succ,List.getElem?_cons_zero];rfl) (by kernel_rfl) ?_
   go_wp2_with (fail)
   refine Dr.AB ⟨(Ab _ _ _),?_⟩
   refine Dr.AQ 16 (by simp only[List.getElem?_toArray,List.getElem?_cons_succ,List.getElem?_cons_zero];rfl) (by kernel_rfl) ?_
   go_wp2_with (at_builtin;refine Ad E rfl (.tmp 87) (.tmp 101) rfl rfl rfl (Af (rw JX 4 (.slice aE i cE) (Gk (FB i rest)))) (Src.new (e:=JX) (s:=4) (vs:= [.int .i64 y1,.int .i64 y2,.int .i64 y3,.int .i64 y4]) (Af (Sl.block _ JX [.int .i64 y1,.int .i64 y2,.int .i64 y3,.int .i64 y4])) rfl (by intro u hu;simp at hu;rcases hu with rfl|rfl|rfl|rfl<;>rfl)) (by unfold maxLen;omega) (by omega) ?_;intro a9 c9 w9 b3 a7;clear a7;haveI:=b3.i)
   refine Dr.AB ⟨(Ab _ _ _),?_⟩
   refine Dr.CY [17,18] (os:= [_,_]) (by decide) (by simp only[List.map_cons,List.map_nil,List.getElem?_toArray,List.getElem?_cons_succ,List.getElem?_cons_zero];rfl) (by kernel_rfl) ?_
   go_wp2_with fail
   go_roundg (m-(i+1))
   case measure=>have:=A.out;omega
   refine ⟨i+1,a9,c9,by go_num,by omega,(rfl:_=_),?_⟩
   rw[HY.out]
   exact A6 (C:=Sl.block wr.heap.size JX [.int .i64 y1,.int .i64 y2,.int .i64 y3,.int .i64 y4]) (by unfold Pv;ac_rfl)
 have a5: ¬(i:Int)<m:=by omega
 obtain rfl:i=m:=by omega
 have y:=WW rest i
 have D:AR (rw JX 4 (.slice aE i cE) (Gk (FB i rest))) (.slice aE i cE) (FB i rest):=Yd r y.symm
 obtain ⟨es,G⟩:=Aq (FB i rest)
 rw[G] at y D r
 have am:Aside (FB i rest=es):=G
 have J:Aside ((if may ⟨false,[],es⟩ then ((⟨false,[],es⟩:Nd),(0:Int)) else (GP,4))=rr):=(by rw[←ap.out,G]:_=_)
 have W:AR (rw JX 4 (.slice aE i cE) (Gk es)) (.slice aE es.length cE) es:=by rw[y];exact D
 have o:=T6 es aE cE _ _ wr W r
 rw[y] at o
 have ao:Aside (AR (rw JX 4 (.slice aE i cE) (Gk es)) (.slice aE i cE) es):=D
 haveI:=r.i
 obtain ⟨mb,M⟩:=Aq (may ⟨false,[],es⟩)
 rw[M] at o
 have U:Aside (may ⟨false,[],es⟩=mb):=M
 clear G y D W M am
 go_wp2_with fail
 with_reducible refine Calls.mono o ?_
 rintro e w7 ⟨rfl,q7⟩
 haveI:=q7.i
 clear o r
 cases mb with
 | true =>
   have HF:Aside (rr=(⟨false,[],es⟩,0)):=(by rw[←J.out,U.out];rfl:_=_)
   go_wp2
   go_returns
   rw[HF.out]
   exact ⟨_,_,rfl,⟨_,_,rfl,Al.nil 4 _,ao.out⟩,AD _ B F⟩
 | false =>
   have HF:Aside (rr=(GP,4)):=(by rw[←J.out,U.out];rfl:_=_)
   go_wp2
   go_returns
   rw[HF.out]
   exact Fm (Ap B F)
theorem T7(kind:Int)(b:List UInt8)(v:Value)(B F:Ac)(w:World)(c:Reads B v b)(hs:Sat (B*F) w)(hl:b.length≤1048576):
 Calls Tryz.prog 156 #[.int .i64 kind,v] w (I7 B F (CL kind b)):=by
 cases b with
 |nil=>exact RD kind v B F w c hs
 | cons x rest =>
  rw[List.length_cons] at hl
  unfold CL
  simp only
  by_cases d:kind≠1∧kind≠2
  ·rw[if_pos d]
   exact Jp kind x rest v B F w c hs (by omega) (fun h=>d.1 h.1) (fun h=>d.2 h.1)
  rw[if_neg d]
  by_cases h1:kind=1
  ·subst h1
   simp only[if_true]
   by_cases a:rest.length≠x.toNat*13
   ·rw[if_pos a]
    exact Jp 1 x rest v B F w c hs (by omega) (fun h=>a h.2) (fun h=>by omega)
   rw[if_neg a]
   exact RC x rest v B F w c hs (by omega)
  have e:kind=2:=by omega
  subst e
  simp only[show¬(2:Int)=1 by omega,if_false]
  by_cases a:rest.length≠x.toNat*16
  ·rw[if_pos a]
   exact Jp 2 x rest v B F w c hs (by omega) (fun h=>by omega) (fun h=>a h.2)
  rw[if_neg a]
  exact RB x rest v B F w c hs (by omega)
theorem Vk{kind:Int}{b:List UInt8}(h:(CL kind b).2≠0):(CL kind b).1=GP:=by
 cases b with
 |nil=>rfl
 | cons b rest =>
  unfold CL at h⊢
  simp only at h⊢
  by_cases h1:kind≠1∧kind≠2
  ·rw[if_pos h1]
  rw[if_neg h1] at h⊢
  by_cases a:rest.length≠b.toNat*(if kind=1 then 13 else 16)
  ·rw[if_pos a]
  rw[if_neg a] at h⊢
  generalize (if kind=1 then (⟨true,FA b.toNat rest,[]⟩:Nd) else ⟨false,[],FB b.toNat rest⟩)=n at h⊢
  by_cases c:may n=true
  ·rw[if_pos c] at h;exact absurd rfl h
  rw[if_neg c]
def QL(B F:Ac)(o:Option Nd)(e:Ending)(a:World):Prop:= ∃v' G,e= .returned (.tuple #[v',.bool o.isSome])∧AG G v' (o.getD GP)∧Sat (G*(B*F)) a
theorem FH{B F:Ac}{w:World}(hs:Sat (B*F) w):QL B F none (.returned (.tuple #[.agg #[.bool false,.slice none 0 0,.slice none 0 0],.bool false])) w:=
 ⟨_,1,rfl,⟨_,_,rfl,Al.nil 4 _,Al.nil 4 _⟩,by rw[Aw];exact hs⟩
theorem Jq(d:List UInt8)(v:Value)(no:Int)(B F:Ac)(w:World)(Z:Reads B v d)(hl:d.length≤1099511627776)(hs:Sat (B*F) w):
 Calls Tryz.prog 126 #[v,.int .i64 no] w (QL B F (Ax d no)):=by
 obtain ⟨i0,E⟩:=D2
 obtain ⟨y,u,rfl,a5,am⟩:=(Z F w hs).len
 have HB:Aside (Reads B (.slice y d.length u) d):=Z
 obtain ⟨R,hR⟩:=Aq (Ax d no)
 have M:Aside (Ax d no=R):=hR
 rw[hR]
 obtain ⟨n,hn⟩:=Aq d.length
 have U:Aside (d.length=n):=hn
 rw[hn] at hl a5⊢
 clear Z hR hn
 haveI:=hs.i
 by_cases h1:no<1
 · have d1:decide (no<1)=true:=decide_eq_true h1
   have j:Aside (R=none):=(by rw[←M.out];unfold Ax;rw[if_pos (.inl h1)]:_=_)
   go_enter Tryz.func126,Tryz.ntmps126
   go_wp2
   go_returns
   rw[j.out]
   exact FH (Ap B F)
 have d1:decide (no<1)=false:=decide_eq_false h1
 by_cases X:1048576≤no
 · have d2:decide (1048576≤no)=true:=decide_eq_true X
   have j:Aside (R=none):=(by rw[←M.out];unfold Ax;rw[if_pos (.inr (.inl X))]:_=_)
   go_enter Tryz.func126,Tryz.ntmps126
   go_wp2
   go_returns
   rw[j.out]
   exact FH (Ap B F)
 have d2:decide (1048576≤no)=false:=decide_eq_false X
 obtain ⟨p,hp⟩: ∃p:Nat,no=p:=⟨no.toNat,by omega⟩
 subst hp
 have hw1:IntKind.i64.wrap (256*(p:Int))=((256*p:Nat):Int):=(IntWalk.i64_in _ (by omega)).trans (by omega)
 have hw2:IntKind.i64.wrap (((256*p:Nat):Int)+256)=((256*p+256:Nat):Int):=(IntWalk.i64_in _ (by omega)).trans (by omega)
 obtain ⟨q,hq⟩:=Aq (256*p)
 rw[hq] at hw1 hw2
 obtain ⟨g,a4⟩:=Aq (q+256)
 rw[a4] at hw2
 by_cases h3:n<g
 · have d3:decide ((n:Int)<(g:Int))=true:=decide_eq_true (by omega)
   have Y:(n:Int)<(g:Int):=by omega
   have j:Aside (R=none):=(by rw[←M.out];unfold Ax;rw[if_pos (.inr (.inr (by rw[U.out];omega)))]:_=_)
   go_enter Tryz.func126,Tryz.ntmps126
   go_wp2
   go_returns
   rw[j.out]
   exact FH (Ap B F)
 have d3:decide ((n:Int)<(g:Int))=false:=decide_eq_false (by omega)
 have Y: ¬(n:Int)<(g:Int):=by omega
 have hc: ∀w,(Instr.sliceAt 26 (.slice y n u) (some (.int .i64 q)) (some (.int .i64 (g:Int))) none).run Tryz.prog w= .ok (.slice (AJ y u q 1) 256 (u-q)) w:=fun w=>by
  have k:=D8 (P:=Tryz.prog) E (a:=y) (n:=n) (c:=u) q g (by omega) (by omega) w
  rw[show g-q=256 by omega] at k
  exact k
 obtain ⟨t,r⟩:=Aq ((d.drop q).take 256)
 have hr:Reads B (.slice (AJ y u q 1) 256 (u-q)) t:=fun F w h=>by
  have k:=(HB.out F w h).cut q g (by omega) (by rw[U.out];omega)
  rw[show g-q=256 by omega,r] at k
  exact k
 have HG:Aside (R=CR (p:Int) t):=(by
  rw[←M.out]
  unfold Ax
  rw[if_neg (by rw[U.out];omega),Int.toNat_natCast,hq,r]:_=_)
 have x:=fun F w h=>TZ (p:Int) _ t B F w hr h
 unfold Y6 at x
 obtain ⟨⟨s,f,T⟩,Q⟩:=Aq (AK (p:Int) t)
 have W:Aside (AK (p:Int) t=(s,f,T)):=Q
 rw[Q] at x
 obtain ⟨cv,H⟩:=Aq (AJ y u q 1)
 rw[H] at hc x
 have an:f.length≤256:=by
  have k:=Lr (p:Int) t
  have h8:t.length≤256:=by rw[←r,List.length_take];omega
  rw[Q] at k
  simp only at k
  omega
 simp only at x
 clear Q hr H r
 go_enter Tryz.func126,Tryz.ntmps126
 go_wp2_with fail
 with_reducible refine Calls.mono (x _ _ (Af B)) ?_
 rintro e w1 ⟨a,c,rfl,q1⟩
 haveI:=q1.i
 clear x hs
 by_cases O:T=0
 · subst O
   have J:=T7 s f (.slice a f.length c) (rw TB 1 (.slice a f.length c) (A1 f)) _ w1 Reads.rw q1 (by omega)
   go_wp2_with fail
   with_reducible refine Calls.mono J ?_
   rintro e w2 ⟨v',G,rfl,hN,g⟩
   obtain ⟨vE,vK,rfl,hE,hK⟩:=hN
   obtain ⟨aE,cE,rfl,z,ai⟩:=hE.v
   obtain ⟨aK,cK,rfl,D,aj⟩:=hK.v
   haveI:=g.i
   have HH:Aside (R=CR (p:Int) t):=HG
   have K:Aside (An G (.slice aE (CL s f).1.Ag.length cE) (CL s f).1.Ag):=hE
   have L:Aside (AR G (.slice aK (CL s f).1.kids.length cK) (CL s f).1.kids):=hK
   obtain ⟨⟨o,oe⟩,l⟩:=Aq (CL s f)
   have HO:Aside (CL s f=(o,oe)):=l
   rw[l] at K L z D⊢
   simp only at K L z D⊢
   have I:oe≠0→o=GP:=fun h=>by have k:=Vk (kind:=s) (b:=f) (by rw[l];exact h);rw[l] at k;exact k
   have V:Aside (oe≠0→o=GP):=I
   clear J hE hK q1 l I
   by_cases m:oe=0
   ·subst m
    have j:Aside (R=some o):=(by rw[HH.out];unfold CR;rw[W.out];simp only;rw[HO.out];simp:_=_)
    go_wp2
    go_returns
    rw[j.out]
    exact ⟨_,G,rfl,⟨_,_,rfl,K.out,L.out⟩,AD G B F⟩
   have d4:(oe==0)=false:=by simpa using m
   have j:Aside (R=none):=(by rw[HH.out];unfold CR;rw[W.out];simp only;rw[HO.out];simp[m]:_=_)
   have HD:Aside (o=GP):=V.out m
   go_wp2
   go_returns
   rw[j.out]
   exact ⟨_,G,rfl,by rw[show (none:Option Nd).getD GP=o from HD.out.symm];exact ⟨_,_,rfl,K.out,L.out⟩,AD G B F⟩
 have d4:(T !=0)=true:=by simpa using O
 have d5:(T==0)=false:=by simpa using O
 have j:Aside (R=none):=(by rw[HG.out];unfold CR;rw[W.out];exact if_neg O:_=_)
 go_wp2
 go_returns
 rw[j.out]
 exact FH (Ap B F)
abbrev KI:TypeId:=47
def PV(l:List Int):List Value:=l.map (Value.int .i64)
theorem Wz(l:List Int): ∀u∈PV l,u.oneCell'=true:=by
 intro u a
 unfold PV at a
 obtain ⟨x,_,rfl⟩:=List.mem_map.1 a
 rfl
theorem Wu(a b:List Au):Bb (a++b)=Bb a++Bb b:=by simp[Bb]
theorem Wy(a b:List Int):PV (a++b)=PV a++PV b:=by simp[PV]
def GD(B:Ac)(v:Value)(l:List Int):Prop:=Al 1 B v l.length (PV l)
def j8(G:Ac)(v:Value)(l:Lk):Prop:= ∃a b,v= .agg #[.bool l.ok,.int .i64 l.Am,a,b]∧An G a l.Ag∧GD G b l.A7
def P5(B F:Ac)(l:Lk)(e:Ending)(a:World):Prop:= ∃v G,e= .returned v∧j8 G v l∧Sat (G*(B*F)) a
theorem DI{B F:Ac}{w:World}(hs:Sat (B*F) w):P5 B F GO (.returned (.agg #[.bool false,.int .i64 0,.slice none 0 0,.slice none 0 0])) w:=
 ⟨_,1,rfl,⟨_,_,rfl,Al.nil 4 _,Al.nil 1 _⟩,by rw[Aw];exact hs⟩
theorem Q1{a:Option Addr}{n c:Nat}{l:List Int}{F:Ac}{w:World}(hs:Sat (rw B3 1 (.slice a n c) (PV l)*F) w)(b:n=l.length):GD (rw B3 1 (.slice a n c) (PV l)) (.slice a n c) l:=by
 subst b
 exact Al.rw hs ⟨a,c,rfl⟩
structure fR (V:Int→Option Nd) (f:Nat) (kids:List Kd) (R:Lk) (J:Ac) (g lk j ne np:Nat) (oh:Int) (oe:List Au) (op:List Int) (aE:Option Addr) (cE:Nat) (aP:Option Addr) (cP:Nat) (vK:Value):Prop where
 dI:g=lk-j
 rest:BS V (fun p=>Ba V f p false) (kids.drop j) (j==0) ⟨true,oh,oe,op⟩=R
 e:An J (.slice aE ne cE) oe
 p:GD J (.slice aP np cP) op
 k:AR J vK kids
 ne:oe.length=ne
 np:op.length=np
theorem cW{e s n g:Nat}{l:List Value}{F:Ac}{w:World}(hl:l.length=n*s)(a:n≤1099511627776)(hs:Sat (Sl.block g e l*F) w):Sat (rw e s (.slice (some ⟨g,0,none⟩) n n) l*F) w:=
 Sat.DX (sp:= []) hl (by simpa using hl) (Nat.le_refl _) (by unfold maxLen;omega) (by simpa using hs)
theorem ZQ{V:Int→Option Nd}{bl:Int→Lk}{ks:List Kd}{j:Nat}{k:Kd}(c:ks[j]?=some k)(o:Lk):BS V bl (ks.drop j) (j==0) o=match IJ (bl k.As) (Gl (Bz V k.As)) (j==0) k o with
 |none=>GO
 |some o'=>BS V bl (ks.drop (j+1)) (j+1==0) o':=by
 have h1:ks.drop j=k::ks.drop (j+1):=by
  obtain ⟨a,b⟩:=List.getElem?_eq_some_iff.1 c
  rw[List.drop_eq_getElem_cons a,b]
 rw[h1]
 rfl
theorem T9{V:Int→Option Nd}{p:Int}(h:V p=none)(f:Nat)(top:Bool):Ba V (f+1) p top=GO:=by
 show (match V p with|none=>GO|some n=>if top=false∧many n<4 then GO else BS V (fun p=>Ba V f p false) n.kids true ⟨true,0,n.Ag,[p]⟩)=_
 rw[h]
theorem TA{V:Int→Option Nd}{p:Int}{n:Nd}(h:V p=some n)(f:Nat)(top:Bool):Ba V (f+1) p top=if top=false∧many n<4 then GO else BS V (fun p=>Ba V f p false) n.kids true ⟨true,0,n.Ag,[p]⟩:=by
 show (match V p with|none=>GO|some n=>if top=false∧many n<4 then GO else BS V (fun p=>Ba V f p false) n.kids true ⟨true,0,n.Ag,[p]⟩)=_
 rw[h]
theorem Ya{x:Lk}{s:Int×Int×Int}{first:Bool}{k:Kd}{o:Lk}(h:x.ok=false∨s.1≠k.bytes∨s.2.1≠k.lines∨s.2.2≠k.A4∨(first=false∧x.Am+1≠o.Am)):IJ x s first k o=none:=by
 unfold IJ
 rw[if_pos h]
theorem RE(d : List UInt8)(v : Value)(B : Ac)(hB : Reads B v d)(hl : d.length ≤ 1099511627776) : ∀(f : Nat)(no q : Int)(top : Bool)(F : Ac)(w : World), f ≤ 13 → q = 13 - (f : Int) → Sat (B * F) w →
 Calls Tryz.prog 71 #[v,.int .i64 no,.bool top,.int .i64 q] w (P5 B F (Ba (Ax d) f no top)):=by
 intro f
 induction f with
 | zero =>
  intro no q top F w hf hd hs
  have hq:q=13:=by omega
  clear hd hf
  subst hq
  haveI:=hs.i
  have ds:=Jq d v no B F w hB hl hs
  unfold Ba
  go_enter Tryz.func71,Tryz.ntmps71
  go_wp2_with fail
  with_reducible refine Calls.mono (Jq d v no B _ _ hB hl (Af B)) ?_
  rintro e w1 ⟨v',G,rfl,hN,q1⟩
  obtain ⟨vE,vK,rfl,hE,hK⟩:=hN
  obtain ⟨aE,cE,rfl,Y,dh⟩:=hE.v
  obtain ⟨aK,X,rfl,Z,dj⟩:=hK.v
  haveI:=q1.i
  obtain ⟨b,hb⟩:=Aq ((Ax d no).isSome)
  rw[hb]
  obtain ⟨o,ho⟩:=Aq ((Ax d no).getD GP)
  rw[ho] at Y Z⊢
  obtain ⟨le,a0⟩:=Aq o.Ag.length
  obtain ⟨lk,cr⟩:=Aq o.kids.length
  obtain ⟨lf,ad⟩:=Aq o.leaf
  rw[a0] at Y⊢
  rw[cr] at Z⊢
  rw[ad]
  clear ds hs hE hK hb ho a0 cr ad
  cases b with
  | true =>
   go_wp2
   go_returns
   exact DI (Ap B F)
  | false =>
   go_wp2
   go_returns
   exact DI (Ap B F)
 | succ f ih =>
  intro no q top F w hf hd hs
  obtain ⟨i0,E⟩:=Ey
  obtain ⟨i1,E1⟩:=IP
  haveI:=hs.i
  obtain ⟨R,hR⟩:=Aq (Ba (Ax d) (f+1) no top)
  have HR:Aside (Ba (Ax d) (f+1) no top=R):=hR
  rw[hR]
  clear hR
  have cn: ¬(12:Int)<q:=by omega
  have dn:decide ((12:Int)<q)=false:=decide_eq_false cn
  have f8:=Bc (q+1) (by omega)
  have HD:Aside (q=13-((f+1:Nat):Int)∧f+1≤13):=⟨hd,hf⟩
  have IH:Aside (∀(no q:Int)(top:Bool)(F:Ac)(w:World),f≤13→q=13-(f:Int)→Sat (B*F) w→Calls Tryz.prog 71 #[v,.int .i64 no,.bool top,.int .i64 q] w (P5 B F (Ba (Ax d) f no top))):=ih
  have NO:Aside (∀(no:Int)(F:Ac)(w:World),Sat (B*F) w→Calls Tryz.prog 126 #[v,.int .i64 no] w (QL B F (Ax d no))):=fun no F w h=>Jq d v no B F w hB hl h
  have HV:Aside (∀p n,Ax d p=some n→may n=true):=fun p n h=>FE h
  clear ih hd hf
  go_enter Tryz.func71,Tryz.ntmps71
  go_wp2_with fail
  with_reducible refine Calls.mono (NO.out no _ _ (Af B)) ?_
  rintro e w1 ⟨v',G,rfl,hN,q1⟩
  obtain ⟨vE,vK,rfl,hE,hK⟩:=hN
  obtain ⟨aE,cE,rfl,Y,dh⟩:=hE.v
  obtain ⟨aK,X,rfl,Z,dj⟩:=hK.v
  clear hs
  cases I:Ax d no with
  | none =>
   have HF:Aside (R=GO):=(by rw[←HR.out];exact T9 I _ _:_=_)
   haveI:=q1.i
   clear hE hK I
   go_wp2
   go_returns
   rw[HF.out]
   exact DI (Ap B F)
  | some n =>
   rw[I] at hE hK Y Z
   simp only[Option.getD_some,Option.isSome_some] at hE hK Y Z⊢
   have hm:=HV.out no n I
   have a0:n.Ag.length≤12∧n.kids.length≤12:=⟨(Eb.of hm).e,(Eb.of hm).k⟩
   have HF:Aside (R=if top=false∧many n<4 then GO else BS (Ax d) (fun p=>Ba (Ax d) f p false) n.kids true ⟨true,0,n.Ag,[no]⟩):=(by rw[←HR.out];exact TA I _ _:_=_)
   have HM:Aside (may n=true):=hm
   have HE:Aside (An G (.slice aE n.Ag.length cE) n.Ag):=hE
   have HK:Aside (AR G (.slice aK n.kids.length X) n.kids):=hK
   obtain ⟨le,ac⟩:=Aq n.Ag.length
   obtain ⟨lk,ae⟩:=Aq n.kids.length
   have an:Aside (n.Ag.length=le):=ac
   have W:Aside (n.kids.length=lk):=ae
   rw[ac] at a0 Y⊢
   rw[ae] at a0 Z⊢
   obtain ⟨eh,ei⟩:=a0
   have fa:=Bc ((le:Int)+(lk:Int)) (by omega)
   obtain ⟨lf,ad⟩:=Aq n.leaf
   rw[ad]
   haveI:=q1.i
   clear hE hK I hm ac ae ad
   obtain ⟨fw,cp⟩:=Aq (decide (top=false∧le+lk<4))
   have V:Aside (decide (top=false∧le+lk<4)=fw):=cp
   clear cp
   go_upto_region 2 with (fail)
   go_cut [45] (fun dy wx=>dy= .bool fw∧Sat (Sl.block w1.heap.size C0 [.bool lf,.slice aE le cE,.slice aK lk X]*(Sl.block w.heap.size KI [.bool false,.int .i64 0,.slice none 0 0,.slice none 0 0]*(G*(B*F)))) wx)
   case first =>
    cases top with
    | true =>
      have K:fw=false:=by rw[←V.out];simp
      subst K
      go_wp2_with fail
      go_meet
      exact ⟨rfl,Av (by ac_rfl)⟩
    | false =>
      by_cases h4:le+lk<4
      · have K:fw=true:=by rw[←V.out];simp[h4]
        subst K
        have ab:(le:Int)+(lk:Int)<4:=by omega
        have co:decide ((le:Int)+(lk:Int)<4)=true:=decide_eq_true ab
        go_wp2_with fail
        go_meet
        exact ⟨rfl,Av (by ac_rfl)⟩
      have K:fw=false:=by rw[←V.out];simp[h4]
      subst K
      have ab: ¬(le:Int)+(lk:Int)<4:=by omega
      have co:decide ((le:Int)+(lk:Int)<4)=false:=decide_eq_false ab
      go_wp2_with fail
      go_meet
      exact ⟨rfl,Av (by ac_rfl)⟩
   obtain ⟨rfl,q2⟩:=hcut
   obtain ⟨N9,ci⟩:=Aq w1.heap.size
   obtain ⟨N8,ch⟩:=Aq w.heap.size
   rw[ci,ch] at q2⊢
   clear q1 this ch ci
   haveI:=q2.i
   cases fw with
   | true =>
     have am:Aside (R=GO):=(by
      rw[HF.out,if_pos]
      have t:=of_decide_eq_true V.out
      exact ⟨t.1,by unfold many;rw[an.out,W.out];exact t.2⟩:_=_)
     go_wp2
     go_returns
     rw[am.out]
     exact DI (Ap B F)
   | false =>
     have am:Aside (BS (Ax d) (fun p=>Ba (Ax d) f p false) n.kids true ⟨true,0,n.Ag,[no]⟩=R):=(by
      rw[HF.out,if_neg]
      have t:=of_decide_eq_false V.out
      rintro ⟨h1,h2⟩
      exact t ⟨h1,by unfold many at h2;rw[an.out,W.out] at h2;exact h2⟩:_=_)
     clear HF HR V
     obtain ⟨i0,E⟩:=Ey
     obtain ⟨i1,E1⟩:=IP
     go_wp2_with fail
     obtain ⟨N,hN⟩:=Aq wc.heap.size
     have q3:Sat (Sl.block N B3 [.int .i64 no]*(Sl.block (N+1) KI [.bool true,.int .i64 0,.slice aE le cE,.slice (some ⟨N,0,none⟩) 1 1]*(Sl.block N9 C0 [.bool lf,.slice aE le cE,.slice aK lk X]*(Sl.block N8 KI [.bool false,.int .i64 0,.slice none 0 0,.slice none 0 0]*(G*(B*F)))))) ((wc.alloc (.cells #[.int .i64 no] B3)).alloc (.cells #[.bool true,.int .i64 0,.slice aE le cE,.slice (some ⟨wc.heap.size,0,none⟩) 1 1] KI)):=by
      rw[←hN]
      exact Av (by ac_rfl)
     rw[hN] at q3⊢
     generalize ((wc.alloc (.cells #[.int .i64 no] B3)).alloc (.cells #[.bool true,.int .i64 0,.slice aE le cE,.slice (some ⟨N,0,none⟩) 1 1] KI))=w3 at q3⊢
     have q4:=cW (s:=1) (n:=1) rfl (by omega) q3
     have cd:GD (rw B3 1 (.slice (some ⟨N,0,none⟩) 1 1) [.int .i64 no]) (.slice (some ⟨N,0,none⟩) 1 1) [no]:=Q1 (l:= [no]) q4 rfl
     have bu:Aside (fR (Ax d) f n.kids R (rw B3 1 (.slice (some ⟨N,0,none⟩) 1 1) [.int .i64 no]*G) lk lk 0 le 1 0 n.Ag [no] aE cE (some ⟨N,0,none⟩) 1 (.slice aK lk X)):=
      ⟨rfl,am.out,by have:=HE.out;rw[an.out] at this;exact Al.right this,Al.left cd,by have:=HK.out;rw[W.out] at this;exact Al.right this,an.out,rfl⟩
     obtain ⟨y,b3⟩:=Aq (N+1)
     rw[b3] at q4⊢
     clear q2 q3 hN b3 cd am this
     go_loopg [12] lk (fun g dx wr=> ∃(j ne np:Nat)(oh:Int)(oe:List Au)(op:List Int)(a1:Option Addr)(c1:Nat)(a2:Option Addr)(c2:Nat)(J:Ac),dx= .int .i64 j∧j≤lk∧0≤oh∧oh≤13∧ne≤1036∧np≤1037∧np≤ne+1∧Aside (fR (Ax d) f n.kids R J g lk j ne np oh oe op a1 c1 a2 c2 (.slice aK lk X))∧
      Sat (Sl.block y KI [.bool true,.int .i64 oh,.slice a1 ne c1,.slice a2 np c2]*(Sl.block N9 C0 [.bool lf,.slice aE le cE,.slice aK lk X]*(Sl.block N8 KI [.bool false,.int .i64 0,.slice none 0 0,.slice none 0 0]*(J*(B*F))))) wr)
     case atStart=>exact ⟨0,le,1,0,n.Ag,[no],aE,cE,some ⟨N,0,none⟩,1,_,rfl,by omega,by omega,by omega,by omega,by omega,by omega,bu,q4.eq (by ac_rfl)⟩
     obtain ⟨j,ne,np,oh,oe,op,a1,c1,a2,c2,J,rfl,hj,f6,f7,f4,f5,ay,A,q5⟩:=hrel
     clear q4 bu
     haveI:=q5.i
     by_cases dr:j<lk
     · have cs : (j : Int) < lk := by omega
       obtain ⟨k,hk⟩: ∃k,n.kids[j]?=some k:=⟨_,List.getElem?_eq_getElem (by rw[W.out];exact dr)⟩
       obtain ⟨b,ag,e9,r1,r2,r3,r4⟩:=Co (a:=aK) (c:=X) (by have:=A.out.k;rw[←W.out] at this;exact this) hk
       subst e9
       obtain ⟨x,hx⟩:=Aq (Ba (Ax d) f k.As false)
       have M:Pe false f x:=by rw[←hx];exact FQ HV.out f k.As false
       have bf:Eb (Bz (Ax d) k.As):=by
        unfold Bz
        cases hq:Ax d k.As with
        |none=>exact Eb.zero
        |some m=>exact Eb.of (HV.out _ m hq)
       obtain ⟨⟨s1,s2,s3⟩,T⟩:=Aq (Gl (Bz (Ax d) k.As))
       have b8:Aside (R=match IJ x (s1,s2,s3) (j==0) k ⟨true,oh,oe,op⟩ with
        |none=>GO
        |some o'=>BS (Ax d) (fun p=>Ba (Ax d) f p false) (n.kids.drop (j+1)) (j+1==0) o'):=(by
        have t:=A.out.rest
        rw[ZQ hk,hx,T] at t
        exact t.symm:_=_)
       obtain ⟨k1,k2,k3,k4⟩:=k
       simp only at r1 r2 r3 r4 hx bf T
       have HX:Aside (Ba (Ax d) f k1 false=x):=hx
       have a9:Aside (Pe false f x):=M
       have d9:Aside (Eb (Bz (Ax d) k1)):=bf
       have bz:Aside (Gl (Bz (Ax d) k1)=(s1,s2,s3)):=T
       clear hk hx M bf T
       go_wp2_with fail
       with_reducible refine Calls.mono (IH.out k1 (q+1) false _ _ ?_ ?_ (Af B)) ?_
       · have:=HD.out;omega
       · have:=HD.out;omega
       rintro e w4 ⟨v2,G2,rfl,cf,q6⟩
       rw[HX.out] at cf
       obtain ⟨fg,fj,rfl,aq,au⟩:=cf
       obtain ⟨xE,dE,rfl,ca,f0⟩:=aq.v
       obtain ⟨xP,dP,rfl,ck,f3⟩:=au.v
       have dt:=a9.out.h0
       have cu:=a9.out.h1
       have ct:=a9.out.Ag
       have bg:=a9.out.A7
       obtain ⟨xo,L,U,xp⟩:=x
       simp only at dt cu ct bg ca ck aq au
       obtain ⟨D,aw⟩:=Aq U.length
       obtain ⟨r,ax⟩:=Aq xp.length
       have H:Aside (U.length=D∧xp.length=r):=⟨aw,ax⟩
       have c0:Aside (An G2 (.slice xE U.length dE) U∧GD G2 (.slice xP xp.length dP) xp):=⟨aq,au⟩
       have eg:(f:Int)≤12:=by have:=HD.out;omega
       rw[aw] at ct ca bg
       rw[ax] at ck bg
       simp only[aw,ax] at q6⊢
       haveI:=q6.i
       have f9:=Bc (L+1) (by omega)
       clear aq au aw ax q5
       go_wp2_with fail
       with_reducible refine Calls.mono (NO.out k1 _ _ (Af B)) ?_
       rintro e w5 ⟨v3,G3,rfl,cg,q7⟩
       have aa:AG G3 v3 (Bz (Ax d) k1):=cg
       have af:=Vy (Bz (Ax d) k1) v3 G3
       rw[bz.out] at af
       simp only at af
       obtain ⟨fh,fi,rfl,cb,ce⟩:=cg
       obtain ⟨bE,fE,rfl,di,f1⟩:=cb.v
       obtain ⟨bK,fK,rfl,dk,f2⟩:=ce.v
       obtain ⟨nn,ay⟩:=Aq ((Ax d k1).getD GP)
       obtain ⟨ge,ba⟩:=Aq nn.Ag.length
       obtain ⟨gk,bb⟩:=Aq nn.kids.length
       obtain ⟨gl,bc⟩:=Aq nn.leaf
       obtain ⟨go,cq⟩:=Aq ((Ax d k1).isSome)
       rw[ay,ba,bb,bc] at aa af
       rw[ay,ba,bb,bc,cq]
       have bx:Aside (∀(F:Ac)(w:World),Sat (G3*F) w→Calls Tryz.prog 127 #[.agg #[.bool gl,.slice bE ge fE,.slice bK gk fK]] w fun e Q=>e= .returned (.tuple #[.int .i64 s1,.int .i64 s2,.int .i64 s3])∧Sat (G3*F) Q):=fun F w h=>af F w aa d9.out h
       haveI:=q7.i
       clear aa af cb ce di dk ay ba bb bc cq q6
       go_wp2_with fail
       with_reducible refine Calls.mono (bx.out _ _ (Af G3)) ?_
       rintro e w6 ⟨rfl,q8⟩
       haveI:=q8.i
       clear q7
       obtain ⟨bd,cm⟩:=Aq (decide (xo=false∨s1≠k2∨s2≠k3∨s3≠k4∨((j==0)=false∧L+1≠oh)))
       have u:Aside (decide (xo=false∨s1≠k2∨s2≠k3∨s3≠k4∨((j==0)=false∧L+1≠oh))=bd):=cm
       clear cm
       have q9:Sat (Sl.block w4.heap.size KI [.bool xo,.int .i64 L,.slice xE D dE,.slice xP r dP]*(G2*(Sl.block y KI [.bool true,.int .i64 oh,.slice a1 ne c1,.slice a2 np c2]*(Sl.block N9 C0 [.bool lf,.slice aE le cE,.slice (some ⟨b,ag,none⟩) lk X]*(Sl.block N8 KI [.bool false,.int .i64 0,.slice none 0 0,.slice none 0 0]*(J*(B*F))))))) w6:=A6 (C:=G3*(Sl.block w5.heap.size C0 [.bool gl,.slice bE ge fE,.slice bK gk fK]*Sl.block wr.heap.size 141 [.int .i64 k1,.int .i64 k2,.int .i64 k3,.int .i64 k4])) (by ac_rfl)
       go_upto_region 12 with (fail)
       go_cut [115] (fun d0 wx=>d0= .bool bd∧Sat (Sl.block w4.heap.size KI [.bool xo,.int .i64 L,.slice xE D dE,.slice xP r dP]*(G2*(Sl.block y KI [.bool true,.int .i64 oh,.slice a1 ne c1,.slice a2 np c2]*(Sl.block N9 C0 [.bool lf,.slice aE le cE,.slice (some ⟨b,ag,none⟩) lk X]*(Sl.block N8 KI [.bool false,.int .i64 0,.slice none 0 0,.slice none 0 0]*(J*(B*F))))))) wx)
       case first =>
        cases M:xo with
        | false =>
          subst M
          have K:bd=true:=by rw[←u.out];simp
          subst K
          go_wp2_with fail
          go_meet
          exact ⟨rfl,q9⟩
        | true =>
          subst M
          cases e2:(s1 !=k2) with
          | true =>
            have K:bd=true:=by
             have c2:s1≠k2:=by simpa using e2
             rw[←u.out]
             simp[*]
            subst K
            go_wp2_with fail
            go_meet
            exact ⟨rfl,q9⟩
          | false =>
            cases e3:(s2 !=k3) with
            | true =>
              have K:bd=true:=by
               have c3:s2≠k3:=by simpa using e3
               rw[←u.out]
               simp[*]
              subst K
              go_wp2_with fail
              go_meet
              exact ⟨rfl,q9⟩
            | false =>
              cases e4:(s3 !=k4) with
              | true =>
                have K:bd=true:=by
                 have c4:s3≠k4:=by simpa using e4
                 rw[←u.out]
                 simp[*]
                subst K
                go_wp2_with fail
                go_meet
                exact ⟨rfl,q9⟩
              | false =>
                by_cases c5:j=0
                · have dp:(j:Int)=0:=by omega
                  have av:decide ((0:Int)<(j:Int))=false:=decide_eq_false (by omega)
                  have K:bd=false:=by
                   clear dp av
                   have c2:s1=k2:=by simpa using e2
                   have c3:s2=k3:=by simpa using e3
                   have c4:s3=k4:=by simpa using e4
                   rw[←u.out]
                   simp[*]
                  subst K
                  go_wp2_with fail
                  go_meet
                  exact ⟨rfl,q9⟩
                have be:(0:Int)<j:=by omega
                have av:decide ((0:Int)<(j:Int))=true:=decide_eq_true be
                cases e6:(L+1 !=oh) with
                | true =>
                  have K:bd=true:=by
                   clear be av
                   have c6:L+1≠oh:=by simpa using e6
                   rw[←u.out]
                   simp[*]
                  subst K
                  go_wp2_with fail
                  go_meet
                  exact ⟨rfl,q9⟩
                | false =>
                  have K:bd=false:=by
                   clear be av
                   have c2:s1=k2:=by simpa using e2
                   have c3:s2=k3:=by simpa using e3
                   have c4:s3=k4:=by simpa using e4
                   have c6:L+1=oh:=by simpa using e6
                   rw[←u.out]
                   simp[*]
                  subst K
                  go_wp2_with fail
                  go_meet
                  exact ⟨rfl,q9⟩
       obtain ⟨rfl,az⟩:=hcut
       clear q8 q9 this bx
       haveI:=az.i
       cases bd with
       | true =>
         have O:Aside (R=GO):=(by
          rw[b8.out,Ya (of_decide_eq_true u.out)]:_=_)
         go_wp2
         go_returns
         rw[O.out]
         exact DI (Ap B F)
       | false =>
         obtain ⟨NX,cj⟩:=Aq w4.heap.size
         rw[cj] at az⊢
         clear cj this
         haveI:=az.i
         have SE:Aside (∀(F:Ac)(w:World),Sat (J*F) w→Src Tryz.prog 4 w (.slice a1 ne c1) ne (Bb oe)):=fun F w h=>by
          have t:=Al.src (P:=Tryz.prog) A.out.e (Gr oe) h
          rw[A.out.ne] at t
          exact t
         have SP:Aside (∀(F:Ac)(w:World),Sat (J*F) w→Src Tryz.prog 1 w (.slice a2 np c2) np (PV op)):=fun F w h=>by
          have t:=Al.src (P:=Tryz.prog) A.out.p (Wz op) h
          rw[A.out.np] at t
          exact t
         have SX:Aside (∀(F:Ac)(w:World),Sat (G2*F) w→Src Tryz.prog 4 w (.slice xE D dE) D (Bb U)):=fun F w h=>by
          have t:=Al.src (P:=Tryz.prog) c0.out.1 (Gr U) h
          rw[H.out.1] at t
          exact t
         have db:Aside (∀(F:Ac)(w:World),Sat (G2*F) w→Src Tryz.prog 1 w (.slice xP r dP) r (PV xp)):=fun F w h=>by
          have t:=Al.src (P:=Tryz.prog) c0.out.2 (Wz xp) h
          rw[H.out.2] at t
          exact t
         go_upto_region 15 with (fail)
         have cw:Sat (Sl.block y KI [.bool true,.int .i64 (L+1),.slice a1 ne c1,.slice a2 np c2]*(Sl.block NX KI [.bool xo,.int .i64 L,.slice xE D dE,.slice xP r dP]*(G2*(Sl.block N9 C0 [.bool lf,.slice aE le cE,.slice (some ⟨b,ag,none⟩) lk X]*(Sl.block N8 KI [.bool false,.int .i64 0,.slice none 0 0,.slice none 0 0]*(J*(B*F))))))) (wc.setCell ⟨y,1,none⟩ (.int .i64 (L+1))):=Av (by ac_rfl)
         generalize wc.setCell ⟨y,1,none⟩ (.int .i64 (L+1))=w7 at cw⊢
         clear az this
         haveI:=cw.i
         refine Dr.E9 (fun Q=>Q.cell? ⟨y,2,none⟩=some (.slice a1 ne c1)∧Q.cell? ⟨NX,2,none⟩=some (.slice xE D dE)) [7,8] (by kernel_rfl) ⟨Ab _ _ _,Ab _ _ _⟩ (fun z=>?_)
         refine Dr.Ar 1 (v:=?v1) (by simp only[List.getElem?_toArray,List.getElem?_cons_succ,List.getElem?_cons_zero];rfl) (by kernel_rfl) ?hQ1 (.inl ⟨?hw1,fun Q=>?hy1⟩) ?_
         case hy1=>go_simp;try (with_reducible rfl)
         case hQ1=>exact fun _ _ _ h=>h
         case hw1=>rfl
         simp only[Act.put,List.setIfInBounds_toArray,List.set_cons_zero,List.set_cons_succ]
         refine Dr.CZ 2 (v:=?v2) (by simp only[List.getElem?_toArray,List.getElem?_cons_succ,List.getElem?_cons_zero];rfl) (by kernel_rfl) ?hQ2 (.inl ⟨?hw2,fun Q hw=>?hy2⟩) z ?_
         case hy2=>(try dsimp only at hw);go_simp;try (with_reducible rfl)
         case hQ2=>exact fun _ _ _ h=>h
         case hw2=>rfl
         simp only[Act.put,List.setIfInBounds_toArray,List.set_cons_zero,List.set_cons_succ]
         refine Dr.Ar 4 (v:=?v4) (by simp only[List.getElem?_toArray,List.getElem?_cons_succ,List.getElem?_cons_zero];rfl) (by kernel_rfl) ?hQ4 (.inl ⟨?hw4,fun Q=>?hy4⟩) ?_
         case hy4=>go_simp;try (with_reducible rfl)
         case hQ4=>exact fun _ _ _ h=>h
         case hw4=>rfl
         simp only[Act.put,List.setIfInBounds_toArray,List.set_cons_zero,List.set_cons_succ]
         refine Dr.CZ 5 (v:=?v5) (by simp only[List.getElem?_toArray,List.getElem?_cons_succ,List.getElem?_cons_zero];rfl) (by kernel_rfl) ?hQ5 (.inl ⟨?hw5,fun Q hw=>?hy5⟩) z ?_
         case hy5=>(try dsimp only at hw);go_simp;try (with_reducible rfl)
         case hQ5=>exact fun _ _ _ h=>h
         case hw5=>rfl
         simp only[Act.put,List.setIfInBounds_toArray,List.set_cons_zero,List.set_cons_succ]
         refine Dr.AQ 0 (by simp only[List.getElem?_toArray,List.getElem?_cons_succ,List.getElem?_cons_zero];rfl) (by kernel_rfl) ?_
         go_wp2_with (fail)
         refine Dr.AB ⟨⟨Ab _ _ _,Ab _ _ _⟩,?_⟩
         refine Dr.AQ 3 (by simp only[List.getElem?_toArray,List.getElem?_cons_succ,List.getElem?_cons_zero];rfl) (by kernel_rfl) ?_
         go_wp2_with (at_builtin;refine Ad E rfl (.tmp 121) (.tmp 123) rfl rfl rfl WL (SE.out _ _ (Af J)) (by unfold maxLen;omega) (by omega) ?_;intro a5 c5 w8 bk z9;clear z9;rw[Nat.zero_add,List.nil_append] at bk;rw[Nat.zero_add];haveI:=bk.i)
         refine Dr.AB ⟨⟨Ab _ _ _,Ab _ _ _⟩,?_⟩
         refine Dr.AQ 6 (by simp only[List.getElem?_toArray,List.getElem?_cons_succ,List.getElem?_cons_zero];rfl) (by kernel_rfl) ?_
         go_wp2_with (at_builtin;refine Ad E rfl (.tmp 124) (.tmp 126) rfl rfl rfl (Af (rw AM 4 (.slice a5 ne c5) (Bb oe))) (SX.out _ _ (Af G2)) (by unfold maxLen;omega) (by omega) ?_;intro a6 c6 w9 cx z9;clear z9;haveI:=cx.i)
         refine Dr.AB ⟨⟨Ab _ _ _,Ab _ _ _⟩,?_⟩
         refine Dr.CY [7,8] (os:= [_,_]) (by decide) (by simp only[List.map_cons,List.map_nil,List.getElem?_toArray,List.getElem?_cons_succ,List.getElem?_cons_zero];rfl) (by kernel_rfl) ?_
         go_upto_region 16 with (fail)
         have bl:Sat (Sl.block y KI [.bool true,.int .i64 (L+1),.slice a6 (ne+D) c6,.slice a2 np c2]*(Sl.block NX KI [.bool xo,.int .i64 L,.slice xE D dE,.slice xP r dP]*(G2*(Sl.block N9 C0 [.bool lf,.slice aE le cE,.slice (some ⟨b,ag,none⟩) lk X]*(Sl.block N8 KI [.bool false,.int .i64 0,.slice none 0 0,.slice none 0 0]*(rw AM 4 (.slice a6 (ne+D) c6) (Bb oe++Bb U)*(J*(B*F)))))))) (w9.setCell ⟨y,2,none⟩ (.slice a6 (ne+D) c6)):=Av (by ac_rfl)
         generalize w9.setCell ⟨y,2,none⟩ (.slice a6 (ne+D) c6)=w10 at bl⊢
         clear bk cx this
         haveI:=bl.i
         refine Dr.E9 (fun Q=>Q.cell? ⟨y,3,none⟩=some (.slice a2 np c2)∧Q.cell? ⟨NX,3,none⟩=some (.slice xP r dP)) [7,8] (by kernel_rfl) ⟨Ab _ _ _,Ab _ _ _⟩ (fun z=>?_)
         refine Dr.Ar 1 (v:=?v1b) (by simp only[List.getElem?_toArray,List.getElem?_cons_succ,List.getElem?_cons_zero];rfl) (by kernel_rfl) ?hQ1b (.inl ⟨?hw1b,fun Q=>?hy1b⟩) ?_
         case hy1b=>go_simp;try (with_reducible rfl)
         case hQ1b=>exact fun _ _ _ h=>h
         case hw1b=>rfl
         simp only[Act.put,List.setIfInBounds_toArray,List.set_cons_zero,List.set_cons_succ]
         refine Dr.CZ 2 (v:=?v2b) (by simp only[List.getElem?_toArray,List.getElem?_cons_succ,List.getElem?_cons_zero];rfl) (by kernel_rfl) ?hQ2b (.inl ⟨?hw2b,fun Q hw=>?hy2b⟩) z ?_
         case hy2b=>(try dsimp only at hw);go_simp;try (with_reducible rfl)
         case hQ2b=>exact fun _ _ _ h=>h
         case hw2b=>rfl
         simp only[Act.put,List.setIfInBounds_toArray,List.set_cons_zero,List.set_cons_succ]
         refine Dr.Ar 4 (v:=?v4b) (by simp only[List.getElem?_toArray,List.getElem?_cons_succ,List.getElem?_cons_zero];rfl) (by kernel_rfl) ?hQ4b (.inl ⟨?hw4b,fun Q=>?hy4b⟩) ?_
         case hy4b=>go_simp;try (with_reducible rfl)
         case hQ4b=>exact fun _ _ _ h=>h
         case hw4b=>rfl
         simp only[Act.put,List.setIfInBounds_toArray,List.set_cons_zero,List.set_cons_succ]
         refine Dr.CZ 5 (v:=?v5b) (by simp only[List.getElem?_toArray,List.getElem?_cons_succ,List.getElem?_cons_zero];rfl) (by kernel_rfl) ?hQ5b (.inl ⟨?hw5b,fun Q hw=>?hy5b⟩) z ?_
         case hy5b=>(try dsimp only at hw);go_simp;try (with_reducible rfl)
         case hQ5b=>exact fun _ _ _ h=>h
         case hw5b=>rfl
         simp only[Act.put,List.setIfInBounds_toArray,List.set_cons_zero,List.set_cons_succ]
         refine Dr.AQ 0 (by simp only[List.getElem?_toArray,List.getElem?_cons_succ,List.getElem?_cons_zero];rfl) (by kernel_rfl) ?_
         go_wp2_with (fail)
         refine Dr.AB ⟨⟨Ab _ _ _,Ab _ _ _⟩,?_⟩
         refine Dr.AQ 3 (by simp only[List.getElem?_toArray,List.getElem?_cons_succ,List.getElem?_cons_zero];rfl) (by kernel_rfl) ?_
         go_wp2_with (at_builtin;refine Ad E1 rfl (.tmp 129) (.tmp 131) rfl rfl rfl WL (SP.out _ _ (Af J)) (by unfold maxLen;omega) (by omega) ?_;intro a7 c7 fk cy z9;clear z9;rw[Nat.zero_add,List.nil_append] at cy;rw[Nat.zero_add];haveI:=cy.i)
         refine Dr.AB ⟨⟨Ab _ _ _,Ab _ _ _⟩,?_⟩
         refine Dr.AQ 6 (by simp only[List.getElem?_toArray,List.getElem?_cons_succ,List.getElem?_cons_zero];rfl) (by kernel_rfl) ?_
         go_wp2_with (at_builtin;refine Ad E1 rfl (.tmp 132) (.tmp 134) rfl rfl rfl (Af (rw B3 1 (.slice a7 np c7) (PV op))) (db.out _ _ (Af G2)) (by unfold maxLen;omega) (by omega) ?_;intro a8 c8 fl cz z9;clear z9;haveI:=cz.i)
         refine Dr.AB ⟨⟨Ab _ _ _,Ab _ _ _⟩,?_⟩
         refine Dr.CY [7,8] (os:= [_,_]) (by decide) (by simp only[List.map_cons,List.map_nil,List.getElem?_toArray,List.getElem?_cons_succ,List.getElem?_cons_zero];rfl) (by kernel_rfl) ?_
         go_upto_region 17 with (fail)
         by_cases b4:1024<ne+D
         · have dm:(1024:Int)<((ne+D:Nat):Int):=by omega
           have O:Aside (R=GO):=(by rw[b8.out];unfold IJ;rw[if_neg (of_decide_eq_false u.out),if_pos (by rw[List.length_append,H.out.1,A.out.ne];exact b4)]:_=_)
           go_wp2
           go_returns
           rw[O.out]
           exact DI (Ap B F)
         have dm: ¬(1024:Int)<((ne+D:Nat):Int):=by omega
         have O:Aside (BS (Ax d) (fun p=>Ba (Ax d) f p false) (n.kids.drop (j+1)) (j+1==0) ⟨true,L+1,oe++U,op++xp⟩=R):=(by rw[b8.out];unfold IJ;rw[if_neg (of_decide_eq_false u.out),if_neg (by rw[List.length_append,H.out.1,A.out.ne];exact b4)]:_=_)
         have M:xo=true:=by
          cases xo with
          |true=>rfl
          |false=>exact absurd (.inl rfl) (of_decide_eq_false u.out)
         have bv:Aside (r+1≤D):=(by have t:=a9.out.low rfl M;simp only[H.out.1,H.out.2] at t;exact t:_≤_)
         have cc:An (rw AM 4 (.slice a6 (ne+D) c6) (Bb oe++Bb U)) (.slice a6 (ne+D) c6) (oe++U):=by
          rw[←Wu]
          exact Dm (by rw[Wu];exact bl.take (rw AM 4 (.slice a6 (ne+D) c6) (Bb oe++Bb U))) (by rw[List.length_append,H.out.1,A.out.ne])
         have cl:GD (rw B3 1 (.slice a8 (np+r) c8) (PV op++PV xp)) (.slice a8 (np+r) c8) (op++xp):=by
          rw[←Wy]
          exact Q1 (by rw[Wy];exact cz.take (rw B3 1 (.slice a8 (np+r) c8) (PV op++PV xp))) (by rw[List.length_append,H.out.2,A.out.np])
         have d6:Aside (fR (Ax d) f n.kids R (rw AM 4 (.slice a6 (ne+D) c6) (Bb oe++Bb U)*(rw B3 1 (.slice a8 (np+r) c8) (PV op++PV xp)*J)) (lk-(j+1)) lk (j+1) (ne+D) (np+r) (L+1) (oe++U) (op++xp) a6 c6 a8 c8 (.slice (some ⟨b,ag,none⟩) lk X)):=
          ⟨rfl,O.out,Al.left cc,Al.right (Al.left cl),Al.right (Al.right A.out.k),by rw[List.length_append,H.out.1,A.out.ne],by rw[List.length_append,H.out.2,A.out.np]⟩
         clear cc cl M
         go_wp2_with fail
         go_roundg (lk-(j+1))
         case measure=>have:=A.out.dI;omega
         exact ⟨j+1,ne+D,np+r,L+1,oe++U,op++xp,a6,c6,a8,c8,_,by go_num,by omega,by omega,by omega,by omega,by have:=bv.out;omega,by have:=bv.out;omega,d6,A6 (C:=G2*Sl.block NX KI [.bool xo,.int .i64 L,.slice xE D dE,.slice xP r dP]) (by ac_rfl)⟩
     have cs: ¬(j:Int)<lk:=by omega
     obtain rfl:j=lk:=by omega
     have O:Aside (R=⟨true,oh,oe,op⟩):=(by
      have t:=A.out.rest
      rw[←W.out,List.drop_length] at t
      exact t.symm:_=_)
     have bs:Aside (An J (.slice a1 oe.length c1) oe∧GD J (.slice a2 op.length c2) op):=⟨by have:=A.out.e;rw[←A.out.ne] at this;exact this,by have:=A.out.p;rw[←A.out.np] at this;exact this⟩
     have bw:Aside (oe.length=ne∧op.length=np):=⟨A.out.ne,A.out.np⟩
     clear A
     go_wp2
     go_returns
     rw[O.out]
     refine ⟨_,J,rfl,⟨_,_,rfl,by have:=bs.out.1;rw[bw.out.1] at this;exact this,by have:=bs.out.2;rw[bw.out.2] at this;exact this⟩,AD J B F⟩
theorem eS{l:List Au}(hm: ∀x∈l,Ah x=true):Aa l≤l.length*1048576:=by
 induction l with
 |nil=>simp[Aa]
 | cons x l a =>
  have h1:=C9.1 (hm x (List.mem_cons_self ..))
  have b:=a fun y hy=>hm y (List.mem_cons_of_mem _ hy)
  rw[Bl,List.length_cons]
  omega
theorem T8(b:List UInt8)(v:Value)(B:Ac)(root:Int)(F:Ac)(w:World)(Y:Reads B v b)(hl:b.length≤1099511627776)(hs:Sat (B*F) w):
 Calls Tryz.prog 16 #[v,.int .i64 root] w (P5 B F (CM (Ax b) root)):=by
 by_cases h0:root=0
 · subst h0
   have y:CM (Ax b) 0=⟨true,0,[],[]⟩:=rfl
   rw[y]
   haveI:=hs.i
   go_enter Tryz.func16,Tryz.ntmps16
   go_wp2
   go_returns
   exact ⟨_,1,rfl,⟨_,_,rfl,Al.nil 4 _,Al.nil 1 _⟩,by rw[Aw];exact Ap B F⟩
 obtain ⟨R,y⟩:=Aq (CM (Ax b) root)
 obtain ⟨x,hx⟩:=Aq (Ba (Ax b) 13 root true)
 have K:Aside (R=if x.ok=false∨(join x.Ag).length≠x.Ag.length then GO else x):=(by
  rw[←y];unfold CM;rw[if_neg h0,hx]:_=_)
 rw[y]
 have m:Pe true 13 x:=by rw[←hx];exact FQ (fun p n h=>FE h) 13 root true
 have j:=RE b v B Y hl 13 root 0 true
 rw[hx] at j
 have q:Aside (∀(F:Ac)(w:World),Sat (B*F) w→Calls Tryz.prog 71 #[v,.int .i64 root,.bool true,.int .i64 0] w (P5 B F x)):=fun F w h=>j F w (by omega) (by omega) h
 have X:(root==0)=false:=by simpa using h0
 haveI:=hs.i
 clear y hx j
 go_enter Tryz.func16,Tryz.ntmps16
 go_wp2_with fail
 with_reducible refine Calls.mono (q.out _ _ (Af B)) ?_
 rintro e V ⟨v1,G,rfl,hL,U⟩
 obtain ⟨vE,vP,rfl,s,I⟩:=hL
 obtain ⟨P,L,rfl,t,Z⟩:=s.v
 obtain ⟨xP,W,rfl,u,a1⟩:=I.v
 have T:Aside (Pe true 13 x):=m
 have z:=m.Ag
 obtain ⟨xo,xh,f,H⟩:=x
 simp only at z s I t u
 have Q:Aside (∀(F:Ac)(w:World),Sat (G*F) w→Calls Tryz.prog 72 #[.slice P f.length L] w fun e J=> ∃a c,e= .returned (.slice a (join f).length c)∧Sat (rw AM 4 (.slice a (join f).length c) (Bb (join f))*(G*F)) J):=fun F w h=>Mj f _ G F w s h (by omega) T.out.may (by have:=eS T.out.may;simp only at this;omega)
 obtain ⟨D,k⟩:=Aq ((join f).length)
 obtain ⟨o,g⟩:=Aq f.length
 obtain ⟨O,l⟩:=Aq H.length
 have d:Aside (An G (.slice P f.length L) f∧GD G (.slice xP H.length W) H∧(join f).length=D∧f.length=o∧H.length=O):=⟨s,I,k,g,l⟩
 simp only[k,g] at Q
 simp only[g,l] at U⊢
 haveI:=U.i
 clear s I t u z m k g l hs q
 cases xo with
 | false =>
   have r:Aside (R=GO):=(by rw[K.out,if_pos (.inl rfl)]:_=_)
   go_upto_region 4 with (fail)
   go_region
   go_wp2
   go_returns
   rw[r.out]
   exact DI (Ap B F)
 | true =>
   go_upto_region 4 with (fail)
   go_region_held3 (fun J=>J.cell? ⟨V.heap.size,0,none⟩=some (.bool true)∧J.cell? ⟨V.heap.size,2,none⟩=some (.slice P o L)) (exact ⟨Ab _ _ _,Ab _ _ _⟩) (first
    |(go_at_call 72;with_reducible refine Calls.mono (Q.out _ _ (Af G)) ?_;rintro e w7 ⟨a7,c7,rfl,q7⟩;haveI:=q7.i))
   all_goals
    cases M:((D:Int) !=(o:Int)) with
    | true =>
     have r:Aside (R=GO):=(by
      have c9:D≠o:=by intro h;rw[h] at M;simp at M
      rw[K.out,if_pos (.inr (by rw[d.out.2.2.1,d.out.2.2.2.1];exact c9))]:_=_)
     go_wp2
     go_returns
     rw[r.out]
     exact DI (Ap B F)
    | false =>
     have r:Aside (R=⟨true,xh,f,H⟩):=(by
      have c9:D=o:=by
       have:(D:Int)=o:=by simpa using M
       omega
      rw[K.out,if_neg (by rw[d.out.2.2.1,d.out.2.2.2.1];simp[c9])]:_=_)
     go_wp2
     go_returns
     rw[r.out]
     exact ⟨_,G,rfl,⟨_,_,rfl,by have:=d.out.1;rw[d.out.2.2.2.1] at this;exact this,by have:=d.out.2.1;rw[d.out.2.2.2.2] at this;exact this⟩,AD G B F⟩
