/- treeShape holds for every input. No condition. (part 45) -/
import Derived.Test.YtfhbmblbidcmmaaGreatSk41
import Derived.Test.YtfhbmblbidcmmaaGreatSk29
set_option linter.all false
set_option maxRecDepth 100000
set_option maxHeartbeats 3200000
namespace Go.Proofs.YtfhbmblbidcmmaaGreat
open Go.RowKit Go.Sl Go.Dk Go.Tr
def Yy(x:Au):Prop:=(x.src=0∨x.src=1)∧0≤x.pos∧1≤x.len∧x.pos≤16777216∧x.len≤16777216∧x.pos+x.len≤16777216∧ -1≤x.lines∧x.lines≤x.len∧(x.src=1∨x.lines= -1)
theorem WG{x:Au} :Ah x=true↔Yy x∧x.len≤1048576:=by
 rw[C9]
 unfold Yy
 omega
theorem aR{x:Au}(h: ¬Yy x):Ah x=false:=by
 cases hm:Ah x with
 |false=>rfl
 |true=>exact absurd (WG.1 hm).1 h
theorem VC{l:List Au}(h: ∀x∈l,Yy x)(h1:1≤l.length)(b:l.length≤12):may ⟨true,l,[]⟩=decide (Aa l≤1048576):=by
 by_cases hb:Aa l≤1048576
 · have hm: ∀x∈l,Ah x=true:=fun x hx=>WG.2 ⟨h x hx,by
    have:=(FI (o:=l) fun y hy=>by have:=h y hy;unfold Yy at this;unfold KD;omega).2 x hx
    omega⟩
   rw[He (fun x hx=>⟨rfl,hm x hx⟩) (fun x hx=>by cases hx),decide_eq_true hb]
   simp[B7,Be]
   omega
 rw[decide_eq_false hb]
 by_cases hm: ∀x∈l,Ah x=true
 · rw[He (fun x hx=>⟨rfl,hm x hx⟩) (fun x hx=>by cases hx)]
   simp[B7,Be]
   omega
 obtain ⟨x,hx,a⟩: ∃x∈l,Ah x=false:=by
  rcases Classical.em (∃x∈l,Ah x=false) with h|h
  · exact h
  exfalso;apply hm;intro x hx
  cases hq:Ah x with
  |true=>rfl
  |false=>exact absurd ⟨x,hx,hq⟩ h
 exact Gb hx (.inr a)
theorem RA(G:Option Addr)(H:Nat)(es:List Au)(a:Option Addr)(c:Nat)(B F:Ac)(w:World)(O:An B (.slice a es.length c) es)(hs:Sat (B*F) w):
 Calls Tryz.prog 64 #[.agg #[.bool true,.slice a es.length c,.slice G 0 H]] w fun e d=>e= .returned (.bool (may ⟨true,es,[]⟩))∧Sat (B*F) d:=by
 have Y:Aside (An B (.slice a es.length c) es):=O
 obtain ⟨r,s⟩:=Aq (may ⟨true,es,[]⟩)
 have J:Aside (may ⟨true,es,[]⟩=r):=s
 rw[s]
 obtain ⟨n,R⟩:=Aq es.length
 have t:Aside (es.length=n):=R
 rw[R] at O⊢
 clear O s R
 haveI:=hs.i
 by_cases h1:n<1
 · have W:n=0:=by omega
   have m:Aside (r=false):=(by
    have:es= []:=List.length_eq_zero_iff.1 (by rw[t.out,W])
    rw[←J.out,this];rfl:_=_)
   subst W
   go_enter Tryz.func64,Tryz.ntmps64
   go_wp2
   go_ret
   exact ⟨by rw[m.out];rfl,Ap B F⟩
 by_cases h2:12<n
 · have m:Aside (r=false):=(by
    rw[←J.out]
    by_cases hm: ∀x∈es,Ah x=true
    · rw[He (fun x hx=>⟨rfl,hm x hx⟩) (fun x hx=>by cases hx)]
      have:=t.out
      simp[B7,Be]
      omega
    obtain ⟨x,hx,he⟩: ∃x∈es,Ah x=false:=by
     rcases Classical.em (∃x∈es,Ah x=false) with h|h
     · exact h
     exfalso;apply hm;intro x hx
     cases hq:Ah x with
     |true=>rfl
     |false=>exact absurd ⟨x,hx,hq⟩ h
    exact Gb hx (.inr he):_=_)
   have K: ¬(n:Int)<1:=by omega
   have L:(12:Int)<n:=by omega
   go_enter Tryz.func64,Tryz.ntmps64
   go_wp2
   go_ret
   exact ⟨by rw[m.out];rfl,Ap B F⟩
 have K: ¬(n:Int)<1:=by omega
 have L: ¬(12:Int)<n:=by omega
 go_enter Tryz.func64,Tryz.ntmps64
 go_wp2_with fail
 obtain ⟨N,P⟩:=Aq w.heap.size
 have T:Sat (Sl.block N C0 [.bool true,.slice a n c,.slice G 0 H]*(B*F)) (w.alloc (.cells #[.bool true,.slice a n c,.slice G 0 H] C0)):=by
  rw[←P]
  exact E3
 try rw[P]
 generalize w.alloc (.cells #[.bool true,.slice a n c,.slice G 0 H] C0)=w0 at T⊢
 clear P hs this
 go_loopg [3,4] n (fun g t3 t4 wr=> ∃(i:Nat)(l:Int),t4= .int .i64 i∧t3= .int .i64 l∧i≤n∧0≤l∧l≤i*16777216∧Aside (g=n-i∧l=Aa (es.take i)∧ ∀x∈es.take i,Yy x)∧
  Sat (Sl.block N C0 [.bool true,.slice a n c,.slice G 0 H]*(B*F)) wr)
 case atStart=>exact ⟨0,0,rfl,rfl,by omega,by omega,by omega,⟨rfl,by simp[Aa],by simp⟩,T⟩
 obtain ⟨i,l,rfl,rfl,hi,a1,a2,A,q1⟩:=hrel
 clear T
 haveI:=q1.i
 by_cases Q:i<n
 · have v:(i:Int)<n:=by omega
   obtain ⟨x,hx⟩: ∃x,es[i]?=some x:=⟨_,List.getElem?_eq_getElem (by rw[t.out];exact Q)⟩
   obtain ⟨b,o,rfl,r1,r2,r3,r4⟩:=BD Y.out hx
   have u:Aside (es[i]?=some x):=hx
   obtain ⟨I,k,j,p⟩:=x
   simp only at r1 r2 r3 r4
   have q:Aside (¬Yy ⟨I,k,j,p⟩→r=false):=fun h=>J.out.symm.trans (Gb (List.mem_of_getElem? u.out) (.inr (aR h)))
   clear hx
   by_cases f:Yy ⟨I,k,j,p⟩
   · have V:Aside (Yy ⟨I,k,j,p⟩):=f
     unfold Yy at f
     simp only at f
     obtain ⟨D,k2,k3,k4,k5,k6,k7,k8,X⟩:=f
     have hw2:=Bc (l+j) (by omega)
     have hw1:=Bc (k+j) (by omega)
     have d1:decide (k<0)=false:=decide_eq_false (by omega)
     have d2:decide (j<1)=false:=decide_eq_false (by omega)
     have d3:decide (16777216<k)=false:=decide_eq_false (by omega)
     have d4:decide (16777216<j)=false:=decide_eq_false (by omega)
     have d5:decide (16777216<k+j)=false:=decide_eq_false (by omega)
     have d6:decide (p< -1)=false:=decide_eq_false (by omega)
     have d7:decide (j<p)=false:=decide_eq_false (by omega)
     rcases D with D|D
     · obtain rfl:p= -1:=by omega
       subst D
       clear X
       go_wp2_with fail
       go_region_held3 (fun d=>d.cell? ⟨N,1,none⟩=some (.slice (some ⟨b,o,none⟩) n c)∧d.cell? ⟨b,o+i*4,none⟩=some (.int .i64 0)∧d.cell? ⟨b,o+i*4+1,none⟩=some (.int .i64 k)∧d.cell? ⟨b,o+i*4+2,none⟩=some (.int .i64 j)∧d.cell? ⟨b,o+i*4+3,none⟩=some (.int .i64 (-1))) (first|exact ⟨Ab _ _ _,Ab _ _ _,Ab _ _ _,Ab _ _ _,Ab _ _ _⟩) (fail)
       go_wp2
       go_roundg (n-(i+1))
       case measure=>have:=A.out.1;omega
       refine ⟨i+1,l+j,by go_num,rfl,by omega,by omega,by omega,⟨rfl,?_,?_⟩,AD _ B F⟩
       ·rw[BR u.out,A.out.2.1]
       rw[A9 u.out]
       intro y hy
       rcases List.mem_append.1 hy with hy|hy
       ·exact A.out.2.2 y hy
       simp at hy;subst hy;exact V.out
     subst D
     clear X
     go_wp2_with fail
     go_region_held3 (fun d=>d.cell? ⟨N,1,none⟩=some (.slice (some ⟨b,o,none⟩) n c)∧d.cell? ⟨b,o+i*4,none⟩=some (.int .i64 1)∧d.cell? ⟨b,o+i*4+1,none⟩=some (.int .i64 k)∧d.cell? ⟨b,o+i*4+2,none⟩=some (.int .i64 j)∧d.cell? ⟨b,o+i*4+3,none⟩=some (.int .i64 p)) (first|exact ⟨Ab _ _ _,Ab _ _ _,Ab _ _ _,Ab _ _ _,Ab _ _ _⟩) (fail)
     go_wp2
     go_roundg (n-(i+1))
     case measure=>have:=A.out.1;omega
     refine ⟨i+1,l+j,by go_num,rfl,by omega,by omega,by omega,⟨rfl,?_,?_⟩,AD _ B F⟩
     · rw[BR u.out,A.out.2.1]
     rw[A9 u.out]
     intro y hy
     rcases List.mem_append.1 hy with hy|hy
     · exact A.out.2.2 y hy
     simp at hy;subst hy;exact V.out
   have m:Aside (r=false):=q.out f
   have Z:Aside (¬Yy ⟨I,k,j,p⟩):=f
   clear f q
   go_wp2_with fail
   go_region_held3 (fun d=>d.cell? ⟨N,1,none⟩=some (.slice (some ⟨b,o,none⟩) n c)∧d.cell? ⟨b,o+i*4,none⟩=some (.int .i64 I)∧d.cell? ⟨b,o+i*4+1,none⟩=some (.int .i64 k)∧d.cell? ⟨b,o+i*4+2,none⟩=some (.int .i64 j)∧d.cell? ⟨b,o+i*4+3,none⟩=some (.int .i64 p)) (first|exact ⟨Ab _ _ _,Ab _ _ _,Ab _ _ _,Ab _ _ _,Ab _ _ _⟩) (fail)
   all_goals go_wp2
   all_goals (try go_ret)
   all_goals first
    |exact ⟨by rw[m.out];rfl,Ap B F⟩
    |(exfalso;apply Z.out;unfold Yy;simp only;simp at*;omega)
 have v: ¬(i:Int)<n:=by omega
 obtain rfl:i=n:=by omega
 have hx:es.take i=es:=List.take_of_length_le (by rw[t.out];exact Nat.le_refl _)
 have U:Aside (r=decide (l≤1048576)):=(by
  have M:=A.out.2
  rw[hx] at M
  rw[←J.out,VC M.2 (by rw[t.out];omega) (by rw[t.out];omega),M.1]:_=_)
 clear hx
 by_cases z:l≤1048576
 · have m:Aside (r=true):=U.out.trans (decide_eq_true z)
   go_wp2
   go_ret
   exact ⟨by rw[m.out];rfl,Ap B F⟩
 have m:Aside (r=false):=U.out.trans (decide_eq_false z)
 go_wp2
 go_ret
 exact ⟨by rw[m.out];rfl,Ap B F⟩
theorem MH(es:List Au)(a:Option Addr)(c:Nat)(B F:Ac)(w:World)(b:An B (.slice a es.length c) es)(hs:Sat (B*F) w):
 Calls Tryz.prog 64 #[.agg #[.bool true,.slice a es.length c,.slice none 0 0]] w fun e d=>e= .returned (.bool (may ⟨true,es,[]⟩))∧Sat (B*F) d:=RA none 0 es a c B F w b hs
theorem ZX(y:Au)(a:Option Addr)(c:Nat)(B F:Ac)(w:World)(b:An B (.slice a 1 c) [y])(hs:Sat (B*F) w):
 Calls Tryz.prog 64 #[.agg #[.bool true,.slice a 1 c,.slice none 0 0]] w fun e d=>e= .returned (.bool (Ah y))∧Sat (B*F) d:=by
 rw[←WA]
 exact MH [y] a c B F w b hs
theorem Te{l:List Au}{i:Nat}{y:Au}(hy:l[i]?=some y)(h:1048576<Aa (l.take i)+y.len):Bh l=false:=by
 rw[E2]
 by_cases a:l.all Ah=true
 ·have h1:Aa l=Aa (l.take (i+1))+Aa (l.drop (i+1)):=by rw[←Ao,List.take_append_drop]
  have b:0≤Aa (l.drop (i+1)):=by
   have:=(C6 (l:=l.drop (i+1)) (fun x hx=>by
    have:=Ca (List.all_eq_true.1 a x (List.mem_of_mem_drop hx))
    omega) (l.drop (i+1)).length).1
   rwa [List.take_of_length_le (Nat.le_refl _)] at this
  have c:=BR hy
  rw[decide_eq_false (by omega),Bool.and_false]
 rw[Bool.not_eq_true] at a
 rw[a]
 rfl
theorem YW(y:Au):Bb [y]=Cx y:=by simp[Bb]
theorem V2{y:Au}{a:Option Addr}{c:Nat}{F:Ac}{w:World}(h:Sat (rw AM 4 (.slice a 1 c) (Cx y)*F) w):An (rw AM 4 (.slice a 1 c) (Cx y)) (.slice a 1 c) [y]:=by
 rw[←YW] at h⊢
 exact Dm h rfl
theorem TY(l:List Au)(v:Value)(B F:Ac)(w:World)(J:An B v l)(hs:Sat (B*F) w)(hl:l.length≤65536):
 Calls Tryz.prog 105 #[v] w fun e R=>e= .returned (.bool (Bh l))∧Sat (B*F) R:=by
 obtain ⟨i0,E⟩:=Ey
 obtain ⟨a0,c0,rfl,a5,a6⟩:=J.v
 have HE:Aside (An B (.slice a0 l.length c0) l):=J
 obtain ⟨n,M⟩:=Aq l.length
 rw[M] at hl⊢
 have T:Aside (l.length=n):=M
 obtain ⟨o,k⟩:=Aq (Bh l)
 rw[k]
 have I:Aside (Bh l=o):=k
 haveI:=hs.i
 clear J M k
 go_enter Tryz.func105,Tryz.ntmps105
 go_wp2
 go_loopg [3,4] n (fun g t3 t4 wr=> ∃(i:Nat),t4= .int .i64 i∧t3= .int .i64 (Aa (l.take i))∧i≤n∧Aside (g=n-i)∧Aside ((∀x∈l.take i,Ah x=true)∧0≤Aa (l.take i)∧Aa (l.take i)≤1048576)∧Sat (B*F) wr)
 case atStart=>exact ⟨0,rfl,by simp[Aa],by omega,rfl,⟨by simp,by simp[Aa],by simp[Aa]⟩,hs⟩
 obtain ⟨i,rfl,rfl,hi,A,G,O⟩:=hrel
 haveI:=O.i
 clear hs
 by_cases L:i<n
 · have r:(i:Int)<n:=by omega
   obtain ⟨y,hy⟩: ∃y,l[i]?=some y:=⟨_,List.getElem?_eq_getElem (by rw[T.out];exact L)⟩
   obtain ⟨b,q,rfl,r1,r2,r3,r4⟩:=BD HE.out hy
   have m:Aside (Aa (l.take (i+1))=Aa (l.take i)+y.len∧l.take (i+1)=l.take i++ [y]):=⟨BR hy,A9 hy⟩
   have d:Aside (∀(a:Option Addr)(c:Nat)(F:Ac)(w:World),Sat (rw AM 4 (.slice a 1 c) (Cx y)*F) w→Calls Tryz.prog 64 #[.agg #[.bool true,.slice a 1 c,.slice none 0 0]] w fun e R=>e= .returned (.bool (Ah y))∧Sat (rw AM 4 (.slice a 1 c) (Cx y)*F) R):=fun a c F w h=>
    ZX y a c _ F w (V2 h) h
   have H:Aside (Ah y=false→o=false):=fun h=>I.out.symm.trans (Lf hy h)
   have f:Aside (1048576<Aa (l.take i)+y.len→o=false):=fun h=>I.out.symm.trans (Te hy h)
   have K:=G.out.2
   obtain ⟨z,V⟩:=Aq (Aa (l.take i))
   rw[V] at K m f⊢
   obtain ⟨W,t⟩:=Aq (Ah y)
   have j:Aside (Ah y=W):=t
   rw[t] at d
   obtain ⟨Y,Z,D,y4⟩:=y
   unfold Cx at d
   simp only at r1 r2 r3 r4 m f d
   clear hy V
   go_wp2_with (at_builtin;refine Ad E rfl (.tmp 12) (.tmp 17) rfl rfl rfl (Sat.AH (e:=AM) (s:=4) E3) (Src.new (b:=wr.heap.size) (e:=AM) (s:=4) (vs:= [.int .i64 Y,.int .i64 Z,.int .i64 D,.int .i64 y4]) (Af _) rfl (by intro u U;simp at U;rcases U with rfl|rfl|rfl|rfl<;>rfl)) (by unfold maxLen;omega) (by omega) ?_;intro a9 c9 w9 X z9;clear z9)
   rw[Nat.zero_add,List.nil_append] at X
   haveI:=X.i
   go_wp2_with fail
   refine (d.out _ _ _ _ (Af (rw AM 4 (.slice a9 1 c9) [.int .i64 Y,.int .i64 Z,.int .i64 D,.int .i64 y4]))).mono ?_
   rintro e ad ⟨rfl,Q⟩
   haveI:=Q.i
   cases W with
   | false =>
     have p:Aside (o=false):=H.out j.out
     go_wp2
     go_ret
     exact ⟨by rw[p.out];rfl,Ap B F⟩
   | true =>
     have P:=Ca j.out
     simp only at P
     have hw:=Bc (z+D) (by omega)
     by_cases hb:1048576<z+D
     ·have p:Aside (o=false):=f.out hb
      go_wp2
      go_ret
      exact ⟨by rw[p.out];rfl,Ap B F⟩
     go_wp2
     go_roundg (n-(i+1))
     case measure=>have:=A.out;omega
     refine ⟨i+1,by go_num,by rw[m.out.1],by omega,rfl,⟨?_,by rw[m.out.1];omega,by rw[m.out.1];omega⟩,Ap _ _⟩
     rw[m.out.2]
     intro x hx
     rcases List.mem_append.1 hx with hx|hx
     ·exact G.out.1 x hx
     simp at hx;subst hx;exact j.out
 have r: ¬(i:Int)<n:=by omega
 obtain rfl:i=n:=by omega
 have p:Aside (o=true):=(by
  rw[←I.out]
  have h:=G.out
  rw[List.take_of_length_le (by rw[T.out];exact Nat.le_refl _)] at h
  rw[E2]
  rw[List.all_eq_true.2 h.1,decide_eq_true h.2.2]
  rfl:_=_)
 go_wp2
 go_ret
 exact ⟨by rw[p.out];rfl,Ap B F⟩
theorem LJ(p:List Au)(a:Au)(n:Nat)(b:p.length=n)(l m:Int):((Bb (p++ [a])).set (n*4+3) (.int .i64 m)).set (n*4+2) (.int .i64 l)=Bb (p++ [⟨a.src,a.pos,l,m⟩]):=by
 rw[←KN p a n b l m,List.set_comm _ _ (by omega)]
theorem Mj(l:List Au)(v:Value)(B F:Ac)(w:World)(hE:An B v l)(hs:Sat (B*F) w)(hl:l.length≤1048576)(hm: ∀x∈l,Ah x=true)(hb:Aa l≤1099511627776):
 Calls Tryz.prog 72 #[v] w fun e w'=> ∃a c,e= .returned (.slice a (join l).length c)∧Sat (rw AM 4 (.slice a (join l).length c) (Bb (join l))*(B*F)) w':=by
 obtain ⟨i0,E⟩:=Ey
 obtain ⟨a0,c0,rfl,ao,b7⟩:=hE.v
 have HL:Aside (An B (.slice a0 l.length c0) l):=hE
 have HM:Aside (∀x∈l,Ah x=true):=hm
 have am:Aside (Aa l≤1099511627776):=hb
 obtain ⟨R,hR⟩:=Aq (join l)
 rw[hR]
 have HR:Aside (join l=R):=hR
 obtain ⟨L,X⟩:=Aq l.length
 have V:Aside (l.length=L):=X
 rw[X] at hl ao⊢
 have q0:=hs.AH (e:=AM) (s:=4)
 haveI:=hs.i
 clear hE hm hb X hR
 go_enter Tryz.func72,Tryz.ntmps72
 go_wp2
 go_loopg [3,4] L (fun g t3 t4 wr=> ∃(j:Nat)(H:List Au)(a2:Option Addr)(c2:Nat),t4= .int .i64 j∧t3= .slice a2 H.length c2∧j≤L∧H.length≤1048576∧Aside (g=L-j∧H=(l.take j).foldl A5 [])∧Aside (H.length≤j∧(∀y∈H,KD y)∧Aa H=Aa (l.take j))∧
  Sat (rw AM 4 (.slice a2 H.length c2) (Bb H)*(B*F)) wr)
 case atStart=>exact ⟨0,[],none,0,rfl,rfl,by omega,by simp,⟨rfl,rfl⟩,⟨by simp,by simp,by simp[Aa]⟩,q0⟩
 obtain ⟨j,H,a2,c2,rfl,rfl,hj,ad,J,J2,t⟩:=hrel
 clear q0 hs this
 haveI:=t.i
 by_cases ba:j<L
 · have ac:(j:Int)<L:=by omega
   obtain ⟨y,hy⟩: ∃y,l[j]?=some y:=⟨_,List.getElem?_eq_getElem (by have:=V.out;omega)⟩
   obtain ⟨b,q,rfl,r1,r2,r3,r4⟩:=BD HL.out hy
   have W:Aside ((l.take (j+1)).foldl A5 []=A5 H y∧Aa (l.take (j+1))=Aa (l.take j)+y.len):=⟨by rw[A9 hy,List.foldl_append,←J.out.2];rfl,BR hy⟩
   obtain ⟨Z,ar⟩:=KD.of (HM.out y (List.mem_of_getElem? hy))
   have M:Aside ((A5 H y).length≤j+1∧(∀z∈A5 H y,KD z)∧Aa (A5 H y)=Aa (l.take (j+1))∧(A5 H y).length≤1048576):=by
    have h1:=Kn H y
    have h2:=J2.out.1
    have h5:=V.out
    refine ⟨by omega,Tq J2.out.2.1 Z,?_,by omega⟩
    rw[Fk,W.out.2,J2.out.2.2]
   have ae:KD y:=Z
   obtain ⟨O,D,k,r⟩:=y
   unfold KD at ae
   simp only at ae ar r1 r2 r3 r4
   clear Z hy
   have ab:Aa H≤1099511627776:=by
    have h1:=J2.out.2.2
    have h3:=am.out
    have h4:Aa l=Aa (l.take j)+Aa (l.drop j):=by rw[←Ao,List.take_append_drop]
    have h5:=(FI (o:=l.drop j) (fun y hy=>(KD.of (HM.out y (List.mem_of_mem_drop hy))).1)).1
    omega
   have Y:=FI J2.out.2.1
   rcases List.eq_nil_or_concat H with rfl|⟨p,a,Q⟩
   · clear ab Y
     simp only[List.length_nil] at t⊢
     haveI:=t.i
     go_wp2_with fail
     go_quiet (fail)
     go_wp2_with (at_builtin;refine Ad E rfl (.tmp 93) (.tmp 95) rfl rfl rfl (Af (rw AM 4 (.slice a2 0 c2) (Bb []))) (Src.new (b:=wr.heap.size+1) (e:=AM) (s:=4) (vs:= [.int .i64 O,.int .i64 D,.int .i64 k,.int .i64 r]) (Af _) rfl (by intro u U;simp at U;rcases U with rfl|rfl|rfl|rfl<;>rfl)) (by unfold maxLen;omega) (by omega) ?_;intro P c9 w9 q9 z9;clear z9;haveI:=q9.i)
     go_roundg (L-(j+1))
     case measure=>have:=J.out.1;omega
     refine ⟨j+1,[⟨O,D,k,r⟩],P,c9,by go_num,rfl,by omega,by simp,⟨rfl,?_⟩,?_,?_⟩
     ·rw[W.out.1];rfl
     ·have:=M.out;exact ⟨this.1,this.2.1,this.2.2.1⟩
     show Sat (rw AM 4 (.slice P (0+1) c9) (Bb []++ [.int .i64 O,.int .i64 D,.int .i64 k,.int .i64 r])*(B*F)) _
     exact AD _ _ _
   rw[List.concat_eq_append] at Q
   subst Q
   obtain ⟨np,I⟩:=Aq p.length
   have K:Aside (p.length=np):=I
   have T:(p++ [a]).length=np+1:=by rw[List.length_append,I];rfl
   have aa:=Y.2 a (by simp)
   have a8:=J2.out.2.1 a (by simp)
   rw[T] at ad t⊢
   obtain ⟨g,rfl⟩:=BN t (by omega)
   have t0:=H2 p a np I 0 _ rfl
   have t1:=H2 p a np I 1 _ rfl
   have t2:=H2 p a np I 2 _ rfl
   have t3:=H2 p a np I 3 _ rfl
   obtain ⟨d,m,f,n⟩:=a
   unfold KD at a8
   simp only at a8 aa t0 t1 t2 t3
   have b8:f≤1099511627776:=by omega
   obtain ⟨xs,a1⟩:=Aq (Bb (p++ [⟨d,m,f,n⟩]))
   have HX:Aside (Bb (p++ [⟨d,m,f,n⟩])=xs):=a1
   rw[a1] at t0 t1 t2 t3 t
   clear a1
   haveI:At xs (np*4) (.int .i64 d):=⟨t0⟩
   haveI:At xs (np*4+1) (.int .i64 m):=⟨t1⟩
   haveI:At xs (np*4+2) (.int .i64 f):=⟨t2⟩
   haveI:At xs (np*4+3) (.int .i64 n):=⟨t3⟩
   haveI: ∀u,At (xs.set (np*4+3) u) (np*4+2) (.int .i64 f):=fun u=>⟨by rw[List.getElem?_set_ne (by omega)];exact t2⟩
   haveI:=t.i
   have b9:(np:Int)<(np:Int)+1:=by omega
   have aw:(0:Int)≤(np:Int):=by omega
   have hd:decide ((0:Int)≤(np:Int))=true:=decide_eq_true (by omega)
   have bb:(np:Int)≤1048576:=by omega
   have hw0:IntKind.i64.wrap ((np:Int)+1-1)=(np:Int):=by rw[IntWalk.i64_in _ (by omega)];omega
   have hw1:=Bc (m+f) (by omega)
   have hw2:=Bc (f+k) (by omega)
   have hw3:=Bc (n+r) (by omega)
   clear ab Y aa I T t0 t1 t2 t3
   by_cases h1:d=O
   · subst h1
     have b1:(d==d)=true:=by simp
     by_cases h2:m+f=D
     ·have hm:meets ⟨d,m,f,n⟩ ⟨d,D,k,r⟩=true:=by unfold meets;simp[h2]
      have b2:(m+f==D)=true:=by simp[h2]
      by_cases h4:n<0
      ·have G:Aside (A5 (p++ [⟨d,m,f,n⟩]) ⟨d,D,k,r⟩=p++ [⟨d,m,f+k,-1⟩]):=by rw[FN hm];unfold glue;simp[h4];exact (trivial:True)
       have d1:decide (0≤n)=false:=decide_eq_false (by omega)
       clear hm
       go_wp2_with fail
       go_quiet (fail)
       go_wp2_with fail
       go_region
       go_wp2_with fail
       go_roundg (L-(j+1))
       case measure=>have:=J.out.1;omega
       refine ⟨j+1,p++ [⟨d,m,f+k,-1⟩],some ⟨g,0,none⟩,c2,by go_num,?_,by omega,?_,⟨rfl,?_⟩,?_,?_⟩
       ·rw[List.length_append,K.out];rfl
       ·have:=M.out.2.2.2;rw[G.out] at this;exact this
       ·rw[W.out.1,G.out]
       ·have:=M.out;rw[G.out] at this;exact ⟨this.1,this.2.1,this.2.2.1⟩
       rw[show Bb (p++ [⟨d,m,f+k,-1⟩])=_ from (LJ p (Au.mk d m f n) np K.out (f+k) (-1)).symm,HX.out,List.length_append,K.out]
       show Sat (rw AM 4 (.slice (some ⟨g,0,none⟩) (np+1) c2) ((xs.set (np*4+3) (Value.int .i64 (-1))).set (np*4+2) (Value.int .i64 (f+k)))*(B*F)) _
       first|exact AD _ _ _|exact Sat.drewN 1 (AD _ _ _)
      have d1:decide (0≤n)=true:=decide_eq_true (by omega)
      by_cases h5:r<0
      ·have G:Aside (A5 (p++ [⟨d,m,f,n⟩]) ⟨d,D,k,r⟩=p++ [⟨d,m,f+k,-1⟩]):=by rw[FN hm];unfold glue;simp[h4,h5];exact (trivial:True)
       have d2:decide (0≤r)=false:=decide_eq_false (by omega)
       clear hm
       go_wp2_with fail
       go_quiet (fail)
       go_wp2_with fail
       go_region
       go_wp2_with fail
       go_roundg (L-(j+1))
       case measure=>have:=J.out.1;omega
       refine ⟨j+1,p++ [⟨d,m,f+k,-1⟩],some ⟨g,0,none⟩,c2,by go_num,?_,by omega,?_,⟨rfl,?_⟩,?_,?_⟩
       ·rw[List.length_append,K.out];rfl
       ·have:=M.out.2.2.2;rw[G.out] at this;exact this
       ·rw[W.out.1,G.out]
       ·have:=M.out;rw[G.out] at this;exact ⟨this.1,this.2.1,this.2.2.1⟩
       rw[show Bb (p++ [⟨d,m,f+k,-1⟩])=_ from (LJ p (Au.mk d m f n) np K.out (f+k) (-1)).symm,HX.out,List.length_append,K.out]
       show Sat (rw AM 4 (.slice (some ⟨g,0,none⟩) (np+1) c2) ((xs.set (np*4+3) (Value.int .i64 (-1))).set (np*4+2) (Value.int .i64 (f+k)))*(B*F)) _
       first|exact AD _ _ _|exact Sat.drewN 1 (AD _ _ _)
      have G:Aside (A5 (p++ [⟨d,m,f,n⟩]) ⟨d,D,k,r⟩=p++ [⟨d,m,f+k,n+r⟩]):=by rw[FN hm];unfold glue;simp[h4,h5];exact (trivial:True)
      have d2:decide (0≤r)=true:=decide_eq_true (by omega)
      clear hm
      go_wp2_with fail
      go_quiet (fail)
      go_wp2_with fail
      go_region
      go_wp2_with fail
      go_region
      go_wp2_with fail
      go_roundg (L-(j+1))
      case measure=>have:=J.out.1;omega
      refine ⟨j+1,p++ [⟨d,m,f+k,n+r⟩],some ⟨g,0,none⟩,c2,by go_num,?_,by omega,?_,⟨rfl,?_⟩,?_,?_⟩
      ·rw[List.length_append,K.out];rfl
      ·have:=M.out.2.2.2;rw[G.out] at this;exact this
      ·rw[W.out.1,G.out]
      ·have:=M.out;rw[G.out] at this;exact ⟨this.1,this.2.1,this.2.2.1⟩
      rw[show Bb (p++ [⟨d,m,f+k,n+r⟩])=_ from (LJ p (Au.mk d m f n) np K.out (f+k) (n+r)).symm,HX.out,List.length_append,K.out]
      show Sat (rw AM 4 (.slice (some ⟨g,0,none⟩) (np+1) c2) ((xs.set (np*4+3) (Value.int .i64 (n+r))).set (np*4+2) (Value.int .i64 (f+k)))*(B*F)) _
      first|exact AD _ _ _|exact Sat.drewN 1 (AD _ _ _)
     have G:Aside (A5 (p++ [⟨d,m,f,n⟩]) ⟨d,D,k,r⟩=(p++ [⟨d,m,f,n⟩])++ [⟨d,D,k,r⟩]):=Gs (by unfold meets;simp[h2])
     have b2:(m+f==D)=false:=by simp[h2]
     go_wp2_with fail
     go_quiet (fail)
     go_wp2_with (at_builtin;refine Ad E rfl (.tmp 93) (.tmp 95) rfl rfl rfl (Af (rw AM 4 (.slice (some ⟨g,0,none⟩) (np+1) c2) xs)) (Src.new (b:=wr.heap.size+1) (e:=AM) (s:=4) (vs:= [.int .i64 d,.int .i64 D,.int .i64 k,.int .i64 r]) (Af _) rfl (by intro u U;simp at U;rcases U with rfl|rfl|rfl|rfl<;>rfl)) (by unfold maxLen;omega) (by omega) ?_;intro P c9 w9 q9 z9;clear z9;haveI:=q9.i)
     go_roundg (L-(j+1))
     case measure=>have:=J.out.1;omega
     refine ⟨j+1,(p++ [⟨d,m,f,n⟩])++ [⟨d,D,k,r⟩],P,c9,by go_num,?_,by omega,?_,⟨rfl,?_⟩,?_,?_⟩
     ·rw[List.length_append,List.length_append,K.out];rfl
     ·have:=M.out.2.2.2;rw[G.out] at this;exact this
     ·rw[W.out.1,G.out]
     ·have:=M.out;rw[G.out] at this;exact ⟨this.1,this.2.1,this.2.2.1⟩
     rw[Cj (p++ [Au.mk d m f n]),HX.out,List.length_append,List.length_append,K.out]
     show Sat (rw AM 4 (.slice P (np+1+1) c9) (xs++ [.int .i64 d,.int .i64 D,.int .i64 k,.int .i64 r])*(B*F)) _
     exact AD _ _ _
   have G:Aside (A5 (p++ [⟨d,m,f,n⟩]) ⟨O,D,k,r⟩=(p++ [⟨d,m,f,n⟩])++ [⟨O,D,k,r⟩]):=Gs (by unfold meets;simp[h1])
   have b1:(d==O)=false:=by simp[h1]
   go_wp2_with fail
   go_quiet (fail)
   go_wp2_with (at_builtin;refine Ad E rfl (.tmp 93) (.tmp 95) rfl rfl rfl (Af (rw AM 4 (.slice (some ⟨g,0,none⟩) (np+1) c2) xs)) (Src.new (b:=wr.heap.size+1) (e:=AM) (s:=4) (vs:= [.int .i64 O,.int .i64 D,.int .i64 k,.int .i64 r]) (Af _) rfl (by intro u U;simp at U;rcases U with rfl|rfl|rfl|rfl<;>rfl)) (by unfold maxLen;omega) (by omega) ?_;intro P c9 w9 q9 z9;clear z9;haveI:=q9.i)
   go_roundg (L-(j+1))
   case measure=>have:=J.out.1;omega
   refine ⟨j+1,(p++ [⟨d,m,f,n⟩])++ [⟨O,D,k,r⟩],P,c9,by go_num,?_,by omega,?_,⟨rfl,?_⟩,?_,?_⟩
   · rw[List.length_append,List.length_append,K.out];rfl
   · have:=M.out.2.2.2;rw[G.out] at this;exact this
   · rw[W.out.1,G.out]
   · have:=M.out;rw[G.out] at this;exact ⟨this.1,this.2.1,this.2.2.1⟩
   rw[Cj (p++ [Au.mk d m f n]),HX.out,List.length_append,List.length_append,K.out]
   show Sat (rw AM 4 (.slice P (np+1+1) c9) (xs++ [.int .i64 O,.int .i64 D,.int .i64 k,.int .i64 r])*(B*F)) _
   exact AD _ _ _
 have ac: ¬(j:Int)<L:=by omega
 have hJ:=J.out.2
 rw[List.take_of_length_le (by rw[V.out];omega)] at hJ
 have HF:Aside (H=R):=(by rw[hJ,←HR.out];rfl:_=_)
 clear hJ
 go_wp2
 go_ret
 exact ⟨a2,c2,by rw[HF.out];rfl,by rw[←HF.out];exact AD _ _ _⟩
end Go.Proofs.YtfhbmblbidcmmaaGreat
namespace Go.Tr
theorem FW(x:Au)(l:List Au)(n:Int):first (x::l) n=if x.len≤n then (x::(first l (n-x.len)).1,(first l (n-x.len)).2)
 else if n≤0 then ((first l (n-x.len)).1,x::(first l (n-x.len)).2)
 else (Hz x 0 n::(first l (n-x.len)).1,Hz x n (x.len-n)::(first l (n-x.len)).2):=by rw[first]
theorem NJ(y:Au): ∀(l:List Au)(n:Int),first (l++ [y]) n=((first l n).1++(first [y] (n-Aa l)).1,(first l n).2++(first [y] (n-Aa l)).2)
 | [],n=>by simp[first,Aa]
 | x :: l, n => by
  have h:=NJ y l (n-x.len)
  have e:n-x.len-Aa l=n-Aa (x::l):=by
   have:Aa (x::l)=x.len+Aa l:=by simp[Aa]
   omega
  rw[e] at h
  rw[List.cons_append,FW x (l++ [y]) n,h,FW x l n]
  generalize first [y] (n-Aa (x::l))=f
  split
  · rfl
  split<;>rfl
theorem Xn(x:Au)(n:Int):first [x] n=if x.len≤n then ([x],[]) else if n≤0 then ([],[x]) else ([Hz x 0 n],[Hz x n (x.len-n)]):=by
 rw[first]
 simp only[first]
theorem LM(l:List Au)(n:Int):(first l n).1.length≤l.length∧(first l n).2.length≤l.length:=by
 induction l generalizing n with
 |nil=>simp[first]
 | cons x l a =>
  have:=a (n-x.len)
  rw[first]
  split
  ·simp;omega
  split
  ·simp;omega
  simp;omega
end Go.Tr
namespace Go.Proofs.YtfhbmblbidcmmaaGreat
open Go.RowKit Go.Sl Go.Dk Go.Tr
theorem OE(l:List Au)(f:Int)(v:Value)(B F:Ac)(w:World)(hE:An B v l)(hs:Sat (B*F) w)(hl:l.length≤65536)(hm: ∀x∈l,Ah x=true)(h0: -1099511627776≤f)(h1:f≤1099511627776):
 Calls Tryz.prog 106 #[v,.int .i64 f] w fun e w'=> ∃a c a' H,e= .returned (.tuple #[.slice a (first l f).1.length c,.slice a' (first l f).2.length H])∧
  Sat (rw AM 4 (.slice a (first l f).1.length c) (Bb (first l f).1)*(rw AM 4 (.slice a' (first l f).2.length H) (Bb (first l f).2)*(B*F))) w':=by
 obtain ⟨i0,E⟩:=Ey
 obtain ⟨a0,c0,rfl,a7,am⟩:=hE.v
 have HL:Aside (An B (.slice a0 l.length c0) l):=hE
 have HM:Aside (∀x∈l,Ah x=true):=hm
 have HB:Aside (∀i:Nat,0≤Aa (l.take i)∧Aa (l.take i)≤i*1048576):=C6 fun x hx=>by have:=Ca (hm x hx);omega
 have a3:Aside (∀i,(first (l.take i) f).1.length≤i∧(first (l.take i) f).2.length≤i):=fun i=>by
  have:=LM (l.take i) f
  have h2:(l.take i).length≤i:=by rw[List.length_take];omega
  omega
 obtain ⟨D,M⟩:=Aq l.length
 have a4:Aside (l.length=D):=M
 have HR:Aside (first l f=first (l.take D) f):=(by rw[←M,List.take_length]:first l f=first (l.take D) f)
 rw[M] at hl a7⊢
 obtain ⟨R,U⟩:=Aq (first l f)
 rw[U]
 have a5:Aside (first l f=R):=U
 have q0:=hs.AH (e:=AM) (s:=4)|>.AH (e:=AM) (s:=4)
 haveI:=hs.i
 clear hE hm M U
 go_enter Tryz.func106,Tryz.ntmps106
 go_wp2
 go_loopg [1,6,7,8] D (fun g t1 t6 t7 t8 wr=> ∃(j:Nat)(L R:List Au)(a:Option Addr)(c:Nat)(a':Option Addr)(H:Nat),t8= .int .i64 j∧t1= .int .i64 (f-Aa (l.take j))∧t6= .slice a L.length c∧t7= .slice a' R.length H∧j≤D∧L.length≤65536∧R.length≤65536∧Aside (g=D-j∧L=(first (l.take j) f).1∧R=(first (l.take j) f).2)∧
  Sat (rw AM 4 (.slice a L.length c) (Bb L)*(rw AM 4 (.slice a' R.length H) (Bb R)*(B*F))) wr)
 case atStart=>exact ⟨0,[],[],none,0,none,0,rfl,by simp[Aa],rfl,rfl,by omega,by simp,by simp,⟨rfl,by simp[first],by simp[first]⟩,q0⟩
 obtain ⟨j,L,R',a,c,a',H,rfl,rfl,rfl,rfl,hj,hL,U,J,O⟩:=hrel
 clear q0 hs this
 haveI:=O.i
 by_cases ao:j<D
 · have X:(j:Int)<D:=by omega
   obtain ⟨y,hy⟩: ∃y,l[j]?=some y:=⟨_,List.getElem?_eq_getElem (by have:=a4.out;omega)⟩
   obtain ⟨b,q,rfl,r1,r2,r3,r4⟩:=BD HL.out hy
   have d:=NJ y (l.take j) f
   rw[←A9 hy,←J.out.2.1,←J.out.2.2,Xn] at d
   have V:=BR hy
   have ab:=C9.1 (HM.out y (List.mem_of_getElem? hy))
   have aa:=HB.out j
   have K:=a3.out (j+1)
   obtain ⟨z,hz⟩:=Aq (f-Aa (l.take j))
   rw[hz] at d⊢
   have Y:f-Aa (l.take (j+1))=z-y.len:=by rw[V];omega
   have ap: -1168231104512≤z∧z≤1168231104512:=by omega
   obtain ⟨k,hk⟩:=Aq (first (l.take (j+1)) f)
   rw[hk] at K
   have o:Aside (first (l.take (j+1)) f=k∧k.1.length≤j+1∧k.2.length≤j+1∧f-Aa (l.take (j+1))=z-y.len):=⟨hk,K.1,K.2,Y⟩
   rw[hk] at d
   obtain ⟨n,m,p,G⟩:=y
   simp only at r1 r2 r3 r4 ab d o
   have hw1:=Bc (z-p) (by omega)
   clear hy V aa K hz Y hk
   by_cases c1:p≤z
   · rw[if_pos c1] at d
     have t:Aside (k=(L++ [⟨n,m,p,G⟩],R'++ [])):=d
     clear d
     go_wp2_with (at_builtin;refine Ad E rfl (.tmp 26) (.tmp 28) rfl rfl rfl (Af (rw AM 4 (.slice a L.length c) (Bb L))) (Src.new (b:=wr.heap.size+1) (e:=AM) (s:=4) (vs:= [.int .i64 n,.int .i64 m,.int .i64 p,.int .i64 G]) (Af _) rfl (by intro u r;simp at r;rcases r with rfl|rfl|rfl|rfl<;>rfl)) (by unfold maxLen;omega) (by omega) ?_;intro I c9 Z P Q;clear Q;haveI:=P.i)
     go_roundg (D-(j+1))
     case measure=>have:=J.out.1;omega
     refine ⟨j+1,L++ [⟨n,m,p,G⟩],R',I,c9,a',H,by go_num,by rw[o.out.2.2.2],?_,rfl,by omega,?_,U,⟨rfl,?_,?_⟩,?_⟩
     ·rw[List.length_append];rfl
     ·have:=o.out.2.1;rw[t.out] at this;simp only at this;omega
     ·rw[o.out.1,t.out]
     ·rw[o.out.1,t.out,List.append_nil]
     rw[Cj,List.length_append]
     show Sat (rw AM 4 (.slice I (L.length+1) c9) (Bb L++ [.int .i64 n,.int .i64 m,.int .i64 p,.int .i64 G])*(rw AM 4 (.slice a' R'.length H) (Bb R')*(B*F))) _
     exact ET _ _ _ _
   rw[if_neg c1] at d
   by_cases c2:z≤0
   · rw[if_pos c2] at d
     have t:Aside (k=(L++ [],R'++ [⟨n,m,p,G⟩])):=d
     clear d
     go_wp2_with (at_builtin;refine Ad E rfl (.tmp 32) (.tmp 34) rfl rfl rfl (Af (rw AM 4 (.slice a' R'.length H) (Bb R'))) (Src.new (b:=wr.heap.size+1) (e:=AM) (s:=4) (vs:= [.int .i64 n,.int .i64 m,.int .i64 p,.int .i64 G]) (Af _) rfl (by intro u r;simp at r;rcases r with rfl|rfl|rfl|rfl<;>rfl)) (by unfold maxLen;omega) (by omega) ?_;intro I c9 Z P Q;clear Q;haveI:=P.i)
     go_roundg (D-(j+1))
     case measure=>have:=J.out.1;omega
     refine ⟨j+1,L,R'++ [⟨n,m,p,G⟩],a,c,I,c9,by go_num,by rw[o.out.2.2.2],rfl,?_,by omega,hL,?_,⟨rfl,?_,?_⟩,?_⟩
     ·rw[List.length_append];rfl
     ·have:=o.out.2.2.1;rw[t.out] at this;simp only at this;omega
     ·rw[o.out.1,t.out,List.append_nil]
     ·rw[o.out.1,t.out]
     rw[Cj,List.length_append]
     show Sat (rw AM 4 (.slice a L.length c) (Bb L)*(rw AM 4 (.slice I (R'.length+1) c9) (Bb R'++ [.int .i64 n,.int .i64 m,.int .i64 p,.int .i64 G])*(B*F))) _
     exact ET _ _ _ _
   rw[if_neg c2] at d
   have hw2:=Bc (m+z) (by omega)
   have hw3:=Bc (p-z) (by omega)
   have t:Aside (k=(L++ [⟨n,m,z,if G=0 then 0 else-1⟩],R'++ [⟨n,m+z,p-z,if G=0 then 0 else-1⟩])):=by
    rw[d]
    unfold Hz
    simp only[Int.add_zero]
    exact (trivial:True)
   clear d
   by_cases c3:G=0
   · subst c3
     go_wp2_with (first|(at_builtin;refine Ad E rfl (.tmp 39) (.tmp 50) rfl rfl rfl (Af (rw AM 4 (.slice a L.length c) (Bb L))) (Src.new (b:=wr.heap.size+1) (e:=AM) (s:=4) (vs:= [.int .i64 n,.int .i64 m,.int .i64 z,.int .i64 (0)]) (Af _) rfl (by intro u r;simp at r;rcases r with rfl|rfl|rfl|rfl<;>rfl)) (by unfold maxLen;omega) (by omega) ?_;intro I c9 Z P Q;clear Q;haveI:=P.i)|(at_builtin;refine Ad E rfl (.tmp 52) (.tmp 69) rfl rfl rfl (Af (rw AM 4 (.slice a' R'.length H) (Bb R'))) (Src.new (b:=Z.heap.size) (e:=AM) (s:=4) (vs:= [.int .i64 n,.int .i64 (m+z),.int .i64 (p-z),.int .i64 (0)]) (Af _) rfl (by intro u r;simp at r;rcases r with rfl|rfl|rfl|rfl<;>rfl)) (by unfold maxLen;omega) (by omega) ?_;intro T c8 w8 q8 z8;clear z8;haveI:=q8.i))
     go_roundg (D-(j+1))
     case measure=>have:=J.out.1;omega
     refine ⟨j+1,L++ [⟨n,m,z,0⟩],R'++ [⟨n,m+z,p-z,0⟩],I,c9,T,c8,by go_num,by rw[o.out.2.2.2],?_,?_,by omega,?_,?_,⟨rfl,?_,?_⟩,?_⟩
     ·rw[List.length_append];rfl
     ·rw[List.length_append];rfl
     ·have:=o.out.2.1;rw[t.out] at this;simp only[List.length_append,List.length_singleton] at this⊢;omega
     ·have:=o.out.2.2.1;rw[t.out] at this;simp only[List.length_append,List.length_singleton] at this⊢;omega
     ·rw[o.out.1,t.out];simp
     ·rw[o.out.1,t.out];simp
     rw[Cj,Cj,List.length_append,List.length_append]
     show Sat (rw AM 4 (.slice I (L.length+1) c9) (Bb L++ [.int .i64 n,.int .i64 m,.int .i64 z,.int .i64 (0)])*(rw AM 4 (.slice T (R'.length+1) c8) (Bb R'++ [.int .i64 n,.int .i64 (m+z),.int .i64 (p-z),.int .i64 (0)])*(B*F))) _
     exact ET _ _ _ _
   have c4:(G==0)=false:=by simp[c3]
   have C3:Aside (¬G=0):=c3
   go_wp2_with (first|(at_builtin;refine Ad E rfl (.tmp 39) (.tmp 50) rfl rfl rfl (Af (rw AM 4 (.slice a L.length c) (Bb L))) (Src.new (b:=wr.heap.size+1) (e:=AM) (s:=4) (vs:= [.int .i64 n,.int .i64 m,.int .i64 z,.int .i64 (-1)]) (Af _) rfl (by intro u r;simp at r;rcases r with rfl|rfl|rfl|rfl<;>rfl)) (by unfold maxLen;omega) (by omega) ?_;intro I c9 Z P Q;clear Q;haveI:=P.i)|(at_builtin;refine Ad E rfl (.tmp 52) (.tmp 69) rfl rfl rfl (Af (rw AM 4 (.slice a' R'.length H) (Bb R'))) (Src.new (b:=Z.heap.size) (e:=AM) (s:=4) (vs:= [.int .i64 n,.int .i64 (m+z),.int .i64 (p-z),.int .i64 (-1)]) (Af _) rfl (by intro u r;simp at r;rcases r with rfl|rfl|rfl|rfl<;>rfl)) (by unfold maxLen;omega) (by omega) ?_;intro T c8 w8 q8 z8;clear z8;haveI:=q8.i))
   go_roundg (D-(j+1))
   case measure=>have:=J.out.1;omega
   refine ⟨j+1,L++ [⟨n,m,z,-1⟩],R'++ [⟨n,m+z,p-z,-1⟩],I,c9,T,c8,by go_num,by rw[o.out.2.2.2],?_,?_,by omega,?_,?_,⟨rfl,?_,?_⟩,?_⟩
   · rw[List.length_append];rfl
   · rw[List.length_append];rfl
   · have:=o.out.2.1;rw[t.out] at this;simp only[List.length_append,List.length_singleton] at this⊢;omega
   · have:=o.out.2.2.1;rw[t.out] at this;simp only[List.length_append,List.length_singleton] at this⊢;omega
   · rw[o.out.1,t.out];simp[C3.out]
   · rw[o.out.1,t.out];simp[C3.out]
   rw[Cj,Cj,List.length_append,List.length_append]
   show Sat (rw AM 4 (.slice I (L.length+1) c9) (Bb L++ [.int .i64 n,.int .i64 m,.int .i64 z,.int .i64 (-1)])*(rw AM 4 (.slice T (R'.length+1) c8) (Bb R'++ [.int .i64 n,.int .i64 (m+z),.int .i64 (p-z),.int .i64 (-1)])*(B*F))) _
   exact ET _ _ _ _
 have X: ¬(j:Int)<D:=by omega
 have W:j=D:=by omega
 have HF:Aside (L=R.1∧R'=R.2):=(by rw[J.out.2.1,J.out.2.2,W,←HR.out,a5.out];exact ⟨rfl,rfl⟩:_∧_)
 clear W
 go_wp2
 go_ret2
 rw[HF.out.1,HF.out.2] at O
 exact ⟨a,c,a',H,by rw[HF.out.1,HF.out.2];rfl,O⟩
