/- treeFails holds for every input. No condition. (part 45) -/
import Derived.Test.YtfhbmblbidcmmaaGreatYa37
import Derived.Test.YtfhbmblbidcmmaaGreatYa39
set_option linter.all false
open Go.Proofs.YtfhbmblbidcmmaaGreat
namespace Go.Tr
structure Sn where
 h:Int
 count:Int
 first:As
 last:As
def e0:As:=⟨0,0,0,0⟩
def ZJ:Sn:=⟨0,0,e0,e0⟩
def S4(y:Sn)(s:Int×Int×Int)(first:Bool)(k:Kd)(x:Sn):Option Sn:=
 if s≠(k.bytes,k.lines,k.A7)∨(first=false∧(y.h+1≠x.h∨meets x.last y.first=true)) then none
 else if 1024<x.count+y.count then none
 else some ⟨if first then y.h+1 else x.h,x.count+y.count,if first then y.first else x.first,y.last⟩
variable (V:Int→Option Nd)
def Gd(ch:Int→Option Sn):List Kd→Bool→Sn→Option Sn
 | [],_,x=>some x
 | k :: ks, first, x => match ch k.Ay with
  |none=>none
  | some y => match S4 y (Bl (Nt V k.Ay)) first k x with
   |none=>none
   |some a=>Gd ch ks false a
def O2(ch:Int→Option Sn)(n:Nd)(top:Bool):Option Sn:=
 if top=false∧many n<4 then none
 else if n.leaf then (if (join n.Ao).length≠n.Ao.length then none else some ⟨0,n.Ao.length,n.Ao.headD e0,n.Ao.getLastD e0⟩)
 else Gd V ch n.kids true ZJ
def Kt:Nat→Int→Bool→Option Sn
 |0,_,_=>none
 | f + 1, no, top => match V no with
  |none=>none
  |some n=>O2 V (fun p=>Kt f p false) n top
variable {V}
theorem O1{y:Sn}{s:Int×Int×Int}{first:Bool}{k:Kd}{x b:Sn}(h:S4 y s first k x=some b):s=(k.bytes,k.lines,k.A7)∧(first=false→y.h+1=x.h∧meets x.last y.first=false)∧x.count+y.count≤1024∧b=⟨y.h+1,x.count+y.count,if first then y.first else x.first,y.last⟩:=by
 unfold S4 at h
 split at h
 ·cases h
 next h1=>
 split at h
 ·cases h
 next h2=>
 simp only[not_or,Decidable.not_not,not_and] at h1
 have a:first=false→y.h+1=x.h∧meets x.last y.first=false:=fun e=>⟨(h1.2 e).1,by simpa using (h1.2 e).2⟩
 refine ⟨h1.1,a,by omega,?_⟩
 cases h
 cases first with
 |true=>rfl
 |false=>rw[(a rfl).1];rfl
structure L' (x:Sn) (l:List As):Prop where
 ne:l≠ []
 join:BI l
 count:x.count=l.length
 first:l.head?=some x.first
 last:l.getLast?=some x.last
theorem L'.len{x:Sn}{l:List As}(h:L' x l):1≤l.length:=List.length_pos_iff.2 h.ne
section
variable {ch:Int→Option Sn} {bl:Int→Lk}
end
end Go.Tr
open Go.Proofs.YtfhbmblbidcmmaaGreat
namespace Go.Tr
variable {V:Int→Option Nd}
theorem FJ(ch:Int→Option Sn)(k:Kd)(ks:List Kd)(first:Bool)(x:Sn):Gd V ch (k::ks) first x=match ch k.Ay with
 |none=>none
 | some y => match S4 y (Bl (Nt V k.Ay)) first k x with
  |none=>none
  |some a=>Gd V ch ks false a:=rfl
theorem JD{ch ch':Int→Option Sn} : ∀(ks:List Kd)(first:Bool)(x z:Sn),(∀p y,ch p=some y→y.h+1=z.h→ch' p=some y)→Gd V ch ks first x=some z→Gd V ch' ks first x=some z∧(first=false→z.h=x.h)
 | [],first,x,z,_,h=>by cases h;exact ⟨rfl,fun _=>rfl⟩
 | k :: ks, first, x, z, b, h => by
  rw[FJ] at h
  cases hy:ch k.Ay with
  |none=>rw[hy] at h;cases h
  | some y =>
   rw[hy] at h
   simp only at h
   cases hx:S4 y (Bl (Nt V k.Ay)) first k x with
   |none=>rw[hx] at h;cases h
   | some f =>
    rw[hx] at h
    simp only at h
    obtain ⟨c,d⟩:=JD ks false f z b h
    obtain ⟨g,c2,i,rfl⟩:=O1 hx
    have a:z.h=y.h+1:=d rfl
    refine ⟨?_,fun e=>by rw[a,(c2 e).1]⟩
    rw[FJ,b k.Ay y hy a.symm]
    simp only[hx]
    exact c
theorem Q0{ch:Int→Option Sn}{k:Kd}{ks:List Kd}{first:Bool}{x z:Sn}(h:Gd V ch (k::ks) first x=some z): ∃y,ch k.Ay=some y∧z.h=y.h+1:=by
 rw[FJ] at h
 cases hy:ch k.Ay with
 |none=>rw[hy] at h;cases h
 | some y =>
  rw[hy] at h
  simp only at h
  cases hx:S4 y (Bl (Nt V k.Ay)) first k x with
  |none=>rw[hx] at h;cases h
  | some c =>
   rw[hx] at h
   simp only at h
   obtain ⟨a,c2,b,rfl⟩:=O1 hx
   exact ⟨y,rfl,(JD (ch':=ch) ks false _ z (fun _ _ h _=>h) h).2 rfl⟩
theorem El(e: ∀p n,V p=some n→may n=true): ∀(f:Nat)(p:Int)(top:Bool)(y:Sn),Kt V f p top=some y→0≤y.h∧y.h<f∧ ∀g:Nat,y.h<g→Kt V g p top=some y
 |0,p,top,y,h=>by simp[Kt] at h
 | f + 1, p, top, y, h => by
  unfold Kt at h
  cases d:V p with
  |none=>rw[d] at h;cases h
  | some n =>
   rw[d] at h
   simp only at h
   have hm:=e p n d
   have b: ∀g:Nat,Kt V (g+1) p top=O2 V (fun p=>Kt V g p false) n top:=fun g=>by
    show (match V p with|none=>none|some n=>O2 V (fun p=>Kt V g p false) n top)=_
    rw[d]
   unfold O2 at h b
   by_cases c:top=false∧many n<4
   · rw[if_pos c] at h;cases h
   rw[if_neg c] at h
   cases hl:n.leaf with
   | true =>
     rw[hl,if_pos rfl] at h
     split at h
     ·cases h
     next hj=>
     cases h
     refine ⟨by simp,by simp only;omega,fun g l=>?_⟩
     cases g with
     |zero=>simp at l
     |succ g=>rw[b,if_neg c,hl,if_pos rfl,if_neg hj]
   | false =>
     rw[hl,if_neg (by simp)] at h
     obtain ⟨r,s,j,t,u,v⟩:=CJ hm hl
     cases a:n.kids with
     |nil=>rw[a] at j;simp at j
     | cons k ks =>
      rw[a] at h
      obtain ⟨o,i,w⟩:=Q0 h
      obtain ⟨x,B,D⟩:=El e f k.Ay false o i
      refine ⟨by omega,by omega,fun g l=>?_⟩
      cases g with
      |zero=>omega
      | succ g =>
       rw[b,if_neg c,hl,if_neg (by simp),a]
       exact (JD (k::ks) true ZJ y (fun q z hq m=>(El e f q false z hq).2.2 g (by omega)) h).1
def VU(V:Int→Option Nd)(p:Int)(top:Bool)(y:Sn):Prop:= ∃f,Kt V f p top=some y
theorem VU.at(a: ∀p n,V p=some n→may n=true){p:Int}{top:Bool}{y:Sn}(h:VU V p top y){f:Nat}(b:y.h<f):Kt V f p top=some y:=by
 obtain ⟨g,c⟩:=h
 exact (El a g p top y c).2.2 f b
theorem VU.of(a: ∀p n,V p=some n→may n=true){p:Int}{top:Bool}{y z:Sn}(h:VU V p top y){f:Nat}(d:Kt V f p top=some z):z=y:=by
 obtain ⟨g,c⟩:=h
 have e:=(El a g p top y c).2.2 (max f g) (by have:=(El a g p top y c).2.1;omega)
 have b:=(El a f p top z d).2.2 (max f g) (by have:=(El a f p top z d).2.1;omega)
 rw[e] at b
 cases b
 rfl
theorem VU.is{p:Int}{top:Bool}{y:Sn}(h:VU V p top y): ∃n,V p=some n:=by
 obtain ⟨g,a⟩:=h
 cases g with
 |zero=>simp[Kt] at a
 | succ g =>
  unfold Kt at a
  cases b:V p with
  |none=>rw[b] at a;cases a
  |some n=>exact ⟨n,rfl⟩
structure Yh (V:Int→Option Nd) (f:Nat) (n:Nd) (j:Nat) (x:Sn):Prop where
 p': ∃g0:Nat,∀g:Nat,g0≤g→Gd V (fun p=>Kt V g p false) n.kids true ZJ=Gd V (fun p=>Kt V g p false) (n.kids.drop j) (j==0) x
 U':Gd V (fun p=>Kt V f p false) n.kids true ZJ=none∨Gd V (fun p=>Kt V f p false) n.kids true ZJ=Gd V (fun p=>Kt V f p false) (n.kids.drop j) (j==0) x
theorem Yh.zero(f:Nat)(n:Nd):Yh V f n 0 ZJ:=⟨⟨0,fun _ _=>rfl⟩,.inr rfl⟩
theorem Yh.nil{f:Nat}{n:Nd}{j:Nat}{x:Sn}(h:Yh V f n j x)(e:Gd V (fun p=>Kt V f p false) (n.kids.drop j) (j==0) x=none):Gd V (fun p=>Kt V f p false) n.kids true ZJ=none:=h.U'.elim id fun g=>g.trans e
theorem Q7{α:Type}{l:List α}{j:Nat}{k:α}(c:l[j]?=some k):l.drop j=k::l.drop (j+1):=by
 obtain ⟨a,b⟩:=List.getElem?_eq_some_iff.1 c
 rw[List.drop_eq_getElem_cons a,b]
theorem Yh.next(b: ∀p n,V p=some n→may n=true){f:Nat}{n:Nd}{j:Nat}{x y m:Sn}{k:Kd}(h:Yh V f n j x)(l:n.kids[j]?=some k)(hy:VU V k.Ay false y)(e:S4 y (Bl (Nt V k.Ay)) (j==0) k x=some m):Yh V f n (j+1) m:=by
 have i:((j+1==0)=false):=by simp
 refine ⟨?_,?_⟩
 ·obtain ⟨g0,q⟩:=h.p'
  obtain ⟨d,c⟩:=id hy
  refine ⟨max g0 d,fun g r=>?_⟩
  rw[q g (by omega),Q7 l,FJ,hy.at b (show y.h<(g:Int) by have:=(El b d _ _ _ c).2.1;omega)]
  simp only[e,i]
 rcases h.U' with a|a
 ·exact .inl a
 rw[a,Q7 l,FJ]
 cases o:Kt V f k.Ay false with
 |none=>exact .inl rfl
 | some z =>
  obtain rfl:=hy.of b o
  simp only[e,i]
  exact .inr trivial
theorem Yh.done{f:Nat}{n:Nd}{x:Sn}{p:Int}{top:Bool}(h:Yh V f n n.kids.length x)(hp:V p=some n)(hl:n.leaf=false)(a: ¬(top=false∧many n<4)):VU V p top x:=by
 obtain ⟨g0,b⟩:=h.p'
 refine ⟨g0+1,?_⟩
 show (match V p with|none=>none|some n=>O2 V (fun p=>Kt V g0 p false) n top)=_
 rw[hp]
 simp only
 unfold O2
 rw[if_neg a,hl,if_neg (by simp),b g0 (Nat.le_refl _),List.drop_length]
 rfl
end Go.Tr
open Go.Proofs.YtfhbmblbidcmmaaGreat
namespace Go.Tr
variable {V:Int→Option Nd}
def Y5(k:Int):List (Int×Sn)→Option Sn
 | []=>none
 |p::l=>if k=p.1 then some p.2 else Y5 k l
def WQ(k:Int)(y:Sn):List (Int×Sn)→List (Int×Sn)
 | []=> [(k,y)]
 |p::l=>if k=p.1 then (k,y)::l else p::WQ k y l
def VX(V:Int→Option Nd)(K:List (Int×Sn)):Prop:= ∀p∈K,VU V p.1 false p.2
theorem QK{k:Int}{y:Sn} : ∀{K:List (Int×Sn)},Y5 k K=some y→(k,y)∈K
 | [],h=>by cases h
 | p :: l, h => by
  unfold Y5 at h
  split at h
  ·next e=>cases h;rw[e];exact List.mem_cons_self ..
  exact List.mem_cons_of_mem _ (QK h)
theorem QL{k:Int}{y:Sn}{q:Int×Sn} : ∀{K:List (Int×Sn)},q∈WQ k y K→q=(k,y)∨q∈K
 | [],h=>by simp[WQ] at h;exact .inl h
 | p :: l, h => by
  unfold WQ at h
  split at h
  ·rcases List.mem_cons.1 h with h|h
   ·exact .inl h
   exact .inr (List.mem_cons_of_mem _ h)
  rcases List.mem_cons.1 h with h|h
  ·exact .inr (by rw[h];exact List.mem_cons_self ..)
  exact (QL h).imp id (List.mem_cons_of_mem _)
theorem VX.put{K:List (Int×Sn)}(h:VX V K){k:Int}{y:Sn}(hy:VU V k false y):VX V (WQ k y K):=fun p hp=>by
 rcases QL hp with e|e
 ·rw[e];exact hy
 exact h p e
theorem VX.get{K:List (Int×Sn)}(h:VX V K){k:Int}{y:Sn}(hy:Y5 k K=some y):VU V k false y:=h _ (QK hy)
end Go.Tr
namespace Go.Proofs.YtfhbmblbidcmmaaGreat
open Go.Tr Go.Sl
open Go.Dk Go.RowKit
open Go.UB (AZ)
abbrev x7:TypeId:=159
abbrev p6:TypeId:=248
instance S':PB Tryz.prog p6 Int AZ (.agg #[.int .i64 0,.int .i64 0,.int .i64 0,.int .i64 0,.int .i64 0,.int .i64 0,.int .i64 0,.int .i64 0,.int .i64 0,.int .i64 0]):=⟨ED,x7,I3,Tryz.underlying248,fun w=>by kernel_rfl⟩
instance{w:World}{M:Nat}{k:Int}{v:Value}{A A':Ac}{ms:List (Int×Value)}[h:BG A w][h2:FG A M AZ ms][h3:Mm A M AZ (Er k v ms) A']:BG A' (NC Tryz.prog p6 M (AZ k) v w):=Qh S'
section
variable [G1]
