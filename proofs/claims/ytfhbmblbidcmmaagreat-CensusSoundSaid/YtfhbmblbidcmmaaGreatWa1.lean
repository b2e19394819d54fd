/- censusSound holds for every input. No condition. (part 1) -/
import Derived.WalkKit
import Derived.Deep.Quiet
import Derived.Deep.LoopGhost
import Derived.Deep.Slices
set_option linter.all false
namespace Go.Sl
inductive Key where
 |raw (b:Nat)
 |cell (b i:Nat)
 |Ev (b:Nat)
 |env
 deriving DecidableEq
inductive Fu where
 |obj (o:Obj)
 |val (v:Value)
 |gW (t:TypeId) (n:Nat)
 |io (os:Os) (tape:Nat→Question→Nat) (out:Array (Nat×ByteArray))
abbrev Hp:=Key→Option Fu
def Key.ET:Key→Option Nat
 | .raw b=>some b
 | .cell b _=>some b
 | .Ev b=>some b
 | .env=>none
def Key.gN:Key→Prop
 | .raw _=>True
 |_=>False
def Qp(k a:Key):Prop:=k=a∨((k.gN∨a.gN)∧k.ET=a.ET)
theorem Qp.symm{k a:Key}(h:Qp k a):Qp a k:=by
 rcases h with h|⟨h,e⟩
 ·exact .inl h.symm
 exact .inr ⟨h.symm,e.symm⟩
def Has(w:World):Key→Fu→Prop
 | .raw b,.obj o=>w.heap[b]?=some o
 | .cell b i,.val v=> ∃c t,w.heap[b]?=some (.cells c t (0,0))∧c[i]?=some v
 | .Ev b,.gW t n=> ∃c,w.heap[b]?=some (.cells c t (0,0))∧c.size=n
 | .env,.io os a out=>w.os=os∧w.tape=a∧w.output=out
 |_,_=>False
def Hp.X'(g h:Hp):Prop:= ∀k a,g k≠none→h a≠none→ ¬Qp k a
def Hp.un(g h:Hp):Hp:=fun k=>match g k with
 |some r=>some r
 |none=>h k
def Ab:=Hp→Prop
def sep(A B:Ab):Ab:=fun h=> ∃g k:Hp,g.X' k∧h=g.un k∧A g∧B k
instance:Mul Ab:=⟨sep⟩
def emp:Ab:=fun h=>h=fun _=>none
instance:One Ab:=⟨emp⟩
theorem Hp.X'.symm{g h:Hp}(d:g.X' h):h.X' g:=fun k e a b c=>d e k b a c.symm
theorem Hp.On{g h:Hp}(d:g.X' h):g.un h=h.un g:=by
 funext k
 unfold Hp.un
 cases b:g k with
 |none=>cases a:h k<;>rfl
 | some r => cases a : h k with
  |none=>rfl
  |some c=>exact absurd (Or.inl rfl) (d k k (by simp[b]) (by simp[a]))
theorem Hp.Vt(f g h:Hp):(f.un g).un h=f.un (g.un h):=by grind [Hp.un]
theorem Hp.Ji{g h:Hp}{k:Key} :(g.un h) k≠none↔g k≠none∨h k≠none:=by grind [Hp.un]
theorem Hp.Y'{f g h:Hp} :(f.un g).X' h↔f.X' h∧g.X' h:=by
 constructor
 ·exact fun d=>⟨fun k c a b=>d k c (Hp.Ji.2 (.inl a)) b,fun k c a b=>d k c (Hp.Ji.2 (.inr a)) b⟩
 rintro ⟨e,i⟩ k c a b
 rcases Hp.Ji.1 a with a|a
 ·exact e k c a b
 exact i k c a b
theorem Hp.X9{f g h:Hp} :f.X' (g.un h)↔f.X' g∧f.X' h:=by
 constructor
 ·exact fun d=>⟨fun k c a b=>d k c a (Hp.Ji.2 (.inl b)),fun k c a b=>d k c a (Hp.Ji.2 (.inr b))⟩
 rintro ⟨e,i⟩ k c a b
 rcases Hp.Ji.1 b with b|b
 ·exact e k c a b
 exact i k c a b
theorem F9(A B:Ab):A*B=B*A:=by
 funext h
 apply propext
 constructor
 ·rintro ⟨g,k,d,rfl,a,b⟩;exact ⟨k,g,d.symm,Hp.On d,b,a⟩
 rintro ⟨g,k,d,rfl,a,b⟩;exact ⟨k,g,d.symm,Hp.On d,b,a⟩
theorem Az(A B C:Ab):A*B*C=A*(B*C):=by
 funext h
 apply propext
 constructor
 ·rintro ⟨g,k,d,rfl,⟨l,i,d',rfl,a,b⟩,c⟩
  obtain ⟨e,f⟩:=Hp.Y'.1 d
  exact ⟨l,i.un k,Hp.X9.2 ⟨d',e⟩,Hp.Vt _ _ _,a,i,k,f,rfl,b,c⟩
 rintro ⟨g,k,d,rfl,a,⟨j,m,d',rfl,b,c⟩⟩
 obtain ⟨e,f⟩:=Hp.X9.1 d
 exact ⟨g.un j,m,Hp.Y'.2 ⟨f,d'⟩,(Hp.Vt _ _ _).symm,⟨g,j,e,rfl,a,b⟩,c⟩
instance:Std.Associative (α:=Ab) (· * ·):=⟨Az⟩
instance:Std.Commutative (α:=Ab) (· * ·):=⟨F9⟩
theorem Ay(A:Ab):1*A=A:=by
 funext h
 apply propext
 constructor
 ·rintro ⟨g,k,d,rfl,a,b⟩
  have e:=a
  subst e
  exact b
 intro a
 exact ⟨fun _=>none,h,fun _ _ x=>absurd rfl x,rfl,rfl,a⟩
theorem Bg(A:Ab):A*1=A:=by rw[F9,Ay]
theorem BD(A B C:Ab):A*(B*C)=B*(A*C):=by ac_rfl
def Sat(A:Ab)(w:World):Prop:= ∃h:Hp,A h∧ ∀k r,h k=some r→Has w k r
theorem Sat.eq{A B:Ab}{w:World}(h:Sat A w)(e:A=B):Sat B w:=e▸h
theorem Sat.Dx{A B:Ab}{w:World}(h:Sat (A*B) w):Sat A w:=by
 obtain ⟨_,⟨g,k,d,rfl,a,b⟩,H⟩:=h
 exact ⟨g,a,fun c r e=>H c r (by simp[Hp.un,e])⟩
theorem Sat.right{A B:Ab}{w:World}(h:Sat (A*B) w):Sat B w:=by rw[F9] at h;exact h.Dx
theorem Sat.update{A B F:Ab}{w o:World}(hs:Sat (A*F) w)
 (H: ∀g:Hp,A g→(∀k r,g k=some r→Has w k r)→ ∃f:Hp,B f∧(∀k r,f k=some r→Has o k r)∧
   (∀k r,Has w k r→(∀c,g c≠none→ ¬Qp c k)→Has o k r∧ ∀c,f c≠none→ ¬Qp c k)):Sat (B*F) o:=by
 obtain ⟨_,⟨g,k,d,rfl,a,b⟩,s⟩:=hs
 obtain ⟨f,b',h1,q⟩:=H g a (fun c r e=>s c r (by simp[Hp.un,e]))
 have u: ∀c r,k c=some r→Has w c r:=by
  intro c r e
  refine s c r ?_
  have:(g.un k)=k.un g:=Hp.On d
  rw[this];simp[Hp.un,e]
 refine ⟨f.un k,⟨f,k,?_,rfl,b',b⟩,?_⟩
 · intro i m v p
   obtain ⟨r,hr⟩:=Option.ne_none_iff_exists'.1 p
   exact (q m r (u m r hr) (fun n j=>d n m j p)).2 i v
 intro i r e
 unfold Hp.un at e
 cases l:f i with
 |some x=>rw[l] at e;cases e;exact h1 _ _ l
 |none=>rw[l] at e;exact (q i r (u i r e) (fun n j=>d n i j (by simp[e]))).1
theorem Sat.same{A:Ab}{w b:World}(hs:Sat A w)(c:b.heap=w.heap)(d:b.os=w.os)(f:b.tape=w.tape)(hp:b.output=w.output):Sat A b:=by
 obtain ⟨h,a,H⟩:=hs
 refine ⟨h,a,fun k r e=>?_⟩
 have:=H k r e
 cases k<;>cases r<;>simp only[Has,c,d,f,hp] at this⊢ <;>exact this
theorem Sat.drew{A:Ab}{w:World}(hs:Sat A w):Sat A w.drew:=hs.same rfl rfl rfl rfl
theorem Sat.drewN{A:Ab}{w:World}(n:Nat)(hs:Sat A w):Sat A (w.drewN n):=hs.same rfl rfl rfl rfl
def one(k:Key)(r:Fu):Hp:=fun a=>if a=k then some r else none
theorem KO{k a:Key}{r:Fu} :one k r a≠none↔a=k:=by simp[one]
theorem LK{k a:Key}{r b:Fu}(h:one k r a=some b):a=k∧b=r:=by simp_all[one]
theorem DD(k:Key)(r:Fu):one k r k=some r:=by simp[one]
def cell(b i:Nat)(v:Value):Ab:=fun h=>h=one (.cell b i) (.val v)
def Ev(b:Nat)(t:TypeId)(n:Nat):Ab:=fun h=>h=one (.Ev b) (.gW t n)
def raw(b:Nat)(o:Obj):Ab:=fun h=>h=one (.raw b) (.obj o)
def env(w:World):Ab:=fun h=>h=one .env (.io w.os w.tape w.output)
def atom(k:Key)(r:Fu):Ab:=fun h=>h=one k r
theorem Sat.has{k:Key}{r:Fu}{F:Ab}{w:World}(hs:Sat (atom k r*F) w):Has w k r:=by
 obtain ⟨_,⟨g,_,_,rfl,rfl,_⟩,H⟩:=hs
 simp_all[Hp.un,DD]
theorem Sat.ET{b i:Nat}{v:Value}{F:Ab}{w:World}(hs:Sat (cell b i v*F) w): ∃c t,w.heap[b]?=some (.cells c t (0,0))∧c[i]?=some v:=
 Sat.has (k:= .cell b i) (r:= .val v) hs
theorem Sat.gW{b n:Nat}{t:TypeId}{F:Ab}{w:World}(hs:Sat (Ev b t n*F) w): ∃c,w.heap[b]?=some (.cells c t (0,0))∧c.size=n:=
 Sat.has (k:= .Ev b) (r:= .gW t n) hs
theorem Sat.obj{b:Nat}{o:Obj}{F:Ab}{w:World}(hs:Sat (raw b o*F) w):w.heap[b]?=some o:=
 Sat.has (k:= .raw b) (r:= .obj o) hs
theorem Sat.io{e:World}{F:Ab}{w:World}(hs:Sat (env e*F) w):w.os=e.os∧w.tape=e.tape∧w.output=e.output:=
 Sat.has (k:= .env) (r:= .io e.os e.tape e.output) hs
theorem Sat.cell{b i:Nat}{v:Value}{F:Ab}{w:World}(hs:Sat (cell b i v*F) w):w.cell? ⟨b,i,none⟩=some v:=by
 obtain ⟨c,t,h1,a⟩:=hs.ET
 simp[World.cell?,h1,a]
theorem Sat.free{b i:Nat}{v:Value}{F:Ab}{w:World}(hs:Sat (Sl.cell b i v*F) w)(j:Nat):w.frozen? ⟨b,j,none⟩=false:=by
 obtain ⟨c,t,h1,a⟩:=hs.ET
 simp[World.frozen?,h1]
theorem Sat.lt{b i:Nat}{v:Value}{F:Ab}{w:World}(hs:Sat (Sl.cell b i v*F) w):b<w.heap.size:=by
 obtain ⟨c,t,h1,a⟩:=hs.ET
 grind
theorem Gh{w:World}{b:Nat}{o:Obj}(h:w.heap[b]?=some o):b<w.heap.size:=by grind
theorem Has.lt{w:World}{k:Key}{r:Fu}{b:Nat}(h:Has w k r)(hb:k.ET=some b):b<w.heap.size:=by
 cases k<;>cases r<;>simp only[Has,Key.ET,Option.some.injEq,reduceCtorEq] at h hb
 ·grind
 ·grind
 grind
theorem Sat.setCell{b i:Nat}{v:Value}{F:Ab}{w:World}(hs:Sat (Sl.cell b i v*F) w)(v':Value):Sat (Sl.cell b i v'*F) (w.setCell ⟨b,i,none⟩ v'):=by
 refine hs.update fun g m H=>?_
 subst m
 obtain ⟨c,t,h1,o⟩: ∃c t,w.heap[b]?=some (.cells c t (0,0))∧c[i]?=some v:=H (.cell b i) (.val v) (DD _ _)
 have hi:i<c.size:=by grind
 have hb:(w.setCell ⟨b,i,none⟩ v').heap[b]?=some (.cells (c.setIfInBounds i v') t (0,0)):=by simp[World.setCell,Array.getElem?_modify,h1]
 have p: ∀b',b'≠b→(w.setCell ⟨b,i,none⟩ v').heap[b']?=w.heap[b']?:=by grind [World.setCell]
 refine ⟨one (.cell b i) (.val v'),rfl,?_,?_⟩
 ·intro k r e
  obtain ⟨rfl,rfl⟩:=LK e
  exact ⟨_,_,hb,by simp[hi]⟩
 intro k r d l
 have a:=l (.cell b i) (by simp[DD])
 refine ⟨?_,fun q e=>by rw[KO] at e;subst e;exact a⟩
 cases k with
 | raw b' =>
  have j:b'≠b:=fun e=>a (.inr ⟨.inr trivial,by simp[Key.ET,e]⟩)
  cases r<;>simp only[Has] at d⊢
  simp_all
 | cell b' n =>
  cases r<;>simp only[Has] at d⊢
  by_cases f:b'=b
  ·subst f
   have j:i≠n:=fun e=>a (.inl (by rw[e]))
   simp_all
  simp_all
 | Ev b' =>
  cases r<;>simp only[Has] at d⊢
  grind
 | env =>
  cases r<;>simp only[Has] at d⊢
  exact d
theorem Sat.GZ{b:Nat}{o:Obj}{F:Ab}{w:World}(hs:Sat (raw b o*F) w)(o':Obj):Sat (raw b o'*F) { w with heap:=w.heap.setIfInBounds b o' } :=by
 refine hs.update fun g j H=>?_
 subst j
 have h1:=H (.raw b) (.obj o) (DD _ _)
 have f:=Gh h1
 have l: ∀b',b'≠b→(w.heap.setIfInBounds b o')[b']?=w.heap[b']?:=by grind
 refine ⟨one (.raw b) (.obj o'),rfl,?_,?_⟩
 ·intro k r e
  obtain ⟨rfl,rfl⟩:=LK e
  simp[Has,f]
 intro k r d i
 have a:=i (.raw b) (by simp[DD])
 refine ⟨?_,fun m e=>by rw[KO] at e;subst e;exact a⟩
 have c: ∀b',k.ET=some b'→b'≠b:=fun b' e e'=>a (.inr ⟨.inl trivial,by rw[e,e'];rfl⟩)
 cases k<;>cases r<;>simp only[Has,Key.ET,Option.some.injEq,forall_eq'] at d c⊢ <;>first|(rw[l _ c];exact d)|exact d
def cells(b:Nat):Nat→List Value→Ab
 |_,[]=>1
 |i,v::vs=>Sl.cell b i v*cells b (i+1) vs
def block(b:Nat)(t:TypeId)(vs:List Value):Ab:=Ev b t vs.length*cells b 0 vs
theorem Sat.CW{F:Ab}{w:World}(hs:Sat F w)(o:Obj):Sat (raw w.heap.size o*F) (w.alloc o):=by
 rw[←Ay F] at hs
 refine hs.update fun g d _=>?_
 refine ⟨one (.raw w.heap.size) (.obj o),rfl,?_,?_⟩
 ·intro k r e
  obtain ⟨rfl,rfl⟩:=LK e
  show (w.heap.push o)[w.heap.size]?=some o
  simp
 intro k r a _
 have c: ∀b',b'<w.heap.size→(w.alloc o).heap[b']?=w.heap[b']?:=by intro b' h;show (w.heap.push o)[b']?=_;rw[Array.getElem?_push,if_neg (by omega)]
 refine ⟨?_,?_⟩
 ·have hl:=fun b'=>Has.lt a (b:=b')
  cases k<;>cases r<;>simp only[Has,Key.ET,Option.some.injEq,forall_eq'] at a hl⊢ <;>first|(rw[c _ hl];exact a)|exact a
 intro f e
 rw[KO] at e;subst e
 rintro (rfl|⟨_,e⟩)
 ·exact absurd (Has.lt a (b:=w.heap.size) rfl) (by omega)
 exact absurd (Has.lt a (b:=w.heap.size) e.symm) (by omega)
theorem N'(b i:Nat)(vs:List Value): ∃h:Hp,cells b i vs h∧(∀k,h k≠none→ ∃j,j<vs.length∧k= .cell b (i+j))∧(∀j v,vs[j]?=some v→h (.cell b (i+j))=some (.val v)):=by
 induction vs generalizing i with
 |nil=>exact ⟨fun _=>none,rfl,fun k h=>absurd rfl h,fun j v h=>by simp at h⟩
 | cons v vs m =>
  obtain ⟨h,h1,d,f⟩:=m (i+1)
  refine ⟨(one (.cell b i) (.val v)).un h,⟨_,_,?_,rfl,rfl,h1⟩,?_,?_⟩
  ·intro k n e e' a
   rw[KO] at e;subst e
   obtain ⟨j,c,rfl⟩:=d _ e'
   rcases a with a|⟨a|a,_⟩
   · simp only[Key.cell.injEq,true_and] at a;omega
   · exact a
   exact a
  ·intro k e
   rcases Hp.Ji.1 e with e|e
   · rw[KO] at e;exact ⟨0,by simp,by simpa using e⟩
   obtain ⟨j,c,rfl⟩:=d _ e
   exact ⟨j+1,by simp;omega,by congr 1;omega⟩
  intro j u c
  cases j with
  |zero=>simp only[List.getElem?_cons_zero,Option.some.injEq] at c;subst c;simp[Hp.un,DD]
  | succ j =>
   simp only[List.getElem?_cons_succ] at c
   have:=f j u c
   have e:i+1+j=i+(j+1):=by omega
   rw[e] at this
   have l:one (.cell b i) (.val v) (.cell b (i+(j+1)))=none:=by
    cases g:one (.cell b i) (.val v) (.cell b (i+(j+1))) with
    |none=>rfl
    |some r=>have:=(LK g).1;simp only[Key.cell.injEq,true_and] at this;omega
   simp[Hp.un,l,this]
theorem Tm(b:Nat)(t:TypeId)(vs:List Value): ∃h:Hp,block b t vs h∧(∀k,h k≠none→k= .Ev b∨ ∃j,j<vs.length∧k= .cell b j)∧(h (.Ev b)=some (.gW t vs.length))∧(∀j v,vs[j]?=some v→h (.cell b j)=some (.val v)):=by
 obtain ⟨h,h1,c,d⟩:=N' b 0 vs
 simp only[Nat.zero_add] at c d
 refine ⟨(one (.Ev b) (.gW t vs.length)).un h,⟨_,_,?_,rfl,rfl,h1⟩,?_,?_,?_⟩
 ·intro k i e e' a
  rw[KO] at e;subst e
  obtain ⟨j,f,rfl⟩:=c _ e'
  rcases a with a|⟨a|a,_⟩
  ·grind
  ·exact a
  exact a
 ·intro k e
  rcases Hp.Ji.1 e with e|e
  ·simp_all[KO]
  simp_all
 ·simp[Hp.un,DD]
 intro j v f
 have g:one (.Ev b) (.gW t vs.length) (.cell b j)=none:=by rfl
 simp[Hp.un,g,d j v f]
theorem Sat.aQ{b:Nat}{t:TypeId}{c:Array Value}{F:Ab}{w:World}(hs:Sat (raw b (.cells c t (0,0))*F) w):Sat (block b t c.toList*F) w:=by
 refine hs.update fun g p H=>?_
 subst p
 have h1:=H (.raw b) (.obj _) (DD _ _)
 obtain ⟨h,l,f,m,n⟩:=Tm b t c.toList
 refine ⟨h,l,?_,?_⟩
 ·intro k r e
  rcases f k (by simp[e]) with rfl|⟨j,i,rfl⟩
  ·rw[m] at e;cases e
   exact ⟨c,h1,by simp⟩
  rw[n j (c.toList[j]) (by simp)] at e;cases e
  exact ⟨c,t,h1,by simp at i⊢⟩
 intro k r q o
 have d:=o (.raw b) (by simp[DD])
 refine ⟨q,fun s e=>?_⟩
 rintro a
 apply d
 rcases f s e with rfl|⟨j,i,rfl⟩
 ·rcases a with rfl|⟨_,e⟩
  ·exact .inr ⟨.inl trivial,rfl⟩
  exact .inr ⟨.inl trivial,e⟩
 rcases a with rfl|⟨_,e⟩
 ·exact .inr ⟨.inl trivial,rfl⟩
 exact .inr ⟨.inl trivial,e⟩
theorem Sat.alloc{F:Ab}{w:World}(hs:Sat F w)(c:Array Value)(t:TypeId):Sat (Sl.block w.heap.size t c.toList*F) (w.alloc (.cells c t)):=
 (hs.CW (.cells c t)).aQ
theorem Sat.DV{b i:Nat}{vs:List Value}{F:Ab}{w:World}(hs:Sat (cells b i vs*F) w): ∀j v,vs[j]?=some v→w.cell? ⟨b,i+j,none⟩=some v:=by
 induction vs generalizing i F with
 |nil=>intro j v h;simp at h
 | cons u vs c =>
  intro j v h
  have a:Sat (Sl.cell b i u*cells b (i+1) vs*F) w:=hs
  cases j with
  |zero=>simp only[List.getElem?_cons_zero,Option.some.injEq] at h;subst h;rw[Az] at a;exact a.cell
  | succ j =>
   simp only[List.getElem?_cons_succ] at h
   have:=c (F:=Sl.cell b i u*F) (a.eq (by ac_rfl)) j v h
   rw[←this];congr 2;omega
theorem Sat.EC{b:Nat}{t:TypeId}{vs:List Value}{F:Ab}{w:World}(hs:Sat (Sl.block b t vs*F) w):w.heap[b]?=some (.cells vs.toArray t (0,0)):=by
 have d:=hs.eq (Az _ _ _)
 obtain ⟨c,h1,f⟩:=d.gW
 have e:=(d.eq (BD _ _ _)).DV
 rw[h1]
 congr 2
 apply Array.ext
 ·omega
 intro j g a
 have:=e j vs[j] (by simp at a;simp[a])
 simp only[Nat.zero_add,World.cell?,h1] at this
 grind
theorem Cl(b i:Nat)(xs ys:List Value):cells b i (xs++ys)=cells b i xs*cells b (i+xs.length) ys:=by induction xs generalizing i with
 |nil=>simp[cells,Ay]
 | cons x xs a =>
  simp only[List.cons_append,cells,a,List.length_cons,Az]
  grind
end Go.Sl
namespace Go.Sl
class El (A:Ab) (b i:Nat) (v:outParam Value):Prop where
 out: ∃F,A=Sl.cell b i v*F
class Yr (A:Ab) (b:Nat) (o:outParam Obj):Prop where
 out: ∃F,A=raw b o*F
class ZQ (A:Ab) (b:Nat) (t:outParam TypeId) (n:outParam Nat):Prop where
 out: ∃F,A=Ev b t n*F
class VD (A:Ab) (b i:Nat) (v':Value) (A':outParam Ab):Prop where
 out: ∃v F,A=Sl.cell b i v*F∧A'=Sl.cell b i v'*F
class D' (A:Ab) (b:Nat) (o':Obj) (A':outParam Ab):Prop where
 out: ∃o F,A=raw b o*F∧A'=raw b o'*F
class Take (S A:Ab) (R:outParam Ab):Prop where
 out:S=A*R
instance(b i:Nat)(v:Value):El (Sl.cell b i v) b i v:=⟨1,(Bg _).symm⟩
instance(A B:Ab)(b i:Nat)(v:Value)[h:El A b i v]:El (A*B) b i v:=let ⟨F,e⟩:=h.out;⟨F*B,by rw[e,Az]⟩
instance(A B:Ab)(b i:Nat)(v:Value)[h:El B b i v]:El (A*B) b i v:=let ⟨F,e⟩:=h.out;⟨A*F,by rw[e,BD]⟩
instance(b:Nat)(o:Obj):Yr (raw b o) b o:=⟨1,(Bg _).symm⟩
instance(A B:Ab)(b:Nat)(o:Obj)[h:Yr A b o]:Yr (A*B) b o:=let ⟨F,e⟩:=h.out;⟨F*B,by rw[e,Az]⟩
instance(A B:Ab)(b:Nat)(o:Obj)[h:Yr B b o]:Yr (A*B) b o:=let ⟨F,e⟩:=h.out;⟨A*F,by rw[e,BD]⟩
instance(b n:Nat)(t:TypeId):ZQ (Ev b t n) b t n:=⟨1,(Bg _).symm⟩
instance(A B:Ab)(b n:Nat)(t:TypeId)[h:ZQ A b t n]:ZQ (A*B) b t n:=let ⟨F,e⟩:=h.out;⟨F*B,by rw[e,Az]⟩
instance(A B:Ab)(b n:Nat)(t:TypeId)[h:ZQ B b t n]:ZQ (A*B) b t n:=let ⟨F,e⟩:=h.out;⟨A*F,by rw[e,BD]⟩
instance(b i:Nat)(v v':Value):VD (Sl.cell b i v) b i v' (Sl.cell b i v'):=⟨v,1,(Bg _).symm,(Bg _).symm⟩
instance(A B A':Ab)(b i:Nat)(v':Value)[h:VD A b i v' A']:VD (A*B) b i v' (A'*B):=let ⟨v,F,e,e'⟩:=h.out;⟨v,F*B,by rw[e,Az],by rw[e',Az]⟩
instance(A B B':Ab)(b i:Nat)(v':Value)[h:VD B b i v' B']:VD (A*B) b i v' (A*B'):=let ⟨v,F,e,e'⟩:=h.out;⟨v,A*F,by rw[e,BD],by rw[e',BD]⟩
instance(b:Nat)(o o':Obj):D' (raw b o) b o' (raw b o'):=⟨o,1,(Bg _).symm,(Bg _).symm⟩
instance(A B A':Ab)(b:Nat)(o':Obj)[h:D' A b o' A']:D' (A*B) b o' (A'*B):=let ⟨v,F,e,e'⟩:=h.out;⟨v,F*B,by rw[e,Az],by rw[e',Az]⟩
instance(A B B':Ab)(b:Nat)(o':Obj)[h:D' B b o' B']:D' (A*B) b o' (A*B'):=let ⟨v,F,e,e'⟩:=h.out;⟨v,A*F,by rw[e,BD],by rw[e',BD]⟩
instance(A:Ab):Take A A 1:=⟨(Bg _).symm⟩
instance(A B X R:Ab)[h:Take A X R]:Take (A*B) X (R*B):=⟨by rw[h.out,Az]⟩
instance(A B X R:Ab)[h:Take B X R]:Take (A*B) X (A*R):=⟨by rw[h.out,BD]⟩
instance(priority:=high)(A B:Ab):Take (A*B) A B:=⟨rfl⟩
instance(priority:=high)(A B:Ab):Take (A*B) B A:=⟨F9 _ _⟩
theorem Sat.take{S:Ab}{w:World}(hs:Sat S w)(A:Ab){R:Ab}[h:Take S A R]:Sat (A*R) w:=hs.eq h.out
theorem Sat.c{A:Ab}{w:World}(hs:Sat A w)(b i:Nat){v:Value}[h:El A b i v]:w.cell? ⟨b,i,none⟩=some v:=by obtain ⟨F,rfl⟩:=h.out;exact hs.cell
theorem Sat.f{A:Ab}{w:World}(hs:Sat A w)(b i:Nat){v:Value}[h:El A b i v]:w.frozen? ⟨b,i,none⟩=false:=by obtain ⟨F,rfl⟩:=h.out;exact hs.free i
theorem Sat.r{A:Ab}{w:World}(hs:Sat A w)(b:Nat){o:Obj}[h:Yr A b o]:w.heap[b]?=some o:=by obtain ⟨F,rfl⟩:=h.out;exact hs.obj
theorem Sat.Kn{A A':Ab}{w:World}(hs:Sat A w)(b i:Nat)(v':Value)[h:VD A b i v' A']:Sat A' (w.setCell ⟨b,i,none⟩ v'):=by obtain ⟨v,F,rfl,rfl⟩:=h.out;exact hs.setCell v'
end Go.Sl
namespace Go.Sl
section
variable {κ:Type}
def Cq[DecidableEq κ](k:κ):List (κ×Value)→Option Value
 | []=>none
 |p::l=>if k=p.1 then some p.2 else Cq k l
def CT[DecidableEq κ](k:κ)(v:Value):List (κ×Value)→List (κ×Value)
 | []=> [(k,v)]
 |p::l=>if k=p.1 then (k,v)::l else p::CT k v l
def FL[DecidableEq κ](k:κ):List (κ×Value)→List (κ×Value)
 | []=> []
 |p::l=>if k=p.1 then l else p::FL k l
structure MV [DecidableEq κ] (P:Program) (kt:TypeId) (kf:κ→Value):Prop where
 NU: ∃kd,P.underlying kt=some kd∧ ∀a b,Instr.sameNow kd (kf a) (kf b)=some (decide (a=b))
 DW: ∀e n a w,(Instr.checkKey e (n+1) kt (kf a)).run P w= .ok () w
 bits: ∀n a,Instr.sameBits n (kf a) (kf a)=true
def F4(kf:κ→Value)(o:Obj)(ms:List (κ×Value)):Prop:=
 ∃es a,o= .map es a∧(es.toList.map fun e=>(e.key,e.val))=ms.map (fun p=>(kf p.1,p.2))∧(es.toList.map (·.born)).Nodup∧ ∀e∈es.toList,e.born<a
def mp(kf:κ→Value)(b:Nat)(ms:List (κ×Value)):Ab:=fun h=> ∃o,F4 kf o ms∧raw b o h
theorem Sat.Cx{kf:κ→Value}{b:Nat}{ms:List (κ×Value)}{F:Ab}{w:World}(hs:Sat (mp kf b ms*F) w): ∃o,F4 kf o ms∧Sat (raw b o*F) w:=by
 obtain ⟨_,⟨g,k,d,rfl,⟨o,a,hr⟩,hF⟩,H⟩:=hs
 exact ⟨o,a,_,⟨g,k,d,rfl,hr,hF⟩,H⟩
theorem Sat.Eo{kf:κ→Value}{b:Nat}{ms:List (κ×Value)}{F:Ab}{w:World}{o:Obj}(a:F4 kf o ms)(hs:Sat (raw b o*F) w):Sat (mp kf b ms*F) w:=by
 obtain ⟨_,⟨g,k,d,rfl,hr,hF⟩,H⟩:=hs
 exact ⟨_,⟨g,k,d,rfl,⟨o,a,hr⟩,hF⟩,H⟩
theorem Iv[DecidableEq κ]{kf:κ→Value}{kd:TypeDesc}(c: ∀a b,Instr.sameNow kd (kf a) (kf b)=some (decide (a=b)))(k:κ):
 ∀(ms : List (κ × Value))(es : List MapEntry)(i : Nat), (es.map fun e => (e.key, e.val)) = ms.map (fun p => (kf p.1, p.2)) →
  ∃r,Instr.findNow kd (kf k) es i=some r∧r.map (·.2)=Cq k ms∧
   (∀j v,r=some (j,v)→i≤j∧ ∃e,es[j-i]?=some e∧e.key=kf k∧e.val=v∧
    (∀v' e',e'.key=kf k→e'.val=v'→((es.set (j-i) e').map fun e=>(e.key,e.val))=(CT k v' ms).map (fun p=>(kf p.1,p.2)))∧
    ((es.eraseIdx (j-i)).map fun e=>(e.key,e.val))=(FL k ms).map (fun p=>(kf p.1,p.2)))∧
   (r=none→FL k ms=ms)
 | [],es,i,h=>by
  have:es= []:=by simpa using h
  subst this
  exact ⟨none,rfl,rfl,(fun _ _ e=>by cases e),fun _=>rfl⟩
 |p::ms,[],i,h=>by simp at h
 | p :: ms, e :: es, i, h => by
   simp only[List.map_cons,List.cons.injEq,Prod.mk.injEq] at h
   obtain ⟨⟨h1,l⟩,m⟩:=h
   simp only[Instr.findNow,h1,c]
   by_cases d:k=p.1
   ·subst d
    simp only[decide_true]
    refine ⟨_,rfl,by simp[Cq,l],?_,fun e=>by cases e⟩
    intro j v f
    cases f
    refine ⟨Nat.le_refl _,e,by simp,h1,rfl,?_,?_⟩
    ·intro v' e' o g
     simp[CT,o,g,m]
    simp[FL,m]
   simp only[d,decide_false]
   obtain ⟨r,r1,y,B,D⟩:=Iv c k ms es (i+1) m
   refine ⟨r,r1,by simp[Cq,d,y],?_,?_⟩
   ·intro j v f
    obtain ⟨o,e0,g,q,s,u,w⟩:=B j v f
    have n:j-i=(j-(i+1))+1:=by omega
    refine ⟨by omega,e0,by rw[n];simpa using g,q,s,?_,?_⟩
    ·intro v' e' x b2
     rw[n]
     simp[CT,d,u v' e' x b2,h1,l]
    simp[n,FL,d,w,h1,l]
   intro f
   simp[FL,d,D f]
theorem LG[DecidableEq κ]{k:κ}{v:Value}{ms:List (κ×Value)}(h:Cq k ms=none):CT k v ms=ms++ [(k,v)]:=by induction ms with
 |nil=>rfl
 | cons p ms b =>
  unfold Cq at h
  split at h
  ·grind
  rename_i a;simp[CT,a,b h]
variable {P:Program} {kt:TypeId} {kf:κ→Value}
theorem DJ[DecidableEq κ](K:MV P kt kf){t e:TypeId}{z:Value}(l:P.underlying t=some (.map kt e))(m: ∀w,(zeroValue e).run P w= .ok z w){w:World}{b:Nat}{o:Obj}{ms:List (κ×Value)}
 (hb:w.heap[b]?=some o) (j:F4 kf o ms) (k:κ) (ok:Bool):
 (Instr.lookup t (.map (some b)) (kf k) ok).run P w= .ok (if ok then .tuple #[(Cq k ms).getD z,.bool (Cq k ms).isSome] else (Cq k ms).getD z) w:=by
 obtain ⟨es,a,rfl,h1,_,_⟩:=j
 obtain ⟨kd,i,c⟩:=K.NU
 obtain ⟨r,r1,d,_⟩:=Iv c k ms es.toList 0 h1
 have g:(getObj b).run P w= .ok (.map es a) w:=by simp[getObj,Sem.run,hb]
 have f:=K.DW es.isEmpty 9999 k w
 unfold Instr.lookup
 simp only[Sem.run_bind,underlying,run_program,Result.andThen_ok,l,Sem.run_pure,g,f,Instr.findKey,i,r1]
 cases r with
 | none =>
  simp only[Sem.run_bind,m,Result.andThen_ok,Sem.run_pure,←d]
  cases ok<;>rfl
 | some q =>
  simp only[←d]
  cases ok<;>rfl
theorem KZ{t e:TypeId}(f:P.underlying t=some (.map kt e)){w:World}{b:Nat}{o:Obj}{ms:List (κ×Value)}
 (hb:w.heap[b]?=some o) (d:F4 kf o ms) (g:TypeId):
 (Builtin.len_ #[t] g #[.map (some b)]).run P w= .ok (.int .i64 ms.length) w:=by
 obtain ⟨es,a,rfl,h1,_,_⟩:=d
 have c:(getObj b).run P w= .ok (.map es a) w:=by simp[getObj,Sem.run,hb]
 have hl:es.size=ms.length:=by have:=congrArg List.length h1;simpa using this
 simp[Builtin.len_,underlying,f,c,goInt,hl]
theorem Ra{l:List MapEntry}{i:Nat}{e e':MapEntry}(h:l[i]?=some e)(hb:e'.born=e.born):(l.set i e').map (·.born)=l.map (·.born):=by induction l generalizing i with
 |nil=>simp
 | cons x l a => cases i with
  |zero=>simp at h;subst h;simp[hb]
  |succ i=>simp at h;simp[a h]
theorem CJ[DecidableEq κ](K:MV P kt kf){t e:TypeId}(s:P.underlying t=some (.map kt e)){w:World}{b:Nat}{o:Obj}{ms:List (κ×Value)}
 (hb:w.heap[b]?=some o) (H:F4 kf o ms) (k:κ) (v:Value):
 ∃o',F4 kf o' (CT k v ms)∧(Instr.mapUpdate t (.map (some b)) (kf k) v).run P w= .ok () { w with heap:=w.heap.setIfInBounds b o' } :=by
 obtain ⟨es,a,rfl,h1,D,O⟩:=H
 obtain ⟨kd,p,d⟩:=K.NU
 obtain ⟨r,r1,I,J,Q⟩:=Iv d k ms es.toList 0 h1
 have n:(getObj b).run P w= .ok (.map es a) w:=by simp[getObj,Sem.run,hb]
 have c: ∀o':Obj,(setObj b o').run P w= .ok () { w with heap:=w.heap.setIfInBounds b o' } :=by intro o';simp[setObj,Sem.run,hb]
 have m:=K.DW false 9999 k w
 cases r with
 | none =>
  have G:Cq k ms=none:=by simpa using I.symm
  refine ⟨.map (es.push { key:=kf k,val:=v,born:=a }) (a+1),⟨_,_,rfl,?_,?_,?_⟩,?_⟩
  ·rw[LG G];simp[h1]
  ·grind
  ·grind
  simp[Instr.mapUpdate,Sem.run_bind,underlying,run_program,Result.andThen_ok,s,Sem.run_pure,n,m,Instr.findKey,p,r1,c]
 | some q =>
  obtain ⟨j,u⟩:=q
  obtain ⟨_,e0,i,L,M,y,B⟩:=J j u rfl
  simp only[Nat.sub_zero] at i y B
  have f:((es[j]?).map (·.key)).getD (kf k)=kf k:=by simp_all
  have g:(es.modify j fun e=> { e with key:=kf k,val:=v }).toList=es.toList.set j { e0 with key:=kf k,val:=v } :=by simp[Array.toList_modify,List.modify_eq_set,i]
  refine ⟨.map (es.modify j fun e=> { e with key:=kf k,val:=v }) a,⟨_,_,rfl,?_,?_,?_⟩,?_⟩
  ·grind
  ·rw[g,Ra (e:=e0) (e':= { e0 with key:=kf k,val:=v }) i rfl];exact D
  ·intro x hx
   grind
  have l:(Instr.keyThatStays (kf k) (kf k)).run P w= .ok (kf k) w:=by simp[Instr.keyThatStays,K.bits]
  unfold Instr.mapUpdate
  simp only[Sem.run_bind,underlying,run_program,Result.andThen_ok,s,Sem.run_pure,n,m,Instr.findKey,p,r1,f,l,c]
theorem map_eraseIdx{α β:Type}(f:α→β): ∀(l:List α)(i:Nat),(l.eraseIdx i).map f=(l.map f).eraseIdx i
 | [],_=>rfl
 |_::_,0=>rfl
 |x::l,i+1=>by simp[map_eraseIdx f l i]
theorem aF{l:List Nat}(h:l.Nodup)(i:Nat):(l.eraseIdx i).Nodup:=h.sublist (List.eraseIdx_sublist l i)
theorem GY[DecidableEq κ](K:MV P kt kf){t e:TypeId}(n:P.underlying t=some (.map kt e)){w:World}{b:Nat}{o:Obj}{ms:List (κ×Value)}
 (hb:w.heap[b]?=some o) (D:F4 kf o ms) (k:κ):
 ∃o',F4 kf o' (FL k ms)∧ ∀f I,(Builtin.delete_ #[t,f] I #[.map (some b),kf k]).run P w= .ok (.tuple #[]) { w with heap:=w.heap.setIfInBounds b o' } :=by
 obtain ⟨es,a,rfl,h1,x,y⟩:=D
 obtain ⟨kd,l,d⟩:=K.NU
 obtain ⟨r,r1,M,G,H⟩:=Iv d k ms es.toList 0 h1
 have i:(getObj b).run P w= .ok (.map es a) w:=by simp[getObj,Sem.run,hb]
 have c: ∀o':Obj,(setObj b o').run P w= .ok () { w with heap:=w.heap.setIfInBounds b o' } :=by intro o';simp[setObj,Sem.run,hb]
 have g:=K.DW es.isEmpty 9999 k w
 cases r with
 | none =>
  refine ⟨.map es a,⟨_,_,rfl,by rw[H rfl];exact h1,x,y⟩,?_⟩
  simp[Builtin.delete_,Sem.run_bind,underlying,run_program,Result.andThen_ok,n,Sem.run_pure,i,g,Instr.findKey,l,r1,c]
 | some q =>
  obtain ⟨j,u⟩:=q
  obtain ⟨_,e0,p,J,L,s,v⟩:=G j u rfl
  simp only[Nat.sub_zero] at p s v
  have B:j<es.size:=by grind
  have m:(es.eraseIdxIfInBounds j).toList=es.toList.eraseIdx j:=by simp[Array.eraseIdxIfInBounds,B]
  refine ⟨.map (es.eraseIdxIfInBounds j) a,⟨_,_,rfl,?_,?_,?_⟩,?_⟩
  ·simp_all
  ·grind
  ·grind
  simp[Builtin.delete_,Sem.run_bind,underlying,run_program,Result.andThen_ok,n,Sem.run_pure,i,g,Instr.findKey,l,r1,c]
end
theorem YM{P:Program}{kt:TypeId}{q:IntKind}(h:P.underlying kt=some (.int q)):MV P kt (fun n:Int=>Value.int q n) where
 NU:=⟨_,h,fun a b=>by
  simp only[Instr.sameNow,if_true]
  congr 1⟩
 DW:=fun e n a w=>by simp[Instr.checkKey,underlying,h]
 bits:=fun n a=>by cases n<;>simp[Instr.sameBits]
theorem bytes_beq(a b:ByteArray):(a==b)=decide (a=b):=by
 rw[Bool.eq_iff_iff]
 rcases a with ⟨a⟩
 rcases b with ⟨b⟩
 show ByteArray.beq ⟨a⟩ ⟨b⟩=true↔_
 simp[ByteArray.beq]
theorem SO{P:Program}{kt:TypeId}(h:P.underlying kt=some .string):MV P kt (fun s:ByteArray=>Value.string s) where
 NU:=⟨_,h,fun a b=>by simp only[Instr.sameNow,bytes_beq]⟩
 DW:=fun e n a w=>by simp[Instr.checkKey,underlying,h]
 bits:=fun n a=>by cases n<;>simp[Instr.sameBits,bytes_beq]
end Go.Sl
namespace Go.Sl
theorem SG{P:Program}{w:World}{a b:Addr}(ha: ∃c t,w.heap[a.block]?=some (.cells c t (0,0)))(hb: ∃c t,w.heap[b.block]?=some (.cells c t (0,0))):
 (sameAddr a b).run P w= .ok (a==b) w:=by
 obtain ⟨c,t,ha⟩:=ha
 obtain ⟨d,u,hb⟩:=hb
 unfold sameAddr
 by_cases h:a.block=b.block
 · simp[h]
 have f:(a==b)=false:=by cases e:(a==b) with
  |false=>rfl
  |true=>exact absurd (congrArg Addr.block (eq_of_beq e)) h
 simp[h,f,World.frozen?,ha,hb,noView,viewAt,World.shape?,mayBeOne,stringish]
theorem NS{P:Program}{w:World}{t e n:Nat}{a b:Addr}(d:Nat)(j:P.underlying t=some (.pointer e))(g:(P.info? e).map (·.size)=some (n+1))
 (ha: ∃c t,w.heap[a.block]?=some (.cells c t (0,0))) (hb: ∃c t,w.heap[b.block]?=some (.cells c t (0,0))):
 (Op.equalIn (d+1) t (.pointer (some a)) (.pointer (some b))).run P w= .ok (a==b) w:=by
 obtain ⟨i,hi,f⟩:=Option.map_eq_some_iff.1 g
 have h:(sizeOf e).run P w= .ok (n+1) w:=by simp[sizeOf,typeInfo,hi,f]
 simp[Op.equalIn,underlying,j,h,SG ha hb]
theorem N3{P:Program}{w:World}{t e n:Nat}{a b:Addr}(f:P.underlying t=some (.pointer e))(d:(P.info? e).map (·.size)=some (n+1))
 (ha: ∃c t,w.heap[a.block]?=some (.cells c t (0,0))) (hb: ∃c t,w.heap[b.block]?=some (.cells c t (0,0))):
 (binOp .neq t (.pointer (some a)) (.pointer (some b))).run P w= .ok (.bool (!(a==b))) w:=by
 have h:(Op.equal t (.pointer (some a)) (.pointer (some b))).run P w= .ok (a==b) w:=NS 9999 f d ha hb
 simp[binOp,h]
theorem Sat.row{A:Ab}{w:World}(hs:Sat A w)(b i:Nat){v:Value}[h:El A b i v]: ∃c t,w.heap[b]?=some (.cells c t (0,0)):=by
 obtain ⟨F,rfl⟩:=h.out
 obtain ⟨c,t,h1,_⟩:=hs.ET
 simp_all
end Go.Sl
namespace Go.Sl
def rw(e:TypeId)(s:Nat)(v:Value)(xs:List Value):Ab:=fun h=>
 (v= .slice none 0 0∧xs= []∧emp h)∨
 ∃g n cap sp,v= .slice (some ⟨g,0,none⟩) n cap∧xs.length=n*s∧(xs++sp).length=cap*s∧n≤cap∧cap≤maxLen∧block g e (xs++sp) h
theorem Sat.Cr{e s:Nat}{v:Value}{xs:List Value}{F:Ab}{w:World}(hs:Sat (rw e s v xs*F) w):
 (v= .slice none 0 0∧xs= []∧Sat F w)∨
 ∃g n cap sp,v= .slice (some ⟨g,0,none⟩) n cap∧xs.length=n*s∧(xs++sp).length=cap*s∧n≤cap∧cap≤maxLen∧Sat (block g e (xs++sp)*F) w:=by
 obtain ⟨_,⟨g,k,d,rfl,h|⟨c,n,cap,sp,h1,a,b,f,i,j⟩,hF⟩,H⟩:=hs
 ·obtain ⟨h1,a,b⟩:=h
  refine .inl ⟨h1,a,?_⟩
  rw[←Ay F]
  exact ⟨_,⟨g,k,d,rfl,b,hF⟩,H⟩
 exact .inr ⟨c,n,cap,sp,h1,a,b,f,i,_,⟨g,k,d,rfl,j,hF⟩,H⟩
theorem Sat.AG{e s:Nat}{F:Ab}{w:World}(hs:Sat F w):Sat (rw e s (.slice none 0 0) []*F) w:=by
 rw[←Ay F] at hs
 obtain ⟨_,⟨g,k,d,rfl,h,hF⟩,H⟩:=hs
 exact ⟨_,⟨g,k,d,rfl,.inl ⟨rfl,rfl,h⟩,hF⟩,H⟩
theorem Sat.EA{e s:Nat}{xs:List Value}{F:Ab}{w:World}{g n cap:Nat}{sp:List Value}(b:xs.length=n*s)(c:(xs++sp).length=cap*s)(f:n≤cap)(i:cap≤maxLen)
 (hs:Sat (block g e (xs++sp)*F) w):Sat (rw e s (.slice (some ⟨g,0,none⟩) n cap) xs*F) w:=by
 obtain ⟨_,⟨a,k,d,rfl,h,hF⟩,H⟩:=hs
 exact ⟨_,⟨a,k,d,rfl,.inr ⟨g,n,cap,sp,rfl,b,c,f,i,h⟩,hF⟩,H⟩
theorem DR{P:Program}{b o:Nat} : ∀(news a:List Value)(j:Nat)(F:Ab)(w:World),Sat (cells b (o+j) a*F) w→a.length=news.length→(∀u∈news,u.oneCell'=true)→
 ∃d,(storeCells ⟨b,o,none⟩ news j).run P w= .ok () d∧Sat (cells b (o+j) news*F) d
 | [],a,j,F,w,hs,hl,_=>by
  have:a= []:=by simpa using hl
  subst this
  exact ⟨w,rfl,hs⟩
 |v::news,[],j,F,w,hs,hl,_=>by simp at hl
 | v :: news, u :: a, j, F, w, hs, hl, h1 => by
   have c:=hs.eq (Az _ _ _)
   have f:=c.setCell v
   have g:Sat (cells b (o+(j+1)) a*(Sl.cell b (o+j) v*F)) (w.setCell ⟨b,o+j,none⟩ v):=f.eq (by rw[BD];rfl)
   obtain ⟨d,r1,k⟩:=DR (P:=P) news a (j+1) _ _ g (by simpa using hl) (fun x hx=>h1 x (List.mem_cons_of_mem _ hx))
   refine ⟨d,?_,k.eq ?_⟩
   ·have e:=Addr.add_lit b o j
    have i:=h1 v List.mem_cons_self
    simp only[storeCells,Sem.run_bind,e]
    rw[run_store P w _ v .plain i,c.cell,c.free (o+j)]
    simp_all
   show cells b (o+(j+1)) news*(Sl.cell b (o+j) v*F)=Sl.cell b (o+j) v*cells b (o+j+1) news*F
   grind
structure Src (P:Program) (s:Nat) (w:World) (x:Value) (m:Nat) (news:List Value):Prop where
 len: ∀n,(Builtin.lenOf x).run P (w.drewN n)= .ok m (w.drewN n)
 cells: ∀n,(Builtin.firstCells s m x).run P (w.drewN n)= .ok news.toArray (w.drewN n)
 size:news.length=m*s
 one: ∀u∈news,u.oneCell'=true
theorem Src.nil(P:Program)(s:Nat)(w:World):Src P s w (.slice none 0 0) 0 []:=
 ⟨fun _=>rfl,fun _=>rfl,by simp,by simp⟩
theorem Src.slice{P:Program}{s:Nat}{w:World}{b o m c:Nat}{news:List Value}(hl:news.length=m*s)(h: ∀j u,news[j]?=some u→w.cell? ⟨b,o+j,none⟩=some u)(h1: ∀u∈news,u.oneCell'=true):
 Src P s w (.slice (some ⟨b,o,none⟩) m c) m news where
 len:=fun _=>rfl
 cells:=fun n=>by
  show (loadCells ⟨b,o,none⟩ (m*s)).run P (w.drewN n)=_
  rw[←hl]
  exact run_loadCells_list _ _ news (fun j v a=>by rw[Addr.add_lit];exact h j v a)
 size:=hl
 one:=h1
theorem Src.string{P:Program}{w:World}(b:ByteArray):Src P 1 w (.string b) b.size (b.data.toList.map fun x=>Value.int .u8 x.toNat) where
 len:=fun _=>rfl
 cells:=fun n=>by
  show (Pure.pure _:Sem _).run P _=_
  rw[Sem.run_pure]
  congr 1
  apply Array.ext'
  simp
 size:=by rw[List.length_map,Nat.mul_one];rfl
 one:=by
  intro u a
  obtain ⟨_,_,rfl⟩:=List.mem_map.1 a
  rfl
theorem D3(g:Nat)(e:TypeId)(xs ys:List Value):block g e (xs++ys)=Ev g e (xs++ys).length*(cells g 0 xs*cells g xs.length ys):=by simp[block,Cl]
theorem Qo(z:Array Value)(n:Nat):(Builtin.zeroCells z n).size=n*z.size:=by simp[Builtin.zeroCells]
structure C8 (P:Program) (t e s bytes:Nat) (i:TypeInfo) (z:Value):Prop where
 NU:P.underlying t=some (.slice e)
 info:P.info? e=some i
 zero:i.zero=some z
 size:i.size=s
 bytes:i.bytes=bytes
 zs:z.cells.size=s
 pos:0<s
theorem Iu{P:Program}{t e s bytes:Nat}{z:Value}(d:P.underlying t=some (.slice e))(h:(P.info? e).map (fun i=>(i.zero,i.size,i.bytes))=some (some z,s,bytes))(f:z.cells.size=s)(hs:0<s):
 ∃i,C8 P t e s bytes i z:=by
 obtain ⟨i,h1,a,b,c⟩:=info_parts h
 exact ⟨i,d,h1,a,b,c,f,hs⟩
theorem K1{P:Program}{t e s bytes:Nat}{i:TypeInfo}{z:Value}(E:C8 P t e s bytes i z){tx:TypeId}{W:TypeDesc}(J:P.underlying tx=some W)(a2: ∀k,W≠ .int k)(ty:TypeId)
 {a:Option Addr} {n cap m:Nat} {xs news:List Value} {x:Value} {F:Ab} {w:World}
 (hs:Sat (rw e s (.slice a n cap) xs*F) w) (hx:Src P s w x m news) (O:n+m≤maxLen) (p:(n+m)*bytes≤140737488355328):
 ∃a' d G,(Builtin.append_ #[t,tx] ty #[.slice a n cap,x]).run P w= .ok (.slice a' (n+m) d) G∧Sat (rw e s (.slice a' (n+m) d) (xs++news)*F) G∧(a'=none↔a=none∧m=0):=by
 have I:(sizeOf e).run P w= .ok s w:=by simp[sizeOf,typeInfo,E.info,E.size]
 have u:(Builtin.lenOf x).run P w= .ok m w:=by simpa[World.drewN] using hx.len 0
 have U:(Builtin.firstCells s m x).run P w= .ok news.toArray w:=by simpa[World.drewN] using hx.cells 0
 have H:(match W with| .int _=>true|_=>false)=false:=by
  cases W<;>first|rfl|exact absurd rfl (a2 _)
 by_cases c:n+m≤cap
 · --there is room
   rcases hs.Cr with ⟨h1,b,o⟩|⟨g,n',f,sp,h1,b,o,h4,Y,M⟩
   · cases h1
     have hm:m=0:=by omega
     subst hm
     have hn:news= []:=by have:=hx.size;simpa using this
     subst hn b
     refine ⟨none,0,w,?_,hs,by simp⟩
     unfold Builtin.append_
     simp[underlying,E.NU,J,H,I,u,U]
   cases h1
   have hl:news.length≤sp.length:=by
    rw[hx.size]
    have:xs.length+sp.length=cap*s:=by simpa using o
    have:=Nat.mul_le_mul_right s c
    rw[Nat.add_mul] at this
    omega
   have r:sp=sp.take news.length++sp.drop news.length:=(List.take_append_drop _ _).symm
   have a4:Sat (cells g (n*s) (sp.take news.length)*(Ev g e (xs++sp).length*(cells g 0 xs*(cells g (n*s+news.length) (sp.drop news.length)*F)))) w:=by
    refine M.eq ?_
    rw[D3]
    conv=>lhs;rw[r]
    rw[Cl,←b]
    have:(sp.take news.length).length=news.length:=by simp[hl]
    rw[this,List.take_append_drop]
    ac_rfl
   have T:Sat (cells g (n*s+0) (sp.take news.length)*(Ev g e (xs++sp).length*(cells g 0 xs*(cells g (n*s+news.length) (sp.drop news.length)*F)))) w:=a4
   obtain ⟨G,r1,r2⟩:=DR (P:=P) news (sp.take news.length) 0 _ w T (by simp[hl]) hx.one
   refine ⟨some ⟨g,0,none⟩,cap,G,?_,?_,by simp⟩
   · have ea:(⟨g,0,none⟩:Addr).add (n*s)=⟨g,n*s,none⟩:=by rw[Addr.add_lit];simp
     unfold Builtin.append_
     simp[underlying,E.NU,J,H,I,u,U,c,ea,r1]
   refine Sat.EA (sp:=sp.drop news.length) ?_ ?_ c Y (r2.eq ?_)
   · simp[b,hx.size,Nat.add_mul]
   · have:xs.length+sp.length=cap*s:=by simpa using o
     simp only[List.length_append,List.length_drop]
     omega
   rw[D3]
   have X:(xs++news++sp.drop news.length).length=(xs++sp).length:=by simp only[List.length_append,List.length_drop];omega
   rw[X,Cl]
   simp only[Nat.add_zero,Nat.zero_add,List.length_append,←b]
   ac_rfl
 have R: ∀k,(Builtin.firstCells s n (.slice a n cap)).run P (w.drewN k)= .ok xs.toArray (w.drewN k):=by
  intro k
  rcases hs.Cr with ⟨h1,b,o⟩|⟨g,n',f,sp,h1,b,o,h4,Y,M⟩
  · cases h1;subst b;rfl
  cases h1
  show (loadCells ⟨g,0,none⟩ (n*s)).run P (w.drewN k)=_
  rw[←b]
  refine run_loadCells_list _ _ xs (fun j v hj=>?_)
  rw[Addr.add_lit]
  have h7:Sat (cells g 0 xs*(Ev g e (xs++sp).length*(cells g xs.length sp*F))) (w.drewN k):=(M.drewN k).eq (by rw[D3];ac_rfl)
  exact h7.DV j v hj
 have K:xs.length=n*s∧Sat F w:=by
  rcases hs.Cr with ⟨h1,b,o⟩|⟨g,n',f,sp,h1,b,o,h4,Y,M⟩
  · cases h1;subst b;exact ⟨by simp,o⟩
  cases h1;exact ⟨b,M.right⟩
 have a3:=growslice_fits (bytes:=bytes) (show cap<n+m by omega) p
 have Q: ¬((n+m:Nat):Int)>IntKind.i64.max:=by
  have:n+m≤9223372036854775807:=by simpa[maxLen] using O
  have e:IntKind.i64.max=9223372036854775807:=rfl
  rw[e]
  omega
 have L: ∀k,(zeroValue e).run P (w.drewN k)= .ok z (w.drewN k):=by intro k;simp[zeroValue,typeInfo,E.info,E.zero]
 have B: ∀G,(typeInfo e).run P G= .ok i G:=by intro G;simp[typeInfo,E.info]
 let q:=Question.appendCap (n+m) cap e
 let d:=q.cut (w.tape w.drawn q)
 have Z:n+m≤d:=by show n+m≤(n+m)+_;omega
 have a0:d≤maxLen:=by
  show (n+m)+_%(2^63-(n+m))≤maxLen
  have h1:n+m≤9223372036854775807:=by simpa[maxLen] using O
  have b:w.tape w.drawn q%(2^63-(n+m))<2^63-(n+m):=Nat.mod_lt _ (by omega)
  have o:maxLen=9223372036854775807:=rfl
  omega
 let row:=xs++news++(Builtin.zeroCells z.cells (d-(n+m))).toList
 have a5:Sat (block (w.drewN 1).heap.size e row*F) ((w.drewN 1).alloc (.cells row.toArray e)):=by
  have:=(K.2.drewN 1).alloc row.toArray e
  simpa using this
 refine ⟨some ⟨(w.drewN 1).heap.size,0,none⟩,d,(w.drewN 1).alloc (.cells row.toArray e),?_,?_,?_⟩
 · have a1:(choose q).run P w= .ok d (w.drewN 1):=by
    rw[run_choose]
    simp only[q,Question.forced]
    rfl
   have D:=hx.cells 1
   have l:=R 1
   have V:=L 1
   have y:(newRow e (xs.toArray++news.toArray++Builtin.zeroCells z.cells (d-(n+m)))).run P (w.drewN 1)= .ok ⟨(w.drewN 1).heap.size,0,none⟩ ((w.drewN 1).alloc (.cells row.toArray e)):=by
    have X:xs.toArray++news.toArray++Builtin.zeroCells z.cells (d-(n+m))=row.toArray:=by
     apply Array.ext';simp[row]
    rw[X]
    simp[newRow]
   unfold Builtin.append_
   simp only[Sem.run_bind,underlying,run_program,Result.andThen_ok,E.NU,J,List.getElem?_toArray,List.getElem?_cons_zero,List.getElem?_cons_succ,Sem.run_pure,I,H,u]
   have hb: ¬(Builtin.nextslicecap (n+m) cap*i.bytes>2^48):=by
    rw[E.bytes]
    have:(2:Nat)^48=281474976710656:=by decide
    omega
   simp only[Bool.false_eq_true,if_false,Sem.run_bind,Sem.run_pure,u,Result.andThen_ok,c,B,hb,Q,false_and,run_askRoom,l,D,V,y]
   simp only[show (Question.appendCap (n+m) cap e)=q from rfl,a1,Result.andThen_ok,B,run_askRoom,l,D,V,y,Bool.not_false,if_true]
 · refine Sat.EA (sp:=(Builtin.zeroCells z.cells (d-(n+m))).toList) ?_ ?_ Z a0 a5
   · simp[K.1,hx.size,Nat.add_mul]
   simp only[List.length_append,Array.length_toList,Qo,E.zs,K.1,hx.size]
   rw[←Nat.add_mul,←Nat.add_mul]
   congr 1
   omega
 have: ¬(a=none∧m=0):=by
  rintro ⟨rfl,rfl⟩
  rcases hs.Cr with ⟨h1,b,o⟩|⟨g,n',f,sp,h1,_⟩
  · cases h1;omega
  cases h1
 simp[this]
theorem Xr{P:Program}{t e s bytes:Nat}{i:TypeInfo}{z:Value}(E:C8 P t e s bytes i z){B:TypeId}{y:TypeDesc}(u:P.underlying B=some y)(p: ∀k,y≠ .int k)
 {ops:Array Oper} {Q:Exit→Act→World→Prop} {rest:List Oper} {o:Oper} {a:Act} (q:o.guard=none) (d f:Operand)
 (G:o.op= .call { callee:= .builtin .append,args:= #[d,f],argTypes:= #[t,B] })
 {b:Option Addr} {n cap m:Nat} {xs news:List Value} {x:Value} {F:Ab} {w:World} (r:a.eval d= .slice b n cap) (v:a.eval f=x)
 (hs:Sat (rw e s (.slice b n cap) xs*F) w) (hx:Src P s w x m news) (l:n+m≤maxLen) (c:(n+m)*bytes≤140737488355328)
 (h: ∀a' g j,Sat (rw e s (.slice a' (n+m) g) (xs++news)*F) j→(a'=none↔b=none∧m=0)→wpList P ops Q rest (a.put o.dst (.slice a' (n+m) g)) j):
 wpList P ops Q (o::rest) a w:=by
 refine wpList_plain q fun K D=>?_
 obtain ⟨a',g,j,r1,H,I⟩:=K1 E u p o.type hs hx l c
 unfold Oper.wp
 simp[execOp,G,resolve,invoke,builtin,r,v,r1,Result.andThen]
 exact D _ _ (h a' g j H I)
theorem Af{P:Program}{t e s bytes:Nat}{i:TypeInfo}{z:Value}(E:C8 P t e s bytes i z)
 {ops:Array Oper} {Q:Exit→Act→World→Prop} {rest:List Oper} {o:Oper} {a:Act} (j:o.guard=none) (d f:Operand)
 (v:o.op= .call { callee:= .builtin .append,args:= #[d,f],argTypes:= #[t,t] })
 {b:Option Addr} {n cap m:Nat} {xs news:List Value} {x:Value} {F:Ab} {w:World} (l:a.eval d= .slice b n cap) (p:a.eval f=x)
 (hs:Sat (rw e s (.slice b n cap) xs*F) w) (hx:Src P s w x m news) (g:n+m≤maxLen) (c:(n+m)*bytes≤140737488355328)
 (h: ∀a' q r,Sat (rw e s (.slice a' (n+m) q) (xs++news)*F) r→(a'=none↔b=none∧m=0)→wpList P ops Q rest (a.put o.dst (.slice a' (n+m) q)) r):
 wpList P ops Q (o::rest) a w:=
 Xr E E.NU (fun k u=>by cases u) j d f v l p hs hx g c h
theorem A6{P:Program}{t e s bytes:Nat}{i:TypeInfo}{z:Value}(E:C8 P t e s bytes i z){ops:Array Oper}{o:Oper}{a:Act}{w:World}{K:Act→World→Prop}{Q:Exit→Act→World→Prop}{X:Prop}
 (p:o.guard=none) (d f:Operand) (v:o.op= .call { callee:= .builtin .append,args:= #[d,f],argTypes:= #[t,t] })
 {b:Option Addr} {n cap m:Nat} {xs news:List Value} {x:Value} {F:Ab} (q:a.eval d= .slice b n cap) (r:a.eval f=x)
 (hs:Sat (rw e s (.slice b n cap) xs*F) w) (hx:Src P s w x m news) (l:n+m≤maxLen) (c:(n+m)*bytes≤140737488355328)
 (h: ∀a' g j,Sat (rw e s (.slice a' (n+m) g) (xs++news)*F) j→(a'=none↔b=none∧m=0)→K (a.put o.dst (.slice a' (n+m) g)) j):
 if Region.wanted o (yielded ops a.tmps)=true then Oper.wp P o a w K Q else X:=by
 have hw:Region.wanted o (yielded ops a.tmps)=true:=by simp[Region.wanted,p]
 rw[if_pos hw]
 obtain ⟨a',g,j,r1,y,B⟩:=K1 E E.NU (fun k u=>by cases u) o.type hs hx l c
 unfold Oper.wp
 simp[execOp,v,resolve,invoke,builtin,q,r,r1,Result.andThen]
 exact h a' g j y B
theorem Src.Oi{P:Program}{w:World}{b e:Nat}{v:Value}{F:Ab}(hs:Sat (block b e [v]*F) w)(d:v.oneCell'=true):Src P 1 w (.slice (some ⟨b,0,none⟩) 1 1) 1 [v]:=by
 refine Src.slice rfl (fun j u a=>?_) (fun u c=>by simp at c;subst c;exact d)
 cases j with
 | zero =>
  simp at a;subst a
  have:Sat (Sl.cell b 0 v*(Ev b e 1*F)) w:=hs.eq (by simp only[block,Sl.cells,Bg,List.length_cons,List.length_nil,Nat.zero_add];ac_rfl)
  exact this.cell
 |succ j=>simp at a
theorem Src.new{P:Program}{w:World}{b e s:Nat}{vs:List Value}{F:Ab}(hs:Sat (block b e vs*F) w)(hl:vs.length=s)(d: ∀v∈vs,v.oneCell'=true):Src P s w (.slice (some ⟨b,0,none⟩) 1 1) 1 vs:=by
 refine Src.slice (by omega) (fun j u c=>?_) d
 have a:Sat (Sl.cells b 0 vs*(Ev b e vs.length*F)) w:=hs.eq (by unfold block;ac_rfl)
 exact a.DV j u c
theorem drew_drewN(w:World)(n:Nat):w.drew.drewN n=w.drewN (1+n):=by simp
theorem Src.drew{P:Program}{w:World}{s m:Nat}{x:Value}{news:List Value}(h:Src P s w x m news):Src P s w.drew x m news:=
 ⟨fun n=>by rw[drew_drewN];exact h.len (1+n),fun n=>by rw[drew_drewN];exact h.cells (1+n),h.size,h.one⟩
theorem Sat.bT{e:Nat}{a:Option Addr}{n c:Nat}{xs:List Value}{F:Ab}{w:World}(hs:Sat (rw e 1 (.slice a n c) xs*F) w):n=xs.length:=by
 rcases hs.Cr with ⟨h1,d,f⟩|⟨g,n',b,sp,h1,d,f,i,j,k⟩
 ·simp_all
 simp_all
end Go.Sl
namespace Go.Sl
open Go.RowKit
def Fq(a:World):Ab:=fun h=>h=fun k=>match k with
 | .raw b=>(a.heap[b]?).map Fu.obj
 | .env=>some (.io a.os a.tape a.output)
 |_=>none
theorem Sat.aM(w:World):Sat (Fq w) w:=by
 refine ⟨_,rfl,fun k r e=>?_⟩
 cases k with
 | raw b =>
  obtain ⟨o,a,rfl⟩:=Option.map_eq_some_iff.1 e
  exact a
 |env=>cases e;exact ⟨rfl,rfl,rfl⟩
 |cell b i=>cases e
 |Ev b=>cases e
theorem Sat.Rf{c w:World}{F:Ab}(hs:Sat (Fq c*F) w):Below c.heap.size c w:=by
 obtain ⟨h,a,H⟩:=hs.Dx
 subst a
 have hb: ∀b,b<c.heap.size→w.heap[b]?=c.heap[b]?:=by
  intro b hb
  have:=H (.raw b) (.obj c.heap[b]) (by simp[hb])
  simp only[Has] at this
  simp_all
 have d:=H .env _ rfl
 refine ⟨d.1,d.2.1,d.2.2,?_,hb⟩
 grind
theorem Sat.Uw{b w:World}{F:Ab}(hs:Sat (Fq b*F) w){a:Addr}{v:Value}(h:b.cell? a=some v):w.cell? a=some v:=by rw[hs.Rf.cell (World.block_lt_of_cell? b a h)];exact h
end Go.Sl
namespace Go.Sl
open Go.RowKit Go.Deep Go.ChangeShapes Go.WideShapes
def iA(w:World)(v:Value)(s:Nat)(d:List (List Value)):Prop:=
 ∃a c,v= .slice a d.length c∧ ∀i r,d[i]?=some r→r.length=s∧ ∃b o,a=some ⟨b,o,none⟩∧ ∀j u,r[j]?=some u→w.cell? ⟨b,o+i*s+j,none⟩=some u
theorem iA.len{w:World}{v:Value}{s:Nat}{b:List (List Value)}(h:iA w v s b): ∃a c,v= .slice a b.length c:=by
 obtain ⟨a,c,h,_⟩:=h
 simp_all
theorem iA.at{w:World}{a:Option Addr}{n c s i:Nat}{d:List (List Value)}{r:List Value}(h:iA w (.slice a n c) s d)(hi:d[i]?=some r):
 ∃b o,a=some ⟨b,o,none⟩∧ ∀j u,r[j]?=some u→w.cell? ⟨b,o+i*s+j,none⟩=some u:=by
 obtain ⟨a',e,h1,f⟩:=h
 cases h1
 simp_all
theorem ZC{w:World}{x:Addr}{u:Value}(h:w.cell? x=some u):x.spot=none:=by
 unfold World.cell? at h
 cases hs:x.spot with
 |none=>rfl
 |some _=>simp[hs] at h;split at h<;>simp at h
theorem IU{H:Type}{enc:TypeId×Value→H}{P:Program}{w:World}{c:Nat}{d:Nat→Bool}{g:Bool}{t e p s:Nat}{a:Option Addr}{len cap:Nat}{x:DataW H×List MemPlace}
 (ht:P.underlying t=some (.slice e)) (hs:P.cellsOf e=s) (B:0<s) (h:DataW.trod enc P w c d g p t [.slice a len cap]=some x):
 ∃V,iA w (.slice a len cap) s V∧V.length=len∧len≤maxLen∧ ∀r∈V,∃n y,DataW.trod enc P w c d g n e r=some y:=by
 rcases open_slice ht h with ⟨h1,_⟩|⟨l,Y,W,m,n,D,Pl,q,hb,hl,hm,R,hx,hi⟩
 · simp at h1
   obtain ⟨rfl,rfl,rfl⟩:=h1
   exact ⟨[],⟨none,0,rfl,fun i r hr=>by simp at hr⟩,rfl,by simp,by simp⟩
 simp at q
 obtain ⟨rfl,rfl,rfl⟩:=q
 have a2:len≤m:=by rw[R];split<;>omega
 have v: ∀i:Nat,∃r:List Value,i<len→(w.cells? c (l.add (i*s)) s=some r∧ ∃y,DataW.trod enc P w c d g n e r=some y):=by
  intro i
  by_cases k:i<len
  · obtain ⟨J,I,L⟩:=hi i (by omega)
    rw[hs] at I
    exact ⟨J,fun _=>⟨I,_,L⟩⟩
  exact ⟨[],fun h=>absurd h k⟩
 let f:Nat→List Value:=fun i=>Classical.choose (v i)
 have O: ∀i:Nat,i<len→(w.cells? c (l.add (i*s)) s=some (f i)∧ ∃y,DataW.trod enc P w c d g n e (f i)=some y):=fun i=>Classical.choose_spec (v i)
 refine ⟨(List.range len).map f,⟨some l,cap,by simp,fun i r hr=>?_⟩,by simp,by omega,?_⟩
 · have k:i<len:=by
    rcases Nat.lt_or_ge i len with h|h
    ·exact h
    rw[List.getElem?_eq_none (by simpa using h)] at hr;cases hr
   have T:r=f i:=by simp[k] at hr;exact hr.symm
   subst T
   obtain ⟨I,_⟩:=O i k
   obtain ⟨_,L,h4⟩:=World.cells?_some I
   refine ⟨L,?_⟩
   have G:l.spot=none:=by
    obtain ⟨K,_⟩:=O 0 (by omega)
    obtain ⟨_,Z,M⟩:=World.cells?_some K
    have:=M 0 B
    rw[List.getElem?_eq_getElem (by omega)] at this
    have X:=ZC this
    simp[Addr.add] at X
    exact X
   obtain ⟨b,o,sp⟩:=l
   simp only at G
   subst G
   refine ⟨b,o,rfl,fun j u U=>?_⟩
   have hj:j<s:=by
    rcases Nat.lt_or_ge j s with h|h
    ·exact h
    rw[List.getElem?_eq_none (by omega)] at U;cases U
   have:=h4 j hj
   rw[Addr.add_lit,Addr.add_lit] at this
   rw[this];exact U
 intro r hr
 obtain ⟨i,Q,rfl⟩:=List.mem_map.1 hr
 obtain ⟨_,y,hy⟩:=O i (by simpa using Q)
 exact ⟨n,y,hy⟩
theorem Fy{H:Type}{enc:TypeId×Value→H}{P:Program}{w:World}{b:Nat}{a:Nat→Bool}{c:Bool}{t d:Nat}{r:List Value}{x:DataW H×List MemPlace}{fs:Array Field}
 (j:P.underlying t=some (.struct fs)) (h:DataW.trod enc P w b a c d t r=some x):
 r.length=P.cellsOf t∧ ∃n,∀(i:Nat)(f:Field),fs[i]?=some f→ ∃y,DataW.trod enc P w b a c n f.type ((r.drop f.offset).take (P.cellsOf f.type))=some y:=by
 obtain ⟨xs,n,_,_,h1,k,g⟩:=DataW.trod_struct j h
 refine ⟨h1,n,fun i f e=>?_⟩
 have hi:=(Array.getElem?_eq_some_iff.1 e).1
 exact ⟨xs[i]'(by omega),by rw[g i f e];exact List.getElem?_eq_getElem (by omega)⟩
theorem Dd{H:Type}{enc:TypeId×Value→H}{P:Program}{w:World}{b:Nat}{a:Nat→Bool}{d:Bool}{t c:Nat}{v:Value}{x:DataW H×List MemPlace}{k:IntKind}
 (e:P.underlying t=some (.int k)) (h:DataW.trod enc P w b a d c t [v]=some x): ∃n,v= .int k n∧(Lit.int k n).wf=true:=by
 obtain ⟨n,h1,_,f⟩:=DataW.trod_int e h
 simp_all
end Go.Sl
namespace Go.Sl
theorem Sat.fD{b t : Nat}{xs ys : List Value}{F : Ab}{w y : World}(hs : Sat (block b t xs * F) w)(hl : ys.length = xs.length)
 (hb:y.heap[b]?=some (.cells ys.toArray t (0,0))) (R: ∀k,k<w.heap.size→k≠b→y.heap[k]?=w.heap[k]?) (h1:y.os=w.os) (L:y.tape=w.tape) (h3:y.output=w.output):Sat (block b t ys*F) y:=by
 have hw:=hs.EC
 obtain ⟨_,⟨g,k,d,rfl,a,hF⟩,H⟩:=hs
 obtain ⟨J,X,T,Y,Z⟩:=Tm b t ys
 have hg : ∀ f, f.ET = some b → ∀ r, Has w f r → g f = none → f = .raw b := by
  intro f l r hr Q
  obtain ⟨gh,K,V,rfl,rfl,U⟩:=(a:(Ev b t xs.length*cells b 0 xs) g)
  have p: ∀j,j<xs.length→K (.cell b j)≠none:=by
   clear Q hr l V
   have key : ∀(vs : List Value)(i : Nat)(h : Hp), cells b i vs h → ∀ j, j < vs.length → h (.cell b (i + j)) ≠ none := by
    intro vs
    induction vs with
    |nil=>intro i h _ j s;simp at s
    | cons v vs ih =>
      intro i h n j s
      obtain ⟨g1,g2,d1,rfl,rfl,L⟩:=(n:(Sl.cell b i v*cells b (i+1) vs) h)
      rw[Hp.Ji]
      cases j with
      |zero=>exact .inl (by simp[DD])
      | succ j =>
        right
        have:=ih (i+1) g2 L j (by simp at s;omega)
        have e:i+1+j=i+(j+1):=by omega
        rw[e] at this
        exact this
   intro j s
   have:=key xs 0 K U j s
   simpa using this
  cases f with
  |raw b'=>simp[Key.ET] at l;rw[l]
  |env=>simp[Key.ET] at l
  | Ev b' =>
    simp[Key.ET] at l
    subst l
    exact absurd Q (Hp.Ji.2 (.inl (by simp[DD])))
  | cell b' i =>
    simp[Key.ET] at l
    subst l
    cases r<;>simp only[Has] at hr
    obtain ⟨c,tt,G,I⟩:=hr
    rw[hw] at G
    cases G
    have hi:i<xs.length:=by
     rcases Nat.lt_or_ge i xs.length with h|h
     · exact h
     simp[List.getElem?_eq_none h] at I
    exact absurd Q (Hp.Ji.2 (.inr (p i hi)))
 have W: ∀f r,k f=some r→Has w f r:=by
  intro f r e
  refine H f r ?_
  rw[Hp.On d];simp[Hp.un,e]
 have q: ∀f r,k f=some r→f.ET≠some b:=by
  intro f r e M
  have O:g f=none:=by
   cases n:g f with
   |none=>rfl
   |some r'=>exact absurd (.inl rfl) (d f f (by simp[n]) (by simp[e]))
  have D:=hg f M r (W f r e) O
  subst D
  obtain ⟨gh,K,V,rfl,rfl,U⟩:=(a:(Ev b t xs.length*cells b 0 xs) g)
  exact d (.Ev b) (.raw b) (Hp.Ji.2 (.inl (by simp[DD]))) (by simp[e]) (.inr ⟨.inr trivial,rfl⟩)
 refine ⟨J.un k,⟨J,k,?_,rfl,X,hF⟩,?_⟩
 · intro u k2 G I hc
   obtain ⟨r,hr⟩:=Option.ne_none_iff_exists'.1 I
   have o:=q k2 r hr
   have B:u.ET=some b:=by rcases T u G with rfl|⟨j,_,rfl⟩<;>rfl
   rcases hc with rfl|⟨_,e⟩
   · exact o B
   exact o (e▸B)
 intro u r e
 unfold Hp.un at e
 cases m:J u with
 | some r' =>
   rw[m] at e
   cases e
   rcases T u (by simp[m]) with rfl|⟨j,s,rfl⟩
   · rw[Y] at m;cases m
     exact ⟨_,hb,by simp⟩
   rw[Z j ys[j] (by simp[s])] at m;cases m
   exact ⟨_,_,hb,by simp[s]⟩
 | none =>
   rw[m] at e
   have n:=W u r e
   have o:=q u r e
   have x:=fun b'=>Has.lt n (b:=b')
   cases u with
   |env=>cases r<;>simp only[Has] at n⊢;rw[h1,L,h3];exact n
   |raw b'=>cases r<;>simp only[Has] at n⊢;rw[R b' (x b' rfl) (fun e=>o (by rw[e];rfl))];exact n
   |cell b' i=>cases r<;>simp only[Has] at n⊢;rw[R b' (x b' rfl) (fun e=>o (by rw[e];rfl))];exact n
   |Ev b'=>cases r<;>simp only[Has] at n⊢;rw[R b' (x b' rfl) (fun e=>o (by rw[e];rfl))];exact n
theorem Sat.VI{b t k:Nat}{vs:List Value}{v:Value}{F:Ab}{w:World}(hs:Sat (block b t vs*F) w)(c:vs[k]?=some v):w.cell? ⟨b,k,none⟩=some v∧w.frozen? ⟨b,k,none⟩=false:=by
 have hw:=hs.EC
 have a:Sat (cells b 0 vs*(Ev b t vs.length*F)) w:=hs.eq (by unfold block;ac_rfl)
 exact ⟨by have:=a.DV k v c;simpa using this,by simp[World.frozen?,hw]⟩
section
variable {κ:Type}
def Iter(kf:κ→Value)(M:Nat)(o d:Obj)(ms c:List (κ×Value)):Prop:=
 ∃es a b,o= .map es a∧d= .mapIter (some M) a b a∧
  (es.toList.map fun e=>(e.key,e.val))=ms.map (fun p=>(kf p.1,p.2))∧(es.toList.map (·.born)).Nodup∧(∀e∈es.toList,e.born<a)∧
  ((es.toList.filter fun e=>!b.contains e.born).map fun e=>(e.key,e.val))=c.map (fun p=>(kf p.1,p.2))
theorem Iter.gQ{kf:κ→Value}{M:Nat}{o g:Obj}{ms b:List (κ×Value)}(h:Iter kf M o g ms b):F4 kf o ms:=by
 obtain ⟨es,a,c,h1,_,d,e,f,_⟩:=h
 exact ⟨es,a,h1,d,e,f⟩
theorem IV{P:Program}{kf:κ→Value}{t kt e:TypeId}(j:P.underlying t=some (.map kt e)){w:World}{M:Nat}{o:Obj}{ms:List (κ×Value)}(hb:w.heap[M]?=some o)(i:F4 kf o ms):
 ∃b,Iter kf M o b ms ms∧(Instr.range t (.map (some M))).run P w= .ok (.pointer (some ⟨w.heap.size,0,none⟩)) (w.alloc b):=by
 obtain ⟨es,a,rfl,c,d,f⟩:=i
 have g:(getObj M).run P w= .ok (.map es a) w:=by simp[getObj,Sem.run,hb]
 refine ⟨.mapIter (some M) a #[] a,⟨es,a, #[],rfl,rfl,c,d,f,?_⟩,?_⟩
 ·have:(es.toList.filter fun e=>!(#[]:Array Nat).contains e.born)=es.toList:=List.filter_eq_self.2 fun e _=>by simp
  grind
 simp[Instr.range,underlying,j,g]
theorem filter_push{l:List MapEntry}(a:(l.map (·.born)).Nodup){i:Nat}{e:MapEntry}(hi:l[i]?=some e):(l.filter fun x=>x.born !=e.born)=l.eraseIdx i:=by induction l generalizing i with
 |nil=>simp
 | cons x l b => cases i with
  |zero=>simp_all
  |succ i=>grind
theorem Va{P:Program}{kf:κ→Value}{w:World}{M g:Nat}{o oi:Obj}{ms c:List (κ×Value)}{F:Ab}(hs:Sat (raw M o*(raw g oi*F)) w)(hI:Iter kf M o oi ms c)(ty:TypeId):
 (c= []∧(Instr.next (.pointer (some ⟨g,0,none⟩)) false ty).run P w= .ok (.tuple #[.bool false]) w)∨
 ∃(i:Nat)(k:κ)(v:Value)(Y:Obj)(Z:World),c[i]?=some (k,v)∧(Instr.next (.pointer (some ⟨g,0,none⟩)) false ty).run P w= .ok (.tuple #[.bool true,kf k,v]) Z∧
  Iter kf M o Y ms (c.eraseIdx i)∧Sat (raw M o*(raw g Y*F)) Z∧(Instr.entry (.pointer (some ⟨g,0,none⟩))).run P Z= .ok (.tuple #[kf k,v]) Z:=by
 have hM:=hs.obj
 have ac:=hs.eq (BD _ _ _)
 have a7:=ac.obj
 obtain ⟨es,a,b,rfl,rfl,h3,h4,h5,h6⟩:=hI
 have G: ∀w0:World,w0.heap[M]?=some (.map es a)→(getObj M).run P w0= .ok (.map es a) w0:=by intro w0 h;simp[getObj,Sem.run,h]
 have O:(getObj g).run P w= .ok (.mapIter (some M) a b a) w:=by simp[getObj,Sem.run,a7]
 have s:(!b.isEmpty&&!es.isEmpty&&es.all fun x=>decide (x.born≥a))=false:=by
  cases K:es.isEmpty with
  |true=>simp
  | false =>
    have H:es.toList≠ []:=by intro h;simp[Array.isEmpty_iff] at K;exact K (by simpa using h)
    obtain ⟨e,he⟩:=List.exists_mem_of_ne_nil _ H
    have:(es.all fun x=>decide (x.born≥a))=false:=by grind
    simp_all
 let left:=es.filter fun e=>!b.contains e.born
 have d:left.toList=es.toList.filter fun e=>!b.contains e.born:=by simp[left]
 have y:left.filter (fun x=>decide (x.born<a))=left:=by
  apply Array.ext'
  rw[Array.toList_filter]
  refine List.filter_eq_self.2 fun e he=>?_
  simp_all
 have u:left.filter (fun x=>decide (x.born≥a))= #[]:=by simp_all
 have n:left.toList.length=c.length:=by
  have:=congrArg List.length h6
  grind
 by_cases r:c= []
 · left
   refine ⟨r,?_⟩
   have a8:left= #[]:=by
    apply Array.ext'
    have:left.toList.length=0:=by rw[n,r];rfl
    simpa using this
   unfold Instr.next
   simp only[Sem.run_bind,O,Result.andThen_ok,G w hM,s,Bool.false_eq_true,if_false,Sem.run_pure,Sem.run_ite]
   simp only[show (es.filter fun e=>!b.contains e.born)=left from rfl,y,u,a8]
   simp[run_choose,Question.forced]
 right
 have f:0<left.size:=by
  have:0<c.length:=List.length_pos_iff.2 r
  have h:left.size=c.length:=by simpa using n
  omega
 have H:left.isEmpty=false:=by
  simp[Array.isEmpty_iff]
  intro h
  rw[h] at f
  simp at f
 let q:=Question.mapNext left.size
 let i:=if q.forced then 0 else q.cut (w.tape w.drawn q)
 have hi:i<left.size:=by
  show (if q.forced then 0 else q.cut (w.tape w.drawn q))<left.size
  split
  · exact f
  exact Nat.mod_lt _ f
 let wc:World:=if q.forced then w else w.drew
 have a5:(choose (.mapNext left.size)).run P w= .ok i wc:=by
  rw[run_choose]
  show (if q.forced then _ else _)=_
  by_cases hf:q.forced=true
  · simp only[hf,if_true]
    show _=Result.ok (if q.forced then 0 else _) (if q.forced then w else w.drew)
    simp[hf]
  have L:q.forced=false:=by simpa using hf
  simp only[L,Bool.false_eq_true,if_false]
  show _=Result.ok (if q.forced then 0 else _) (if q.forced then w else w.drew)
  simp[L,q]
 have X:Sat (raw M (.map es a)*(raw g (.mapIter (some M) a b a)*F)) wc:=by
  show Sat _ (if q.forced then w else w.drew)
  split
  · exact hs
  exact hs.drew
 let e:=left[i]
 have m:left.toList[i]?=some e:=by simp[e,hi]
 have ab:i<c.length:=by
  have h:left.size=c.length:=by simpa using n
  omega
 obtain ⟨⟨k,v⟩,V⟩: ∃p,c[i]?=some p:=⟨c[i],by simp[ab]⟩
 have j:(e.key,e.val)=(kf k,v):=by
  have h7:=congrArg (fun l=>l[i]?) h6
  rw[←d] at h7
  simp only[List.getElem?_map,m,V,Option.map_some,Option.some.injEq] at h7
  exact h7
 simp only[Prod.mk.injEq] at j
 have I:Sat (raw g (.mapIter (some M) a (b.push e.born) a)*(raw M (.map es a)*F)) { wc with heap:=wc.heap.setIfInBounds g (.mapIter (some M) a (b.push e.born) a) } :=
  (X.eq (BD _ _ _)).GZ _
 have T:=(X.eq (BD _ _ _)).obj
 refine ⟨i,k,v,.mapIter (some M) a (b.push e.born) a,_,V,?_,?_,I.eq (BD _ _ _),?_⟩
 · have J:(setObj g (.mapIter (some M) a (b.push e.born) a)).run P wc= .ok () { wc with heap:=wc.heap.setIfInBounds g (.mapIter (some M) a (b.push e.born) a) } :=by
    simp[setObj,Sem.run,T]
   have B:((if left.isEmpty=true then #[none] else #[])++(left++ #[]).map some:Array (Option MapEntry))=left.map some:=by simp[H]
   unfold Instr.next
   simp only[Sem.run_bind,O,Result.andThen_ok,G w hM,s,Bool.false_eq_true,if_false,Sem.run_pure,Sem.run_ite]
   simp only[show (es.filter fun e=>!b.contains e.born)=left from rfl,y,u,B,Array.size_map,a5,Result.andThen_ok]
   have Q:(left.map some)[i]?=some (some e):=by simp[hi,e]
   simp only[Q,Sem.run_bind,J,Result.andThen_ok,Sem.run_pure,j.1,j.2]
 · refine ⟨es,a,b.push e.born,rfl,rfl,h3,h4,h5,?_⟩
   have e1:(es.toList.filter fun x=>!(b.push e.born).contains x.born)=(es.toList.filter fun x=>!b.contains x.born).filter fun x=>x.born !=e.born:=by
    rw[List.filter_filter]
    congr 1
    funext x
    simp only[Array.contains_push,bne]
    cases b.contains x.born<;>cases (x.born==e.born)<;>rfl
   have aa:(((es.toList.filter fun x=>!b.contains x.born)).map (·.born)).Nodup:=h4.sublist (List.Sublist.map _ List.filter_sublist)
   rw[e1,filter_push aa (by rw[←d];exact m),map_eraseIdx,map_eraseIdx,h6]
 have a4:=(I.eq (BD _ _ _)).obj
 have U:=I.obj
 have W:e∈es.toList:=by
  have:=List.mem_of_getElem? m
  rw[d] at this
  exact (List.mem_filter.1 this).1
 have D : es.find? (fun x => x.born == e.born) = some e := by
  rw[←Array.find?_toList]
  have key: ∀l:List MapEntry,(l.map (·.born)).Nodup→e∈l→l.find? (fun x=>x.born==e.born)=some e:=by
   intro l
   induction l with
   |nil=>intro _ h;simp at h
   | cons x l ih =>
     intro hn hm
     simp only[List.map_cons,List.nodup_cons] at hn
     rcases List.mem_cons.1 hm with rfl|hm
     · simp
     have:(x.born==e.born)=false:=by
      simp only[beq_eq_false_iff_ne,ne_eq]
      intro h
      exact hn.1 (List.mem_map.2 ⟨e,hm,h.symm⟩)
     simp[this,ih hn.2 hm]
  exact key _ h4 W
 have R:(getObj g).run P { wc with heap:=wc.heap.setIfInBounds g (.mapIter (some M) a (b.push e.born) a) } = .ok (.mapIter (some M) a (b.push e.born) a) { wc with heap:=wc.heap.setIfInBounds g (.mapIter (some M) a (b.push e.born) a) } :=by
  simp only[getObj,Sem.run,U]
 unfold Instr.entry
 simp only[Sem.run_bind,R,Result.andThen_ok,G _ a4,Array.back?_push,Sem.run_pure]
 simp[D,j.1,j.2]
theorem JI{P:Program}{kf:κ→Value}{w:World}{M d:Nat}{o g:Obj}{ms b:List (κ×Value)}{F:Ab}(hs:Sat (raw M o*(raw d g*F)) w)(l:Iter kf M o g ms b):
 (b= []∧ ∀f,(Instr.next (.pointer (some ⟨d,0,none⟩)) false f).run P w= .ok (.tuple #[.bool false]) w)∨
 ∃(i:Nat)(k:κ)(v:Value)(a:Obj)(c:World),b[i]?=some (k,v)∧(∀f,(Instr.next (.pointer (some ⟨d,0,none⟩)) false f).run P w= .ok (.tuple #[.bool true,kf k,v]) c)∧
  Iter kf M o a ms (b.eraseIdx i)∧Sat (raw M o*(raw d a*F)) c∧(Instr.entry (.pointer (some ⟨d,0,none⟩))).run P c= .ok (.tuple #[kf k,v]) c:=by
 rcases Va (P:=P) hs l 0 with ⟨h1,e⟩|⟨i,k,v,a,c,h1,e,j⟩
 · exact .inl ⟨h1,fun _=>e⟩
 exact .inr ⟨i,k,v,a,c,h1,fun _=>e,j⟩
theorem F1{α:Type} : ∀(l:List α)(i:Nat)(x:α),l[i]?=some x→l.Perm (x::l.eraseIdx i)
 | [],i,x,h=>by simp at h
 |y::l,0,x,h=>by simp at h;subst h;exact .refl _
 |y::l,i+1,x,h=>by exact ((F1 l i x h).cons y).trans (.swap _ _ _)
end
end Go.Sl
namespace Go.Sl
open Go.RowKit
def ex{α:Type}(A:α→Ab):Ab:=fun h=> ∃x,A x h
def cZ(p:Prop):Ab:=fun h=>p∧emp h
theorem Sat.Oa{α:Type}{A:α→Ab}{F:Ab}{w:World}(hs:Sat (ex A*F) w): ∃x,Sat (A x*F) w:=by
 obtain ⟨_,⟨g,k,d,rfl,⟨x,hx⟩,hF⟩,H⟩:=hs
 exact ⟨x,_,⟨g,k,d,rfl,hx,hF⟩,H⟩
theorem Sat.Ob{α:Type}{A:α→Ab}(x:α){F:Ab}{w:World}(hs:Sat (A x*F) w):Sat (ex A*F) w:=by
 obtain ⟨_,⟨g,k,d,rfl,hx,hF⟩,H⟩:=hs
 exact ⟨_,⟨g,k,d,rfl,⟨x,hx⟩,hF⟩,H⟩
theorem Sat.Ib{p:Prop}{F:Ab}{w:World}(hs:Sat (cZ p*F) w):p∧Sat F w:=by
 obtain ⟨_,⟨g,k,d,rfl,⟨hp,a⟩,hF⟩,H⟩:=hs
 refine ⟨hp,?_⟩
 have e:=a
 subst e
 exact ⟨_,hF,H⟩
theorem Sat.LU{p:Prop}(hp:p){F:Ab}{w:World}(hs:Sat F w):Sat (cZ p*F) w:=by
 obtain ⟨h,hF,H⟩:=hs
 exact ⟨h,⟨fun _=>none,h,fun _ _ x=>absurd rfl x,rfl,⟨hp,rfl⟩,hF⟩,H⟩
theorem j8{α:Type}(A:α→Ab)(F:Ab):ex A*F=ex fun x=>A x*F:=by
 funext h
 apply propext
 constructor
 ·rintro ⟨g,k,d,rfl,⟨x,hx⟩,hF⟩;exact ⟨x,g,k,d,rfl,hx,hF⟩
 rintro ⟨x,g,k,d,rfl,hx,hF⟩;exact ⟨g,k,d,rfl,⟨x,hx⟩,hF⟩
def bv(x:UInt8):Value:= .int .u8 x.toNat
def A4(l:List UInt8):List Value:=l.map bv
theorem Cc(l:List UInt8):(A4 l).length=l.length:=by simp[A4]
theorem BL(a b:List UInt8):A4 (a++b)=A4 a++A4 b:=by simp[A4]
theorem RL(l:List UInt8): ∀u∈A4 l,u.oneCell'=true:=by
 intro u a
 obtain ⟨x,_,rfl⟩:=List.mem_map.1 a
 rfl
theorem VM{l:List UInt8}{i:Nat}{x:UInt8}(h:l[i]?=some x):(A4 l)[i]?=some (bv x):=by simp[A4,h]
theorem Oz(l:List UInt8)(n:Nat):A4 (l.take n)=(A4 l).take n:=by simp[A4,List.map_take]
theorem Oy(l:List UInt8)(n:Nat):A4 (l.drop n)=(A4 l).drop n:=by simp[A4,List.map_drop]
def NV(w:World)(v:Value)(l:List UInt8):Prop:=
 ∃a c,v= .slice a l.length c∧l.length≤c∧c≤maxLen∧ ∀i x,l[i]?=some x→ ∃b o,a=some ⟨b,o,none⟩∧w.cell? ⟨b,o+i,none⟩=some (bv x)
theorem NV.len{w:World}{v:Value}{l:List UInt8}(h:NV w v l): ∃a c,v= .slice a l.length c∧l.length≤c∧c≤maxLen:=by
 obtain ⟨a,c,h,h1,b,_⟩:=h
 grind
theorem NV.n{w:World}{a:Option Addr}{n c:Nat}{l:List UInt8}(h:NV w (.slice a n c) l):n=l.length∧n≤c∧c≤maxLen:=by
 obtain ⟨a',b,h,h1,d,_⟩:=h
 cases h
 omega
theorem NV.at{w:World}{a:Option Addr}{n c q:Nat}{l:List UInt8}{x:UInt8}(h:NV w (.slice a n c) l)(hq:l[q]?=some x): ∃b o,a=some ⟨b,o,none⟩∧w.cell? ⟨b,o+q,none⟩=some (.int .u8 x.toNat):=by
 obtain ⟨a',e,h1,_,_,d⟩:=h
 cases h1
 exact d q x hq
def Reads(B:Ab)(v:Value)(l:List UInt8):Prop:= ∀(F:Ab)(w:World),Sat (B*F) w→NV w v l
theorem Reads.Fq{d:World}{v:Value}{l:List UInt8}(h:NV d v l):Reads (Fq d) v l:=by
 intro F w hs
 obtain ⟨a,c,h1,e,f,g⟩:=h
 refine ⟨a,c,h1,e,f,fun i x hx=>?_⟩
 obtain ⟨b,o,j,k⟩:=g i x hx
 exact ⟨b,o,j,hs.Uw k⟩
theorem Reads.rw{e:Nat}{v:Value}{l:List UInt8} :Reads (rw e 1 v (A4 l)) v l:=by
 intro F w hs
 rcases hs.Cr with ⟨h1,a,b⟩|⟨g,n,cap,sp,h1,a,b,c,d,f⟩
 ·have:l= []:=by simpa[A4] using a
  subst this h1
  exact ⟨none,0,rfl,by simp,by simp,by simp⟩
 rw[Cc,Nat.mul_one] at a
 subst a h1
 refine ⟨_,cap,rfl,c,d,fun i x hx=>⟨g,0,rfl,?_⟩⟩
 have j:Sat (Sl.cells g 0 (A4 l++sp)*(Ev g e (A4 l++sp).length*F)) w:=f.eq (by unfold block;ac_rfl)
 refine j.DV i (bv x) ?_
 rw[List.getElem?_append_left (by rw[Cc];exact (List.getElem?_eq_some_iff.1 hx).1)]
 exact VM hx
theorem Reads.block{b e c:Nat}{l:List UInt8}{sp:List Value}(d:l.length≤c)(hm:c≤maxLen):Reads (block b e (A4 l++sp)) (.slice (some ⟨b,0,none⟩) l.length c) l:=by
 intro F w hs
 refine ⟨_,c,rfl,d,hm,fun i x hx=>⟨b,0,rfl,?_⟩⟩
 have a:Sat (Sl.cells b 0 (A4 l++sp)*(Ev b e (A4 l++sp).length*F)) w:=hs.eq (by unfold Sl.block;ac_rfl)
 refine a.DV i (bv x) ?_
 rw[List.getElem?_append_left (by rw[Cc];exact (List.getElem?_eq_some_iff.1 hx).1)]
 exact VM hx
theorem Reads.nil(B:Ab):Reads B (.slice none 0 0) []:=fun _ _ _=>⟨none,0,rfl,by simp,by simp,by simp⟩
theorem Reads.left{A B:Ab}{v:Value}{l:List UInt8}(h:Reads A v l):Reads (A*B) v l:=fun F w hs=>h (B*F) w (hs.eq (Az _ _ _))
theorem Reads.right{A B:Ab}{v:Value}{l:List UInt8}(h:Reads B v l):Reads (A*B) v l:=fun F w hs=>h (A*F) w (hs.eq (by ac_rfl))
def AH(a:Option Addr)(c lo s:Nat):Option Addr:=if c=lo then a else a.map (·.add (lo*s))
theorem fO{P:Program}{t e s bytes:Nat}{i:TypeInfo}{z:Value}(E:C8 P t e s bytes i z){a:Option Addr}{n c:Nat}(lo hi:Nat)(h1:lo≤hi)(d:hi≤c)(w:World):
 (Instr.slice t (.slice a n c) (some (.int .i64 lo)) (some (.int .i64 hi)) none).run P w= .ok (.slice (AH a c lo s) (hi-lo) (c-lo)) w:=by
 have b:(sizeOf e).run P w= .ok s w:=by simp[sizeOf,typeInfo,E.info,E.size]
 simp[Instr.slice,Instr.sliceBounds,underlying,E.NU,Instr.sliceBound,asIntOf,h1,d,b,AH]
theorem WW{P:Program}{t e s bytes:Nat}{i:TypeInfo}{z:Value}(E:C8 P t e s bytes i z){a:Option Addr}{n c:Nat}(hi:Nat)(d:hi≤c)(w:World):
 (Instr.slice t (.slice a n c) none (some (.int .i64 hi)) none).run P w= .ok (.slice (AH a c 0 s) hi c) w:=by
 have b:(sizeOf e).run P w= .ok s w:=by simp[sizeOf,typeInfo,E.info,E.size]
 simp[Instr.slice,Instr.sliceBounds,underlying,E.NU,Instr.sliceBound,asIntOf,d,b,AH]
theorem SF{P:Program}{t e s bytes:Nat}{i:TypeInfo}{z:Value}(E:C8 P t e s bytes i z){a:Option Addr}{n c:Nat}(lo:Nat)(h1:lo≤n)(w:World):
 (Instr.slice t (.slice a n c) (some (.int .i64 lo)) none none).run P w= .ok (.slice (AH a c lo s) (n-lo) (c-lo)) w:=by
 have b:(sizeOf e).run P w= .ok s w:=by simp[sizeOf,typeInfo,E.info,E.size]
 simp[Instr.slice,Instr.sliceBounds,underlying,E.NU,Instr.sliceBound,asIntOf,h1,b,AH]
theorem Q1{g c:Nat}{s:Nat}{o:Nat} :AH (some ⟨g,o,none⟩) c 0 s=some ⟨g,o,none⟩:=by simp[AH,Addr.add]
theorem Q0{c lo s:Nat} :AH none c lo s=none:=by simp[AH]
theorem NV.cut{w:World}{a:Option Addr}{n c:Nat}{l:List UInt8}(h:NV w (.slice a n c) l)(lo hi:Nat)(h1:lo≤hi)(j:hi≤n):NV w (.slice (AH a c lo 1) (hi-lo) (c-lo)) ((l.drop lo).take (hi-lo)):=by
 obtain ⟨rfl,k,hm⟩:=h.n
 have hl:((l.drop lo).take (hi-lo)).length=hi-lo:=by simp;omega
 refine ⟨AH a c lo 1,c-lo,by rw[hl],by rw[hl];omega,by omega,fun i x hx=>?_⟩
 have g:i<hi-lo:=by grind
 have e:l[lo+i]?=some x:=by grind
 obtain ⟨b,o,rfl,f⟩:=h.at e
 have d:c≠lo:=by omega
 refine ⟨b,o+lo,?_,?_⟩
 ·simp[AH,d,Addr.add]
 rw[Nat.add_assoc];exact f
theorem NV.src{P:Program}{w:World}{v:Value}{l:List UInt8}(h:NV w v l):Src P 1 w v l.length (A4 l):=by
 obtain ⟨a,c,rfl,h1,e,d⟩:=h
 cases hl:l with
 | nil => cases a with
  |none=>exact ⟨fun _=>rfl,fun _=>rfl,by simp[A4],by simp[A4]⟩
  | some x =>
   refine ⟨fun _=>rfl,fun n=>?_,by simp[A4],by simp[A4]⟩
   rfl
 | cons y l' =>
  rw[←hl]
  obtain ⟨b,o,rfl,_⟩:=d 0 y (by simp[hl])
  refine Src.slice (by simp[Cc]) (fun j u f=>?_) (RL l)
  grind [A4]
theorem UZ{P:Program}{t e bytes:Nat}{i:TypeInfo}{z:Value}(E:C8 P t e 1 bytes i z)(O Q:TypeId)
 {g n cap lo:Nat} {xs:List Value} {x:Value} {l:List UInt8} {F:Ab} {w:World} (hs:Sat (rw e 1 (.slice (some ⟨g,0,none⟩) n cap) xs*F) w) (hx:NV w x l) (K:lo+l.length≤n):
 ∃o,(Builtin.copy_ #[t,O] Q #[.slice (AH (some ⟨g,0,none⟩) cap lo 1) (n-lo) (cap-lo),x]).run P w= .ok (.int .i64 l.length) o∧Sat (rw e 1 (.slice (some ⟨g,0,none⟩) n cap) (xs.take lo++A4 l++xs.drop (lo+l.length))*F) o:=by
 have B:=hx.src (P:=P)
 have k:(Builtin.lenOf x).run P w= .ok l.length w:=by simpa[World.drewN] using B.len 0
 have j:(Builtin.firstCells 1 l.length x).run P w= .ok (A4 l).toArray w:=by simpa[World.drewN] using B.cells 0
 have d:(sizeOf e).run P w= .ok 1 w:=by simp[sizeOf,typeInfo,E.info,E.size]
 rcases hs.Cr with ⟨h1,_⟩|⟨R,n',u,sp,h1,v,y,H,I,J⟩
 · cases h1
 cases h1
 rw[Nat.mul_one] at v y
 have f:Nat.min l.length (n-lo)=l.length:=Nat.min_eq_left (by omega)
 by_cases hl:l= []
 · subst hl
   refine ⟨w,?_,?_⟩
   ·unfold Builtin.copy_
    have b:(Builtin.firstCells 1 0 x).run P w= .ok #[] w:=by simpa[A4] using j
    have c:(Builtin.lenOf x).run P w= .ok 0 w:=by simpa using k
    cases T:AH (some ⟨g,0,none⟩) cap lo 1 with
    |none=>simp[underlying,E.NU,d,c,b,goInt]
    |some q=>simp[underlying,E.NU,d,c,b,goInt,storeCells]
   simpa[A4] using hs
 have L:0<l.length:=by cases l with|nil=>exact absurd rfl hl|cons _ _=>simp
 have r:cap≠lo:=by omega
 have hcut:AH (some ⟨g,0,none⟩) cap lo 1=some ⟨g,lo,none⟩:=by simp[AH,r,Addr.add];omega
 have a:xs=xs.take lo++((xs.drop lo).take l.length++xs.drop (lo+l.length)):=by
  rw[←List.drop_drop,List.take_append_drop,List.take_append_drop]
 have s:Sat (Sl.cells g (lo+0) ((xs.drop lo).take l.length)*(Ev g e (xs++sp).length*(Sl.cells g 0 (xs.take lo)*(Sl.cells g (lo+l.length) (xs.drop (lo+l.length))*(Sl.cells g n sp*F))))) w:=by
  refine J.eq ?_
  rw[D3]
  conv=>lhs;rw[a]
  rw[Cl,Cl]
  have p:(xs.take lo).length=lo:=by simp;omega
  have m:((xs.drop lo).take l.length).length=l.length:=by simp;omega
  rw[←a,p,m,v]
  simp only[Nat.zero_add,Nat.add_zero]
  ac_rfl
 obtain ⟨o,r1,M⟩:=DR (P:=P) (A4 l) ((xs.drop lo).take l.length) 0 _ w s (by rw[Cc];simp;omega) (RL l)
 refine ⟨o,?_,?_⟩
 · rw[hcut]
   unfold Builtin.copy_
   simp[underlying,E.NU,d,k,f,j,r1,goInt]
 refine Sat.EA (sp:=sp) ?_ ?_ H I (M.eq ?_)
 · simp only[List.length_append,List.length_take,List.length_drop,Cc];omega
 · simp only[List.length_append,List.length_take,List.length_drop,Cc] at y⊢;omega
 rw[D3]
 have p:(xs.take lo++A4 l++xs.drop (lo+l.length)++sp).length=(xs++sp).length:=by simp only[List.length_append,List.length_take,List.length_drop,Cc];omega
 rw[p,Cl,Cl]
 have m:(xs.take lo).length=lo:=by simp;omega
 have D:(xs.take lo++A4 l).length=lo+l.length:=by rw[List.length_append,m,Cc]
 have G:(xs.take lo++A4 l++xs.drop (lo+l.length)).length=n:=by simp only[List.length_append,List.length_take,List.length_drop,Cc];omega
 rw[m,D,G]
 simp only[Nat.zero_add,Nat.add_zero]
 ac_rfl
theorem Sat.jJ{e s:Nat}{a:Option Addr}{n c:Nat}{xs:List Value}{F:Ab}{w:World}(hs:Sat (rw e s (.slice a n c) xs*F) w)(k:Nat)(l:k≤n):Sat (rw e s (.slice (AH a c 0 s) k c) (xs.take (k*s))*F) w:=by
 rcases hs.Cr with ⟨h1,d,f⟩|⟨g,n',b,sp,h1,d,f,o,i,j⟩
 ·cases h1
  subst d
  obtain rfl:k=0:=by omega
  rw[Q0]
  simpa using hs
 cases h1
 rw[Q1]
 have m:=Nat.mul_le_mul_right s l
 refine Sat.EA (sp:=xs.drop (k*s)++sp) (by simp;omega) (by simp only[List.length_append,List.length_take,List.length_drop] at f⊢;omega) (by omega) i ?_
 rw[←List.append_assoc,List.take_append_drop]
 exact j
theorem LY{P:Program}{t e bytes:Nat}{i:TypeInfo}{z:Value}(E:C8 P t e 1 bytes i z)(k m:TypeId)
 {a:Option Addr} {n cap lo:Nat} {xs:List Value} {x:Value} {l:List UInt8} {F:Ab} {w:World} (hs:Sat (rw e 1 (.slice a n cap) xs*F) w) (hx:NV w x l) (b:lo+l.length≤n):
 ∃o,(Builtin.copy_ #[t,k] m #[.slice (AH a cap lo 1) (n-lo) (cap-lo),x]).run P w= .ok (.int .i64 l.length) o∧Sat (rw e 1 (.slice a n cap) (xs.take lo++A4 l++xs.drop (lo+l.length))*F) o:=by
 rcases hs.Cr with ⟨h1,p,r⟩|⟨q,n',g,sp,h1,_⟩
 ·cases h1
  have hl:l= []:=by cases l with|nil=>rfl|cons _ _=>simp at b
  subst hl p
  have j:=hx.src (P:=P)
  have f:(Builtin.lenOf x).run P w= .ok 0 w:=by simpa[World.drewN] using j.len 0
  have d:(Builtin.firstCells 1 0 x).run P w= .ok #[] w:=by simpa[World.drewN,A4] using j.cells 0
  have c:(sizeOf e).run P w= .ok 1 w:=by simp[sizeOf,typeInfo,E.info,E.size]
  refine ⟨w,?_,by simpa[A4] using hs⟩
  simp[Q0,Builtin.copy_,underlying,E.NU,c,f,d,goInt]
 cases h1
 exact UZ E k m hs hx b
theorem Sat.WX{e s:Nat}{a:Option Addr}{n c i:Nat}{xs:List Value}{v:Value}{F:Ab}{w:World}(hs:Sat (rw e s (.slice a n c) xs*F) w)(hi:xs[i]?=some v): ∃g,a=some ⟨g,0,none⟩∧w.cell? ⟨g,i,none⟩=some v∧w.frozen? ⟨g,i,none⟩=false:=by
 rcases hs.Cr with ⟨h1,f,j⟩|⟨g,n',d,sp,h1,f,j,m,o,l⟩
 ·simp_all
 cases h1
 have b:=(List.getElem?_eq_some_iff.1 hi).1
 have:=l.VI (k:=i) (v:=v) (by rw[List.getElem?_append_left b];exact hi)
 simp_all
theorem Qh{α β:Type}{f:α→β}{b:List β}{l:List α}{i:Nat}{x:β}(hp:b.Perm (l.map f))(hi:b[i]?=some x): ∃a l2,l.Perm (a::l2)∧x=f a∧(b.eraseIdx i).Perm (l2.map f):=by
 have hx:=hp.mem_iff.1 (List.mem_of_getElem? hi)
 obtain ⟨a,ha,rfl⟩:=List.mem_map.1 hx
 obtain ⟨s,t,rfl⟩:=List.append_of_mem ha
 have h1:(s++a::t).Perm (a::(s++t)):=List.perm_middle
 refine ⟨a,s++t,h1,rfl,?_⟩
 have c:=(F1 b i (f a) hi).symm.trans (hp.trans (h1.map f))
 exact List.Perm.cons_inv c
end Go.Sl
namespace Go.Sl
theorem cM(a b:ByteArray):(a.toList==b.toList)=decide (a=b):=by
 rw[Bool.eq_iff_iff]
 simp only[beq_iff_eq,decide_eq_true_eq,ByteArray.toList_eq]
 constructor
 ·intro h
  cases a;cases b
  simp_all
 simp_all
theorem jQ{a b:ByteArray}(h:a=b):(a.toList==b.toList)=true:=by rw[cM];simpa using h
theorem jR{a b:ByteArray}(h:a≠b):(a.toList==b.toList)=false:=by rw[cM];simpa using h
theorem JJ{P:Program}{t e s bytes:Nat}{i:TypeInfo}{z:Value}(E:C8 P t e s bytes i z)(x:Value)(l h m:Option Value)(w:World):(Instr.sliceAt t x l h m).run P w=(Instr.slice t x l h m).run P w:=by simp[Instr.sliceAt,underlying,E.NU]
theorem E6{P:Program}{t e s bytes:Nat}{i:TypeInfo}{z:Value}(E:C8 P t e s bytes i z){a:Option Addr}{n c:Nat}(lo:Nat)(h1:lo≤n)(w:World):
 (Instr.sliceAt t (.slice a n c) (some (.int .i64 lo)) none none).run P w= .ok (.slice (AH a c lo s) (n-lo) (c-lo)) w:=(JJ E _ _ _ _ w).trans (SF E lo h1 w)
theorem Ln{P:Program}{t e s bytes:Nat}{i:TypeInfo}{z:Value}(E:C8 P t e s bytes i z){a:Option Addr}{n c:Nat}(hi:Nat)(h1:hi≤c)(w:World):
 (Instr.sliceAt t (.slice a n c) none (some (.int .i64 hi)) none).run P w= .ok (.slice (AH a c 0 s) hi c) w:=(JJ E _ _ _ _ w).trans (WW E hi h1 w)
theorem DL{P:Program}{t e s bytes:Nat}{i:TypeInfo}{z:Value}(E:C8 P t e s bytes i z){a:Option Addr}{n c:Nat}(lo hi:Nat)(h1:lo≤hi)(b:hi≤c)(w:World):
 (Instr.sliceAt t (.slice a n c) (some (.int .i64 lo)) (some (.int .i64 hi)) none).run P w= .ok (.slice (AH a c lo s) (hi-lo) (c-lo)) w:=(JJ E _ _ _ _ w).trans (fO E lo hi h1 b w)
end Go.Sl
namespace Go.Sl
open Go.RowKit
section
variable {κ:Type}
end
end Go.Sl
namespace Go.Sl
def lP(e:TypeId)(s:Nat)(v:Value)(xs:List Value):Ab:=fun h=>
 (v= .slice none 0 0∧xs= []∧emp h)∨
 ∃g a n cap sp,v= .slice (some ⟨g,List.length a,none⟩) n cap∧xs.length=n*s∧(xs++sp).length=cap*s∧n≤cap∧cap≤maxLen∧block g e (a++(xs++sp)) h
theorem Sat.Vc{e s:Nat}{v:Value}{xs:List Value}{F:Ab}{w:World}(hs:Sat (lP e s v xs*F) w):
 (v= .slice none 0 0∧xs= []∧Sat F w)∨
 ∃g a n cap sp,v= .slice (some ⟨g,List.length a,none⟩) n cap∧xs.length=n*s∧(xs++sp).length=cap*s∧n≤cap∧cap≤maxLen∧Sat (block g e (a++(xs++sp))*F) w:=by
 obtain ⟨_,⟨g,k,d,rfl,h|⟨f,a,n,cap,sp,h1,b,c,i,j,l⟩,hF⟩,H⟩:=hs
 ·obtain ⟨h1,b,c⟩:=h
  refine .inl ⟨h1,b,?_⟩
  rw[←Ay F]
  exact ⟨_,⟨g,k,d,rfl,c,hF⟩,H⟩
 exact .inr ⟨f,a,n,cap,sp,h1,b,c,i,j,_,⟨g,k,d,rfl,l,hF⟩,H⟩
theorem Reads.lP{e:Nat}{v:Value}{l:List UInt8} :Reads (lP e 1 v (A4 l)) v l:=by
 intro F w hs
 rcases hs.Vc with ⟨h1,b,d⟩|⟨g,a,n,cap,sp,h1,b,d,f,j,k⟩
 · have:l= []:=by simpa[A4] using b
   subst this h1
   exact ⟨none,0,rfl,by simp,by simp,by simp⟩
 rw[Cc,Nat.mul_one] at b
 subst b h1
 refine ⟨_,cap,rfl,f,j,fun i x hx=>⟨g,a.length,rfl,?_⟩⟩
 have m:Sat (Sl.cells g 0 (a++(A4 l++sp))*(Ev g e (a++(A4 l++sp)).length*F)) w:=k.eq (by unfold Sl.block;ac_rfl)
 have c:=(List.getElem?_eq_some_iff.1 hx).1
 have:=m.DV (a.length+i) (bv x) (by
  rw[List.getElem?_append_right (by omega),Nat.add_sub_cancel_left,List.getElem?_append_left (by rw[Cc];exact c)]
  exact VM hx)
 simp_all
end Go.Sl
namespace Go.Sl
class AR (A:outParam Ab) (w:World):Prop where
 out:Sat A w
class Mn (A:Ab) (b i:Nat) (v:outParam Value):Prop where
 out: ∀F w,Sat (A*F) w→w.cell? ⟨b,i,none⟩=some v
class ZT (w:World) (b i:Nat) (v:outParam Value):Prop where
 out:w.cell? ⟨b,i,none⟩=some v
instance(A:Ab)(b i:Nat)(v:Value)[h:El A b i v]:Mn A b i v:=⟨fun F w hs=>by obtain ⟨G,rfl⟩:=h.out;exact (hs.eq (Az _ _ _)).cell⟩
instance(w0:World)(b i:Nat)(v:Value)[h:ZT w0 b i v]:Mn (Fq w0) b i v:=⟨fun F w hs=>hs.Uw h.out⟩
instance(A B:Ab)(b i:Nat)(v:Value)[h:Mn A b i v]:Mn (A*B) b i v:=⟨fun F w hs=>h.out (B*F) w (hs.eq (Az _ _ _))⟩
instance(A B:Ab)(b i:Nat)(v:Value)[h:Mn B b i v]:Mn (A*B) b i v:=⟨fun F w hs=>h.out (A*F) w (hs.eq (by ac_rfl))⟩
theorem Ac(w:World)(b i:Nat){A:Ab}{v:Value}[h:AR A w][h2:Mn A b i v]:w.cell? ⟨b,i,none⟩=some v:=h2.out 1 w (by rw[Bg];exact h.out)
theorem I0(w:World)(b i:Nat){A:Ab}{v:Value}[h:AR A w][h2:El A b i v]:w.frozen? ⟨b,i,none⟩=false:=h.out.f b i
instance{A:Ab}{w:World}[h:AR A w]:AR A w.drew:=⟨h.out.drew⟩
instance{A:Ab}{w:World}(n:Nat)[h:AR A w]:AR A (w.drewN n):=⟨h.out.drewN n⟩
instance{A A':Ab}{w:World}{b i:Nat}{v':Value}[h:AR A w][h2:VD A b i v' A']:AR A' (w.setCell ⟨b,i,none⟩ v'):=⟨h.out.Kn b i v'⟩
instance{A:Ab}{w:World}{c:Array Value}{t:TypeId}[h:AR A w]:AR (Sl.block w.heap.size t c.toList*A) (w.alloc (.cells c t)):=⟨h.out.alloc c t⟩
instance(priority:=high) alloc_list {A:Ab} {w:World} {l:List Value} {t:TypeId} [h:AR A w]:AR (Sl.block w.heap.size t l*A) (w.alloc (.cells l.toArray t)):=⟨h.out.alloc l.toArray t⟩
class At (vs:List Value) (k:Nat) (v:outParam Value):Prop where
 out:vs[k]?=some v
instance lG(v:Value)(l:List Value):At (v::l) 0 v:=⟨rfl⟩
instance lF(u v:Value)(l:List Value)(k:Nat)[h:At l k v]:At (u::l) (k+1) v:=⟨by simpa using h.out⟩
theorem EU(b:Nat): ∀(vs:List Value)(i k:Nat)(v:Value),vs[k]?=some v→ ∃F,cells b i vs=Sl.cell b (i+k) v*F∧ ∀v',cells b i (vs.set k v')=Sl.cell b (i+k) v'*F
 | [],i,k,v,h=>by simp at h
 | u :: vs, i, 0, v, h => by
  simp at h;subst h
  exact ⟨cells b (i+1) vs,rfl,fun v'=>rfl⟩
 | u :: vs, i, k + 1, v, h => by
  obtain ⟨F,h1,a⟩:=EU b vs (i+1) k v h
  refine ⟨Sl.cell b i u*F,?_,fun v'=>?_⟩
  ·show Sl.cell b i u*cells b (i+1) vs=_
   grind
  show Sl.cell b i u*cells b (i+1) (vs.set k v')=_
  grind
instance(b t k:Nat)(vs:List Value)(v:Value)[h:At vs k v]:El (block b t vs) b k v:=by
 obtain ⟨F,h1,h2⟩:=EU b vs 0 k v h.out
 rw[Nat.zero_add] at h1
 exact ⟨Ev b t vs.length*F,by unfold block;rw[h1];ac_rfl⟩
instance(b t k:Nat)(vs:List Value)(v v':Value)[h:At vs k v]:VD (block b t vs) b k v' (block b t (vs.set k v')):=by
 obtain ⟨F,h1,h2⟩:=EU b vs 0 k v h.out
 rw[Nat.zero_add] at h1 h2
 exact ⟨v,Ev b t vs.length*F,by unfold block;rw[h1];ac_rfl,by unfold block;rw[h2,List.length_set];ac_rfl⟩
theorem Sat.i{A:Ab}{w:World}(h:Sat A w):AR A w:=⟨h⟩
theorem AR.take{A:Ab}{w:World}(h:AR A w)(X:Ab){R:Ab}[t:Take A X R]:Sat (X*R) w:=h.out.take X
theorem ES{A:Ab}{w:World}[h:AR A w]:Sat A w:=h.out
theorem Ae{A:Ab}{w:World}[h:AR A w](X:Ab){R:Ab}[t:Take A X R]:Sat (X*R) w:=h.out.take X
theorem Sat.NK{S:Ab}{w:World}(hs:Sat S w)(A B:Ab){R R':Ab}[h:Take S A R][h':Take R B R']:Sat (A*(B*R')) w:=hs.eq (by rw[h.out,h'.out])
theorem Sat.K6{S:Ab}{w:World}(hs:Sat S w)(A B C:Ab){R R' a:Ab}[h:Take S A R][h':Take R B R'][h'':Take R' C a]:Sat (A*(B*(C*a))) w:=hs.eq (by rw[h.out,h'.out,h''.out])
theorem Sat.drop{S:Ab}{w:World}(hs:Sat S w)(A:Ab){R:Ab}[h:Take S A R]:Sat R w:=(hs.take A).right
theorem Ax{A B C:Ab}{w:World}[h:AR A w](e:A=B*C):Sat B w:=Sat.Dx (B:=C) (h.out.eq e)
theorem Ap{A B:Ab}{w:World}[h:AR A w](e:A=B):Sat B w:=h.out.eq e
instance mP(e n c g o k:Nat)(xs:List Value)(v:Value)[h:At xs k v]:Mn (lP e 1 (.slice (some ⟨g,o,none⟩) n c) xs) g (o+k) v:=⟨fun F w hs=>by
 rcases hs.Vc with ⟨h1,_⟩|⟨g',pre,n',cap,sp,h1,h2,h3,h4,h5,h6⟩
 ·cases h1
 cases h1
 have hl:=(List.getElem?_eq_some_iff.1 h.out).1
 refine (h6.VI (k:=pre.length+k) (v:=v) ?_).1
 rw[List.getElem?_append_right (by omega),Nat.add_sub_cancel_left,List.getElem?_append_left hl]
 exact h.out⟩
instance nG(e n c g k:Nat)(xs:List Value)(v:Value)[h:At xs k v]:Mn (rw e 1 (.slice (some ⟨g,0,none⟩) n c) xs) g k v:=⟨fun F w hs=>by
 rcases hs.Cr with ⟨h1,_⟩|⟨g',n',cap,sp,h1,h2,h3,h4,h5,h6⟩
 ·cases h1
 cases h1
 have hl:=(List.getElem?_eq_some_iff.1 h.out).1
 refine (h6.VI (k:=k) (v:=v) ?_).1
 rw[List.getElem?_append_left hl]
 exact h.out⟩
theorem Reads.RJ{b e:Nat}{l:List UInt8}(hm:l.length≤maxLen):Reads (Sl.block b e (A4 l)) (.slice (some ⟨b,0,none⟩) l.length l.length) l:=by
 have h:=Reads.block (b:=b) (e:=e) (c:=l.length) (l:=l) (sp:= []) (Nat.le_refl _) hm
 simp_all
theorem LZ{A R:Ab}{w:World}{b e:Nat}[h:AR A w][t:Take A (Sl.block b e []) R]:Sat (rw e 1 (.slice (some ⟨b,0,none⟩) 0 0) []*R) w:=
 Sat.EA (sp:= []) rfl rfl (Nat.le_refl _) (by unfold maxLen;omega) (h.out.take (Sl.block b e []))
theorem Reads.NT{P:Program}{B:Ab}{v:Value}{l:List UInt8}(a:Reads B v l){n:Nat}(b:l.length=n){A R:Ab}{w:World}[h:AR A w][t:Take A B R]:Src P 1 w v n (A4 l):=by
 subst b
 exact (a _ _ (h.out.take B)).src
end Go.Sl
namespace Go.Sl
variable {κ:Type}
class DK (A:Ab) (M:Nat) (kf:κ→Value) (ms:outParam (List (κ×Value))):Prop where
 out: ∃F,A=mp kf M ms*F
class K8 (A:Ab) (M:Nat) (kf:κ→Value) (ms':List (κ×Value)) (A':outParam Ab):Prop where
 out: ∃ms F,A=mp kf M ms*F∧A'=mp kf M ms'*F
instance(M:Nat)(kf:κ→Value)(ms:List (κ×Value)):DK (mp kf M ms) M kf ms:=⟨1,(Bg _).symm⟩
instance(A B:Ab)(M:Nat)(kf:κ→Value)(ms:List (κ×Value))[h:DK A M kf ms]:DK (A*B) M kf ms:=let ⟨F,e⟩:=h.out;⟨F*B,by rw[e,Az]⟩
instance(A B:Ab)(M:Nat)(kf:κ→Value)(ms:List (κ×Value))[h:DK B M kf ms]:DK (A*B) M kf ms:=let ⟨F,e⟩:=h.out;⟨A*F,by rw[e,BD]⟩
instance(M:Nat)(kf:κ→Value)(ms ms':List (κ×Value)):K8 (mp kf M ms) M kf ms' (mp kf M ms'):=⟨ms,1,(Bg _).symm,(Bg _).symm⟩
instance(A B A':Ab)(M:Nat)(kf:κ→Value)(ms':List (κ×Value))[h:K8 A M kf ms' A']:K8 (A*B) M kf ms' (A'*B):=let ⟨v,F,e,e'⟩:=h.out;⟨v,F*B,by rw[e,Az],by rw[e',Az]⟩
instance(A B B':Ab)(M:Nat)(kf:κ→Value)(ms':List (κ×Value))[h:K8 B M kf ms' B']:K8 (A*B) M kf ms' (A*B'):=let ⟨v,F,e,e'⟩:=h.out;⟨v,A*F,by rw[e,BD],by rw[e',BD]⟩
class PU (P:Program) (t:TypeId) (κ:outParam Type) [DecidableEq κ] (kf:outParam (κ→Value)) (z:outParam Value):Prop where
 out: ∃kt e,MV P kt kf∧P.underlying t=some (.map kt e)∧ ∀w,(zeroValue e).run P w= .ok z w
def Result.world{α:Type} :Result α→World
 | .ok _ w=>w
 | .halt _ w=>w
def Gn(P:Program)(t:TypeId)(M:Nat)(k v:Value)(w:World):World:=Result.world ((Instr.mapUpdate t (.map (some M)) k v).run P w)
def Qb(P:Program)(t:TypeId)(M:Nat)(k:Value)(w:World):World:=Result.world ((Builtin.delete_ #[t,0] 0 #[.map (some M),k]).run P w)
section
variable {P:Program} {t:TypeId} [DecidableEq κ] {kf:κ→Value} {z:Value}
theorem OW(T:PU P t κ kf z)(w:World)(M:Nat)(k:κ){A:Ab}{ms:List (κ×Value)}[h:AR A w][h2:DK A M kf ms]:
 (Instr.lookup t (.map (some M)) (kf k) false).run P w= .ok ((Cq k ms).getD z) w:=by
 obtain ⟨kt,e,K,b,c⟩:=T.out
 obtain ⟨F,rfl⟩:=h2.out
 obtain ⟨o,a,hs⟩:=h.out.Cx
 simpa using DJ K b c hs.obj a k false
theorem Ub(T:PU P t κ kf z)(w:World)(M:Nat)(k:κ){A:Ab}{ms:List (κ×Value)}[h:AR A w][h2:DK A M kf ms]:
 (Instr.lookup t (.map (some M)) (kf k) true).run P w= .ok (.tuple #[(Cq k ms).getD z,.bool (Cq k ms).isSome]) w:=by
 obtain ⟨kt,e,K,b,c⟩:=T.out
 obtain ⟨F,rfl⟩:=h2.out
 obtain ⟨o,a,hs⟩:=h.out.Cx
 simpa using DJ K b c hs.obj a k true
theorem eP(T:PU P t κ kf z)(w:World)(M:Nat)(a:TypeId){A:Ab}{ms:List (κ×Value)}[h:AR A w][h2:DK A M kf ms]:
 (Builtin.len_ #[t] a #[.map (some M)]).run P w= .ok (.int .i64 ms.length) w:=by
 obtain ⟨kt,e,K,c,d⟩:=T.out
 obtain ⟨F,rfl⟩:=h2.out
 obtain ⟨o,b,hs⟩:=h.out.Cx
 exact KZ c hs.obj b a
theorem S2(T:PU P t κ kf z)(w:World)(M:Nat)(k:κ)(v:Value){A:Ab}{ms:List (κ×Value)}[h:AR A w][h2:DK A M kf ms]:
 (Instr.mapUpdate t (.map (some M)) (kf k) v).run P w= .ok () (Gn P t M (kf k) v w):=by
 obtain ⟨kt,e,K,c,d⟩:=T.out
 obtain ⟨F,rfl⟩:=h2.out
 obtain ⟨o,b,hs⟩:=h.out.Cx
 obtain ⟨o',_,a⟩:=CJ K c hs.obj b k v
 unfold Gn
 rw[a];rfl
theorem X7(T:PU P t κ kf z)(w:World)(M:Nat)(k:κ)(b f:TypeId){A:Ab}{ms:List (κ×Value)}[h:AR A w][h2:DK A M kf ms]:
 (Builtin.delete_ #[t,b] f #[.map (some M),kf k]).run P w= .ok (.tuple #[]) (Qb P t M (kf k) w):=by
 obtain ⟨kt,e,K,d,g⟩:=T.out
 obtain ⟨F,rfl⟩:=h2.out
 obtain ⟨o,c,hs⟩:=h.out.Cx
 obtain ⟨o',_,a⟩:=GY K d hs.obj c k
 unfold Qb
 rw[a,a];rfl
theorem S3(T:PU P t κ kf z){w:World}{M:Nat}{k:κ}{v:Value}{A A':Ab}{ms:List (κ×Value)}[h:AR A w][h2:DK A M kf ms][h3:K8 A M kf (CT k v ms) A']:AR A' (Gn P t M (kf k) v w):=by
 obtain ⟨kt,e,K,n,q⟩:=T.out
 obtain ⟨G,g⟩:=h2.out
 obtain ⟨f,F,i,rfl⟩:=h3.out
 have a:Sat (mp kf M ms*G) w:=h.out.eq g
 have b:Sat (mp kf M f*F) w:=h.out.eq i
 obtain ⟨o,l,a⟩:=a.Cx
 obtain ⟨p,m,b⟩:=b.Cx
 have j:p=o:=by have:=a.obj;rw[b.obj] at this;exact Option.some.inj this
 subst j
 obtain ⟨o',c,d⟩:=CJ K n a.obj l k v
 unfold Gn
 rw[d]
 exact ⟨Sat.Eo c (b.GZ o')⟩
theorem X8(T:PU P t κ kf z){w:World}{M:Nat}{k:κ}{A A':Ab}{ms:List (κ×Value)}[h:AR A w][h2:DK A M kf ms][h3:K8 A M kf (FL k ms) A']:AR A' (Qb P t M (kf k) w):=by
 obtain ⟨kt,e,K,n,q⟩:=T.out
 obtain ⟨G,g⟩:=h2.out
 obtain ⟨f,F,i,rfl⟩:=h3.out
 have a:Sat (mp kf M ms*G) w:=h.out.eq g
 have b:Sat (mp kf M f*F) w:=h.out.eq i
 obtain ⟨o,l,a⟩:=a.Cx
 obtain ⟨p,m,b⟩:=b.Cx
 have j:p=o:=by have:=a.obj;rw[b.obj] at this;exact Option.some.inj this
 subst j
 obtain ⟨o',c,d⟩:=GY K n a.obj l k
 unfold Qb
 rw[d]
 exact ⟨Sat.Eo c (b.GZ o')⟩
end
end Go.Sl
namespace Go
open Go.Sl
theorem Aq{α:Sort _}(a:α): ∃b,a=b:=⟨a,rfl⟩
theorem As{p:Prop}(h:p):Aside p:=h
theorem Dz{P:Program}{f:FuncId}{args:Array Value}{w:World}{r:Value}{A:Ab}{Q:Ending→World→Prop}(h:Calls P f args w fun e a=>e= .returned r∧Sat A a)
 (k: ∀a,Sat A a→AR A a→Q (.returned r) a):Calls P f args w Q:=h.mono fun _ a q=>q.1▸k a q.2 q.2.i
theorem Bb(n:Int)(h: -9223372036854775808≤n∧n≤9223372036854775807):IntKind.i64.wrap n=n:=by rw[IntKind.wrap_i64];omega
end Go
namespace Go.PS
open Go.Sl
def pt(a:Nat×Nat):Value:= .pointer (some ⟨a.1,a.2,none⟩)
def F6(u v:Nat×Nat):Ab:=Sl.cell u.1 (u.2+4) (pt v)*Sl.cell v.1 (v.2+3) (pt u)
def chain:List (Nat×Nat)→Ab
 |u::v::l=>F6 u v*chain (v::l)
 |_=>1
structure Nd where
 b:Nat
 key:Int
 pins:Int
 J1:Bool
abbrev A9:Int→Value:=fun n=>Value.int .i64 n
def item(a:TypeId)(n:Nd):Ab:=Ev n.b a 5*(Sl.cell n.b 0 (.int .i64 n.key)*(Sl.cell n.b 1 (.int .i64 n.pins)*Sl.cell n.b 2 (.bool n.J1)))
def items(a:TypeId):List Nd→Ab
 | []=>1
 |n::l=>item a n*items a l
def kv(n:Nd):Int×Value:=(n.key,.pointer (some ⟨n.b,0,none⟩))
def J9(M:Nat)(ns:List Nd):Ab:=fun h=> ∃ms,ms.Perm (ns.map kv)∧mp A9 M ms h
def ring(L:Nat)(ns:List Nd):List (Nat×Nat):=(L,1)::(ns.map (fun n=>(n.b,0))++ [(L,1)])
abbrev core(tl:TypeId)(L M:Nat)(cap:Int):Ab:=
 Ev L tl 7*(Sl.cell L 0 (.int .i64 cap)*(Sl.cell L 1 (.int .i64 0)*(Sl.cell L 2 (.int .i64 0)*(Sl.cell L 3 (.bool false)*Sl.cell L 6 (.map (some M))))))
def CP(b a:TypeId)(L M:Nat)(cap:Int)(ns:List Nd):Ab:=
 core b L M cap*(J9 M ns*(chain (ring L ns)*items a ns))
theorem aX{M:Nat}{ns c:List Nd}(h:ns.Perm c):J9 M ns=J9 M c:=by
 funext h'
 apply propext
 constructor
 ·rintro ⟨ms,a,b⟩;exact ⟨ms,a.trans (h.map kv),b⟩
 rintro ⟨ms,a,b⟩;exact ⟨ms,a.trans (h.map kv).symm,b⟩
theorem We{b:TypeId}{ns a:List Nd}(h:ns.Perm a):items b ns=items b a:=by induction h with
 |nil=>rfl
 |cons x _ d=>simp[items,d]
 |swap x y l=>simp only[items];rw[BD]
 |trans _ _ h1 c=>rw[h1,c]
theorem DA(a:TypeId)(l1 l2:List Nd):items a (l1++l2)=items a l1*items a l2:=by induction l1 with
 |nil=>simp[items,Ay]
 |cons n l b=>simp[items,b,Az]
theorem FI(l1:List (Nat×Nat))(u:Nat×Nat)(l2:List (Nat×Nat)):chain (l1++u::l2)=chain (l1++ [u])*chain (u::l2):=by induction l1 with
 |nil=>simp[chain,Ay]
 | cons v l a => cases l with
  |nil=>simp[chain,Bg]
  | cons x l =>
   simp only[List.cons_append] at a⊢
   simp[chain,Az,a]
def before(L:Nat)(l1:List Nd):Nat×Nat:=match l1.getLast? with
 |some n=>(n.b,0)
 |none=>(L,1)
def behind(L:Nat)(l2:List Nd):Nat×Nat:=match l2 with
 |n::_=>(n.b,0)
 | []=>(L,1)
theorem WS(L:Nat)(l1 l2:List Nd): ∃p q:List (Nat×Nat),(∀eT:List Nd,ring L (l1++eT++l2)=p++before L l1::(eT.map (fun n=>(n.b,0))++behind L l2::q)):=by
 have h1: ∃p,(L,1)::l1.map (fun n=>(n.b,0))=p++ [before L l1]:=by
  unfold before
  rcases List.eq_nil_or_concat l1 with rfl|⟨l,n,rfl⟩
  ·simp
  exact ⟨(L,1)::l.map (fun n=>(n.b,0)),by simp⟩
 have a: ∃q,l2.map (fun n=>(n.b,0))++ [(L,1)]=behind L l2::q:=by
  unfold behind
  cases l2 with
  |nil=>exact ⟨[],rfl⟩
  |cons n l=>exact ⟨l.map (fun n=>(n.b,0))++ [(L,1)],by simp⟩
 obtain ⟨p,hp⟩:=h1
 obtain ⟨q,hq⟩:=a
 refine ⟨p,q,fun eT=>?_⟩
 have:ring L (l1++eT++l2)=((L,1)::l1.map (fun n=>(n.b,0)))++(eT.map (fun n=>(n.b,0))++(l2.map (fun n=>(n.b,0))++ [(L,1)])):=by simp[ring]
 simp_all
theorem bP(L:Nat)(l1:List Nd)(n:Nd)(l2:List Nd): ∃R:Ab,
 chain (ring L (l1++n::l2))=F6 (before L l1) (n.b,0)*F6 (n.b,0) (behind L l2)*R∧
 chain (ring L (l1++l2))=F6 (before L l1) (behind L l2)*R:=by
 obtain ⟨p,q,h⟩:=WS L l1 l2
 refine ⟨chain (p++ [before L l1])*chain (behind L l2::q),?_,?_⟩
 ·have:=h [n]
  simp only[List.map_cons,List.map_nil,List.cons_append,List.nil_append,List.append_assoc] at this
  rw[this,FI]
  simp only[chain]
  ac_rfl
 have:=h []
 simp only[List.map_nil,List.nil_append,List.append_nil] at this
 rw[this,FI]
 simp only[chain]
 ac_rfl
theorem ML(L:Nat)(ns:List Nd): ∃R:Ab,chain (ring L ns)=F6 (before L ns) (L,1)*R∧
 ∀n:Nd,chain (ring L (ns++ [n]))=F6 (before L ns) (n.b,0)*F6 (n.b,0) (L,1)*R:=by
 have h1: ∃p,(L,1)::ns.map (fun n=>(n.b,0))=p++ [before L ns]:=by
  unfold before
  rcases List.eq_nil_or_concat ns with rfl|⟨l,n,rfl⟩
  · exact ⟨[],rfl⟩
  exact ⟨(L,1)::l.map (fun n=>(n.b,0)),by simp⟩
 obtain ⟨p,hp⟩:=h1
 refine ⟨chain (p++ [before L ns]),?_,?_⟩
 · have:ring L ns=p++before L ns:: [(L,1)]:=by
    have:ring L ns=((L,1)::ns.map (fun n=>(n.b,0)))++ [(L,1)]:=by simp[ring]
    rw[this,hp];simp
   rw[this,FI]
   simp only[chain,Bg]
   ac_rfl
 intro n
 have:ring L (ns++ [n])=p++before L ns:: [(n.b,0),(L,1)]:=by
  have:ring L (ns++ [n])=((L,1)::ns.map (fun n=>(n.b,0)))++ [(n.b,0),(L,1)]:=by simp[ring]
  rw[this,hp];simp
 rw[this,FI]
 simp only[chain,Bg]
 ac_rfl
theorem WR(L:Nat)(ns:List Nd): ∃R:Ab,chain (ring L ns)=F6 (L,1) (behind L ns)*R:=by cases ns with
 |nil=>exact ⟨1,by simp[ring,chain,behind]⟩
 |cons n l=>exact ⟨chain ((n.b,0)::(l.map (fun n=>(n.b,0))++ [(L,1)])),by simp[ring,chain,behind]⟩
theorem MA{κ:Type}[DecidableEq κ]{ms:List (κ×Value)} : ∀{ns:List (κ×Value)},ms.Perm ns→(ns.map (·.1)).Nodup→ ∀k,Cq k ms=Cq k ns:=by
 intro ns hp
 induction hp with
 |nil=>intro _ _;rfl
 |cons x _ d=>simp_all[List.map_cons,List.nodup_cons,Cq]
 |swap x y l=>grind [Cq]
 |trans h1 c a b=>grind
theorem Wq{k:Int}{l1:List Nd}{n:Nd}{l2:List Nd}(c:n.key=k)(a:((l1++n::l2).map (·.key)).Nodup):Cq k ((l1++n::l2).map kv)=some (.pointer (some ⟨n.b,0,none⟩)):=by induction l1 with
 |nil=>simp[Cq,kv,c]
 | cons m l d =>
  simp only[List.cons_append,List.map_cons,List.nodup_cons] at a
  simp only[List.cons_append,List.map_cons,Cq]
  rw[if_neg,d a.2]
  intro e
  apply a.1
  simp[kv,e,c]
theorem QT{k:Int}{ns:List Nd}(h: ∀n∈ns,n.key≠k):Cq k (ns.map kv)=none:=by induction ns with
 |nil=>rfl
 | cons m l b =>
  simp only[List.map_cons,Cq]
  rw[if_neg,b fun n a=>h n (List.mem_cons_of_mem _ a)]
  intro e
  exact h m (List.mem_cons_self) e.symm
theorem QV{ms:List (Int×Value)}{ns:List Nd}(hp:ms.Perm (ns.map kv))(a:(ns.map (·.key)).Nodup){n:Nd}(h: ∀m∈ns,m.key≠n.key):(CT n.key (.pointer (some ⟨n.b,0,none⟩)) ms).Perm ((ns++ [n]).map kv):=by
 have c:((ns.map kv).map (·.1)).Nodup:=by simpa[List.map_map,Function.comp_def,kv] using a
 rw[LG (by rw[MA hp c];exact QT h)]
 simp only[List.map_append,List.map_cons,List.map_nil]
 exact hp.append_right _
theorem Ze{κ:Type}[DecidableEq κ]{ms ns:List (κ×Value)}(hp:ms.Perm ns):(ns.map (·.1)).Nodup→ ∀k,(FL k ms).Perm (FL k ns):=by induction hp with
 |nil=>intro _ _;exact .nil
 | cons x h f =>
  intro a k
  simp only[FL]
  split
  ·omega
  simp_all
 | swap x y l =>
  intro a k
  simp only[FL]
  split<;>split
  ·simp_all
  ·rfl
  ·rfl
  exact .swap _ _ _
 | trans h1 e c d =>
  intro a k
  have b:=(e.map (·.1)).nodup_iff.2 a
  exact (c b k).trans (d a k)
theorem Wp{k:Int}{l1:List Nd}{n:Nd}{l2:List Nd}(b:n.key=k)(a:((l1++n::l2).map (·.key)).Nodup):FL k ((l1++n::l2).map kv)=(l1++l2).map kv:=by induction l1 with
 |nil=>simp[FL,kv,b]
 | cons m l c =>
  simp only[List.cons_append,List.map_cons,List.nodup_cons] at a
  simp only[List.cons_append,List.map_cons,FL]
  rw[if_neg,c a.2]
  intro e
  apply a.1
  simp[kv,e,b]
theorem Sat.Gm{M:Nat}{ns:List Nd}{F:Ab}{w:World}(hs:Sat (J9 M ns*F) w): ∃ms o,ms.Perm (ns.map kv)∧F4 A9 o ms∧Sat (raw M o*F) w:=by
 obtain ⟨_,⟨g,k,d,rfl,⟨ms,hp,hr⟩,hF⟩,H⟩:=hs
 obtain ⟨o,h1,a⟩:=Sat.Cx (kf:=A9) (b:=M) (ms:=ms) (F:=F) ⟨_,⟨g,k,d,rfl,hr,hF⟩,H⟩
 grind
theorem Sat.JA{M:Nat}{ns:List Nd}{F:Ab}{w:World}{ms:List (Int×Value)}{o:Obj}(hp:ms.Perm (ns.map kv))(a:F4 A9 o ms)(hs:Sat (raw M o*F) w):Sat (J9 M ns*F) w:=by
 obtain ⟨_,⟨g,k,d,rfl,hr,hF⟩,H⟩:=Sat.Eo a hs
 exact ⟨_,⟨g,k,d,rfl,⟨ms,hp,hr⟩,hF⟩,H⟩
theorem KI{ns:List Nd}(a:(ns.map (·.key)).Nodup):((ns.map kv).map (·.1)).Nodup:=by simpa[List.map_map,Function.comp_def,kv] using a
theorem Iw(ns:List Nd)(k:Int):(∃l1 n l2,ns=l1++n::l2∧n.key=k)∨(∀n∈ns,n.key≠k):=by
 by_cases h: ∃n∈ns,n.key=k
 ·obtain ⟨n,a,b⟩:=h
  obtain ⟨l1,l2,e⟩:=List.append_of_mem a
  grind
 simp_all
