/- treeFails holds for every input. No condition. (part 1) -/
import Derived.WalkKit
import Derived.Deep.Quiet
import Derived.Deep.LoopGhost
import Derived.Deep.Slices
set_option linter.all false
namespace Go.Sl
inductive Key where
 |raw (b:Nat)
 |cell (b i:Nat)
 |Dl (b:Nat)
 |env
 deriving DecidableEq
inductive DR where
 |obj (o:Obj)
 |val (v:Value)
 |YV (t:TypeId) (n:Nat)
 |io (os:Os) (tape:Nat→Question→Nat) (out:Array (Nat×ByteArray))
abbrev Hp:=Key→Option DR
def Key.Ew:Key→Option Nat
 | .raw b=>some b
 | .cell b _=>some b
 | .Dl b=>some b
 | .env=>none
def Key.Zk:Key→Prop
 | .raw _=>True
 |_=>False
def Ov(k a:Key):Prop:=k=a∨((k.Zk∨a.Zk)∧k.Ew=a.Ew)
theorem Ov.symm{k a:Key}(h:Ov k a):Ov a k:=by
 rcases h with h|⟨h,e⟩
 ·exact .inl h.symm
 exact .inr ⟨h.symm,e.symm⟩
def Has(w:World):Key→DR→Prop
 | .raw b,.obj o=>w.heap[b]?=some o
 | .cell b i,.val v=> ∃c t,w.heap[b]?=some (.cells c t (0,0))∧c[i]?=some v
 | .Dl b,.YV t n=> ∃c,w.heap[b]?=some (.cells c t (0,0))∧c.size=n
 | .env,.io os a out=>w.os=os∧w.tape=a∧w.output=out
 |_,_=>False
def Hp.Wu(g h:Hp):Prop:= ∀k a,g k≠none→h a≠none→ ¬Ov k a
def Hp.un(g h:Hp):Hp:=fun k=>match g k with
 |some r=>some r
 |none=>h k
def Ac:=Hp→Prop
def sep(A B:Ac):Ac:=fun h=> ∃g k:Hp,g.Wu k∧h=g.un k∧A g∧B k
instance:Mul Ac:=⟨sep⟩
def emp:Ac:=fun h=>h=fun _=>none
instance:One Ac:=⟨emp⟩
theorem Hp.Wu.symm{g h:Hp}(d:g.Wu h):h.Wu g:=fun k e a b c=>d e k b a c.symm
theorem Hp.M5{g h:Hp}(d:g.Wu h):g.un h=h.un g:=by
 funext k
 unfold Hp.un
 cases b:g k with
 |none=>cases a:h k<;>rfl
 | some r =>
  cases a:h k with
  |none=>rfl
  |some c=>exact absurd (Or.inl rfl) (d k k (by simp[b]) (by simp[a]))
theorem Hp.Sg(f g h:Hp):(f.un g).un h=f.un (g.un h):=by
 funext k
 unfold Hp.un
 cases a:f k<;>rfl
theorem Hp.Ij{g h:Hp}{k:Key} :(g.un h) k≠none↔g k≠none∨h k≠none:=by
 unfold Hp.un
 cases a:g k<;>simp
theorem Hp.Wv{f g h:Hp} :(f.un g).Wu h↔f.Wu h∧g.Wu h:=by
 constructor
 ·exact fun d=>⟨fun k c a b=>d k c (Hp.Ij.2 (.inl a)) b,fun k c a b=>d k c (Hp.Ij.2 (.inr a)) b⟩
 rintro ⟨e,i⟩ k c a b
 rcases Hp.Ij.1 a with a|a
 ·exact e k c a b
 exact i k c a b
theorem Hp.Uc{f g h:Hp} :f.Wu (g.un h)↔f.Wu g∧f.Wu h:=by
 constructor
 ·exact fun d=>⟨fun k c a b=>d k c a (Hp.Ij.2 (.inl b)),fun k c a b=>d k c a (Hp.Ij.2 (.inr b))⟩
 rintro ⟨e,i⟩ k c a b
 rcases Hp.Ij.1 b with b|b
 ·exact e k c a b
 exact i k c a b
theorem Fu(A B:Ac):A*B=B*A:=by
 funext h
 apply propext
 constructor
 ·rintro ⟨g,k,d,rfl,a,b⟩;exact ⟨k,g,d.symm,Hp.M5 d,b,a⟩
 rintro ⟨g,k,d,rfl,a,b⟩;exact ⟨k,g,d.symm,Hp.M5 d,b,a⟩
theorem Ar(A B C:Ac):A*B*C=A*(B*C):=by
 funext h
 apply propext
 constructor
 ·rintro ⟨g,k,d,rfl,⟨l,i,d',rfl,a,b⟩,c⟩
  obtain ⟨e,f⟩:=Hp.Wv.1 d
  exact ⟨l,i.un k,Hp.Uc.2 ⟨d',e⟩,Hp.Sg _ _ _,a,i,k,f,rfl,b,c⟩
 rintro ⟨g,k,d,rfl,a,⟨j,m,d',rfl,b,c⟩⟩
 obtain ⟨e,f⟩:=Hp.Uc.1 d
 exact ⟨g.un j,m,Hp.Wv.2 ⟨f,d'⟩,(Hp.Sg _ _ _).symm,⟨g,j,e,rfl,a,b⟩,c⟩
instance:Std.Associative (α:=Ac) (· * ·):=⟨Ar⟩
instance:Std.Commutative (α:=Ac) (· * ·):=⟨Fu⟩
theorem Am(A:Ac):1*A=A:=by
 funext h
 apply propext
 constructor
 ·rintro ⟨g,k,d,rfl,a,b⟩
  have e:g=fun _=>none:=a
  subst e
  exact b
 intro a
 exact ⟨fun _=>none,h,fun _ _ x=>absurd rfl x,rfl,rfl,a⟩
theorem Bd(A:Ac):A*1=A:=by rw[Fu,Am]
theorem B7(A B C:Ac):A*(B*C)=B*(A*C):=by ac_rfl
def Sat(A:Ac)(w:World):Prop:= ∃h:Hp,A h∧ ∀k r,h k=some r→Has w k r
theorem Sat.eq{A B:Ac}{w:World}(h:Sat A w)(e:A=B):Sat B w:=e▸h
theorem Sat.CR{A B:Ac}{w:World}(h:Sat (A*B) w):Sat A w:=by
 obtain ⟨_,⟨g,k,d,rfl,a,b⟩,H⟩:=h
 exact ⟨g,a,fun c r e=>H c r (by simp[Hp.un,e])⟩
theorem Sat.right{A B:Ac}{w:World}(h:Sat (A*B) w):Sat B w:=by
 rw[Fu] at h;exact h.CR
theorem Sat.update{A B F:Ac}{w o:World}(hs:Sat (A*F) w)
 (H: ∀g:Hp,A g→(∀k r,g k=some r→Has w k r)→ ∃f:Hp,B f∧(∀k r,f k=some r→Has o k r)∧
   (∀k r,Has w k r→(∀c,g c≠none→ ¬Ov c k)→Has o k r∧ ∀c,f c≠none→ ¬Ov c k)):Sat (B*F) o:=by
 obtain ⟨_,⟨g,k,d,rfl,a,b⟩,s⟩:=hs
 obtain ⟨f,b',x,q⟩:=H g a (fun c r e=>s c r (by simp[Hp.un,e]))
 have u: ∀c r,k c=some r→Has w c r:=by
  intro c r e
  refine s c r ?_
  have:(g.un k)=k.un g:=Hp.M5 d
  rw[this];simp[Hp.un,e]
 refine ⟨f.un k,⟨f,k,?_,rfl,b',b⟩,?_⟩
 · intro i m v p
   obtain ⟨r,hr⟩:=Option.ne_none_iff_exists'.1 p
   exact (q m r (u m r hr) (fun n j=>d n m j p)).2 i v
 intro i r e
 unfold Hp.un at e
 cases l:f i with
 |some y=>rw[l] at e;cases e;exact x _ _ l
 |none=>rw[l] at e;exact (q i r (u i r e) (fun n j=>d n i j (by simp[e]))).1
theorem Sat.same{A:Ac}{w b:World}(hs:Sat A w)(c:b.heap=w.heap)(d:b.os=w.os)(f:b.tape=w.tape)(hp:b.output=w.output):Sat A b:=by
 obtain ⟨h,a,H⟩:=hs
 refine ⟨h,a,fun k r e=>?_⟩
 have:=H k r e
 cases k<;>cases r<;>simp only[Has,c,d,f,hp] at this⊢ <;>exact this
theorem Sat.drew{A:Ac}{w:World}(hs:Sat A w):Sat A w.drew:=hs.same rfl rfl rfl rfl
theorem Sat.drewN{A:Ac}{w:World}(n:Nat)(hs:Sat A w):Sat A (w.drewN n):=hs.same rfl rfl rfl rfl
def one(k:Key)(r:DR):Hp:=fun a=>if a=k then some r else none
theorem JV{k a:Key}{r:DR} :one k r a≠none↔a=k:=by
 unfold one;split<;>simp_all
theorem I9{k a:Key}{r b:DR}(h:one k r a=some b):a=k∧b=r:=by
 unfold one at h;split at h<;>simp_all
theorem Dy(k:Key)(r:DR):one k r k=some r:=by simp[one]
def cell(b i:Nat)(v:Value):Ac:=fun h=>h=one (.cell b i) (.val v)
def Dl(b:Nat)(t:TypeId)(n:Nat):Ac:=fun h=>h=one (.Dl b) (.YV t n)
def raw(b:Nat)(o:Obj):Ac:=fun h=>h=one (.raw b) (.obj o)
def env(w:World):Ac:=fun h=>h=one .env (.io w.os w.tape w.output)
def atom(k:Key)(r:DR):Ac:=fun h=>h=one k r
theorem Sat.has{k:Key}{r:DR}{F:Ac}{w:World}(hs:Sat (atom k r*F) w):Has w k r:=by
 obtain ⟨_,⟨g,_,_,rfl,rfl,_⟩,H⟩:=hs
 exact H k r (by simp[Hp.un,Dy])
theorem Sat.Ew{b i:Nat}{v:Value}{F:Ac}{w:World}(hs:Sat (cell b i v*F) w): ∃c t,w.heap[b]?=some (.cells c t (0,0))∧c[i]?=some v:=
 Sat.has (k:= .cell b i) (r:= .val v) hs
theorem Sat.YV{b n:Nat}{t:TypeId}{F:Ac}{w:World}(hs:Sat (Dl b t n*F) w): ∃c,w.heap[b]?=some (.cells c t (0,0))∧c.size=n:=
 Sat.has (k:= .Dl b) (r:= .YV t n) hs
theorem Sat.obj{b:Nat}{o:Obj}{F:Ac}{w:World}(hs:Sat (raw b o*F) w):w.heap[b]?=some o:=
 Sat.has (k:= .raw b) (r:= .obj o) hs
theorem Sat.io{e:World}{F:Ac}{w:World}(hs:Sat (env e*F) w):w.os=e.os∧w.tape=e.tape∧w.output=e.output:=
 Sat.has (k:= .env) (r:= .io e.os e.tape e.output) hs
theorem Sat.cell{b i:Nat}{v:Value}{F:Ac}{w:World}(hs:Sat (cell b i v*F) w):w.cell? ⟨b,i,none⟩=some v:=by
 obtain ⟨c,t,a,d⟩:=hs.Ew
 simp[World.cell?,a,d]
theorem Sat.free{b i:Nat}{v:Value}{F:Ac}{w:World}(hs:Sat (Sl.cell b i v*F) w)(j:Nat):w.frozen? ⟨b,j,none⟩=false:=by
 obtain ⟨c,t,a,d⟩:=hs.Ew
 simp[World.frozen?,a]
theorem Sat.lt{b i:Nat}{v:Value}{F:Ac}{w:World}(hs:Sat (Sl.cell b i v*F) w):b<w.heap.size:=by
 obtain ⟨c,t,a,d⟩:=hs.Ew
 rcases Nat.lt_or_ge b w.heap.size with h|h
 ·exact h
 simp[Array.getElem?_eq_none h] at a
theorem Eh{w:World}{b:Nat}{o:Obj}(h:w.heap[b]?=some o):b<w.heap.size:=by
 rcases Nat.lt_or_ge b w.heap.size with a|a
 ·exact a
 simp[Array.getElem?_eq_none a] at h
theorem Has.lt{w:World}{k:Key}{r:DR}{b:Nat}(h:Has w k r)(hb:k.Ew=some b):b<w.heap.size:=by
 cases k<;>cases r<;>simp only[Has,Key.Ew,Option.some.injEq,reduceCtorEq] at h hb
 ·subst hb;exact Eh h
 ·obtain ⟨c,t,h,_⟩:=h;subst hb;exact Eh h
 obtain ⟨c,h,_⟩:=h;subst hb;exact Eh h
theorem Sat.setCell{b i:Nat}{v:Value}{F:Ac}{w:World}(hs:Sat (Sl.cell b i v*F) w)(v':Value):Sat (Sl.cell b i v'*F) (w.setCell ⟨b,i,none⟩ v'):=by
 refine hs.update fun g u H=>?_
 subst u
 obtain ⟨c,t,o,q⟩: ∃c t,w.heap[b]?=some (.cells c t (0,0))∧c[i]?=some v:=H (.cell b i) (.val v) (Dy _ _)
 have hi:i<c.size:=by
  rcases Nat.lt_or_ge i c.size with h|h
  · exact h
  simp[Array.getElem?_eq_none h] at q
 have hb:(w.setCell ⟨b,i,none⟩ v').heap[b]?=some (.cells (c.setIfInBounds i v') t (0,0)):=by
  simp[World.setCell,Array.getElem?_modify,o]
 have p: ∀b',b'≠b→(w.setCell ⟨b,i,none⟩ v').heap[b']?=w.heap[b']?:=by
  intro b' d
  simp only[World.setCell,Array.getElem?_modify]
  rw[if_neg (fun e=>d e.symm)]
 refine ⟨one (.cell b i) (.val v'),rfl,?_,?_⟩
 · intro k r e
   obtain ⟨rfl,rfl⟩:=I9 e
   exact ⟨_,_,hb,by simp[hi]⟩
 intro k r f s
 have l:=s (.cell b i) (by simp[Dy])
 refine ⟨?_,fun B e=>by rw[JV] at e;subst e;exact l⟩
 cases k with
 | raw b' =>
   have d:b'≠b:=fun e=>l (.inr ⟨.inr trivial,by simp[Key.Ew,e]⟩)
   cases r<;>simp only[Has] at f⊢
   rw[p _ d];exact f
 | cell b' x =>
   cases r<;>simp only[Has] at f⊢
   obtain ⟨n,y,j,m⟩:=f
   by_cases a:b'=b
   · subst a
     rw[o] at j;cases j
     have d:i≠x:=fun e=>l (.inl (by rw[e]))
     exact ⟨_,_,hb,by rw[Array.getElem?_setIfInBounds];simp[d,m]⟩
   exact ⟨n,y,by rw[p _ a];exact j,m⟩
 | Dl b' =>
   cases r<;>simp only[Has] at f⊢
   obtain ⟨n,j,m⟩:=f
   by_cases a:b'=b
   · subst a
     rw[o] at j;cases j
     exact ⟨_,hb,by simp[m]⟩
   exact ⟨n,by rw[p _ a];exact j,m⟩
 | env =>
   cases r<;>simp only[Has] at f⊢
   exact f
theorem Sat.Gy{b:Nat}{o:Obj}{F:Ac}{w:World}(hs:Sat (raw b o*F) w)(o':Obj):Sat (raw b o'*F) { w with heap:=w.heap.setIfInBounds b o' } :=by
 refine hs.update fun g l H=>?_
 subst l
 have i:w.heap[b]?=some o:=H (.raw b) (.obj o) (Dy _ _)
 have f:=Eh i
 have m: ∀b',b'≠b→(w.heap.setIfInBounds b o')[b']?=w.heap[b']?:=by
  intro b' a
  rw[Array.getElem?_setIfInBounds_ne (fun e=>a e.symm)]
 refine ⟨one (.raw b) (.obj o'),rfl,?_,?_⟩
 · intro k r e
   obtain ⟨rfl,rfl⟩:=I9 e
   simp[Has,f]
 intro k r d j
 have c:=j (.raw b) (by simp[Dy])
 refine ⟨?_,fun n e=>by rw[JV] at e;subst e;exact c⟩
 have a: ∀b',k.Ew=some b'→b'≠b:=fun b' e e'=>c (.inr ⟨.inl trivial,by rw[e,e'];rfl⟩)
 cases k<;>cases r<;>simp only[Has,Key.Ew,Option.some.injEq,forall_eq'] at d a⊢ <;>first|(rw[m _ a];exact d)|exact d
def cells(b:Nat):Nat→List Value→Ac
 |_,[]=>1
 |i,v::vs=>Sl.cell b i v*cells b (i+1) vs
def block(b:Nat)(t:TypeId)(vs:List Value):Ac:=Dl b t vs.length*cells b 0 vs
theorem Sat.CH{F:Ac}{w:World}(hs:Sat F w)(o:Obj):Sat (raw w.heap.size o*F) (w.alloc o):=by
 rw[←Am F] at hs
 refine hs.update fun g d _=>?_
 refine ⟨one (.raw w.heap.size) (.obj o),rfl,?_,?_⟩
 · intro k r e
   obtain ⟨rfl,rfl⟩:=I9 e
   show (w.heap.push o)[w.heap.size]?=some o
   simp
 intro k r a _
 have c: ∀b',b'<w.heap.size→(w.alloc o).heap[b']?=w.heap[b']?:=by
  intro b' h;show (w.heap.push o)[b']?=_;rw[Array.getElem?_push,if_neg (by omega)]
 refine ⟨?_,?_⟩
 · have hl:=fun b'=>Has.lt a (b:=b')
   cases k<;>cases r<;>simp only[Has,Key.Ew,Option.some.injEq,forall_eq'] at a hl⊢ <;>first|(rw[c _ hl];exact a)|exact a
 intro f e
 rw[JV] at e;subst e
 rintro (rfl|⟨_,e⟩)
 · exact absurd (Has.lt a (b:=w.heap.size) rfl) (by omega)
 exact absurd (Has.lt a (b:=w.heap.size) e.symm) (by omega)
theorem Wk(b i:Nat)(vs:List Value): ∃h:Hp,cells b i vs h∧(∀k,h k≠none→ ∃j,j<vs.length∧k= .cell b (i+j))∧(∀j v,vs[j]?=some v→h (.cell b (i+j))=some (.val v)):=by
 induction vs generalizing i with
 |nil=>exact ⟨fun _=>none,rfl,fun k h=>absurd rfl h,fun j v h=>by simp at h⟩
 | cons v vs n =>
  obtain ⟨h,f,d,g⟩:=n (i+1)
  refine ⟨(one (.cell b i) (.val v)).un h,⟨_,_,?_,rfl,rfl,f⟩,?_,?_⟩
  ·intro k o e e' a
   rw[JV] at e;subst e
   obtain ⟨j,c,rfl⟩:=d _ e'
   rcases a with a|⟨a|a,_⟩
   · simp only[Key.cell.injEq,true_and] at a;omega
   · exact a
   exact a
  ·intro k e
   rcases Hp.Ij.1 e with e|e
   · rw[JV] at e;exact ⟨0,by simp,by simpa using e⟩
   obtain ⟨j,c,rfl⟩:=d _ e
   exact ⟨j+1,by simp;omega,by congr 1;omega⟩
  intro j u c
  cases j with
  |zero=>simp only[List.getElem?_cons_zero,Option.some.injEq] at c;subst c;simp[Hp.un,Dy]
  | succ j =>
   simp only[List.getElem?_cons_succ] at c
   have:=g j u c
   have e:i+1+j=i+(j+1):=by omega
   rw[e] at this
   have m:one (.cell b i) (.val v) (.cell b (i+(j+1)))=none:=by
    cases l:one (.cell b i) (.val v) (.cell b (i+(j+1))) with
    |none=>rfl
    |some r=>have:=(I9 l).1;simp only[Key.cell.injEq,true_and] at this;omega
   simp[Hp.un,m,this]
theorem Qx(b:Nat)(t:TypeId)(vs:List Value): ∃h:Hp,block b t vs h∧(∀k,h k≠none→k= .Dl b∨ ∃j,j<vs.length∧k= .cell b j)∧(h (.Dl b)=some (.YV t vs.length))∧(∀j v,vs[j]?=some v→h (.cell b j)=some (.val v)):=by
 obtain ⟨h,i,c,f⟩:=Wk b 0 vs
 simp only[Nat.zero_add] at c f
 have hx:h (.Dl b)=none:=by
  cases d:h (.Dl b) with
  |none=>rfl
  |some r=>obtain ⟨j,_,e⟩:=c (.Dl b) (by simp[d]);cases e
 refine ⟨(one (.Dl b) (.YV t vs.length)).un h,⟨_,_,?_,rfl,rfl,i⟩,?_,?_,?_⟩
 · intro k m e e' a
   rw[JV] at e;subst e
   obtain ⟨j,g,rfl⟩:=c _ e'
   rcases a with a|⟨a|a,_⟩
   ·cases a
   ·exact a
   exact a
 · intro k e
   rcases Hp.Ij.1 e with e|e
   ·rw[JV] at e;exact .inl e
   exact .inr (c _ e)
 · simp[Hp.un,Dy]
 intro j v g
 have l:one (.Dl b) (.YV t vs.length) (.cell b j)=none:=by
  cases d:one (.Dl b) (.YV t vs.length) (.cell b j) with
  |none=>rfl
  |some r=>have:=(I9 d).1;cases this
 simp[Hp.un,l,f j v g]
theorem Sat.Xm{b:Nat}{t:TypeId}{c:Array Value}{F:Ac}{w:World}(hs:Sat (raw b (.cells c t (0,0))*F) w):Sat (block b t c.toList*F) w:=by
 refine hs.update fun g q H=>?_
 subst q
 have i:w.heap[b]?=some (.cells c t (0,0)):=H (.raw b) (.obj _) (Dy _ _)
 obtain ⟨h,m,f,n,o⟩:=Qx b t c.toList
 refine ⟨h,m,?_,?_⟩
 ·intro k r e
  rcases f k (by simp[e]) with rfl|⟨j,l,rfl⟩
  ·rw[n] at e;cases e
   exact ⟨c,i,by simp⟩
  rw[o j (c.toList[j]) (by simp)] at e;cases e
  exact ⟨c,t,i,by simp at l⊢⟩
 intro k r s p
 have d:=p (.raw b) (by simp[Dy])
 refine ⟨s,fun u e=>?_⟩
 rintro a
 apply d
 rcases f u e with rfl|⟨j,l,rfl⟩
 ·rcases a with rfl|⟨_,e⟩
  ·exact .inr ⟨.inl trivial,rfl⟩
  exact .inr ⟨.inl trivial,e⟩
 rcases a with rfl|⟨_,e⟩
 ·exact .inr ⟨.inl trivial,rfl⟩
 exact .inr ⟨.inl trivial,e⟩
theorem Sat.alloc{F:Ac}{w:World}(hs:Sat F w)(c:Array Value)(t:TypeId):Sat (Sl.block w.heap.size t c.toList*F) (w.alloc (.cells c t)):=
 (hs.CH (.cells c t)).Xm
theorem Sat.DC{b i:Nat}{vs:List Value}{F:Ac}{w:World}(hs:Sat (cells b i vs*F) w): ∀j v,vs[j]?=some v→w.cell? ⟨b,i+j,none⟩=some v:=by
 induction vs generalizing i F with
 |nil=>intro j v h;simp at h
 | cons u vs c =>
  intro j v h
  have a:Sat (Sl.cell b i u*cells b (i+1) vs*F) w:=hs
  cases j with
  |zero=>simp only[List.getElem?_cons_zero,Option.some.injEq] at h;subst h;rw[Ar] at a;exact a.cell
  | succ j =>
   simp only[List.getElem?_cons_succ] at h
   have:=c (F:=Sl.cell b i u*F) (a.eq (by ac_rfl)) j v h
   rw[←this];congr 2;omega
theorem Sat.Ee{b:Nat}{t:TypeId}{vs:List Value}{F:Ac}{w:World}(hs:Sat (Sl.block b t vs*F) w):w.heap[b]?=some (.cells vs.toArray t (0,0)):=by
 have d:Sat (Dl b t vs.length*(cells b 0 vs*F)) w:=hs.eq (Ar _ _ _)
 obtain ⟨c,e,f⟩:=d.YV
 have g:=(d.eq (B7 _ _ _)).DC
 rw[e]
 congr 2
 apply Array.ext
 ·simp[f]
 intro j i a
 have:=g j vs[j] (by simp at a;simp[a])
 simp only[Nat.zero_add,World.cell?,e] at this
 simp at this
 rw[Array.getElem?_eq_getElem i] at this
 simpa using this
theorem BV(b i:Nat)(xs ys:List Value):cells b i (xs++ys)=cells b i xs*cells b (i+xs.length) ys:=by
 induction xs generalizing i with
 |nil=>simp[cells,Am]
 | cons x xs a =>
  simp only[List.cons_append,cells,a,List.length_cons,Ar]
  congr 3
  omega
end Go.Sl
namespace Go.Sl
class DA (A:Ac) (b i:Nat) (v:outParam Value):Prop where
 out: ∃F,A=Sl.cell b i v*F
class UA (A:Ac) (b:Nat) (o:outParam Obj):Prop where
 out: ∃F,A=raw b o*F
class VW (A:Ac) (b:Nat) (t:outParam TypeId) (n:outParam Nat):Prop where
 out: ∃F,A=Dl b t n*F
class UC (A:Ac) (b i:Nat) (v':Value) (A':outParam Ac):Prop where
 out: ∃v F,A=Sl.cell b i v*F∧A'=Sl.cell b i v'*F
class Wd (A:Ac) (b:Nat) (o':Obj) (A':outParam Ac):Prop where
 out: ∃o F,A=raw b o*F∧A'=raw b o'*F
class Take (S A:Ac) (R:outParam Ac):Prop where
 out:S=A*R
instance(b i:Nat)(v:Value):DA (Sl.cell b i v) b i v:=⟨1,(Bd _).symm⟩
instance(A B:Ac)(b i:Nat)(v:Value)[h:DA A b i v]:DA (A*B) b i v:=let ⟨F,e⟩:=h.out;⟨F*B,by rw[e,Ar]⟩
instance(A B:Ac)(b i:Nat)(v:Value)[h:DA B b i v]:DA (A*B) b i v:=let ⟨F,e⟩:=h.out;⟨A*F,by rw[e,B7]⟩
instance(b:Nat)(o:Obj):UA (raw b o) b o:=⟨1,(Bd _).symm⟩
instance(A B:Ac)(b:Nat)(o:Obj)[h:UA A b o]:UA (A*B) b o:=let ⟨F,e⟩:=h.out;⟨F*B,by rw[e,Ar]⟩
instance(A B:Ac)(b:Nat)(o:Obj)[h:UA B b o]:UA (A*B) b o:=let ⟨F,e⟩:=h.out;⟨A*F,by rw[e,B7]⟩
instance(b n:Nat)(t:TypeId):VW (Dl b t n) b t n:=⟨1,(Bd _).symm⟩
instance(A B:Ac)(b n:Nat)(t:TypeId)[h:VW A b t n]:VW (A*B) b t n:=let ⟨F,e⟩:=h.out;⟨F*B,by rw[e,Ar]⟩
instance(A B:Ac)(b n:Nat)(t:TypeId)[h:VW B b t n]:VW (A*B) b t n:=let ⟨F,e⟩:=h.out;⟨A*F,by rw[e,B7]⟩
instance(b i:Nat)(v v':Value):UC (Sl.cell b i v) b i v' (Sl.cell b i v'):=⟨v,1,(Bd _).symm,(Bd _).symm⟩
instance(A B A':Ac)(b i:Nat)(v':Value)[h:UC A b i v' A']:UC (A*B) b i v' (A'*B):=let ⟨v,F,e,e'⟩:=h.out;⟨v,F*B,by rw[e,Ar],by rw[e',Ar]⟩
instance(A B B':Ac)(b i:Nat)(v':Value)[h:UC B b i v' B']:UC (A*B) b i v' (A*B'):=let ⟨v,F,e,e'⟩:=h.out;⟨v,A*F,by rw[e,B7],by rw[e',B7]⟩
instance(b:Nat)(o o':Obj):Wd (raw b o) b o' (raw b o'):=⟨o,1,(Bd _).symm,(Bd _).symm⟩
instance(A B A':Ac)(b:Nat)(o':Obj)[h:Wd A b o' A']:Wd (A*B) b o' (A'*B):=let ⟨v,F,e,e'⟩:=h.out;⟨v,F*B,by rw[e,Ar],by rw[e',Ar]⟩
instance(A B B':Ac)(b:Nat)(o':Obj)[h:Wd B b o' B']:Wd (A*B) b o' (A*B'):=let ⟨v,F,e,e'⟩:=h.out;⟨v,A*F,by rw[e,B7],by rw[e',B7]⟩
instance(A:Ac):Take A A 1:=⟨(Bd _).symm⟩
instance(A B X R:Ac)[h:Take A X R]:Take (A*B) X (R*B):=⟨by rw[h.out,Ar]⟩
instance(A B X R:Ac)[h:Take B X R]:Take (A*B) X (A*R):=⟨by rw[h.out,B7]⟩
instance(priority:=high)(A B:Ac):Take (A*B) A B:=⟨rfl⟩
instance(priority:=high)(A B:Ac):Take (A*B) B A:=⟨Fu _ _⟩
theorem Sat.take{S:Ac}{w:World}(hs:Sat S w)(A:Ac){R:Ac}[h:Take S A R]:Sat (A*R) w:=hs.eq h.out
theorem Sat.c{A:Ac}{w:World}(hs:Sat A w)(b i:Nat){v:Value}[h:DA A b i v]:w.cell? ⟨b,i,none⟩=some v:=by
 obtain ⟨F,rfl⟩:=h.out;exact hs.cell
theorem Sat.f{A:Ac}{w:World}(hs:Sat A w)(b i:Nat){v:Value}[h:DA A b i v]:w.frozen? ⟨b,i,none⟩=false:=by
 obtain ⟨F,rfl⟩:=h.out;exact hs.free i
theorem Sat.r{A:Ac}{w:World}(hs:Sat A w)(b:Nat){o:Obj}[h:UA A b o]:w.heap[b]?=some o:=by
 obtain ⟨F,rfl⟩:=h.out;exact hs.obj
theorem Sat.Et{A A':Ac}{w:World}(hs:Sat A w)(b i:Nat)(v':Value)[h:UC A b i v' A']:Sat A' (w.setCell ⟨b,i,none⟩ v'):=by
 obtain ⟨v,F,rfl,rfl⟩:=h.out;exact hs.setCell v'
end Go.Sl
namespace Go.Sl
section
variable {κ:Type}
def Dx[DecidableEq κ](k:κ):List (κ×Value)→Option Value
 | []=>none
 |p::l=>if k=p.1 then some p.2 else Dx k l
def Er[DecidableEq κ](k:κ)(v:Value):List (κ×Value)→List (κ×Value)
 | []=> [(k,v)]
 |p::l=>if k=p.1 then (k,v)::l else p::Er k v l
def EU[DecidableEq κ](k:κ):List (κ×Value)→List (κ×Value)
 | []=> []
 |p::l=>if k=p.1 then l else p::EU k l
structure Kl [DecidableEq κ] (P:Program) (kt:TypeId) (kf:κ→Value):Prop where
 NV: ∃kd,P.underlying kt=some kd∧ ∀a b,Instr.sameNow kd (kf a) (kf b)=some (decide (a=b))
 Kt: ∀e n a w,(Instr.checkKey e (n+1) kt (kf a)).run P w= .ok () w
 bits: ∀n a,Instr.sameBits n (kf a) (kf a)=true
def Fi(kf:κ→Value)(o:Obj)(ms:List (κ×Value)):Prop:=
 ∃es a,o= .map es a∧(es.toList.map fun e=>(e.key,e.val))=ms.map (fun p=>(kf p.1,p.2))∧(es.toList.map (·.born)).Nodup∧ ∀e∈es.toList,e.born<a
def mp(kf:κ→Value)(b:Nat)(ms:List (κ×Value)):Ac:=fun h=> ∃o,Fi kf o ms∧raw b o h
theorem Sat.Ct{kf:κ→Value}{b:Nat}{ms:List (κ×Value)}{F:Ac}{w:World}(hs:Sat (mp kf b ms*F) w): ∃o,Fi kf o ms∧Sat (raw b o*F) w:=by
 obtain ⟨_,⟨g,k,d,rfl,⟨o,a,hr⟩,hF⟩,H⟩:=hs
 exact ⟨o,a,_,⟨g,k,d,rfl,hr,hF⟩,H⟩
theorem Sat.Dn{kf:κ→Value}{b:Nat}{ms:List (κ×Value)}{F:Ac}{w:World}{o:Obj}(a:Fi kf o ms)(hs:Sat (raw b o*F) w):Sat (mp kf b ms*F) w:=by
 obtain ⟨_,⟨g,k,d,rfl,hr,hF⟩,H⟩:=hs
 exact ⟨_,⟨g,k,d,rfl,⟨o,a,hr⟩,hF⟩,H⟩
theorem FL[DecidableEq κ]{kf:κ→Value}{kd:TypeDesc}(c: ∀a b,Instr.sameNow kd (kf a) (kf b)=some (decide (a=b)))(k:κ):
 ∀(ms : List (κ × Value))(es : List MapEntry)(i : Nat), (es.map fun e => (e.key, e.val)) = ms.map (fun p => (kf p.1, p.2)) →
  ∃r,Instr.findNow kd (kf k) es i=some r∧r.map (·.2)=Dx k ms∧
   (∀j v,r=some (j,v)→i≤j∧ ∃e,es[j-i]?=some e∧e.key=kf k∧e.val=v∧
    (∀v' e',e'.key=kf k→e'.val=v'→((es.set (j-i) e').map fun e=>(e.key,e.val))=(Er k v' ms).map (fun p=>(kf p.1,p.2)))∧
    ((es.eraseIdx (j-i)).map fun e=>(e.key,e.val))=(EU k ms).map (fun p=>(kf p.1,p.2)))∧
   (r=none→EU k ms=ms)
 | [],es,i,h=>by
  have:es= []:=by simpa using h
  subst this
  exact ⟨none,rfl,rfl,(fun _ _ e=>by cases e),fun _=>rfl⟩
 |p::ms,[],i,h=>by simp at h
 | p :: ms, e :: es, i, h => by
   simp only[List.map_cons,List.cons.injEq,Prod.mk.injEq] at h
   obtain ⟨⟨g,m⟩,n⟩:=h
   simp only[Instr.findNow,g,c]
   by_cases d:k=p.1
   ·subst d
    simp only[decide_true]
    refine ⟨_,rfl,by simp[Dx,m],?_,fun e=>by cases e⟩
    intro j v f
    cases f
    refine ⟨Nat.le_refl _,e,by simp,g,rfl,?_,?_⟩
    ·intro v' e' q l
     simp[Er,q,l,n]
    simp[EU,n]
   simp only[d,decide_false]
   obtain ⟨r,r1,B,D,G⟩:=FL c k ms es (i+1) n
   refine ⟨r,r1,by simp[Dx,d,B],?_,?_⟩
   ·intro j v f
    obtain ⟨q,e0,l,s,u,w,x⟩:=D j v f
    have o:j-i=(j-(i+1))+1:=by omega
    refine ⟨by omega,e0,by rw[o];simpa using l,s,u,?_,?_⟩
    ·intro v' e' y b2
     rw[o]
     simp[Er,d,w v' e' y b2,g,m]
    rw[o]
    simp[EU,d,x,g,m]
   intro f
   simp[EU,d,G f]
theorem Nl[DecidableEq κ]{k:κ}{v:Value}{ms:List (κ×Value)}(h:Dx k ms=none):Er k v ms=ms++ [(k,v)]:=by
 induction ms with
 |nil=>rfl
 | cons p ms b =>
  unfold Dx at h
  split at h
  ·cases h
  rename_i a;simp[Er,a,b h]
variable {P:Program} {kt:TypeId} {kf:κ→Value}
theorem D1[DecidableEq κ](K:Kl P kt kf){t e:TypeId}{z:Value}(n:P.underlying t=some (.map kt e))(p: ∀w,(zeroValue e).run P w= .ok z w){w:World}{b:Nat}{o:Obj}{ms:List (κ×Value)}
 (hb:w.heap[b]?=some o) (m:Fi kf o ms) (k:κ) (ok:Bool):
 (Instr.lookup t (.map (some b)) (kf k) ok).run P w= .ok (if ok then .tuple #[(Dx k ms).getD z,.bool (Dx k ms).isSome] else (Dx k ms).getD z) w:=by
 obtain ⟨es,a,rfl,f,_,_⟩:=m
 obtain ⟨kd,l,c⟩:=K.NV
 obtain ⟨r,r1,d,_⟩:=FL c k ms es.toList 0 f
 have i:(getObj b).run P w= .ok (.map es a) w:=by simp[getObj,Sem.run,hb]
 have g:=K.Kt es.isEmpty 9999 k w
 unfold Instr.lookup
 simp only[Sem.run_bind,underlying,run_program,Result.andThen_ok,n,Sem.run_pure,i,g,Instr.findKey,l,r1]
 cases r with
 | none =>
  simp only[Option.map_none] at d
  simp only[Sem.run_bind,p,Result.andThen_ok,Sem.run_pure,←d]
  cases ok<;>rfl
 | some q =>
  obtain ⟨j,v⟩:=q
  simp only[Option.map_some] at d
  simp only[←d]
  cases ok<;>rfl
theorem Kc{t e:TypeId}(g:P.underlying t=some (.map kt e)){w:World}{b:Nat}{o:Obj}{ms:List (κ×Value)}
 (hb:w.heap[b]?=some o) (f:Fi kf o ms) (i:TypeId):
 (Builtin.len_ #[t] i #[.map (some b)]).run P w= .ok (.int .i64 ms.length) w:=by
 obtain ⟨es,a,rfl,c,_,_⟩:=f
 have d:(getObj b).run P w= .ok (.map es a) w:=by simp[getObj,Sem.run,hb]
 have hl:es.size=ms.length:=by have:=congrArg List.length c;simpa using this
 simp[Builtin.len_,underlying,g,d,goInt,hl]
theorem Vu{l:List MapEntry}{i:Nat}{e e':MapEntry}(h:l[i]?=some e)(hb:e'.born=e.born):(l.set i e').map (·.born)=l.map (·.born):=by
 induction l generalizing i with
 |nil=>simp
 | cons x l a =>
  cases i with
  |zero=>simp at h;subst h;simp[hb]
  |succ i=>simp at h;simp[a h]
theorem Ch[DecidableEq κ](K:Kl P kt kf){t e:TypeId}(J:P.underlying t=some (.map kt e)){w:World}{b:Nat}{o:Obj}{ms:List (κ×Value)}
 (hb:w.heap[b]?=some o) (T:Fi kf o ms) (k:κ) (v:Value):
 ∃o',Fi kf o' (Er k v ms)∧(Instr.mapUpdate t (.map (some b)) (kf k) v).run P w= .ok () { w with heap:=w.heap.setIfInBounds b o' } :=by
 obtain ⟨es,d,rfl,B,D,n⟩:=T
 obtain ⟨kd,I,l⟩:=K.NV
 obtain ⟨r,r1,U,V,X⟩:=FL l k ms es.toList 0 B
 have H:(getObj b).run P w= .ok (.map es d) w:=by simp[getObj,Sem.run,hb]
 have i: ∀o':Obj,(setObj b o').run P w= .ok () { w with heap:=w.heap.setIfInBounds b o' } :=by intro o';simp[setObj,Sem.run,hb]
 have G:=K.Kt false 9999 k w
 cases r with
 | none =>
  have R:Dx k ms=none:=by simpa using U.symm
  refine ⟨.map (es.push { key:=kf k,val:=v,born:=d }) (d+1),⟨_,_,rfl,?_,?_,?_⟩,?_⟩
  · rw[Nl R];simp[B]
  · simp only[Array.toList_push,List.map_append,List.map_cons,List.map_nil]
    rw[List.nodup_append]
    refine ⟨D,by simp,?_⟩
    intro a ha c p
    simp only[List.mem_singleton] at p
    obtain ⟨x,hx,rfl⟩:=List.mem_map.1 ha
    have:=n x hx
    omega
  · intro x hx
    simp only[Array.toList_push,List.mem_append,List.mem_singleton] at hx
    rcases hx with hx|rfl
    ·have:=n x hx;omega
    exact Nat.lt_succ_self _
  unfold Instr.mapUpdate
  simp only[Sem.run_bind,underlying,run_program,Result.andThen_ok,J,Sem.run_pure,H,G,Instr.findKey,I,r1,i]
 | some q =>
  obtain ⟨j,u⟩:=q
  obtain ⟨_,e0,g,L,W,y,M⟩:=V j u rfl
  simp only[Nat.sub_zero] at g y M
  have m:((es[j]?).map (·.key)).getD (kf k)=kf k:=by
   have:es[j]?=some e0:=by simpa using g
   simp[this,L]
  have f:(es.modify j fun e=> { e with key:=kf k,val:=v }).toList=es.toList.set j { e0 with key:=kf k,val:=v } :=by
   have O:j<es.toList.length:=by
    rcases Nat.lt_or_ge j es.toList.length with h|h
    ·exact h
    simp only[List.getElem?_eq_none h] at g;cases g
   have Q:es.toList[j]=e0:=by simpa[List.getElem?_eq_getElem O] using g
   rw[Array.toList_modify,List.modify_eq_set,g]
   rfl
  refine ⟨.map (es.modify j fun e=> { e with key:=kf k,val:=v }) d,⟨_,_,rfl,?_,?_,?_⟩,?_⟩
  · rw[f];exact y v _ rfl rfl
  · rw[f,Vu (e:=e0) (e':= { e0 with key:=kf k,val:=v }) g rfl];exact D
  · intro x hx
    rw[f] at hx
    rcases List.mem_or_eq_of_mem_set hx with hx|rfl
    ·exact n x hx
    exact n e0 (List.mem_of_getElem? g)
  have s:(Instr.keyThatStays (kf k) (kf k)).run P w= .ok (kf k) w:=by simp[Instr.keyThatStays,K.bits]
  unfold Instr.mapUpdate
  simp only[Sem.run_bind,underlying,run_program,Result.andThen_ok,J,Sem.run_pure,H,G,Instr.findKey,I,r1,m,s,i]
theorem map_eraseIdx{α β:Type}(f:α→β): ∀(l:List α)(i:Nat),(l.eraseIdx i).map f=(l.map f).eraseIdx i
 | [],_=>rfl
 |_::_,0=>rfl
 |x::l,i+1=>by simp[map_eraseIdx f l i]
theorem I7{l:List Nat}(h:l.Nodup)(i:Nat):(l.eraseIdx i).Nodup:=h.sublist (List.eraseIdx_sublist l i)
theorem Gx[DecidableEq κ](K:Kl P kt kf){t e:TypeId}(D:P.underlying t=some (.map kt e)){w:World}{b:Nat}{o:Obj}{ms:List (κ×Value)}
 (hb:w.heap[b]?=some o) (I:Fi kf o ms) (k:κ):
 ∃o',Fi kf o' (EU k ms)∧ ∀g l,(Builtin.delete_ #[t,g] l #[.map (some b),kf k]).run P w= .ok (.tuple #[]) { w with heap:=w.heap.setIfInBounds b o' } :=by
 obtain ⟨es,a,rfl,n,p,s⟩:=I
 obtain ⟨kd,B,f⟩:=K.NV
 obtain ⟨r,r1,Q,J,L⟩:=FL f k ms es.toList 0 n
 have y:(getObj b).run P w= .ok (.map es a) w:=by simp[getObj,Sem.run,hb]
 have d: ∀o':Obj,(setObj b o').run P w= .ok () { w with heap:=w.heap.setIfInBounds b o' } :=by intro o';simp[setObj,Sem.run,hb]
 have v:=K.Kt es.isEmpty 9999 k w
 cases r with
 | none =>
  refine ⟨.map es a,⟨_,_,rfl,by rw[L rfl];exact n,p,s⟩,?_⟩
  intro g l
  unfold Builtin.delete_
  simp only[Sem.run_bind,underlying,run_program,Result.andThen_ok,D,Sem.run_pure,y,v,Instr.findKey,B,r1,d,List.getElem?_toArray,List.getElem?_cons_zero,List.getElem?_cons_succ]
 | some q =>
  obtain ⟨j,u⟩:=q
  obtain ⟨_,e0,i,M,O,G,m⟩:=J j u rfl
  simp only[Nat.sub_zero] at i G m
  have H:j<es.size:=by
   rcases Nat.lt_or_ge j es.size with h|h
   · exact h
   rw[List.getElem?_eq_none (by simpa using h)] at i;cases i
  have c:(es.eraseIdxIfInBounds j).toList=es.toList.eraseIdx j:=by simp[Array.eraseIdxIfInBounds,H]
  refine ⟨.map (es.eraseIdxIfInBounds j) a,⟨_,_,rfl,?_,?_,?_⟩,?_⟩
  · rw[c];exact m
  · rw[c]
    have:(es.toList.eraseIdx j).map (·.born)=(es.toList.map (·.born)).eraseIdx j:=map_eraseIdx _ _ _
    rw[this];exact I7 p j
  · intro x hx
    rw[c] at hx
    exact s x (List.mem_of_mem_eraseIdx hx)
  intro g l
  unfold Builtin.delete_
  simp only[Sem.run_bind,underlying,run_program,Result.andThen_ok,D,Sem.run_pure,y,v,Instr.findKey,B,r1,d,List.getElem?_toArray,List.getElem?_cons_zero,List.getElem?_cons_succ]
end
theorem UX{P:Program}{kt:TypeId}{q:IntKind}(h:P.underlying kt=some (.int q)):Kl P kt (fun n:Int=>Value.int q n) where
 NV:=⟨_,h,fun a b=>by
  simp only[Instr.sameNow,if_true]
  congr 1⟩
 Kt:=fun e n a w=>by simp[Instr.checkKey,underlying,h]
 bits:=fun n a=>by cases n<;>simp[Instr.sameBits]
theorem bytes_beq(a b:ByteArray):(a==b)=decide (a=b):=by
 rw[Bool.eq_iff_iff]
 rcases a with ⟨a⟩
 rcases b with ⟨b⟩
 show ByteArray.beq ⟨a⟩ ⟨b⟩=true↔_
 simp[ByteArray.beq]
theorem Qq{P:Program}{kt:TypeId}(h:P.underlying kt=some .string):Kl P kt (fun s:ByteArray=>Value.string s) where
 NV:=⟨_,h,fun a b=>by
  simp only[Instr.sameNow,bytes_beq]⟩
 Kt:=fun e n a w=>by simp[Instr.checkKey,underlying,h]
 bits:=fun n a=>by cases n<;>simp[Instr.sameBits,bytes_beq]
end Go.Sl
namespace Go.Sl
theorem Qm{P:Program}{w:World}{a b:Addr}(ha: ∃c t,w.heap[a.block]?=some (.cells c t (0,0)))(hb: ∃c t,w.heap[b.block]?=some (.cells c t (0,0))):
 (sameAddr a b).run P w= .ok (a==b) w:=by
 obtain ⟨c,t,ha⟩:=ha
 obtain ⟨d,u,hb⟩:=hb
 unfold sameAddr
 by_cases h:a.block=b.block
 · simp[h]
 have f:(a==b)=false:=by
  cases e:(a==b) with
  |false=>rfl
  |true=>exact absurd (congrArg Addr.block (eq_of_beq e)) h
 simp[h,f,World.frozen?,ha,hb,noView,viewAt,World.shape?,mayBeOne,stringish]
theorem Mr{P:Program}{w:World}{t e n:Nat}{a b:Addr}(d:Nat)(j:P.underlying t=some (.pointer e))(g:(P.info? e).map (·.size)=some (n+1))
 (ha: ∃c t,w.heap[a.block]?=some (.cells c t (0,0))) (hb: ∃c t,w.heap[b.block]?=some (.cells c t (0,0))):
 (Op.equalIn (d+1) t (.pointer (some a)) (.pointer (some b))).run P w= .ok (a==b) w:=by
 obtain ⟨i,hi,f⟩:=Option.map_eq_some_iff.1 g
 have h:(sizeOf e).run P w= .ok (n+1) w:=by simp[sizeOf,typeInfo,hi,f]
 simp[Op.equalIn,underlying,j,h,Qm ha hb]
theorem Mb{P:Program}{w:World}{t e n:Nat}{a b:Addr}(f:P.underlying t=some (.pointer e))(d:(P.info? e).map (·.size)=some (n+1))
 (ha: ∃c t,w.heap[a.block]?=some (.cells c t (0,0))) (hb: ∃c t,w.heap[b.block]?=some (.cells c t (0,0))):
 (binOp .neq t (.pointer (some a)) (.pointer (some b))).run P w= .ok (.bool (!(a==b))) w:=by
 have h:(Op.equal t (.pointer (some a)) (.pointer (some b))).run P w= .ok (a==b) w:=Mr 9999 f d ha hb
 simp[binOp,h]
theorem Sat.row{A:Ac}{w:World}(hs:Sat A w)(b i:Nat){v:Value}[h:DA A b i v]: ∃c t,w.heap[b]?=some (.cells c t (0,0)):=by
 obtain ⟨F,rfl⟩:=h.out
 obtain ⟨c,t,a,_⟩:=hs.Ew
 exact ⟨c,t,a⟩
end Go.Sl
namespace Go.Sl
def rw(e:TypeId)(s:Nat)(v:Value)(xs:List Value):Ac:=fun h=>
 (v= .slice none 0 0∧xs= []∧emp h)∨
 ∃g n cap sp,v= .slice (some ⟨g,0,none⟩) n cap∧xs.length=n*s∧(xs++sp).length=cap*s∧n≤cap∧cap≤maxLen∧block g e (xs++sp) h
theorem Sat.Cm{e s:Nat}{v:Value}{xs:List Value}{F:Ac}{w:World}(hs:Sat (rw e s v xs*F) w):
 (v= .slice none 0 0∧xs= []∧Sat F w)∨
 ∃g n cap sp,v= .slice (some ⟨g,0,none⟩) n cap∧xs.length=n*s∧(xs++sp).length=cap*s∧n≤cap∧cap≤maxLen∧Sat (block g e (xs++sp)*F) w:=by
 obtain ⟨_,⟨g,k,d,rfl,h|⟨f,n,cap,sp,a,b,c,i,j,l⟩,hF⟩,H⟩:=hs
 ·obtain ⟨a,b,c⟩:=h
  refine .inl ⟨a,b,?_⟩
  rw[←Am F]
  exact ⟨_,⟨g,k,d,rfl,c,hF⟩,H⟩
 exact .inr ⟨f,n,cap,sp,a,b,c,i,j,_,⟨g,k,d,rfl,l,hF⟩,H⟩
theorem Sat.Bj{e s:Nat}{F:Ac}{w:World}(hs:Sat F w):Sat (rw e s (.slice none 0 0) []*F) w:=by
 rw[←Am F] at hs
 obtain ⟨_,⟨g,k,d,rfl,h,hF⟩,H⟩:=hs
 exact ⟨_,⟨g,k,d,rfl,.inl ⟨rfl,rfl,h⟩,hF⟩,H⟩
theorem Sat.Fg{e s:Nat}{xs:List Value}{F:Ac}{w:World}{g n cap:Nat}{sp:List Value}(b:xs.length=n*s)(c:(xs++sp).length=cap*s)(f:n≤cap)(i:cap≤maxLen)
 (hs:Sat (block g e (xs++sp)*F) w):Sat (rw e s (.slice (some ⟨g,0,none⟩) n cap) xs*F) w:=by
 obtain ⟨_,⟨a,k,d,rfl,h,hF⟩,H⟩:=hs
 exact ⟨_,⟨a,k,d,rfl,.inr ⟨g,n,cap,sp,rfl,b,c,f,i,h⟩,hF⟩,H⟩
theorem D7{P:Program}{b o:Nat} : ∀(news a:List Value)(j:Nat)(F:Ac)(w:World),Sat (cells b (o+j) a*F) w→a.length=news.length→(∀u∈news,u.oneCell'=true)→
 ∃d,(storeCells ⟨b,o,none⟩ news j).run P w= .ok () d∧Sat (cells b (o+j) news*F) d
 | [],a,j,F,w,hs,hl,_=>by
  have:a= []:=by simpa using hl
  subst this
  exact ⟨w,rfl,hs⟩
 |v::news,[],j,F,w,hs,hl,_=>by simp at hl
 | v :: news, u :: a, j, F, w, hs, hl, i => by
   have c:Sat (Sl.cell b (o+j) u*(cells b (o+j+1) a*F)) w:=hs.eq (Ar _ _ _)
   have f:=c.setCell v
   have g:Sat (cells b (o+(j+1)) a*(Sl.cell b (o+j) v*F)) (w.setCell ⟨b,o+j,none⟩ v):=f.eq (by rw[B7];rfl)
   obtain ⟨d,r1,l⟩:=D7 (P:=P) news a (j+1) _ _ g (by simpa using hl) (fun x hx=>i x (List.mem_cons_of_mem _ hx))
   refine ⟨d,?_,l.eq ?_⟩
   ·have e:(⟨b,o,none⟩:Addr).add j=⟨b,o+j,none⟩:=Addr.add_lit b o j
    have k:=i v List.mem_cons_self
    simp only[storeCells,Sem.run_bind,e]
    rw[run_store P w _ v .plain k,c.cell,c.free (o+j)]
    simpa using r1
   show cells b (o+(j+1)) news*(Sl.cell b (o+j) v*F)=Sl.cell b (o+j) v*cells b (o+j+1) news*F
   rw[B7,Ar];rfl
structure Src (P:Program) (s:Nat) (w:World) (x:Value) (m:Nat) (news:List Value):Prop where
 len: ∀n,(Builtin.lenOf x).run P (w.drewN n)= .ok m (w.drewN n)
 cells: ∀n,(Builtin.firstCells s m x).run P (w.drewN n)= .ok news.toArray (w.drewN n)
 size:news.length=m*s
 one: ∀u∈news,u.oneCell'=true
theorem Src.nil(P:Program)(s:Nat)(w:World):Src P s w (.slice none 0 0) 0 []:=
 ⟨fun _=>rfl,fun _=>rfl,by simp,by simp⟩
theorem Src.slice{P:Program}{s:Nat}{w:World}{b o m c:Nat}{news:List Value}(hl:news.length=m*s)(h: ∀j u,news[j]?=some u→w.cell? ⟨b,o+j,none⟩=some u)(a: ∀u∈news,u.oneCell'=true):
 Src P s w (.slice (some ⟨b,o,none⟩) m c) m news where
 len:=fun _=>rfl
 cells:=fun n=>by
  show (loadCells ⟨b,o,none⟩ (m*s)).run P (w.drewN n)=_
  rw[←hl]
  exact run_loadCells_list _ _ news (fun j v d=>by rw[Addr.add_lit];exact h j v d)
 size:=hl
 one:=a
theorem De(g:Nat)(e:TypeId)(xs ys:List Value):block g e (xs++ys)=Dl g e (xs++ys).length*(cells g 0 xs*cells g xs.length ys):=by
 unfold block
 rw[BV]
 simp
theorem Ou(z:Array Value)(n:Nat):(Builtin.zeroCells z n).size=n*z.size:=by simp[Builtin.zeroCells]
structure CF (P:Program) (t e s bytes:Nat) (i:TypeInfo) (z:Value):Prop where
 NV:P.underlying t=some (.slice e)
 info:P.info? e=some i
 zero:i.zero=some z
 size:i.size=s
 bytes:i.bytes=bytes
 zs:z.cells.size=s
 pos:0<s
theorem JG{P:Program}{t e s bytes:Nat}{z:Value}(f:P.underlying t=some (.slice e))(h:(P.info? e).map (fun i=>(i.zero,i.size,i.bytes))=some (some z,s,bytes))(g:z.cells.size=s)(hs:0<s):
 ∃i,CF P t e s bytes i z:=by
 obtain ⟨i,a,b,c,d⟩:=info_parts h
 exact ⟨i,f,a,b,c,d,g,hs⟩
theorem JA{P:Program}{t e s bytes:Nat}{i:TypeInfo}{z:Value}(E:CF P t e s bytes i z){tx:TypeId}{X:TypeDesc}(K:P.underlying tx=some X)(a3: ∀k,X≠ .int k)(ty:TypeId)
 {a:Option Addr} {n cap m:Nat} {xs news:List Value} {x:Value} {F:Ac} {w:World}
 (hs:Sat (rw e s (.slice a n cap) xs*F) w) (hx:Src P s w x m news) (Q:n+m≤maxLen) (r:(n+m)*bytes≤140737488355328):
 ∃a' f H,(Builtin.append_ #[t,tx] ty #[.slice a n cap,x]).run P w= .ok (.slice a' (n+m) f) H∧Sat (rw e s (.slice a' (n+m) f) (xs++news)*F) H∧(a'=none↔a=none∧m=0):=by
 have J:(sizeOf e).run P w= .ok s w:=by simp[sizeOf,typeInfo,E.info,E.size]
 have y:(Builtin.lenOf x).run P w= .ok m w:=by simpa[World.drewN] using hx.len 0
 have V:(Builtin.firstCells s m x).run P w= .ok news.toArray w:=by simpa[World.drewN] using hx.cells 0
 have I:(match X with| .int _=>true|_=>false)=false:=by
  cases X<;>first|rfl|exact absurd rfl (a3 _)
 by_cases d:n+m≤cap
 · --there is room
   rcases hs.Cm with ⟨b,c,p⟩|⟨g,n',l,sp,b,c,p,h4,Z,O⟩
   · cases b
     have hm:m=0:=by omega
     subst hm
     have hn:news= []:=by have:=hx.size;simpa using this
     subst hn c
     refine ⟨none,0,w,?_,hs,by simp⟩
     unfold Builtin.append_
     simp[underlying,E.NV,K,I,J,y,V]
   cases b
   have hl:news.length≤sp.length:=by
    rw[hx.size]
    have:xs.length+sp.length=cap*s:=by simpa using p
    have:=Nat.mul_le_mul_right s d
    rw[Nat.add_mul] at this
    omega
   have u:sp=sp.take news.length++sp.drop news.length:=(List.take_append_drop _ _).symm
   have a5:Sat (cells g (n*s) (sp.take news.length)*(Dl g e (xs++sp).length*(cells g 0 xs*(cells g (n*s+news.length) (sp.drop news.length)*F)))) w:=by
    refine O.eq ?_
    rw[De]
    conv=>lhs;rw[u]
    rw[BV,←c]
    have:(sp.take news.length).length=news.length:=by simp[hl]
    rw[this,List.take_append_drop]
    ac_rfl
   have U:Sat (cells g (n*s+0) (sp.take news.length)*(Dl g e (xs++sp).length*(cells g 0 xs*(cells g (n*s+news.length) (sp.drop news.length)*F)))) w:=a5
   obtain ⟨H,r1,r2⟩:=D7 (P:=P) news (sp.take news.length) 0 _ w U (by simp[hl]) hx.one
   refine ⟨some ⟨g,0,none⟩,cap,H,?_,?_,by simp⟩
   · have ea:(⟨g,0,none⟩:Addr).add (n*s)=⟨g,n*s,none⟩:=by rw[Addr.add_lit];simp
     unfold Builtin.append_
     simp[underlying,E.NV,K,I,J,y,V,d,ea,r1]
   refine Sat.Fg (sp:=sp.drop news.length) ?_ ?_ d Z (r2.eq ?_)
   · simp[c,hx.size,Nat.add_mul]
   · have:xs.length+sp.length=cap*s:=by simpa using p
     simp only[List.length_append,List.length_drop]
     omega
   rw[De]
   have Y:(xs++news++sp.drop news.length).length=(xs++sp).length:=by simp only[List.length_append,List.length_drop];omega
   rw[Y,BV]
   simp only[Nat.add_zero,Nat.zero_add,List.length_append,←c]
   ac_rfl
 have T: ∀k,(Builtin.firstCells s n (.slice a n cap)).run P (w.drewN k)= .ok xs.toArray (w.drewN k):=by
  intro k
  rcases hs.Cm with ⟨b,c,p⟩|⟨g,n',l,sp,b,c,p,h4,Z,O⟩
  · cases b;subst c;rfl
  cases b
  show (loadCells ⟨g,0,none⟩ (n*s)).run P (w.drewN k)=_
  rw[←c]
  refine run_loadCells_list _ _ xs (fun j v hj=>?_)
  rw[Addr.add_lit]
  have h7:Sat (cells g 0 xs*(Dl g e (xs++sp).length*(cells g xs.length sp*F))) (w.drewN k):=(O.drewN k).eq (by rw[De];ac_rfl)
  exact h7.DC j v hj
 have L:xs.length=n*s∧Sat F w:=by
  rcases hs.Cm with ⟨b,c,p⟩|⟨g,n',l,sp,b,c,p,h4,Z,O⟩
  · cases b;subst c;exact ⟨by simp,p⟩
  cases b;exact ⟨c,O.right⟩
 have a4:=growslice_fits (bytes:=bytes) (show cap<n+m by omega) r
 have R: ¬((n+m:Nat):Int)>IntKind.i64.max:=by
  have:n+m≤9223372036854775807:=by simpa[maxLen] using Q
  have e:IntKind.i64.max=9223372036854775807:=rfl
  rw[e]
  omega
 have M: ∀k,(zeroValue e).run P (w.drewN k)= .ok z (w.drewN k):=by intro k;simp[zeroValue,typeInfo,E.info,E.zero]
 have D: ∀H,(typeInfo e).run P H= .ok i H:=by intro H;simp[typeInfo,E.info]
 let q:=Question.appendCap (n+m) cap e
 let f:=q.cut (w.tape w.drawn q)
 have a0:n+m≤f:=by show n+m≤(n+m)+_;omega
 have a1:f≤maxLen:=by
  show (n+m)+_%(2^63-(n+m))≤maxLen
  have b:n+m≤9223372036854775807:=by simpa[maxLen] using Q
  have c:w.tape w.drawn q%(2^63-(n+m))<2^63-(n+m):=Nat.mod_lt _ (by omega)
  have p:maxLen=9223372036854775807:=rfl
  omega
 let row:=xs++news++(Builtin.zeroCells z.cells (f-(n+m))).toList
 have a6:Sat (block (w.drewN 1).heap.size e row*F) ((w.drewN 1).alloc (.cells row.toArray e)):=by
  have:=(L.2.drewN 1).alloc row.toArray e
  simpa using this
 refine ⟨some ⟨(w.drewN 1).heap.size,0,none⟩,f,(w.drewN 1).alloc (.cells row.toArray e),?_,?_,?_⟩
 · have a2:(choose q).run P w= .ok f (w.drewN 1):=by
    rw[run_choose]
    simp only[q,Question.forced]
    rfl
   have G:=hx.cells 1
   have o:=T 1
   have W:=M 1
   have B:(newRow e (xs.toArray++news.toArray++Builtin.zeroCells z.cells (f-(n+m)))).run P (w.drewN 1)= .ok ⟨(w.drewN 1).heap.size,0,none⟩ ((w.drewN 1).alloc (.cells row.toArray e)):=by
    have Y:xs.toArray++news.toArray++Builtin.zeroCells z.cells (f-(n+m))=row.toArray:=by
     apply Array.ext';simp[row]
    rw[Y]
    simp[newRow]
   unfold Builtin.append_
   simp only[Sem.run_bind,underlying,run_program,Result.andThen_ok,E.NV,K,List.getElem?_toArray,List.getElem?_cons_zero,List.getElem?_cons_succ,Sem.run_pure,J,I,y]
   have hb: ¬(Builtin.nextslicecap (n+m) cap*i.bytes>2^48):=by
    rw[E.bytes]
    have:(2:Nat)^48=281474976710656:=by decide
    omega
   simp only[Bool.false_eq_true,if_false,Sem.run_bind,Sem.run_pure,y,Result.andThen_ok,d,D,hb,R,false_and,run_askRoom,o,G,W,B]
   simp only[show (Question.appendCap (n+m) cap e)=q from rfl,a2,Result.andThen_ok,D,run_askRoom,o,G,W,B,Bool.not_false,if_true]
 · refine Sat.Fg (sp:=(Builtin.zeroCells z.cells (f-(n+m))).toList) ?_ ?_ a0 a1 a6
   · simp[L.1,hx.size,Nat.add_mul]
   simp only[List.length_append,Array.length_toList,Ou,E.zs,L.1,hx.size]
   rw[←Nat.add_mul,←Nat.add_mul]
   congr 1
   omega
 have: ¬(a=none∧m=0):=by
  rintro ⟨rfl,rfl⟩
  rcases hs.Cm with ⟨b,c,p⟩|⟨g,n',l,sp,b,_⟩
  · cases b;omega
  cases b
 simp[this]
theorem TJ{P:Program}{t e s bytes:Nat}{i:TypeInfo}{z:Value}(E:CF P t e s bytes i z){B:TypeId}{y:TypeDesc}(u:P.underlying B=some y)(p: ∀k,y≠ .int k)
 {ops:Array Oper} {Q:Exit→Act→World→Prop} {rest:List Oper} {o:Oper} {a:Act} (q:o.guard=none) (d f:Operand)
 (G:o.op= .call { callee:= .builtin .append,args:= #[d,f],argTypes:= #[t,B] })
 {b:Option Addr} {n cap m:Nat} {xs news:List Value} {x:Value} {F:Ac} {w:World} (r:a.eval d= .slice b n cap) (v:a.eval f=x)
 (hs:Sat (rw e s (.slice b n cap) xs*F) w) (hx:Src P s w x m news) (l:n+m≤maxLen) (c:(n+m)*bytes≤140737488355328)
 (h: ∀a' g j,Sat (rw e s (.slice a' (n+m) g) (xs++news)*F) j→(a'=none↔b=none∧m=0)→wpList P ops Q rest (a.put o.dst (.slice a' (n+m) g)) j):
 wpList P ops Q (o::rest) a w:=by
 refine wpList_plain q fun K D=>?_
 obtain ⟨a',g,j,r1,H,I⟩:=JA E u p o.type hs hx l c
 unfold Oper.wp
 simp[execOp,G,resolve,invoke,builtin,r,v,r1,Result.andThen]
 exact D _ _ (h a' g j H I)
theorem Aj{P:Program}{t e s bytes:Nat}{i:TypeInfo}{z:Value}(E:CF P t e s bytes i z)
 {ops:Array Oper} {Q:Exit→Act→World→Prop} {rest:List Oper} {o:Oper} {a:Act} (j:o.guard=none) (d f:Operand)
 (v:o.op= .call { callee:= .builtin .append,args:= #[d,f],argTypes:= #[t,t] })
 {b:Option Addr} {n cap m:Nat} {xs news:List Value} {x:Value} {F:Ac} {w:World} (l:a.eval d= .slice b n cap) (p:a.eval f=x)
 (hs:Sat (rw e s (.slice b n cap) xs*F) w) (hx:Src P s w x m news) (g:n+m≤maxLen) (c:(n+m)*bytes≤140737488355328)
 (h: ∀a' q r,Sat (rw e s (.slice a' (n+m) q) (xs++news)*F) r→(a'=none↔b=none∧m=0)→wpList P ops Q rest (a.put o.dst (.slice a' (n+m) q)) r):
 wpList P ops Q (o::rest) a w:=
 TJ E E.NV (fun k u=>by cases u) j d f v l p hs hx g c h
theorem A1{P:Program}{t e s bytes:Nat}{i:TypeInfo}{z:Value}(E:CF P t e s bytes i z){ops:Array Oper}{o:Oper}{a:Act}{w:World}{K:Act→World→Prop}{Q:Exit→Act→World→Prop}{X:Prop}
 (p:o.guard=none) (d f:Operand) (v:o.op= .call { callee:= .builtin .append,args:= #[d,f],argTypes:= #[t,t] })
 {b:Option Addr} {n cap m:Nat} {xs news:List Value} {x:Value} {F:Ac} (q:a.eval d= .slice b n cap) (r:a.eval f=x)
 (hs:Sat (rw e s (.slice b n cap) xs*F) w) (hx:Src P s w x m news) (l:n+m≤maxLen) (c:(n+m)*bytes≤140737488355328)
 (h: ∀a' g j,Sat (rw e s (.slice a' (n+m) g) (xs++news)*F) j→(a'=none↔b=none∧m=0)→K (a.put o.dst (.slice a' (n+m) g)) j):
 if Region.wanted o (yielded ops a.tmps)=true then Oper.wp P o a w K Q else X:=by
 have hw:Region.wanted o (yielded ops a.tmps)=true:=by simp[Region.wanted,p]
 rw[if_pos hw]
 obtain ⟨a',g,j,r1,y,B⟩:=JA E E.NV (fun k u=>by cases u) o.type hs hx l c
 unfold Oper.wp
 simp[execOp,v,resolve,invoke,builtin,q,r,r1,Result.andThen]
 exact h a' g j y B
theorem Src.Ut{P:Program}{w:World}{b e:Nat}{v:Value}{F:Ac}(hs:Sat (block b e [v]*F) w)(d:v.oneCell'=true):Src P 1 w (.slice (some ⟨b,0,none⟩) 1 1) 1 [v]:=by
 refine Src.slice rfl (fun j u a=>?_) (fun u c=>by simp at c;subst c;exact d)
 cases j with
 | zero =>
  simp at a;subst a
  have:Sat (Sl.cell b 0 v*(Dl b e 1*F)) w:=hs.eq (by simp only[block,Sl.cells,Bd,List.length_cons,List.length_nil,Nat.zero_add];ac_rfl)
  exact this.cell
 |succ j=>simp at a
theorem Src.new{P:Program}{w:World}{b e s:Nat}{vs:List Value}{F:Ac}(hs:Sat (block b e vs*F) w)(hl:vs.length=s)(d: ∀v∈vs,v.oneCell'=true):Src P s w (.slice (some ⟨b,0,none⟩) 1 1) 1 vs:=by
 refine Src.slice (by omega) (fun j u c=>?_) d
 have a:Sat (Sl.cells b 0 vs*(Dl b e vs.length*F)) w:=hs.eq (by unfold block;ac_rfl)
 exact a.DC j u c
theorem drew_drewN(w:World)(n:Nat):w.drew.drewN n=w.drewN (1+n):=by
 show ({ w with drawn:=w.drawn+1+n } :World)= { w with drawn:=w.drawn+(1+n) }
 rw[Nat.add_assoc]
theorem Src.drew{P:Program}{w:World}{s m:Nat}{x:Value}{news:List Value}(h:Src P s w x m news):Src P s w.drew x m news:=
 ⟨fun n=>by rw[drew_drewN];exact h.len (1+n),fun n=>by rw[drew_drewN];exact h.cells (1+n),h.size,h.one⟩
theorem Sat.XB{e:Nat}{a:Option Addr}{n c:Nat}{xs:List Value}{F:Ac}{w:World}(hs:Sat (rw e 1 (.slice a n c) xs*F) w):n=xs.length:=by
 rcases hs.Cm with ⟨b,d,i⟩|⟨g,n',f,sp,b,d,i,j,k,l⟩
 ·cases b;subst d;rfl
 cases b;simpa using d.symm
end Go.Sl
namespace Go.Sl
open Go.RowKit
def Jm(a:World):Ac:=fun h=>h=fun k=>match k with
 | .raw b=>(a.heap[b]?).map DR.obj
 | .env=>some (.io a.os a.tape a.output)
 |_=>none
theorem Sat.Xl(w:World):Sat (Jm w) w:=by
 refine ⟨_,rfl,fun k r e=>?_⟩
 cases k with
 | raw b =>
  obtain ⟨o,a,rfl⟩:=Option.map_eq_some_iff.1 e
  exact a
 |env=>cases e;exact ⟨rfl,rfl,rfl⟩
 |cell b i=>cases e
 |Dl b=>cases e
theorem Sat.Pm{c w:World}{F:Ac}(hs:Sat (Jm c*F) w):Below c.heap.size c w:=by
 obtain ⟨h,a,H⟩:=hs.CR
 subst a
 have hb: ∀b,b<c.heap.size→w.heap[b]?=c.heap[b]?:=by
  intro b hb
  have:=H (.raw b) (.obj c.heap[b]) (by simp[hb])
  simp only[Has] at this
  rw[this];simp[hb]
 have d:Has w .env (.io c.os c.tape c.output):=H .env _ rfl
 refine ⟨d.1,d.2.1,d.2.2,?_,hb⟩
 rcases Nat.lt_or_ge w.heap.size c.heap.size with h|h
 · have:=hb _ h
   simp[h] at this
 exact h
theorem Sat.Xk{b w:World}{F:Ac}(hs:Sat (Jm b*F) w){a:Addr}{v:Value}(h:b.cell? a=some v):w.cell? a=some v:=by
 rw[hs.Pm.cell (World.block_lt_of_cell? b a h)];exact h
end Go.Sl
namespace Go.Sl
open Go.RowKit Go.Deep Go.ChangeShapes Go.WideShapes
def ZX(w:World)(v:Value)(s:Nat)(d:List (List Value)):Prop:=
 ∃a c,v= .slice a d.length c∧ ∀i r,d[i]?=some r→r.length=s∧ ∃b o,a=some ⟨b,o,none⟩∧ ∀j u,r[j]?=some u→w.cell? ⟨b,o+i*s+j,none⟩=some u
theorem ZX.len{w:World}{v:Value}{s:Nat}{b:List (List Value)}(h:ZX w v s b): ∃a c,v= .slice a b.length c:=by
 obtain ⟨a,c,h,_⟩:=h
 exact ⟨a,c,h⟩
theorem ZX.at{w:World}{a:Option Addr}{n c s i:Nat}{d:List (List Value)}{r:List Value}(h:ZX w (.slice a n c) s d)(hi:d[i]?=some r):
 ∃b o,a=some ⟨b,o,none⟩∧ ∀j u,r[j]?=some u→w.cell? ⟨b,o+i*s+j,none⟩=some u:=by
 obtain ⟨a',g,e,f⟩:=h
 cases e
 exact (f i r hi).2
theorem VF{w:World}{x:Addr}{u:Value}(h:w.cell? x=some u):x.spot=none:=by
 unfold World.cell? at h
 cases hs:x.spot with
 |none=>rfl
 |some _=>simp[hs] at h;split at h<;>simp at h
theorem Qk{H:Type}{enc:TypeId×Value→H}{P:Program}{w:World}{c:Nat}{d:Nat→Bool}{g:Bool}{t e p s:Nat}{a:Option Addr}{len cap:Nat}{x:DataW H×List MemPlace}
 (ht:P.underlying t=some (.slice e)) (hs:P.cellsOf e=s) (B:0<s) (h:DataW.trod enc P w c d g p t [.slice a len cap]=some x):
 ∃V,ZX w (.slice a len cap) s V∧V.length=len∧len≤maxLen∧ ∀r∈V,∃n y,DataW.trod enc P w c d g n e r=some y:=by
 rcases open_slice ht h with ⟨X,_⟩|⟨l,Z,W,m,n,D,Pl,q,hb,hl,hm,R,hx,hi⟩
 · simp at X
   obtain ⟨rfl,rfl,rfl⟩:=X
   exact ⟨[],⟨none,0,rfl,fun i r hr=>by simp at hr⟩,rfl,by simp,by simp⟩
 simp at q
 obtain ⟨rfl,rfl,rfl⟩:=q
 have a3:len≤m:=by rw[R];split<;>omega
 have v: ∀i:Nat,∃r:List Value,i<len→(w.cells? c (l.add (i*s)) s=some r∧ ∃y,DataW.trod enc P w c d g n e r=some y):=by
  intro i
  by_cases k:i<len
  · obtain ⟨J,I,L⟩:=hi i (by omega)
    rw[hs] at I
    exact ⟨J,fun _=>⟨I,_,L⟩⟩
  exact ⟨[],fun h=>absurd h k⟩
 let f:Nat→List Value:=fun i=>Classical.choose (v i)
 have O: ∀i:Nat,i<len→(w.cells? c (l.add (i*s)) s=some (f i)∧ ∃y,DataW.trod enc P w c d g n e (f i)=some y):=fun i=>Classical.choose_spec (v i)
 refine ⟨(List.range len).map f,⟨some l,cap,by simp,fun i r hr=>?_⟩,by simp,by omega,?_⟩
 · have k:i<len:=by
    rcases Nat.lt_or_ge i len with h|h
    ·exact h
    rw[List.getElem?_eq_none (by simpa using h)] at hr;cases hr
   have T:r=f i:=by simp[k] at hr;exact hr.symm
   subst T
   obtain ⟨I,_⟩:=O i k
   obtain ⟨_,L,h4⟩:=World.cells?_some I
   refine ⟨L,?_⟩
   have G:l.spot=none:=by
    obtain ⟨K,_⟩:=O 0 (by omega)
    obtain ⟨_,a0,M⟩:=World.cells?_some K
    have:=M 0 B
    rw[List.getElem?_eq_getElem (by omega)] at this
    have Y:=VF this
    simp[Addr.add] at Y
    exact Y
   obtain ⟨b,o,sp⟩:=l
   simp only at G
   subst G
   refine ⟨b,o,rfl,fun j u U=>?_⟩
   have hj:j<s:=by
    rcases Nat.lt_or_ge j s with h|h
    ·exact h
    rw[List.getElem?_eq_none (by omega)] at U;cases U
   have:=h4 j hj
   rw[Addr.add_lit,Addr.add_lit] at this
   rw[this];exact U
 intro r hr
 obtain ⟨i,Q,rfl⟩:=List.mem_map.1 hr
 obtain ⟨_,y,hy⟩:=O i (by simpa using Q)
 exact ⟨n,y,hy⟩
theorem J5{H:Type}{enc:TypeId×Value→H}{P:Program}{w:World}{b:Nat}{a:Nat→Bool}{c:Bool}{t d:Nat}{r:List Value}{x:DataW H×List MemPlace}{fs:Array Field}
 (k:P.underlying t=some (.struct fs)) (h:DataW.trod enc P w b a c d t r=some x):
 r.length=P.cellsOf t∧ ∃n,∀(i:Nat)(f:Field),fs[i]?=some f→ ∃y,DataW.trod enc P w b a c n f.type ((r.drop f.offset).take (P.cellsOf f.type))=some y:=by
 obtain ⟨xs,n,_,_,g,l,j⟩:=DataW.trod_struct k h
 refine ⟨g,n,fun i f e=>?_⟩
 have hi:i<fs.size:=(Array.getElem?_eq_some_iff.1 e).1
 exact ⟨xs[i]'(by omega),by rw[j i f e];exact List.getElem?_eq_getElem (by omega)⟩
theorem Gg{H:Type}{enc:TypeId×Value→H}{P:Program}{w:World}{b:Nat}{a:Nat→Bool}{d:Bool}{t c:Nat}{v:Value}{x:DataW H×List MemPlace}{k:IntKind}
 (g:P.underlying t=some (.int k)) (h:DataW.trod enc P w b a d c t [v]=some x): ∃n,v= .int k n∧(Lit.int k n).wf=true:=by
 obtain ⟨n,e,_,f⟩:=DataW.trod_int g h
 exact ⟨n,by simpa using e,f⟩
end Go.Sl
namespace Go.Sl
theorem Sat.YL{b t : Nat}{xs ys : List Value}{F : Ac}{w y : World}(hs : Sat (block b t xs * F) w)(hl : ys.length = xs.length)
 (hb:y.heap[b]?=some (.cells ys.toArray t (0,0))) (R: ∀k,k<w.heap.size→k≠b→y.heap[k]?=w.heap[k]?) (h1:y.os=w.os) (L:y.tape=w.tape) (h3:y.output=w.output):Sat (block b t ys*F) y:=by
 have hw:=hs.Ee
 obtain ⟨_,⟨g,k,d,rfl,a,hF⟩,H⟩:=hs
 obtain ⟨J,X,T,Y,Z⟩:=Qx b t ys
 have hg : ∀ f, f.Ew = some b → ∀ r, Has w f r → g f = none → f = .raw b := by
  intro f l r hr Q
  obtain ⟨gh,K,V,rfl,rfl,U⟩:=(a:(Dl b t xs.length*cells b 0 xs) g)
  have p: ∀j,j<xs.length→K (.cell b j)≠none:=by
   clear Q hr l V
   have key : ∀(vs : List Value)(i : Nat)(h : Hp), cells b i vs h → ∀ j, j < vs.length → h (.cell b (i + j)) ≠ none := by
    intro vs
    induction vs with
    |nil=>intro i h _ j s;simp at s
    | cons v vs ih =>
      intro i h n j s
      obtain ⟨g1,g2,d1,rfl,rfl,L⟩:=(n:(Sl.cell b i v*cells b (i+1) vs) h)
      rw[Hp.Ij]
      cases j with
      |zero=>exact .inl (by simp[Dy])
      | succ j =>
        right
        have:=ih (i+1) g2 L j (by simp at s;omega)
        have e:i+1+j=i+(j+1):=by omega
        rw[e] at this
        exact this
   intro j s
   have:=key xs 0 K U j s
   simpa using this
  cases f with
  |raw b'=>simp[Key.Ew] at l;rw[l]
  |env=>simp[Key.Ew] at l
  | Dl b' =>
    simp[Key.Ew] at l
    subst l
    exact absurd Q (Hp.Ij.2 (.inl (by simp[Dy])))
  | cell b' i =>
    simp[Key.Ew] at l
    subst l
    cases r<;>simp only[Has] at hr
    obtain ⟨c,tt,G,I⟩:=hr
    rw[hw] at G
    cases G
    have hi:i<xs.length:=by
     rcases Nat.lt_or_ge i xs.length with h|h
     · exact h
     simp[List.getElem?_eq_none h] at I
    exact absurd Q (Hp.Ij.2 (.inr (p i hi)))
 have W: ∀f r,k f=some r→Has w f r:=by
  intro f r e
  refine H f r ?_
  rw[Hp.M5 d];simp[Hp.un,e]
 have q: ∀f r,k f=some r→f.Ew≠some b:=by
  intro f r e M
  have O:g f=none:=by
   cases n:g f with
   |none=>rfl
   |some r'=>exact absurd (.inl rfl) (d f f (by simp[n]) (by simp[e]))
  have D:=hg f M r (W f r e) O
  subst D
  obtain ⟨gh,K,V,rfl,rfl,U⟩:=(a:(Dl b t xs.length*cells b 0 xs) g)
  exact d (.Dl b) (.raw b) (Hp.Ij.2 (.inl (by simp[Dy]))) (by simp[e]) (.inr ⟨.inr trivial,rfl⟩)
 refine ⟨J.un k,⟨J,k,?_,rfl,X,hF⟩,?_⟩
 · intro u k2 G I hc
   obtain ⟨r,hr⟩:=Option.ne_none_iff_exists'.1 I
   have o:=q k2 r hr
   have B:u.Ew=some b:=by rcases T u G with rfl|⟨j,_,rfl⟩<;>rfl
   rcases hc with rfl|⟨_,e⟩
   · exact o B
   exact o (e▸B)
 intro u r e
 unfold Hp.un at e
 cases m:J u with
 | some r' =>
   rw[m] at e
   cases e
   rcases T u (by simp[m]) with rfl|⟨j,s,rfl⟩
   · rw[Y] at m;cases m
     exact ⟨_,hb,by simp⟩
   rw[Z j ys[j] (by simp[s])] at m;cases m
   exact ⟨_,_,hb,by simp[s]⟩
 | none =>
   rw[m] at e
   have n:=W u r e
   have o:=q u r e
   have x:=fun b'=>Has.lt n (b:=b')
   cases u with
   |env=>cases r<;>simp only[Has] at n⊢;rw[h1,L,h3];exact n
   |raw b'=>cases r<;>simp only[Has] at n⊢;rw[R b' (x b' rfl) (fun e=>o (by rw[e];rfl))];exact n
   |cell b' i=>cases r<;>simp only[Has] at n⊢;rw[R b' (x b' rfl) (fun e=>o (by rw[e];rfl))];exact n
   |Dl b'=>cases r<;>simp only[Has] at n⊢;rw[R b' (x b' rfl) (fun e=>o (by rw[e];rfl))];exact n
theorem Sat.S2{b t k:Nat}{vs:List Value}{v:Value}{F:Ac}{w:World}(hs:Sat (block b t vs*F) w)(c:vs[k]?=some v):w.cell? ⟨b,k,none⟩=some v∧w.frozen? ⟨b,k,none⟩=false:=by
 have hw:=hs.Ee
 have a:Sat (cells b 0 vs*(Dl b t vs.length*F)) w:=hs.eq (by unfold block;ac_rfl)
 exact ⟨by have:=a.DC k v c;simpa using this,by simp[World.frozen?,hw]⟩
section
variable {κ:Type}
def Iter(kf:κ→Value)(M:Nat)(o d:Obj)(ms c:List (κ×Value)):Prop:=
 ∃es a b,o= .map es a∧d= .mapIter (some M) a b a∧
  (es.toList.map fun e=>(e.key,e.val))=ms.map (fun p=>(kf p.1,p.2))∧(es.toList.map (·.born)).Nodup∧(∀e∈es.toList,e.born<a)∧
  ((es.toList.filter fun e=>!b.contains e.born).map fun e=>(e.key,e.val))=c.map (fun p=>(kf p.1,p.2))
theorem Iter.Un{kf:κ→Value}{M:Nat}{o i:Obj}{ms b:List (κ×Value)}(h:Iter kf M o i ms b):Fi kf o ms:=by
 obtain ⟨es,a,c,d,_,e,f,g,_⟩:=h
 exact ⟨es,a,d,e,f,g⟩
theorem E6{P:Program}{kf:κ→Value}{t kt e:TypeId}(j:P.underlying t=some (.map kt e)){w:World}{M:Nat}{o:Obj}{ms:List (κ×Value)}(hb:w.heap[M]?=some o)(i:Fi kf o ms):
 ∃c,Iter kf M o c ms ms∧(Instr.range t (.map (some M))).run P w= .ok (.pointer (some ⟨w.heap.size,0,none⟩)) (w.alloc c):=by
 obtain ⟨es,a,rfl,b,d,f⟩:=i
 have g:(getObj M).run P w= .ok (.map es a) w:=by simp[getObj,Sem.run,hb]
 refine ⟨.mapIter (some M) a #[] a,⟨es,a, #[],rfl,rfl,b,d,f,?_⟩,?_⟩
 ·have:(es.toList.filter fun e=>!(#[]:Array Nat).contains e.born)=es.toList:=List.filter_eq_self.2 fun e _=>by simp
  rw[this];exact b
 simp[Instr.range,underlying,j,g]
theorem filter_push{l:List MapEntry}(a:(l.map (·.born)).Nodup){i:Nat}{e:MapEntry}(hi:l[i]?=some e):(l.filter fun x=>x.born !=e.born)=l.eraseIdx i:=by
 induction l generalizing i with
 |nil=>simp
 | cons x l c =>
  simp only[List.map_cons,List.nodup_cons] at a
  cases i with
  | zero =>
   simp at hi
   subst hi
   have:(l.filter fun y=>y.born !=x.born)=l:=List.filter_eq_self.2 fun y hy=>by
    simp only[bne_iff_ne,ne_eq]
    intro e
    exact a.1 (List.mem_map.2 ⟨y,hy,e⟩)
   simp[this]
  | succ i =>
   simp at hi
   have b:(x.born !=e.born)=true:=by
    simp only[bne_iff_ne,ne_eq]
    intro h
    exact a.1 (List.mem_map.2 ⟨e,List.mem_of_getElem? hi,h.symm⟩)
   simp[b,c a.2 hi]
theorem RQ{P:Program}{kf:κ→Value}{w:World}{M f:Nat}{o oi:Obj}{ms d:List (κ×Value)}{F:Ac}(hs:Sat (raw M o*(raw f oi*F)) w)(hI:Iter kf M o oi ms d)(ty:TypeId):
 (d= []∧(Instr.next (.pointer (some ⟨f,0,none⟩)) false ty).run P w= .ok (.tuple #[.bool false]) w)∨
 ∃(i:Nat)(k:κ)(v:Value)(Z:Obj)(w':World),d[i]?=some (k,v)∧(Instr.next (.pointer (some ⟨f,0,none⟩)) false ty).run P w= .ok (.tuple #[.bool true,kf k,v]) w'∧
  Iter kf M o Z ms (d.eraseIdx i)∧Sat (raw M o*(raw f Z*F)) w'∧(Instr.entry (.pointer (some ⟨f,0,none⟩))).run P w'= .ok (.tuple #[kf k,v]) w':=by
 have hM:=hs.obj
 have ae:Sat (raw f oi*(raw M o*F)) w:=hs.eq (B7 _ _ _)
 have a9:=ae.obj
 obtain ⟨es,a,b,rfl,rfl,h3,h4,h5,h6⟩:=hI
 have H: ∀w0:World,w0.heap[M]?=some (.map es a)→(getObj M).run P w0= .ok (.map es a) w0:=by intro w0 h;simp[getObj,Sem.run,h]
 have Q:(getObj f).run P w= .ok (.mapIter (some M) a b a) w:=by simp[getObj,Sem.run,a9]
 have s:(!b.isEmpty&&!es.isEmpty&&es.all fun x=>decide (x.born≥a))=false:=by
  cases L:es.isEmpty with
  |true=>simp
  | false =>
    have I:es.toList≠ []:=by intro h;simp[Array.isEmpty_iff] at L;exact L (by simpa using h)
    obtain ⟨e,u⟩:=List.exists_mem_of_ne_nil _ I
    have:(es.all fun x=>decide (x.born≥a))=false:=by
     rw[←Array.all_toList,List.all_eq_false]
     exact ⟨e,u,by have:=h5 e u;simp;omega⟩
    rw[this];simp
 let left:=es.filter fun e=>!b.contains e.born
 have c:left.toList=es.toList.filter fun e=>!b.contains e.born:=by simp[left]
 have B:left.filter (fun x=>decide (x.born<a))=left:=by
  apply Array.ext'
  rw[Array.toList_filter]
  refine List.filter_eq_self.2 fun e u=>?_
  rw[c] at u
  simpa using h5 e (List.mem_filter.1 u).1
 have y:left.filter (fun x=>decide (x.born≥a))= #[]:=by
  apply Array.ext'
  rw[Array.toList_filter]
  refine List.filter_eq_nil_iff.2 fun e u=>?_
  rw[c] at u
  have:=h5 e (List.mem_filter.1 u).1
  simp;omega
 have n:left.toList.length=d.length:=by
  have:=congrArg List.length h6
  rw[←c] at this
  simpa using this
 by_cases r:d= []
 · left
   refine ⟨r,?_⟩
   have aa:left= #[]:=by
    apply Array.ext'
    have:left.toList.length=0:=by rw[n,r];rfl
    simpa using this
   unfold Instr.next
   simp only[Sem.run_bind,Q,Result.andThen_ok,H w hM,s,Bool.false_eq_true,if_false,Sem.run_pure,Sem.run_ite]
   simp only[show (es.filter fun e=>!b.contains e.born)=left from rfl,B,y,aa]
   simp[run_choose,Question.forced]
 right
 have g:0<left.size:=by
  have:0<d.length:=List.length_pos_iff.2 r
  have h:left.size=d.length:=by simpa using n
  omega
 have I:left.isEmpty=false:=by
  simp[Array.isEmpty_iff]
  intro h
  rw[h] at g
  simp at g
 let q:=Question.mapNext left.size
 let i:=if q.forced then 0 else q.cut (w.tape w.drawn q)
 have hi:i<left.size:=by
  show (if q.forced then 0 else q.cut (w.tape w.drawn q))<left.size
  split
  · exact g
  exact Nat.mod_lt _ g
 let wc:World:=if q.forced then w else w.drew
 have a7:(choose (.mapNext left.size)).run P w= .ok i wc:=by
  rw[run_choose]
  show (if q.forced then _ else _)=_
  by_cases hf:q.forced=true
  · simp only[hf,if_true]
    show _=Result.ok (if q.forced then 0 else _) (if q.forced then w else w.drew)
    simp[hf]
  have O:q.forced=false:=by simpa using hf
  simp only[O,Bool.false_eq_true,if_false]
  show _=Result.ok (if q.forced then 0 else _) (if q.forced then w else w.drew)
  simp[O,q]
 have Y:Sat (raw M (.map es a)*(raw f (.mapIter (some M) a b a)*F)) wc:=by
  show Sat _ (if q.forced then w else w.drew)
  split
  · exact hs
  exact hs.drew
 let e:=left[i]
 have m:left.toList[i]?=some e:=by simp[e,hi]
 have ad:i<d.length:=by
  have h:left.size=d.length:=by simpa using n
  omega
 obtain ⟨⟨k,v⟩,W⟩: ∃p,d[i]?=some p:=⟨d[i],by simp[ad]⟩
 have j:(e.key,e.val)=(kf k,v):=by
  have h7:=congrArg (fun l=>l[i]?) h6
  rw[←c] at h7
  simp only[List.getElem?_map,m,W,Option.map_some,Option.some.injEq] at h7
  exact h7
 simp only[Prod.mk.injEq] at j
 have J:Sat (raw f (.mapIter (some M) a (b.push e.born) a)*(raw M (.map es a)*F)) { wc with heap:=wc.heap.setIfInBounds f (.mapIter (some M) a (b.push e.born) a) } :=
  (Y.eq (B7 _ _ _)).Gy _
 have U:=(Y.eq (B7 _ _ _)).obj
 refine ⟨i,k,v,.mapIter (some M) a (b.push e.born) a,_,W,?_,?_,J.eq (B7 _ _ _),?_⟩
 · have K:(setObj f (.mapIter (some M) a (b.push e.born) a)).run P wc= .ok () { wc with heap:=wc.heap.setIfInBounds f (.mapIter (some M) a (b.push e.born) a) } :=by
    simp[setObj,Sem.run,U]
   have D:((if left.isEmpty=true then #[none] else #[])++(left++ #[]).map some:Array (Option MapEntry))=left.map some:=by simp[I]
   unfold Instr.next
   simp only[Sem.run_bind,Q,Result.andThen_ok,H w hM,s,Bool.false_eq_true,if_false,Sem.run_pure,Sem.run_ite]
   simp only[show (es.filter fun e=>!b.contains e.born)=left from rfl,B,y,D,Array.size_map,a7,Result.andThen_ok]
   have R:(left.map some)[i]?=some (some e):=by simp[hi,e]
   simp only[R,Sem.run_bind,K,Result.andThen_ok,Sem.run_pure,j.1,j.2]
 · refine ⟨es,a,b.push e.born,rfl,rfl,h3,h4,h5,?_⟩
   have e1:(es.toList.filter fun x=>!(b.push e.born).contains x.born)=(es.toList.filter fun x=>!b.contains x.born).filter fun x=>x.born !=e.born:=by
    rw[List.filter_filter]
    congr 1
    funext x
    simp only[Array.contains_push,bne]
    cases b.contains x.born<;>cases (x.born==e.born)<;>rfl
   have ac:(((es.toList.filter fun x=>!b.contains x.born)).map (·.born)).Nodup:=h4.sublist (List.Sublist.map _ List.filter_sublist)
   rw[e1,filter_push ac (by rw[←c];exact m),map_eraseIdx,map_eraseIdx,h6]
 have a6:({ wc with heap:=wc.heap.setIfInBounds f (.mapIter (some M) a (b.push e.born) a) } :World).heap[M]?=some (.map es a):=(J.eq (B7 _ _ _)).obj
 have V:=J.obj
 have X:e∈es.toList:=by
  have:=List.mem_of_getElem? m
  rw[c] at this
  exact (List.mem_filter.1 this).1
 have G : es.find? (fun x => x.born == e.born) = some e := by
  rw[←Array.find?_toList]
  have key: ∀l:List MapEntry,(l.map (·.born)).Nodup→e∈l→l.find? (fun x=>x.born==e.born)=some e:=by
   intro l
   induction l with
   |nil=>intro _ h;simp at h
   | cons x l ih =>
     intro hn hm
     simp only[List.map_cons,List.nodup_cons] at hn
     rcases List.mem_cons.1 hm with rfl|hm
     · simp
     have:(x.born==e.born)=false:=by
      simp only[beq_eq_false_iff_ne,ne_eq]
      intro h
      exact hn.1 (List.mem_map.2 ⟨e,hm,h.symm⟩)
     simp[this,ih hn.2 hm]
  exact key _ h4 X
 have T:(getObj f).run P { wc with heap:=wc.heap.setIfInBounds f (.mapIter (some M) a (b.push e.born) a) } = .ok (.mapIter (some M) a (b.push e.born) a) { wc with heap:=wc.heap.setIfInBounds f (.mapIter (some M) a (b.push e.born) a) } :=by
  simp only[getObj,Sem.run,V]
 unfold Instr.entry
 simp only[Sem.run_bind,T,Result.andThen_ok,H _ a6,Array.back?_push,Sem.run_pure]
 simp[G,j.1,j.2]
theorem Ft{P:Program}{kf:κ→Value}{w:World}{M d:Nat}{o j:Obj}{ms b:List (κ×Value)}{F:Ac}(hs:Sat (raw M o*(raw d j*F)) w)(m:Iter kf M o j ms b):
 (b= []∧ ∀g,(Instr.next (.pointer (some ⟨d,0,none⟩)) false g).run P w= .ok (.tuple #[.bool false]) w)∨
 ∃(i:Nat)(k:κ)(v:Value)(a:Obj)(c:World),b[i]?=some (k,v)∧(∀g,(Instr.next (.pointer (some ⟨d,0,none⟩)) false g).run P w= .ok (.tuple #[.bool true,kf k,v]) c)∧
  Iter kf M o a ms (b.eraseIdx i)∧Sat (raw M o*(raw d a*F)) c∧(Instr.entry (.pointer (some ⟨d,0,none⟩))).run P c= .ok (.tuple #[kf k,v]) c:=by
 rcases RQ (P:=P) hs m 0 with ⟨e,f⟩|⟨i,k,v,a,c,e,f,l⟩
 · exact .inl ⟨e,fun _=>f⟩
 exact .inr ⟨i,k,v,a,c,e,fun _=>f,l⟩
theorem DY{α:Type} : ∀(l:List α)(i:Nat)(x:α),l[i]?=some x→l.Perm (x::l.eraseIdx i)
 | [],i,x,h=>by simp at h
 |y::l,0,x,h=>by simp at h;subst h;exact .refl _
 | y :: l, i + 1, x, h => by
  simp at h
  exact ((DY l i x h).cons y).trans (.swap _ _ _)
end
end Go.Sl
namespace Go.Sl
open Go.RowKit
def ex{α:Type}(A:α→Ac):Ac:=fun h=> ∃x,A x h
def Yb(p:Prop):Ac:=fun h=>p∧emp h
theorem Sat.Mu{α:Type}{A:α→Ac}{F:Ac}{w:World}(hs:Sat (ex A*F) w): ∃x,Sat (A x*F) w:=by
 obtain ⟨_,⟨g,k,d,rfl,⟨x,hx⟩,hF⟩,H⟩:=hs
 exact ⟨x,_,⟨g,k,d,rfl,hx,hF⟩,H⟩
theorem Sat.Mv{α:Type}{A:α→Ac}(x:α){F:Ac}{w:World}(hs:Sat (A x*F) w):Sat (ex A*F) w:=by
 obtain ⟨_,⟨g,k,d,rfl,hx,hF⟩,H⟩:=hs
 exact ⟨_,⟨g,k,d,rfl,⟨x,hx⟩,hF⟩,H⟩
theorem Sat.Fp{p:Prop}{F:Ac}{w:World}(hs:Sat (Yb p*F) w):p∧Sat F w:=by
 obtain ⟨_,⟨g,k,d,rfl,⟨hp,a⟩,hF⟩,H⟩:=hs
 refine ⟨hp,?_⟩
 have e:g=fun _=>none:=a
 subst e
 exact ⟨_,hF,H⟩
theorem Sat.KU{p:Prop}(hp:p){F:Ac}{w:World}(hs:Sat F w):Sat (Yb p*F) w:=by
 obtain ⟨h,hF,H⟩:=hs
 exact ⟨h,⟨fun _=>none,h,fun _ _ x=>absurd rfl x,rfl,⟨hp,rfl⟩,hF⟩,H⟩
theorem W9{α:Type}(A:α→Ac)(F:Ac):ex A*F=ex fun x=>A x*F:=by
 funext h
 apply propext
 constructor
 ·rintro ⟨g,k,d,rfl,⟨x,hx⟩,hF⟩;exact ⟨x,g,k,d,rfl,hx,hF⟩
 rintro ⟨x,g,k,d,rfl,hx,hF⟩;exact ⟨g,k,d,rfl,⟨x,hx⟩,hF⟩
def bv(x:UInt8):Value:= .int .u8 x.toNat
def A4(l:List UInt8):List Value:=l.map bv
theorem Cj(l:List UInt8):(A4 l).length=l.length:=by simp[A4]
theorem Di(a b:List UInt8):A4 (a++b)=A4 a++A4 b:=by simp[A4]
theorem PI(l:List UInt8): ∀u∈A4 l,u.oneCell'=true:=by
 intro u a
 obtain ⟨x,_,rfl⟩:=List.mem_map.1 a
 rfl
theorem S3{l:List UInt8}{i:Nat}{x:UInt8}(h:l[i]?=some x):(A4 l)[i]?=some (bv x):=by simp[A4,h]
theorem Ks(l:List UInt8)(n:Nat):A4 (l.take n)=(A4 l).take n:=by simp[A4,List.map_take]
theorem ME(l:List UInt8)(n:Nat):A4 (l.drop n)=(A4 l).drop n:=by simp[A4,List.map_drop]
def Oc(w:World)(v:Value)(l:List UInt8):Prop:=
 ∃a c,v= .slice a l.length c∧l.length≤c∧c≤maxLen∧ ∀i x,l[i]?=some x→ ∃b o,a=some ⟨b,o,none⟩∧w.cell? ⟨b,o+i,none⟩=some (bv x)
theorem Oc.len{w:World}{v:Value}{l:List UInt8}(h:Oc w v l): ∃a c,v= .slice a l.length c∧l.length≤c∧c≤maxLen:=by
 obtain ⟨a,c,h,b,d,_⟩:=h
 exact ⟨a,c,h,b,d⟩
theorem Oc.n{w:World}{a:Option Addr}{n c:Nat}{l:List UInt8}(h:Oc w (.slice a n c) l):n=l.length∧n≤c∧c≤maxLen:=by
 obtain ⟨a',e,h,b,d,_⟩:=h
 cases h
 exact ⟨rfl,b,d⟩
theorem Oc.at{w:World}{a:Option Addr}{n c q:Nat}{l:List UInt8}{x:UInt8}(h:Oc w (.slice a n c) l)(hq:l[q]?=some x): ∃b o,a=some ⟨b,o,none⟩∧w.cell? ⟨b,o+q,none⟩=some (.int .u8 x.toNat):=by
 obtain ⟨a',f,d,_,_,e⟩:=h
 cases d
 exact e q x hq
def Reads(B:Ac)(v:Value)(l:List UInt8):Prop:= ∀(F:Ac)(w:World),Sat (B*F) w→Oc w v l
theorem Reads.rw{e:Nat}{v:Value}{l:List UInt8} :Reads (rw e 1 v (A4 l)) v l:=by
 intro F w hs
 rcases hs.Cm with ⟨b,a,c⟩|⟨g,n,cap,sp,b,a,c,d,f,j⟩
 ·have:l= []:=by simpa[A4] using a
  subst this b
  exact ⟨none,0,rfl,by simp,by simp,by simp⟩
 rw[Cj,Nat.mul_one] at a
 subst a b
 refine ⟨_,cap,rfl,d,f,fun i x hx=>⟨g,0,rfl,?_⟩⟩
 have k:Sat (Sl.cells g 0 (A4 l++sp)*(Dl g e (A4 l++sp).length*F)) w:=j.eq (by unfold block;ac_rfl)
 refine k.DC i (bv x) ?_
 rw[List.getElem?_append_left (by rw[Cj];exact (List.getElem?_eq_some_iff.1 hx).1)]
 exact S3 hx
theorem Reads.block{b e c:Nat}{l:List UInt8}{sp:List Value}(d:l.length≤c)(hm:c≤maxLen):Reads (block b e (A4 l++sp)) (.slice (some ⟨b,0,none⟩) l.length c) l:=by
 intro F w hs
 refine ⟨_,c,rfl,d,hm,fun i x hx=>⟨b,0,rfl,?_⟩⟩
 have a:Sat (Sl.cells b 0 (A4 l++sp)*(Dl b e (A4 l++sp).length*F)) w:=hs.eq (by unfold Sl.block;ac_rfl)
 refine a.DC i (bv x) ?_
 rw[List.getElem?_append_left (by rw[Cj];exact (List.getElem?_eq_some_iff.1 hx).1)]
 exact S3 hx
theorem Reads.nil(B:Ac):Reads B (.slice none 0 0) []:=fun _ _ _=>⟨none,0,rfl,by simp,by simp,by simp⟩
theorem Reads.left{A B:Ac}{v:Value}{l:List UInt8}(h:Reads A v l):Reads (A*B) v l:=fun F w hs=>h (B*F) w (hs.eq (Ar _ _ _))
def BP(a:Option Addr)(c lo s:Nat):Option Addr:=if c=lo then a else a.map (·.add (lo*s))
theorem YT{P:Program}{t e s bytes:Nat}{i:TypeInfo}{z:Value}(E:CF P t e s bytes i z){a:Option Addr}{n c:Nat}(lo hi:Nat)(d:lo≤hi)(f:hi≤c)(w:World):
 (Instr.slice t (.slice a n c) (some (.int .i64 lo)) (some (.int .i64 hi)) none).run P w= .ok (.slice (BP a c lo s) (hi-lo) (c-lo)) w:=by
 have b:(sizeOf e).run P w= .ok s w:=by simp[sizeOf,typeInfo,E.info,E.size]
 unfold Instr.slice Instr.sliceBounds
 simp[underlying,E.NV,Instr.sliceBound,asIntOf,d,f,b,BP]
theorem Tx{P:Program}{t e s bytes:Nat}{i:TypeInfo}{z:Value}(E:CF P t e s bytes i z){a:Option Addr}{n c:Nat}(hi:Nat)(d:hi≤c)(w:World):
 (Instr.slice t (.slice a n c) none (some (.int .i64 hi)) none).run P w= .ok (.slice (BP a c 0 s) hi c) w:=by
 have b:(sizeOf e).run P w= .ok s w:=by simp[sizeOf,typeInfo,E.info,E.size]
 unfold Instr.slice Instr.sliceBounds
 simp[underlying,E.NV,Instr.sliceBound,asIntOf,d,b,BP]
theorem Ql{P:Program}{t e s bytes:Nat}{i:TypeInfo}{z:Value}(E:CF P t e s bytes i z){a:Option Addr}{n c:Nat}(lo:Nat)(d:lo≤n)(w:World):
 (Instr.slice t (.slice a n c) (some (.int .i64 lo)) none none).run P w= .ok (.slice (BP a c lo s) (n-lo) (c-lo)) w:=by
 have b:(sizeOf e).run P w= .ok s w:=by simp[sizeOf,typeInfo,E.info,E.size]
 unfold Instr.slice Instr.sliceBounds
 simp[underlying,E.NV,Instr.sliceBound,asIntOf,d,b,BP]
theorem O8{g c:Nat}{s:Nat}{o:Nat} :BP (some ⟨g,o,none⟩) c 0 s=some ⟨g,o,none⟩:=by
 unfold BP
 split
 ·rfl
 simp[Addr.add]
theorem O7{c lo s:Nat} :BP none c lo s=none:=by
 unfold BP
 split<;>rfl
theorem Oc.cut{w:World}{a:Option Addr}{n c:Nat}{l:List UInt8}(h:Oc w (.slice a n c) l)(lo hi:Nat)(j:lo≤hi)(k:hi≤n):Oc w (.slice (BP a c lo 1) (hi-lo) (c-lo)) ((l.drop lo).take (hi-lo)):=by
 obtain ⟨rfl,m,hm⟩:=h.n
 have hl:((l.drop lo).take (hi-lo)).length=hi-lo:=by simp;omega
 refine ⟨BP a c lo 1,c-lo,by rw[hl],by rw[hl];omega,by omega,fun i x hx=>?_⟩
 have d:i<hi-lo:=by
  have:=(List.getElem?_eq_some_iff.1 hx).1
  omega
 have f:l[lo+i]?=some x:=by
  rw[List.getElem?_take_of_lt d,List.getElem?_drop] at hx
  exact hx
 obtain ⟨b,o,rfl,g⟩:=h.at f
 have e:c≠lo:=by omega
 refine ⟨b,o+lo,?_,?_⟩
 · simp[BP,e,Addr.add]
 rw[Nat.add_assoc];exact g
theorem Oc.src{P:Program}{w:World}{v:Value}{l:List UInt8}(h:Oc w v l):Src P 1 w v l.length (A4 l):=by
 obtain ⟨a,c,rfl,i,k,e⟩:=h
 cases hl:l with
 | nil =>
  cases a with
  |none=>exact ⟨fun _=>rfl,fun _=>rfl,by simp[A4],by simp[A4]⟩
  | some x =>
   obtain ⟨b,o,sp⟩:=x
   refine ⟨fun _=>rfl,fun n=>?_,by simp[A4],by simp[A4]⟩
   show (loadCells ⟨b,o,sp⟩ (0*1)).run P (w.drewN n)=_
   rfl
 | cons y m =>
  rw[←hl]
  obtain ⟨b,o,rfl,_⟩:=e 0 y (by simp[hl])
  refine Src.slice (by simp[Cj]) (fun j u d=>?_) (PI l)
  unfold A4 at d
  rw[List.getElem?_map] at d
  obtain ⟨x,hx,rfl⟩:=Option.map_eq_some_iff.1 d
  obtain ⟨b',o',f,g⟩:=e j x hx
  cases f
  exact g
theorem RP{P:Program}{t e bytes:Nat}{i:TypeInfo}{z:Value}(E:CF P t e 1 bytes i z)(Q R:TypeId)
 {g n cap lo:Nat} {xs:List Value} {x:Value} {l:List UInt8} {F:Ac} {w:World} (hs:Sat (rw e 1 (.slice (some ⟨g,0,none⟩) n cap) xs*F) w) (hx:Oc w x l) (L:lo+l.length≤n):
 ∃o,(Builtin.copy_ #[t,Q] R #[.slice (BP (some ⟨g,0,none⟩) cap lo 1) (n-lo) (cap-lo),x]).run P w= .ok (.int .i64 l.length) o∧Sat (rw e 1 (.slice (some ⟨g,0,none⟩) n cap) (xs.take lo++A4 l++xs.drop (lo+l.length))*F) o:=by
 have D:=hx.src (P:=P)
 have k:(Builtin.lenOf x).run P w= .ok l.length w:=by simpa[World.drewN] using D.len 0
 have j:(Builtin.firstCells 1 l.length x).run P w= .ok (A4 l).toArray w:=by simpa[World.drewN] using D.cells 0
 have d:(sizeOf e).run P w= .ok 1 w:=by simp[sizeOf,typeInfo,E.info,E.size]
 rcases hs.Cm with ⟨r,_⟩|⟨T,n',v,sp,r,y,B,I,J,K⟩
 · cases r
 cases r
 rw[Nat.mul_one] at y B
 have f:Nat.min l.length (n-lo)=l.length:=Nat.min_eq_left (by omega)
 by_cases hl:l= []
 · subst hl
   refine ⟨w,?_,?_⟩
   ·unfold Builtin.copy_
    have b:(Builtin.firstCells 1 0 x).run P w= .ok #[] w:=by simpa[A4] using j
    have c:(Builtin.lenOf x).run P w= .ok 0 w:=by simpa using k
    cases U:BP (some ⟨g,0,none⟩) cap lo 1 with
    |none=>simp[underlying,E.NV,d,c,b,goInt]
    |some q=>simp[underlying,E.NV,d,c,b,goInt,storeCells]
   simpa[A4] using hs
 have M:0<l.length:=by cases l with|nil=>exact absurd rfl hl|cons _ _=>simp
 have s:cap≠lo:=by omega
 have hcut:BP (some ⟨g,0,none⟩) cap lo 1=some ⟨g,lo,none⟩:=by simp[BP,s,Addr.add];omega
 have a:xs=xs.take lo++((xs.drop lo).take l.length++xs.drop (lo+l.length)):=by
  rw[←List.drop_drop,List.take_append_drop,List.take_append_drop]
 have u:Sat (Sl.cells g (lo+0) ((xs.drop lo).take l.length)*(Dl g e (xs++sp).length*(Sl.cells g 0 (xs.take lo)*(Sl.cells g (lo+l.length) (xs.drop (lo+l.length))*(Sl.cells g n sp*F))))) w:=by
  refine K.eq ?_
  rw[De]
  conv=>lhs;rw[a]
  rw[BV,BV]
  have p:(xs.take lo).length=lo:=by simp;omega
  have m:((xs.drop lo).take l.length).length=l.length:=by simp;omega
  rw[←a,p,m,y]
  simp only[Nat.zero_add,Nat.add_zero]
  ac_rfl
 obtain ⟨o,r1,O⟩:=D7 (P:=P) (A4 l) ((xs.drop lo).take l.length) 0 _ w u (by rw[Cj];simp;omega) (PI l)
 refine ⟨o,?_,?_⟩
 · rw[hcut]
   unfold Builtin.copy_
   simp[underlying,E.NV,d,k,f,j,r1,goInt]
 refine Sat.Fg (sp:=sp) ?_ ?_ I J (O.eq ?_)
 · simp only[List.length_append,List.length_take,List.length_drop,Cj];omega
 · simp only[List.length_append,List.length_take,List.length_drop,Cj] at B⊢;omega
 rw[De]
 have p:(xs.take lo++A4 l++xs.drop (lo+l.length)++sp).length=(xs++sp).length:=by simp only[List.length_append,List.length_take,List.length_drop,Cj];omega
 rw[p,BV,BV]
 have m:(xs.take lo).length=lo:=by simp;omega
 have G:(xs.take lo++A4 l).length=lo+l.length:=by rw[List.length_append,m,Cj]
 have H:(xs.take lo++A4 l++xs.drop (lo+l.length)).length=n:=by simp only[List.length_append,List.length_take,List.length_drop,Cj];omega
 rw[m,G,H]
 simp only[Nat.zero_add,Nat.add_zero]
 ac_rfl
theorem Sat.XA{e s:Nat}{a:Option Addr}{n c:Nat}{xs:List Value}{F:Ac}{w:World}(hs:Sat (rw e s (.slice a n c) xs*F) w)(k:Nat)(m:k≤n):Sat (rw e s (.slice (BP a c 0 s) k c) (xs.take (k*s))*F) w:=by
 rcases hs.Cm with ⟨b,f,i⟩|⟨g,n',d,sp,b,f,i,p,j,l⟩
 ·cases b
  subst f
  obtain rfl:k=0:=by omega
  rw[O7]
  simpa using hs
 cases b
 rw[O8]
 have o:=Nat.mul_le_mul_right s m
 refine Sat.Fg (sp:=xs.drop (k*s)++sp) (by simp;omega) (by simp only[List.length_append,List.length_take,List.length_drop] at i⊢;omega) (by omega) j ?_
 rw[←List.append_assoc,List.take_append_drop]
 exact l
theorem KZ{P:Program}{t e bytes:Nat}{i:TypeInfo}{z:Value}(E:CF P t e 1 bytes i z)(m o:TypeId)
 {a:Option Addr} {n cap lo:Nat} {xs:List Value} {x:Value} {l:List UInt8} {F:Ac} {w:World} (hs:Sat (rw e 1 (.slice a n cap) xs*F) w) (hx:Oc w x l) (b:lo+l.length≤n):
 ∃p,(Builtin.copy_ #[t,m] o #[.slice (BP a cap lo 1) (n-lo) (cap-lo),x]).run P w= .ok (.int .i64 l.length) p∧Sat (rw e 1 (.slice a n cap) (xs.take lo++A4 l++xs.drop (lo+l.length))*F) p:=by
 rcases hs.Cm with ⟨c,q,s⟩|⟨r,n',j,sp,c,_⟩
 ·cases c
  have hl:l= []:=by cases l with|nil=>rfl|cons _ _=>simp at b
  subst hl q
  have k:=hx.src (P:=P)
  have g:(Builtin.lenOf x).run P w= .ok 0 w:=by simpa[World.drewN] using k.len 0
  have f:(Builtin.firstCells 1 0 x).run P w= .ok #[] w:=by simpa[World.drewN,A4] using k.cells 0
  have d:(sizeOf e).run P w= .ok 1 w:=by simp[sizeOf,typeInfo,E.info,E.size]
  refine ⟨w,?_,by simpa[A4] using hs⟩
  rw[O7]
  unfold Builtin.copy_
  simp[underlying,E.NV,d,g,f,goInt]
 cases c
 exact RP E m o hs hx b
theorem Sat.LH{e s:Nat}{a:Option Addr}{n c i:Nat}{xs:List Value}{v:Value}{F:Ac}{w:World}(hs:Sat (rw e s (.slice a n c) xs*F) w)(hi:xs[i]?=some v): ∃g,a=some ⟨g,0,none⟩∧w.cell? ⟨g,i,none⟩=some v∧w.frozen? ⟨g,i,none⟩=false:=by
 rcases hs.Cm with ⟨f,j,l⟩|⟨g,n',d,sp,f,j,l,o,p,m⟩
 ·subst j;simp at hi
 cases f
 have b:i<xs.length:=(List.getElem?_eq_some_iff.1 hi).1
 have:=m.S2 (k:=i) (v:=v) (by rw[List.getElem?_append_left b];exact hi)
 exact ⟨g,rfl,this⟩
theorem Gw{α β:Type}{f:α→β}{b:List β}{l:List α}{i:Nat}{x:β}(hp:b.Perm (l.map f))(hi:b[i]?=some x): ∃a l2,l.Perm (a::l2)∧x=f a∧(b.eraseIdx i).Perm (l2.map f):=by
 have hx:x∈l.map f:=hp.mem_iff.1 (List.mem_of_getElem? hi)
 obtain ⟨a,ha,rfl⟩:=List.mem_map.1 hx
 obtain ⟨s,t,rfl⟩:=List.append_of_mem ha
 have c:(s++a::t).Perm (a::(s++t)):=List.perm_middle
 refine ⟨a,s++t,c,rfl,?_⟩
 have d:=(DY b i (f a) hi).symm.trans (hp.trans (c.map f))
 exact List.Perm.cons_inv d
end Go.Sl
namespace Go.Sl
theorem XQ(a b:ByteArray):(a.toList==b.toList)=decide (a=b):=by
 rw[Bool.eq_iff_iff]
 simp only[beq_iff_eq,decide_eq_true_eq,ByteArray.toList_eq]
 constructor
 ·intro h
  cases a;cases b
  simp at h
  rw[h]
 intro h;rw[h]
theorem ZO{a b:ByteArray}(h:a=b):(a.toList==b.toList)=true:=by rw[XQ];simpa using h
theorem ZP{a b:ByteArray}(h:a≠b):(a.toList==b.toList)=false:=by rw[XQ];simpa using h
theorem IP{P:Program}{t e s bytes:Nat}{i:TypeInfo}{z:Value}(E:CF P t e s bytes i z)(x:Value)(l h m:Option Value)(w:World):(Instr.sliceAt t x l h m).run P w=(Instr.slice t x l h m).run P w:=by
 unfold Instr.sliceAt
 simp[underlying,E.NV]
theorem Gb{P:Program}{t e s bytes:Nat}{i:TypeInfo}{z:Value}(E:CF P t e s bytes i z){a:Option Addr}{n c:Nat}(lo:Nat)(b:lo≤n)(w:World):
 (Instr.sliceAt t (.slice a n c) (some (.int .i64 lo)) none none).run P w= .ok (.slice (BP a c lo s) (n-lo) (c-lo)) w:=(IP E _ _ _ _ w).trans (Ql E lo b w)
theorem LP{P:Program}{t e s bytes:Nat}{i:TypeInfo}{z:Value}(E:CF P t e s bytes i z){a:Option Addr}{n c:Nat}(hi:Nat)(b:hi≤c)(w:World):
 (Instr.sliceAt t (.slice a n c) none (some (.int .i64 hi)) none).run P w= .ok (.slice (BP a c 0 s) hi c) w:=(IP E _ _ _ _ w).trans (Tx E hi b w)
theorem MA{P:Program}{t e s bytes:Nat}{i:TypeInfo}{z:Value}(E:CF P t e s bytes i z){a:Option Addr}{n c:Nat}(lo hi:Nat)(b:lo≤hi)(d:hi≤c)(w:World):
 (Instr.sliceAt t (.slice a n c) (some (.int .i64 lo)) (some (.int .i64 hi)) none).run P w= .ok (.slice (BP a c lo s) (hi-lo) (c-lo)) w:=(IP E _ _ _ _ w).trans (YT E lo hi b d w)
end Go.Sl
namespace Go.Sl
open Go.RowKit
section
variable {κ:Type}
theorem Ii{α:Type}(p:α→Bool): ∀(l:List α)(j:Nat)(x:α),l[j]?=some x→p x=false→(l.eraseIdx j).filter p=l.filter p
 | [],j,x,h,_=>by simp at h
 |y::l,0,x,h,hp=>by simp at h;subst h;simp[hp]
 | y :: l, j + 1, x, h, hp => by
  simp at h
  simp only[List.eraseIdx_cons_succ,List.filter_cons,Ii p l j x h hp]
theorem Mq[DecidableEq κ]{P:Program}{kt:TypeId}{kf:κ→Value}(K:Kl P kt kf){t e:TypeId}(O:P.underlying t=some (.map kt e)){w:World}{M:Nat}{o Q:Obj}{ms l:List (κ×Value)}
 (hb:w.heap[M]?=some o) (U:Iter kf M o Q ms l) (k:κ) (W: ∀p∈l,p.1≠k):
 ∃o',Iter kf M o' Q (EU k ms) l∧ ∀i B,(Builtin.delete_ #[t,i] B #[.map (some M),kf k]).run P w= .ok (.tuple #[]) { w with heap:=w.heap.setIfInBounds M o' } :=by
 obtain ⟨es,a,d,rfl,rfl,G,H,I,s⟩:=U
 obtain ⟨kd,n,b⟩:=K.NV
 obtain ⟨r,r1,r2,X,Y⟩:=FL b k ms es.toList 0 G
 have L:(getObj M).run P w= .ok (.map es a) w:=by simp[getObj,Sem.run,hb]
 have f: ∀o':Obj,(setObj M o').run P w= .ok () { w with heap:=w.heap.setIfInBounds M o' } :=by intro o';simp[setObj,Sem.run,hb]
 have J:=K.Kt es.isEmpty 9999 k w
 cases r with
 | none =>
  refine ⟨.map es a,⟨_,_,_,rfl,rfl,by rw[Y rfl];exact G,H,I,s⟩,?_⟩
  intro i B
  unfold Builtin.delete_
  simp only[Sem.run_bind,underlying,run_program,Result.andThen_ok,O,Sem.run_pure,L,J,Instr.findKey,n,r1,f,List.getElem?_toArray,List.getElem?_cons_zero,List.getElem?_cons_succ]
 | some q =>
  obtain ⟨j,u⟩:=q
  obtain ⟨_,e0,m,R,Z,T,D⟩:=X j u rfl
  simp only[Nat.sub_zero] at m T D
  have V:j<es.size:=by
   rcases Nat.lt_or_ge j es.size with h|h
   · exact h
   rw[List.getElem?_eq_none (by simpa using h)] at m;cases m
  have c:(es.eraseIdxIfInBounds j).toList=es.toList.eraseIdx j:=by simp[Array.eraseIdxIfInBounds,V]
  have g:(!d.contains e0.born)=false:=by
   cases hs:(!d.contains e0.born) with
   |false=>rfl
   | true =>
     have hm:(e0.key,e0.val)∈((es.toList.filter fun e=>!d.contains e.born).map fun e=>(e.key,e.val)):=
      List.mem_map.2 ⟨e0,List.mem_filter.2 ⟨List.mem_of_getElem? m,hs⟩,rfl⟩
     rw[s] at hm
     obtain ⟨p,hp,v⟩:=List.mem_map.1 hm
     have y:kf p.1=kf k:=by have:=congrArg Prod.fst v;simpa[R] using this
     have s1:=b p.1 k
     rw[y,b k k] at s1
     have:p.1=k:=by simpa using s1.symm
     exact absurd this (W p hp)
  refine ⟨.map (es.eraseIdxIfInBounds j) a,⟨_,_,_,rfl,rfl,?_,?_,?_,?_⟩,?_⟩
  · rw[c];exact D
  · rw[c]
    have:(es.toList.eraseIdx j).map (·.born)=(es.toList.map (·.born)).eraseIdx j:=map_eraseIdx _ _ _
    rw[this];exact I7 H j
  · intro x hx
    rw[c] at hx
    exact I x (List.mem_of_mem_eraseIdx hx)
  · rw[c,Ii _ _ j e0 m g];exact s
  intro i B
  unfold Builtin.delete_
  simp only[Sem.run_bind,underlying,run_program,Result.andThen_ok,O,Sem.run_pure,L,J,Instr.findKey,n,r1,f,List.getElem?_toArray,List.getElem?_cons_zero,List.getElem?_cons_succ]
theorem RM{ms a:List (κ×Value)}{i:Nat}{k:κ}{v:Value}(f:(a.map (·.1)).Nodup)(hi:a[i]?=some (k,v)):(∀p∈a.eraseIdx i,p.1≠k)∧((a.eraseIdx i).map (·.1)).Nodup∧(∀x,x≠k→(x∈a.map (·.1)↔x∈(a.eraseIdx i).map (·.1)))∧k∈a.map (·.1):=by
 have hp:=DY a i (k,v) hi
 have b:=hp.map (·.1)
 simp only[List.map_cons] at b
 have c:=b.nodup_iff.1 f
 rw[List.nodup_cons] at c
 refine ⟨fun p d e=>c.1 (List.mem_map.2 ⟨p,d,e⟩),c.2,fun x hx=>?_,b.mem_iff.2 (by simp)⟩
 rw[b.mem_iff,List.mem_cons]
 simp[hx]
end
end Go.Sl
namespace Go.Sl
def j'(e:TypeId)(s:Nat)(v:Value)(xs:List Value):Ac:=fun h=>
 (v= .slice none 0 0∧xs= []∧emp h)∨
 ∃g a n cap sp,v= .slice (some ⟨g,List.length a,none⟩) n cap∧xs.length=n*s∧(xs++sp).length=cap*s∧n≤cap∧cap≤maxLen∧block g e (a++(xs++sp)) h
theorem Sat.RT{e s:Nat}{v:Value}{xs:List Value}{F:Ac}{w:World}(hs:Sat (j' e s v xs*F) w):
 (v= .slice none 0 0∧xs= []∧Sat F w)∨
 ∃g a n cap sp,v= .slice (some ⟨g,List.length a,none⟩) n cap∧xs.length=n*s∧(xs++sp).length=cap*s∧n≤cap∧cap≤maxLen∧Sat (block g e (a++(xs++sp))*F) w:=by
 obtain ⟨_,⟨g,k,d,rfl,h|⟨i,a,n,cap,sp,b,c,f,j,l,m⟩,hF⟩,H⟩:=hs
 ·obtain ⟨b,c,f⟩:=h
  refine .inl ⟨b,c,?_⟩
  rw[←Am F]
  exact ⟨_,⟨g,k,d,rfl,f,hF⟩,H⟩
 exact .inr ⟨i,a,n,cap,sp,b,c,f,j,l,_,⟨g,k,d,rfl,m,hF⟩,H⟩
theorem Reads.j'{e:Nat}{v:Value}{l:List UInt8} :Reads (j' e 1 v (A4 l)) v l:=by
 intro F w hs
 rcases hs.RT with ⟨c,b,f⟩|⟨g,a,n,cap,sp,c,b,f,j,k,m⟩
 · have:l= []:=by simpa[A4] using b
   subst this c
   exact ⟨none,0,rfl,by simp,by simp,by simp⟩
 rw[Cj,Nat.mul_one] at b
 subst b c
 refine ⟨_,cap,rfl,j,k,fun i x hx=>⟨g,a.length,rfl,?_⟩⟩
 have o:Sat (Sl.cells g 0 (a++(A4 l++sp))*(Dl g e (a++(A4 l++sp)).length*F)) w:=m.eq (by unfold Sl.block;ac_rfl)
 have d:i<l.length:=(List.getElem?_eq_some_iff.1 hx).1
 have:=o.DC (a.length+i) (bv x) (by
  rw[List.getElem?_append_right (by omega),Nat.add_sub_cancel_left,List.getElem?_append_left (by rw[Cj];exact d)]
  exact S3 hx)
 rw[Nat.zero_add] at this
 exact this
end Go.Sl
namespace Go.Sl
class BG (A:outParam Ac) (w:World):Prop where
 out:Sat A w
class Oy (A:Ac) (b i:Nat) (v:outParam Value):Prop where
 out: ∀F w,Sat (A*F) w→w.cell? ⟨b,i,none⟩=some v
class Zg (w:World) (b i:Nat) (v:outParam Value):Prop where
 out:w.cell? ⟨b,i,none⟩=some v
instance(A:Ac)(b i:Nat)(v:Value)[h:DA A b i v]:Oy A b i v:=⟨fun F w hs=>by obtain ⟨G,rfl⟩:=h.out;exact (hs.eq (Ar _ _ _)).cell⟩
instance(w0:World)(b i:Nat)(v:Value)[h:Zg w0 b i v]:Oy (Jm w0) b i v:=⟨fun F w hs=>hs.Xk h.out⟩
instance(A B:Ac)(b i:Nat)(v:Value)[h:Oy A b i v]:Oy (A*B) b i v:=⟨fun F w hs=>h.out (B*F) w (hs.eq (Ar _ _ _))⟩
instance(A B:Ac)(b i:Nat)(v:Value)[h:Oy B b i v]:Oy (A*B) b i v:=⟨fun F w hs=>h.out (A*F) w (hs.eq (by ac_rfl))⟩
theorem Aa(w:World)(b i:Nat){A:Ac}{v:Value}[h:BG A w][h2:Oy A b i v]:w.cell? ⟨b,i,none⟩=some v:=h2.out 1 w (by rw[Bd];exact h.out)
theorem JL(w:World)(b i:Nat){A:Ac}{v:Value}[h:BG A w][h2:DA A b i v]:w.frozen? ⟨b,i,none⟩=false:=h.out.f b i
instance{A:Ac}{w:World}[h:BG A w]:BG A w.drew:=⟨h.out.drew⟩
instance{A:Ac}{w:World}(n:Nat)[h:BG A w]:BG A (w.drewN n):=⟨h.out.drewN n⟩
instance{A A':Ac}{w:World}{b i:Nat}{v':Value}[h:BG A w][h2:UC A b i v' A']:BG A' (w.setCell ⟨b,i,none⟩ v'):=⟨h.out.Et b i v'⟩
instance{A:Ac}{w:World}{c:Array Value}{t:TypeId}[h:BG A w]:BG (Sl.block w.heap.size t c.toList*A) (w.alloc (.cells c t)):=⟨h.out.alloc c t⟩
instance(priority:=high) alloc_list {A:Ac} {w:World} {l:List Value} {t:TypeId} [h:BG A w]:BG (Sl.block w.heap.size t l*A) (w.alloc (.cells l.toArray t)):=⟨h.out.alloc l.toArray t⟩
class At (vs:List Value) (k:Nat) (v:outParam Value):Prop where
 out:vs[k]?=some v
instance j9(v:Value)(l:List Value):At (v::l) 0 v:=⟨rfl⟩
instance j8(u v:Value)(l:List Value)(k:Nat)[h:At l k v]:At (u::l) (k+1) v:=⟨by simpa using h.out⟩
theorem Ex(b:Nat): ∀(vs:List Value)(i k:Nat)(v:Value),vs[k]?=some v→ ∃F,cells b i vs=Sl.cell b (i+k) v*F∧ ∀v',cells b i (vs.set k v')=Sl.cell b (i+k) v'*F
 | [],i,k,v,h=>by simp at h
 | u :: vs, i, 0, v, h => by
  simp at h;subst h
  exact ⟨cells b (i+1) vs,rfl,fun v'=>rfl⟩
 | u :: vs, i, k + 1, v, h => by
  simp at h
  obtain ⟨F,a,c⟩:=Ex b vs (i+1) k v h
  have e:i+1+k=i+(k+1):=by omega
  refine ⟨Sl.cell b i u*F,?_,fun v'=>?_⟩
  ·show Sl.cell b i u*cells b (i+1) vs=_
   rw[a,e];ac_rfl
  show Sl.cell b i u*cells b (i+1) (vs.set k v')=_
  rw[c,e];ac_rfl
instance(b t k:Nat)(vs:List Value)(v:Value)[h:At vs k v]:DA (block b t vs) b k v:=by
 obtain ⟨F,h1,h2⟩:=Ex b vs 0 k v h.out
 rw[Nat.zero_add] at h1
 exact ⟨Dl b t vs.length*F,by unfold block;rw[h1];ac_rfl⟩
instance(b t k:Nat)(vs:List Value)(v v':Value)[h:At vs k v]:UC (block b t vs) b k v' (block b t (vs.set k v')):=by
 obtain ⟨F,h1,h2⟩:=Ex b vs 0 k v h.out
 rw[Nat.zero_add] at h1 h2
 exact ⟨v,Dl b t vs.length*F,by unfold block;rw[h1];ac_rfl,by unfold block;rw[h2,List.length_set];ac_rfl⟩
theorem Sat.i{A:Ac}{w:World}(h:Sat A w):BG A w:=⟨h⟩
theorem BG.take{A:Ac}{w:World}(h:BG A w)(X:Ac){R:Ac}[t:Take A X R]:Sat (X*R) w:=h.out.take X
theorem Es{A:Ac}{w:World}[h:BG A w]:Sat A w:=h.out
theorem Ae{A:Ac}{w:World}[h:BG A w](X:Ac){R:Ac}[t:Take A X R]:Sat (X*R) w:=h.out.take X
theorem Sat.Mh{S:Ac}{w:World}(hs:Sat S w)(A B:Ac){R R':Ac}[h:Take S A R][h':Take R B R']:Sat (A*(B*R')) w:=hs.eq (by rw[h.out,h'.out])
theorem Sat.Mi{S:Ac}{w:World}(hs:Sat S w)(A B C:Ac){R R' a:Ac}[h:Take S A R][h':Take R B R'][h'':Take R' C a]:Sat (A*(B*(C*a))) w:=hs.eq (by rw[h.out,h'.out,h''.out])
theorem Sat.drop{S:Ac}{w:World}(hs:Sat S w)(A:Ac){R:Ac}[h:Take S A R]:Sat R w:=(hs.take A).right
theorem Br{A B C:Ac}{w:World}[h:BG A w](e:A=B*C):Sat B w:=Sat.CR (B:=C) (h.out.eq e)
theorem A8{A B:Ac}{w:World}[h:BG A w](e:A=B):Sat B w:=h.out.eq e
instance o6(e n c g o k:Nat)(xs:List Value)(v:Value)[h:At xs k v]:Oy (j' e 1 (.slice (some ⟨g,o,none⟩) n c) xs) g (o+k) v:=⟨fun F w hs=>by
 rcases hs.RT with ⟨h1,_⟩|⟨g',pre,n',cap,sp,h1,h2,h3,h4,h5,h6⟩
 ·cases h1
 cases h1
 have hl:=(List.getElem?_eq_some_iff.1 h.out).1
 refine (h6.S2 (k:=pre.length+k) (v:=v) ?_).1
 rw[List.getElem?_append_right (by omega),Nat.add_sub_cancel_left,List.getElem?_append_left hl]
 exact h.out⟩
instance x5(e n c g k:Nat)(xs:List Value)(v:Value)[h:At xs k v]:Oy (rw e 1 (.slice (some ⟨g,0,none⟩) n c) xs) g k v:=⟨fun F w hs=>by
 rcases hs.Cm with ⟨h1,_⟩|⟨g',n',cap,sp,h1,h2,h3,h4,h5,h6⟩
 ·cases h1
 cases h1
 have hl:=(List.getElem?_eq_some_iff.1 h.out).1
 refine (h6.S2 (k:=k) (v:=v) ?_).1
 rw[List.getElem?_append_left hl]
 exact h.out⟩
theorem Reads.MC{b e:Nat}{l:List UInt8}(hm:l.length≤maxLen):Reads (Sl.block b e (A4 l)) (.slice (some ⟨b,0,none⟩) l.length l.length) l:=by
 have h:=Reads.block (b:=b) (e:=e) (c:=l.length) (l:=l) (sp:= []) (Nat.le_refl _) hm
 rw[List.append_nil] at h
 exact h
theorem La{A R:Ac}{w:World}{b e:Nat}[h:BG A w][t:Take A (Sl.block b e []) R]:Sat (rw e 1 (.slice (some ⟨b,0,none⟩) 0 0) []*R) w:=
 Sat.Fg (sp:= []) rfl rfl (Nat.le_refl _) (by unfold maxLen;omega) (h.out.take (Sl.block b e []))
theorem Reads.VG{P:Program}{B:Ac}{v:Value}{l:List UInt8}(a:Reads B v l){n:Nat}(b:l.length=n){A R:Ac}{w:World}[h:BG A w][t:Take A B R]:Src P 1 w v n (A4 l):=by
 subst b
 exact (a _ _ (h.out.take B)).src
end Go.Sl
namespace Go.Sl
variable {κ:Type}
class FG (A:Ac) (M:Nat) (kf:κ→Value) (ms:outParam (List (κ×Value))):Prop where
 out: ∃F,A=mp kf M ms*F
class Mm (A:Ac) (M:Nat) (kf:κ→Value) (ms':List (κ×Value)) (A':outParam Ac):Prop where
 out: ∃ms F,A=mp kf M ms*F∧A'=mp kf M ms'*F
instance(M:Nat)(kf:κ→Value)(ms:List (κ×Value)):FG (mp kf M ms) M kf ms:=⟨1,(Bd _).symm⟩
instance(A B:Ac)(M:Nat)(kf:κ→Value)(ms:List (κ×Value))[h:FG A M kf ms]:FG (A*B) M kf ms:=let ⟨F,e⟩:=h.out;⟨F*B,by rw[e,Ar]⟩
instance(A B:Ac)(M:Nat)(kf:κ→Value)(ms:List (κ×Value))[h:FG B M kf ms]:FG (A*B) M kf ms:=let ⟨F,e⟩:=h.out;⟨A*F,by rw[e,B7]⟩
instance(M:Nat)(kf:κ→Value)(ms ms':List (κ×Value)):Mm (mp kf M ms) M kf ms' (mp kf M ms'):=⟨ms,1,(Bd _).symm,(Bd _).symm⟩
instance(A B A':Ac)(M:Nat)(kf:κ→Value)(ms':List (κ×Value))[h:Mm A M kf ms' A']:Mm (A*B) M kf ms' (A'*B):=let ⟨v,F,e,e'⟩:=h.out;⟨v,F*B,by rw[e,Ar],by rw[e',Ar]⟩
instance(A B B':Ac)(M:Nat)(kf:κ→Value)(ms':List (κ×Value))[h:Mm B M kf ms' B']:Mm (A*B) M kf ms' (A*B'):=let ⟨v,F,e,e'⟩:=h.out;⟨v,A*F,by rw[e,B7],by rw[e',B7]⟩
class PB (P:Program) (t:TypeId) (κ:outParam Type) [DecidableEq κ] (kf:outParam (κ→Value)) (z:outParam Value):Prop where
 out: ∃kt e,Kl P kt kf∧P.underlying t=some (.map kt e)∧ ∀w,(zeroValue e).run P w= .ok z w
def Result.world{α:Type} :Result α→World
 | .ok _ w=>w
 | .halt _ w=>w
def NC(P:Program)(t:TypeId)(M:Nat)(k v:Value)(w:World):World:=Result.world ((Instr.mapUpdate t (.map (some M)) k v).run P w)
def Oh(P:Program)(t:TypeId)(M:Nat)(k:Value)(w:World):World:=Result.world ((Builtin.delete_ #[t,0] 0 #[.map (some M),k]).run P w)
section
variable {P:Program} {t:TypeId} [DecidableEq κ] {kf:κ→Value} {z:Value}
theorem Nb(T:PB P t κ kf z)(w:World)(M:Nat)(k:κ){A:Ac}{ms:List (κ×Value)}[h:BG A w][h2:FG A M kf ms]:
 (Instr.lookup t (.map (some M)) (kf k) false).run P w= .ok ((Dx k ms).getD z) w:=by
 obtain ⟨kt,e,K,b,c⟩:=T.out
 obtain ⟨F,rfl⟩:=h2.out
 obtain ⟨o,a,hs⟩:=h.out.Ct
 simpa using D1 K b c hs.obj a k false
theorem Y7(T:PB P t κ kf z)(w:World)(M:Nat)(a:TypeId){A:Ac}{ms:List (κ×Value)}[h:BG A w][h2:FG A M kf ms]:
 (Builtin.len_ #[t] a #[.map (some M)]).run P w= .ok (.int .i64 ms.length) w:=by
 obtain ⟨kt,e,K,c,d⟩:=T.out
 obtain ⟨F,rfl⟩:=h2.out
 obtain ⟨o,b,hs⟩:=h.out.Ct
 exact Kc c hs.obj b a
theorem Ux(T:PB P t κ kf z)(w:World)(M:Nat)(k:κ)(v:Value){A:Ac}{ms:List (κ×Value)}[h:BG A w][h2:FG A M kf ms]:
 (Instr.mapUpdate t (.map (some M)) (kf k) v).run P w= .ok () (NC P t M (kf k) v w):=by
 obtain ⟨kt,e,K,c,d⟩:=T.out
 obtain ⟨F,rfl⟩:=h2.out
 obtain ⟨o,b,hs⟩:=h.out.Ct
 obtain ⟨o',_,a⟩:=Ch K c hs.obj b k v
 unfold NC
 rw[a];rfl
theorem Ua(T:PB P t κ kf z)(w:World)(M:Nat)(k:κ)(b f:TypeId){A:Ac}{ms:List (κ×Value)}[h:BG A w][h2:FG A M kf ms]:
 (Builtin.delete_ #[t,b] f #[.map (some M),kf k]).run P w= .ok (.tuple #[]) (Oh P t M (kf k) w):=by
 obtain ⟨kt,e,K,d,g⟩:=T.out
 obtain ⟨F,rfl⟩:=h2.out
 obtain ⟨o,c,hs⟩:=h.out.Ct
 obtain ⟨o',_,a⟩:=Gx K d hs.obj c k
 unfold Oh
 rw[a,a];rfl
theorem Qh(T:PB P t κ kf z){w:World}{M:Nat}{k:κ}{v:Value}{A A':Ac}{ms:List (κ×Value)}[h:BG A w][h2:FG A M kf ms][h3:Mm A M kf (Er k v ms) A']:BG A' (NC P t M (kf k) v w):=by
 obtain ⟨kt,e,K,n,q⟩:=T.out
 obtain ⟨G,g⟩:=h2.out
 obtain ⟨f,F,i,rfl⟩:=h3.out
 have a:Sat (mp kf M ms*G) w:=h.out.eq g
 have b:Sat (mp kf M f*F) w:=h.out.eq i
 obtain ⟨o,l,a⟩:=a.Ct
 obtain ⟨p,m,b⟩:=b.Ct
 have j:p=o:=by have:=a.obj;rw[b.obj] at this;exact Option.some.inj this
 subst j
 obtain ⟨o',c,d⟩:=Ch K n a.obj l k v
 unfold NC
 rw[d]
 exact ⟨Sat.Dn c (b.Gy o')⟩
theorem Ub(T:PB P t κ kf z){w:World}{M:Nat}{k:κ}{A A':Ac}{ms:List (κ×Value)}[h:BG A w][h2:FG A M kf ms][h3:Mm A M kf (EU k ms) A']:BG A' (Oh P t M (kf k) w):=by
 obtain ⟨kt,e,K,n,q⟩:=T.out
 obtain ⟨G,g⟩:=h2.out
 obtain ⟨f,F,i,rfl⟩:=h3.out
 have a:Sat (mp kf M ms*G) w:=h.out.eq g
 have b:Sat (mp kf M f*F) w:=h.out.eq i
 obtain ⟨o,l,a⟩:=a.Ct
 obtain ⟨p,m,b⟩:=b.Ct
 have j:p=o:=by have:=a.obj;rw[b.obj] at this;exact Option.some.inj this
 subst j
 obtain ⟨o',c,d⟩:=Gx K n a.obj l k
 unfold Oh
 rw[d]
 exact ⟨Sat.Dn c (b.Gy o')⟩
end
end Go.Sl
namespace Go
open Go.Sl
theorem Mp{α:Sort _}(a:α): ∃b,a=b:=⟨a,rfl⟩
end Go
namespace Go.UB
open Go.Sl
def pt(a:Nat×Nat):Value:= .pointer (some ⟨a.1,a.2,none⟩)
def EF(u v:Nat×Nat):Ac:=Sl.cell u.1 (u.2+4) (pt v)*Sl.cell v.1 (v.2+3) (pt u)
def chain:List (Nat×Nat)→Ac
 |u::v::l=>EF u v*chain (v::l)
 |_=>1
structure Nd where
 b:Nat
 key:Int
 pins:Int
 Hr:Bool
abbrev AZ:Int→Value:=fun n=>Value.int .i64 n
def item(a:TypeId)(n:Nd):Ac:=Dl n.b a 5*(Sl.cell n.b 0 (.int .i64 n.key)*(Sl.cell n.b 1 (.int .i64 n.pins)*Sl.cell n.b 2 (.bool n.Hr)))
def items(a:TypeId):List Nd→Ac
 | []=>1
 |n::l=>item a n*items a l
def kv(n:Nd):Int×Value:=(n.key,.pointer (some ⟨n.b,0,none⟩))
def IG(M:Nat)(ns:List Nd):Ac:=fun h=> ∃ms,ms.Perm (ns.map kv)∧mp AZ M ms h
def ring(L:Nat)(ns:List Nd):List (Nat×Nat):=(L,1)::(ns.map (fun n=>(n.b,0))++ [(L,1)])
abbrev core(tl:TypeId)(L M:Nat)(cap:Int):Ac:=
 Dl L tl 7*(Sl.cell L 0 (.int .i64 cap)*(Sl.cell L 1 (.int .i64 0)*(Sl.cell L 2 (.int .i64 0)*(Sl.cell L 3 (.bool false)*Sl.cell L 6 (.map (some M))))))
def CC(b a:TypeId)(L M:Nat)(cap:Int)(ns:List Nd):Ac:=
 core b L M cap*(IG M ns*(chain (ring L ns)*items a ns))
theorem Xr{M:Nat}{ns c:List Nd}(h:ns.Perm c):IG M ns=IG M c:=by
 funext h'
 apply propext
 constructor
 ·rintro ⟨ms,a,b⟩;exact ⟨ms,a.trans (h.map kv),b⟩
 rintro ⟨ms,a,b⟩;exact ⟨ms,a.trans (h.map kv).symm,b⟩
theorem SI{b:TypeId}{ns a:List Nd}(h:ns.Perm a):items b ns=items b a:=by
 induction h with
 |nil=>rfl
 |cons x _ e=>simp[items,e]
 |swap x y l=>simp only[items];rw[B7]
 |trans _ _ c d=>rw[c,d]
theorem Dm(a:TypeId)(l1 l2:List Nd):items a (l1++l2)=items a l1*items a l2:=by
 induction l1 with
 |nil=>simp[items,Am]
 |cons n l b=>simp[items,b,Ar]
theorem F5(l1:List (Nat×Nat))(u:Nat×Nat)(l2:List (Nat×Nat)):chain (l1++u::l2)=chain (l1++ [u])*chain (u::l2):=by
 induction l1 with
 |nil=>simp[chain,Am]
 | cons v l a =>
  cases l with
  |nil=>simp[chain,Bd]
  | cons x l =>
   simp only[List.cons_append] at a⊢
   simp only[chain,Ar,a]
def before(L:Nat)(l1:List Nd):Nat×Nat:=match l1.getLast? with
 |some n=>(n.b,0)
 |none=>(L,1)
def behind(L:Nat)(l2:List Nd):Nat×Nat:=match l2 with
 |n::_=>(n.b,0)
 | []=>(L,1)
theorem Tv(L:Nat)(l1 l2:List Nd): ∃p q:List (Nat×Nat),(∀YC:List Nd,ring L (l1++YC++l2)=p++before L l1::(YC.map (fun n=>(n.b,0))++behind L l2::q)):=by
 have a: ∃p,(L,1)::l1.map (fun n=>(n.b,0))=p++ [before L l1]:=by
  unfold before
  rcases List.eq_nil_or_concat l1 with rfl|⟨l,n,rfl⟩
  ·exact ⟨[],rfl⟩
  exact ⟨(L,1)::l.map (fun n=>(n.b,0)),by simp⟩
 have c: ∃q,l2.map (fun n=>(n.b,0))++ [(L,1)]=behind L l2::q:=by
  unfold behind
  cases l2 with
  |nil=>exact ⟨[],rfl⟩
  |cons n l=>exact ⟨l.map (fun n=>(n.b,0))++ [(L,1)],by simp⟩
 obtain ⟨p,hp⟩:=a
 obtain ⟨q,hq⟩:=c
 refine ⟨p,q,fun YC=>?_⟩
 have:ring L (l1++YC++l2)=((L,1)::l1.map (fun n=>(n.b,0)))++(YC.map (fun n=>(n.b,0))++(l2.map (fun n=>(n.b,0))++ [(L,1)])):=by simp[ring]
 rw[this,hp,hq]
 simp
theorem X4(L:Nat)(l1:List Nd)(n:Nd)(l2:List Nd): ∃R:Ac,
 chain (ring L (l1++n::l2))=EF (before L l1) (n.b,0)*EF (n.b,0) (behind L l2)*R∧
 chain (ring L (l1++l2))=EF (before L l1) (behind L l2)*R:=by
 obtain ⟨p,q,h⟩:=Tv L l1 l2
 refine ⟨chain (p++ [before L l1])*chain (behind L l2::q),?_,?_⟩
 ·have:=h [n]
  simp only[List.map_cons,List.map_nil,List.cons_append,List.nil_append,List.append_assoc] at this
  rw[this,F5]
  simp only[chain]
  ac_rfl
 have:=h []
 simp only[List.map_nil,List.nil_append,List.append_nil] at this
 rw[this,F5]
 simp only[chain]
 ac_rfl
theorem LF(L:Nat)(ns:List Nd): ∃R:Ac,chain (ring L ns)=EF (before L ns) (L,1)*R∧
 ∀n:Nd,chain (ring L (ns++ [n]))=EF (before L ns) (n.b,0)*EF (n.b,0) (L,1)*R:=by
 have a: ∃p,(L,1)::ns.map (fun n=>(n.b,0))=p++ [before L ns]:=by
  unfold before
  rcases List.eq_nil_or_concat ns with rfl|⟨l,n,rfl⟩
  · exact ⟨[],rfl⟩
  exact ⟨(L,1)::l.map (fun n=>(n.b,0)),by simp⟩
 obtain ⟨p,hp⟩:=a
 refine ⟨chain (p++ [before L ns]),?_,?_⟩
 · have:ring L ns=p++before L ns:: [(L,1)]:=by
    have:ring L ns=((L,1)::ns.map (fun n=>(n.b,0)))++ [(L,1)]:=by simp[ring]
    rw[this,hp];simp
   rw[this,F5]
   simp only[chain,Bd]
   ac_rfl
 intro n
 have:ring L (ns++ [n])=p++before L ns:: [(n.b,0),(L,1)]:=by
  have:ring L (ns++ [n])=((L,1)::ns.map (fun n=>(n.b,0)))++ [(n.b,0),(L,1)]:=by simp[ring]
  rw[this,hp];simp
 rw[this,F5]
 simp only[chain,Bd]
 ac_rfl
theorem Tu(L:Nat)(ns:List Nd): ∃R:Ac,chain (ring L ns)=EF (L,1) (behind L ns)*R:=by
 cases ns with
 |nil=>exact ⟨1,by simp[ring,chain,behind]⟩
 |cons n l=>exact ⟨chain ((n.b,0)::(l.map (fun n=>(n.b,0))++ [(L,1)])),by simp[ring,chain,behind]⟩
theorem L2{κ:Type}[DecidableEq κ]{ms:List (κ×Value)} : ∀{ns:List (κ×Value)},ms.Perm ns→(ns.map (·.1)).Nodup→ ∀k,Dx k ms=Dx k ns:=by
 intro ns hp
 induction hp with
 |nil=>intro _ _;rfl
 | cons x _ f =>
  intro a k
  simp only[List.map_cons,List.nodup_cons] at a
  simp only[Dx]
  split
  ·rfl
  exact f a.2 k
 | swap x y l =>
  intro a k
  simp only[List.map_cons,List.nodup_cons,List.mem_cons,not_or] at a
  simp only[Dx]
  split<;>split<;>simp_all
 | trans g e c d =>
  intro a k
  have b:=(e.map (·.1)).nodup_iff.2 a
  rw[c b k,d a k]
theorem SX{k:Int}{l1:List Nd}{n:Nd}{l2:List Nd}(c:n.key=k)(a:((l1++n::l2).map (·.key)).Nodup):Dx k ((l1++n::l2).map kv)=some (.pointer (some ⟨n.b,0,none⟩)):=by
 induction l1 with
 |nil=>simp[Dx,kv,c]
 | cons m l d =>
  simp only[List.cons_append,List.map_cons,List.nodup_cons] at a
  simp only[List.cons_append,List.map_cons,Dx]
  rw[if_neg,d a.2]
  intro e
  apply a.1
  simp[kv] at e
  simp[←e,c]
theorem Pa{k:Int}{ns:List Nd}(h: ∀n∈ns,n.key≠k):Dx k (ns.map kv)=none:=by
 induction ns with
 |nil=>rfl
 | cons m l b =>
  simp only[List.map_cons,Dx]
  rw[if_neg,b fun n a=>h n (List.mem_cons_of_mem _ a)]
  intro e
  exact h m (List.mem_cons_self) e.symm
theorem Pd{ms:List (Int×Value)}{ns:List Nd}(hp:ms.Perm (ns.map kv))(a:(ns.map (·.key)).Nodup){n:Nd}(h: ∀m∈ns,m.key≠n.key):(Er n.key (.pointer (some ⟨n.b,0,none⟩)) ms).Perm ((ns++ [n]).map kv):=by
 have c:((ns.map kv).map (·.1)).Nodup:=by simpa[List.map_map,Function.comp_def,kv] using a
 rw[Nl (by rw[L2 hp c];exact Pa h)]
 simp only[List.map_append,List.map_cons,List.map_nil]
 exact hp.append_right _
theorem Vp{κ:Type}[DecidableEq κ]{ms ns:List (κ×Value)}(hp:ms.Perm ns):(ns.map (·.1)).Nodup→ ∀k,(EU k ms).Perm (EU k ns):=by
 induction hp with
 |nil=>intro _ _;exact .nil
 | cons x h i =>
  intro a k
  simp only[List.map_cons,List.nodup_cons] at a
  simp only[EU]
  split
  ·exact h
  exact (i a.2 k).cons x
 | swap x y l =>
  intro a k
  simp only[List.map_cons,List.nodup_cons,List.mem_cons,not_or] at a
  simp only[EU]
  split<;>split
  ·rename_i g b;exact absurd (g.symm.trans b) (fun e=>a.1.1 e.symm)
  ·exact .refl _
  ·exact .refl _
  exact .swap _ _ _
 | trans g b d f =>
  intro a k
  have c:=(b.map (·.1)).nodup_iff.2 a
  exact (d c k).trans (f a k)
theorem SV{k:Int}{l1:List Nd}{n:Nd}{l2:List Nd}(b:n.key=k)(a:((l1++n::l2).map (·.key)).Nodup):EU k ((l1++n::l2).map kv)=(l1++l2).map kv:=by
 induction l1 with
 |nil=>simp[EU,kv,b]
 | cons m l c =>
  simp only[List.cons_append,List.map_cons,List.nodup_cons] at a
  simp only[List.cons_append,List.map_cons,EU]
  rw[if_neg,c a.2]
  intro e
  apply a.1
  simp[kv] at e
  simp[←e,b]
theorem Sat.FV{M:Nat}{ns:List Nd}{F:Ac}{w:World}(hs:Sat (IG M ns*F) w): ∃ms o,ms.Perm (ns.map kv)∧Fi AZ o ms∧Sat (raw M o*F) w:=by
 obtain ⟨_,⟨g,k,d,rfl,⟨ms,hp,hr⟩,hF⟩,H⟩:=hs
 obtain ⟨o,a,c⟩:=Sat.Ct (kf:=AZ) (b:=M) (ms:=ms) (F:=F) ⟨_,⟨g,k,d,rfl,hr,hF⟩,H⟩
 exact ⟨ms,o,hp,a,c⟩
theorem Sat.II{M:Nat}{ns:List Nd}{F:Ac}{w:World}{ms:List (Int×Value)}{o:Obj}(hp:ms.Perm (ns.map kv))(a:Fi AZ o ms)(hs:Sat (raw M o*F) w):Sat (IG M ns*F) w:=by
 obtain ⟨_,⟨g,k,d,rfl,hr,hF⟩,H⟩:=Sat.Dn a hs
 exact ⟨_,⟨g,k,d,rfl,⟨ms,hp,hr⟩,hF⟩,H⟩
theorem JP{ns:List Nd}(a:(ns.map (·.key)).Nodup):((ns.map kv).map (·.1)).Nodup:=by simpa[List.map_map,Function.comp_def,kv] using a
theorem Hj(ns:List Nd)(k:Int):(∃l1 n l2,ns=l1++n::l2∧n.key=k)∨(∀n∈ns,n.key≠k):=by
 by_cases h: ∃n∈ns,n.key=k
 ·obtain ⟨n,b,a⟩:=h
  obtain ⟨l1,l2,e⟩:=List.append_of_mem b
  exact .inl ⟨l1,n,l2,e,a⟩
 exact .inr fun n b a=>h ⟨n,b,a⟩
