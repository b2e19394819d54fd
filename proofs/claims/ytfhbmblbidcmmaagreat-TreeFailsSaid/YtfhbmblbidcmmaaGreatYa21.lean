/- treeFails holds for every input. No condition. (part 21) -/
import Derived.Test.YtfhbmblbidcmmaaGreatYa15
set_option linter.all false
namespace Go.Tr
inductive DR (σ α:Type) where
 |ok (a:α) (s:σ)
 |fault (e:Int) (s:σ)
 |bad
abbrev M(σ α:Type):=σ→DR σ α
section
variable {σ α β:Type}
def DR.bind(r:DR σ α)(f:α→M σ β):DR σ β:=match r with
 | .ok a s=>f a s
 | .fault e s=> .fault e s
 | .bad=> .bad
def M.pure(a:α):M σ α:=fun s=> .ok a s
def M.fail(e:Int):M σ α:=fun s=> .fault e s
def M.bad:M σ α:=fun _=> .bad
def M.bind(x:M σ α)(f:α→M σ β):M σ β:=fun s=>(x s).bind f
end
def many(n:Nd):Nat:=n.Ao.length+n.kids.length
def both(a b:Nd):Nd:=⟨a.leaf,a.Ao++b.Ao,a.kids++b.kids⟩
def sub{α:Type}(l:List α)(i j:Nat):List α:=(l.drop i).take (j-i)
def Cq(n:Nd)(i j:Nat):Nd:=if n.leaf then ⟨true,sub n.Ao i j,[]⟩ else ⟨false,[],sub n.kids i j⟩
def D':Kd:=⟨0,0,0,0⟩
structure BH where
 DK:Kd
 An:Int
def Co:BH:=⟨D',-1⟩
section
variable {σ:Type} (rd:Int→M σ Nd) (wt:Nd→M σ Kd)
def Ci(n:Nd)(Bc:Nat):Nat→Nat→Nat→List Kd→M σ (List Kd)
 |0,_,_,out=>M.pure out
 | c + 1, i, at_, out => M.bind (wt (Cq n at_ (at_ + (many n / Bc + (if i < many n % Bc then 1 else 0))))) fun k =>
  Ci n Bc c (i+1) (at_+(many n/Bc+(if i<many n%Bc then 1 else 0))) (out++ [k])
def AV(n:Nd):Nat:=(many n+11)/12
def Bt(n:Nd):M σ (List Kd):=Ci wt n (AV n) (AV n) 0 0 []
def DS:Nat→List Kd→Int→M σ BH
 |_,[],_=>M.pure Co
 |_,[k],h=>M.pure ⟨k,h⟩
 |0,_,_=>M.bad
 |f+1,ks,h=>M.bind (Bt wt ⟨false,[],ks⟩) fun a=>DS f a (h+1)
def grown(ks:List Kd)(h:Int):M σ BH:=DS wt ks.length ks h
def BO(l:List As):M σ BH:=M.bind (Bt wt ⟨true,l,[]⟩) fun ks=>grown wt ks 0
def Cd : Nat → BH → BH → M σ (List Kd × Int)
 |0,_,_=>M.bad
 | f + 1, a, b =>
  if b.An < a.An then M.bind (rd a.DK.Ay) fun x =>
   match x.kids.getLast? with
   |none=>M.bad
   | some z =>
    if x.leaf then M.bad else M.bind (Cd f ⟨z,a.An-1⟩ b) fun r=>
     M.bind (Bt wt (both (Cq x 0 (x.kids.length-1)) ⟨false,[],r.1⟩)) fun out=>M.pure (out,a.An)
  else if a.An<b.An then M.bind (rd b.DK.Ay) fun y=>
   match y.kids with
   | []=>M.bad
   | z :: _ =>
    if y.leaf then M.bad else M.bind (Cd f a ⟨z,b.An-1⟩) fun r=>
     M.bind (Bt wt (both ⟨false,[],r.1⟩ (Cq y 1 y.kids.length))) fun out=>M.pure (out,b.An)
  else M.bind (rd a.DK.Ay) fun x=>M.bind (rd b.DK.Ay) fun y=>if x.leaf=y.leaf then M.bind (Bt wt (both x y)) fun out=>M.pure (out,a.An) else M.bad
def JF(a b:BH):Nat:=(max a.An b.An).toNat+1
def DT(a b:BH):M σ BH:=
 if a.An<0 then M.pure b else
 if b.An<0 then M.pure a else M.bind (Cd rd wt (JF a b) a b) fun r=>grown wt r.1 r.2
def CE(ks:List Kd)(h:Int):M σ BH:=grown wt ks (h-1)
def EJ:List As→Int→Nat→Option Nat
 | l, n, k => match l with
  | []=>if 0<n then none else some k
  |x::l=>if 0<n then EJ l (n-x.len) (k+1) else some k
def GO:List Kd→Int→Nat→Option (Nat×Int)
 | [],_,_=>none
 |x::l,n,k=>if x.bytes≤n then GO l (n-x.bytes) (k+1) else some (k,n)
def Be:Nat→BH→Int→M σ (BH×BH)
 | f, x, n =>
  if n≤0 then M.pure (Co,x) else
  if x.DK.bytes≤n then M.pure (x,Co) else
  match f with
  |0=>M.bad
  | f + 1 => M.bind (rd x.DK.Ay) fun y =>
   if y.leaf then
    match EJ y.Ao n 0 with
    |none=>M.bad
    |some k=>M.bind (BO wt (y.Ao.take k)) fun a=>M.bind (BO wt (y.Ao.drop k)) fun b=>M.pure (a,b)
   else
    match GO y.kids n 0 with
    |none=>M.bad
    | some (k, r) =>
     if r=0 then M.bind (CE wt (y.kids.take k) x.An) fun a=>M.bind (CE wt (y.kids.drop k) x.An) fun b=>M.pure (a,b)
     else
      match y.kids[k]? with
      |none=>M.bad
      | some z => M.bind (Be f ⟨z, x.An - 1⟩ r) fun p =>
       M.bind (CE wt (y.kids.take k) x.An) fun a=>M.bind (DT rd wt a p.1) fun a=>
       M.bind (CE wt (y.kids.drop (k+1)) x.An) fun b=>M.bind (DT rd wt p.2 b) fun b=>M.pure (a,b)
def Cw:Nat→Nd→Int→M σ Int
 | f, n, h =>
  if n.leaf then M.pure h else
  match f with
  |0=>M.fail 13
  | f + 1 => match n.kids with
   | []=>M.bad
   |k::_=>M.bind (rd k.Ay) fun m=>Cw f m (h+1)
def Jx(no:Int)(n:Nd):Kd:=⟨no,(Bl n).1,(Bl n).2.1,(Bl n).2.2⟩
def DN(root:Int):M σ BH:=
 if root=0 then M.pure Co else M.bind (rd root) fun n=>M.bind (Cw rd 20 n 0) fun h=>M.pure ⟨Jx root n,h⟩
inductive ZW where
 |here (x:As) (ahead:Int)
 |below (Ay:Int) (ahead:Int)
 |V0
def JM:List As→Int→Int→ZW ⊕ Int
 | [],_,ahead=> .inr ahead
 |x::l,n,ahead=>if n<ahead+x.len then .inl (.here x ahead) else JM l n (ahead+x.len)
def Lx:List Kd→Int→Int→ZW
 | [],_,_=> .V0
 |k::l,n,ahead=>if n<ahead+k.bytes then .below k.Ay ahead else Lx l n (ahead+k.bytes)
def UW(n:Nd)(at_ ahead:Int):ZW:=match JM n.Ao at_ ahead with
 | .inl h=>h
 | .inr a=>Lx n.kids at_ a
def DG:Nat→Nd→Int→Int→M σ (As×Int)
 |0,_,_,_=>M.fail 13
 | f + 1, n, at_, ahead => match UW n at_ ahead with
  | .here x a=>M.pure (x,a)
  | .V0=>M.fail 13
  | .below p a=>M.bind (rd p) fun m=>DG f m at_ a
def IX(root at_:Int):M σ (As×Int):=M.bind (rd root) fun n=>DG rd 22 n at_ 0
def C4:List As→Int→Int→Int×Int
 | [],n,r=>(n,r)
 |y::l,n,r=>C4 l (n-y.len) (if 0<n then r+1 else r)
def F3:List Kd→Int→Int→(Kd×Int×Int) ⊕ Int
 | [],_,r=> .inr r
 |k::l,n,r=>if n<k.bytes then .inl (k,n,r) else F3 l (n-k.bytes) (r+k.A7)
def Cu:Nat→BH→Int→M σ Int
 | f, x, n =>
  if n≤0∨x.An<0 then M.pure 0 else
  if x.DK.bytes≤n then M.pure x.DK.A7 else
  match f with
  |0=>M.bad
  | f + 1 => M.bind (rd x.DK.Ay) fun y => match F3 y.kids (C4 y.Ao n 0).1 (C4 y.Ao n 0).2 with
   | .inr r=>M.pure r
   | .inl (k,m,r)=>M.bind (Cu f ⟨k,x.An-1⟩ m) fun z=>M.pure (r+z)
def En(root:Int):M σ Int:=if root=0 then M.pure 0 else M.bind (rd root) fun n=>M.pure (Bl n).1
def Ib(l:List As):M σ Int:=M.bind (BO wt l) fun t=>M.pure t.DK.Ay
def leftOf(root at_:Int):M σ (List As×Int):=
 if 0<at_ then M.bind (IX rd root (at_-1)) fun p=>M.pure (part p.1 0 (at_-p.2),p.2) else M.pure ([],at_)
def DL(root to all:Int):M σ (List As×Int):=
 if to<all then M.bind (IX rd root to) fun p=>M.pure (part p.1 (to-p.2) p.1.len,p.2+p.1.len) else M.pure ([],to)
def EB(root at_ n all:Int)(put:List As):M σ Int:=
 M.bind (leftOf rd root at_) fun L=>M.bind (DL rd root (at_+n) all) fun R=>
 M.bind (DN rd root) fun whole=>M.bind (Cu rd 30 whole R.2) fun r1=>M.bind (Cu rd 30 whole L.2) fun r0=>
 if 1024<whole.DK.A7-r1+r0+(join (L.1++put++R.1)).length then M.fail 11 else
 M.bind (Be rd wt 30 whole L.2) fun p=>M.bind (Be rd wt 30 p.2 (R.2-L.2)) fun q=>
 M.bind (BO wt (join (L.1++put++R.1))) fun m=>M.bind (DT rd wt p.1 m) fun x=>M.bind (DT rd wt x q.2) fun y=>M.pure y.DK.Ay
end
def F2{α β:Type}(R:α→β→Prop):List α→List β→Prop
 | [],[]=>True
 |a::l,b::m=>R a b∧F2 R l m
 |_,_=>False
section
variable {α β:Type} {R R':α→β→Prop}
theorem F2.len: ∀{l:List α}{m:List β},F2 R l m→l.length=m.length
 | [],[],_=>rfl
 |a::l,b::m,h=>by simp[F2.len h.2]
 | [],_::_,h=>h.elim
 |_::_,[],h=>h.elim
theorem F2.mono(f: ∀a b,R a b→R' a b): ∀{l:List α}{m:List β},F2 R l m→F2 R' l m
 | [],[],_=>trivial
 |a::l,b::m,h=>⟨f _ _ h.1,F2.mono f h.2⟩
 | [],_::_,h=>h.elim
 |_::_,[],h=>h.elim
theorem F2.append: ∀{l c:List α}{m m':List β},F2 R l m→F2 R c m'→F2 R (l++c) (m++m')
 | [],_,[],_,_,h=>h
 |a::l,_,b::m,_,h,d=>⟨h.1,F2.append h.2 d⟩
 | [],_,_::_,_,h,_=>h.elim
 |_::_,_,[],_,h,_=>h.elim
theorem F2.split: ∀{l c:List α}{m:List β},F2 R (l++c) m→F2 R l (m.take l.length)∧F2 R c (m.drop l.length)
 | [],_,_,h=>⟨trivial,h⟩
 |a::l,c,b::m,h=>⟨⟨h.1,(F2.split h.2).1⟩,(F2.split h.2).2⟩
 |_::_,_,[],h=>h.elim
theorem F2.take{l:List α}{m:List β}(h:F2 R l m)(i:Nat):F2 R (l.take i) (m.take i):=by
 induction i generalizing l m with
 |zero=>exact trivial
 | succ i a =>
  cases l<;>cases m<;>first|exact trivial|exact h.elim|exact ⟨h.1,a h.2⟩
theorem F2.drop{l:List α}{m:List β}(h:F2 R l m)(i:Nat):F2 R (l.drop i) (m.drop i):=by
 induction i generalizing l m with
 |zero=>exact h
 | succ i a =>
  cases l<;>cases m<;>first|exact trivial|exact h.elim|exact a h.2
theorem F2.at{l:List α}{m:List β}(h:F2 R l m){i:Nat}{a:α}(ha:l[i]?=some a): ∃b,m[i]?=some b∧R a b:=by
 induction i generalizing l m with
 | zero =>
  cases l<;>cases m<;>first|(cases ha;done)|exact h.elim|skip
  cases ha
  exact ⟨_,rfl,h.1⟩
 | succ i c =>
  cases l<;>cases m<;>first|(cases ha;done)|exact h.elim|skip
  exact c h.2 (by simpa using ha)
end
structure Env (σ:Type) where
 rd:Int→M σ Nd
 wt:Nd→M σ Kd
 V:σ→Int→Option Nd
 inv:σ→Prop
 reads:σ→Nat
 room:σ→Nat
 left:σ→Nat
 bad:Int→Prop
def Le(v v':Int→Option Nd):Prop:= ∀p n,v p=some n→v' p=some n
theorem Le.KX(v:Int→Option Nd):Le v v:=fun _ _ h=>h
theorem Le.trans{a b c:Int→Option Nd}(h:Le a b)(k:Le b c):Le a c:=fun p n e=>k p n (h p n e)
section
variable {σ α β:Type} (X:Env σ)
def Step(s:σ)(R W:Nat)(m:M σ α)(Q:α→σ→Prop):Prop:=X.room s<W∨match m s with
 | .ok a s'=>X.inv s'∧Le (X.V s) (X.V s')∧X.reads s'≤X.reads s+R∧X.room s≤X.room s'+W∧X.left s≤X.left s'+(R+W)∧Q a s'
 | .fault e s'=>(X.bad e∨X.room s<W)∧X.inv s'∧Le (X.V s) (X.V s')∧X.reads s'≤X.reads s+R∧X.left s≤X.left s'+(R+W)
 | .bad=>X.left s<R+W
variable {X}
theorem Step.bind{s:σ}{R1 R2 W1 W2:Nat}{m:M σ α}{f:α→M σ β}{n:α→σ→Prop}{Q:β→σ→Prop}(h:Step X s R1 W1 m n)
 (g: ∀a s',X.inv s'→Le (X.V s) (X.V s')→n a s'→Step X s' R2 W2 (f a) Q):Step X s (R1+R2) (W1+W2) (M.bind m f) Q:=by
 unfold Step at h⊢
 rcases h with h|h
 ·exact .inl (by omega)
 unfold M.bind DR.bind
 cases hm:m s with
 | ok a s' =>
  rw[hm] at h
  obtain ⟨i,d,o,t,v,p⟩:=h
  have c:=g a s' i d p
  unfold Step at c
  rcases c with c|c
  ·exact .inl (by omega)
  right
  simp only
  cases g:f a s' with
  | ok b s2 =>
   rw[g] at c
   obtain ⟨j,l,q,u,w,r⟩:=c
   exact ⟨j,d.trans l,by omega,by omega,by omega,r⟩
  | fault e s2 =>
   rw[g] at c
   obtain ⟨j,l,q,u,r⟩:=c
   refine ⟨?_,l,d.trans q,by omega,by omega⟩
   rcases j with k|k
   ·exact .inl k
   exact .inr (by omega)
  | bad =>
   rw[g] at c
   simp only at c⊢
   omega
 | fault e s' =>
  rw[hm] at h
  obtain ⟨i,d,o,t,p⟩:=h
  refine .inr ⟨?_,d,o,by omega,by omega⟩
  rcases i with k|k
  ·exact .inl k
  exact .inr (by omega)
 | bad =>
  rw[hm] at h
  right
  simp only at h⊢
  omega
theorem Step.mono{s:σ}{R R' W f:Nat}{m:M σ α}{Q d:α→σ→Prop}(h:Step X s R W m Q)(o:R≤R')(p:W≤f)
 (l: ∀a s',X.inv s'→Le (X.V s) (X.V s')→Q a s'→d a s'):Step X s R' f m d:=by
 unfold Step at h⊢
 rcases h with h|h
 ·exact .inl (by omega)
 cases hm:m s with
 | ok a s' =>
  rw[hm] at h
  obtain ⟨b,c,g,j,n,i⟩:=h
  exact .inr ⟨b,c,by omega,by omega,by omega,l a s' b c i⟩
 | fault e s' =>
  rw[hm] at h
  obtain ⟨b,c,g,j,i⟩:=h
  refine .inr ⟨?_,c,g,by omega,by omega⟩
  rcases b with k|k
  ·exact .inl k
  exact .inr (by omega)
 | bad =>
  rw[hm] at h
  right
  simp only at h⊢
  omega
theorem Step.pure{s:σ}{a:α}{Q:α→σ→Prop}(b:X.inv s)(h:Q a s):Step X s 0 0 (M.pure a) Q:= .inr ⟨b,Le.KX _,by omega,by omega,by omega,h⟩
theorem Step.ret{s:σ}{R W:Nat}{a:α}{Q:α→σ→Prop}(b:X.inv s)(h:Q a s):Step X s R W (M.pure a) Q:=(Step.pure b h).mono (by omega) (by omega) fun _ _ _ _ h=>h
structure Env.Ok (X:Env σ):Prop where
 rd: ∀s p n,X.inv s→X.V s p=some n→Step X s 1 0 (X.rd p) (fun m s'=>m=n)
 wt: ∀s n,X.inv s→may n=true→Step X s 0 1 (X.wt n) (fun k s'=>k=Jx k.Ay n∧1≤k.Ay∧k.Ay<1048576∧X.V s' k.Ay=some n)
end
def Sub(v : Int → Option Nd) : Nat → Nat → Nat → Kd → List As → Prop
 |0=>fun lo hi k l=>v k.Ay=some ⟨true,l,[]⟩∧may ⟨true,l,[]⟩=true∧lo≤l.length∧l.length≤hi∧k=Jx k.Ay ⟨true,l,[]⟩∧1≤k.Ay∧k.Ay<1048576
 |h+1=>fun lo hi k l=> ∃(ks:List Kd)(ls:List (List As)),v k.Ay=some ⟨false,[],ks⟩∧may ⟨false,[],ks⟩=true∧lo≤ks.length∧ks.length≤hi∧k=Jx k.Ay ⟨false,[],ks⟩∧1≤k.Ay∧k.Ay<1048576∧
  F2 (Sub v h 4 12) ks ls∧l=ls.flatten
def NZ(v:Int→Option Nd):Nat→Nd→List (List As)→Prop
 |0=>fun n ls=>n=⟨true,n.Ao,[]⟩∧ls=n.Ao.map fun e=> [e]
 |h+1=>fun n ls=>n=⟨false,[],n.kids⟩∧F2 (Sub v h 4 12) n.kids ls
def Fit(l:List As):Prop:=(∀x∈l,Ai x=true)∧Ab l≤1048576∧l.length≤1024
theorem GD(l:List As):(l.map fun e=> [e]).flatten=l:=by
 induction l with
 |nil=>rfl
 |cons a l b=>simp only[List.map_cons,List.flatten_cons,b,List.singleton_append]
theorem Mx{v:Int→Option Nd}{h:Nat}{n:Nd}{ls:List (List As)}(b:NZ v h n ls):many n=ls.length:=by
 cases h with
 | zero =>
  obtain ⟨a,rfl⟩:=b
  rw[a]
  simp[many]
 | succ h =>
  obtain ⟨a,c⟩:=b
  rw[a]
  simp[many,c.len]
theorem F7{v:Int→Option Nd}{h lo hi:Nat}{k:Kd}{l:List As} :Sub v h lo hi k l↔ ∃n ls,v k.Ay=some n∧NZ v h n ls∧may n=true∧lo≤many n∧many n≤hi∧k=Jx k.Ay n∧1≤k.Ay∧k.Ay<1048576∧l=ls.flatten:=by
 cases h with
 | zero =>
  constructor
  ·rintro ⟨b,a,c,d,f,g,i⟩
   exact ⟨_,l.map fun e=> [e],b,⟨rfl,rfl⟩,a,by simpa[many] using c,by simpa[many] using d,f,g,i,(GD l).symm⟩
  rintro ⟨n,ls,b,⟨a,rfl⟩,c,d,f,g,i,j,rfl⟩
  rw[GD]
  obtain ⟨o,es,ks⟩:=n
  simp only at a
  cases a
  exact ⟨b,c,by simpa[many] using d,by simpa[many] using f,g,i,j⟩
 | succ h =>
  constructor
  ·rintro ⟨ks,ls,b,a,c,d,f,g,i,j,rfl⟩
   exact ⟨_,ls,b,⟨rfl,j⟩,a,by simpa[many] using c,by simpa[many] using d,f,g,i,rfl⟩
  rintro ⟨n,ls,b,⟨a,m⟩,c,d,f,g,i,j,rfl⟩
  obtain ⟨o,es,ks⟩:=n
  simp only at a
  cases a
  exact ⟨ks,ls,b,c,by simpa[many] using d,by simpa[many] using f,g,i,j,m,rfl⟩
theorem Sub.le{v v':Int→Option Nd}(e:Le v v'): ∀{h lo hi:Nat}{k:Kd}{l:List As},Sub v h lo hi k l→Sub v' h lo hi k l
 |0,lo,hi,k,l,⟨c,d⟩=>⟨e _ _ c,d⟩
 |h+1,lo,hi,k,l,⟨ks,ls,c,d,f,g,i,j,m,n,o⟩=>⟨ks,ls,e _ _ c,d,f,g,i,j,m,n.mono fun a b x=>Sub.le e x,o⟩
theorem Sub.wide{v:Int→Option Nd}{h lo hi b a:Nat}{k:Kd}{l:List As}(hs:Sub v h lo hi k l)(j:b≤lo)(m:hi≤a):Sub v h b a k l:=by
 rw[F7] at hs⊢
 obtain ⟨n,ls,c,d,e,g,i,f⟩:=hs
 exact ⟨n,ls,c,d,e,by omega,by omega,f⟩
theorem NZ.le{v v':Int→Option Nd}(d:Le v v'){h:Nat}{n:Nd}{ls:List (List As)}(c:NZ v h n ls):NZ v' h n ls:=by
 cases h with
 |zero=>exact c
 |succ h=>exact ⟨c.1,c.2.mono fun a b x=>x.le d⟩
theorem CP{x:As}(h:Ai x=true):1≤x.len∧ -1≤x.lines∧x.lines≤x.len:=by
 unfold Ai at h
 simp only[decide_eq_true_eq] at h
 omega
theorem Bo(x:As)(l:List As):Ab (x::l)=x.len+Ab l:=by simp[Ab]
theorem Bq{l:List As}(h: ∀x∈l,Ai x=true):(l.length:Int)≤Ab l:=by
 induction l with
 |nil=>simp[Ab]
 | cons a l b =>
  rw[Bo]
  have c:=b fun x hx=>h x (List.mem_cons_of_mem _ hx)
  have d:=CP (h a List.mem_cons_self)
  simp only[List.length_cons]
  omega
theorem Fit.nil:Fit []:=⟨fun x h=>(List.not_mem_nil h).elim,by simp[Ab],by simp⟩
theorem Fit.left{a b:List As}(h:Fit (a++b)):Fit a:=by
 obtain ⟨c,d,e⟩:=h
 have hb:=Bq (l:=b) fun x hx=>c x (List.mem_append_right _ hx)
 rw[Ak] at d
 rw[List.length_append] at e
 exact ⟨fun x hx=>c x (List.mem_append_left _ hx),by omega,by omega⟩
theorem Fit.right{a b:List As}(h:Fit (a++b)):Fit b:=by
 obtain ⟨c,d,e⟩:=h
 have hb:=Bq (l:=a) fun x hx=>c x (List.mem_append_left _ hx)
 rw[Ak] at d
 rw[List.length_append] at e
 exact ⟨fun x hx=>c x (List.mem_append_right _ hx),by omega,by omega⟩
theorem Fit.YC{a b c:List As}(h:Fit (a++(b++c))):Fit b:=h.right.left
theorem S1{a b x y:Int}(c: -1≤a)(d:a≤x)(e: -1≤b)(f:b≤y)(g:0≤x)(i:0≤y): -1≤EE a b∧EE a b≤x+y:=by
 unfold EE
 split<;>omega
theorem I5{α:Type}(c b:α→Int): ∀(l:List α)(a x:Int),(∀e∈l,-1≤c e∧c e≤b e∧0≤b e)→ -1≤a→a≤x→0≤x→
 -1≤(l.map c).foldl EE a∧(l.map c).foldl EE a≤x+(l.map b).sum
 | [],a,x,_,d,f,_=>by simp;omega
 | e :: l, a, x, h, d, f, m => by
  obtain ⟨i,j,k⟩:=h e List.mem_cons_self
  obtain ⟨g,b2⟩:=S1 d f i j m k
  obtain ⟨o,c2⟩:=I5 c b l (EE a (c e)) (x+b e) (fun z n=>h z (List.mem_cons_of_mem _ n)) g b2 (by omega)
  simp only[List.map_cons,List.foldl_cons,List.sum_cons]
  omega
theorem Ho{k:Kd}(h:AE k=true):1≤k.Ay∧k.Ay<1048576∧1≤k.bytes∧k.bytes≤1048576∧ -1≤k.lines∧k.lines≤k.bytes∧1≤k.A7∧k.A7≤k.bytes:=by
 unfold AE at h
 simp only[decide_eq_true_eq] at h
 omega
structure EK (k:Kd) (l:List As):Prop where
 may:AE k=true
 bytes:k.bytes=Ab l
 A7:k.A7=l.length
 fit:Fit l
 ne:l≠ []
theorem Ia{R:Kd→List As→Prop}(b: ∀k l,R k l→EK k l): ∀{ks:List Kd}{ls:List (List As)},F2 R ks ls→
 BZ ks=Ab ls.flatten∧BB ks=ls.flatten.length∧(∀x∈ls.flatten,Ai x=true)∧(∀k∈ks,AE k=true)∧(ks.length≤ls.flatten.length)
 | [],[],_=>⟨rfl,rfl,fun x h=>(List.not_mem_nil h).elim,fun x h=>(List.not_mem_nil h).elim,Nat.le_refl _⟩
 | k :: ks, l :: ls, h => by
  have f:=b _ _ h.1
  obtain ⟨c,d,g,i,j⟩:=Ia b h.2
  have hl:1≤l.length:=by
   have:=f.ne
   cases l with
   |nil=>exact absurd rfl this
   |cons a l=>simp
  refine ⟨?_,?_,?_,?_,?_⟩
  · rw[List.flatten_cons,Ak,←c,←f.bytes];simp[BZ]
  · rw[List.flatten_cons,List.length_append]
    have e:BB (k::ks)=k.A7+BB ks:=by simp[BB]
    rw[e,f.A7,d]
    simp
  · intro x hx
    rw[List.flatten_cons] at hx
    rcases List.mem_append.1 hx with hx|hx
    ·exact f.fit.1 x hx
    exact g x hx
  · intro x hx
    rcases List.mem_cons.1 hx with rfl|hx
    ·exact f.may
    exact i x hx
  rw[List.flatten_cons,List.length_append,List.length_cons];omega
 | [],_::_,h=>h.elim
 |_::_,[],h=>h.elim
theorem QY{l:List As}(a: ∀x∈l,Ai x=true)(d:1≤l.length)(b:l.length≤12)(c:Ab l≤1048576):may ⟨true,l,[]⟩=true:=by
 unfold may
 have e:(l.any fun x=>!true||!Ai x)=false:=by
  rw[List.any_eq_false]
  intro x hx
  rw[a x hx]
  simp
 simp only[e]
 simp[BZ,BB,b,c]
 omega
theorem PU{ks:List Kd}(a: ∀x∈ks,AE x=true)(b:2≤ks.length)(c:ks.length≤12)(d:BZ ks≤1048576)(f:BB ks≤1024):may ⟨false,[],ks⟩=true:=by
 unfold may
 have e:(ks.any fun x=>false||!AE x)=false:=by
  rw[List.any_eq_false]
  intro x hx
  rw[a x hx]
  simp
 simp only[e]
 simp[Ab,b,c,d,f]
theorem Sub.BK{v:Int→Option Nd} : ∀{h lo hi:Nat}{k:Kd}{l:List As},Sub v h lo hi k l→EK k l
 | 0, lo, hi, k, l, ⟨y, a, z, B, b, p, q⟩ => by
  obtain ⟨H,f,j,u,m⟩:=GK a rfl
  simp only at f j u m
  have t:=Bq f
  have d:=I5 (fun x:As=>x.lines) (fun x:As=>x.len) l 0 0 (fun e s=>by have:=CP (f e s);omega) (by omega) (by omega) (by omega)
  have g:k.bytes=Ab l:=by rw[b];simp[Jx,Bl,a,BZ]
  have i:k.A7=l.length:=by rw[b];simp[Jx,Bl,a,BB]
  have n:k.lines=(l.map (·.lines)).foldl EE 0:=by rw[b];simp[Jx,Bl,a]
  refine ⟨?_,g,i,⟨f,m,by omega⟩,fun c=>by subst c;simp at j⟩
  unfold AE
  simp only[decide_eq_true_eq]
  rw[g,i,n]
  have o:(l.map fun x:As=>x.len).sum=Ab l:=rfl
  rw[o] at d
  refine ⟨p,q,by omega,by omega,by omega,by omega,by omega⟩
 | h + 1, lo, hi, k, l, ⟨ks, ls, y, a, z, B, b, p, q, D, r⟩ => by
  obtain ⟨H,f,j,u,m,w⟩:=CJ a rfl
  simp only at f j u m w
  obtain ⟨s1,s2,s3,s4,s5⟩:=Ia (fun k l x=>Sub.BK x) D
  have d:=I5 (fun x:Kd=>x.lines) (fun x:Kd=>x.bytes) ks 0 0 (fun e s=>by have:=Ho (f e s);omega) (by omega) (by omega) (by omega)
  have g:k.bytes=Ab l:=by rw[b,r,←s1];simp[Jx,Bl,a,Ab]
  have i:k.A7=l.length:=by rw[b,r,←s2];simp[Jx,Bl,a]
  have n:k.lines=(ks.map (·.lines)).foldl EE 0:=by rw[b];simp[Jx,Bl,a]
  subst r
  have t:=Bq s3
  have hb:Ab ls.flatten≤1048576:=by rw[←s1];exact m
  have G:ls.flatten.length≤1024:=by have:=w;rw[s2] at this;omega
  refine ⟨?_,g,i,⟨s3,hb,G⟩,fun c=>by rw[c] at s5;have:=Nat.le_trans j s5;simp at this⟩
  unfold AE
  simp only[decide_eq_true_eq]
  rw[g,i,n]
  have o:(ks.map fun x:Kd=>x.bytes).sum=BZ ks:=rfl
  rw[o,s1] at d
  refine ⟨p,q,by omega,by omega,by omega,by omega,by omega⟩
theorem Sub.many{v : Int → Option Nd} : ∀{h lo hi : Nat}{k : Kd}{l : List As}, Sub v h lo hi k l → lo * 4 ^ h ≤ l.length
 |0,lo,hi,k,l,⟨d,e,c,_⟩=>by simpa using c
 | h + 1, lo, hi, k, l, ⟨ks, ls, d, e, c, j, m, n, o, f, g⟩ => by
  have key : ∀{ks : List Kd}{ls : List (List As)}, F2 (Sub v h 4 12) ks ls → ks.length * 4 ^ (h + 1) ≤ ls.flatten.length := by
   intro ks
   induction ks with
   |nil=>intro ls x;simp
   | cons k ks i =>
    intro ls x
    cases ls with
    |nil=>exact x.elim
    | cons l ls =>
     have a:=Sub.many x.1
     have b:=i x.2
     rw[List.flatten_cons,List.length_append,List.length_cons,Nat.add_mul,Nat.one_mul,Nat.pow_succ] at*
     omega
  rw[g]
  exact Nat.le_trans (Nat.mul_le_mul_right _ c) (key f)
theorem Sub.two{v:Int→Option Nd}{h lo hi:Nat}{k:Kd}{l:List As}(hs:Sub v h lo hi k l)(m:0<h):2*4^h≤l.length:=by
 cases h with
 |zero=>omega
 | succ h =>
  obtain ⟨ks,ls,b,a,n,c,d,e,f,g,i⟩:=hs
  obtain ⟨o,p,j,q,r,s⟩:=CJ a rfl
  exact Sub.many (v:=v) (h:=h+1) (lo:=2) (hi:=hi) (k:=k) ⟨ks,ls,b,a,j,c,d,e,f,g,i⟩
theorem Sub.low{v:Int→Option Nd}{h lo hi:Nat}{k:Kd}{l:List As}(hs:Sub v h lo hi k l):h≤4:=by
 have c:=hs.BK.fit.2.2
 by_cases a:0<h
 ·have:=hs.two a
  have b:4^h<4^5:=by omega
  have:=(Nat.pow_lt_pow_iff_right (by omega:1<4)).1 b
  omega
 omega
theorem Y2{v:Int→Option Nd}{h:Nat}{n:Nd}{ls:List (List As)}(f:NZ v h n ls)(c:Fit ls.flatten)(d:1≤many n)(b:0<h→2≤many n)(a:many n≤12):may n=true:=by
 cases h with
 | zero =>
  obtain ⟨e,rfl⟩:=f
  rw[GD] at c
  rw[e] at d a⊢
  simp only[many,List.length_nil,Nat.add_zero] at d a
  exact QY c.1 d a c.2.1
 | succ h =>
  obtain ⟨e,g⟩:=f
  obtain ⟨s1,s2,s3,s4,s5⟩:=Ia (fun k l x=>Sub.BK x) g
  have b:=b (by omega)
  rw[e] at b a⊢
  simp only[many,List.length_nil,Nat.zero_add] at b a
  exact PU s4 b a (by rw[s1];exact c.2.1) (by rw[s2];have:=c.2.2;omega)
theorem Y1{v:Int→Option Nd}{h:Nat}{n:Nd}{ls:List (List As)}(a:NZ v h n ls)(i j:Nat):NZ v h (Cq n i j) (sub ls i j):=by
 cases h with
 | zero =>
  obtain ⟨e,rfl⟩:=a
  rw[e]
  refine ⟨by simp[Cq],?_⟩
  simp[Cq,sub]
 | succ h =>
  obtain ⟨e,b⟩:=a
  rw[e]
  refine ⟨by simp[Cq],?_⟩
  simp only[Cq,Bool.false_eq_true,if_false,sub]
  exact (b.drop i).take (j-i)
theorem MS{v:Int→Option Nd}{h:Nat}{a b:Nd}{d f:List (List As)}(ha:NZ v h a d)(hb:NZ v h b f):NZ v h (both a b) (d++f):=by
 cases h with
 | zero =>
  obtain ⟨e,rfl⟩:=ha
  obtain ⟨e',rfl⟩:=hb
  rw[e,e']
  exact ⟨rfl,by simp[both]⟩
 | succ h =>
  obtain ⟨e,g⟩:=ha
  obtain ⟨e',c⟩:=hb
  rw[e,e']
  exact ⟨rfl,g.append c⟩
def Tl(v:Int→Option Nd)(x:BH)(l:List As):Prop:=(x=Co∧l= [])∨ ∃h:Nat,x.An=h∧Sub v h 1 12 x.DK l
theorem Tl.le{v v':Int→Option Nd}(c:Le v v'){x:BH}{l:List As}(h:Tl v x l):Tl v' x l:=by
 rcases h with h|⟨h,a,b⟩
 ·exact .inl h
 exact .inr ⟨h,a,b.le c⟩
section
variable {σ:Type} {X:Env σ} (hX:X.Ok)
theorem XP{α:Type}(l:List α)(i j:Nat)(h:i≤j):l.take i++sub l i j=l.take j:=by
 unfold sub
 have e:l.take j=(l.take j).take i++(l.take j).drop i:=(List.take_append_drop i _).symm
 rw[List.take_take,Nat.min_eq_left h,List.drop_take] at e
 exact e.symm
theorem Uk{α:Type}(l:List α)(i j:Nat)(h:j≤l.length):(sub l i j).length=j-i:=by
 unfold sub
 rw[List.length_take,List.length_drop]
 omega
theorem WA{l:List (List As)}(i j:Nat)(a:Fit l.flatten):Fit (sub l i j).flatten:=by
 have e:l=l.take i++(sub l i j++(l.drop i).drop (j-i)):=by
  unfold sub
  rw[List.take_append_drop,List.take_append_drop]
 rw[e,List.flatten_append,List.flatten_append] at a
 exact a.YC
def Dg(n Bc i:Nat):Nat:=i*(n/Bc)+min i (n%Bc)
theorem JY(n Bc i:Nat):Dg n Bc (i+1)=Dg n Bc i+(n/Bc+(if i<n%Bc then 1 else 0)):=by
 unfold Dg
 rw[Nat.add_mul,Nat.one_mul]
 split<;>omega
theorem Pq(n Bc:Nat)(h:0<Bc):Dg n Bc Bc=n:=by
 unfold Dg
 have:=Nat.mod_lt n h
 have:=Nat.div_add_mod n Bc
 rw[Nat.min_eq_right (by omega)]
 omega
include hX in
theorem Gz{n : Nd}{h : Nat}{ls : List (List As)}(z : Fit ls.flatten)(lo hi : Nat)(v : hi ≤ 12)(w : 1 ≤ lo)(g : 0 < h → 2 ≤ lo)(Bc : Nat)(hp : 0 < Bc)
 (hq: ∀i,i<Bc→lo≤many n/Bc+(if i<many n%Bc then 1 else 0)∧many n/Bc+(if i<many n%Bc then 1 else 0)≤hi):
 ∀(c i:Nat)(s:σ)(out:List Kd)(f:List (List As)),i+c=Bc→X.inv s→NZ (X.V s) h n ls→F2 (Sub (X.V s) h lo hi) out f→f.flatten=(ls.take (Dg (many n) Bc i)).flatten→out.length=i→
  Step X s 0 c (Ci X.wt n Bc c i (Dg (many n) Bc i) out) (fun ks s'=> ∃p,F2 (Sub (X.V s') h lo hi) ks p∧p.flatten=ls.flatten∧ks.length=Bc)
 | 0, i, s, out, f, G, q, m, y, t, hl => by
   refine Step.pure q ⟨f,y,?_,by omega⟩
   obtain rfl:i=Bc:=by omega
   rw[t,Pq _ _ hp,Mx m,List.take_length]
 | c + 1, i, s, out, f, G, q, m, y, t, hl => by
   unfold Ci
   rw[←JY]
   obtain ⟨P,Q⟩:=hq i (by omega)
   have o : Dg (many n) Bc (i + 1) ≤ ls.length := by
    rw[←Mx m]
    have D:=Pq (many n) Bc hp
    have mono: ∀d,i+1+d≤Bc→Dg (many n) Bc (i+1)≤Dg (many n) Bc (i+1+d):=by
     intro d
     induction d with
     |zero=>intro _;exact Nat.le_refl _
     | succ d I =>
      intro T
      have:=I (by omega)
      have e:Dg (many n) Bc (i+1+d)≤Dg (many n) Bc (i+1+(d+1)):=by
       rw[show i+1+(d+1)=i+1+d+1 by omega,JY]
       exact Nat.le_add_right _ _
      omega
    have:=mono (Bc-(i+1)) (by omega)
    rw[show i+1+(Bc-(i+1))=Bc by omega,D] at this
    exact this
   have hcut:=Y1 m (Dg (many n) Bc i) (Dg (many n) Bc (i+1))
   have H:=JY (many n) Bc i
   have hm:many (Cq n (Dg (many n) Bc i) (Dg (many n) Bc (i+1)))=many n/Bc+(if i<many n%Bc then 1 else 0):=by
    rw[Mx hcut,Uk _ _ _ o]
    omega
   have u:=WA (Dg (many n) Bc i) (Dg (many n) Bc (i+1)) z
   have j:=Y2 hcut u (by rw[hm];omega) (fun B=>by rw[hm];have:=g B;omega) (by rw[hm];omega)
   have hw:=hX.wt s _ q j
   refine (Step.bind (R2:=0) (W2:=c) hw ?_).mono (by omega) (by omega) fun _ _ _ _ x=>x
   rintro k s1 r l ⟨J,K,L,O⟩
   refine Gz z lo hi v w g Bc hp hq c (i+1) s1 (out++ [k]) (f++ [(sub ls (Dg (many n) Bc i) (Dg (many n) Bc (i+1))).flatten]) (by omega) r (m.le l) ?_ ?_ (by simp[hl])
   · refine F2.append (y.mono fun a b x=>x.le l) ⟨?_,trivial⟩
     rw[F7]
     exact ⟨_,_,O,hcut.le l,j,by rw[hm];exact P,by rw[hm];exact Q,J,K,L,rfl⟩
   rw[List.flatten_append,t,←XP ls (Dg (many n) Bc i) (Dg (many n) Bc (i+1)) (by omega),List.flatten_append]
   simp
include hX in
theorem Ha{n:Nd}{h:Nat}{ls:List (List As)}{s:σ}(f:X.inv s)(j:NZ (X.V s) h n ls)(k:Fit ls.flatten)(o:0<h→many n≠1):
 Step X s 0 (AV n) (Bt X.wt n) (fun ks s'=> ∃b,F2 (Sub (X.V s') h (if AV n≤1 then many n else 4) (if AV n≤1 then many n else 12)) ks b∧b.flatten=ls.flatten∧ks.length=AV n):=by
 unfold Bt
 by_cases m:many n=0
 · have e:AV n=0:=by unfold AV;omega
   rw[e]
   have hl:ls= []:=List.eq_nil_of_length_eq_zero (by rw[←Mx j];exact m)
   subst hl
   exact Step.pure f ⟨[],trivial,rfl,rfl⟩
 have hp:0<AV n:=by unfold AV;omega
 have e0:Dg (many n) (AV n) 0=0:=by simp[Dg]
 by_cases a:AV n=1
 · have g:many n≤12:=by unfold AV at a;omega
   have:=Gz hX k (many n) (many n) g (by omega) (fun p=>by have:=o p;omega) 1 (by omega) (n:=n) (h:=h) (fun i hi=>by
    have:i=0:=by omega
    subst this
    rw[Nat.div_one,Nat.mod_one]
    simp) 1 0 s [] [] rfl f j trivial (by simp[Dg]) rfl
   rw[a]
   simpa[Dg] using this
 have q:12*(AV n-1)+1≤many n∧many n≤12*AV n:=by unfold AV at*;omega
 have:=Gz hX k 4 12 (by omega) (by omega) (fun _=>by omega) (AV n) hp (n:=n) (h:=h) (fun i hi=>by
  have t:4≤many n/AV n:=by
   rw[Nat.le_div_iff_mul_le hp]
   omega
  have l:=Nat.div_add_mod (many n) (AV n)
  have u:=Nat.mod_lt (many n) hp
  refine ⟨by omega,?_⟩
  by_cases hq:many n/AV n≤11
  · split<;>omega
  have r:many n/AV n≤12:=by
   have:=Nat.div_le_div_right (c:=AV n) q.2
   rw[Nat.mul_div_cancel _ hp] at this
   exact this
  have d:many n/AV n=12:=by omega
  rw[d] at l⊢
  have:many n%AV n=0:=by
   have:=Nat.mul_comm (AV n) 12
   omega
  rw[this]
  simp) (AV n) 0 s [] [] (by omega) f j trivial (by rw[e0];rfl) rfl
 rw[e0] at this
 rw[if_neg (by omega),if_neg (by omega)]
 exact this
include hX in
theorem I0 : ∀(f : Nat){ks : List Kd}{ls : List (List As)}{h : Nat}{s : σ}, ks.length ≤ f + 1 → X.inv s → F2 (Sub (X.V s) h (if ks.length ≤ 1 then 1 else 4) 12) ks ls → Fit ls.flatten →
 Step X s 0 ks.length (DS X.wt f ks h) (fun x s'=>Tl (X.V s') x ls.flatten∧(ks.length≤1→x.An≤h)∧(2≤ks.length→ks.length≤12→x.An=h+1∧Sub (X.V s') (h+1) 1 ks.length x.DK ls.flatten))
 | f, [], [], h, s, hl, n, d, p => by
  unfold DS
  exact Step.pure n ⟨.inl ⟨rfl,rfl⟩,fun _=>by simp[Co],fun c=>by simp at c⟩
 | f, [k], [l], h, s, hl, n, d, p => by
  unfold DS
  refine Step.ret n ⟨.inr ⟨h,rfl,?_⟩,fun _=>Int.le_refl _,fun c=>by simp at c⟩
  have:=d.1
  simpa using this
 |0,k::v::ks,_,h,s,hl,n,d,p=>by simp at hl
 | f + 1, k :: v :: ks, ls, h, s, hl, n, d, p => by
  unfold DS
  have q:2≤(k::v::ks).length:=by simp
  generalize k::v::ks=kk at hl d q
  rw[if_neg (by omega)] at d
  have H:NZ (X.V s) (h+1) ⟨false,[],kk⟩ ls:=⟨rfl,d⟩
  have hm:many ⟨false,[],kk⟩=kk.length:=by simp[many]
  have hp:AV ⟨false,[],kk⟩=(kk.length+11)/12:=by unfold AV;rw[hm]
  have e:=Ha hX n H p (fun _=>by rw[hm];omega)
  rw[hp,hm] at e
  have I:(kk.length+11)/12+(kk.length+11)/12≤kk.length:=by omega
  by_cases t:kk.length≤12
  ·have D:(kk.length+11)/12=1:=by omega
   rw[D] at e
   refine (Step.bind (W2:=0) (R2:=0) e ?_).mono (by omega) (by omega) fun _ _ _ _ x=>x
   rintro g s1 j u ⟨i,m,o,r⟩
   simp only[Nat.le_refl,if_true] at m
   have: ∃z,g= [z]:=by
    cases g with
    |nil=>simp at r
    | cons a l =>
     cases l with
     |nil=>exact ⟨a,rfl⟩
     |cons b l=>simp at r
   obtain ⟨z,rfl⟩:=this
   have: ∃B,i= [B]:=by
    have:=m.len
    cases i with
    |nil=>simp at this
    | cons a l =>
     cases l with
     |nil=>exact ⟨a,rfl⟩
     |cons b l=>simp at this
   obtain ⟨B,rfl⟩:=this
   have w:=m.1
   simp only[List.flatten_cons,List.flatten_nil,List.append_nil] at o
   subst o
   unfold DS
   refine Step.ret j ⟨.inr ⟨h+1,by simp,w.wide (by omega) (by omega)⟩,fun c=>by omega,fun _ _=>⟨by simp,w.wide (by omega) (by omega)⟩⟩
  refine (Step.bind (W2:=(kk.length+11)/12) (R2:=0) e ?_).mono (by omega) (by omega) fun _ _ _ _ x=>x
  rintro g s1 j u ⟨i,m,o,r⟩
  rw[if_neg (by omega),if_neg (by omega)] at m
  have:=I0 f (ks:=g) (ls:=i) (h:=h+1) (s:=s1) (by omega) j (by rw[if_neg (by omega)];exact m) (by rw[o];exact p)
  rw[r,o] at this
  refine this.mono (by omega) (by omega) ?_
  rintro x s2 G y ⟨J,K,L⟩
  exact ⟨J,fun c=>by omega,fun _ c=>absurd c t⟩
end
section
variable {σ:Type} {X:Env σ} (hX:X.Ok)
theorem F2.one{α β:Type}{R:α→β→Prop}{a:α}{m:List β}(h:F2 R [a] m): ∃b,m= [b]∧R a b:=by
 cases m with
 |nil=>exact h.elim
 | cons b m =>
  cases m with
  |nil=>exact ⟨b,rfl,h.1⟩
  |cons c m=>exact h.2.elim
theorem XH{α:Type}{l:List α}{z:α}(h:l.getLast?=some z):l=sub l 0 (l.length-1)++ [z]:=by
 obtain ⟨ys,rfl⟩:=List.getLast?_eq_some_iff.1 h
 simp[sub]
include hX in
theorem KJ : ∀(f : Nat){a b : BH}{ha hb K L T U M : Nat}{I J : List As}{s : σ}, max ha hb < f → a.An = ha → b.An = hb → X.inv s →
 Sub (X.V s) ha K T a.DK I→Sub (X.V s) hb L U b.DK J→Fit (I++J)→M≤4→(hb<ha→M≤K)→(ha<hb→M≤L)→(ha=hb→M≤K+L)→
 Step X s (max ha hb-min ha hb+2) (2*(max ha hb-min ha hb)+2) (Cd X.rd X.wt f a b) (fun r s'=>r.2=((max ha hb:Nat):Int)∧ ∃ls,F2 (Sub (X.V s') (max ha hb) (if r.1.length≤1 then M else 4) 12) r.1 ls∧1≤r.1.length∧r.1.length≤2∧ls.flatten=I++J∧
  (hb<ha→T≤11→r.1.length=1)∧(ha<hb→U≤11→r.1.length=1))
 |0,_,_,_,_,_,_,_,_,_,_,_,_,hf,_,_,_,_,_,_,_,_,_,_=>absurd hf (by omega)
 | f + 1, a, b, ha, hb, K, L, T, U, M, I, J, s, hf, ea, eb, hI, sa, sb, fit, hM, h1, h2, h3 => by
   unfold Cd
   rw[ea,eb]
   rcases Nat.lt_trichotomy hb ha with cf|av|ce
   · rw [if_pos (by omega)]
     obtain ⟨ha,rfl⟩: ∃k,ha=k+1:=⟨ha-1,by omega⟩
     obtain ⟨ks,ls,c1,c2,c3,c4,c5,c6,c7,c8,c9⟩:=sa
     obtain ⟨m1,m2,W,m4,m5,m6⟩:=CJ c2 rfl
     simp only at m1 m2 W m4 m5 m6
     refine (Step.bind (R2:=max ha hb-min ha hb+2+0) (W2:=2*(max ha hb-min ha hb)+2+(2+0)) (hX.rd s _ _ hI c1) ?_).mono (by omega) (by omega) fun _ _ _ _ x=>x
     rintro x s1 v g rfl
     simp only
     obtain ⟨z,hz⟩: ∃z,ks.getLast?=some z:=by
      cases h:ks.getLast? with
      |none=>rw[List.getLast?_eq_none_iff.1 h] at W;simp at W
      |some z=>exact ⟨z,rfl⟩
     rw[hz]
     simp only[Bool.false_eq_true,if_false]
     have aw:=XH hz
     have hp:=c8
     rw[aw] at hp
     have ac:ls=ls.take (ks.length-1)++ls.drop (ks.length-1):=(List.take_append_drop _ _).symm
     have ad:(sub ks 0 (ks.length-1)).length=ks.length-1:=by rw[Uk _ _ _ (by omega)];omega
     obtain ⟨p1,p2⟩:=hp.split
     rw[ad] at p1 p2
     obtain ⟨lz,e1,p3⟩:=p2.one
     rw[e1] at ac
     have D:I=(ls.take (ks.length-1)).flatten++lz:=by
       rw[c9];conv=>lhs;rw[ac]
       simp
     have u:Fit (lz++J):=by rw[D,List.append_assoc] at fit;exact fit.right
     have ih:=KJ f (a:=⟨z,((ha+1:Nat):Int)-1⟩) (b:=b) (ha:=ha) (hb:=hb) (M:=4) (by omega) (by simp) eb v (p3.le g) (sb.le g) u (by omega) (by omega) (by omega) (by omega)
     refine Step.bind (R1:=max ha hb-min ha hb+2) (W1:=2*(max ha hb-min ha hb)+2) ih ?_
     rintro ⟨n,rh⟩ s2 w j ⟨q1,o,q,q3,q4,q5,q6,q7⟩
     simp only at q1 q q3 q4 q5 q6 q7
     have t:max ha hb=ha:=by omega
     rw[t] at q q1
     have Y:F2 (Sub (X.V s2) ha 4 12) n o:=by
      by_cases hh:n.length≤1
      · rw[if_pos hh] at q;exact q
      rw[if_neg hh] at q;exact q
     have n1:NZ (X.V s2) (ha+1) ⟨false,[],sub ks 0 (ks.length-1)⟩ (ls.take (ks.length-1)):=⟨rfl,(p1.mono fun _ _ x=>(x.le g).le j)⟩
     have n2:NZ (X.V s2) (ha+1) ⟨false,[],n⟩ o:=⟨rfl,Y⟩
     have n3:=MS n1 n2
     have d:many (both ⟨false,[],sub ks 0 (ks.length-1)⟩ ⟨false,[],n⟩)=ks.length-1+n.length:=by simp[many,both,ad]
     have l:(ls.take (ks.length-1)++o).flatten=I++J:=by rw[List.flatten_append,q5,D,List.append_assoc]
     have m:=Ha hX w n3 (by rw[l];exact fit) (fun _=>by rw[d];omega)
     have G:AV (both ⟨false,[],sub ks 0 (ks.length-1)⟩ ⟨false,[],n⟩)=(ks.length-1+n.length+11)/12:=by unfold AV;rw[d]
     rw[G,d] at m
     have P:Cq ⟨false,[],ks⟩ 0 (ks.length-1)=⟨false,[],sub ks 0 (ks.length-1)⟩:=by simp[Cq]
     rw[P]
     refine (Step.bind (R1:=0) (R2:=0) (W1:=2) (W2:=0) (m.mono (by omega) (by omega) fun _ _ _ _ x=>x) ?_)
     rintro out s3 B O ⟨H,p,g2,Q⟩
     refine Step.ret B ⟨by simp only;omega,H,?_,by simp only;omega,by simp only;omega,by rw[g2,l],?_,fun c=>by omega⟩
     · simp only
       have em:max (ha+1) hb=ha+1:=by omega
       rw[em,Q]
       by_cases i:(ks.length-1+n.length+11)/12≤1
       · rw[if_pos i,if_pos i] at p
         rw[if_pos i]
         exact p.mono fun _ _ x=>x.wide (by have:=h1 (by omega);omega) (by omega)
       rw[if_neg i,if_neg i] at p
       rw[if_neg i]
       exact p
     intro _ ar
     simp only
     rw[Q]
     omega
   · subst av
     rw[if_neg (by omega),if_neg (by omega)]
     rw[F7] at sa sb
     obtain ⟨na,az,a1,Z,a3,a4,a5,a6,a7,a8,a9⟩:=sa
     obtain ⟨nb,b0,b1,b2,b3,b4,b5,b6,b7,b8,b9⟩:=sb
     have ma:1≤many na∧many na≤12:=by
      cases hb with
      | zero =>
        obtain ⟨e,-⟩:=Z
        rw[e] at a3⊢
        have:=GK a3 rfl
        simp only at this
        simp[many]
        omega
      | succ h =>
        obtain ⟨e,-⟩:=Z
        rw[e] at a3⊢
        have:=CJ a3 rfl
        simp only at this
        simp[many]
        omega
     have mb:1≤many nb∧many nb≤12:=by
      cases hb with
      | zero =>
        obtain ⟨e,-⟩:=b2
        rw[e] at b3⊢
        have:=GK b3 rfl
        simp only at this
        simp[many]
        omega
      | succ h =>
        obtain ⟨e,-⟩:=b2
        rw[e] at b3⊢
        have:=CJ b3 rfl
        simp only at this
        simp[many]
        omega
     refine (Step.bind (R2:=1+0) (W2:=0+2) (hX.rd s _ _ hI a1) ?_).mono (by omega) (by omega) fun _ _ _ _ x=>x
     rintro x s1 v g rfl
     refine (Step.bind (R2:=0) (W2:=2) (hX.rd s1 _ _ v (g _ _ b1)) ?_)
     rintro y s2 w j rfl
     have ax:x.leaf=y.leaf:=by
      cases hb with
      |zero=>obtain ⟨e,_⟩:=Z;obtain ⟨e',_⟩:=b2;rw[e,e']
      |succ k=>obtain ⟨e,_⟩:=Z;obtain ⟨e',_⟩:=b2;rw[e,e']
     rw[if_pos ax]
     have n3:=MS ((Z.le g).le j) ((b2.le g).le j)
     have d:many (both x y)=many x+many y:=by simp[many,both];omega
     have l:(az++b0).flatten=I++J:=by rw[List.flatten_append,a9,b9]
     have m:=Ha hX w n3 (by rw[l];exact fit) (fun _=>by rw[d];omega)
     have G:AV (both x y)=(many x+many y+11)/12:=by unfold AV;rw[d]
     rw[G,d] at m
     refine (Step.bind (R1:=0) (R2:=0) (W1:=2) (W2:=0) (m.mono (by omega) (by omega) fun _ _ _ _ x=>x) ?_)
     rintro out s3 B O ⟨H,p,g2,Q⟩
     refine Step.ret B ⟨by simp only;omega,H,?_,by simp only;omega,by simp only;omega,by rw[g2,l],fun c=>by omega,fun c=>by omega⟩
     simp only
     have em:max hb hb=hb:=by omega
     rw[em,Q]
     by_cases i:(many x+many y+11)/12≤1
     · rw[if_pos i,if_pos i] at p
       rw[if_pos i]
       exact p.mono fun _ _ z=>z.wide (by have:=h3 rfl;omega) (by omega)
     rw[if_neg i,if_neg i] at p
     rw[if_neg i]
     exact p
   rw[if_neg (by omega),if_pos (by omega)]
   obtain ⟨hb,rfl⟩: ∃k,hb=k+1:=⟨hb-1,by omega⟩
   obtain ⟨ks,ls,c1,c2,c3,c4,c5,c6,c7,c8,c9⟩:=sb
   obtain ⟨m1,m2,W,m4,m5,m6⟩:=CJ c2 rfl
   simp only at m1 m2 W m4 m5 m6
   refine (Step.bind (R2:=max ha hb-min ha hb+2+0) (W2:=2*(max ha hb-min ha hb)+2+(2+0)) (hX.rd s _ _ hI c1) ?_).mono (by omega) (by omega) fun _ _ _ _ x=>x
   rintro x s1 v g rfl
   simp only
   cases ks with
   |nil=>simp at W
   |cons z ks=>
   simp only[Bool.false_eq_true,if_false]
   cases ls with
   |nil=>exact c8.elim
   |cons lz ls=>
   obtain ⟨p3,p1⟩:=c8
   have D:J=lz++ls.flatten:=by rw[c9];simp
   have u:Fit (I++lz):=by rw[D,←List.append_assoc] at fit;exact fit.left
   have ih:=KJ f (a:=a) (b:=⟨z,((hb+1:Nat):Int)-1⟩) (ha:=ha) (hb:=hb) (M:=4) (by omega) ea (by simp) v (sa.le g) (p3.le g) u (by omega) (by omega) (by omega) (by omega)
   refine Step.bind (R1:=max ha hb-min ha hb+2) (W1:=2*(max ha hb-min ha hb)+2) ih ?_
   rintro ⟨n,rh⟩ s2 w j ⟨q1,o,q,q3,q4,q5,q6,q7⟩
   simp only at q1 q q3 q4 q5 q6 q7
   have t:max ha hb=hb:=by omega
   rw[t] at q q1
   have Y:F2 (Sub (X.V s2) hb 4 12) n o:=by
    by_cases hh:n.length≤1
    · rw[if_pos hh] at q;exact q
    rw[if_neg hh] at q;exact q
   have n1:NZ (X.V s2) (hb+1) ⟨false,[],ks⟩ ls:=⟨rfl,(p1.mono fun _ _ x=>(x.le g).le j)⟩
   have n2:NZ (X.V s2) (hb+1) ⟨false,[],n⟩ o:=⟨rfl,Y⟩
   have n3:=MS n2 n1
   simp only[List.length_cons] at c3 c4 W m4
   have d:many (both ⟨false,[],n⟩ ⟨false,[],ks⟩)=n.length+ks.length:=by simp[many,both]
   have l:(o++ls).flatten=I++J:=by rw[List.flatten_append,q5,D,List.append_assoc]
   have m:=Ha hX w n3 (by rw[l];exact fit) (fun _=>by rw[d];omega)
   have G:AV (both ⟨false,[],n⟩ ⟨false,[],ks⟩)=(n.length+ks.length+11)/12:=by unfold AV;rw[d]
   rw[G,d] at m
   have P:Cq ⟨false,[],z::ks⟩ 1 (z::ks).length=⟨false,[],ks⟩:=by simp[Cq,sub]
   rw[P]
   refine (Step.bind (R1:=0) (R2:=0) (W1:=2) (W2:=0) (m.mono (by omega) (by omega) fun _ _ _ _ x=>x) ?_)
   rintro out s3 B O ⟨H,p,g2,Q⟩
   refine Step.ret B ⟨by simp only;omega,H,?_,by simp only;omega,by simp only;omega,by rw[g2,l],fun c=>by omega,?_⟩
   · simp only
     have em:max ha (hb+1)=hb+1:=by omega
     rw[em,Q]
     by_cases i:(n.length+ks.length+11)/12≤1
     · rw[if_pos i,if_pos i] at p
       rw[if_pos i]
       exact p.mono fun _ _ x=>x.wide (by have:=h2 (by omega);omega) (by omega)
     rw[if_neg i,if_neg i] at p
     rw[if_neg i]
     exact p
   intro _ ar
   simp only
   rw[Q]
   omega
def WG(x:BH):Nat:=x.An.toNat
theorem Tl.low{v:Int→Option Nd}{x:BH}{l:List As}(h:Tl v x l):WG x≤4:=by
 rcases h with ⟨rfl,-⟩|⟨k,a,b⟩
 ·simp[WG,Co]
 have:=b.low
 simp[WG,a]
 omega
include hX in
theorem LC{a b:BH}{m n:List As}{s:σ}(q:X.inv s)(ta:Tl (X.V s) a m)(T:Tl (X.V s) b n)(fit:Fit (m++n)):
 Step X s (max (WG a) (WG b)+2) 12 (DT X.rd X.wt a b) (fun x s'=>Tl (X.V s') x (m++n)∧x.An≤max a.An b.An+1∧
  (∀h:Nat,(a.An≤h∧b.An<h∧(a.An=h→Sub (X.V s) h 1 11 a.DK m)∨b.An≤h∧a.An<h∧(b.An=h→Sub (X.V s) h 1 11 b.DK n))→x.An≤h)):=by
 unfold DT
 rcases ta with ⟨rfl,rfl⟩|⟨ha,f,D⟩
 · rw[if_pos (by simp[Co])]
   refine Step.ret q ⟨by simpa using T,by simp only[Co];omega,?_⟩
   rintro h (⟨j,c2,G⟩|⟨j,c2,G⟩)<;>omega
 rw[if_neg (by omega)]
 rcases T with ⟨rfl,rfl⟩|⟨hb,eb,P⟩
 · rw[if_pos (by simp[Co])]
   refine Step.ret q ⟨.inr ⟨ha,f,by simpa using D⟩,by simp only[Co];omega,?_⟩
   rintro h (⟨j,c2,G⟩|⟨j,c2,G⟩)<;>omega
 rw[if_neg (by omega)]
 have Y:=D.low
 have Z:=P.low
 have H:WG a=ha:=by simp[WG,f]
 have I:WG b=hb:=by simp[WG,eb]
 have W:JF a b=max ha hb+1:=by
  unfold JF
  rw[f,eb]
  omega
 rw[W,H,I]
 by_cases c:(hb<ha∧Sub (X.V s) ha 1 11 a.DK m)∨(ha<hb∧Sub (X.V s) hb 1 11 b.DK n)
 · have L:Step X s (max ha hb+2) 10 (Cd X.rd X.wt (max ha hb+1) a b) (fun r s'=>r.2=((max ha hb:Nat):Int)∧ ∃ls,F2 (Sub (X.V s') (max ha hb) 1 12) r.1 ls∧r.1.length=1∧ls.flatten=m++n):=by
    rcases c with ⟨j,c2⟩|⟨j,c2⟩
    · refine (KJ hX (max ha hb+1) (M:=1) (by omega) f eb q c2 P fit (by omega) (by omega) (by omega) (by omega)).mono (by omega) (by omega) ?_
      rintro r s' _ _ ⟨g,ls,d,w,O,i,y,z⟩
      have y:=y j (by omega)
      rw[if_pos (by omega)] at d
      exact ⟨g,ls,d,y,i⟩
    refine (KJ hX (max ha hb+1) (M:=1) (by omega) f eb q D c2 fit (by omega) (by omega) (by omega) (by omega)).mono (by omega) (by omega) ?_
    rintro r s' _ _ ⟨g,ls,d,w,O,i,y,z⟩
    have z:=z j (by omega)
    rw[if_pos (by omega)] at d
    exact ⟨g,ls,d,z,i⟩
   refine Step.bind (R2:=0) (W2:=2) L ?_
   rintro ⟨o,rh⟩ s1 k K ⟨g,ls,d,w,i⟩
   simp only at g d w
   subst g
   have:=I0 hX o.length (ks:=o) (ls:=ls) (h:=max ha hb) (s:=s1) (by omega) k (by rw[if_pos (by omega)];exact d) (by rw[i];exact fit)
   refine (this.mono (by omega) (by omega) ?_)
   rintro x s2 J t ⟨p,B,Q⟩
   have B:=B (by omega)
   rw[i] at p
   refine ⟨p,by rw[f,eb];omega,?_⟩
   rintro h (⟨u,v,l⟩|⟨u,v,l⟩)<;>omega
 refine (Step.bind (R2:=0) (W2:=2) (W1:=10) (R1:=max ha hb+2) ((KJ hX (max ha hb+1) (M:=1) (by omega) f eb q D P fit (by omega) (by omega) (by omega) (by omega)).mono (by omega) (by omega) fun _ _ _ _ x=>x) ?_)
 rintro ⟨o,rh⟩ s1 k K ⟨g,ls,d,w,O,i,y,z⟩
 simp only at g d w O
 subst g
 have:=I0 hX o.length (ks:=o) (ls:=ls) (h:=max ha hb) (s:=s1) (by omega) k (by exact d) (by rw[i];exact fit)
 refine (this.mono (by omega) (by omega) ?_)
 rintro x s2 J t ⟨p,B,Q⟩
 rw[i] at p
 have hx:x.An≤max ha hb+1:=by
  by_cases U:o.length≤1
  · have:=B U
    omega
  have:=(Q (by omega) (by omega)).1
  omega
 refine ⟨p,by rw[f,eb];omega,?_⟩
 rintro h (⟨u,v,l⟩|⟨u,v,l⟩)
 · rw[f] at u l
   rw[eb] at v
   by_cases e:ha=h
   · subst e
     exact absurd (.inl ⟨by omega,l rfl⟩) c
   omega
 rw[eb] at u l
 rw[f] at v
 by_cases e:hb=h
 · subst e
   exact absurd (.inr ⟨by omega,l rfl⟩) c
 omega
end
section
variable {σ:Type} {X:Env σ} (hX:X.Ok)
theorem GS{a b c d:List As}(h:a++b=c++d)(hm: ∀x∈a++b,Ai x=true)(i:Ab a≤Ab c): ∃e,c=a++e∧b=e++d:=by
 rcases List.append_eq_append_iff.1 h with ⟨e,f,g⟩|⟨e,f,g⟩
 ·exact ⟨e,f,g⟩
 rw[f,Ak] at i
 have j:=Bq (l:=e) fun x hx=>hm x (by rw[f];simp[hx])
 have:e= []:=List.eq_nil_of_length_eq_zero (by omega)
 subst this
 exact ⟨[],by simpa using f.symm,by simpa using g.symm⟩
theorem R4: ∀(l1 l2:List As)(k:Nat),(∀x∈l1,Ai x=true)→EJ (l1++l2) (Ab l1) k=some (k+l1.length)
 | [],l2,k,_=>by
  cases l2<;>simp[EJ,Ab]
 | x :: l1, l2, k, h => by
   have hx:=CP (h x List.mem_cons_self)
   have a:=Bq (l:=l1) fun y hy=>h y (List.mem_cons_of_mem _ hy)
   rw[List.cons_append]
   unfold EJ
   rw[Bo]
   simp only
   rw[if_pos (by omega),show x.len+Ab l1-x.len=Ab l1 by omega,R4 l1 l2 (k+1) fun y hy=>h y (List.mem_cons_of_mem _ hy)]
   simp
   omega
theorem R5{v:Int→Option Nd}{h lo hi:Nat} : ∀{ks:List Kd}{ls:List (List As)}(l1 l2:List As)(j:Nat),F2 (Sub v h lo hi) ks ls→ls.flatten=l1++l2→Ab l1<Ab ls.flatten→
 ∃(k:Nat)(r:Int)(z:Kd)(g c:List As),GO ks (Ab l1) j=some (j+k,r)∧ks[k]?=some z∧ls[k]?=some (g++c)∧Sub v h lo hi z (g++c)∧r=Ab g∧l1=(ls.take k).flatten++g∧l2=c++(ls.drop (k+1)).flatten∧c≠ []∧k<ks.length
 | [],[],l1,l2,j,_,e,a=>by
  have:=List.append_eq_nil_iff.1 e.symm
  rw[this.1] at a
  simp[Ab] at a
 | k :: ks, l :: ls, l1, l2, j, n, e, a => by
   have d:=n.1.BK
   have b: ∀x∈l++ls.flatten,Ai x=true:=by
    have:=(Ia (fun k l x=>Sub.BK x) n).2.2.1
    simpa using this
   rw[List.flatten_cons] at e a
   unfold GO
   rw[d.bytes]
   by_cases m:Ab l≤Ab l1
   · obtain ⟨f,i,o⟩:=GS e b m
     rw[if_pos m]
     subst i
     rw[Ak,show Ab l+Ab f-Ab l=Ab f by omega]
     rw[Ak,Ak] at a
     obtain ⟨D,r,z,g,c,p,q,s,t,u,w,y,B,G⟩:=R5 f l2 (j+1) n.2 o (by omega)
     refine ⟨D+1,r,z,g,c,by rw[p];congr 2;omega,by simpa using q,by simpa using s,t,u,by simp[w],by simpa using y,B,by simp;omega⟩
   rw[if_neg m]
   obtain ⟨c,i,o⟩:=GS e.symm (by rw[←e];exact b) (by omega)
   refine ⟨0,Ab l1,k,l1,c,rfl,rfl,by simp[i],by rw[←i];exact n.1,rfl,by simp,by simpa using o,?_,by simp⟩
   rintro rfl
   rw[i,List.append_nil] at m
   omega
 | [],_::_,_,_,_,h,_,_=>h.elim
 |_::_,[],_,_,_,h,_,_=>h.elim
include hX in
theorem Ji{l:List As}{s:σ}(o:X.inv s)(k:Fit l):Step X s 0 (2*l.length) (BO X.wt l) (fun x s'=>Tl (X.V s') x l∧(l.length≤12→x.An≤0)):=by
 unfold BO
 have r:NZ (X.V s) 0 ⟨true,l,[]⟩ (l.map fun e=> [e]):=⟨rfl,rfl⟩
 have d:=Ha hX o r (by rw[GD];exact k) (fun c=>by omega)
 have hm:many ⟨true,l,[]⟩=l.length:=by simp[many]
 have hp:AV ⟨true,l,[]⟩=(l.length+11)/12:=by unfold AV;rw[hm]
 rw[hp,hm] at d
 refine (Step.bind (R2:=0) (W2:=(l.length+11)/12) d ?_).mono (by omega) (by omega) fun _ _ _ _ x=>x
 rintro ks s1 j q ⟨f,b,g,i⟩
 rw[GD] at g
 have := I0 hX ks.length (ks := ks) (ls := f) (h := 0) (s := s1) (by omega) j (by
  rw[i]
  by_cases a:(l.length+11)/12≤1
  ·rw[if_pos a,if_pos a] at b
   rw[if_pos a]
   by_cases v:l.length=0
   ·have:ks= []:=List.eq_nil_of_length_eq_zero (by omega)
    subst this
    have:f= []:=List.eq_nil_of_length_eq_zero (by rw[←b.len];rfl)
    subst this
    exact trivial
   exact b.mono fun _ _ x=>x.wide (by omega) (by omega)
  rw[if_neg a,if_neg a] at b
  rw[if_neg a]
  exact b) (by rw[g];exact k)
 rw[i,g] at this
 unfold grown
 rw[i]
 refine this.mono (by omega) (by omega) ?_
 rintro x s2 p m ⟨t,u,w⟩
 exact ⟨t,fun n=>by have:=u (by omega);simpa using this⟩
include hX in
theorem M3{ks:List Kd}{ls:List (List As)}{h:Nat}{s:σ}(g:X.inv s)(a:F2 (Sub (X.V s) h 4 12) ks ls)(j:Fit ls.flatten)(hl:ks.length≤12):
 Step X s 0 12 (CE X.wt ks ((h+1:Nat):Int)) (fun x s'=>Tl (X.V s') x ls.flatten∧x.An≤((h+1:Nat):Int)∧(x.An=((h+1:Nat):Int)→Sub (X.V s') (h+1) 1 ks.length x.DK ls.flatten)):=by
 unfold CE grown
 have e:((h+1:Nat):Int)-1=(h:Int):=by omega
 rw[e]
 have:=I0 hX ks.length (ks:=ks) (ls:=ls) (h:=h) (s:=s) (by omega) g (by
  split; · exact a.mono fun _ _ x=>x.wide (by omega) (by omega)
  ·exact a) j
 refine this.mono (by omega) (by omega) ?_
 rintro x s2 i c ⟨k,d,f⟩
 refine ⟨k,?_,?_⟩
 ·by_cases b:ks.length≤1
  ·have:=d b;omega
  have:=(f (by omega) hl).1;omega
 intro hx
 by_cases b:ks.length≤1
 ·have:=d b;omega
 exact (f (by omega) hl).2
include hX in
theorem LA : ∀(f : Nat){x : BH}{h : Nat}{l1 l2 : List As}{s : σ}, h < f → X.inv s → Tl (X.V s) x (l1 ++ l2) → x.An ≤ h →
 Step X s (1+h*(h+6)) (48*(h+1)) (Be X.rd X.wt f x (Ab l1)) (fun p s'=>Tl (X.V s') p.1 l1∧Tl (X.V s') p.2 l2∧p.1.An≤h∧p.2.An≤h)
 |0,x,h,l1,l2,s,hf,H,Q,hh=>absurd hf (by omega)
 | f + 1, x, h, l1, l2, s, hf, H, Q, hh => by
  unfold Be
  have c:Fit (l1++l2):=by
   rcases Q with ⟨-,e⟩|⟨k,e,G⟩
   · rw[e];exact Fit.nil
   exact G.BK.fit
  have ay:=Bq c.left.1
  have az:=Bq c.right.1
  have K:Co.An≤(h:Int):=by simp only[Co];omega
  by_cases Y:Ab l1≤0
  · rw[if_pos Y]
    have:l1= []:=List.eq_nil_of_length_eq_zero (by omega)
    subst this
    exact Step.ret H ⟨.inl ⟨rfl,rfl⟩,Q,K,hh⟩
  rw[if_neg Y]
  rcases Q with ⟨e0,e⟩|⟨k,ek,G⟩
  · have:l1= []:=(List.append_eq_nil_iff.1 e).1
    subst this
    simp[Ab] at Y
  have u:=G.BK
  rw[u.bytes,Ak]
  by_cases h2:Ab l1+Ab l2≤Ab l1
  · rw[if_pos h2]
    have:l2= []:=List.eq_nil_of_length_eq_zero (by omega)
    subst this
    exact Step.ret H ⟨.inr ⟨k,ek,by simpa using G⟩,.inl ⟨rfl,rfl⟩,hh,K⟩
  rw[if_neg h2]
  have b4:k≤h:=by omega
  cases k with
  | zero =>
    obtain ⟨T,c2,c3,O,c5⟩:=G
    refine (Step.bind (R2:=0) (W2:=2*l1.length+(2*l2.length+0)) (hX.rd s _ _ H T) ?_).mono (by omega) (by rw[List.length_append] at O;omega) fun _ _ _ _ x=>x
    rintro y s1 m v rfl
    simp only[if_true]
    rw[R4 l1 l2 0 c.left.1]
    simp only[Nat.zero_add]
    rw[List.take_left,List.drop_left]
    refine Step.bind (R1:=0) (R2:=0) (Ji hX m c.left) ?_
    rintro a s2 j g ⟨w,L⟩
    refine Step.bind (R1:=0) (R2:=0) (Ji hX j c.right) ?_
    rintro b s3 l d ⟨B,b2⟩
    rw[List.length_append] at O
    have L:=L (by omega)
    have b2:=b2 (by omega)
    exact Step.ret l ⟨w.le d,B,by simp only;omega,by simp only;omega⟩
  | succ k =>
    obtain ⟨ks,ls,T,c2,c3,O,c5,c6,c7,U,c9⟩:=G
    have b5:ks.length≤12:=O
    obtain ⟨h,rfl⟩: ∃h',h=h'+1:=⟨h-1,by omega⟩
    have hR:1+(h+1)*(h+1+6)=1+(1+h*(h+6)+(0+(h+3+(0+(h+3+0))))):=by
     rw[Nat.add_mul,Nat.mul_add h,Nat.mul_add h,Nat.one_mul,Nat.mul_add h]
     omega
    rw[hR]
    refine (Step.bind (R2:=1+h*(h+6)+(0+(h+3+(0+(h+3+0))))) (W2:=48*(h+1)+(12+(12+(12+(12+0))))) (hX.rd s _ _ H T) ?_).mono (by omega) (by omega) fun _ _ _ _ x=>x
    rintro y s1 m v rfl
    simp only[Bool.false_eq_true,if_false]
    obtain ⟨i,r,z,m1,m2,d1,d2,d3,d4,d5,D,P,d8,d9⟩:=R5 l1 l2 0 U c9.symm (by rw[←c9,Ak];omega)
    rw[d1]
    simp only[Nat.zero_add]
    have t:=U.mono fun _ _ x=>x.le v
    have a5:Fit (m1++m2):=d4.BK.fit
    have hT:((k+1:Nat):Int)=x.An:=ek.symm
    rw[←hT]
    by_cases hr:r=0
    · rw[if_pos hr]
      have b0:=Bq a5.left.1
      have:m1= []:=List.eq_nil_of_length_eq_zero (by omega)
      subst this
      have hd:(ls.drop i).flatten=l2:=by
       have:ls.drop i=m2::ls.drop (i+1):=by
        rw[List.drop_eq_getElem_cons (by have:=U.len;omega)]
        have:=List.getElem?_eq_some_iff.1 d3
        obtain ⟨_,e⟩:=this
        rw[e]
        simp
       rw[this,P]
       simp
      rw[List.append_nil] at D
      refine (Step.bind (R1:=0) (R2:=0) (W1:=12) (W2:=12+0) (M3 hX m (t.take i) (by rw[←D];exact c.left) (by rw[List.length_take];omega)) ?_).mono (by omega) (by omega) fun _ _ _ _ x=>x
      rintro a s2 j g ⟨w,L,a3⟩
      refine Step.bind (R1:=0) (R2:=0) (M3 hX j ((t.drop i).mono fun _ _ x=>x.le g) (by rw[hd];exact c.right) (by rw[List.length_drop];omega)) ?_
      rintro b s3 l d ⟨B,b2,b3⟩
      rw[←D] at w
      rw[hd] at B
      exact Step.ret l ⟨w.le d,B,by simp only;omega,by simp only;omega⟩
    rw[if_neg hr,d2]
    simp only
    rw[d5]
    have e1:((k+1:Nat):Int)-1=(k:Int):=by omega
    rw[e1]
    have ih:=LA f (x:=⟨z,(k:Int)⟩) (h:=h) (l1:=m1) (l2:=m2) (s:=s1) (by omega) m (.inr ⟨k,rfl,(d4.le v).wide (by omega) (by omega)⟩) (by simp only;omega)
    refine Step.bind ih ?_
    rintro ⟨p1,p2⟩ s2 j g ⟨t1,t2,t3,t4⟩
    simp only at t1 t2 t3 t4
    have n:=t.mono fun _ _ x=>x.le g
    have I:Fit (ls.take i).flatten:=by have:=c.left;rw[D] at this;exact this.left
    have a6:Fit (ls.drop (i+1)).flatten:=by have:=c.right;rw[P] at this;exact this.right
    refine (Step.bind (R1:=0) (W1:=12) (R2:=h+3+(0+(h+3+0))) (W2:=12+(12+(12+0))) (M3 hX j (n.take i) I (by rw[List.length_take];omega)) ?_).mono (by omega) (by omega) fun _ _ _ _ x=>x
    rintro a s3 l d ⟨w,L,a3⟩
    refine Step.bind (R1:=h+3) (W1:=12) (R2:=0+(h+3+0)) (W2:=12+(12+0)) ((LC hX l w (t1.le d) (by rw[←D];exact c.left)).mono (by unfold WG;omega) (by omega) fun _ _ _ _ x=>x) ?_
    rintro a' s4 Z o ⟨u1,u2,u3⟩
    have u4:=u3 (h+1) (.inl ⟨by omega,by omega,fun e=>by
     have:k=h:=by omega
     subst this
     exact (a3 e).wide (by omega) (by rw[List.length_take];omega)⟩)
    have W:=(n.mono fun _ _ x=>x.le d).mono fun _ _ x=>x.le o
    refine Step.bind (R1:=0) (W1:=12) (R2:=h+3+0) (W2:=12+0) (M3 hX Z (W.drop (i+1)) a6 (by rw[List.length_drop];omega)) ?_
    rintro b s5 a0 q ⟨B,b2,b3⟩
    refine Step.bind (R1:=h+3) (R2:=0) (W1:=12) (W2:=0) ((LC hX a0 (((t2.le d).le o).le q) B (by rw[←P];exact c.right)).mono (by unfold WG;omega) (by omega) fun _ _ _ _ x=>x) ?_
    rintro b' s6 a4 J ⟨w1,w2,w3⟩
    have w4:=w3 (h+1) (.inr ⟨by omega,by omega,fun e=>by
     have:k=h:=by omega
     subst this
     exact (b3 e).wide (by omega) (by rw[List.length_drop];omega)⟩)
    rw[←D] at u1
    rw[←P] at w1
    exact Step.ret a4 ⟨(u1.le q).le J,w1,u4,w4⟩
def Rt(v:Int→Option Nd)(root:Int)(l:List As):Prop:=(root=0∧l= [])∨ ∃(h:Nat)(k:Kd),k.Ay=root∧Sub v h 1 12 k l
theorem Rt.le{v v':Int→Option Nd}(c:Le v v'){r:Int}{l:List As}(h:Rt v r l):Rt v' r l:=by
 rcases h with h|⟨h,k,a,b⟩
 ·exact .inl h
 exact .inr ⟨h,k,a,b.le c⟩
theorem Tl.root{v:Int→Option Nd}{x:BH}{l:List As}(h:Tl v x l):Rt v x.DK.Ay l:=by
 rcases h with ⟨rfl,rfl⟩|⟨h,b,a⟩
 ·exact .inl ⟨rfl,rfl⟩
 exact .inr ⟨h,_,rfl,a⟩
theorem Rt.fit{v:Int→Option Nd}{r:Int}{l:List As}(h:Rt v r l):Fit l:=by
 rcases h with ⟨_,rfl⟩|⟨h,k,b,a⟩
 ·exact Fit.nil
 exact a.BK.fit
theorem WI{v:Int→Option Nd}{h:Nat}{n:Nd}{ls:List (List As)}(a:NZ v h n ls):n.leaf=decide (h=0):=by
 cases h with
 |zero=>obtain ⟨e,-⟩:=a;rw[e];rfl
 |succ h=>obtain ⟨e,-⟩:=a;rw[e];rfl
include hX in
theorem Ma: ∀(f:Nat){h:Nat}{n:Nd}{ls:List (List As)}{s:σ}(a:Int),h≤f→X.inv s→NZ (X.V s) h n ls→may n=true→Step X s h 0 (Cw X.rd f n a) (fun r s'=>r=a+h)
 | f, 0, n, ls, s, a, i, c, b, hm => by
  unfold Cw
  rw[WI b]
  simp only[decide_true,if_true]
  exact Step.ret c (by omega)
 |0,h+1,n,ls,s,a,i,c,b,hm=>absurd i (by omega)
 | f + 1, h + 1, n, ls, s, a, i, c, b, hm => by
  unfold Cw
  rw[WI b]
  simp only[Nat.add_one_ne_zero,decide_false,Bool.false_eq_true,if_false]
  obtain ⟨e,d⟩:=b
  obtain ⟨z,es,ks⟩:=n
  simp only at e d
  cases e
  obtain ⟨B,D,o,G,H,I⟩:=CJ hm rfl
  simp only at o
  cases ks with
  |nil=>simp at o
  | cons k ks =>
   cases ls with
   |nil=>exact d.elim
   | cons l ls =>
    obtain ⟨p,K⟩:=d
    rw[F7] at p
    obtain ⟨J,w,q,t,u,y⟩:=p
    simp only
    refine (Step.bind (R2:=h) (W2:=0) (hX.rd s _ _ c q) ?_).mono (by omega) (by omega) fun _ _ _ _ x=>x
    rintro x s1 g j rfl
    refine (Ma f (h:=h) (a+1) (by omega) g (t.le j) u).mono (by omega) (by omega) ?_
    rintro r s2 v m rfl
    omega
include hX in
theorem Px{root:Int}{l:List As}{s:σ}(f:X.inv s)(hr:Rt (X.V s) root l)(L:Nat)(q: ∀h:Nat,2*4^h≤l.length→h≤L):Step X s (L+1) 0 (DN X.rd root) (fun x s'=>Tl (X.V s') x l∧x.An≤L):=by
 unfold DN
 rcases hr with ⟨rfl,rfl⟩|⟨h,k,rfl,hs⟩
 · rw[if_pos rfl]
   exact Step.ret f ⟨.inl ⟨rfl,rfl⟩,by simp only[Co];omega⟩
 have g:=hs.low
 have z:h≤L:=by
  by_cases p:0<h
  · exact q h (hs.two p)
  omega
 have e:=hs
 rw[F7] at hs
 obtain ⟨n,ls,i,j,m,t,u,o,v,w,y⟩:=hs
 rw[if_neg (by omega)]
 refine (Step.bind (R2:=h+0) (W2:=0) (hX.rd s _ _ f i) ?_).mono (by omega) (by omega) fun _ _ _ _ x=>x
 rintro x s1 c a rfl
 refine Step.bind (R2:=0) (W2:=0) (Ma hX 20 (h:=h) 0 (by omega) c (j.le a) m) ?_
 rintro r s2 d b rfl
 refine Step.ret d ⟨.inr ⟨h,by simp,?_⟩,by simp only;omega⟩
 simp only
 rw[←o]
 exact (e.le a).le b
theorem Uf: ∀(l1:List As)(x:As)(l2:List As)(p a:Int),(∀y∈l1,Ai y=true)→a+Ab l1≤p→p<a+Ab l1+x.len→JM (l1++x::l2) p a= .inl (.here x (a+Ab l1))
 | [],x,l2,p,a,_,c,b=>by
  simp only[Ab,List.map_nil,List.sum_nil,Int.add_zero] at c b
  simp[JM,b,Ab]
 | y :: l1, x, l2, p, a, hm, c, b => by
   rw[Bo] at c b
   have e:=Bq (l:=l1) fun z d=>hm z (List.mem_cons_of_mem _ d)
   rw[List.cons_append]
   unfold JM
   rw[if_neg (by omega),Uf l1 x l2 p (a+y.len) (fun z d=>hm z (List.mem_cons_of_mem _ d)) (by omega) (by omega),Bo]
   congr 2
   omega
theorem Ug{v:Int→Option Nd}{h lo hi:Nat} : ∀{ks:List Kd}{ls:List (List As)}(p a:Int),F2 (Sub v h lo hi) ks ls→a≤p→p<a+Ab ls.flatten→
 ∃(z:Kd)(b c g:List As),Lx ks p a= .below z.Ay (a+Ab b)∧Sub v h lo hi z c∧ls.flatten=b++(c++g)∧a+Ab b≤p∧p<a+Ab b+Ab c
 | [],[],p,a,_,n,d=>by
  simp[Ab] at d
  omega
 | k :: ks, l :: ls, p, a, f, n, d => by
   rw[List.flatten_cons,Ak] at d
   unfold Lx
   rw[f.1.BK.bytes]
   by_cases e:p<a+Ab l
   ·rw[if_pos e]
    exact ⟨k,[],l,ls.flatten,by simp[Ab],f.1,by simp,by simp[Ab];omega,by simp[Ab] at e⊢;omega⟩
   rw[if_neg e]
   obtain ⟨z,b,c,g,i,j,m,o,q⟩:=Ug p (a+Ab l) f.2 (by omega) (by omega)
   exact ⟨z,l++b,c,g,by rw[i,Ak];congr 1;omega,j,by rw[List.flatten_cons,m,List.append_assoc],by rw[Ak];omega,by rw[Ak];omega⟩
 | [],_::_,_,_,h,_,_=>h.elim
 |_::_,[],_,_,h,_,_=>h.elim
theorem Qv: ∀(l:List As)(p:Int),(∀y∈l,Ai y=true)→0≤p→p<Ab l→ ∃l1 x l2,l=l1++x::l2∧Ab l1≤p∧p<Ab l1+x.len
 | [],p,_,b,a=>by simp[Ab] at a;omega
 | y :: l, p, hm, b, a => by
  rw[Bo] at a
  by_cases g:p<y.len
  ·exact ⟨[],y,l,rfl,by simp[Ab];omega,by simp[Ab];omega⟩
  obtain ⟨l1,x,l2,e,d,f⟩:=Qv l (p-y.len) (fun z c=>hm z (List.mem_cons_of_mem _ c)) (by omega) (by omega)
  exact ⟨y::l1,x,l2,by rw[e];rfl,by rw[Bo];omega,by rw[Bo];omega⟩
include hX in
theorem P0: ∀(f:Nat){h:Nat}{n:Nd}{ls:List (List As)}{s:σ}(p a:Int),h<f→X.inv s→NZ (X.V s) h n ls→Fit ls.flatten→a≤p→p<a+Ab ls.flatten→
 Step X s h 0 (DG X.rd f n p a) (fun r s'=> ∃l1 l2,ls.flatten=l1++r.1::l2∧r.2=a+Ab l1∧a+Ab l1≤p∧p<a+Ab l1+r.1.len)
 |0,h,n,ls,s,p,a,l,_,_,_,_,_=>absurd l (by omega)
 | f + 1, 0, n, ls, s, p, a, l, j, o, b, w, i => by
  obtain ⟨e,rfl⟩:=o
  rw[GD] at b i⊢
  obtain ⟨l1,x,l2,c,g,d⟩:=Qv n.Ao (p-a) b.1 (by omega) (by omega)
  unfold DG UW
  rw[c,Uf l1 x l2 p a (fun y hy=>b.1 y (by rw[c];simp[hy])) (by omega) (by omega)]
  exact Step.ret j ⟨l1,l2,rfl,rfl,by omega,by simp only;omega⟩
 | f + 1, h + 1, n, ls, s, p, a, l, j, o, b, w, i => by
  obtain ⟨e,L⟩:=o
  obtain ⟨z,t,U,Q,c,g,d,J,K⟩:=Ug p a L w i
  have P:UW n p a= .below z.Ay (a+Ab t):=by
   unfold UW
   rw[e]
   simp only[JM]
   exact c
  unfold DG
  rw[P]
  simp only
  rw[F7] at g
  obtain ⟨n2,T,D,b2,W,Y,Z,b6,b7,b8,G⟩:=g
  refine (Step.bind (R2:=h) (W2:=0) (hX.rd s _ _ j D) ?_).mono (by omega) (by omega) fun _ _ _ _ x=>x
  rintro x s1 k m rfl
  have v:Fit U:=by rw[d] at b;exact b.YC
  rw[G] at v K d
  refine (P0 f (h:=h) p (a+Ab t) (by omega) k (b2.le m) v J (by omega)).mono (by omega) (by omega) ?_
  rintro ⟨y,q⟩ s2 O B ⟨l1,l2,u,c2,H,I⟩
  simp only at u c2 H I⊢
  exact ⟨t++l1,l2++Q,by rw[d,u];simp,by rw[Ak];omega,by rw[Ak];omega,by rw[Ak];omega⟩
include hX in
theorem U1{root:Int}{l:List As}{s:σ}(v:X.inv s)(hr:Rt (X.V s) root l)(L:Nat)(z: ∀h:Nat,2*4^h≤l.length→h≤L)(p:Int)(t:0≤p)(u:p<Ab l):
 Step X s (L+1) 0 (IX X.rd root p) (fun r s'=> ∃l1 l2,l=l1++r.1::l2∧r.2=Ab l1∧Ab l1≤p∧p<Ab l1+r.1.len):=by
 unfold IX
 rcases hr with ⟨rfl,rfl⟩|⟨h,k,rfl,hs⟩
 · simp[Ab] at u
   omega
 have f:=hs.low
 have K:h≤L:=by
  by_cases o:0<h
  · exact z h (hs.two o)
  omega
 have c:=hs.BK.fit
 rw[F7] at hs
 obtain ⟨n,ls,g,i,B,D,G,H,I,J,rfl⟩:=hs
 refine (Step.bind (R2:=h) (W2:=0) (hX.rd s _ _ v g) ?_).mono (by omega) (by omega) fun _ _ _ _ x=>x
 rintro x s1 a b rfl
 refine (P0 hX 22 (h:=h) p 0 (by omega) a (i.le b) c t (by omega)).mono (by omega) (by omega) ?_
 rintro ⟨y,q⟩ s2 w e ⟨l1,l2,d,c2,j,m⟩
 simp only at d c2 j m⊢
 exact ⟨l1,l2,d,by omega,by omega,by omega⟩
theorem RD: ∀(l1 l2:List As)(r:Int),(∀y∈l1++l2,Ai y=true)→C4 (l1++l2) (Ab l1) r=(-Ab l2,r+l1.length)
 | [], l2, r, hm => by
  have key: ∀(l:List As)(n:Int),n≤0→(∀y∈l,Ai y=true)→C4 l n r=(n-Ab l,r):=by
   intro l
   induction l with
   |nil=>intro n _ _;simp[C4,Ab]
   | cons y l b =>
    intro n e hm
    have:=CP (hm y List.mem_cons_self)
    unfold C4
    rw[if_neg (by omega),b (n-y.len) (by omega) fun z a=>hm z (List.mem_cons_of_mem _ a),Bo]
    congr 1
    omega
  rw[List.nil_append,key l2 _ (by simp[Ab]) (by simpa using hm)]
  simp[Ab]
 | y :: l1, l2, r, hm => by
   have c:=CP (hm y (by simp))
   have d:=Bq (l:=l1) fun z a=>hm z (by simp[a])
   rw[List.cons_append]
   unfold C4
   rw[Bo,if_pos (by omega),show y.len+Ab l1-y.len=Ab l1 by omega,RD l1 l2 (r+1) fun z a=>hm z (by simp at a⊢;exact .inr a)]
   congr 1
   simp
   omega
theorem RE{v:Int→Option Nd}{h lo hi:Nat} : ∀{ks:List Kd}{ls:List (List As)}(l1 l2:List As)(r0:Int),F2 (Sub v h lo hi) ks ls→ls.flatten=l1++l2→Ab l1<Ab ls.flatten→
 ∃(z:Kd)(j f g:List As),F3 ks (Ab l1) r0= .inl (z,Ab f,r0+j.length)∧Sub v h lo hi z (f++g)∧l1=j++f
 | [],[],l1,l2,r0,_,e,b=>by
  have:=List.append_eq_nil_iff.1 e.symm
  rw[this.1] at b
  simp[Ab] at b
 | k :: ks, l :: ls, l1, l2, r0, i, e, b => by
   have a:=i.1.BK
   have c: ∀x∈l++ls.flatten,Ai x=true:=by
    have:=(Ia (fun k l x=>Sub.BK x) i).2.2.1
    simpa using this
   rw[List.flatten_cons] at e b
   unfold F3
   rw[a.bytes]
   by_cases r:Ab l≤Ab l1
   · obtain ⟨d,m,n⟩:=GS e c r
     rw[if_neg (by omega)]
     subst m
     rw[Ak,show Ab l+Ab d-Ab l=Ab d by omega]
     rw[Ak,Ak] at b
     obtain ⟨z,j,f,g,o,p,q⟩:=RE d l2 (r0+k.A7) i.2 n (by omega)
     refine ⟨z,l++j,f,g,?_,p,by rw[q,List.append_assoc]⟩
     rw[o,a.A7]
     simp
     omega
   rw[if_pos (by omega)]
   obtain ⟨g,m,n⟩:=GS e.symm (by rw[←e];exact c) (by omega)
   exact ⟨k,[],l1,g,by simp,by rw[←m];exact i.1,by simp⟩
 | [],_::_,_,_,_,h,_,_=>h.elim
 |_::_,[],_,_,_,h,_,_=>h.elim
include hX in
theorem KW: ∀(f:Nat){x:BH}{h:Nat}{l1 l2:List As}{s:σ},h<f→X.inv s→Tl (X.V s) x (l1++l2)→x.An≤h→Step X s (h+1) 0 (Cu X.rd f x (Ab l1)) (fun r s'=>r=l1.length)
 |0,x,h,l1,l2,s,q,d,m,L=>absurd q (by omega)
 | f + 1, x, h, l1, l2, s, q, d, m, L => by
  unfold Cu
  have b:Fit (l1++l2):=by
   rcases m with ⟨-,e⟩|⟨k,e,i⟩
   · rw[e];exact Fit.nil
   exact i.BK.fit
  have J:=Bq b.left.1
  have K:=Bq b.right.1
  by_cases o:Ab l1≤0
  · rw[if_pos (.inl o)]
    have:l1= []:=List.eq_nil_of_length_eq_zero (by omega)
    subst this
    exact Step.ret d (by simp)
  rcases m with ⟨e0,e⟩|⟨k,U,i⟩
  · have:l1= []:=(List.append_eq_nil_iff.1 e).1
    subst this
    simp[Ab] at o
  rw[if_neg (by omega)]
  have a:=i.BK
  rw[a.bytes,Ak]
  by_cases p:Ab l1+Ab l2≤Ab l1
  · rw[if_pos p]
    have:l2= []:=List.eq_nil_of_length_eq_zero (by omega)
    subst this
    exact Step.ret d (by rw[a.A7];simp)
  rw[if_neg p]
  cases k with
  | zero =>
    obtain ⟨j,c2,B,D,G⟩:=i
    refine (Step.bind (R2:=0) (W2:=0) (hX.rd s _ _ d j) ?_).mono (by omega) (by omega) fun _ _ _ _ x=>x
    rintro y s1 c g rfl
    simp only
    rw[RD l1 l2 0 b.1]
    simp only[F3]
    exact Step.ret c (by omega)
  | succ k =>
    obtain ⟨ks,ls,j,c2,B,D,G,Q,T,H,n⟩:=i
    obtain ⟨h,rfl⟩: ∃I,h=I+1:=⟨h-1,by omega⟩
    refine (Step.bind (R2:=h+1+0) (W2:=0) (hX.rd s _ _ d j) ?_).mono (by omega) (by omega) fun _ _ _ _ x=>x
    rintro y s1 c g rfl
    simp only[C4]
    obtain ⟨z,W,O,P,u,v,w⟩:=RE l1 l2 0 H n.symm (by rw[←n,Ak];omega)
    rw[u]
    simp only
    refine Step.bind (R2:=0) (W2:=0) (KW f (x:=⟨z,x.An-1⟩) (h:=h) (l1:=O) (l2:=P) (s:=s1) (by omega) c (.inr ⟨k,by simp only;omega,(v.le g).wide (by omega) (by omega)⟩) (by simp only;omega)) ?_
    rintro r s2 l t rfl
    exact Step.ret l (by rw[w];simp)
include hX in
theorem YX{root:Int}{l:List As}{s:σ}(c:X.inv s)(hr:Rt (X.V s) root l):Step X s 1 0 (En X.rd root) (fun r s'=>r=Ab l):=by
 unfold En
 rcases hr with ⟨rfl,rfl⟩|⟨h,k,rfl,hs⟩
 ·rw[if_pos rfl]
  exact Step.ret c rfl
 have b:=hs.BK
 rw[F7] at hs
 obtain ⟨n,ls,d,g,i,j,m,e,o,p,q⟩:=hs
 rw[if_neg (by omega)]
 refine (Step.bind (R2:=0) (W2:=0) (hX.rd s _ _ c d) ?_).mono (by omega) (by omega) fun _ _ _ _ x=>x
 rintro x s1 a f rfl
 refine Step.ret a ?_
 rw[←b.bytes,e]
 rfl
end
def BI:List As→Prop
 |a::b::l=>meets a b=false∧BI (b::l)
 |_=>True
theorem BI.tail{a:As}{l:List As}(h:BI (a::l)):BI l:=by
 cases l with
 |nil=>trivial
 |cons b l=>exact h.2
theorem LU{o:List As}(b:As)(h:o.getLast?=none):A6 o b=o++ [b]:=by
 unfold A6
 rw[h]
 rw[List.getLast?_eq_none_iff.1 h]
 rfl
theorem MU{o:List As}{a b:As}(h:o.getLast?=some a)(hm:meets a b=false):A6 o b=o++ [b]:=by
 unfold A6
 rw[h]
 simp[hm]
theorem UY(o:List As)(x:As):A6 o x≠ []:=by
 unfold A6
 cases o.getLast? with
 |none=>simp
 |some a=>simp only;split<;>simp
theorem SJ(A o:List As)(x:As)(b:o≠ []):A6 (A++o) x=A++A6 o x:=by
 unfold A6
 rw[List.getLast?_append]
 cases h:o.getLast? with
 |none=>exact absurd (List.getLast?_eq_none_iff.1 h) b
 | some a =>
  simp only[Option.some_or]
  split
  ·rw[List.dropLast_append_of_ne_nil b,List.append_assoc]
  rw[List.append_assoc]
theorem K1(A:List As): ∀(l o:List As),o≠ []→l.foldl A6 (A++o)=A++l.foldl A6 o
 | [],o,_=>rfl
 | x :: l, o, h => by
  rw[List.foldl_cons,List.foldl_cons,SJ A o x h,K1 A l _ (UY o x)]
theorem join_cons(x:As)(l:List As):join (x::l)=l.foldl A6 [x]:=rfl
theorem Gi: ∀{l:List As},BI l→join l=l
 | [],_=>rfl
 | [a],_=>rfl
 | a :: b :: l, h => by
  have c:=Gi (l:=b::l) h.2
  rw[join_cons] at c⊢
  rw[List.foldl_cons]
  have e:A6 [a] b= [a]++ [b]:=by simp[A6,h.1]
  rw[e,K1 [a] l [b] (by simp),c]
  rfl
theorem WK{A M:List As}(c:BI A){m:As}{M':List As}(d:M=m::M')(h: ∀a,A.getLast?=some a→meets a m=false):join (A++M)=A++join M:=by
 subst d
 unfold join
 rw[List.foldl_append]
 have e:=Gi c
 unfold join at e
 rw[e,List.foldl_cons,List.foldl_cons]
 have b:A6 A m=A++ [m]:=by
  cases hl:A.getLast? with
  |none=>exact LU m hl
  |some a=>exact MU hl (h a hl)
 rw[b,K1 A M' [m] (by simp)]
 rfl
theorem UZ{M B:List As}(e:BI B)(h: ∀a b c,(join M).getLast?=some a→B=b::c→meets a b=false):join (M++B)=join M++B:=by
 unfold join
 rw[List.foldl_append]
 cases B with
 |nil=>simp
 | cons b B =>
  rw[List.foldl_cons]
  have d:A6 (M.foldl A6 []) b=M.foldl A6 []++ [b]:=by
   cases hl:(M.foldl A6 []).getLast? with
   |none=>exact LU b hl
   |some a=>exact MU hl (h a b B hl rfl)
  rw[d,K1 _ B [b] (by simp)]
  have:=Gi e
  rw[join_cons] at this
  rw[this]
theorem QJ(o:List As)(z:As): ∃e,(A6 o z).getLast?=some e∧e.src=z.src∧e.pos+e.len=z.pos+z.len:=by
 unfold A6
 cases hl:o.getLast? with
 |none=>exact ⟨z,by simp,rfl,rfl⟩
 | some a =>
  simp only
  split
  ·rename_i hm
   unfold meets at hm
   simp only[decide_eq_true_eq] at hm
   refine ⟨glue a z,by simp,hm.1,?_⟩
   simp only[glue]
   omega
  exact ⟨z,by simp,rfl,rfl⟩
theorem Va(M:List As)(z:As): ∃e,(join (M++ [z])).getLast?=some e∧e.src=z.src∧e.pos+e.len=z.pos+z.len:=by
 unfold join
 rw[List.foldl_append]
 exact QJ _ z
theorem Rb{a a' b b':As}(c:a.src=a'.src)(d:a.pos+a.len=a'.pos+a'.len)(e:b.src=b'.src)(f:b.pos=b'.pos):meets a b=meets a' b':=by
 unfold meets
 rw[c,d,e,f]
theorem BI.left: ∀{a b:List As},BI (a++b)→BI a
 | [],b,_=>trivial
 | [x],b,_=>trivial
 |x::y::a,b,h=>⟨h.1,BI.left (a:=y::a) (b:=b) h.2⟩
theorem BI.right: ∀{a b:List As},BI (a++b)→BI b
 | [],b,h=>h
 |x::a,b,h=>BI.right (a:=a) (BI.tail h)
theorem BI.meet: ∀{A:List As}{a b:As}{B:List As},BI (A++b::B)→A.getLast?=some a→meets a b=false
 | [],a,b,B,h,e=>by cases e
 | [x],a,b,B,h,e=>by
  simp at e
  subst e
  exact h.1
 |x::y::A,a,b,B,h,e=>BI.meet (A:=y::A) h.2 (by simpa using e)
theorem MW: ∀{A B:List As},BI A→BI B→(∀a b d,A.getLast?=some a→B=b::d→meets a b=false)→BI (A++B)
 | [],B,_,c,_=>c
 | [x],[],_,_,_=>trivial
 | [x],b::B,_,c,h=>⟨h x b B rfl rfl,c⟩
 |x::y::A,B,e,c,h=>⟨e.1,MW (A:=y::A) e.2 c fun a b d f g=>h a b d (by simpa using f) g⟩
theorem BS{x:As} :Ai x=true↔((x.src=0∨x.src=1)∧0≤x.pos∧x.pos≤16777216∧1≤x.len∧x.len≤16777216-x.pos∧x.len≤1048576∧(-1≤x.lines∧x.lines≤x.len)∧(x.src=1∨x.lines= -1)):=by
 unfold Ai
 exact decide_eq_true_iff
theorem WE{a x:As}(ha:Ai a=true)(hx:Ai x=true)(hm:meets a x=true)(hl:a.len+x.len≤1048576):Ai (glue a x)=true:=by
 rw[BS] at ha hx⊢
 unfold meets at hm
 simp only[decide_eq_true_eq] at hm
 obtain ⟨b,c⟩:=hm
 unfold glue
 simp only
 refine ⟨ha.1,ha.2.1,ha.2.2.1,by omega,by omega,hl,?_,?_⟩
 ·split<;>omega
 rcases ha.2.2.2.2.2.2.2 with h|h
 ·exact .inl h
 exact .inr (by rw[if_pos (.inl (by omega))])
theorem QF: ∀(l o:List As),(∀x∈o,Ai x=true)→(∀x∈l,Ai x=true)→Ab o+Ab l≤1048576→ ∀x∈l.foldl A6 o,Ai x=true
 | [],o,h,_,_=>h
 | y :: l, o, h, c, d => by
  rw[List.foldl_cons]
  rw[Bo] at d
  refine QF l _ ?_ (fun x hx=>c x (List.mem_cons_of_mem _ hx)) (by rw[Fe];omega)
  have hy:=c y List.mem_cons_self
  have hl:=Bq (l:=l) fun x hx=>c x (List.mem_cons_of_mem _ hx)
  unfold A6
  cases b:o.getLast? with
  | none =>
   intro x hx
   simp at hx
   subst hx
   exact hy
  | some a =>
   simp only
   obtain ⟨o',rfl⟩:=List.getLast?_eq_some_iff.1 b
   have ha:=h a (by simp)
   have f:=Bq (l:=o') fun x hx=>h x (by simp[hx])
   have e:Ab (o'++ [a])=Ab o'+a.len:=by rw[Ak];simp[Ab]
   split
   ·rename_i hm
    intro x hx
    rw[List.dropLast_concat] at hx
    rcases List.mem_append.1 hx with hx|hx
    ·exact h x (by simp[hx])
    simp at hx
    subst hx
    exact WE ha hy hm (by omega)
   intro x hx
   rcases List.mem_append.1 hx with hx|hx
   ·exact h x hx
   simp at hx
   subst hx
   exact hy
theorem WJ{l:List As}(h: ∀x∈l,Ai x=true)(hb:Ab l≤1048576): ∀x∈join l,Ai x=true:=QF l [] (fun x hx=>(List.not_mem_nil hx).elim) h (by simpa[Ab] using hb)
theorem KR{x:As}(h:Ai x=true){a b:Int}(ha:0≤a)(hb:b≤x.len): ∀y∈part x a b,Ai y=true:=by
 rw[BS] at h
 intro y hy
 unfold part at hy
 split at hy
 ·simp at hy
 split at hy
 ·simp at hy
  subst hy
  rw[BS]
  simp only
  refine ⟨h.1,by omega,by omega,by omega,by omega,by omega,?_,?_⟩
  ·split<;>omega
  rcases h.2.2.2.2.2.2.2 with c|c
  ·exact .inl c
  exact .inr (by split<;>omega)
 simp at hy
 subst hy
 rw[BS]
 exact h
theorem Ny(x:As){a b:Int}(ha:0≤a)(h:a≤b)(hb:b≤x.len):Ab (part x a b)=b-a:=by
 unfold part
 split
 ·simp[Ab];omega
 split
 ·simp[Ab]
 simp[Ab];omega
def Hh(x:As)(a n:Int):As:= { x with pos:=x.pos+a,len:=n,lines:=if x.lines=0 then 0 else-1 }
def first:List As→Int→List As×List As
 | [],_=>([],[])
 | x :: l, n => if x.len ≤ n then (x :: (first l (n - x.len)).1, (first l (n - x.len)).2)
  else if n≤0 then ((first l (n-x.len)).1,x::(first l (n-x.len)).2)
  else (Hh x 0 n::(first l (n-x.len)).1,Hh x n (x.len-n)::(first l (n-x.len)).2)
theorem Eg: ∀(l:List As)(n:Int),n≤0→(∀x∈l,Ai x=true)→first l n=([],l)
 | [],_,_,_=>rfl
 | x :: l, n, h, hm => by
  have:=CP (hm x List.mem_cons_self)
  rw[first,Eg l (n-x.len) (by omega) fun y hy=>hm y (List.mem_cons_of_mem _ hy),if_neg (by omega),if_pos h]
theorem Hk(l:List As): ∀(A:List As)(n:Int),(∀x∈A,Ai x=true)→0≤n→first (A++l) (Ab A+n)=(A++(first l n).1,(first l n).2)
 | [],n,_,_=>by simp[Ab]
 | x :: A, n, hm, a => by
  have hx:=CP (hm x List.mem_cons_self)
  have b:=Bq (l:=A) fun y hy=>hm y (List.mem_cons_of_mem _ hy)
  rw[List.cons_append]
  rw[first,Bo,if_pos (by omega),show x.len+Ab A+n-x.len=Ab A+n by omega,Hk l A n (fun y hy=>hm y (List.mem_cons_of_mem _ hy)) a]
  rfl
theorem SC{A B:List As}{x:As}(hm: ∀y∈A++x::B,Ai y=true){n:Int}(c:0<n)(d:n≤x.len):(first (A++x::B) (Ab A+n)).1=A++part x 0 n:=by
 have b: ∀y∈B,Ai y=true:=fun y hy=>hm y (by simp[hy])
 rw[Hk _ A n (fun y hy=>hm y (by simp[hy])) (by omega)]
 unfold part
 rw[first,Eg B (n-x.len) (by omega) b,if_neg (show¬n≤0 by omega)]
 by_cases a:x.len≤n
 ·rw[if_pos a,if_neg (by omega),if_neg (by omega)]
 rw[if_neg a,if_neg (by omega),if_pos (.inr (by omega))]
 simp[Hh]
theorem QA{A B:List As}{x:As}(hm: ∀y∈A++x::B,Ai y=true){n:Int}(c:0≤n)(d:n<x.len):(first (A++x::B) (Ab A+n)).2=part x n x.len++B:=by
 have b: ∀y∈B,Ai y=true:=fun y hy=>hm y (by simp[hy])
 rw[Hk _ A n (fun y hy=>hm y (by simp[hy])) (by omega)]
 unfold part
 rw[first,Eg B (n-x.len) (by omega) b,if_neg (show¬x.len≤n by omega),if_neg (show¬x.len≤n by omega)]
 by_cases a:n≤0
 ·rw[if_pos a,if_neg (by omega)]
  rfl
 rw[if_neg a,if_pos (.inl (by omega))]
 simp[Hh]
theorem UN{l:List As}(hm: ∀y∈l,Ai y=true):first l (Ab l)=(l,[]):=by
 have:=Hk [] l 0 hm (by omega)
 simpa[first] using this
theorem LS: ∀(l:List As)(a n:Int),(∀y∈l,Ai y=true)→0≤a→0≤n→(first (first l a).2 n).2=(first l (a+n)).2
 | [],_,_,_,_,_=>rfl
 | x :: l, a, n, hm, ha, j => by
  have hx:=CP (hm x List.mem_cons_self)
  have hl: ∀y∈l,Ai y=true:=fun y hy=>hm y (List.mem_cons_of_mem _ hy)
  by_cases b:x.len≤a
  · conv=>lhs;rw[first]
    conv=>rhs;rw[first]
    rw[if_pos b,if_pos (by omega)]
    simp only
    rw[LS l (a-x.len) n hl (by omega) j]
    congr 2
    omega
  by_cases g:a≤0
  · have:a=0:=by omega
    subst this
    rw[Eg _ 0 (by omega) hm,Int.zero_add]
  have e:(first (x::l) a).2=Hh x a (x.len-a)::l:=by
   rw[first,if_neg b,if_neg g,Eg l _ (by omega) hl]
  rw[e]
  conv=>lhs;rw[first]
  conv=>rhs;rw[first]
  have d:(Hh x a (x.len-a)).len=x.len-a:=rfl
  rw[d,show n-(x.len-a)=a+n-x.len by omega]
  by_cases c:x.len≤a+n
  · rw[if_pos (by omega),if_pos c]
  rw[if_neg (by omega),if_neg c,if_neg (show¬a+n≤0 by omega)]
  by_cases i:n≤0
  · have:n=0:=by omega
    subst this
    rw[if_pos (by omega),Int.add_zero]
  rw[if_neg i]
  have f:Hh (Hh x a (x.len-a)) n (x.len-a-n)=Hh x (a+n) (x.len-(a+n)):=by
   simp only[Hh]
   congr 1
   · omega
   · omega
   by_cases h:x.lines=0<;>simp[h]
  simp only
  rw[f]
def D8(l:List As)(at_ n:Int)(put:List As):List As:=join ((first l at_).1++put++(first (first l at_).2 n).2)
theorem Rz{x:As}{a b:Int}(h:a<b): ∃m,part x a b= [m]∧m.src=x.src∧(0≤a→a≤0→m.pos=x.pos)∧(0≤a→b=x.len→m.pos+m.len=x.pos+x.len):=by
 unfold part
 rw[if_neg (by omega)]
 split
 ·exact ⟨_,rfl,rfl,fun _ _=>by simp only;omega,fun _ _=>by simp only;omega⟩
 exact ⟨x,rfl,rfl,fun _ _=>rfl,fun _ _=>rfl⟩
section
variable {σ:Type} {X:Env σ} (hX:X.Ok)
def Env.or(X:Env σ)(e:Int):Env σ:= { X with bad:=fun x=>X.bad x∨x=e }
theorem Step.more{α:Type}{s:σ}{R W:Nat}{m:M σ α}{Q:α→σ→Prop}(e:Int)(h:Step X s R W m Q):Step (X.or e) s R W m Q:=by
 unfold Step at h⊢
 rcases h with h|h
 ·exact .inl h
 right
 cases hm:m s with
 |ok a s'=>rw[hm] at h;exact h
 | fault e' s' =>
  rw[hm] at h
  obtain ⟨b,c⟩:=h
  exact ⟨b.imp .inl id,c⟩
 |bad=>rw[hm] at h;exact h
include hX in
theorem Env.V'(e:Int):(X.or e).Ok where
 rd:=fun s p n a b=>(hX.rd s p n a b).more e
 wt:=fun s n a b=>(hX.wt s n a b).more e
def Sx(l:List As)(at_:Int)(p:List As×Int)(A:List As):Prop:=
 (∃Y,l=A++Y)∧p.2=Ab A∧(first l at_).1=A++p.1∧(A= []∨ ∃m,p.1= [m]∧ ∀a,A.getLast?=some a→meets a m=false)∧(∀y∈p.1,Ai y=true)∧Ab A≤at_∧Ab A+Ab p.1=at_
def PF(l:List As)(to:Int)(q:List As×Int)(C B:List As):Prop:=
 l=C++B∧q.2=Ab C∧(first l to).2=q.1++B∧(B= []∨ ∃m,q.1= [m]∧ ∀b a e,B=b::a→e.src=m.src→e.pos+e.len=m.pos+m.len→meets e b=false)∧(∀y∈q.1,Ai y=true)∧to≤Ab C∧Ab q.1+Ab B=Ab l-to
include hX in
theorem OT{root:Int}{l:List As}{s:σ}(e:X.inv s)(hr:Rt (X.V s) root l)(f:BI l)(L:Nat)(r: ∀h:Nat,2*4^h≤l.length→h≤L){at_:Int}(v:0≤at_)(q:at_≤Ab l):
 Step X s (L+1) 0 (leftOf X.rd root at_) (fun p s'=> ∃A,Sx l at_ p A):=by
 unfold leftOf
 have hm:=hr.fit.1
 by_cases d:0<at_
 ·rw[if_pos d]
  refine (Step.bind (R2:=0) (W2:=0) (U1 hX e hr L r (at_-1) (by omega) (by omega)) ?_).mono (by omega) (by omega) fun _ _ _ _ x=>x
  rintro ⟨x,a⟩ s1 c t ⟨l1,l2,rfl,rfl,g,i⟩
  dsimp only at g i hm f q d⊢
  have hx:=hm x (by simp)
  refine Step.ret c ⟨l1,⟨x::l2,rfl⟩,rfl,?_,?_,KR hx (by omega) (by omega),by omega,by rw[Ny x (by omega) (by omega) (by omega)];omega⟩
  ·have:=SC hm (n:=at_-Ab l1) (by omega) (by omega)
   rw[show Ab l1+(at_-Ab l1)=at_ by omega] at this
   exact this
  obtain ⟨m,j,k,o,u⟩:=Rz (x:=x) (a:=0) (b:=at_-Ab l1) (by omega)
  refine .inr ⟨m,j,fun a ha=>?_⟩
  rw[Rb (a':=a) (b':=x) rfl rfl k (o (by omega) (by omega))]
  exact f.meet ha
 rw[if_neg d]
 have:at_=0:=by omega
 subst this
 exact Step.ret e ⟨[],⟨l,rfl⟩,rfl,by rw[Eg l 0 (by omega) hm];rfl,.inl rfl,fun y hy=>(List.not_mem_nil hy).elim,by simp[Ab],by simp[Ab]⟩
include hX in
theorem NI{root:Int}{l:List As}{s:σ}(i:X.inv s)(hr:Rt (X.V s) root l)(j:BI l)(L:Nat)(v: ∀h:Nat,2*4^h≤l.length→h≤L){to:Int}(I:0≤to)(u:to≤Ab l):
 Step X s (L+1) 0 (DL X.rd root to (Ab l)) (fun q s'=> ∃C B,PF l to q C B):=by
 unfold DL
 have hm:=hr.fit.1
 by_cases d:to<Ab l
 ·rw[if_pos d]
  refine (Step.bind (R2:=0) (W2:=0) (U1 hX i hr L v to (by omega) (by omega)) ?_).mono (by omega) (by omega) fun _ _ _ _ x=>x
  rintro ⟨x,a⟩ s1 c w ⟨l1,l2,rfl,rfl,k,o⟩
  dsimp only at k o hm j u d⊢
  have hx:=hm x (by simp)
  have g:Ab (l1++ [x])=Ab l1+x.len:=by rw[Ak];simp[Ab]
  refine Step.ret c ⟨l1++ [x],l2,by simp,g.symm,?_,?_,KR hx (by omega) (by omega),by rw[g];omega,?_⟩
  ·have:=QA hm (n:=to-Ab l1) (by omega) (by omega)
   rw[show Ab l1+(to-Ab l1)=to by omega] at this
   exact this
  ·obtain ⟨m,p,r,H,t⟩:=Rz (x:=x) (a:=to-Ab l1) (b:=x.len) (by omega)
   refine .inr ⟨m,p,fun b G e hb z D=>?_⟩
   subst hb
   rw[Rb (a':=x) (b':=b) (z.trans r) (D.trans (t (by omega) rfl)) rfl rfl]
   have f:=j.right
   exact f.1
  rw[Ny x (by omega) (by omega) (by omega),Ak,Bo]
  omega
 rw[if_neg d]
 have:to=Ab l:=by omega
 subst this
 exact Step.ret i ⟨l,[],by simp,rfl,by rw[UN hm];rfl,.inl rfl,fun y hy=>(List.not_mem_nil hy).elim,by omega,by simp[Ab]⟩
theorem Lf{l put:List As}{at_ n:Int}{p q:List As×Int}{A C B:List As}(hm: ∀y∈l,Ai y=true)(f:BI l)(r:0≤at_)(u:0≤n)(hl:Sx l at_ p A)(hr:PF l (at_+n) q C B):
 D8 l at_ n put=A++(join (p.1++put++q.1)++B)∧(∃D,C=A++D∧l=A++(D++B)):=by
 obtain ⟨⟨Y,l1⟩,l2,v,w,L,O,P⟩:=hl
 obtain ⟨r1,Q,x,G,T,U,V⟩:=hr
 constructor
 ·unfold D8
  rw[LS l at_ n hm r u,v,x]
  have s:BI A:=by rw[l1] at f;exact f.left
  have t:BI B:=by rw[r1] at f;exact f.right
  have j:join (A++(p.1++put++q.1))=A++join (p.1++put++q.1):=by
   rcases w with rfl|⟨m,g,i⟩
   · rfl
   exact WK s (m:=m) (M':=put++q.1) (by rw[g];simp) i
  have e:A++p.1++put++(q.1++B)=(A++(p.1++put++q.1))++B:=by simp
  rw[e,UZ t,j,List.append_assoc]
  intro a b o ha hb
  rcases G with rfl|⟨m,g,i⟩
  · cases hb
  rw[g,←List.append_assoc] at ha
  obtain ⟨z,H,I,J⟩:=Va (A++(p.1++put)) m
  rw[H] at ha
  cases ha
  exact i b o _ hb I J
 have:=GS (a:=A) (b:=Y) (c:=C) (d:=B) (by rw[←l1,←r1]) (by rw[←l1];exact hm) (by omega)
 obtain ⟨D,k,K⟩:=this
 exact ⟨D,k,by rw[r1,k,List.append_assoc]⟩
theorem T6{l put:List As}{at_ n:Int}{p q:List As×Int}{A C B:List As}(hm: ∀y∈l,Ai y=true)(a: ∀y∈put,Ai y=true)(hl:Sx l at_ p A)(hr:PF l (at_+n) q C B)
 (hb:Ab l-n+Ab put≤1048576) (i:(A++(join (p.1++put++q.1)++B)).length≤1024):Fit (A++(join (p.1++put++q.1)++B))∧Ab (A++(join (p.1++put++q.1)++B))=Ab l-n+Ab put:=by
 obtain ⟨⟨Y,l1⟩,l2,r,s,j,t,u⟩:=hl
 obtain ⟨r1,v,w,x,k,z,D⟩:=hr
 have d: ∀y∈A,Ai y=true:=fun y hy=>hm y (by rw[l1];simp[hy])
 have e: ∀y∈B,Ai y=true:=fun y hy=>hm y (by rw[r1];simp[hy])
 have m:=Bq d
 have o:=Bq e
 have g: ∀y∈p.1++put++q.1,Ai y=true:=by
  intro y hy
  rcases List.mem_append.1 hy with hy|hy
  · rcases List.mem_append.1 hy with hy|hy
    ·exact j y hy
    exact a y hy
  exact k y hy
 have b:Ab (p.1++put++q.1)=Ab p.1+Ab put+Ab q.1:=by rw[Ak,Ak]
 have f:=WJ g (by rw[b];omega)
 have c:Ab (A++(join (p.1++put++q.1)++B))=Ab l-n+Ab put:=by
  rw[Ak,Ak,Q8,b]
  omega
 refine ⟨⟨?_,by rw[c];exact hb,i⟩,c⟩
 intro y hy
 rcases List.mem_append.1 hy with hy|hy
 · exact d y hy
 rcases List.mem_append.1 hy with hy|hy
 · exact f y hy
 exact e y hy
theorem Tl.A7{v:Int→Option Nd}{x:BH}{l:List As}(h:Tl v x l):x.DK.A7=l.length:=by
 rcases h with ⟨rfl,rfl⟩|⟨h,b,a⟩
 ·rfl
 exact a.BK.A7
include hX in
theorem VE{root:Int}{l put:List As}{s:σ}(hI:X.inv s)(hr:Rt (X.V s) root l)(U:BI l)(L:Nat)(av:L≤4)(T: ∀h:Nat,2*4^h≤l.length→h≤L){at_ n:Int}(h0:0≤at_)(hn:0≤n)(h1:at_+n≤Ab l)
 (a3: ∀y∈put,Ai y=true) (hb:Ab l-n+Ab put≤1048576):
 ((D8 l at_ n put).length≤1024→Step X s (2*(L*L)+17*L+19) 2600 (EB X.rd X.wt root at_ n (Ab l) put) (fun r s'=>Rt (X.V s') r (D8 l at_ n put)))∧
 (1024<(D8 l at_ n put).length→Step (X.or 11) s (2*(L*L)+17*L+19) 0 (EB X.rd X.wt root at_ n (Ab l) put) (fun r s'=>False)):=by
 have hm:=hr.fit.1
 constructor
 · intro v
   unfold EB
   refine (Step.bind (R2:=L+1+(L+1+(L+1+(L+1+(1+L*(L+6)+(1+L*(L+6)+(0+(6+(6+0))))))))) (W2:=0+(0+(0+(0+(48*(L+1)+(48*(L+1)+(2048+(12+(12+0)))))))))
    (OT hX hI hr U L T h0 (by omega)) ?_).mono (by rw[Nat.mul_add];omega) (by omega) fun _ _ _ _ x=>x
   rintro p s1 w b ⟨A,Q⟩
   refine Step.bind (NI hX w (hr.le b) U L T (to:=at_+n) (by omega) h1) ?_
   rintro q s2 z f ⟨C,B,o⟩
   obtain ⟨i,D,j,J⟩:=Lf (put:=put) hm U h0 hn Q o
   have K:=(hr.le b).le f
   refine Step.bind (Px hX z K L T) ?_
   rintro whole s3 G a0 ⟨P,W⟩
   have Y:l=C++B:=o.1
   have e2:q.2=Ab C:=o.2.1
   have eA:p.2=Ab A:=Q.2.1
   rw[e2,eA]
   have O:Tl (X.V s3) whole (C++B):=by rw[←Y];exact P
   refine Step.bind ((KW hX 30 (h:=L) (by omega) G O W)) ?_
   rintro r1 s4 H g rfl
   have k:Tl (X.V s4) whole (A++(D++B)):=by rw[←J];exact P.le g
   refine Step.bind ((KW hX 30 (h:=L) (by omega) H k W)) ?_
   rintro r0 s5 I t rfl
   have a:whole.DK.A7-(C.length:Int)+(A.length:Int)+((join (p.1++put++q.1)).length:Int)=((D8 l at_ n put).length:Int):=by
    rw[P.A7,i,Y,j]
    simp only[List.length_append]
    omega
   rw[a,if_neg (by omega)]
   have c:=v
   rw[i] at c
   obtain ⟨d,a5⟩:=T6 hm a3 Q o hb c
   have ae:=k.le t
   refine Step.bind (LA hX 30 (h:=L) (by omega) I ae W) ?_
   rintro ⟨x1,x2⟩ s6 a9 al ⟨g1,g2,g3,g4⟩
   simp only at g1 g2 g3 g4
   have eD:Ab C-Ab A=Ab D:=by rw[j,Ak];omega
   simp only
   rw[eD]
   refine Step.bind (LA hX 30 (h:=L) (by omega) a9 g2 g4) ?_
   rintro ⟨y1,y2⟩ s7 aa a1 ⟨k1,k2,k3,k4⟩
   simp only at k1 k2 k3 k4
   simp only
   have au:(join (p.1++put++q.1)).length≤1024:=by simp only[List.length_append] at c;omega
   refine Step.bind ((Ji hX aa d.YC).mono (by omega) (show 2*(join (p.1++put++q.1)).length≤2048 by omega) fun _ _ _ _ x=>x) ?_
   rintro m s8 ab u ⟨m1,-⟩
   have f1:Fit (A++join (p.1++put++q.1)):=by rw[←List.append_assoc] at d;exact d.left
   refine Step.bind ((LC hX ab ((g1.le a1).le u) m1 f1).mono (by have:=g1.low;have:=m1.low;omega) (Nat.le_refl 12) fun _ _ _ _ x=>x) ?_
   rintro x s9 ac a2 ⟨x1,-,-⟩
   refine Step.bind ((LC hX ac x1 ((k2.le u).le a2) (by rw[List.append_assoc];exact d)).mono (by have:=x1.low;have:=k2.low;omega) (Nat.le_refl 12) fun _ _ _ _ x=>x) ?_
   rintro y s10 Z ad ⟨y1,-,-⟩
   refine Step.pure Z ?_
   rw[i,←List.append_assoc]
   exact y1.root
 intro v
 have e:=Env.V' hX 11
 unfold EB
 refine (Step.bind (X:=X.or 11) (R2:=L+1+(L+1+(L+1+(L+1+0)))) (W2:=0)
  (OT e hI hr U L T h0 (by omega)) ?_).mono (by omega) (by omega) fun _ _ _ _ x=>x
 rintro p s1 w b ⟨A,Q⟩
 refine Step.bind (W1:=0) (W2:=0) (NI e w (hr.le b) U L T (to:=at_+n) (by omega) h1) ?_
 rintro q s2 z f ⟨C,B,o⟩
 obtain ⟨i,D,j,J⟩:=Lf (put:=put) hm U h0 hn Q o
 have K:=(hr.le b).le f
 refine Step.bind (W1:=0) (W2:=0) (Px e z K L T) ?_
 rintro whole s3 G a0 ⟨P,W⟩
 have Y:l=C++B:=o.1
 have e2:q.2=Ab C:=o.2.1
 have eA:p.2=Ab A:=Q.2.1
 rw[e2,eA]
 have O:Tl (X.V s3) whole (C++B):=by rw[←Y];exact P
 refine Step.bind (W1:=0) (W2:=0) ((KW e 30 (h:=L) (by omega) G O W)) ?_
 rintro r1 s4 H g rfl
 have k:Tl (X.V s4) whole (A++(D++B)):=by rw[←J];exact P.le g
 refine Step.bind (W1:=0) (W2:=0) (R2:=0) ((KW e 30 (h:=L) (by omega) H k W)) ?_
 rintro r0 s5 I t rfl
 have a:whole.DK.A7-(C.length:Int)+(A.length:Int)+((join (p.1++put++q.1)).length:Int)=((D8 l at_ n put).length:Int):=by
  rw[P.A7,i,Y,j]
  simp only[List.length_append]
  omega
 rw[a,if_pos (by omega)]
 exact .inr ⟨.inl (.inr rfl),I,Le.KX _,by omega,by omega⟩
end
section
variable {σ:Type}
def FQ(g:Int→List As→M σ (List As)):List Kd→List As→M σ (List As)
 | [],out=>M.pure out
 |k::ks,out=>M.bind (g k.Ay out) (FQ g ks)
def CT(rd:Int→M σ Nd):Nat→Int→List As→M σ (List As)
 |0,_,_=>M.fail 13
 |f+1,no,out=>M.bind (rd no) fun n=>if 1024<(out++n.Ao).length then M.fail 13 else FQ (CT rd f) n.kids (out++n.Ao)
def F4(rd:Int→M σ Nd)(root:Int):M σ (List As):=if root=0 then M.pure [] else CT rd 21 root []
variable {X:Env σ} (hX:X.Ok)
include hX in
theorem OU : ∀(f : Nat){h lo hi : Nat}{k : Kd}{l out : List As}{s : σ}, h < f → X.inv s → Sub (X.V s) h lo hi k l → (out ++ l).length ≤ 1024 → Step X s (2 * l.length - 1) 0 (CT X.rd f k.Ay out) (fun r s' => r = out ++ l)
 |0,_,_,_,_,_,_,_,g,_,_,_=>absurd g (by omega)
 | f + 1, 0, lo, hi, k, l, out, s, g, d, hs, hl => by
  have e:=hs.BK.ne
  have m:1≤l.length:=by
   cases l with
   |nil=>exact absurd rfl e
   |cons a l=>simp
  obtain ⟨o,c2,u,v,w⟩:=hs
  unfold CT
  refine (Step.bind (R2:=0) (W2:=0) (hX.rd s _ _ d o) ?_).mono (by omega) (by omega) fun _ _ _ _ x=>x
  rintro n s1 b c rfl
  simp only
  rw[if_neg (by omega)]
  exact Step.pure b rfl
 | f + 1, h + 1, lo, hi, k, l, out, s, g, d, hs, hl => by
  obtain ⟨ks,ls,o,c2,u,v,w,D,G,p,rfl⟩:=hs
  obtain ⟨H,I,B,J,K,L⟩:=CJ c2 rfl
  simp only at B
  unfold CT
  have key : ∀(ks : List Kd)(ls : List (List As))(out : List As)(s : σ), X.inv s → F2 (Sub (X.V s) h 4 12) ks ls → (out ++ ls.flatten).length ≤ 1024 → Step X s (2 * ls.flatten.length - ks.length) 0 (FQ (CT X.rd f) ks out) (fun r s' => r = out ++ ls.flatten) := by
   intro ks
   induction ks with
   | nil =>
    intro ls out s d g _
    cases ls with
    |nil=>exact Step.ret d (by simp)
    |cons _ _=>exact g.elim
   | cons k ks z =>
    intro ls out s d i j
    cases ls with
    |nil=>exact i.elim
    | cons l ls =>
     obtain ⟨q,t⟩:=i
     have e:=q.BK.ne
     have m:1≤l.length:=by
      cases l with
      |nil=>exact absurd rfl e
      |cons a l=>simp
     have y:=(Ia (fun k l x=>Sub.BK x) t).2.2.2.2
     simp only[List.flatten_cons,List.length_append] at j
     unfold FQ
     refine (Step.bind (R2:=2*ls.flatten.length-ks.length) (W2:=0) (OU f (h:=h) (out:=out) (by omega) d q (by rw[List.length_append];omega)) ?_).mono (by simp only[List.flatten_cons,List.length_append,List.length_cons];omega) (by omega) fun _ _ _ _ x=>x
     rintro r s1 b c rfl
     refine (z ls (out++l) s1 b (t.mono fun _ _ x=>x.le c) (by simp only[List.length_append];omega)).mono (by omega) (by omega) ?_
     rintro r s2 _ _ rfl
     simp
  have y:=(Ia (fun k l x=>Sub.BK x) p).2.2.2.2
  refine (Step.bind (R2:=2*ls.flatten.length-ks.length) (W2:=0) (hX.rd s _ _ d o) ?_).mono (by omega) (by omega) fun _ _ _ _ x=>x
  rintro n s1 b c rfl
  simp only[List.append_nil]
  rw[if_neg (by rw[List.length_append] at hl;omega)]
  exact key ks ls out s1 b (p.mono fun _ _ x=>x.le c) hl
include hX in
theorem Um{root:Int}{l:List As}{s:σ}(c:X.inv s)(hr:Rt (X.V s) root l):Step X s 2047 0 (F4 X.rd root) (fun r s'=>r=l):=by
 unfold F4
 rcases hr with ⟨rfl,rfl⟩|⟨h,k,rfl,hs⟩
 · rw[if_pos rfl]
   exact Step.ret c rfl
 have d:=hs.low
 have a:=hs.BK.fit
 have hp:1≤k.Ay:=by
  have b:=hs
  rw[F7] at b
  obtain ⟨n,ls,g,i,j,m,o,p,e,q,t⟩:=b
  exact e
 rw[if_neg (by omega)]
 have f:=a.2.2
 refine (OU hX 21 (out:= []) (by omega) c hs (by simpa using f)).mono (by omega) (by omega) ?_
 rintro r s1 _ _ rfl
 simp
