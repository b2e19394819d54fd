/- censusSound holds for every input. No condition. (part 17) -/
import Derived.Test.YtfhbmblbidcmmaaGreatWa11
set_option linter.all false
namespace Go.Tr
inductive Fu (σ α:Type) where
 |ok (a:α) (s:σ)
 |fault (e:Int) (s:σ)
 |bad
abbrev M(σ α:Type):=σ→Fu σ α
section
variable {σ α β:Type}
def Fu.bind(r:Fu σ α)(f:α→M σ β):Fu σ β:=match r with
 | .ok a s=>f a s
 | .fault e s=> .fault e s
 | .bad=> .bad
def M.pure(a:α):M σ α:=fun s=> .ok a s
def M.fail(e:Int):M σ α:=fun s=> .fault e s
def M.bad:M σ α:=fun _=> .bad
def M.bind(x:M σ α)(f:α→M σ β):M σ β:=fun s=>(x s).bind f
end
def many(n:Nd):Nat:=n.Ag.length+n.kids.length
def both(a b:Nd):Nd:=⟨a.leaf,a.Ag++b.Ag,a.kids++b.kids⟩
def sub{α:Type}(l:List α)(i j:Nat):List α:=(l.drop i).take (j-i)
def CO(n:Nd)(i j:Nat):Nd:=if n.leaf then ⟨true,sub n.Ag i j,[]⟩ else ⟨false,[],sub n.kids i j⟩
def kC:Kd:=⟨0,0,0,0⟩
structure BK where
 ER:Kd
 Al:Int
def C0:BK:=⟨kC,-1⟩
section
variable {σ:Type} (rd:Int→M σ Nd) (wt:Nd→M σ Kd)
def C4(n:Nd)(A7:Nat):Nat→Nat→Nat→List Kd→M σ (List Kd)
 |0,_,_,out=>M.pure out
 | c + 1, i, at_, out => M.bind (wt (CO n at_ (at_ + (many n / A7 + (if i < many n % A7 then 1 else 0))))) fun k =>
  C4 n A7 c (i+1) (at_+(many n/A7+(if i<many n%A7 then 1 else 0))) (out++ [k])
def Ba(n:Nd):Nat:=(many n+11)/12
def BT(n:Nd):M σ (List Kd):=C4 wt n (Ba n) (Ba n) 0 0 []
def Fb:Nat→List Kd→Int→M σ BK
 |_,[],_=>M.pure C0
 |_,[k],h=>M.pure ⟨k,h⟩
 |0,_,_=>M.bad
 |f+1,ks,h=>M.bind (BT wt ⟨false,[],ks⟩) fun a=>Fb f a (h+1)
def grown(ks:List Kd)(h:Int):M σ BK:=Fb wt ks.length ks h
def Cs(l:List Av):M σ BK:=M.bind (BT wt ⟨true,l,[]⟩) fun ks=>grown wt ks 0
def C7 : Nat → BK → BK → M σ (List Kd × Int)
 |0,_,_=>M.bad
 | f + 1, a, b =>
  if b.Al < a.Al then M.bind (rd a.ER.Au) fun x =>
   match x.kids.getLast? with
   |none=>M.bad
   | some z =>
    if x.leaf then M.bad else M.bind (C7 f ⟨z,a.Al-1⟩ b) fun r=>
     M.bind (BT wt (both (CO x 0 (x.kids.length-1)) ⟨false,[],r.1⟩)) fun out=>M.pure (out,a.Al)
  else if a.Al<b.Al then M.bind (rd b.ER.Au) fun y=>
   match y.kids with
   | []=>M.bad
   | z :: _ =>
    if y.leaf then M.bad else M.bind (C7 f a ⟨z,b.Al-1⟩) fun r=>
     M.bind (BT wt (both ⟨false,[],r.1⟩ (CO y 1 y.kids.length))) fun out=>M.pure (out,b.Al)
  else M.bind (rd a.ER.Au) fun x=>M.bind (rd b.ER.Au) fun y=>if x.leaf=y.leaf then M.bind (BT wt (both x y)) fun out=>M.pure (out,a.Al) else M.bad
def KC(a b:BK):Nat:=(max a.Al b.Al).toNat+1
def FG(a b:BK):M σ BK:=
 if a.Al<0 then M.pure b else
 if b.Al<0 then M.pure a else M.bind (C7 rd wt (KC a b) a b) fun r=>grown wt r.1 r.2
def Ei(ks:List Kd)(h:Int):M σ BK:=grown wt ks (h-1)
def F8:List Av→Int→Nat→Option Nat
 | l, n, k => match l with
  | []=>if 0<n then none else some k
  |x::l=>if 0<n then F8 l (n-x.len) (k+1) else some k
def Jh:List Kd→Int→Nat→Option (Nat×Int)
 | [],_,_=>none
 |x::l,n,k=>if x.bytes≤n then Jh l (n-x.bytes) (k+1) else some (k,n)
def Bq:Nat→BK→Int→M σ (BK×BK)
 | f, x, n =>
  if n≤0 then M.pure (C0,x) else
  if x.ER.bytes≤n then M.pure (x,C0) else
  match f with
  |0=>M.bad
  | f + 1 => M.bind (rd x.ER.Au) fun y =>
   if y.leaf then
    match F8 y.Ag n 0 with
    |none=>M.bad
    |some k=>M.bind (Cs wt (y.Ag.take k)) fun a=>M.bind (Cs wt (y.Ag.drop k)) fun b=>M.pure (a,b)
   else
    match Jh y.kids n 0 with
    |none=>M.bad
    | some (k, r) =>
     if r=0 then M.bind (Ei wt (y.kids.take k) x.Al) fun a=>M.bind (Ei wt (y.kids.drop k) x.Al) fun b=>M.pure (a,b)
     else
      match y.kids[k]? with
      |none=>M.bad
      | some z => M.bind (Bq f ⟨z, x.Al - 1⟩ r) fun p =>
       M.bind (Ei wt (y.kids.take k) x.Al) fun a=>M.bind (FG rd wt a p.1) fun a=>
       M.bind (Ei wt (y.kids.drop (k+1)) x.Al) fun b=>M.bind (FG rd wt p.2 b) fun b=>M.pure (a,b)
def C6:Nat→Nd→Int→M σ Int
 | f, n, h =>
  if n.leaf then M.pure h else
  match f with
  |0=>M.fail 13
  | f + 1 => match n.kids with
   | []=>M.bad
   |k::_=>M.bind (rd k.Au) fun m=>C6 f m (h+1)
def KH(no:Int)(n:Nd):Kd:=⟨no,(AZ n).1,(AZ n).2.1,(AZ n).2.2⟩
def EB(root:Int):M σ BK:=
 if root=0 then M.pure C0 else M.bind (rd root) fun n=>M.bind (C6 rd 20 n 0) fun h=>M.pure ⟨KH root n,h⟩
inductive jY where
 |here (x:Av) (ahead:Int)
 |below (Au:Int) (ahead:Int)
 |Zs
def M4:List Av→Int→Int→jY ⊕ Int
 | [],_,ahead=> .inr ahead
 |x::l,n,ahead=>if n<ahead+x.len then .inl (.here x ahead) else M4 l n (ahead+x.len)
def OG:List Kd→Int→Int→jY
 | [],_,_=> .Zs
 |k::l,n,ahead=>if n<ahead+k.bytes then .below k.Au ahead else OG l n (ahead+k.bytes)
def YI(n:Nd)(at_ ahead:Int):jY:=match M4 n.Ag at_ ahead with
 | .inl h=>h
 | .inr a=>OG n.kids at_ a
def Fs:Nat→Nd→Int→Int→M σ (Av×Int)
 |0,_,_,_=>M.fail 13
 | f + 1, n, at_, ahead => match YI n at_ ahead with
  | .here x a=>M.pure (x,a)
  | .Zs=>M.fail 13
  | .below p a=>M.bind (rd p) fun m=>Fs f m at_ a
def K5(root at_:Int):M σ (Av×Int):=M.bind (rd root) fun n=>Fs rd 22 n at_ 0
def CQ:List Av→Int→Int→Int×Int
 | [],n,r=>(n,r)
 |y::l,n,r=>CQ l (n-y.len) (if 0<n then r+1 else r)
def GM:List Kd→Int→Int→(Kd×Int×Int) ⊕ Int
 | [],_,r=> .inr r
 |k::l,n,r=>if n<k.bytes then .inl (k,n,r) else GM l (n-k.bytes) (r+k.AA)
def CR:Nat→BK→Int→M σ Int
 | f, x, n =>
  if n≤0∨x.Al<0 then M.pure 0 else
  if x.ER.bytes≤n then M.pure x.ER.AA else
  match f with
  |0=>M.bad
  | f + 1 => M.bind (rd x.ER.Au) fun y => match GM y.kids (CQ y.Ag n 0).1 (CQ y.Ag n 0).2 with
   | .inr r=>M.pure r
   | .inl (k,m,r)=>M.bind (CR f ⟨k,x.Al-1⟩ m) fun z=>M.pure (r+z)
def FB(root:Int):M σ Int:=if root=0 then M.pure 0 else M.bind (rd root) fun n=>M.pure (AZ n).1
def Ja(l:List Av):M σ Int:=M.bind (Cs wt l) fun t=>M.pure t.ER.Au
def leftOf(root at_:Int):M σ (List Av×Int):=
 if 0<at_ then M.bind (K5 rd root (at_-1)) fun p=>M.pure (part p.1 0 (at_-p.2),p.2) else M.pure ([],at_)
def FO(root to all:Int):M σ (List Av×Int):=
 if to<all then M.bind (K5 rd root to) fun p=>M.pure (part p.1 (to-p.2) p.1.len,p.2+p.1.len) else M.pure ([],to)
def Km(root at_ n all:Int)(put:List Av):M σ Int:=
 M.bind (leftOf rd root at_) fun L=>M.bind (FO rd root (at_+n) all) fun R=>
 M.bind (EB rd root) fun whole=>M.bind (CR rd 30 whole R.2) fun r1=>M.bind (CR rd 30 whole L.2) fun r0=>
 if 1024<whole.ER.AA-r1+r0+(join (L.1++put++R.1)).length then M.fail 11 else
 M.bind (Bq rd wt 30 whole L.2) fun p=>M.bind (Bq rd wt 30 p.2 (R.2-L.2)) fun q=>
 M.bind (Cs wt (join (L.1++put++R.1))) fun m=>M.bind (FG rd wt p.1 m) fun x=>M.bind (FG rd wt x q.2) fun y=>M.pure y.ER.Au
end
def F2{α β:Type}(R:α→β→Prop):List α→List β→Prop
 | [],[]=>True
 |a::l,b::m=>R a b∧F2 R l m
 |_,_=>False
section
variable {α β:Type} {R R':α→β→Prop}
theorem F2.len: ∀{l:List α}{m:List β},F2 R l m→l.length=m.length
 | [],[],_=>rfl
 |a::l,b::m,h=>by simp[F2.len h.2]
 | [],_::_,h=>h.elim
 |_::_,[],h=>h.elim
theorem F2.mono(f: ∀a b,R a b→R' a b): ∀{l:List α}{m:List β},F2 R l m→F2 R' l m
 | [],[],_=>trivial
 |a::l,b::m,h=>⟨f _ _ h.1,F2.mono f h.2⟩
 | [],_::_,h=>h.elim
 |_::_,[],h=>h.elim
theorem F2.append: ∀{l l':List α}{m m':List β},F2 R l m→F2 R l' m'→F2 R (l++l') (m++m')
 | [],_,[],_,_,h=>h
 |a::l,_,b::m,_,h,c=>⟨h.1,F2.append h.2 c⟩
 | [],_,_::_,_,h,_=>h.elim
 |_::_,_,[],_,h,_=>h.elim
theorem F2.split: ∀{l l':List α}{m:List β},F2 R (l++l') m→F2 R l (m.take l.length)∧F2 R l' (m.drop l.length)
 | [],_,_,h=>⟨trivial,h⟩
 |a::l,l',b::m,h=>⟨⟨h.1,(F2.split h.2).1⟩,(F2.split h.2).2⟩
 |_::_,_,[],h=>h.elim
theorem F2.take{l:List α}{m:List β}(h:F2 R l m)(i:Nat):F2 R (l.take i) (m.take i):=by induction i generalizing l m with
 |zero=>exact trivial
 |succ i a=>cases l<;>cases m<;>first|exact trivial|exact h.elim|exact ⟨h.1,a h.2⟩
theorem F2.drop{l:List α}{m:List β}(h:F2 R l m)(i:Nat):F2 R (l.drop i) (m.drop i):=by induction i generalizing l m with
 |zero=>exact h
 |succ i a=>cases l<;>cases m<;>first|exact trivial|exact h.elim|exact a h.2
theorem F2.at{l:List α}{m:List β}(h:F2 R l m){i:Nat}{a:α}(ha:l[i]?=some a): ∃b,m[i]?=some b∧R a b:=by induction i generalizing l m with
 | zero =>
  cases l<;>cases m<;>first|(cases ha;done)|exact h.elim|skip
  cases ha
  exact ⟨_,rfl,h.1⟩
 | succ i c =>
  cases l<;>cases m<;>first|(cases ha;done)|exact h.elim|skip
  exact c h.2 (by simpa using ha)
end
structure Env (σ:Type) where
 rd:Int→M σ Nd
 wt:Nd→M σ Kd
 V:σ→Int→Option Nd
 inv:σ→Prop
 reads:σ→Nat
 room:σ→Nat
 left:σ→Nat
 bad:Int→Prop
def Le(v v':Int→Option Nd):Prop:= ∀p n,v p=some n→v' p=some n
theorem Le.MK(v:Int→Option Nd):Le v v:=fun _ _ h=>h
theorem Le.trans{a b c:Int→Option Nd}(h:Le a b)(k:Le b c):Le a c:=fun p n e=>k p n (h p n e)
section
variable {σ α β:Type} (X:Env σ)
def Step(s:σ)(R W:Nat)(m:M σ α)(Q:α→σ→Prop):Prop:=X.room s<W∨match m s with
 | .ok a s'=>X.inv s'∧Le (X.V s) (X.V s')∧X.reads s'≤X.reads s+R∧X.room s≤X.room s'+W∧X.left s≤X.left s'+(R+W)∧Q a s'
 | .fault e s'=>(X.bad e∨X.room s<W)∧X.inv s'∧Le (X.V s) (X.V s')∧X.reads s'≤X.reads s+R∧X.left s≤X.left s'+(R+W)
 | .bad=>X.left s<R+W
variable {X}
theorem Step.bind{s:σ}{R1 R2 W1 W2:Nat}{m:M σ α}{f:α→M σ β}{j:α→σ→Prop}{Q:β→σ→Prop}(h:Step X s R1 W1 m j)
 (d: ∀a s',X.inv s'→Le (X.V s) (X.V s')→j a s'→Step X s' R2 W2 (f a) Q):Step X s (R1+R2) (W1+W2) (M.bind m f) Q:=by
 unfold Step at h⊢
 rcases h with h|h
 ·omega
 unfold M.bind Fu.bind
 cases hm:m s with
 | ok a s' =>
  rw[hm] at h
  obtain ⟨h1,g,q,r,t,o⟩:=h
  have c:=d a s' h1 g o
  rcases c with c|c
  ·omega
  right
  simp only
  cases d:f a s' with
  | ok b s2 =>
   rw[d] at c
   obtain ⟨k,i,l,p,u,n⟩:=c
   exact ⟨k,g.trans i,by omega,by omega,by omega,n⟩
  | fault e s2 =>
   rw[d] at c
   obtain ⟨k,i,l,p,n⟩:=c
   refine ⟨?_,i,g.trans l,by omega,by omega⟩
   grind
  |bad=>grind
 |fault e s'=>grind
 |bad=>grind
theorem Step.mono{s:σ}{R R' W c:Nat}{m:M σ α}{Q b:α→σ→Prop}(h:Step X s R W m Q)(f:R≤R')(g:W≤c)
 (d: ∀a s',X.inv s'→Le (X.V s) (X.V s')→Q a s'→b a s'):Step X s R' c m b:=by
 unfold Step at h⊢
 rcases h with h|h
 ·omega
 cases hm:m s with
 |ok a s'=>grind
 |fault e s'=>grind
 |bad=>grind
theorem Step.pure{s:σ}{a:α}{Q:α→σ→Prop}(b:X.inv s)(h:Q a s):Step X s 0 0 (M.pure a) Q:= .inr ⟨b,Le.MK _,by omega,by omega,by omega,h⟩
theorem Step.ret{s:σ}{R W:Nat}{a:α}{Q:α→σ→Prop}(b:X.inv s)(h:Q a s):Step X s R W (M.pure a) Q:=(Step.pure b h).mono (by omega) (by omega) fun _ _ _ _ h=>h
structure Env.Ok (X:Env σ):Prop where
 rd: ∀s p n,X.inv s→X.V s p=some n→Step X s 1 0 (X.rd p) (fun m s'=>m=n)
 wt: ∀s n,X.inv s→may n=true→Step X s 0 1 (X.wt n) (fun k s'=>k=KH k.Au n∧1≤k.Au∧k.Au<1048576∧X.V s' k.Au=some n)
end
def Sub(v : Int → Option Nd) : Nat → Nat → Nat → Kd → List Av → Prop
 |0=>fun lo hi k l=>v k.Au=some ⟨true,l,[]⟩∧may ⟨true,l,[]⟩=true∧lo≤l.length∧l.length≤hi∧k=KH k.Au ⟨true,l,[]⟩∧1≤k.Au∧k.Au<1048576
 |h+1=>fun lo hi k l=> ∃(ks:List Kd)(ls:List (List Av)),v k.Au=some ⟨false,[],ks⟩∧may ⟨false,[],ks⟩=true∧lo≤ks.length∧ks.length≤hi∧k=KH k.Au ⟨false,[],ks⟩∧1≤k.Au∧k.Au<1048576∧
  F2 (Sub v h 4 12) ks ls∧l=ls.flatten
def PR(v:Int→Option Nd):Nat→Nd→List (List Av)→Prop
 |0=>fun n ls=>n=⟨true,n.Ag,[]⟩∧ls=n.Ag.map fun e=> [e]
 |h+1=>fun n ls=>n=⟨false,[],n.kids⟩∧F2 (Sub v h 4 12) n.kids ls
def Fit(l:List Av):Prop:=(∀x∈l,Ah x=true)∧Aa l≤1048576∧l.length≤1024
theorem Hm(l:List Av):(l.map fun e=> [e]).flatten=l:=by induction l with
 |nil=>rfl
 |cons a l b=>simp only[List.map_cons,List.flatten_cons,b,List.singleton_append]
theorem Od{v:Int→Option Nd}{h:Nat}{n:Nd}{ls:List (List Av)}(a:PR v h n ls):many n=ls.length:=by cases h with
 | zero =>
  obtain ⟨h1,rfl⟩:=a
  rw[h1]
  simp[many]
 | succ h =>
  obtain ⟨h1,b⟩:=a
  rw[h1]
  simp[many,b.len]
theorem GO{v:Int→Option Nd}{h lo hi:Nat}{k:Kd}{l:List Av} :Sub v h lo hi k l↔ ∃n ls,v k.Au=some n∧PR v h n ls∧may n=true∧lo≤many n∧many n≤hi∧k=KH k.Au n∧1≤k.Au∧k.Au<1048576∧l=ls.flatten:=by cases h with
 | zero =>
  constructor
  ·rintro ⟨h1,a,b,c,d,f,g⟩
   exact ⟨_,l.map fun e=> [e],h1,⟨rfl,rfl⟩,a,by simpa[many] using b,by simpa[many] using c,d,f,g,(Hm l).symm⟩
  rintro ⟨n,ls,h1,⟨a,rfl⟩,b,c,d,f,g,i,rfl⟩
  rw[Hm]
  obtain ⟨lf,es,ks⟩:=n
  cases a
  exact ⟨h1,b,by simpa[many] using c,by simpa[many] using d,f,g,i⟩
 | succ h =>
  constructor
  ·rintro ⟨ks,ls,h1,a,b,c,d,f,g,i,rfl⟩
   exact ⟨_,ls,h1,⟨rfl,i⟩,a,by simpa[many] using b,by simpa[many] using c,d,f,g,rfl⟩
  rintro ⟨n,ls,h1,⟨a,j⟩,b,c,d,f,g,i,rfl⟩
  obtain ⟨lf,es,ks⟩:=n
  cases a
  exact ⟨ks,ls,h1,b,by simpa[many] using c,by simpa[many] using d,f,g,i,j,rfl⟩
theorem Sub.le{v v':Int→Option Nd}(d:Le v v'): ∀{h lo hi:Nat}{k:Kd}{l:List Av},Sub v h lo hi k l→Sub v' h lo hi k l
 |0,lo,hi,k,l,⟨h1,c⟩=>⟨d _ _ h1,c⟩
 |h+1,lo,hi,k,l,⟨ks,ls,h1,c,e,f,g,i,j,m,n⟩=>⟨ks,ls,d _ _ h1,c,e,f,g,i,j,m.mono fun a b x=>Sub.le d x,n⟩
theorem Sub.wide{v:Int→Option Nd}{h lo hi b a:Nat}{k:Kd}{l:List Av}(hs:Sub v h lo hi k l)(h1:b≤lo)(c:hi≤a):Sub v h b a k l:=by grind [GO]
theorem PR.le{v v':Int→Option Nd}(d:Le v v'){h:Nat}{n:Nd}{ls:List (List Av)}(c:PR v h n ls):PR v' h n ls:=by cases h with
 |zero=>exact c
 |succ h=>exact ⟨c.1,c.2.mono fun a b x=>x.le d⟩
theorem Ec{x:Av}(h:Ah x=true):1≤x.len∧ -1≤x.lines∧x.lines≤x.len:=by simp_all[Ah,decide_eq_true_eq]
theorem Bt(x:Av)(l:List Av):Aa (x::l)=x.len+Aa l:=by simp[Aa]
theorem Bo{l:List Av}(h: ∀x∈l,Ah x=true):(l.length:Int)≤Aa l:=by induction l with
 |nil=>simp[Aa]
 | cons a l c =>
  rw[Bt]
  have b:=Ec (h a List.mem_cons_self)
  grind
theorem Fit.nil:Fit []:=⟨fun x h=>(List.not_mem_nil h).elim,by simp[Aa],by simp⟩
theorem Fit.left{a b:List Av}(h:Fit (a++b)):Fit a:=by
 obtain ⟨h1,c,d⟩:=h
 have hb:=Bo (l:=b) fun x hx=>h1 x (List.mem_append_right _ hx)
 rw[Ao] at c
 rw[List.length_append] at d
 exact ⟨fun x hx=>h1 x (List.mem_append_left _ hx),by omega,by omega⟩
theorem Fit.right{a b:List Av}(h:Fit (a++b)):Fit b:=by
 obtain ⟨h1,c,d⟩:=h
 have hb:=Bo (l:=a) fun x hx=>h1 x (List.mem_append_left _ hx)
 rw[Ao] at c
 rw[List.length_append] at d
 exact ⟨fun x hx=>h1 x (List.mem_append_right _ hx),by omega,by omega⟩
theorem Fit.eT{a b c:List Av}(h:Fit (a++(b++c))):Fit b:=h.right.left
theorem VG{a b x y:Int}(h1: -1≤a)(c:a≤x)(d: -1≤b)(e:b≤y)(f:0≤x)(g:0≤y): -1≤DT a b∧DT a b≤x+y:=by
 unfold DT
 split<;>omega
theorem J0{α:Type}(b Hi:α→Int): ∀(l:List α)(a x:Int),(∀e∈l,-1≤b e∧b e≤Hi e∧0≤Hi e)→ -1≤a→a≤x→0≤x→
 -1≤(l.map b).foldl DT a∧(l.map b).foldl DT a≤x+(l.map Hi).sum
 | [],a,x,_,h1,c,_=>by simp;omega
 | e :: l, a, x, h, h1, c, j => by
  obtain ⟨f,g,i⟩:=h e List.mem_cons_self
  obtain ⟨d,b2⟩:=VG h1 c f g j i
  obtain ⟨c1,c2⟩:=J0 b Hi l (DT a (b e)) (x+Hi e) (fun z k=>h z (List.mem_cons_of_mem _ k)) d b2 (by omega)
  simp only[List.map_cons,List.foldl_cons,List.sum_cons]
  omega
theorem Ed{k:Kd}(h:AE k=true):1≤k.Au∧k.Au<1048576∧1≤k.bytes∧k.bytes≤1048576∧ -1≤k.lines∧k.lines≤k.bytes∧1≤k.AA∧k.AA≤k.bytes:=by
 unfold AE at h
 simp only[decide_eq_true_eq] at h
 omega
structure Da (k:Kd) (l:List Av):Prop where
 may:AE k=true
 bytes:k.bytes=Aa l
 AA:k.AA=l.length
 fit:Fit l
 ne:l≠ []
theorem Md{R:Kd→List Av→Prop}(b: ∀k l,R k l→Da k l): ∀{ks:List Kd}{ls:List (List Av)},F2 R ks ls→
 Bc ks=Aa ls.flatten∧Bj ks=ls.flatten.length∧(∀x∈ls.flatten,Ah x=true)∧(∀k∈ks,AE k=true)∧(ks.length≤ls.flatten.length)
 | [],[],_=>⟨rfl,rfl,fun x h=>(List.not_mem_nil h).elim,fun x h=>(List.not_mem_nil h).elim,Nat.le_refl _⟩
 | k :: ks, l :: ls, h => by
  have f:=b _ _ h.1
  obtain ⟨h1,c,d,g,i⟩:=Md b h.2
  have hl:1≤l.length:=by
   have:=f.ne
   cases l with
   |nil=>exact absurd rfl this
   |cons a l=>simp
  refine ⟨?_,?_,?_,?_,?_⟩
  · rw[List.flatten_cons,Ao,←h1,←f.bytes];simp[Bc]
  · rw[List.flatten_cons,List.length_append]
    have e:Bj (k::ks)=k.AA+Bj ks:=by simp[Bj]
    rw[e,f.AA,c]
    simp
  · intro x hx
    rw[List.flatten_cons] at hx
    rcases List.mem_append.1 hx with hx|hx
    ·exact f.fit.1 x hx
    exact d x hx
  · intro x hx
    rcases List.mem_cons.1 hx with rfl|hx
    ·exact f.may
    exact g x hx
  rw[List.flatten_cons,List.length_append,List.length_cons];omega
 | [],_::_,h=>h.elim
 |_::_,[],h=>h.elim
theorem Ul{l:List Av}(h1: ∀x∈l,Ah x=true)(c:1≤l.length)(a:l.length≤12)(b:Aa l≤1048576):may ⟨true,l,[]⟩=true:=by
 unfold may
 have e:(l.any fun x=>!true||!Ah x)=false:=by
  rw[List.any_eq_false]
  intro x hx
  rw[h1 x hx]
  simp
 simp only[e]
 simp[Bc,Bj,a,b]
 omega
theorem Sh{ks:List Kd}(h1: ∀x∈ks,AE x=true)(a:2≤ks.length)(b:ks.length≤12)(c:Bc ks≤1048576)(d:Bj ks≤1024):may ⟨false,[],ks⟩=true:=by
 unfold may
 have e:(ks.any fun x=>false||!AE x)=false:=by
  rw[List.any_eq_false]
  intro x hx
  rw[h1 x hx]
  simp
 simp only[e]
 simp[Aa,a,b,c,d]
theorem Sub.BU{v:Int→Option Nd} : ∀{h lo hi:Nat}{k:Kd}{l:List Av},Sub v h lo hi k l→Da k l
 | 0, lo, hi, k, l, ⟨h1, a, w, y, b, o, p⟩ => by
  obtain ⟨m1,f,m3,t,j⟩:=BS a rfl
  simp only at f m3 t j
  have s:=Bo f
  have d:=J0 (fun x:Av=>x.lines) (fun x:Av=>x.len) l 0 0 (fun e r=>by have:=Ec (f e r);omega) (by omega) (by omega) (by omega)
  have g:k.bytes=Aa l:=by rw[b];simp[KH,AZ,a,Bc]
  have i:k.AA=l.length:=by rw[b];simp[KH,AZ,a,Bj]
  have m:k.lines=(l.map (·.lines)).foldl DT 0:=by rw[b];simp[KH,AZ,a]
  refine ⟨?_,g,i,⟨f,j,by omega⟩,fun c=>by subst c;simp at m3⟩
  unfold AE
  simp only[decide_eq_true_eq]
  rw[g,i,m]
  have n:(l.map fun x:Av=>x.len).sum=Aa l:=rfl
  rw[n] at d
  refine ⟨o,p,by omega,by omega,by omega,by omega,by omega⟩
 | h + 1, lo, hi, k, l, ⟨ks, ls, h1, a, w, y, b, o, p, z, q⟩ => by
  obtain ⟨m1,f,m3,t,j,u⟩:=B7 a rfl
  simp only at f m3 t j u
  obtain ⟨s1,s2,s3,s4,s5⟩:=Md (fun k l x=>Sub.BU x) z
  have d:=J0 (fun x:Kd=>x.lines) (fun x:Kd=>x.bytes) ks 0 0 (fun e r=>by have:=Ed (f e r);omega) (by omega) (by omega) (by omega)
  have g:k.bytes=Aa l:=by rw[b,q,←s1];simp[KH,AZ,a,Aa]
  have i:k.AA=l.length:=by rw[b,q,←s2];simp[KH,AZ,a]
  have m:k.lines=(ks.map (·.lines)).foldl DT 0:=by rw[b];simp[KH,AZ,a]
  subst q
  have s:=Bo s3
  have hb:Aa ls.flatten≤1048576:=by rw[←s1];exact j
  have B:ls.flatten.length≤1024:=by have:=u;rw[s2] at this;omega
  refine ⟨?_,g,i,⟨s3,hb,B⟩,fun c=>by rw[c] at s5;have:=Nat.le_trans m3 s5;simp at this⟩
  unfold AE
  simp only[decide_eq_true_eq]
  rw[g,i,m]
  have n:(ks.map fun x:Kd=>x.bytes).sum=Bc ks:=rfl
  rw[n,s1] at d
  refine ⟨o,p,by omega,by omega,by omega,by omega,by omega⟩
theorem Sub.many{v : Int → Option Nd} : ∀{h lo hi : Nat}{k : Kd}{l : List Av}, Sub v h lo hi k l → lo * 4 ^ h ≤ l.length
 |0,lo,hi,k,l,⟨h1,d,c,_⟩=>by simpa using c
 | h + 1, lo, hi, k, l, ⟨ks, ls, h1, d, c, i, j, m, n, e, f⟩ => by
  have key : ∀{ks : List Kd}{ls : List (List Av)}, F2 (Sub v h 4 12) ks ls → ks.length * 4 ^ (h + 1) ≤ ls.flatten.length := by
   intro ks
   induction ks with
   |nil=>intro ls x;simp
   | cons k ks g =>
    intro ls x
    cases ls with
    |nil=>exact x.elim
    | cons l ls =>
     have a:=Sub.many x.1
     have b:=g x.2
     rw[List.flatten_cons,List.length_append,List.length_cons,Nat.add_mul,Nat.one_mul,Nat.pow_succ] at*
     omega
  rw[f]
  exact Nat.le_trans (Nat.mul_le_mul_right _ c) (key e)
theorem Sub.two{v:Int→Option Nd}{h lo hi:Nat}{k:Kd}{l:List Av}(hs:Sub v h lo hi k l)(h0:0<h):2*4^h≤l.length:=by
 cases h with
 |zero=>omega
 | succ h =>
  obtain ⟨ks,ls,h1,a,i,b,c,d,e,f,g⟩:=hs
  obtain ⟨m1,j,m3,m,n,o⟩:=B7 a rfl
  exact Sub.many (v:=v) (h:=h+1) (lo:=2) (hi:=hi) (k:=k) ⟨ks,ls,h1,a,m3,b,c,d,e,f,g⟩
theorem Sub.low{v:Int→Option Nd}{h lo hi:Nat}{k:Kd}{l:List Av}(hs:Sub v h lo hi k l):h≤4:=by
 have b:=hs.BU.fit.2.2
 by_cases h0:0<h
 ·have:=hs.two h0
  have a:4^h<4^5:=by omega
  have:=(Nat.pow_lt_pow_iff_right (by omega:1<4)).1 a
  omega
 omega
theorem eI{v:Int→Option Nd}{h:Nat}{n:Nd}{ls:List (List Av)}(d:PR v h n ls)(c:Fit ls.flatten)(h1:1≤many n)(b:0<h→2≤many n)(a:many n≤12):may n=true:=by
 cases h with
 | zero =>
  obtain ⟨e,rfl⟩:=d
  rw[Hm] at c
  rw[e] at h1 a⊢
  simp only[many,List.length_nil,Nat.add_zero] at h1 a
  exact Ul c.1 h1 a c.2.1
 | succ h =>
  obtain ⟨e,f⟩:=d
  obtain ⟨s1,s2,s3,s4,s5⟩:=Md (fun k l x=>Sub.BU x) f
  have b:=b (by omega)
  rw[e] at b a⊢
  simp only[many,List.length_nil,Nat.zero_add] at b a
  exact Sh s4 b a (by rw[s1];exact c.2.1) (by rw[s2];have:=c.2.2;omega)
theorem eH{v:Int→Option Nd}{h:Nat}{n:Nd}{ls:List (List Av)}(a:PR v h n ls)(i j:Nat):PR v h (CO n i j) (sub ls i j):=by
 cases h with
 | zero =>
  obtain ⟨e,rfl⟩:=a
  rw[e]
  refine ⟨by simp[CO],?_⟩
  simp[CO,sub]
 | succ h =>
  obtain ⟨e,b⟩:=a
  rw[e]
  refine ⟨by simp[CO],?_⟩
  simp only[CO,Bool.false_eq_true,if_false,sub]
  exact (b.drop i).take (j-i)
theorem OK{v:Int→Option Nd}{h:Nat}{a b:Nd}{d f:List (List Av)}(ha:PR v h a d)(hb:PR v h b f):PR v h (both a b) (d++f):=by
 cases h with
 | zero =>
  obtain ⟨e,rfl⟩:=ha
  obtain ⟨e',rfl⟩:=hb
  rw[e,e']
  exact ⟨rfl,by simp[both]⟩
 | succ h =>
  obtain ⟨e,g⟩:=ha
  obtain ⟨e',c⟩:=hb
  rw[e,e']
  exact ⟨rfl,g.append c⟩
def Tl(v:Int→Option Nd)(x:BK)(l:List Av):Prop:=(x=C0∧l= [])∨ ∃h:Nat,x.Al=h∧Sub v h 1 12 x.ER l
theorem Tl.le{v v':Int→Option Nd}(b:Le v v'){x:BK}{l:List Av}(h:Tl v x l):Tl v' x l:=by
 rcases h with h|⟨h,h1,a⟩
 ·exact .inl h
 exact .inr ⟨h,h1,a.le b⟩
section
variable {σ:Type} {X:Env σ} (hX:X.Ok)
theorem cL{α:Type}(l:List α)(i j:Nat)(h:i≤j):l.take i++sub l i j=l.take j:=by
 unfold sub
 have e:l.take j=(l.take j).take i++(l.take j).drop i:=(List.take_append_drop i _).symm
 simp_all[List.take_take,List.drop_take]
theorem XO{α:Type}(l:List α)(i j:Nat)(h:j≤l.length):(sub l i j).length=j-i:=by grind [sub,List.length_take,List.length_drop]
theorem j9{l:List (List Av)}(i j:Nat)(a:Fit l.flatten):Fit (sub l i j).flatten:=by
 have e:l=l.take i++(sub l i j++(l.drop i).drop (j-i)):=by grind [sub,List.take_append_drop]
 rw[e,List.flatten_append,List.flatten_append] at a
 exact a.eT
def D6(n A7 i:Nat):Nat:=i*(n/A7)+min i (n%A7)
theorem KR(n A7 i:Nat):D6 n A7 (i+1)=D6 n A7 i+(n/A7+(if i<n%A7 then 1 else 0)):=by
 unfold D6
 grind
theorem Ri(n A7:Nat)(h:0<A7):D6 n A7 A7=n:=by
 unfold D6
 have:=Nat.mod_lt n h
 have:=Nat.div_add_mod n A7
 omega
include hX in
theorem Ha{n : Nd}{h : Nat}{ls : List (List Av)}(z : Fit ls.flatten)(lo hi : Nat)(v : hi ≤ 12)(w : 1 ≤ lo)(g : 0 < h → 2 ≤ lo)(A7 : Nat)(hp : 0 < A7)
 (hq: ∀i,i<A7→lo≤many n/A7+(if i<many n%A7 then 1 else 0)∧many n/A7+(if i<many n%A7 then 1 else 0)≤hi):
 ∀(c i:Nat)(s:σ)(out:List Kd)(f:List (List Av)),i+c=A7→X.inv s→PR (X.V s) h n ls→F2 (Sub (X.V s) h lo hi) out f→f.flatten=(ls.take (D6 (many n) A7 i)).flatten→out.length=i→
  Step X s 0 c (C4 X.wt n A7 c i (D6 (many n) A7 i) out) (fun ks s'=> ∃p,F2 (Sub (X.V s') h lo hi) ks p∧p.flatten=ls.flatten∧ks.length=A7)
 | 0, i, s, out, f, B, q, m, y, t, hl => by
   refine Step.pure q ⟨f,y,?_,by omega⟩
   obtain rfl:i=A7:=by omega
   rw[t,Ri _ _ hp,Od m,List.take_length]
 | c + 1, i, s, out, f, B, q, m, y, t, hl => by
   unfold C4
   rw[←KR]
   obtain ⟨L,O⟩:=hq i (by omega)
   have o : D6 (many n) A7 (i + 1) ≤ ls.length := by
    rw[←Od m]
    have h1:=Ri (many n) A7 hp
    have mono: ∀d,i+1+d≤A7→D6 (many n) A7 (i+1)≤D6 (many n) A7 (i+1+d):=by
     intro d
     induction d with
     |zero=>intro _;exact Nat.le_refl _
     | succ d G =>
      intro P
      have:=G (by omega)
      have e:D6 (many n) A7 (i+1+d)≤D6 (many n) A7 (i+1+(d+1)):=by
       rw[show i+1+(d+1)=i+1+d+1 by omega,KR]
       exact Nat.le_add_right _ _
      omega
    have:=mono (A7-(i+1)) (by omega)
    rw[show i+1+(A7-(i+1))=A7 by omega,h1] at this
    exact this
   have hcut:=eH m (D6 (many n) A7 i) (D6 (many n) A7 (i+1))
   have D:=KR (many n) A7 i
   have hm:many (CO n (D6 (many n) A7 i) (D6 (many n) A7 (i+1)))=many n/A7+(if i<many n%A7 then 1 else 0):=by
    rw[Od hcut,XO _ _ _ o]
    omega
   have u:=j9 (D6 (many n) A7 i) (D6 (many n) A7 (i+1)) z
   have j:=eI hcut u (by rw[hm];omega) (fun h0=>by rw[hm];have:=g h0;omega) (by rw[hm];omega)
   have hw:=hX.wt s _ q j
   refine (Step.bind (R2:=0) (W2:=c) hw ?_).mono (by omega) (by omega) fun _ _ _ _ x=>x
   rintro k s1 r l ⟨H,I,J,K⟩
   refine Ha z lo hi v w g A7 hp hq c (i+1) s1 (out++ [k]) (f++ [(sub ls (D6 (many n) A7 i) (D6 (many n) A7 (i+1))).flatten]) (by omega) r (m.le l) ?_ ?_ (by simp[hl])
   · refine F2.append (y.mono fun a b x=>x.le l) ⟨?_,trivial⟩
     rw[GO]
     exact ⟨_,_,K,hcut.le l,j,by rw[hm];exact L,by rw[hm];exact O,H,I,J,rfl⟩
   rw[List.flatten_append,t,←cL ls (D6 (many n) A7 i) (D6 (many n) A7 (i+1)) (by omega),List.flatten_append]
   simp
include hX in
theorem Ij{n:Nd}{h:Nat}{ls:List (List Av)}{s:σ}(f:X.inv s)(j:PR (X.V s) h n ls)(k:Fit ls.flatten)(h1:0<h→many n≠1):
 Step X s 0 (Ba n) (BT X.wt n) (fun ks s'=> ∃b,F2 (Sub (X.V s') h (if Ba n≤1 then many n else 4) (if Ba n≤1 then many n else 12)) ks b∧b.flatten=ls.flatten∧ks.length=Ba n):=by
 unfold BT
 by_cases h0:many n=0
 · have e:Ba n=0:=by unfold Ba;omega
   rw[e]
   have hl:ls= []:=List.eq_nil_of_length_eq_zero (by rw[←Od j];exact h0)
   subst hl
   exact Step.pure f ⟨[],trivial,rfl,rfl⟩
 have hp:0<Ba n:=by unfold Ba;omega
 have e0:D6 (many n) (Ba n) 0=0:=by simp[D6]
 by_cases a:Ba n=1
 · have g:many n≤12:=by unfold Ba at a;omega
   have:=Ha hX k (many n) (many n) g (by omega) (fun m=>by have:=h1 m;omega) 1 (by omega) (n:=n) (h:=h) (fun i hi=>by
    have:i=0:=by omega
    subst this
    rw[Nat.div_one,Nat.mod_one]
    simp) 1 0 s [] [] rfl f j trivial (by simp[D6]) rfl
   rw[a]
   simpa[D6] using this
 have o:12*(Ba n-1)+1≤many n∧many n≤12*Ba n:=by unfold Ba at*;omega
 have:=Ha hX k 4 12 (by omega) (by omega) (fun _=>by omega) (Ba n) hp (n:=n) (h:=h) (fun i hi=>by
  have q:4≤many n/Ba n:=by
   rw[Nat.le_div_iff_mul_le hp]
   omega
  have l:=Nat.div_add_mod (many n) (Ba n)
  have r:=Nat.mod_lt (many n) hp
  refine ⟨by omega,?_⟩
  by_cases hq:many n/Ba n≤11
  · split<;>omega
  have p:many n/Ba n≤12:=by
   have:=Nat.div_le_div_right (c:=Ba n) o.2
   rw[Nat.mul_div_cancel _ hp] at this
   exact this
  have d:many n/Ba n=12:=by omega
  rw[d] at l⊢
  have:many n%Ba n=0:=by
   have:=Nat.mul_comm (Ba n) 12
   omega
  rw[this]
  simp) (Ba n) 0 s [] [] (by omega) f j trivial (by rw[e0];rfl) rfl
 rw[e0] at this
 rw[if_neg (by omega),if_neg (by omega)]
 exact this
include hX in
theorem Jy : ∀(f : Nat){ks : List Kd}{ls : List (List Av)}{h : Nat}{s : σ}, ks.length ≤ f + 1 → X.inv s → F2 (Sub (X.V s) h (if ks.length ≤ 1 then 1 else 4) 12) ks ls → Fit ls.flatten →
 Step X s 0 ks.length (Fb X.wt f ks h) (fun x s'=>Tl (X.V s') x ls.flatten∧(ks.length≤1→x.Al≤h)∧(2≤ks.length→ks.length≤12→x.Al=h+1∧Sub (X.V s') (h+1) 1 ks.length x.ER ls.flatten))
 | f, [], [], h, s, hl, n, d, p => by
  unfold Fb
  exact Step.pure n ⟨.inl ⟨rfl,rfl⟩,fun _=>by simp[C0],fun c=>by simp at c⟩
 | f, [k], [l], h, s, hl, n, d, p => by
  unfold Fb
  refine Step.ret n ⟨.inr ⟨h,rfl,?_⟩,fun _=>Int.le_refl _,fun c=>by simp at c⟩
  have:=d.1
  simpa using this
 |0,k::v::ks,_,h,s,hl,n,d,p=>by simp at hl
 | f + 1, k :: v :: ks, ls, h, s, hl, n, d, p => by
  unfold Fb
  have q:2≤(k::v::ks).length:=by simp
  generalize k::v::ks=kk at hl d q
  rw[if_neg (by omega)] at d
  have G:PR (X.V s) (h+1) ⟨false,[],kk⟩ ls:=⟨rfl,d⟩
  have hm:many ⟨false,[],kk⟩=kk.length:=by simp[many]
  have hp:Ba ⟨false,[],kk⟩=(kk.length+11)/12:=by unfold Ba;rw[hm]
  have e:=Ij hX n G p (fun _=>by rw[hm];omega)
  rw[hp,hm] at e
  have H:(kk.length+11)/12+(kk.length+11)/12≤kk.length:=by omega
  by_cases t:kk.length≤12
  ·have B:(kk.length+11)/12=1:=by omega
   rw[B] at e
   refine (Step.bind (W2:=0) (R2:=0) e ?_).mono (by omega) (by omega) fun _ _ _ _ x=>x
   rintro g s1 j u ⟨i,m,o,r⟩
   simp only[Nat.le_refl,if_true] at m
   have: ∃z,g= [z]:=by
    cases g with
    |nil=>simp at r
    | cons a l =>
     cases l with
     |nil=>exact ⟨a,rfl⟩
     |cons b l=>simp at r
   obtain ⟨z,rfl⟩:=this
   have: ∃l',i= [l']:=by
    have:=m.len
    cases i with
    |nil=>simp at this
    | cons a l =>
     cases l with
     |nil=>exact ⟨a,rfl⟩
     |cons b l=>simp at this
   obtain ⟨l',rfl⟩:=this
   have w:=m.1
   simp only[List.flatten_cons,List.flatten_nil,List.append_nil] at o
   subst o
   unfold Fb
   refine Step.ret j ⟨.inr ⟨h+1,by simp,w.wide (by omega) (by omega)⟩,fun c=>by omega,fun _ _=>⟨by simp,w.wide (by omega) (by omega)⟩⟩
  refine (Step.bind (W2:=(kk.length+11)/12) (R2:=0) e ?_).mono (by omega) (by omega) fun _ _ _ _ x=>x
  rintro g s1 j u ⟨i,m,o,r⟩
  rw[if_neg (by omega),if_neg (by omega)] at m
  have:=Jy f (ks:=g) (ls:=i) (h:=h+1) (s:=s1) (by omega) j (by rw[if_neg (by omega)];exact m) (by rw[o];exact p)
  rw[r,o] at this
  refine this.mono (by omega) (by omega) ?_
  rintro x s2 D y ⟨I,J,K⟩
  exact ⟨I,fun c=>by omega,fun _ c=>absurd c t⟩
end
section
variable {σ:Type} {X:Env σ} (hX:X.Ok)
theorem F2.one{α β:Type}{R:α→β→Prop}{a:α}{m:List β}(h:F2 R [a] m): ∃b,m= [b]∧R a b:=by cases m with
 |nil=>exact h.elim
 | cons b m => cases m with
  |nil=>exact ⟨b,rfl,h.1⟩
  |cons c m=>exact h.2.elim
theorem bZ{α:Type}{l:List α}{z:α}(h:l.getLast?=some z):l=sub l 0 (l.length-1)++ [z]:=by
 obtain ⟨ys,rfl⟩:=List.getLast?_eq_some_iff.1 h
 simp[sub]
include hX in
theorem LF : ∀(f : Nat){a b : BK}{ha hb K L T U M : Nat}{I J : List Av}{s : σ}, max ha hb < f → a.Al = ha → b.Al = hb → X.inv s →
 Sub (X.V s) ha K T a.ER I→Sub (X.V s) hb L U b.ER J→Fit (I++J)→M≤4→(hb<ha→M≤K)→(ha<hb→M≤L)→(ha=hb→M≤K+L)→
 Step X s (max ha hb-min ha hb+2) (2*(max ha hb-min ha hb)+2) (C7 X.rd X.wt f a b) (fun r s'=>r.2=((max ha hb:Nat):Int)∧ ∃ls,F2 (Sub (X.V s') (max ha hb) (if r.1.length≤1 then M else 4) 12) r.1 ls∧1≤r.1.length∧r.1.length≤2∧ls.flatten=I++J∧
  (hb<ha→T≤11→r.1.length=1)∧(ha<hb→U≤11→r.1.length=1))
 |0,_,_,_,_,_,_,_,_,_,_,_,_,hf,_,_,_,_,_,_,_,_,_,_=>absurd hf (by omega)
 | f + 1, a, b, ha, hb, K, L, T, U, M, I, J, s, hf, ea, eb, hI, sa, sb, fit, hM, h1, h2, h3 => by
   unfold C7
   rw[ea,eb]
   rcases Nat.lt_trichotomy hb ha with bt|ap|cY
   · rw [if_pos (by omega)]
     obtain ⟨ha,rfl⟩: ∃k,ha=k+1:=⟨ha-1,by omega⟩
     obtain ⟨ks,ls,c1,c2,c3,c4,c5,c6,c7,c8,c9⟩:=sa
     obtain ⟨m1,m2,m3,m4,m5,m6⟩:=B7 c2 rfl
     simp only at m1 m2 m3 m4 m5 m6
     refine (Step.bind (R2:=max ha hb-min ha hb+2+0) (W2:=2*(max ha hb-min ha hb)+2+(2+0)) (hX.rd s _ _ hI c1) ?_).mono (by omega) (by omega) fun _ _ _ _ x=>x
     rintro x s1 v g rfl
     simp only
     obtain ⟨z,hz⟩: ∃z,ks.getLast?=some z:=by
      cases h:ks.getLast? with
      |none=>rw[List.getLast?_eq_none_iff.1 h] at m3;simp at m3
      |some z=>exact ⟨z,rfl⟩
     rw[hz]
     simp only[Bool.false_eq_true,if_false]
     have aq:=bZ hz
     have hp:=c8
     rw[aq] at hp
     have ab:ls=ls.take (ks.length-1)++ls.drop (ks.length-1):=(List.take_append_drop _ _).symm
     have ac:(sub ks 0 (ks.length-1)).length=ks.length-1:=by rw[XO _ _ _ (by omega)];omega
     obtain ⟨p1,p2⟩:=hp.split
     rw[ac] at p1 p2
     obtain ⟨lz,e1,p3⟩:=p2.one
     rw[e1] at ab
     have D:I=(ls.take (ks.length-1)).flatten++lz:=by
       rw[c9];conv=>lhs;rw[ab]
       simp
     have u:Fit (lz++J):=by rw[D,List.append_assoc] at fit;exact fit.right
     have ih:=LF f (a:=⟨z,((ha+1:Nat):Int)-1⟩) (b:=b) (ha:=ha) (hb:=hb) (M:=4) (by omega) (by simp) eb v (p3.le g) (sb.le g) u (by omega) (by omega) (by omega) (by omega)
     refine Step.bind (R1:=max ha hb-min ha hb+2) (W1:=2*(max ha hb-min ha hb)+2) ih ?_
     rintro ⟨n,rh⟩ s2 w j ⟨q1,o,q,q3,q4,q5,q6,q7⟩
     simp only at q1 q q3 q4 q5 q6 q7
     have t:max ha hb=ha:=by omega
     rw[t] at q q1
     have W:F2 (Sub (X.V s2) ha 4 12) n o:=by
      by_cases hh:n.length≤1
      · rw[if_pos hh] at q;exact q
      rw[if_neg hh] at q;exact q
     have n1:PR (X.V s2) (ha+1) ⟨false,[],sub ks 0 (ks.length-1)⟩ (ls.take (ks.length-1)):=⟨rfl,(p1.mono fun _ _ x=>(x.le g).le j)⟩
     have n2:PR (X.V s2) (ha+1) ⟨false,[],n⟩ o:=⟨rfl,W⟩
     have n3:=OK n1 n2
     have d:many (both ⟨false,[],sub ks 0 (ks.length-1)⟩ ⟨false,[],n⟩)=ks.length-1+n.length:=by simp[many,both,ac]
     have l:(ls.take (ks.length-1)++o).flatten=I++J:=by rw[List.flatten_append,q5,D,List.append_assoc]
     have m:=Ij hX w n3 (by rw[l];exact fit) (fun _=>by rw[d];omega)
     have G:Ba (both ⟨false,[],sub ks 0 (ks.length-1)⟩ ⟨false,[],n⟩)=(ks.length-1+n.length+11)/12:=by unfold Ba;rw[d]
     rw[G,d] at m
     have P:CO ⟨false,[],ks⟩ 0 (ks.length-1)=⟨false,[],sub ks 0 (ks.length-1)⟩:=by simp[CO]
     rw[P]
     refine (Step.bind (R1:=0) (R2:=0) (W1:=2) (W2:=0) (m.mono (by omega) (by omega) fun _ _ _ _ x=>x) ?_)
     rintro out s3 B O ⟨H,p,g2,Q⟩
     refine Step.ret B ⟨by simp only;omega,H,?_,by simp only;omega,by simp only;omega,by rw[g2,l],?_,fun c=>by omega⟩
     · simp only
       have Z:max (ha+1) hb=ha+1:=by omega
       rw[Z,Q]
       by_cases i:(ks.length-1+n.length+11)/12≤1
       · rw[if_pos i,if_pos i] at p
         rw[if_pos i]
         exact p.mono fun _ _ x=>x.wide (by have:=h1 (by omega);omega) (by omega)
       rw[if_neg i,if_neg i] at p
       rw[if_neg i]
       exact p
     intro _ an
     simp only
     rw[Q]
     omega
   · subst ap
     rw[if_neg (by omega),if_neg (by omega)]
     rw[GO] at sa sb
     obtain ⟨na,av,a1,Y,a3,a4,a5,a6,a7,a8,a9⟩:=sa
     obtain ⟨nb,aw,b1,b2,b3,b4,b5,b6,b7,b8,b9⟩:=sb
     have ma:1≤many na∧many na≤12:=by
      cases hb with
      | zero =>
        obtain ⟨e,-⟩:=Y
        rw[e] at a3⊢
        have:=BS a3 rfl
        simp only at this
        simp[many]
        omega
      | succ h =>
        obtain ⟨e,-⟩:=Y
        rw[e] at a3⊢
        have:=B7 a3 rfl
        simp only at this
        simp[many]
        omega
     have mb:1≤many nb∧many nb≤12:=by
      cases hb with
      | zero =>
        obtain ⟨e,-⟩:=b2
        rw[e] at b3⊢
        have:=BS b3 rfl
        simp only at this
        simp[many]
        omega
      | succ h =>
        obtain ⟨e,-⟩:=b2
        rw[e] at b3⊢
        have:=B7 b3 rfl
        simp only at this
        simp[many]
        omega
     refine (Step.bind (R2:=1+0) (W2:=0+2) (hX.rd s _ _ hI a1) ?_).mono (by omega) (by omega) fun _ _ _ _ x=>x
     rintro x s1 v g rfl
     refine (Step.bind (R2:=0) (W2:=2) (hX.rd s1 _ _ v (g _ _ b1)) ?_)
     rintro y s2 w j rfl
     have ar:x.leaf=y.leaf:=by
      cases hb with
      |zero=>obtain ⟨e,_⟩:=Y;obtain ⟨e',_⟩:=b2;rw[e,e']
      |succ k=>obtain ⟨e,_⟩:=Y;obtain ⟨e',_⟩:=b2;rw[e,e']
     rw[if_pos ar]
     have n3:=OK ((Y.le g).le j) ((b2.le g).le j)
     have d:many (both x y)=many x+many y:=by simp[many,both];omega
     have l:(av++aw).flatten=I++J:=by rw[List.flatten_append,a9,b9]
     have m:=Ij hX w n3 (by rw[l];exact fit) (fun _=>by rw[d];omega)
     have G:Ba (both x y)=(many x+many y+11)/12:=by unfold Ba;rw[d]
     rw[G,d] at m
     refine (Step.bind (R1:=0) (R2:=0) (W1:=2) (W2:=0) (m.mono (by omega) (by omega) fun _ _ _ _ x=>x) ?_)
     rintro out s3 B O ⟨H,p,g2,Q⟩
     refine Step.ret B ⟨by simp only;omega,H,?_,by simp only;omega,by simp only;omega,by rw[g2,l],fun c=>by omega,fun c=>by omega⟩
     simp only
     have Z:max hb hb=hb:=by omega
     rw[Z,Q]
     by_cases i:(many x+many y+11)/12≤1
     · rw[if_pos i,if_pos i] at p
       rw[if_pos i]
       exact p.mono fun _ _ z=>z.wide (by have:=h3 rfl;omega) (by omega)
     rw[if_neg i,if_neg i] at p
     rw[if_neg i]
     exact p
   rw[if_neg (by omega),if_pos (by omega)]
   obtain ⟨hb,rfl⟩: ∃k,hb=k+1:=⟨hb-1,by omega⟩
   obtain ⟨ks,ls,c1,c2,c3,c4,c5,c6,c7,c8,c9⟩:=sb
   obtain ⟨m1,m2,m3,m4,m5,m6⟩:=B7 c2 rfl
   simp only at m1 m2 m3 m4 m5 m6
   refine (Step.bind (R2:=max ha hb-min ha hb+2+0) (W2:=2*(max ha hb-min ha hb)+2+(2+0)) (hX.rd s _ _ hI c1) ?_).mono (by omega) (by omega) fun _ _ _ _ x=>x
   rintro x s1 v g rfl
   simp only
   cases ks with
   |nil=>simp at m3
   |cons z ks=>
   simp only[Bool.false_eq_true,if_false]
   cases ls with
   |nil=>exact c8.elim
   |cons lz ls=>
   obtain ⟨p3,p1⟩:=c8
   have D:J=lz++ls.flatten:=by rw[c9];simp
   have u:Fit (I++lz):=by rw[D,←List.append_assoc] at fit;exact fit.left
   have ih:=LF f (a:=a) (b:=⟨z,((hb+1:Nat):Int)-1⟩) (ha:=ha) (hb:=hb) (M:=4) (by omega) ea (by simp) v (sa.le g) (p3.le g) u (by omega) (by omega) (by omega) (by omega)
   refine Step.bind (R1:=max ha hb-min ha hb+2) (W1:=2*(max ha hb-min ha hb)+2) ih ?_
   rintro ⟨n,rh⟩ s2 w j ⟨q1,o,q,q3,q4,q5,q6,q7⟩
   simp only at q1 q q3 q4 q5 q6 q7
   have t:max ha hb=hb:=by omega
   rw[t] at q q1
   have W:F2 (Sub (X.V s2) hb 4 12) n o:=by
    by_cases hh:n.length≤1
    · rw[if_pos hh] at q;exact q
    rw[if_neg hh] at q;exact q
   have n1:PR (X.V s2) (hb+1) ⟨false,[],ks⟩ ls:=⟨rfl,(p1.mono fun _ _ x=>(x.le g).le j)⟩
   have n2:PR (X.V s2) (hb+1) ⟨false,[],n⟩ o:=⟨rfl,W⟩
   have n3:=OK n2 n1
   simp only[List.length_cons] at c3 c4 m3 m4
   have d:many (both ⟨false,[],n⟩ ⟨false,[],ks⟩)=n.length+ks.length:=by simp[many,both]
   have l:(o++ls).flatten=I++J:=by rw[List.flatten_append,q5,D,List.append_assoc]
   have m:=Ij hX w n3 (by rw[l];exact fit) (fun _=>by rw[d];omega)
   have G:Ba (both ⟨false,[],n⟩ ⟨false,[],ks⟩)=(n.length+ks.length+11)/12:=by unfold Ba;rw[d]
   rw[G,d] at m
   have P:CO ⟨false,[],z::ks⟩ 1 (z::ks).length=⟨false,[],ks⟩:=by simp[CO,sub]
   rw[P]
   refine (Step.bind (R1:=0) (R2:=0) (W1:=2) (W2:=0) (m.mono (by omega) (by omega) fun _ _ _ _ x=>x) ?_)
   rintro out s3 B O ⟨H,p,g2,Q⟩
   refine Step.ret B ⟨by simp only;omega,H,?_,by simp only;omega,by simp only;omega,by rw[g2,l],fun c=>by omega,?_⟩
   · simp only
     have Z:max ha (hb+1)=hb+1:=by omega
     rw[Z,Q]
     by_cases i:(n.length+ks.length+11)/12≤1
     · rw[if_pos i,if_pos i] at p
       rw[if_pos i]
       exact p.mono fun _ _ x=>x.wide (by have:=h2 (by omega);omega) (by omega)
     rw[if_neg i,if_neg i] at p
     rw[if_neg i]
     exact p
   intro _ an
   simp only
   rw[Q]
   omega
def l8(x:BK):Nat:=x.Al.toNat
theorem Tl.low{v:Int→Option Nd}{x:BK}{l:List Av}(h:Tl v x l):l8 x≤4:=by
 rcases h with ⟨rfl,-⟩|⟨k,h1,a⟩
 ·simp[l8,C0]
 have:=a.low
 simp[l8,h1]
 omega
include hX in
theorem MH{a b:BK}{l m:List Av}{s:σ}(p:X.inv s)(Y:Tl (X.V s) a l)(P:Tl (X.V s) b m)(fit:Fit (l++m)):
 Step X s (max (l8 a) (l8 b)+2) 12 (FG X.rd X.wt a b) (fun x s'=>Tl (X.V s') x (l++m)∧x.Al≤max a.Al b.Al+1∧
  (∀h:Nat,(a.Al≤h∧b.Al<h∧(a.Al=h→Sub (X.V s) h 1 11 a.ER l)∨b.Al≤h∧a.Al<h∧(b.Al=h→Sub (X.V s) h 1 11 b.ER m))→x.Al≤h)):=by
 unfold FG
 rcases Y with ⟨rfl,rfl⟩|⟨ha,f,B⟩
 · rw[if_pos (by simp[C0])]
   refine Step.ret p ⟨by simpa using P,by simp only[C0];omega,?_⟩
   rintro h (⟨c1,c2,c3⟩|⟨c1,c2,c3⟩)<;>omega
 rw[if_neg (by omega)]
 rcases P with ⟨rfl,rfl⟩|⟨hb,eb,L⟩
 · rw[if_pos (by simp[C0])]
   refine Step.ret p ⟨.inr ⟨ha,f,by simpa using B⟩,by simp only[C0];omega,?_⟩
   rintro h (⟨c1,c2,c3⟩|⟨c1,c2,c3⟩)<;>omega
 rw[if_neg (by omega)]
 have T:=B.low
 have U:=L.low
 have D:l8 a=ha:=by simp[l8,f]
 have G:l8 b=hb:=by simp[l8,eb]
 have Q:KC a b=max ha hb+1:=by
  unfold KC
  rw[f,eb]
  omega
 rw[Q,D,G]
 by_cases c:(hb<ha∧Sub (X.V s) ha 1 11 a.ER l)∨(ha<hb∧Sub (X.V s) hb 1 11 b.ER m)
 · have J:Step X s (max ha hb+2) 10 (C7 X.rd X.wt (max ha hb+1) a b) (fun r s'=>r.2=((max ha hb:Nat):Int)∧ ∃ls,F2 (Sub (X.V s') (max ha hb) 1 12) r.1 ls∧r.1.length=1∧ls.flatten=l++m):=by
    rcases c with ⟨c1,c2⟩|⟨c1,c2⟩
    · refine (LF hX (max ha hb+1) (M:=1) (by omega) f eb p c2 L fit (by omega) (by omega) (by omega) (by omega)).mono (by omega) (by omega) ?_
      rintro r s' _ _ ⟨g,ls,d,v,K,i,w,y⟩
      have w:=w c1 (by omega)
      rw[if_pos (by omega)] at d
      exact ⟨g,ls,d,w,i⟩
    refine (LF hX (max ha hb+1) (M:=1) (by omega) f eb p B c2 fit (by omega) (by omega) (by omega) (by omega)).mono (by omega) (by omega) ?_
    rintro r s' _ _ ⟨g,ls,d,v,K,i,w,y⟩
    have y:=y c1 (by omega)
    rw[if_pos (by omega)] at d
    exact ⟨g,ls,d,y,i⟩
   refine Step.bind (R2:=0) (W2:=2) J ?_
   rintro ⟨n,W⟩ s1 j I ⟨g,ls,d,v,i⟩
   simp only at g d v
   subst g
   have:=Jy hX n.length (ks:=n) (ls:=ls) (h:=max ha hb) (s:=s1) (by omega) j (by rw[if_pos (by omega)];exact d) (by rw[i];exact fit)
   refine (this.mono (by omega) (by omega) ?_)
   rintro x s2 H q ⟨o,z,O⟩
   have z:=z (by omega)
   rw[i] at o
   refine ⟨o,by rw[f,eb];omega,?_⟩
   rintro h (⟨t,u,k⟩|⟨t,u,k⟩)<;>omega
 refine (Step.bind (R2:=0) (W2:=2) (W1:=10) (R1:=max ha hb+2) ((LF hX (max ha hb+1) (M:=1) (by omega) f eb p B L fit (by omega) (by omega) (by omega) (by omega)).mono (by omega) (by omega) fun _ _ _ _ x=>x) ?_)
 rintro ⟨n,W⟩ s1 j I ⟨g,ls,d,v,K,i,w,y⟩
 simp only at g d v K
 subst g
 have:=Jy hX n.length (ks:=n) (ls:=ls) (h:=max ha hb) (s:=s1) (by omega) j (by exact d) (by rw[i];exact fit)
 refine (this.mono (by omega) (by omega) ?_)
 rintro x s2 H q ⟨o,z,O⟩
 rw[i] at o
 have hx:x.Al≤max ha hb+1:=by
  by_cases h1:n.length≤1
  · have:=z h1
    omega
  have:=(O (by omega) (by omega)).1
  omega
 refine ⟨o,by rw[f,eb];omega,?_⟩
 rintro h (⟨t,u,k⟩|⟨t,u,k⟩)
 · rw[f] at t k
   rw[eb] at u
   by_cases e:ha=h
   · subst e
     exact absurd (.inl ⟨by omega,k rfl⟩) c
   omega
 rw[eb] at t k
 rw[f] at u
 by_cases e:hb=h
 · subst e
   exact absurd (.inr ⟨by omega,k rfl⟩) c
 omega
end
section
variable {σ:Type} {X:Env σ} (hX:X.Ok)
theorem Ia{a b c d:List Av}(h:a++b=c++d)(hm: ∀x∈a++b,Ah x=true)(f:Aa a≤Aa c): ∃e,c=a++e∧b=e++d:=by
 rcases List.append_eq_append_iff.1 h with ⟨e,h1,g⟩|⟨e,h1,g⟩
 ·simp_all
 rw[h1,Ao] at f
 have i:=Bo (l:=e) fun x hx=>hm x (by rw[h1];simp[hx])
 have:e= []:=List.eq_nil_of_length_eq_zero (by omega)
 simp_all
theorem U2: ∀(l1 l2:List Av)(k:Nat),(∀x∈l1,Ah x=true)→F8 (l1++l2) (Aa l1) k=some (k+l1.length)
 | [],l2,k,_=>by cases l2<;>simp[F8,Aa]
 | x :: l1, l2, k, h => by
  have hx:=Ec (h x List.mem_cons_self)
  have a:=Bo (l:=l1) fun y hy=>h y (List.mem_cons_of_mem _ hy)
  rw[List.cons_append]
  unfold F8
  rw[Bt]
  simp only
  rw[if_pos (by omega),show x.len+Aa l1-x.len=Aa l1 by omega,U2 l1 l2 (k+1) fun y hy=>h y (List.mem_cons_of_mem _ hy)]
  grind
theorem U3{v:Int→Option Nd}{h lo hi:Nat} : ∀{ks:List Kd}{ls:List (List Av)}(l1 l2:List Av)(k0:Nat),F2 (Sub v h lo hi) ks ls→ls.flatten=l1++l2→Aa l1<Aa ls.flatten→
 ∃(k:Nat)(r:Int)(z:Kd)(m1 b:List Av),Jh ks (Aa l1) k0=some (k0+k,r)∧ks[k]?=some z∧ls[k]?=some (m1++b)∧Sub v h lo hi z (m1++b)∧r=Aa m1∧l1=(ls.take k).flatten++m1∧l2=b++(ls.drop (k+1)).flatten∧b≠ []∧k<ks.length
 | [],[],l1,l2,k0,_,e,d=>by simp_all
 | k :: ks, l :: ls, l1, l2, k0, i, e, d => by
  have c:=i.1.BU
  have a: ∀x∈l++ls.flatten,Ah x=true:=by
   have:=(Md (fun k l x=>Sub.BU x) i).2.2.1
   simp_all
  rw[List.flatten_cons] at e d
  unfold Jh
  rw[c.bytes]
  by_cases m:Aa l≤Aa l1
  · obtain ⟨f,g,j⟩:=Ia e a m
    rw[if_pos m]
    subst g
    rw[Ao,show Aa l+Aa f-Aa l=Aa f by omega]
    rw[Ao,Ao] at d
    obtain ⟨y,r,z,m1,b,n,o,p,q,s,t,u,w,B⟩:=U3 f l2 (k0+1) i.2 j (by omega)
    refine ⟨y+1,r,z,m1,b,by rw[n];congr 2;omega,by simpa using o,by simpa using p,q,s,by simp[t],by simpa using u,w,by simp;omega⟩
  rw[if_neg m]
  obtain ⟨b,g,j⟩:=Ia e.symm (by rw[←e];exact a) (by omega)
  refine ⟨0,Aa l1,k,l1,b,rfl,rfl,by simp[g],by rw[←g];exact i.1,rfl,by simp,by simpa using j,?_,by simp⟩
  grind
 | [],_::_,_,_,_,h,_,_=>h.elim
 |_::_,[],_,_,_,h,_,_=>h.elim
include hX in
theorem Ka{l:List Av}{s:σ}(n:X.inv s)(j:Fit l):Step X s 0 (2*l.length) (Cs X.wt l) (fun x s'=>Tl (X.V s') x l∧(l.length≤12→x.Al≤0)):=by
 unfold Cs
 have q:PR (X.V s) 0 ⟨true,l,[]⟩ (l.map fun e=> [e]):=⟨rfl,rfl⟩
 have b:=Ij hX n q (by rw[Hm];exact j) (fun c=>by omega)
 have hm:many ⟨true,l,[]⟩=l.length:=by simp[many]
 have hp:Ba ⟨true,l,[]⟩=(l.length+11)/12:=by unfold Ba;rw[hm]
 rw[hp,hm] at b
 refine (Step.bind (R2:=0) (W2:=(l.length+11)/12) b ?_).mono (by omega) (by omega) fun _ _ _ _ x=>x
 rintro ks s1 i p ⟨d,a,f,g⟩
 rw[Hm] at f
 have := Jy hX ks.length (ks := ks) (ls := d) (h := 0) (s := s1) (by omega) i (by
  rw[g]
  by_cases h1:(l.length+11)/12≤1
  ·rw[if_pos h1,if_pos h1] at a
   rw[if_pos h1]
   by_cases h0:l.length=0
   ·have:ks= []:=List.eq_nil_of_length_eq_zero (by omega)
    subst this
    have:d= []:=List.eq_nil_of_length_eq_zero (by rw[←a.len];rfl)
    subst this
    exact trivial
   exact a.mono fun _ _ x=>x.wide (by omega) (by omega)
  rw[if_neg h1,if_neg h1] at a
  rw[if_neg h1]
  exact a) (by rw[f];exact j)
 rw[g,f] at this
 unfold grown
 rw[g]
 refine this.mono (by omega) (by omega) ?_
 rintro x s2 o k ⟨r,t,u⟩
 exact ⟨r,fun m=>by have:=t (by omega);simpa using this⟩
include hX in
theorem Oj{ks:List Kd}{ls:List (List Av)}{h:Nat}{s:σ}(f:X.inv s)(a:F2 (Sub (X.V s) h 4 12) ks ls)(i:Fit ls.flatten)(hl:ks.length≤12):
 Step X s 0 12 (Ei X.wt ks ((h+1:Nat):Int)) (fun x s'=>Tl (X.V s') x ls.flatten∧x.Al≤((h+1:Nat):Int)∧(x.Al=((h+1:Nat):Int)→Sub (X.V s') (h+1) 1 ks.length x.ER ls.flatten)):=by
 unfold Ei grown
 have e:((h+1:Nat):Int)-1=(h:Int):=by omega
 rw[e]
 have:=Jy hX ks.length (ks:=ks) (ls:=ls) (h:=h) (s:=s) (by omega) f (by
  split; · exact a.mono fun _ _ x=>x.wide (by omega) (by omega)
  ·exact a) i
 refine this.mono (by omega) (by omega) ?_
 rintro x s2 g b ⟨j,c,d⟩
 refine ⟨j,?_,?_⟩
 ·by_cases h1:ks.length≤1
  ·have:=c h1;omega
  have:=(d (by omega) hl).1;omega
 intro hx
 by_cases h1:ks.length≤1
 ·have:=c h1;omega
 exact (d (by omega) hl).2
include hX in
theorem ME : ∀(f : Nat){x : BK}{h : Nat}{l1 l2 : List Av}{s : σ}, h < f → X.inv s → Tl (X.V s) x (l1 ++ l2) → x.Al ≤ h →
 Step X s (1+h*(h+6)) (48*(h+1)) (Bq X.rd X.wt f x (Aa l1)) (fun p s'=>Tl (X.V s') p.1 l1∧Tl (X.V s') p.2 l2∧p.1.Al≤h∧p.2.Al≤h)
 |0,x,h,l1,l2,s,hf,H,P,hh=>absurd hf (by omega)
 | f + 1, x, h, l1, l2, s, hf, H, P, hh => by
  unfold Bq
  have c:Fit (l1++l2):=by
   rcases P with ⟨-,e⟩|⟨k,e,G⟩
   · rw[e];exact Fit.nil
   exact G.BU.fit
  have ao:=Bo c.left.1
  have ap:=Bo c.right.1
  have K:C0.Al≤(h:Int):=by simp only[C0];omega
  by_cases h1:Aa l1≤0
  · rw[if_pos h1]
    have:l1= []:=List.eq_nil_of_length_eq_zero (by omega)
    subst this
    exact Step.ret H ⟨.inl ⟨rfl,rfl⟩,P,K,hh⟩
  rw[if_neg h1]
  rcases P with ⟨e0,e⟩|⟨k,ek,G⟩
  · have:l1= []:=(List.append_eq_nil_iff.1 e).1
    subst this
    simp[Aa] at h1
  have u:=G.BU
  rw[u.bytes,Ao]
  by_cases h2:Aa l1+Aa l2≤Aa l1
  · rw[if_pos h2]
    have:l2= []:=List.eq_nil_of_length_eq_zero (by omega)
    subst this
    exact Step.ret H ⟨.inr ⟨k,ek,by simpa using G⟩,.inl ⟨rfl,rfl⟩,hh,K⟩
  rw[if_neg h2]
  have ar:k≤h:=by omega
  cases k with
  | zero =>
    obtain ⟨c1,c2,c3,c4,c5⟩:=G
    refine (Step.bind (R2:=0) (W2:=2*l1.length+(2*l2.length+0)) (hX.rd s _ _ H c1) ?_).mono (by omega) (by rw[List.length_append] at c4;omega) fun _ _ _ _ x=>x
    rintro y s1 m v rfl
    simp only[if_true]
    rw[U2 l1 l2 0 c.left.1]
    simp only[Nat.zero_add]
    rw[List.take_left,List.drop_left]
    refine Step.bind (R1:=0) (R2:=0) (Ka hX m c.left) ?_
    rintro a s2 j g ⟨w,L⟩
    refine Step.bind (R1:=0) (R2:=0) (Ka hX j c.right) ?_
    rintro b s3 l d ⟨B,b2⟩
    rw[List.length_append] at c4
    have L:=L (by omega)
    have b2:=b2 (by omega)
    exact Step.ret l ⟨w.le d,B,by simp only;omega,by simp only;omega⟩
  | succ k =>
    obtain ⟨ks,ls,c1,c2,c3,c4,c5,c6,c7,c8,c9⟩:=G
    have au:=c4
    obtain ⟨h,rfl⟩: ∃h',h=h'+1:=⟨h-1,by omega⟩
    have hR:1+(h+1)*(h+1+6)=1+(1+h*(h+6)+(0+(h+3+(0+(h+3+0))))):=by
     rw[Nat.add_mul,Nat.mul_add h,Nat.mul_add h,Nat.one_mul,Nat.mul_add h]
     omega
    rw[hR]
    refine (Step.bind (R2:=1+h*(h+6)+(0+(h+3+(0+(h+3+0))))) (W2:=48*(h+1)+(12+(12+(12+(12+0))))) (hX.rd s _ _ H c1) ?_).mono (by omega) (by omega) fun _ _ _ _ x=>x
    rintro y s1 m v rfl
    simp only[Bool.false_eq_true,if_false]
    obtain ⟨i,r,z,m1,m2,d1,d2,d3,d4,d5,D,O,d8,d9⟩:=U3 l1 l2 0 c8 c9.symm (by rw[←c9,Ao];omega)
    rw[d1]
    simp only[Nat.zero_add]
    have t:=c8.mono fun _ _ x=>x.le v
    have Y:=d4.BU.fit
    have hT:=ek.symm
    rw[←hT]
    by_cases hr:r=0
    · rw[if_pos hr]
      have aq:=Bo Y.left.1
      have:m1= []:=List.eq_nil_of_length_eq_zero (by omega)
      subst this
      have hd:(ls.drop i).flatten=l2:=by
       have:ls.drop i=m2::ls.drop (i+1):=by
        rw[List.drop_eq_getElem_cons (by have:=c8.len;omega)]
        have:=List.getElem?_eq_some_iff.1 d3
        obtain ⟨_,e⟩:=this
        rw[e]
        simp
       rw[this,O]
       simp
      rw[List.append_nil] at D
      refine (Step.bind (R1:=0) (R2:=0) (W1:=12) (W2:=12+0) (Oj hX m (t.take i) (by rw[←D];exact c.left) (by rw[List.length_take];omega)) ?_).mono (by omega) (by omega) fun _ _ _ _ x=>x
      rintro a s2 j g ⟨w,L,a3⟩
      refine Step.bind (R1:=0) (R2:=0) (Oj hX j ((t.drop i).mono fun _ _ x=>x.le g) (by rw[hd];exact c.right) (by rw[List.length_drop];omega)) ?_
      rintro b s3 l d ⟨B,b2,b3⟩
      rw[←D] at w
      rw[hd] at B
      exact Step.ret l ⟨w.le d,B,by simp only;omega,by simp only;omega⟩
    rw[if_neg hr,d2]
    simp only
    rw[d5]
    have e1:((k+1:Nat):Int)-1=(k:Int):=by omega
    rw[e1]
    have ih:=ME f (x:=⟨z,(k:Int)⟩) (h:=h) (l1:=m1) (l2:=m2) (s:=s1) (by omega) m (.inr ⟨k,rfl,(d4.le v).wide (by omega) (by omega)⟩) (by simp only;omega)
    refine Step.bind ih ?_
    rintro ⟨p1,p2⟩ s2 j g ⟨t1,t2,t3,t4⟩
    simp only at t1 t2 t3 t4
    have n:=t.mono fun _ _ x=>x.le g
    have I:Fit (ls.take i).flatten:=by have:=c.left;rw[D] at this;exact this.left
    have Z:Fit (ls.drop (i+1)).flatten:=by have:=c.right;rw[O] at this;exact this.right
    refine (Step.bind (R1:=0) (W1:=12) (R2:=h+3+(0+(h+3+0))) (W2:=12+(12+(12+0))) (Oj hX j (n.take i) I (by rw[List.length_take];omega)) ?_).mono (by omega) (by omega) fun _ _ _ _ x=>x
    rintro a s3 l d ⟨w,L,a3⟩
    refine Step.bind (R1:=h+3) (W1:=12) (R2:=0+(h+3+0)) (W2:=12+(12+0)) ((MH hX l w (t1.le d) (by rw[←D];exact c.left)).mono (by unfold l8;omega) (by omega) fun _ _ _ _ x=>x) ?_
    rintro a' s4 T o ⟨u1,u2,u3⟩
    have u4:=u3 (h+1) (.inl ⟨by omega,by omega,fun e=>by
     have:k=h:=by omega
     subst this
     exact (a3 e).wide (by omega) (by rw[List.length_take];omega)⟩)
    have Q:=(n.mono fun _ _ x=>x.le d).mono fun _ _ x=>x.le o
    refine Step.bind (R1:=0) (W1:=12) (R2:=h+3+0) (W2:=12+0) (Oj hX T (Q.drop (i+1)) Z (by rw[List.length_drop];omega)) ?_
    rintro b s5 U q ⟨B,b2,b3⟩
    refine Step.bind (R1:=h+3) (R2:=0) (W1:=12) (W2:=0) ((MH hX U (((t2.le d).le o).le q) B (by rw[←O];exact c.right)).mono (by unfold l8;omega) (by omega) fun _ _ _ _ x=>x) ?_
    rintro b' s6 W J ⟨w1,w2,w3⟩
    have w4:=w3 (h+1) (.inr ⟨by omega,by omega,fun e=>by
     have:k=h:=by omega
     subst this
     exact (b3 e).wide (by omega) (by rw[List.length_drop];omega)⟩)
    rw[←D] at u1
    rw[←O] at w1
    exact Step.ret W ⟨(u1.le q).le J,w1,u4,w4⟩
def Rt(v:Int→Option Nd)(root:Int)(l:List Av):Prop:=(root=0∧l= [])∨ ∃(h:Nat)(k:Kd),k.Au=root∧Sub v h 1 12 k l
theorem Rt.le{v v':Int→Option Nd}(b:Le v v'){r:Int}{l:List Av}(h:Rt v r l):Rt v' r l:=by
 rcases h with h|⟨h,k,h1,a⟩
 ·exact .inl h
 exact .inr ⟨h,k,h1,a.le b⟩
theorem Tl.root{v:Int→Option Nd}{x:BK}{l:List Av}(h:Tl v x l):Rt v x.ER.Au l:=by
 rcases h with ⟨rfl,rfl⟩|⟨h,h1,a⟩
 ·exact .inl ⟨rfl,rfl⟩
 exact .inr ⟨h,_,rfl,a⟩
theorem Rt.fit{v:Int→Option Nd}{r:Int}{l:List Av}(h:Rt v r l):Fit l:=by
 rcases h with ⟨_,rfl⟩|⟨h,k,h1,a⟩
 ·exact Fit.nil
 exact a.BU.fit
theorem l9{v:Int→Option Nd}{h:Nat}{n:Nd}{ls:List (List Av)}(a:PR v h n ls):n.leaf=decide (h=0):=by cases h with
 |zero=>obtain ⟨e,-⟩:=a;rw[e];rfl
 |succ h=>obtain ⟨e,-⟩:=a;rw[e];rfl
include hX in
theorem N1: ∀(f:Nat){h:Nat}{n:Nd}{ls:List (List Av)}{s:σ}(a:Int),h≤f→X.inv s→PR (X.V s) h n ls→may n=true→Step X s h 0 (C6 X.rd f n a) (fun r s'=>r=a+h)
 | f, 0, n, ls, s, a, i, c, b, hm => by
  unfold C6
  rw[l9 b]
  simp only[decide_true,if_true]
  exact Step.ret c (by omega)
 |0,h+1,n,ls,s,a,i,c,b,hm=>absurd i (by omega)
 | f + 1, h + 1, n, ls, s, a, i, c, b, hm => by
  unfold C6
  rw[l9 b]
  simp only[Nat.add_one_ne_zero,decide_false,Bool.false_eq_true,if_false]
  obtain ⟨e,d⟩:=b
  obtain ⟨lf,es,ks⟩:=n
  simp only at e d
  cases e
  obtain ⟨m1,y,m3,z,B,D⟩:=B7 hm rfl
  simp only at m3
  cases ks with
  |nil=>simp at m3
  | cons k ks =>
   cases ls with
   |nil=>exact d.elim
   | cons l ls =>
    obtain ⟨o,H⟩:=d
    rw[GO] at o
    obtain ⟨G,v,p,q,t,w⟩:=o
    simp only
    refine (Step.bind (R2:=h) (W2:=0) (hX.rd s _ _ c p) ?_).mono (by omega) (by omega) fun _ _ _ _ x=>x
    rintro x s1 g j rfl
    refine (N1 f (h:=h) (a+1) (by omega) g (q.le j) t).mono (by omega) (by omega) ?_
    rintro r s2 u m rfl
    omega
include hX in
theorem MN{root:Int}{l:List Av}{s:σ}(f:X.inv s)(hr:Rt (X.V s) root l)(L:Nat)(p: ∀h:Nat,2*4^h≤l.length→h≤L):Step X s (L+1) 0 (EB X.rd root) (fun x s'=>Tl (X.V s') x l∧x.Al≤L):=by
 unfold EB
 rcases hr with ⟨rfl,rfl⟩|⟨h,k,rfl,hs⟩
 · rw[if_pos rfl]
   exact Step.ret f ⟨.inl ⟨rfl,rfl⟩,by simp only[C0];omega⟩
 have g:=hs.low
 have y:h≤L:=by
  by_cases h0:0<h
  · exact p h (hs.two h0)
  omega
 have e:=hs
 rw[GO] at hs
 obtain ⟨n,ls,i,j,m,q,t,o,u,v,w⟩:=hs
 rw[if_neg (by omega)]
 refine (Step.bind (R2:=h+0) (W2:=0) (hX.rd s _ _ f i) ?_).mono (by omega) (by omega) fun _ _ _ _ x=>x
 rintro x s1 c a rfl
 refine Step.bind (R2:=0) (W2:=0) (N1 hX 20 (h:=h) 0 (by omega) c (j.le a) m) ?_
 rintro r s2 d b rfl
 refine Step.ret d ⟨.inr ⟨h,by simp,?_⟩,by simp only;omega⟩
 simp only
 rw[←o]
 exact (e.le a).le b
theorem XD: ∀(l1:List Av)(x:Av)(l2:List Av)(p a:Int),(∀y∈l1,Ah y=true)→a+Aa l1≤p→p<a+Aa l1+x.len→M4 (l1++x::l2) p a= .inl (.here x (a+Aa l1))
 | [],x,l2,p,a,_,h1,b=>by
  simp only[Aa,List.map_nil,List.sum_nil,Int.add_zero] at h1 b
  simp[M4,b,Aa]
 | y :: l1, x, l2, p, a, hm, h1, b => by
   rw[Bt] at h1 b
   have d:=Bo (l:=l1) fun z c=>hm z (List.mem_cons_of_mem _ c)
   rw[List.cons_append]
   unfold M4
   rw[if_neg (by omega),XD l1 x l2 p (a+y.len) (fun z c=>hm z (List.mem_cons_of_mem _ c)) (by omega) (by omega),Bt]
   congr 2
   omega
theorem XE{v:Int→Option Nd}{h lo hi:Nat} : ∀{ks:List Kd}{ls:List (List Av)}(p a:Int),F2 (Sub v h lo hi) ks ls→a≤p→p<a+Aa ls.flatten→
 ∃(z:Kd)(b c g:List Av),OG ks p a= .below z.Au (a+Aa b)∧Sub v h lo hi z c∧ls.flatten=b++(c++g)∧a+Aa b≤p∧p<a+Aa b+Aa c
 | [],[],p,a,_,h1,d=>by
  simp[Aa] at d
  omega
 | k :: ks, l :: ls, p, a, f, h1, d => by
   rw[List.flatten_cons,Ao] at d
   unfold OG
   rw[f.1.BU.bytes]
   by_cases e:p<a+Aa l
   ·rw[if_pos e]
    exact ⟨k,[],l,ls.flatten,by simp[Aa],f.1,by simp,by simp[Aa];omega,by simp[Aa] at e⊢;omega⟩
   rw[if_neg e]
   obtain ⟨z,b,c,g,i,j,m,n,o⟩:=XE p (a+Aa l) f.2 (by omega) (by omega)
   exact ⟨z,l++b,c,g,by rw[i,Ao];congr 1;omega,j,by rw[List.flatten_cons,m,List.append_assoc],by rw[Ao];omega,by rw[Ao];omega⟩
 | [],_::_,_,_,h,_,_=>h.elim
 |_::_,[],_,_,h,_,_=>h.elim
theorem Tj: ∀(l:List Av)(p:Int),(∀y∈l,Ah y=true)→0≤p→p<Aa l→ ∃l1 x l2,l=l1++x::l2∧Aa l1≤p∧p<Aa l1+x.len
 | [],p,_,h1,a=>by simp[Aa] at a;omega
 | y :: l, p, hm, h1, a => by
  rw[Bt] at a
  by_cases f:p<y.len
  ·exact ⟨[],y,l,rfl,by simp[Aa];omega,by simp[Aa];omega⟩
  obtain ⟨l1,x,l2,e,c,d⟩:=Tj l (p-y.len) (fun z b=>hm z (List.mem_cons_of_mem _ b)) (by omega) (by omega)
  exact ⟨y::l1,x,l2,by rw[e];rfl,by rw[Bt];omega,by rw[Bt];omega⟩
include hX in
theorem Rx: ∀(f:Nat){h:Nat}{n:Nd}{ls:List (List Av)}{s:σ}(p a:Int),h<f→X.inv s→PR (X.V s) h n ls→Fit ls.flatten→a≤p→p<a+Aa ls.flatten→
 Step X s h 0 (Fs X.rd f n p a) (fun r s'=> ∃l1 l2,ls.flatten=l1++r.1::l2∧r.2=a+Aa l1∧a+Aa l1≤p∧p<a+Aa l1+r.1.len)
 |0,h,n,ls,s,p,a,l,_,_,_,_,_=>absurd l (by omega)
 | f + 1, 0, n, ls, s, p, a, l, j, o, b, h1, i => by
  obtain ⟨e,rfl⟩:=o
  rw[Hm] at b i⊢
  obtain ⟨l1,x,l2,c,g,d⟩:=Tj n.Ag (p-a) b.1 (by omega) (by omega)
  unfold Fs YI
  rw[c,XD l1 x l2 p a (fun y hy=>b.1 y (by rw[c];simp[hy])) (by omega) (by omega)]
  exact Step.ret j ⟨l1,l2,rfl,rfl,by omega,by simp only;omega⟩
 | f + 1, h + 1, n, ls, s, p, a, l, j, o, b, h1, i => by
  obtain ⟨e,H⟩:=o
  obtain ⟨z,t,O,K,c,g,d,D,G⟩:=XE p a H h1 i
  have J:YI n p a= .below z.Au (a+Aa t):=by
   unfold YI
   rw[e]
   simp only[M4]
   exact c
  unfold Fs
  rw[J]
  simp only
  rw[GO] at g
  obtain ⟨Z,L,w,b2,P,Q,T,U,W,Y,B⟩:=g
  refine (Step.bind (R2:=h) (W2:=0) (hX.rd s _ _ j w) ?_).mono (by omega) (by omega) fun _ _ _ _ x=>x
  rintro x s1 k m rfl
  have u:Fit O:=by rw[d] at b;exact b.eT
  rw[B] at u G d
  refine (Rx f (h:=h) p (a+Aa t) (by omega) k (b2.le m) u D (by omega)).mono (by omega) (by omega) ?_
  rintro ⟨y,q⟩ s2 I v ⟨l1,l2,c1,c2,c3,c4⟩
  simp only at c1 c2 c3 c4⊢
  exact ⟨t++l1,l2++K,by rw[d,c1];simp,by rw[Ao];omega,by rw[Ao];omega,by rw[Ao];omega⟩
include hX in
theorem Yh{root:Int}{l:List Av}{s:σ}(j:X.inv s)(hr:Rt (X.V s) root l)(L:Nat)(o: ∀h:Nat,2*4^h≤l.length→h≤L)(p:Int)(h1:0≤p)(i:p<Aa l):
 Step X s (L+1) 0 (K5 X.rd root p) (fun r s'=> ∃l1 l2,l=l1++r.1::l2∧r.2=Aa l1∧Aa l1≤p∧p<Aa l1+r.1.len):=by
 unfold K5
 rcases hr with ⟨rfl,rfl⟩|⟨h,k,rfl,hs⟩
 · simp[Aa] at i
   omega
 have e:=hs.low
 have D:h≤L:=by
  by_cases h0:0<h
  · exact o h (hs.two h0)
  omega
 have c:=hs.BU.fit
 rw[GO] at hs
 obtain ⟨n,ls,f,g,t,u,v,w,z,B,rfl⟩:=hs
 refine (Step.bind (R2:=h) (W2:=0) (hX.rd s _ _ j f) ?_).mono (by omega) (by omega) fun _ _ _ _ x=>x
 rintro x s1 a b rfl
 refine (Rx hX 22 (h:=h) p 0 (by omega) a (g.le b) c h1 (by omega)).mono (by omega) (by omega) ?_
 rintro ⟨y,q⟩ s2 m d ⟨l1,l2,c1,c2,c3,c4⟩
 simp only at c1 c2 c3 c4⊢
 exact ⟨l1,l2,c1,by omega,by omega,by omega⟩
theorem UK: ∀(l1 l2:List Av)(r:Int),(∀y∈l1++l2,Ah y=true)→CQ (l1++l2) (Aa l1) r=(-Aa l2,r+l1.length)
 | [], l2, r, hm => by
  have key: ∀(l:List Av)(n:Int),n≤0→(∀y∈l,Ah y=true)→CQ l n r=(n-Aa l,r):=by
   intro l
   induction l with
   |nil=>intro n _ _;simp[CQ,Aa]
   | cons y l b =>
    intro n d hm
    have:=Ec (hm y List.mem_cons_self)
    unfold CQ
    rw[if_neg (by omega),b (n-y.len) (by omega) fun z a=>hm z (List.mem_cons_of_mem _ a),Bt]
    congr 1
    omega
  rw[List.nil_append,key l2 _ (by simp[Aa]) (by simpa using hm)]
  simp[Aa]
 | y :: l1, l2, r, hm => by
   have h1:=Ec (hm y (by simp))
   have c:=Bo (l:=l1) fun z a=>hm z (by simp[a])
   rw[List.cons_append]
   unfold CQ
   rw[Bt,if_pos (by omega),show y.len+Aa l1-y.len=Aa l1 by omega,UK l1 l2 (r+1) fun z a=>hm z (by simp at a⊢;exact .inr a)]
   congr 1
   simp
   omega
theorem UL{v:Int→Option Nd}{h lo hi:Nat} : ∀{ks:List Kd}{ls:List (List Av)}(l1 l2:List Av)(r0:Int),F2 (Sub v h lo hi) ks ls→ls.flatten=l1++l2→Aa l1<Aa ls.flatten→
 ∃(z:Kd)(i m1 f:List Av),GM ks (Aa l1) r0= .inl (z,Aa m1,r0+i.length)∧Sub v h lo hi z (m1++f)∧l1=i++m1
 | [],[],l1,l2,r0,_,e,b=>by
  have:=List.append_eq_nil_iff.1 e.symm
  rw[this.1] at b
  simp[Aa] at b
 | k :: ks, l :: ls, l1, l2, r0, g, e, b => by
   have a:=g.1.BU
   have c: ∀x∈l++ls.flatten,Ah x=true:=by
    have:=(Md (fun k l x=>Sub.BU x) g).2.2.1
    simpa using this
   rw[List.flatten_cons] at e b
   unfold GM
   rw[a.bytes]
   by_cases q:Aa l≤Aa l1
   · obtain ⟨d,j,m⟩:=Ia e c q
     rw[if_neg (by omega)]
     subst j
     rw[Ao,show Aa l+Aa d-Aa l=Aa d by omega]
     rw[Ao,Ao] at b
     obtain ⟨z,i,m1,f,n,o,p⟩:=UL d l2 (r0+k.AA) g.2 m (by omega)
     refine ⟨z,l++i,m1,f,?_,o,by rw[p,List.append_assoc]⟩
     rw[n,a.AA]
     simp
     omega
   rw[if_pos (by omega)]
   obtain ⟨f,j,m⟩:=Ia e.symm (by rw[←e];exact c) (by omega)
   exact ⟨k,[],l1,f,by simp,by rw[←j];exact g.1,by simp⟩
 | [],_::_,_,_,_,h,_,_=>h.elim
 |_::_,[],_,_,_,h,_,_=>h.elim
include hX in
theorem IJ: ∀(f:Nat){x:BK}{h:Nat}{l1 l2:List Av}{s:σ},h<f→X.inv s→Tl (X.V s) x (l1++l2)→x.Al≤h→Step X s (h+1) 0 (CR X.rd f x (Aa l1)) (fun r s'=>r=l1.length)
 |0,x,h,l1,l2,s,n,d,l,B=>absurd n (by omega)
 | f + 1, x, h, l1, l2, s, n, d, l, B => by
  unfold CR
  have b:Fit (l1++l2):=by
   rcases l with ⟨-,e⟩|⟨k,e,i⟩
   · rw[e];exact Fit.nil
   exact i.BU.fit
  have v:=Bo b.left.1
  have w:=Bo b.right.1
  by_cases h1:Aa l1≤0
  · rw[if_pos (.inl h1)]
    have:l1= []:=List.eq_nil_of_length_eq_zero (by omega)
    subst this
    exact Step.ret d (by simp)
  rcases l with ⟨e0,e⟩|⟨k,G,i⟩
  · have:l1= []:=(List.append_eq_nil_iff.1 e).1
    subst this
    simp[Aa] at h1
  rw[if_neg (by omega)]
  have a:=i.BU
  rw[a.bytes,Ao]
  by_cases m:Aa l1+Aa l2≤Aa l1
  · rw[if_pos m]
    have:l2= []:=List.eq_nil_of_length_eq_zero (by omega)
    subst this
    exact Step.ret d (by rw[a.AA];simp)
  rw[if_neg m]
  cases k with
  | zero =>
    obtain ⟨c1,c2,c3,c4,c5⟩:=i
    refine (Step.bind (R2:=0) (W2:=0) (hX.rd s _ _ d c1) ?_).mono (by omega) (by omega) fun _ _ _ _ x=>x
    rintro y s1 c g rfl
    simp only
    rw[UK l1 l2 0 b.1]
    simp only[GM]
    exact Step.ret c (by omega)
  | succ k =>
    obtain ⟨ks,ls,c1,c2,c3,c4,c5,c6,c7,c8,c9⟩:=i
    obtain ⟨h,rfl⟩: ∃u,h=u+1:=⟨h-1,by omega⟩
    refine (Step.bind (R2:=h+1+0) (W2:=0) (hX.rd s _ _ d c1) ?_).mono (by omega) (by omega) fun _ _ _ _ x=>x
    rintro y s1 c g rfl
    simp only[CQ]
    obtain ⟨z,H,m1,D,p,q,t⟩:=UL l1 l2 0 c8 c9.symm (by rw[←c9,Ao];omega)
    rw[p]
    simp only
    refine Step.bind (R2:=0) (W2:=0) (IJ f (x:=⟨z,x.Al-1⟩) (h:=h) (l1:=m1) (l2:=D) (s:=s1) (by omega) c (.inr ⟨k,by simp only;omega,(q.le g).wide (by omega) (by omega)⟩) (by simp only;omega)) ?_
    rintro r s2 j o rfl
    exact Step.ret j (by rw[t];simp)
include hX in
theorem fS{root:Int}{l:List Av}{s:σ}(c:X.inv s)(hr:Rt (X.V s) root l):Step X s 1 0 (FB X.rd root) (fun r s'=>r=Aa l):=by
 unfold FB
 rcases hr with ⟨rfl,rfl⟩|⟨h,k,rfl,hs⟩
 ·rw[if_pos rfl]
  exact Step.ret c rfl
 have b:=hs.BU
 rw[GO] at hs
 obtain ⟨n,ls,d,g,i,j,m,e,o,p,q⟩:=hs
 rw[if_neg (by omega)]
 refine (Step.bind (R2:=0) (W2:=0) (hX.rd s _ _ c d) ?_).mono (by omega) (by omega) fun _ _ _ _ x=>x
 rintro x s1 a f rfl
 refine Step.ret a ?_
 rw[←b.bytes,e]
 rfl
end
def AL:List Av→Prop
 |a::b::l=>meets a b=false∧AL (b::l)
 |_=>True
theorem AL.tail{a:Av}{l:List Av}(h:AL (a::l)):AL l:=by cases l with
 |nil=>trivial
 |cons b l=>exact h.2
theorem Nl{o:List Av}(b:Av)(h:o.getLast?=none):A8 o b=o++ [b]:=by
 unfold A8
 simp_all
theorem OM{o:List Av}{a b:Av}(h:o.getLast?=some a)(hm:meets a b=false):A8 o b=o++ [b]:=by simp[A8,h,hm]
theorem YN(o:List Av)(x:Av):A8 o x≠ []:=by
 unfold A8
 cases o.getLast? with
 |none=>simp
 |some a=>simp only;split<;>simp
theorem Wf(A o:List Av)(x:Av)(b:o≠ []):A8 (A++o) x=A++A8 o x:=by
 unfold A8
 cases h:o.getLast? with
 |none=>exact absurd (List.getLast?_eq_none_iff.1 h) b
 |some a=>grind
theorem Lw(A:List Av): ∀(l o:List Av),o≠ []→l.foldl A8 (A++o)=A++l.foldl A8 o
 | [],o,_=>rfl
 |x::l,o,h=>by rw[List.foldl_cons,List.foldl_cons,Wf A o x h,Lw A l _ (YN o x)]
theorem join_cons(x:Av)(l:List Av):join (x::l)=l.foldl A8 [x]:=rfl
theorem GC: ∀{l:List Av},AL l→join l=l
 | [],_=>rfl
 | [a],_=>rfl
 | a :: b :: l, h => by
  have c:=GC (l:=b::l) h.2
  rw[join_cons] at c⊢
  rw[List.foldl_cons]
  have e:A8 [a] b= [a]++ [b]:=by simp[A8,h.1]
  rw[e,Lw [a] l [b] (by simp),c]
  rfl
theorem n0{A M:List Av}(c:AL A){m:Av}{M':List Av}(d:M=m::M')(h: ∀a,A.getLast?=some a→meets a m=false):join (A++M)=A++join M:=by
 subst d
 unfold join
 rw[List.foldl_append]
 have e:=GC c
 unfold join at e
 rw[e,List.foldl_cons,List.foldl_cons]
 have b:A8 A m=A++ [m]:=by cases hl:A.getLast? with
  |none=>exact Nl m hl
  |some a=>exact OM hl (h a hl)
 rw[b,Lw A M' [m] (by simp)]
 rfl
theorem YO{M B:List Av}(e:AL B)(h: ∀a b c,(join M).getLast?=some a→B=b::c→meets a b=false):join (M++B)=join M++B:=by
 unfold join
 rw[List.foldl_append]
 cases B with
 |nil=>simp
 | cons b B =>
  rw[List.foldl_cons]
  have d:A8 (M.foldl A8 []) b=M.foldl A8 []++ [b]:=by cases hl:(M.foldl A8 []).getLast? with
   |none=>exact Nl b hl
   |some a=>exact OM hl (h a b B hl rfl)
  rw[d,Lw _ B [b] (by simp)]
  have:=GC e
  rw[join_cons] at this
  simp_all
theorem TJ(o:List Av)(z:Av): ∃e,(A8 o z).getLast?=some e∧e.src=z.src∧e.pos+e.len=z.pos+z.len:=by
 unfold A8
 cases hl:o.getLast? with
 |none=>exact ⟨z,by simp,rfl,rfl⟩
 | some a =>
  simp only
  split
  ·rename_i hm
   unfold meets at hm
   grind [glue]
  simp
theorem YP(M:List Av)(z:Av): ∃e,(join (M++ [z])).getLast?=some e∧e.src=z.src∧e.pos+e.len=z.pos+z.len:=by
 unfold join
 rw[List.foldl_append]
 exact TJ _ z
theorem Pe{a a' b b':Av}(h1:a.src=a'.src)(c:a.pos+a.len=a'.pos+a'.len)(d:b.src=b'.src)(e:b.pos=b'.pos):meets a b=meets a' b':=by simp[meets,h1,c,d,e]
theorem AL.left: ∀{a b:List Av},AL (a++b)→AL a
 | [],b,_=>trivial
 | [x],b,_=>trivial
 |x::y::a,b,h=>⟨h.1,AL.left (a:=y::a) (b:=b) h.2⟩
theorem AL.right: ∀{a b:List Av},AL (a++b)→AL b
 | [],b,h=>h
 |x::a,b,h=>AL.right (a:=a) (AL.tail h)
theorem AL.meet: ∀{A:List Av}{a b:Av}{B:List Av},AL (A++b::B)→A.getLast?=some a→meets a b=false
 | [],a,b,B,h,e=>by cases e
 | [x],a,b,B,h,e=>by
  simp at e
  subst e
  exact h.1
 |x::y::A,a,b,B,h,e=>AL.meet (A:=y::A) h.2 (by simpa using e)
theorem Gf: ∀{A B:List Av},AL A→AL B→(∀a b d,A.getLast?=some a→B=b::d→meets a b=false)→AL (A++B)
 | [],B,_,c,_=>c
 | [x],[],_,_,_=>trivial
 | [x],b::B,_,c,h=>⟨h x b B rfl rfl,c⟩
 |x::y::A,B,e,c,h=>⟨e.1,Gf (A:=y::A) e.2 c fun a b d f g=>h a b d (by simpa using f) g⟩
theorem Nj: ∀(l o:List Av),AL o→AL (l.foldl A8 o)
 | [],o,h=>h
 | x :: l, o, h => by
  refine Nj l _ ?_
  unfold A8
  cases hl:o.getLast? with
  |none=>trivial
  | some a =>
   simp only
   obtain ⟨o',rfl⟩:=List.getLast?_eq_some_iff.1 hl
   split
   ·rw[List.dropLast_concat]
    refine Gf h.left trivial fun c b f e d=>?_
    cases d
    exact (Pe (a:=c) (b:=glue a x) (a':=c) (b':=a) rfl rfl rfl rfl).trans (AL.meet h e)
   rename_i hm
   refine Gf h trivial fun c b f e d=>?_
   cases d
   simp_all
theorem TK(l:List Av):AL (join l):=Nj l [] trivial
theorem Cb{x:Av} :Ah x=true↔((x.src=0∨x.src=1)∧0≤x.pos∧x.pos≤16777216∧1≤x.len∧x.len≤16777216-x.pos∧x.len≤1048576∧(-1≤x.lines∧x.lines≤x.len)∧(x.src=1∨x.lines= -1)):=by simp[Ah]
theorem l7{a x:Av}(ha:Ah a=true)(hx:Ah x=true)(hm:meets a x=true)(hl:a.len+x.len≤1048576):Ah (glue a x)=true:=by
 rw[Cb] at ha hx⊢
 unfold meets at hm
 grind [glue]
theorem T8: ∀(l o:List Av),(∀x∈o,Ah x=true)→(∀x∈l,Ah x=true)→Aa o+Aa l≤1048576→ ∀x∈l.foldl A8 o,Ah x=true
 | [],o,h,_,_=>h
 | y :: l, o, h, c, d => by
  rw[Bt] at d
  refine T8 l _ ?_ (fun x hx=>c x (List.mem_cons_of_mem _ hx)) (by rw[Fx];omega)
  have hy:=c y List.mem_cons_self
  have hl:=Bo (l:=l) fun x hx=>c x (List.mem_cons_of_mem _ hx)
  unfold A8
  cases b:o.getLast? with
  |none=>simp_all
  | some a =>
   simp only
   obtain ⟨o',rfl⟩:=List.getLast?_eq_some_iff.1 b
   have ha:=h a (by simp)
   have f:=Bo (l:=o') fun x hx=>h x (by simp[hx])
   have e:Aa (o'++ [a])=Aa o'+a.len:=by rw[Ao];simp[Aa]
   split
   ·rename_i hm
    intro x hx
    rcases List.mem_append.1 hx with hx|hx
    ·simp_all
    simp at hx
    subst hx
    exact l7 ha hy hm (by omega)
   grind
theorem ON{l:List Av}(h: ∀x∈l,Ah x=true)(hb:Aa l≤1048576): ∀x∈join l,Ah x=true:=T8 l [] (fun x hx=>(List.not_mem_nil hx).elim) h (by simpa[Aa] using hb)
theorem LP{x:Av}(h:Ah x=true){a b:Int}(ha:0≤a)(hb:b≤x.len): ∀y∈part x a b,Ah y=true:=by grind [Cb,part]
theorem Pv(x:Av){a b:Int}(ha:0≤a)(h:a≤b)(hb:b≤x.len):Aa (part x a b)=b-a:=by grind [part,Aa]
def C5(x:Av)(a n:Int):Av:= { x with pos:=x.pos+a,len:=n,lines:=if x.lines=0 then 0 else-1 }
def first:List Av→Int→List Av×List Av
 | [],_=>([],[])
 | x :: l, n => if x.len ≤ n then (x :: (first l (n - x.len)).1, (first l (n - x.len)).2)
  else if n≤0 then ((first l (n-x.len)).1,x::(first l (n-x.len)).2)
  else (C5 x 0 n::(first l (n-x.len)).1,C5 x n (x.len-n)::(first l (n-x.len)).2)
theorem EF: ∀(l:List Av)(n:Int),n≤0→(∀x∈l,Ah x=true)→first l n=([],l)
 | [],_,_,_=>rfl
 | x :: l, n, h, hm => by
  have:=Ec (hm x List.mem_cons_self)
  rw[first,EF l (n-x.len) (by omega) fun y hy=>hm y (List.mem_cons_of_mem _ hy),if_neg (by omega),if_pos h]
theorem Iz(l:List Av): ∀(A:List Av)(n:Int),(∀x∈A,Ah x=true)→0≤n→first (A++l) (Aa A+n)=(A++(first l n).1,(first l n).2)
 | [],n,_,_=>by simp[Aa]
 | x :: A, n, hm, a => by
  have b:=Bo (l:=A) fun y hy=>hm y (List.mem_cons_of_mem _ hy)
  rw[List.cons_append]
  rw[first,Bt,if_pos (by omega),show x.len+Aa A+n-x.len=Aa A+n by omega,Iz l A n (fun y hy=>hm y (List.mem_cons_of_mem _ hy)) a]
  rfl
theorem VZ{A B:List Av}{x:Av}(hm: ∀y∈A++x::B,Ah y=true){n:Int}(h0:0<n)(h1:n≤x.len):(first (A++x::B) (Aa A+n)).1=A++part x 0 n:=by
 have b: ∀y∈B,Ah y=true:=fun y hy=>hm y (by simp[hy])
 rw[Iz _ A n (fun y hy=>hm y (by simp[hy])) (by omega)]
 unfold part
 rw[first,EF B (n-x.len) (by omega) b,if_neg (show¬n≤0 by omega)]
 by_cases a:x.len≤n
 ·rw[if_pos a,if_neg (by omega),if_neg (by omega)]
 rw[if_neg a,if_neg (by omega),if_pos (.inr (by omega))]
 simp[C5]
theorem Tz{A B:List Av}{x:Av}(hm: ∀y∈A++x::B,Ah y=true){n:Int}(h0:0≤n)(h1:n<x.len):(first (A++x::B) (Aa A+n)).2=part x n x.len++B:=by
 have a: ∀y∈B,Ah y=true:=fun y hy=>hm y (by simp[hy])
 rw[Iz _ A n (fun y hy=>hm y (by simp[hy])) (by omega)]
 unfold part
 rw[first,EF B (n-x.len) (by omega) a,if_neg (show¬x.len≤n by omega),if_neg (show¬x.len≤n by omega)]
 grind [C5]
theorem Y7{l:List Av}(hm: ∀y∈l,Ah y=true):first l (Aa l)=(l,[]):=by
 have:=Iz [] l 0 hm (by omega)
 simp_all[first]
theorem Ni: ∀(l:List Av)(a n:Int),(∀y∈l,Ah y=true)→0≤a→0≤n→(first (first l a).2 n).2=(first l (a+n)).2
 | [],_,_,_,_,_=>rfl
 | x :: l, a, n, hm, ha, g => by
  have hl: ∀y∈l,Ah y=true:=fun y hy=>hm y (List.mem_cons_of_mem _ hy)
  by_cases h1:x.len≤a
  · conv=>lhs;rw[first]
    conv=>rhs;rw[first]
    rw[if_pos h1,if_pos (by omega)]
    rw[Ni l (a-x.len) n hl (by omega) g]
    grind
  by_cases c:a≤0
  · have:a=0:=by omega
    subst this
    rw[EF _ 0 (by omega) hm,Int.zero_add]
  have e:(first (x::l) a).2=C5 x a (x.len-a)::l:=by rw[first,if_neg h1,if_neg c,EF l _ (by omega) hl]
  rw[e]
  conv=>lhs;rw[first]
  conv=>rhs;rw[first]
  have b:(C5 x a (x.len-a)).len=x.len-a:=rfl
  rw[b,show n-(x.len-a)=a+n-x.len by omega]
  by_cases d:x.len≤a+n
  · grind
  rw[if_neg (by omega),if_neg d,if_neg (show¬a+n≤0 by omega)]
  by_cases f:n≤0
  · grind
  rw[if_neg f]
  have i:C5 (C5 x a (x.len-a)) n (x.len-a-n)=C5 x (a+n) (x.len-(a+n)):=by
   simp only[C5]
   grind
  simp_all
def Ep(l:List Av)(at_ n:Int)(put:List Av):List Av:=join ((first l at_).1++put++(first (first l at_).2 n).2)
theorem U0{x:Av}{a b:Int}(h:a<b): ∃m,part x a b= [m]∧m.src=x.src∧(0≤a→a≤0→m.pos=x.pos)∧(0≤a→b=x.len→m.pos+m.len=x.pos+x.len):=by grind [part]
section
variable {σ:Type} {X:Env σ} (hX:X.Ok)
def Env.or(X:Env σ)(e:Int):Env σ:= { X with bad:=fun x=>X.bad x∨x=e }
theorem Step.more{α:Type}{s:σ}{R W:Nat}{m:M σ α}{Q:α→σ→Prop}(e:Int)(h:Step X s R W m Q):Step (X.or e) s R W m Q:=by
 rcases h with h|h
 ·exact .inl h
 right
 cases hm:m s with
 |ok a s'=>rw[hm] at h;exact h
 | fault e' s' =>
  rw[hm] at h
  obtain ⟨h1,b⟩:=h
  exact ⟨h1.imp .inl id,b⟩
 |bad=>rw[hm] at h;exact h
include hX in
theorem Env.kR(e:Int):(X.or e).Ok where
 rd:=fun s p n h1 a=>(hX.rd s p n h1 a).more e
 wt:=fun s n h1 a=>(hX.wt s n h1 a).more e
def V7(l:List Av)(at_:Int)(p:List Av×Int)(A:List Av):Prop:=
 (∃Y,l=A++Y)∧p.2=Aa A∧(first l at_).1=A++p.1∧(A= []∨ ∃m,p.1= [m]∧ ∀a,A.getLast?=some a→meets a m=false)∧(∀y∈p.1,Ah y=true)∧Aa A≤at_∧Aa A+Aa p.1=at_
def RH(l:List Av)(to:Int)(q:List Av×Int)(C B:List Av):Prop:=
 l=C++B∧q.2=Aa C∧(first l to).2=q.1++B∧(B= []∨ ∃m,q.1= [m]∧ ∀b a e,B=b::a→e.src=m.src→e.pos+e.len=m.pos+m.len→meets e b=false)∧(∀y∈q.1,Ah y=true)∧to≤Aa C∧Aa q.1+Aa B=Aa l-to
include hX in
theorem M8{root:Int}{l:List Av}{s:σ}(e:X.inv s)(hr:Rt (X.V s) root l)(f:AL l)(L:Nat)(k: ∀h:Nat,2*4^h≤l.length→h≤L){at_:Int}(h0:0≤at_)(h1:at_≤Aa l):
 Step X s (L+1) 0 (leftOf X.rd root at_) (fun p s'=> ∃A,V7 l at_ p A):=by
 unfold leftOf
 have hm:=hr.fit.1
 by_cases d:0<at_
 ·rw[if_pos d]
  refine (Step.bind (R2:=0) (W2:=0) (Yh hX e hr L k (at_-1) (by omega) (by omega)) ?_).mono (by omega) (by omega) fun _ _ _ _ x=>x
  rintro ⟨x,a⟩ s1 c o ⟨l1,l2,rfl,rfl,c3,c4⟩
  dsimp only at c3 c4 hm f h1 d⊢
  have hx:=hm x (by simp)
  refine Step.ret c ⟨l1,⟨x::l2,rfl⟩,rfl,?_,?_,LP hx (by omega) (by omega),by omega,by rw[Pv x (by omega) (by omega) (by omega)];omega⟩
  ·have:=VZ hm (n:=at_-Aa l1) (by omega) (by omega)
   rw[show Aa l1+(at_-Aa l1)=at_ by omega] at this
   exact this
  obtain ⟨m,g,i,j,q⟩:=U0 (x:=x) (a:=0) (b:=at_-Aa l1) (by omega)
  refine .inr ⟨m,g,fun a ha=>?_⟩
  rw[Pe (a':=a) (b':=x) rfl rfl i (j (by omega) (by omega))]
  exact f.meet ha
 rw[if_neg d]
 have:at_=0:=by omega
 subst this
 exact Step.ret e ⟨[],⟨l,rfl⟩,rfl,by rw[EF l 0 (by omega) hm];rfl,.inl rfl,fun y hy=>(List.not_mem_nil hy).elim,by simp[Aa],by simp[Aa]⟩
include hX in
theorem KY{root:Int}{l:List Av}{s:σ}(i:X.inv s)(hr:Rt (X.V s) root l)(j:AL l)(L:Nat)(r: ∀h:Nat,2*4^h≤l.length→h≤L){to:Int}(h0:0≤to)(h1:to≤Aa l):
 Step X s (L+1) 0 (FO X.rd root to (Aa l)) (fun q s'=> ∃C B,RH l to q C B):=by
 unfold FO
 have hm:=hr.fit.1
 by_cases d:to<Aa l
 ·rw[if_pos d]
  refine (Step.bind (R2:=0) (W2:=0) (Yh hX i hr L r to (by omega) (by omega)) ?_).mono (by omega) (by omega) fun _ _ _ _ x=>x
  rintro ⟨x,a⟩ s1 c t ⟨l1,l2,rfl,rfl,c3,c4⟩
  dsimp only at c3 c4 hm j h1 d⊢
  have hx:=hm x (by simp)
  have g:Aa (l1++ [x])=Aa l1+x.len:=by rw[Ao];simp[Aa]
  refine Step.ret c ⟨l1++ [x],l2,by simp,g.symm,?_,?_,LP hx (by omega) (by omega),by rw[g];omega,?_⟩
  ·have:=Tz hm (n:=to-Aa l1) (by omega) (by omega)
   rw[show Aa l1+(to-Aa l1)=to by omega] at this
   exact this
  ·obtain ⟨m,k,o,z,p⟩:=U0 (x:=x) (a:=to-Aa l1) (b:=x.len) (by omega)
   refine .inr ⟨m,k,fun b w e hb u v=>?_⟩
   subst hb
   rw[Pe (a':=x) (b':=b) (u.trans o) (v.trans (p (by omega) rfl)) rfl rfl]
   have f:=j.right
   exact f.1
  rw[Pv x (by omega) (by omega) (by omega),Ao,Bt]
  omega
 rw[if_neg d]
 have:to=Aa l:=by omega
 subst this
 exact Step.ret i ⟨l,[],by simp,rfl,by rw[Y7 hm];rfl,.inl rfl,fun y hy=>(List.not_mem_nil hy).elim,by omega,by simp[Aa]⟩
theorem IZ{l put:List Av}{at_ n:Int}{p q:List Av×Int}{A C B:List Av}(hm: ∀y∈l,Ah y=true)(f:AL l)(h0:0≤at_)(t:0≤n)(hl:V7 l at_ p A)(hr:RH l (at_+n) q C B):
 Ep l at_ n put=A++(join (p.1++put++q.1)++B)∧(∃D,C=A++D∧l=A++(D++B)):=by
 obtain ⟨⟨Y,l1⟩,l2,u,v,K,L,O⟩:=hl
 obtain ⟨r1,P,w,x,Q,T,U⟩:=hr
 constructor
 ·unfold Ep
  rw[Ni l at_ n hm h0 t,u,w]
  have r:AL A:=by rw[l1] at f;exact f.left
  have s:AL B:=by rw[r1] at f;exact f.right
  have j:join (A++(p.1++put++q.1))=A++join (p.1++put++q.1):=by
   rcases v with rfl|⟨m,g,i⟩
   · rfl
   exact n0 r (m:=m) (M':=put++q.1) (by rw[g];simp) i
  have e:A++p.1++put++(q.1++B)=(A++(p.1++put++q.1))++B:=by simp
  rw[e,YO s,j,List.append_assoc]
  intro a b o ha hb
  rcases x with rfl|⟨m,g,i⟩
  · cases hb
  rw[g,←List.append_assoc] at ha
  obtain ⟨z,G,H,I⟩:=YP (A++(p.1++put)) m
  rw[G] at ha
  cases ha
  exact i b o _ hb H I
 have:=Ia (a:=A) (b:=Y) (c:=C) (d:=B) (by rw[←l1,←r1]) (by rw[←l1];exact hm) (by omega)
 obtain ⟨D,k,J⟩:=this
 exact ⟨D,k,by rw[r1,k,List.append_assoc]⟩
theorem Xf{l put:List Av}{at_ n:Int}{p q:List Av×Int}{A C B:List Av}(hm: ∀y∈l,Ah y=true)(c: ∀y∈put,Ah y=true)(hl:V7 l at_ p A)(hr:RH l (at_+n) q C B)
 (hb:Aa l-n+Aa put≤1048576) (g:(A++(join (p.1++put++q.1)++B)).length≤1024):Fit (A++(join (p.1++put++q.1)++B))∧Aa (A++(join (p.1++put++q.1)++B))=Aa l-n+Aa put:=by
 obtain ⟨⟨Y,l1⟩,l2,m,o,r,s,t⟩:=hl
 obtain ⟨r1,u,v,w,x,z,D⟩:=hr
 have d: ∀y∈A,Ah y=true:=fun y hy=>hm y (by rw[l1];simp[hy])
 have e: ∀y∈B,Ah y=true:=fun y hy=>hm y (by rw[r1];simp[hy])
 have i:=Bo d
 have j:=Bo e
 have f: ∀y∈p.1++put++q.1,Ah y=true:=by grind
 have a:Aa (p.1++put++q.1)=Aa p.1+Aa put+Aa q.1:=by rw[Ao,Ao]
 have k:=ON f (by rw[a];omega)
 have b:Aa (A++(join (p.1++put++q.1)++B))=Aa l-n+Aa put:=by
  rw[Ao,Ao,Js,a]
  omega
 refine ⟨⟨?_,by rw[b];exact hb,g⟩,b⟩
 grind
theorem Tl.AA{v:Int→Option Nd}{x:BK}{l:List Av}(h:Tl v x l):x.ER.AA=l.length:=by
 rcases h with ⟨rfl,rfl⟩|⟨h,h1,a⟩
 ·rfl
 exact a.BU.AA
include hX in
theorem ZB{root:Int}{l put:List Av}{s:σ}(hI:X.inv s)(hr:Rt (X.V s) root l)(Q:AL l)(L:Nat)(an:L≤4)(P: ∀h:Nat,2*4^h≤l.length→h≤L){at_ n:Int}(h0:0≤at_)(hn:0≤n)(h1:at_+n≤Aa l)
 (a1: ∀y∈put,Ah y=true) (hb:Aa l-n+Aa put≤1048576):
 ((Ep l at_ n put).length≤1024→Step X s (2*(L*L)+17*L+19) 2600 (Km X.rd X.wt root at_ n (Aa l) put) (fun r s'=>Rt (X.V s') r (Ep l at_ n put)))∧
 (1024<(Ep l at_ n put).length→Step (X.or 11) s (2*(L*L)+17*L+19) 0 (Km X.rd X.wt root at_ n (Aa l) put) (fun r s'=>False)):=by
 have hm:=hr.fit.1
 constructor
 · intro u
   unfold Km
   refine (Step.bind (R2:=L+1+(L+1+(L+1+(L+1+(1+L*(L+6)+(1+L*(L+6)+(0+(6+(6+0))))))))) (W2:=0+(0+(0+(0+(48*(L+1)+(48*(L+1)+(2048+(12+(12+0)))))))))
    (M8 hX hI hr Q L P h0 (by omega)) ?_).mono (by rw[Nat.mul_add];omega) (by omega) fun _ _ _ _ x=>x
   rintro p s1 v b ⟨A,O⟩
   refine Step.bind (KY hX v (hr.le b) Q L P (to:=at_+n) (by omega) h1) ?_
   rintro q s2 w f ⟨C,B,k⟩
   obtain ⟨i,D,j,I⟩:=IZ (put:=put) hm Q h0 hn O k
   have J:=(hr.le b).le f
   refine Step.bind (MN hX w J L P) ?_
   rintro whole s3 z Y ⟨K,T⟩
   have U:=k.1
   have e2:=k.2.1
   have eA:=O.2.1
   rw[e2,eA]
   have hw1:Tl (X.V s3) whole (C++B):=by rw[←U];exact K
   refine Step.bind ((IJ hX 30 (h:=L) (by omega) z hw1 T)) ?_
   rintro r1 s4 G g rfl
   have hw2:Tl (X.V s4) whole (A++(D++B)):=by rw[←I];exact K.le g
   refine Step.bind ((IJ hX 30 (h:=L) (by omega) G hw2 T)) ?_
   rintro r0 s5 H o rfl
   have a:whole.ER.AA-(C.length:Int)+(A.length:Int)+((join (p.1++put++q.1)).length:Int)=((Ep l at_ n put).length:Int):=by
    rw[K.AA,i,U,j]
    simp only[List.length_append]
    omega
   rw[a,if_neg (by omega)]
   have c:=u
   rw[i] at c
   obtain ⟨d,a2⟩:=Xf hm a1 O k hb c
   have hw3:=hw2.le o
   refine Step.bind (ME hX 30 (h:=L) (by omega) H hw3 T) ?_
   rintro ⟨x1,x2⟩ s6 a6 ag ⟨g1,g2,g3,g4⟩
   simp only at g1 g2 g3 g4
   have eD:Aa C-Aa A=Aa D:=by rw[j,Ao];omega
   simp only
   rw[eD]
   refine Step.bind (ME hX 30 (h:=L) (by omega) a6 g2 g4) ?_
   rintro ⟨y1,y2⟩ s7 a7 Z ⟨k1,k2,k3,k4⟩
   simp only at k1 k2 k3 k4
   simp only
   have am:(join (p.1++put++q.1)).length≤1024:=by simp only[List.length_append] at c;omega
   refine Step.bind ((Ka hX a7 d.eT).mono (by omega) (show 2*(join (p.1++put++q.1)).length≤2048 by omega) fun _ _ _ _ x=>x) ?_
   rintro m s8 a8 t ⟨m1,-⟩
   have f1:Fit (A++join (p.1++put++q.1)):=by rw[←List.append_assoc] at d;exact d.left
   refine Step.bind ((MH hX a8 ((g1.le Z).le t) m1 f1).mono (by have:=g1.low;have:=m1.low;omega) (Nat.le_refl 12) fun _ _ _ _ x=>x) ?_
   rintro x s9 a9 a0 ⟨x1,-,-⟩
   refine Step.bind ((MH hX a9 x1 ((k2.le t).le a0) (by rw[List.append_assoc];exact d)).mono (by have:=x1.low;have:=k2.low;omega) (Nat.le_refl 12) fun _ _ _ _ x=>x) ?_
   rintro y s10 W aa ⟨y1,-,-⟩
   refine Step.pure W ?_
   rw[i,←List.append_assoc]
   exact y1.root
 intro u
 have e:=Env.kR hX 11
 unfold Km
 refine (Step.bind (X:=X.or 11) (R2:=L+1+(L+1+(L+1+(L+1+0)))) (W2:=0)
  (M8 e hI hr Q L P h0 (by omega)) ?_).mono (by omega) (by omega) fun _ _ _ _ x=>x
 rintro p s1 v b ⟨A,O⟩
 refine Step.bind (W1:=0) (W2:=0) (KY e v (hr.le b) Q L P (to:=at_+n) (by omega) h1) ?_
 rintro q s2 w f ⟨C,B,k⟩
 obtain ⟨i,D,j,I⟩:=IZ (put:=put) hm Q h0 hn O k
 have J:=(hr.le b).le f
 refine Step.bind (W1:=0) (W2:=0) (MN e w J L P) ?_
 rintro whole s3 z Y ⟨K,T⟩
 have U:=k.1
 have e2:=k.2.1
 have eA:=O.2.1
 rw[e2,eA]
 have hw1:Tl (X.V s3) whole (C++B):=by rw[←U];exact K
 refine Step.bind (W1:=0) (W2:=0) ((IJ e 30 (h:=L) (by omega) z hw1 T)) ?_
 rintro r1 s4 G g rfl
 have hw2:Tl (X.V s4) whole (A++(D++B)):=by rw[←I];exact K.le g
 refine Step.bind (W1:=0) (W2:=0) (R2:=0) ((IJ e 30 (h:=L) (by omega) G hw2 T)) ?_
 rintro r0 s5 H o rfl
 have a:whole.ER.AA-(C.length:Int)+(A.length:Int)+((join (p.1++put++q.1)).length:Int)=((Ep l at_ n put).length:Int):=by
  rw[K.AA,i,U,j]
  simp only[List.length_append]
  omega
 rw[a,if_pos (by omega)]
 exact .inr ⟨.inl (.inr rfl),H,Le.MK _,by omega,by omega⟩
include hX in
theorem Ts{l:List Av}{s:σ}(c:X.inv s)(b:Fit l):Step X s 0 2048 (Ja X.wt l) (fun r s'=>Rt (X.V s') r l):=by
 unfold Ja
 refine (Step.bind (R2:=0) (W2:=0) (Ka hX c b) ?_).mono (by omega) (by have:=b.2.2;omega) fun _ _ _ _ x=>x
 rintro x s1 a d ⟨e,-⟩
 exact Step.pure a e.root
end
section
variable {σ:Type}
def I3(g:Int→List Av→M σ (List Av)):List Kd→List Av→M σ (List Av)
 | [],out=>M.pure out
 |k::ks,out=>M.bind (g k.Au out) (I3 g ks)
def Ea(rd:Int→M σ Nd):Nat→Int→List Av→M σ (List Av)
 |0,_,_=>M.fail 13
 |f+1,no,out=>M.bind (rd no) fun n=>if 1024<(out++n.Ag).length then M.fail 13 else I3 (Ea rd f) n.kids (out++n.Ag)
def PF(rd:Int→M σ Nd)(root:Int):M σ (List Av):=if root=0 then M.pure [] else Ea rd 21 root []
variable {X:Env σ} (hX:X.Ok)
