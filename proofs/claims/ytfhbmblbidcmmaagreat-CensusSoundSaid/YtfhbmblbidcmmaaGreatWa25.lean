/- censusSound holds for every input. No condition. (part 25) -/
import Derived.Test.YtfhbmblbidcmmaaGreatWa24
import Derived.Test.YtfhbmblbidcmmaaGreatWa1
set_option linter.all false
namespace Go.Tr
open Go.Sl
structure Ix where
 rd:Int
 cs:List (Int×Int)
def eN(cs:List (Int×Int)):List (Int×Value):=cs.map fun p=>(p.1,.int .i64 p.2)
def kP(k:Int):List (Int×Int)→Option Int
 | []=>none
 |p::l=>if k=p.1 then some p.2 else kP k l
def eG(k v:Int):List (Int×Int)→List (Int×Int)
 | []=> [(k,v)]
 |p::l=>if k=p.1 then (k,v)::l else p::eG k v l
theorem Up(k v:Int): ∀l,CT k (.int .i64 v) (eN l)=eN (eG k v l)
 | []=>rfl
 | p :: l => by
  show (if k=p.1 then (k,Value.int .i64 v)::eN l else (p.1,Value.int .i64 p.2)::CT k (.int .i64 v) (eN l))=eN (if k=p.1 then (k,v)::l else p::eG k v l)
  by_cases h:k=p.1
  ·rw[if_pos h,if_pos h];rfl
  rw[if_neg h,if_neg h,Up k v l];rfl
def mB(O:List UInt8)(a b:Nat):List UInt8:=(O.drop a).take (b-a)
structure kF (O:List UInt8) (x:Ix):Prop where
 cs: ∀(c:Nat)(k:Int),kP c x.cs=some k→k=CL (mB O (c*64) (min ((c+1)*64) O.length))
end Go.Tr
namespace Go.Tr
structure lD where
 bytes:Int
 lines:Int
 nU:Av
 Au:Int
def mD:Av:=⟨0,0,0,0⟩
def nO(x:Av):lD:=⟨x.len,x.lines,x,0⟩
def nP(k:Kd):lD:=⟨k.bytes,k.lines,mD,k.Au⟩
def mS(v:Int→Option Nd):Nat→lD→List Av→Prop
 |0=>fun a l=> ∃x,a=nO x∧l= [x]∧Ah x=true
 |h+1=>fun a l=> ∃k,a=nP k∧Sub v h 4 12 k l
variable {O T:List UInt8}
theorem Ou: ∀(l:List Int)(a:Int),0≤l.foldl DT a→0≤a∧ ∀x∈l,0≤x
 | [],a,h=>⟨h,fun x hx=>(by cases hx)⟩
 | x :: l, a, h => by
  rw[List.foldl_cons] at h
  obtain ⟨h1,b⟩:=Ou l _ h
  unfold DT at h1
  by_cases c:x<0∨a<0
  ·rw[if_pos c] at h1;omega
  refine ⟨by omega,fun y hy=>?_⟩
  rcases List.mem_cons.1 hy with rfl|hy
  ·omega
  exact b y hy
theorem NI{v : Int → Option Nd} : ∀{h lo hi : Nat}{k : Kd}{l : List Av}, Sub v h lo hi k l → 0 ≤ k.lines → ∀ y ∈ l, 0 ≤ y.lines
 | 0, lo, hi, k, l, hs, a => by
  obtain ⟨h1,d,f,g,e,_⟩:=hs
  rw[e] at a
  unfold KH AZ at a
  rw[if_pos d] at a
  simp only[List.map_nil,List.foldl_nil] at a
  intro y hy
  exact (Ou _ _ a).2 y.lines (List.mem_map.2 ⟨y,hy,rfl⟩)
 | h + 1, lo, hi, k, l, hs, a => by
  obtain ⟨ks,ls,h1,d,f,g,e,m,n,i,rfl⟩:=hs
  rw[e] at a
  unfold KH AZ at a
  rw[if_pos d] at a
  simp only[List.map_nil,List.foldl_nil] at a
  have b:=(Ou _ _ a).2
  have key : ∀{ks : List Kd}{ls : List (List Av)}, F2 (Sub v h 4 12) ks ls → (∀ k ∈ ks, 0 ≤ k.lines) → ∀ y ∈ ls.flatten, 0 ≤ y.lines := by
   intro ks
   induction ks with
   | nil =>
    intro ls c _
    cases ls with
    |nil=>intro y hy;simp at hy
    |cons _ _=>exact c.elim
   | cons k ks j =>
    intro ls c hr
    cases ls with
    |nil=>exact c.elim
    | cons l ls =>
     intro y hy
     rw[List.flatten_cons] at hy
     rcases List.mem_append.1 hy with hy|hy
     ·exact NI c.1 (hr k (by simp)) y hy
     exact j c.2 (fun k a=>hr k (by simp[a])) y hy
  exact key i fun k a=>b k.lines (List.mem_map.2 ⟨k,a,rfl⟩)
theorem mS.none{v:Int→Option Nd} : ∀{h:Nat}{a:lD}{l:List Av},mS v h a l→0≤a.lines→ ∀y∈l,0≤y.lines
 | 0, a, l, ⟨x, b, d, _⟩, c => by
  subst b
  subst d
  intro y hy
  simp at hy
  subst hy
  exact c
 | h + 1, a, l, ⟨k, b, hs⟩, c => by
  subst b
  exact NI hs c
