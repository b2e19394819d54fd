/-
  Versions are found sound just if they are in the words of the document. No condition. (part 29)
-/
import Derived.Test.YtfhbmblbidcmmaaGreatWa28
import Derived.Test.YtfhbmblbidcmmaaGreatWa1
import Derived.IntWalk
set_option linter.unusedSimpArgs false
set_option linter.unusedVariables false
namespace Go.Tr
open Go.Sl
set_option linter.unusedSimpArgs false
set_option linter.unusedVariables false
structure Ix where
 rd : Int
 cs : List (Int × Int)
def kvI (cs : List (Int × Int)) : List (Int × Value) := cs.map fun p => (p.1, .int .i64 p.2)
def iget (k : Int) : List (Int × Int) → Option Int
 | [] => none
 | p :: l => if k = p.1 then some p.2 else iget k l
def iput (k v : Int) : List (Int × Int) → List (Int × Int)
 | [] => [(k, v)]
 | p :: l => if k = p.1 then (k, v) :: l else p :: iput k v l
theorem mput_kvI (k v : Int) : ∀ l, mput k (.int .i64 v) (kvI l) = kvI (iput k v l)
 | [] => rfl
 | p :: l => by
   show (if k = p.1 then (k, Value.int .i64 v) :: kvI l else (p.1, Value.int .i64 p.2) :: mput k (.int .i64 v) (kvI l)) = kvI (if k = p.1 then (k, v) :: l else p :: iput k v l)
   by_cases h : k = p.1
   · rw [if_pos h, if_pos h]; rfl
   · rw [if_neg h, if_neg h, mput_kvI k v l]; rfl
def cutB (O : List UInt8) (a b : Nat) : List UInt8 := (O.drop a).take (b - a)
structure IxOk (O : List UInt8) (x : Ix) : Prop where
 cs : ∀ (c : Nat) (k : Int), iget c x.cs = some k → k = endsC (cutB O (c * 64) (min ((c + 1) * 64) O.length))
end Go.Tr

namespace Go.Tr
set_option linter.unusedSimpArgs false
set_option linter.unusedVariables false
structure Itm where
 bytes : Int
 lines : Int
 ent : Ent
 page : Int
def ent0 : Ent := ⟨0, 0, 0, 0⟩
def itE (x : Ent) : Itm := ⟨x.len, x.lines, x, 0⟩
def itK (k : Kd) : Itm := ⟨k.bytes, k.lines, ent0, k.page⟩
def ItR (v : Int → Option Nd) : Nat → Itm → List Ent → Prop
 | 0 => fun it l => ∃ x, it = itE x ∧ l = [x] ∧ mayEnt x = true
 | h + 1 => fun it l => ∃ k, it = itK k ∧ Sub v h 4 12 k l
variable {O T : List UInt8}
theorem addL_all : ∀ (l : List Int) (a : Int), 0 ≤ l.foldl addL a → 0 ≤ a ∧ ∀ x ∈ l, 0 ≤ x
 | [], a, h => ⟨h, fun x hx => (by cases hx)⟩
 | x :: l, a, h => by
   rw [List.foldl_cons] at h
   obtain ⟨h1, h2⟩ := addL_all l _ h
   unfold addL at h1
   by_cases hc : x < 0 ∨ a < 0
   · rw [if_pos hc] at h1; omega
   · refine ⟨by omega, fun y hy => ?_⟩
     rcases List.mem_cons.1 hy with rfl | hy
     · omega
     · exact h2 y hy
theorem sub_counted {v : Int → Option Nd} : ∀ {h lo hi : Nat} {k : Kd} {l : List Ent}, Sub v h lo hi k l → 0 ≤ k.lines → ∀ y ∈ l, 0 ≤ y.lines
 | 0, lo, hi, k, l, hs, hk => by
   obtain ⟨h1, h2, h3, h4, h5, _⟩ := hs
   rw [h5] at hk
   unfold kdOf ndSum at hk
   rw [if_pos h2] at hk
   simp only [List.map_nil, List.foldl_nil] at hk
   intro y hy
   exact (addL_all _ _ hk).2 y.lines (List.mem_map.2 ⟨y, hy, rfl⟩)
 | h + 1, lo, hi, k, l, hs, hk => by
   obtain ⟨ks, ls, h1, h2, h3, h4, h5, h6, h7, h8, rfl⟩ := hs
   rw [h5] at hk
   unfold kdOf ndSum at hk
   rw [if_pos h2] at hk
   simp only [List.map_nil, List.foldl_nil] at hk
   have hall := (addL_all _ _ hk).2
   have key : ∀ {ks : List Kd} {ls : List (List Ent)}, F2 (Sub v h 4 12) ks ls → (∀ k ∈ ks, 0 ≤ k.lines) → ∀ y ∈ ls.flatten, 0 ≤ y.lines := by
    intro ks
    induction ks with
    | nil =>
      intro ls hf _
      cases ls with
      | nil => intro y hy; simp at hy
      | cons _ _ => exact hf.elim
    | cons k ks ih =>
      intro ls hf hr
      cases ls with
      | nil => exact hf.elim
      | cons l ls =>
        intro y hy
        rw [List.flatten_cons] at hy
        rcases List.mem_append.1 hy with hy | hy
        · exact sub_counted hf.1 (hr k (by simp)) y hy
        · exact ih hf.2 (fun k hk => hr k (by simp [hk])) y hy
   exact key h8 fun k hk => hall k.lines (List.mem_map.2 ⟨k, hk, rfl⟩)
theorem ItR.none {v : Int → Option Nd} : ∀ {h : Nat} {it : Itm} {l : List Ent}, ItR v h it l → 0 ≤ it.lines → ∀ y ∈ l, 0 ≤ y.lines
 | 0, it, l, ⟨x, e1, e2, _⟩, hk => by
   subst e1
   subst e2
   intro y hy
   simp at hy
   subst hy
   exact hk
 | h + 1, it, l, ⟨k, e1, hs⟩, hk => by
   subst e1
   exact sub_counted hs hk
end Go.Tr
