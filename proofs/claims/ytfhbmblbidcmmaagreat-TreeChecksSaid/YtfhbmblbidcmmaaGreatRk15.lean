/-
  Of any pages in a file a root is found to be a tree just if it is one in the form of the document. No condition. (part 15)
-/
import Derived.Test.YtfhbmblbidcmmaaGreatRk1
import Derived.Test.YtfhbmblbidcmmaaGreatRk14
set_option linter.unusedSimpArgs false
set_option linter.unusedVariables false
namespace Go.Proofs.YtfhbmblbidcmmaaGreat
set_option linter.unusedSimpArgs false
set_option linter.unusedVariables false
open Go.RowKit Go.Sl
def sortI (zs : List Int) : List Int := zs.mergeSort fun x y => decide (x ≤ y)
theorem sort_row {α : Type} [Inhabited α] (enc : α → Value) {b e n : Nat} {xs ys : List α} {sp : List Value} {F : Assn} {w : World} {os : Array Obj} (hs : Sat (block b e (xs.map enc ++ sp) * F) w) (hl : ys.length = xs.length) :
 Sat (block b e (ys.map enc ++ sp) * F) (Go.Sort.grow (Go.Sort.putRow enc (Go.Sort.ahead w n) b 0 ys.toArray) os) := by
 have hw := hs.block_heap
 have hlt := lt_of_some hw
 have hsz : (Go.Sort.putRow enc (Go.Sort.ahead w n) b 0 ys.toArray).heap.size = w.heap.size := by simp [Go.Sort.putRow, Go.Sort.mapBlock, Go.Sort.ahead]
 refine hs.reblock (by simp [hl]) ?_ ?_ rfl rfl rfl
 · rw [Go.Sort.heap_grow_old _ _ (by rw [hsz]; exact hlt)]
   simp only [Go.Sort.putRow, Go.Sort.mapBlock, Go.Sort.ahead, Array.getElem?_modify, if_true, hw, Option.map_some, Go.Sort.onCells]
   congr 2
   apply Array.ext
   · simp [Go.Sort.putCells, hl]
   · intro i h1 h2
     simp only [Go.Sort.putCells, Array.getElem_mapIdx, Nat.zero_le, true_and, Nat.zero_add, List.size_toArray, Nat.sub_zero, List.getElem_toArray]
     by_cases hi : i < ys.length
     · rw [if_pos hi, List.getElem_append_left (by simpa using hi)]
       simp [hi]
     · rw [if_neg hi, List.getElem_append_right (by simp; omega), List.getElem_append_right (by simp; omega)]
       simp [hl]
 · intro k hk hne
   rw [Go.Sort.heap_grow_old _ _ (by rw [hsz]; exact hk)]
   simp only [Go.Sort.putRow, Go.Sort.mapBlock, Go.Sort.ahead, Array.getElem?_modify]
   rw [if_neg (fun e => hne e.symm)]
theorem sortInts_sl (a : Option Addr) (n c : Nat) (zs : List Int) (F : Assn) (w : World) (hs : Sat (rw 3 1 (.slice a n c) (zs.map (Value.int .i64)) * F) w) (hm : zs.length < 4611686018427387904) :
 Calls Tryz.prog 122 #[.slice a n c] w fun e w' => e = .returned (.tuple #[]) ∧ Sat (rw 3 1 (.slice a n c) ((sortI zs).map (Value.int .i64)) * F) w' := by
 rcases hs.rw_open with ⟨h1, h2, h3⟩ | ⟨g, n', cap', sp, h1, h2, h3, h4, h5, h6⟩
 · cases h1
   have : zs = [] := by simpa using h2
   subst this
   refine (Tryz.sort_Ints_none none 0 w).mono fun e w' ⟨h, h'⟩ => ⟨h, ?_⟩
   subst h'
   simpa [sortI] using hs
 · cases h1
   have hn : n = zs.length := by simpa using h2.symm
   subst hn
   have hw := h6.block_heap
   have hH : Go.Sort.Holds (Value.int .i64) w g 0 zs.toArray := by
    intro j hj
    simp only [List.size_toArray] at hj
    have h7 : Sat (cells g 0 (zs.map (Value.int .i64)) * (hdr g 3 (zs.map (Value.int .i64) ++ sp).length * (cells g (zs.map (Value.int .i64)).length sp * F))) w := h6.eq (by rw [block_split]; ac_rfl)
    refine ⟨?_, by simp [World.frozen?, hw]⟩
    rw [h7.cells_at j (.int .i64 zs[j]) (by simp [hj])]
    simp [hj]
   refine (Tryz.sort_Ints g 0 c zs w hH (lt_of_some hw) hm).mono fun e w' ⟨h, nn, os, h'⟩ => ⟨h, ?_⟩
   subst h'
   have hl : (sortI zs).length = zs.length := List.length_mergeSort zs
   have h8 := sort_row (Value.int .i64) (n := nn) (os := os) (ys := sortI zs) h6 hl
   refine Sat.rw_shut (sp := sp) ?_ ?_ h4 h5 h8
   · simp [hl]
   · have : ((zs.map (Value.int .i64)) ++ sp).length = c * 1 := h3
     simp only [List.length_append, List.length_map, hl] at this ⊢
     exact this
end Go.Proofs.YtfhbmblbidcmmaaGreat
