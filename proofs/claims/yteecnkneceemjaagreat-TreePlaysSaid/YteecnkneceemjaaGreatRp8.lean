/-
  TreePlays: what its proof leans on (part 8)
-/
import Derived.Test.YteecnkneceemjaaGreatRp4
import Derived.Test.YteecnkneceemjaaGreatRp7
set_option linter.unusedSimpArgs false
set_option linter.unusedVariables false
namespace Go.Proofs.YteecnkneceemjaaGreat
set_option linter.unusedSimpArgs false
set_option linter.unusedVariables false
open Go.RowKit Go.Sl Go.Dk
theorem bys_set (l : List UInt8) (k : Nat) (y : UInt8) : (bys l).set k (.int .u8 y.toNat) = bys (l.set k y) := by
 unfold bys; rw [List.map_set]; rfl
theorem row_made {n : Nat} {F : Assn} {w : World} (l : List UInt8) (hl : l.length = n) (hn : n ≤ 1099511627776) (hs : Sat F w) : Sat (rw TB 1 (.slice (some ⟨w.heap.size, 0, none⟩) n n) (bys l) * F) (w.alloc (.cells (bys l).toArray TB)) := by
 have h := hs.alloc (bys l).toArray TB
 refine Sat.rw_shut (sp := []) (n := n) (cap := n) (by simp [bys, hl]) (by simp [bys, hl]) (Nat.le_refl _) (by unfold maxLen; omega) ?_
 simpa using h
end Go.Proofs.YteecnkneceemjaaGreat
