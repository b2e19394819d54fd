/-
  What was there before a call: held as it was.
-/
import Derived.Test.YtjhkmmpgjiciiaaSla
namespace Go.Sl
set_option linter.unusedSimpArgs false
set_option linter.unusedVariables false
open Go.RowKit

/-- all blocks of w0, and what is outside, as they were -/
def old (w0 : World) : Assn := fun h => h = fun k => match k with
  | .raw b => (w0.heap[b]?).map Res.obj
  | .env => some (.io w0.os w0.tape w0.output)
  | _ => none

theorem Sat.old_self (w : World) : Sat (old w) w := by
  refine ⟨_, rfl, fun k r e => ?_⟩
  cases k with
  | raw b =>
    obtain ⟨o, ho, rfl⟩ := Option.map_eq_some_iff.1 e
    exact ho
  | env => cases e; exact ⟨rfl, rfl, rfl⟩
  | cell b i => cases e
  | hdr b => cases e

theorem Sat.old_below {w0 w : World} {F : Assn} (hs : Sat (old w0 * F) w) : Below w0.heap.size w0 w := by
  obtain ⟨h, a, H⟩ := hs.weak
  subst a
  have hb : ∀ b, b < w0.heap.size → w.heap[b]? = w0.heap[b]? := by
    intro b hb
    have := H (.raw b) (.obj w0.heap[b]) (by simp [hb])
    simp only [Has] at this
    rw [this]; simp [hb]
  have he : Has w .env (.io w0.os w0.tape w0.output) := H .env _ rfl
  refine ⟨he.1, he.2.1, he.2.2, ?_, hb⟩
  rcases Nat.lt_or_ge w.heap.size w0.heap.size with h | h
  · have := hb _ h
    simp [h] at this
  · exact h

theorem Sat.old_cell {w0 w : World} {F : Assn} (hs : Sat (old w0 * F) w) {a : Addr} {v : Value} (h : w0.cell? a = some v) : w.cell? a = some v := by
  rw [hs.old_below.cell (World.block_lt_of_cell? w0 a h)]; exact h

end Go.Sl
