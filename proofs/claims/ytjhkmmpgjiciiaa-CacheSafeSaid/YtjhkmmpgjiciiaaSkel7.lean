/-
  What the row's frame tells of slices of the cache laws' calls, as the walks take it.
-/
import Derived.Test.YtjhkmmpgjiciiaaSkel4
import Derived.Test.YtjhkmmpgjiciiaaLaw07c
namespace Go.Proofs.Ytjhkmmpgjiciiaa
set_option linter.unusedSimpArgs false
set_option linter.unusedVariables false
open Go.RowKit Go.Sl Go.ChangeShapes Go.WideShapes

theorem three_of {r : List Value} (h : r.length = 3) : ∃ a b c, r = [a, b, c] := by
  match r, h with
  | [a, b, c], _ => exact ⟨a, b, c, rfl⟩

theorem calls07_in {H : Type} {enc : TypeId × Value → H} {w : World} {base : Nat} {spare : Nat → Bool} {held : Bool} {a : Option Addr} {len cap : Nat}
    (h : ∃ fuel x, DataW.trod enc Try.prog w base spare held fuel 89 [.slice a len cap] = some x) :
    ∃ cs : List CallC, Rws w (.slice a len cap) 3 (cs.map crowC) ∧ cs.length = len ∧ len ≤ 9223372036854775807 ∧ ∀ c ∈ cs, (Lit.int .i64 c.kind).wf = true ∧ (Lit.int .i64 c.no).wf = true := by
  obtain ⟨fuel, x, hx⟩ := h
  obtain ⟨rs, h1, h2, h3, h4⟩ := rows_of_trod (s := 3) Try.underlying89 (by kernel_rfl) (by omega) hx
  obtain ⟨cs, rfl, hcs⟩ := rows_map (f := crowC) (p := fun c => (Lit.int .i64 c.kind).wf = true ∧ (Lit.int .i64 c.no).wf = true) rs (by
    intro r hr
    obtain ⟨n, y, hy⟩ := h4 r hr
    obtain ⟨hl, n', hf⟩ := field_of_trod Try.underlying94 hy
    obtain ⟨v0, v1, v2, rfl⟩ := three_of (hl.trans (by kernel_rfl))
    have c0 : Try.prog.cellsOf 3 = 1 := by kernel_rfl
    have c2 : Try.prog.cellsOf 5 = 1 := by kernel_rfl
    obtain ⟨_, y0, e0⟩ := field_at Try.underlying94 hy 0 3 0 1 rfl c0
    obtain ⟨_, y1, e1⟩ := field_at Try.underlying94 hy 1 3 1 1 rfl c0
    obtain ⟨_, y2, e2⟩ := field_at Try.underlying94 hy 2 5 2 1 rfl c2
    obtain ⟨z0, rfl, w0⟩ := int_of_trod Try.underlying3 e0
    obtain ⟨z1, rfl, w1⟩ := int_of_trod Try.underlying3 e1
    obtain ⟨z2, rfl, w2⟩ := int_of_trod Try.underlying5 e2
    obtain ⟨x2, rfl⟩ := u8_wf w2
    exact ⟨⟨z0, z1, x2⟩, rfl, w0, w1⟩)
  exact ⟨cs, h1, by simpa using h2, h3, hcs⟩

end Go.Proofs.Ytjhkmmpgjiciiaa
