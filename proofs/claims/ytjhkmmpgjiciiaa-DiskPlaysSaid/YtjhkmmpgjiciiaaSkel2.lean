/-
  What the row's frame tells of slices of structs, as the walks take it.
-/
import Derived.Test.YtjhkmmpgjiciiaaSlb
import Derived.Test.YtjhkmmpgjiciiaaSkel
namespace Go.Proofs.Ytjhkmmpgjiciiaa
set_option linter.unusedSimpArgs false
set_option linter.unusedVariables false
open Go.RowKit Go.Sl Go.ChangeShapes Go.WideShapes

theorem two_of {r : List Value} (h : r.length = 2) : ∃ a b, r = [a, b] := by
  cases r with
  | nil => simp at h
  | cons a r =>
    cases r with
    | nil => simp at h
    | cons b r =>
      cases r with
      | nil => exact ⟨a, b, rfl⟩
      | cons c r => simp at h

/-- a slice of two-number structs -/
theorem pairs_in {H : Type} {enc : TypeId × Value → H} {w : World} {base : Nat} {spare : Nat → Bool} {held : Bool} {t e : Nat} {f0 f1 : Field} {a : Option Addr} {len cap : Nat}
    (ht : Try.prog.underlying t = some (.slice e)) (he : Try.prog.underlying e = some (.struct #[f0, f1])) (hc : Try.prog.cellsOf e = 2)
    (o0 : f0.offset = 0) (o1 : f1.offset = 1) (u0 : Try.prog.underlying f0.type = some (.int .i64)) (u1 : Try.prog.underlying f1.type = some (.int .i64)) (c0 : Try.prog.cellsOf f0.type = 1) (c1 : Try.prog.cellsOf f1.type = 1)
    (h : ∃ fuel x, DataW.trod enc Try.prog w base spare held fuel t [.slice a len cap] = some x) :
    ∃ cs : List (Int × Int), Rws w (.slice a len cap) 2 (cs.map fun c => [.int .i64 c.1, .int .i64 c.2]) ∧ cs.length = len ∧ len ≤ 9223372036854775807 ∧ ∀ c ∈ cs, (Lit.int .i64 c.1).wf = true ∧ (Lit.int .i64 c.2).wf = true := by
  obtain ⟨fuel, x, hx⟩ := h
  obtain ⟨rs, h1, h2, h3, h4⟩ := rows_of_trod ht hc (by omega) hx
  have hex : ∀ r ∈ rs, ∃ c : Int × Int, r = [.int .i64 c.1, .int .i64 c.2] ∧ (Lit.int .i64 c.1).wf = true ∧ (Lit.int .i64 c.2).wf = true := by
    intro r hr
    obtain ⟨n, y, hy⟩ := h4 r hr
    obtain ⟨hl, n', hf⟩ := field_of_trod he hy
    rw [hc] at hl
    obtain ⟨v0, v1, rfl⟩ := two_of hl
    obtain ⟨y0, e0⟩ := hf 0 f0 rfl
    obtain ⟨y1, e1⟩ := hf 1 f1 rfl
    rw [o0, c0] at e0
    rw [o1, c1] at e1
    obtain ⟨z0, rfl, w0⟩ := int_of_trod u0 e0
    obtain ⟨z1, rfl, w1⟩ := int_of_trod u1 e1
    exact ⟨(z0, z1), rfl, w0, w1⟩
  have hmap : ∀ l : List (List Value), (∀ r ∈ l, ∃ c : Int × Int, r = [.int .i64 c.1, .int .i64 c.2] ∧ (Lit.int .i64 c.1).wf = true ∧ (Lit.int .i64 c.2).wf = true) →
      ∃ cs : List (Int × Int), l = cs.map (fun c => [.int .i64 c.1, .int .i64 c.2]) ∧ ∀ c ∈ cs, (Lit.int .i64 c.1).wf = true ∧ (Lit.int .i64 c.2).wf = true := by
    intro l
    induction l with
    | nil => exact fun _ => ⟨[], rfl, by simp⟩
    | cons r l ih =>
      intro hl
      obtain ⟨c, rfl, hc⟩ := hl r (by simp)
      obtain ⟨cs, rfl, hcs⟩ := ih fun r' hr' => hl r' (by simp [hr'])
      exact ⟨c :: cs, rfl, fun c' hc' => by rcases List.mem_cons.1 hc' with rfl | h; exact hc; exact hcs _ h⟩
  obtain ⟨cs, rfl, hcs⟩ := hmap rs hex
  exact ⟨cs, h1, by simpa using h2, h3, hcs⟩

theorem calls06_in {H : Type} {enc : TypeId × Value → H} {w : World} {base : Nat} {spare : Nat → Bool} {held : Bool} {a : Option Addr} {len cap : Nat}
    (h : ∃ fuel x, DataW.trod enc Try.prog w base spare held fuel 33 [.slice a len cap] = some x) :
    ∃ cs : List (Int × Int), Rws w (.slice a len cap) 2 (cs.map fun c => [.int .i64 c.1, .int .i64 c.2]) ∧ cs.length = len ∧ len ≤ 9223372036854775807 ∧ ∀ c ∈ cs, (Lit.int .i64 c.1).wf = true ∧ (Lit.int .i64 c.2).wf = true :=
  pairs_in Try.underlying33 Try.underlying35 (by kernel_rfl) rfl rfl Try.underlying3 Try.underlying3 (by kernel_rfl) (by kernel_rfl) h

end Go.Proofs.Ytjhkmmpgjiciiaa
