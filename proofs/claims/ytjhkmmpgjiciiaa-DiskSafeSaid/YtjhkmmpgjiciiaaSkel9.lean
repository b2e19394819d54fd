/-
  What the row's frame tells of a slice of bytes.
-/
import Derived.Test.YtjhkmmpgjiciiaaSkel8
namespace Go.Proofs.Ytjhkmmpgjiciiaa
set_option linter.unusedSimpArgs false
set_option linter.unusedVariables false
open Go.RowKit Go.Sl Go.ChangeShapes Go.WideShapes

theorem bytes_in {H : Type} {enc : TypeId × Value → H} {w : World} {base : Nat} {spare : Nat → Bool} {held : Bool} {a : Option Addr} {len cap : Nat}
    (h : ∃ fuel x, DataW.trod enc Try.prog w base spare held fuel 45 [.slice a len cap] = some x) :
    ∃ l : List UInt8, Byt w (.slice a len cap) l := by
  obtain ⟨fuel, x, hx⟩ := h
  have hcap : len ≤ cap ∧ cap ≤ maxLen := by
    rcases DataW.trod_slice Try.underlying45 hx with ⟨h0, _⟩ | ⟨a', len', cap', elems, rest, n, _, h1, _, _, h2, h3, _⟩
    · simp only [List.cons.injEq, Value.slice.injEq, and_true] at h0
      obtain ⟨_, rfl, rfl⟩ := h0
      exact ⟨Nat.le_refl _, by unfold maxLen; decide⟩
    · simp only [List.cons.injEq, Value.slice.injEq, and_true] at h1
      obtain ⟨_, rfl, rfl⟩ := h1
      exact ⟨h2, h3⟩
  obtain ⟨rs, h1, h2, h3, h4⟩ := rows_of_trod (s := 1) Try.underlying45 (by kernel_rfl) (by omega) hx
  obtain ⟨zs, rfl, hz⟩ := rows_map (f := fun z : UInt8 => [Value.int .u8 z.toNat]) (p := fun z => True) rs (by
    intro r hr
    obtain ⟨n, y, hy⟩ := h4 r hr
    obtain ⟨z, hz, _, hw⟩ := DataW.trod_int Try.underlying5 hy
    obtain ⟨x2, rfl⟩ := u8_wf hw
    exact ⟨x2, hz, trivial⟩)
  obtain ⟨a', c', e1, h5⟩ := h1
  have e2 := e1
  simp only [List.length_map, Value.slice.injEq] at e2
  obtain ⟨rfl, rfl, rfl⟩ := e2
  refine ⟨zs, a, cap, rfl, hcap.1, hcap.2, fun i z hi => ?_⟩
  obtain ⟨_, b, o, rfl, h6⟩ := h5 i [.int .u8 z.toNat] (by simp [hi])
  exact ⟨b, o, rfl, by have := h6 0 _ rfl; simpa [bv] using this⟩

end Go.Proofs.Ytjhkmmpgjiciiaa
