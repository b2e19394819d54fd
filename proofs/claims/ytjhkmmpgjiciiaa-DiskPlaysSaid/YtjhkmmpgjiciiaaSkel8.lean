/-
  What the row's frame tells of slices of the disk laws' calls, as the walks take it.
-/
import Derived.Test.YtjhkmmpgjiciiaaSkel4
import Derived.Test.YtjhkmmpgjiciiaaLaw04e
namespace Go.Proofs.Ytjhkmmpgjiciiaa
set_option linter.unusedSimpArgs false
set_option linter.unusedVariables false
open Go.RowKit Go.Sl Go.ChangeShapes Go.WideShapes

theorem six_of {r : List Value} (h : r.length = 6) : ∃ a b c d e f, r = [a, b, c, d, e, f] := by
  match r, h with
  | [a, b, c, d, e, f], _ => exact ⟨a, b, c, d, e, f, rfl⟩

theorem i64_wf {n : Int} (h : (Lit.int .i64 n).wf = true) : -9223372036854775808 ≤ n ∧ n ≤ 9223372036854775807 := by
  simpa [Lit.wf, IntKind.min, IntKind.max, IntKind.signed, IntKind.bits] using h

theorem slice_of_trod {H : Type} {enc : TypeId × Value → H} {w : World} {base : Nat} {spare : Nat → Bool} {held : Bool} {t e fuel : Nat} {v : Value} {x : DataW H × List MemPlace}
    (ht : Try.prog.underlying t = some (.slice e)) (h : DataW.trod enc Try.prog w base spare held fuel t [v] = some x) : ∃ a n c, v = .slice a n c := by
  rcases DataW.trod_slice ht h with ⟨h0, _⟩ | ⟨a, len, cap, elems, rest, n, _, h1, _⟩
  · exact ⟨none, 0, 0, by simpa using h0⟩
  · exact ⟨some a, len, cap, by simpa using h1⟩

/-- what holds of a call that came in -/
def CallOk (w : World) (c : CallD) : Prop :=
  c.nm.size ≤ 9223372036854775807 ∧ (-9223372036854775808 ≤ c.n ∧ c.n ≤ 9223372036854775807) ∧ ((-9223372036854775808 ≤ c.kd ∧ c.kd ≤ 9223372036854775807) ∧ (-9223372036854775808 ≤ c.len ∧ c.len ≤ 9223372036854775807)) ∧
    ∃ zs : List Int, Ints w (.slice c.pa c.pn c.pc) zs ∧ zs.length = c.pn ∧ c.pn ≤ 9223372036854775807 ∧ ∀ z ∈ zs, (Lit.int .i64 z).wf = true

theorem calls04_in {H : Type} {enc : TypeId × Value → H} {w : World} {base : Nat} {spare : Nat → Bool} {held : Bool} {a : Option Addr} {len cap : Nat}
    (h : ∃ fuel x, DataW.trod enc Try.prog w base spare held fuel 58 [.slice a len cap] = some x) :
    ∃ cs : List CallD, Rws w (.slice a len cap) 6 (cs.map crowDD) ∧ cs.length = len ∧ len ≤ 9223372036854775807 ∧ ∀ c ∈ cs, CallOk w c := by
  obtain ⟨fuel, x, hx⟩ := h
  obtain ⟨rs, h1, h2, h3, h4⟩ := rows_of_trod (s := 6) Try.underlying58 (by kernel_rfl) (by omega) hx
  obtain ⟨cs, rfl, hcs⟩ := rows_map (f := crowDD) (p := CallOk w) rs (by
    intro r hr
    obtain ⟨n, y, hy⟩ := h4 r hr
    obtain ⟨hl, n', hf⟩ := field_of_trod Try.underlying65 hy
    obtain ⟨v0, v1, v2, v3, v4, v5, rfl⟩ := six_of (hl.trans (by kernel_rfl))
    have c0 : Try.prog.cellsOf 3 = 1 := by kernel_rfl
    have c1 : Try.prog.cellsOf 9 = 1 := by kernel_rfl
    have c2 : Try.prog.cellsOf 5 = 1 := by kernel_rfl
    have c3 : Try.prog.cellsOf 22 = 1 := by kernel_rfl
    obtain ⟨_, y0, e0⟩ := field_at Try.underlying65 hy 0 3 0 1 rfl c0
    obtain ⟨_, y1, e1⟩ := field_at Try.underlying65 hy 1 9 1 1 rfl c1
    obtain ⟨_, y2, e2⟩ := field_at Try.underlying65 hy 2 3 2 1 rfl c0
    obtain ⟨_, y3, e3⟩ := field_at Try.underlying65 hy 3 3 3 1 rfl c0
    obtain ⟨_, y4, e4⟩ := field_at Try.underlying65 hy 4 5 4 1 rfl c2
    obtain ⟨n5, y5, e5⟩ := field_at Try.underlying65 hy 5 22 5 1 rfl c3
    obtain ⟨z0, rfl, w0⟩ := int_of_trod Try.underlying3 e0
    obtain ⟨s1, hs1, _, w1⟩ := DataW.trod_string Try.underlying9 e1
    obtain ⟨z2, rfl, w2⟩ := int_of_trod Try.underlying3 e2
    obtain ⟨z3, rfl, w3⟩ := int_of_trod Try.underlying3 e3
    obtain ⟨z4, rfl, w4⟩ := int_of_trod Try.underlying5 e4
    obtain ⟨x4, rfl⟩ := u8_wf w4
    obtain ⟨pa, pn, pc, rfl⟩ := slice_of_trod Try.underlying22 e5
    obtain rfl : v1 = .string s1 := by simpa using hs1
    have hp := picks_in ⟨n5, y5, e5⟩
    exact ⟨⟨z0, s1, z2, z3, x4, pa, pn, pc⟩, rfl, w1, i64_wf w2, ⟨i64_wf w0, i64_wf w3⟩, hp⟩)
  exact ⟨cs, h1, by simpa using h2, h3, hcs⟩

end Go.Proofs.Ytjhkmmpgjiciiaa
