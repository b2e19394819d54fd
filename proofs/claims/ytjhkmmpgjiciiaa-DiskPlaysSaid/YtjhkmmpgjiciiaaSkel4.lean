/-
  What the row's frame tells of slices of the disk laws' structs and of integers, as the walks take it.
-/
import Derived.Test.YtjhkmmpgjiciiaaSkel2
import Derived.Test.YtjhkmmpgjiciiaaLaw04d
namespace Go.Proofs.Ytjhkmmpgjiciiaa
set_option linter.unusedSimpArgs false
set_option linter.unusedVariables false
open Go.RowKit Go.Sl Go.ChangeShapes Go.WideShapes

theorem rows_map {α : Type} {f : α → List Value} {p : α → Prop} : ∀ l : List (List Value), (∀ r ∈ l, ∃ c, r = f c ∧ p c) → ∃ cs : List α, l = cs.map f ∧ ∀ c ∈ cs, p c
  | [], _ => ⟨[], rfl, by simp⟩
  | r :: l, hl => by
    obtain ⟨c, rfl, hc⟩ := hl r (by simp)
    obtain ⟨cs, rfl, hcs⟩ := rows_map l fun r' hr' => hl r' (by simp [hr'])
    exact ⟨c :: cs, rfl, fun c' hc' => by rcases List.mem_cons.1 hc' with rfl | h; exact hc; exact hcs _ h⟩

theorem four_of {r : List Value} (h : r.length = 4) : ∃ a b c d, r = [a, b, c, d] := by
  match r, h with
  | [a, b, c, d], _ => exact ⟨a, b, c, d, rfl⟩

theorem u8_wf {n : Int} (h : (Lit.int .u8 n).wf = true) : ∃ x : UInt8, n = (x.toNat : Int) := by
  have h1 : 0 ≤ n ∧ n ≤ 255 := by simpa [Lit.wf, IntKind.min, IntKind.max, IntKind.signed, IntKind.bits] using h
  refine ⟨UInt8.ofNat n.toNat, ?_⟩
  simp [UInt8.toNat_ofNat']
  omega

/-- the integers of a slice, by its reading -/
theorem zs_in {H : Type} {enc : TypeId × Value → H} {w : World} {base : Nat} {spare : Nat → Bool} {held : Bool} {t e : Nat} {a : Option Addr} {len cap : Nat}
    (ht : Try.prog.underlying t = some (.slice e)) (he : Try.prog.underlying e = some (.int .i64)) (hc : Try.prog.cellsOf e = 1)
    (h : ∃ fuel x, DataW.trod enc Try.prog w base spare held fuel t [.slice a len cap] = some x) :
    ∃ zs : List Int, Ints w (.slice a len cap) zs ∧ zs.length = len ∧ len ≤ 9223372036854775807 ∧ ∀ z ∈ zs, (Lit.int .i64 z).wf = true := by
  obtain ⟨fuel, x, hx⟩ := h
  obtain ⟨rs, h1, h2, h3, h4⟩ := rows_of_trod ht hc (by omega) hx
  obtain ⟨zs, rfl, hz⟩ := rows_map (f := fun z : Int => [Value.int .i64 z]) (p := fun z => (Lit.int .i64 z).wf = true) rs (by
    intro r hr
    obtain ⟨n, y, hy⟩ := h4 r hr
    obtain ⟨z, hz, _, hw⟩ := DataW.trod_int he hy
    exact ⟨z, hz, hw⟩)
  refine ⟨zs, ?_, by simpa using h2, h3, hz⟩
  obtain ⟨a', c', e1, h5⟩ := h1
  have e2 := e1
  simp only [List.length_map, Value.slice.injEq] at e2
  obtain ⟨rfl, rfl, rfl⟩ := e2
  refine ⟨a, cap, rfl, fun i z hi => ?_⟩
  obtain ⟨_, b, o, rfl, h6⟩ := h5 i [.int .i64 z] (by simp [hi])
  exact ⟨b, o, rfl, by have := h6 0 _ rfl; simpa using this⟩

/-- one field of a struct that reads, at its type and place -/
theorem field_at {H : Type} {enc : TypeId × Value → H} {w : World} {base : Nat} {spare : Nat → Bool} {held : Bool} {t fuel : Nat} {r : List Value} {x : DataW H × List MemPlace} {fs : Array Field}
    (ht : Try.prog.underlying t = some (.struct fs)) (h : DataW.trod enc Try.prog w base spare held fuel t r = some x) (i ty off c : Nat) (hf : (fs[i]?).map (fun f => (f.type, f.offset)) = some (ty, off)) (hc : Try.prog.cellsOf ty = c) :
    ∃ n y, DataW.trod enc Try.prog w base spare held n ty ((r.drop off).take c) = some y := by
  obtain ⟨_, n, h2⟩ := field_of_trod ht h
  obtain ⟨f, h3, h4⟩ := Option.map_eq_some_iff.1 hf
  obtain ⟨y, h5⟩ := h2 i f h3
  cases h4
  rw [hc] at h5
  exact ⟨n, y, h5⟩

theorem puts_in {H : Type} {enc : TypeId × Value → H} {w : World} {base : Nat} {spare : Nat → Bool} {held : Bool} {a : Option Addr} {len cap : Nat}
    (h : ∃ fuel x, DataW.trod enc Try.prog w base spare held fuel 40 [.slice a len cap] = some x) :
    ∃ ps : List PutR, Rws w (.slice a len cap) 4 (ps.map putrow) ∧ ps.length = len ∧ len ≤ 9223372036854775807 := by
  obtain ⟨fuel, x, hx⟩ := h
  obtain ⟨rs, h1, h2, h3, h4⟩ := rows_of_trod (s := 4) Try.underlying40 (by kernel_rfl) (by omega) hx
  obtain ⟨ps, rfl, _⟩ := rows_map (f := putrow) (p := fun _ => True) rs (by
    intro r hr
    obtain ⟨n, y, hy⟩ := h4 r hr
    obtain ⟨hl, n', hf⟩ := field_of_trod Try.underlying49 hy
    obtain ⟨v0, v1, v2, v3, rfl⟩ := four_of (hl.trans (by kernel_rfl))
    have c0 : Try.prog.cellsOf 3 = 1 := by kernel_rfl
    have c2 : Try.prog.cellsOf 5 = 1 := by kernel_rfl
    have c3 : Try.prog.cellsOf 4 = 1 := by kernel_rfl
    obtain ⟨_, y0, e0⟩ := field_at Try.underlying49 hy 0 3 0 1 rfl c0
    obtain ⟨_, y1, e1⟩ := field_at Try.underlying49 hy 1 3 1 1 rfl c0
    obtain ⟨_, y2, e2⟩ := field_at Try.underlying49 hy 2 5 2 1 rfl c2
    obtain ⟨_, y3, e3⟩ := field_at Try.underlying49 hy 3 4 3 1 rfl c3
    obtain ⟨z0, rfl, w0⟩ := int_of_trod Try.underlying3 e0
    obtain ⟨z1, rfl, w1⟩ := int_of_trod Try.underlying3 e1
    obtain ⟨z2, rfl, w2⟩ := int_of_trod Try.underlying5 e2
    obtain ⟨b, hb, _⟩ := DataW.trod_bool Try.underlying4 e3
    obtain ⟨x2, rfl⟩ := u8_wf w2
    obtain rfl : v3 = .bool b := by simpa using hb
    exact ⟨⟨z0, z1, x2, b⟩, rfl, trivial⟩)
  exact ⟨ps, h1, by simpa using h2, h3⟩

theorem picks_in {H : Type} {enc : TypeId × Value → H} {w : World} {base : Nat} {spare : Nat → Bool} {held : Bool} {a : Option Addr} {len cap : Nat}
    (h : ∃ fuel x, DataW.trod enc Try.prog w base spare held fuel 22 [.slice a len cap] = some x) :
    ∃ zs : List Int, Ints w (.slice a len cap) zs ∧ zs.length = len ∧ len ≤ 9223372036854775807 ∧ ∀ z ∈ zs, (Lit.int .i64 z).wf = true :=
  zs_in Try.underlying22 Try.underlying3 (by kernel_rfl) h

end Go.Proofs.Ytjhkmmpgjiciiaa
