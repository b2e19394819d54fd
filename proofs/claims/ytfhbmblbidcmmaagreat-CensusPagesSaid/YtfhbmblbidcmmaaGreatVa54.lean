/-
  Of all versions the pages that are told are just those of their trees in the file in the form of the document, and a root that is none is refused. No condition. (part 54)
-/
import Derived.Test.YtfhbmblbidcmmaaGreatVa19
set_option linter.unusedSimpArgs false
set_option linter.unusedVariables false
namespace Go.Proofs.YtfhbmblbidcmmaaGreat
set_option linter.unusedSimpArgs false
set_option linter.unusedVariables false
open Go.RowKit Go.Sl Go.Dk Go.Tr Go.ChangeShapes Go.WideShapes
theorem rowsE_map {α : Type} {f : α → List Value} : ∀ l : List (List Value), (∀ r ∈ l, ∃ c, r = f c) → ∃ cs : List α, l = cs.map f
 | [], _ => ⟨[], rfl⟩
 | r :: l, hl => by
   obtain ⟨c, rfl⟩ := hl r (by simp)
   obtain ⟨cs, rfl⟩ := rowsE_map l fun r' hr' => hl r' (by simp [hr'])
   exact ⟨c :: cs, rfl⟩
theorem four_of {r : List Value} (h : r.length = 4) : ∃ a b c d, r = [a, b, c, d] := by
 match r, h with
 | [a, b, c, d], _ => exact ⟨a, b, c, d, rfl⟩
theorem readsE_old {w : World} {a : Option Addr} {cap : Nat} {l : List Ent} (h : Rws w (.slice a l.length cap) 4 (l.map erow)) (h1 : l.length ≤ cap) (h2 : cap ≤ 9223372036854775807) : ReadsE (old w) (.slice a l.length cap) l := by
 have hl4 : (ecs l).length = l.length * 4 := flatV_len (f := erow) (fun _ => rfl) l
 refine ⟨hl4, a, cap, rfl, h1, h2, fun j u hj => ?_⟩
 have hjl : j < l.length * 4 := by
  rw [← hl4]
  exact (List.getElem?_eq_some_iff.1 hj).1
 obtain ⟨x, hx⟩ : ∃ x, l[j / 4]? = some x := ⟨_, List.getElem?_eq_getElem (by omega)⟩
 have hf := flat_at (f := erow) (s := 4) (fun _ => rfl) l (j / 4) (j % 4) x hx (by omega)
 have ej : j / 4 * 4 + j % 4 = j := by omega
 rw [ej] at hf
 obtain ⟨b, o, rfl, h6⟩ := h.at (i := j / 4) (r := erow x) (by simp [hx])
 refine ⟨b, o, rfl, ?_⟩
 have h7 := h6 (j % 4) u (hf.symm.trans hj)
 rw [Nat.add_assoc, ej] at h7
 haveI : OldAt w b (o + j) u := ⟨h7⟩
 exact inferInstance
theorem fieldE_at {H : Type} {enc : TypeId × Value → H} {w : World} {base : Nat} {spare : Nat → Bool} {held : Bool} {t fuel : Nat} {r : List Value} {x : DataW H × List MemPlace} {fs : Array Field}
 (ht : Tryz.prog.underlying t = some (.struct fs)) (h : DataW.trod enc Tryz.prog w base spare held fuel t r = some x) (i ty off c : Nat) (hf : (fs[i]?).map (fun f => (f.type, f.offset)) = some (ty, off)) (hc : Tryz.prog.cellsOf ty = c) :
 ∃ n y, DataW.trod enc Tryz.prog w base spare held n ty ((r.drop off).take c) = some y := by
 obtain ⟨_, n, h2⟩ := field_of_trod ht h
 obtain ⟨f, h3, h4⟩ := Option.map_eq_some_iff.1 hf
 obtain ⟨y, h5⟩ := h2 i f h3
 cases h4
 rw [hc] at h5
 exact ⟨n, y, h5⟩
theorem entries_in {H : Type} {enc : TypeId × Value → H} {w : World} {base : Nat} {spare : Nat → Bool} {held : Bool} {a : Option Addr} {len cap : Nat}
 (h : ∃ fuel x, DataW.trod enc Tryz.prog w base spare held fuel 29 [.slice a len cap] = some x) :
 ∃ l : List Ent, l.length = len ∧ ReadsE (old w) (.slice a len cap) l := by
 obtain ⟨fuel, x, hx⟩ := h
 have hcap : len ≤ cap ∧ cap ≤ maxLen := by
  rcases DataW.trod_slice Tryz.underlying29 hx with ⟨h0, _⟩ | ⟨a', len', cap', elems, rest, n, _, h1, _, _, h2, h3, _⟩
  · simp only [List.cons.injEq, Value.slice.injEq, and_true] at h0
    obtain ⟨_, rfl, rfl⟩ := h0
    exact ⟨Nat.le_refl _, by unfold maxLen; decide⟩
  · simp only [List.cons.injEq, Value.slice.injEq, and_true] at h1
    obtain ⟨_, rfl, rfl⟩ := h1
    exact ⟨h2, h3⟩
 have e4 : Tryz.prog.cellsOf TEn = 4 := by kernel_rfl
 have e3 : Tryz.prog.cellsOf 75 = 3 := by kernel_rfl
 have e1 : Tryz.prog.cellsOf 3 = 1 := by kernel_rfl
 obtain ⟨rs, h1, h2, h3, h4⟩ := rows_of_trod (s := 4) Tryz.underlying29 e4 (by omega) hx
 obtain ⟨l, rfl⟩ := rowsE_map (f := erow) rs (by
  intro r hr
  obtain ⟨n, y, hy⟩ := h4 r hr
  obtain ⟨hl, n', hf⟩ := field_of_trod Tryz.underlying77 hy
  obtain ⟨v0, v1, v2, v3, rfl⟩ := four_of (hl.trans e4)
  obtain ⟨_, y0, f0⟩ := fieldE_at Tryz.underlying77 hy 0 75 0 3 rfl e3
  obtain ⟨_, y1, f1⟩ := fieldE_at Tryz.underlying77 hy 1 3 3 1 rfl e1
  obtain ⟨_, y2, g0⟩ := fieldE_at Tryz.underlying75 f0 0 3 0 1 rfl e1
  obtain ⟨_, y3, g1⟩ := fieldE_at Tryz.underlying75 f0 1 3 1 1 rfl e1
  obtain ⟨_, y4, g2⟩ := fieldE_at Tryz.underlying75 f0 2 3 2 1 rfl e1
  obtain ⟨z0, rfl, _⟩ := int_of_trod Tryz.underlying3 g0
  obtain ⟨z1, rfl, _⟩ := int_of_trod Tryz.underlying3 g1
  obtain ⟨z2, rfl, _⟩ := int_of_trod Tryz.underlying3 g2
  obtain ⟨z3, rfl, _⟩ := int_of_trod Tryz.underlying3 f1
  exact ⟨⟨z0, z1, z2, z3⟩, rfl⟩)
 have hlen : l.length = len := by simpa using h2
 subst hlen
 exact ⟨l, rfl, readsE_old h1 hcap.1 hcap.2⟩
end Go.Proofs.YtfhbmblbidcmmaaGreat
