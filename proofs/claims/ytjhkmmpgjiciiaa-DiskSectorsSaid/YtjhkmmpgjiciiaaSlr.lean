/-
  Slices of structs that came in: the cells of each element.
-/
import Derived.Test.YtjhkmmpgjiciiaaSlo
import Derived.Deep.Slices
import Derived.ChangeArms
namespace Go.Sl
set_option linter.unusedSimpArgs false
set_option linter.unusedVariables false
open Go.RowKit Go.Deep Go.ChangeShapes Go.WideShapes

/-- a slice of elements of s cells each -/
def Rws (w : World) (v : Value) (s : Nat) (rs : List (List Value)) : Prop :=
  ∃ a c, v = .slice a rs.length c ∧ ∀ i r, rs[i]? = some r → r.length = s ∧ ∃ b o, a = some ⟨b, o, none⟩ ∧ ∀ j u, r[j]? = some u → w.cell? ⟨b, o + i * s + j, none⟩ = some u

theorem Rws.len {w : World} {v : Value} {s : Nat} {rs : List (List Value)} (h : Rws w v s rs) : ∃ a c, v = .slice a rs.length c := by
  obtain ⟨a, c, h, _⟩ := h
  exact ⟨a, c, h⟩

theorem Rws.at {w : World} {a : Option Addr} {n c s i : Nat} {rs : List (List Value)} {r : List Value} (h : Rws w (.slice a n c) s rs) (hi : rs[i]? = some r) :
    ∃ b o, a = some ⟨b, o, none⟩ ∧ ∀ j u, r[j]? = some u → w.cell? ⟨b, o + i * s + j, none⟩ = some u := by
  obtain ⟨a', c', h1, h2⟩ := h
  cases h1
  exact (h2 i r hi).2

theorem Rws.old {w0 w : World} {F : Assn} {v : Value} {s : Nat} {rs : List (List Value)} (h : Rws w0 v s rs) (hs : Sat (old w0 * F) w) : Rws w v s rs := by
  obtain ⟨a, c, h1, h2⟩ := h
  refine ⟨a, c, h1, fun i r hr => ?_⟩
  obtain ⟨h3, b, o, h4, h5⟩ := h2 i r hr
  exact ⟨h3, b, o, h4, fun j u hu => hs.old_cell (h5 j u hu)⟩

theorem spot_none {w : World} {x : Addr} {u : Value} (h : w.cell? x = some u) : x.spot = none := by
  unfold World.cell? at h
  cases hs : x.spot with
  | none => rfl
  | some _ => simp [hs] at h; split at h <;> simp at h

/-- what the frame reads of a slice: the cells of each element, and their own reading -/
theorem rows_of_trod {H : Type} {enc : TypeId × Value → H} {P : Program} {w : World} {base : Nat} {spare : Nat → Bool} {held : Bool} {t e fuel s : Nat} {a : Option Addr} {len cap : Nat} {x : DataW H × List MemPlace}
    (ht : P.underlying t = some (.slice e)) (hs : P.cellsOf e = s) (hpos : 0 < s) (h : DataW.trod enc P w base spare held fuel t [.slice a len cap] = some x) :
    ∃ rs, Rws w (.slice a len cap) s rs ∧ rs.length = len ∧ len ≤ maxLen ∧ ∀ r ∈ rs, ∃ n y, DataW.trod enc P w base spare held n e r = some y := by
  rcases open_slice ht h with ⟨h1, _⟩ | ⟨ad, len', cap', m, n, D, Pl, hcs, hb, hl, hm, hmm, hx, hi⟩
  · simp at h1
    obtain ⟨rfl, rfl, rfl⟩ := h1
    exact ⟨[], ⟨none, 0, rfl, fun i r hr => by simp at hr⟩, rfl, by simp, by simp⟩
  · simp at hcs
    obtain ⟨rfl, rfl, rfl⟩ := hcs
    have hlm : len ≤ m := by rw [hmm]; split <;> omega
    have hex : ∀ i : Nat, ∃ r : List Value, i < len → (w.cells? base (ad.add (i * s)) s = some r ∧ ∃ y, DataW.trod enc P w base spare held n e r = some y) := by
      intro i
      by_cases hil : i < len
      · obtain ⟨cs', h2, h3⟩ := hi i (by omega)
        rw [hs] at h2
        exact ⟨cs', fun _ => ⟨h2, _, h3⟩⟩
      · exact ⟨[], fun h => absurd h hil⟩
    let f : Nat → List Value := fun i => Classical.choose (hex i)
    have hf : ∀ i : Nat, i < len → (w.cells? base (ad.add (i * s)) s = some (f i) ∧ ∃ y, DataW.trod enc P w base spare held n e (f i) = some y) := fun i => Classical.choose_spec (hex i)
    refine ⟨(List.range len).map f, ⟨some ad, cap, by simp, fun i r hr => ?_⟩, by simp, by omega, ?_⟩
    · have hil : i < len := by
        rcases Nat.lt_or_ge i len with h | h
        · exact h
        · rw [List.getElem?_eq_none (by simpa using h)] at hr; cases hr
      have hr' : r = f i := by simp [hil] at hr; exact hr.symm
      subst hr'
      obtain ⟨h2, _⟩ := hf i hil
      obtain ⟨_, h3, h4⟩ := World.cells?_some h2
      refine ⟨h3, ?_⟩
      have hsp : ad.spot = none := by
        obtain ⟨h2', _⟩ := hf 0 (by omega)
        obtain ⟨_, h3', h4'⟩ := World.cells?_some h2'
        have := h4' 0 hpos
        rw [List.getElem?_eq_getElem (by omega)] at this
        have h5 := spot_none this
        simp [Addr.add] at h5
        exact h5
      obtain ⟨b, o, sp⟩ := ad
      simp only at hsp
      subst hsp
      refine ⟨b, o, rfl, fun j u hu => ?_⟩
      have hj : j < s := by
        rcases Nat.lt_or_ge j s with h | h
        · exact h
        · rw [List.getElem?_eq_none (by omega)] at hu; cases hu
      have := h4 j hj
      rw [Addr.add_lit, Addr.add_lit] at this
      rw [this]; exact hu
    · intro r hr
      obtain ⟨i, hi', rfl⟩ := List.mem_map.1 hr
      obtain ⟨_, y, hy⟩ := hf i (by simpa using hi')
      exact ⟨n, y, hy⟩

/-- one field of one cell of a struct that reads -/
theorem field_of_trod {H : Type} {enc : TypeId × Value → H} {P : Program} {w : World} {base : Nat} {spare : Nat → Bool} {held : Bool} {t fuel : Nat} {r : List Value} {x : DataW H × List MemPlace} {fs : Array Field}
    (ht : P.underlying t = some (.struct fs)) (h : DataW.trod enc P w base spare held fuel t r = some x) :
    r.length = P.cellsOf t ∧ ∃ n, ∀ (i : Nat) (f : Field), fs[i]? = some f → ∃ y, DataW.trod enc P w base spare held n f.type ((r.drop f.offset).take (P.cellsOf f.type)) = some y := by
  obtain ⟨xs, n, _, _, h1, h2, h3⟩ := DataW.trod_struct ht h
  refine ⟨h1, n, fun i f hf => ?_⟩
  have hi : i < fs.size := (Array.getElem?_eq_some_iff.1 hf).1
  exact ⟨xs[i]'(by omega), by rw [h3 i f hf]; exact List.getElem?_eq_getElem (by omega)⟩

theorem int_of_trod {H : Type} {enc : TypeId × Value → H} {P : Program} {w : World} {base : Nat} {spare : Nat → Bool} {held : Bool} {t fuel : Nat} {v : Value} {x : DataW H × List MemPlace} {k : IntKind}
    (ht : P.underlying t = some (.int k)) (h : DataW.trod enc P w base spare held fuel t [v] = some x) : ∃ n, v = .int k n ∧ (Lit.int k n).wf = true := by
  obtain ⟨n, h1, _, h2⟩ := DataW.trod_int ht h
  exact ⟨n, by simpa using h1, h2⟩

end Go.Sl
