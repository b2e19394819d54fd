/-
  sort.Slice of ranges, in assertions.
-/
import Derived.Test.YtjclpdlijblpjaaGreatEvh
import Derived.Test.YtjclpdlijblpjaaGreatEvn
import Derived.Test.YtjclpdlijblpjaaGreatSlb
namespace Go.Proofs.YtjclpdlijblpjaaGreat
set_option linter.unusedSimpArgs false
set_option linter.unusedVariables false
open Go.RowKit Go.Sl Go.Ev Go.Sort
noncomputable abbrev TRG : Nat := 222

theorem has_grow {w : World} (os : Array Obj) {k : Key} {r : Res} (h : Has w k r) : Has (Sort.grow w os) k r := by
  have old : ∀ {b : Nat} {o : Obj}, w.heap[b]? = some o → (Sort.grow w os).heap[b]? = some o := fun {b o} e => by
    rw [heap_grow_old w os (Array.getElem?_eq_some_iff.1 e).1]; exact e
  cases k <;> cases r <;> first | exact h.elim | skip
  · exact old h
  · obtain ⟨c, t, h1, h2⟩ := h; exact ⟨c, t, old h1, h2⟩
  · obtain ⟨c, h1, h2⟩ := h; exact ⟨c, old h1, h2⟩
  · exact h
theorem Sat.growS {A : Assn} {w : World} (hs : Sat A w) (os : Array Obj) : Sat A (Sort.grow w os) := by
  obtain ⟨h, ha, H⟩ := hs
  exact ⟨h, ha, fun k r e => has_grow os (H k r e)⟩
theorem Sat.aheadS {A : Assn} {w : World} (hs : Sat A w) (n : Nat) : Sat A (Sort.ahead w n) := by
  obtain ⟨h, ha, H⟩ := hs
  refine ⟨h, ha, fun k r e => ?_⟩
  have := H k r e
  cases k <;> cases r <;> exact this
theorem Sat.setCellsS {b : Nat} {F : Assn} : ∀ (news olds : List Value) (i : Nat) (w : World), Sat (Sl.cells b i olds * F) w → news.length = olds.length → Sat (Sl.cells b i news * F) (w.setCells b i news)
  | [], [], i, w, hs, _ => hs
  | [], _ :: _, i, w, hs, h => by cases h
  | _ :: _, [], i, w, hs, h => by cases h
  | v :: news, u :: olds, i, w, hs, h => by
    have h1 : Sat (Sl.cell b i u * (Sl.cells b (i + 1) olds * F)) w := hs.eq (by show Sl.cell b i u * Sl.cells b (i + 1) olds * F = _; ac_rfl)
    have h2 := h1.setCell v
    have h3 := Sat.setCellsS (F := Sl.cell b i v * F) news olds (i + 1) _ (h2.eq (by ac_rfl)) (by simpa using h)
    exact h3.eq (by show _ = Sl.cell b i v * Sl.cells b (i + 1) news * F; ac_rfl)
theorem insInner_size : ∀ (j : Nat) (d : Array (Int × Int)), (Sort.insInner ltR 0 j d).size = d.size
  | 0, d => rfl
  | j + 1, d => by
    unfold Sort.insInner
    split
    · rw [insInner_size j]; simp [Sort.swp]
    · rfl
theorem insO_size : ∀ (k i : Nat) (d : Array (Int × Int)), (insO k i d).size = d.size
  | 0, i, d => rfl
  | k + 1, i, d => by
    show (insO k (i + 1) _).size = _
    rw [insO_size k, insInner_size]
theorem putRowK_cells {w : World} {b : Nat} {d d' : Array (Int × Int)} (h : HoldsK encR 2 w b 0 d) (hs : d'.size = d.size) : putRowK encR 2 w b 0 d' = w.setCells b 0 (flatP d'.toList) := by
  have h1 := setCells_putRow w b 0 (flatP d'.toList) 0 (flatK encR 2 d) (by rw [flatP_len]; simp [hs])
  have h2 : putRow id w b 0 (flatK encR 2 d) = w := putRowK_self encR 2 w b 0 d h
  rw [h2] at h1
  have h3 : setMany (flatK encR 2 d) 0 (flatP d'.toList) = flatK encR 2 d' := by
    refine ext_get! (by simp [hs]) fun t ht => ?_
    have ht' : t < d.size * 2 := by simpa using ht
    rw [get_setMany _ _ _ t (by simpa using ht'), if_pos ⟨Nat.zero_le _, by rw [flatP_len]; simp [hs]; omega⟩, ← flat_all]
    simp [Array.getElem!_eq_getD, List.getElem!_eq_getElem?_getD]
  rw [h3] at h1
  show putRow id w b 0 (flatK encR 2 d') = _
  rw [← h1]
theorem sort_sat (a : Option Addr) (c B : Nat) (l : List (Int × Int)) (F : Assn) (w : World) (hl : l.length ≤ 12)
    (hs : Sat (rw TRG 2 (.slice a l.length c) (flatP l) * (Sl.block B 103 [.slice a l.length c] * F)) w) :
    Calls Tryz.prog 232 #[.iface 103 (.slice a l.length c), .func (.func 233) #[] #[.pointer (some ⟨B, 0, none⟩)]] w fun e w' =>
      e = .returned (.tuple #[]) ∧ Sat (rw TRG 2 (.slice a l.length c) (flatP (sortR l)) * (Sl.block B 103 [.slice a l.length c] * F)) w' := by
  by_cases h1 : l.length ≤ 1
  · refine (slice_none_or_one a l.length c h1 _ _ _ w).mono ?_
    rintro e w' ⟨rfl, os, rfl⟩
    have : sortR l = l := by
      unfold sortR
      rw [show l.length - 1 = 0 by omega]
      rfl
    rw [this]
    exact ⟨rfl, Sat.growS hs os⟩
  · rcases hs.rw_open with ⟨h2, h3, _⟩ | ⟨g, n, cap, sp, h2, h3, h4, h5, h6, h7⟩
    · have h4 := flatP_len l
      rw [h3] at h4
      simp only [List.length_nil] at h4
      omega
    · cases h2
      have h8 : Sat (Sl.cells g 0 (flatP l ++ sp) * (Sl.hdr g TRG (flatP l ++ sp).length * (Sl.block B 103 [.slice (some ⟨g, 0, none⟩) l.length c] * F))) w := h7.eq (by unfold Sl.block; ac_rfl)
      have h9 : Sat (Sl.cells g 0 (flatP l) * (Sl.cells g (0 + (flatP l).length) sp * (Sl.hdr g TRG (flatP l ++ sp).length * (Sl.block B 103 [.slice (some ⟨g, 0, none⟩) l.length c] * F)))) w := h8.eq (by rw [cells_append]; ac_rfl)
      have hne : flatP l ≠ [] := fun c => by
        have := flatP_len l
        rw [c] at this
        simp at this; omega
      have hat : ∀ j u, (flatP l)[j]? = some u → w.cell? ⟨g, 0 + j, none⟩ = some u := fun j u hj => h9.cells_at j u hj
      have hH : HoldsK encR 2 w g 0 l.toArray := by
        intro j hj
        have hj2 : j < l.length * 2 := by simpa using hj
        have hj5 : j < l.toArray.size * 2 := by simpa using hj
        have hp2 : j / 2 < l.length := by omega
        have hv : (flatP l)[j]? = some ((encR l[j / 2])[j % 2]!) := by
          rw [flatP_get, List.getElem?_eq_getElem hp2]; rfl
        refine ⟨?_, ?_⟩
        · rw [get_flatK encR 2 l.toArray j hj5]
          have hq : l.toArray[j / 2]! = l[j / 2] := by
            rw [getElem!_pos _ _ (by simpa using hp2)]; simp
          rw [hq]
          exact hat j _ hv
        · obtain ⟨v0, vs, hvs⟩ : ∃ v0 vs, flatP l = v0 :: vs := by
            cases hf : flatP l with
            | nil => exact absurd hf hne
            | cons v0 vs => exact ⟨_, _, rfl⟩
          have h10 : Sat (Sl.cell g 0 v0 * (Sl.cells g 1 vs * (Sl.cells g (0 + (flatP l).length) sp * (Sl.hdr g TRG (flatP l ++ sp).length * (Sl.block B 103 [.slice (some ⟨g, 0, none⟩) l.length c] * F))))) w := h9.eq (by rw [hvs]; show Sl.cell g 0 v0 * Sl.cells g 1 vs * _ = _; ac_rfl)
          exact h10.free _
      have hB : Sat (Sl.cell B 0 (.slice (some ⟨g, 0, none⟩) l.length c) * (Sl.cells g 0 (flatP l) * (Sl.cells g (0 + (flatP l).length) sp * (Sl.hdr g TRG (flatP l ++ sp).length * (Sl.hdr B 103 1 * F))))) w := h9.eq (by
        rw [show Sl.block B 103 [.slice (some ⟨g, 0, none⟩) l.length c] = Sl.hdr B 103 1 * (Sl.cell B 0 (.slice (some ⟨g, 0, none⟩) l.length c) * 1) from rfl, sep_one]
        ac_rfl)
      have hBg : B ≠ g := fun e => by
        subst e
        cases hf : flatP l with
        | nil => exact absurd hf hne
        | cons v0 vs =>
          rw [hf] at hB
          have h11 : Sat (Sl.cell B 0 (.slice (some ⟨B, 0, none⟩) l.length c) * (Sl.cell B 0 v0 * (Sl.cells B 1 vs * (Sl.cells B (0 + (v0 :: vs).length) sp * (Sl.hdr B TRG ((v0 :: vs) ++ sp).length * (Sl.hdr B 103 1 * F)))))) w := hB.eq (by show _ * (Sl.cell B 0 v0 * Sl.cells B 1 vs * _) = _; ac_rfl)
          exact cell_ne h11 ⟨rfl, rfl⟩
      have hgl : g < w.heap.size := by
        cases hf : flatP l with
        | nil => exact absurd hf hne
        | cons v0 vs =>
          have := hat 0 v0 (by rw [hf]; rfl)
          exact World.block_lt_of_cell? w _ this
      have key := slice_two g 0 c B 0 c l.toArray w (by simp; omega) (by simpa using hl) hH hgl hBg (hB.lt) (by simpa using hB.cell)
      rw [show l.toArray.size = l.length from by simp] at key
      refine key.mono ?_
      rintro e w' ⟨rfl, q, os, rfl⟩
      refine ⟨rfl, Sat.growS ?_ os⟩
      rw [sorted_eq l.length (by omega)]
      have hss : (insO (l.length - 1) 1 l.toArray).size = l.toArray.size := insO_size _ _ _
      rw [putRowK_cells (w := Sort.ahead w q) hH hss]
      have hlen : (flatP (sortR l)).length = (flatP l).length := by
        rw [flatP_len, flatP_len]
        unfold sortR
        simp [hss]
      have h12 := Sat.setCellsS (flatP (sortR l)) (flatP l) 0 _ (Sat.aheadS h9 q) hlen
      refine Sat.rw_shut (sp := sp) (by rw [hlen]; exact h3) (by rw [List.length_append, hlen, ← List.length_append]; exact h4) h5 h6 (h12.eq ?_)
      unfold Sl.block
      rw [cells_append, List.length_append, List.length_append, hlen]
      ac_rfl
end Go.Proofs.YtjclpdlijblpjaaGreat
