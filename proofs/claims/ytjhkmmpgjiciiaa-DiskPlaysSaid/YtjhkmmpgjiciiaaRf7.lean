/-
  The reference disk: Sync.
-/
import Derived.Test.YtjhkmmpgjiciiaaRf6
namespace Go.Proofs.Ytjhkmmpgjiciiaa
set_option linter.unusedSimpArgs false
set_option linter.unusedVariables false
open Go.RowKit Go.Sl Go.Dk
attribute [local go_sem ↓] Go.wp_at_zero Go.wp_at_succ
attribute [local go_sem] Go.Sl.cell_sat Go.Sl.frozen_sat

theorem filter_other {l : List Rf} {nm : ByteArray} (h : ∀ y ∈ l, y.nm ≠ nm) : (rents l).filter (fun p => decide (p.1 ≠ nm)) = rents l := by
  rw [List.filter_eq_self]
  intro p hp
  obtain ⟨y, hy, rfl⟩ := List.mem_map.1 hp
  simpa using h y hy

theorem RefOf.tail {h : Rh} {l1 : List Rf} {x : Rf} {l2 : List Rf} {ps : List Rp} {d : Dk} (r : RefOf h (l1 ++ x :: l2) ps d) {m : Nat} (ok : Ok m d) : ∀ y ∈ l2, y.nm ≠ x.nm := by
  have nd : ((rents (l1 ++ x :: l2)).map (·.1)).Nodup := (r.files.map (·.1)).nodup_iff.2 ok.nd
  intro y hy e
  simp only [rents, List.map_map, List.map_append, List.map_cons] at nd
  have h2 := (List.nodup_append.1 nd).2.1
  rw [List.nodup_cons] at h2
  exact h2.1 (List.mem_map.2 ⟨y, hy, by simpa using e⟩)

/-- another file at the same name -/
theorem RefOf.put_perm {h : Rh} {l1 : List Rf} {x : Rf} {l2 : List Rf} {ps : List Rp} {d : Dk} (r : RefOf h (l1 ++ x :: l2) ps d) {m : Nat} (ok : Ok m d) (h1 : ∀ y ∈ l1, y.nm ≠ x.nm) (x' : Rf) (hx : x'.nm = x.nm) :
    (rents (l1 ++ x' :: l2)).Perm (fput x.nm x'.f d.files) := by
  have h2 := r.tail ok
  refine List.Perm.trans ?_ (fput_form ok.nd x.nm x'.f).symm
  have h3 := (r.files.filter fun p => decide (p.1 ≠ x.nm))
  have e1 : (rents (l1 ++ x :: l2)).filter (fun p => decide (p.1 ≠ x.nm)) = rents l1 ++ rents l2 := by
    have : rents (l1 ++ x :: l2) = rents l1 ++ (x.nm, x.f) :: rents l2 := by simp [rents]
    rw [this, List.filter_append, List.filter_cons, if_neg (by simp), filter_other h1, filter_other h2]
  rw [e1] at h3
  have e2 : rents (l1 ++ x' :: l2) = rents l1 ++ (x.nm, x'.f) :: rents l2 := by simp [rents, hx]
  rw [e2]
  exact List.perm_middle.trans (h3.cons _)

theorem rising_put {l1 : List Rf} {x x' : Rf} {l2 : List Rf} (hx : x'.nm = x.nm) (h : (l1 ++ x :: l2).Pairwise fun x y => less x.nm y.nm = true) : (l1 ++ x' :: l2).Pairwise fun x y => less x.nm y.nm = true := by
  have e : ∀ l : List Rf, l.Pairwise (fun x y => less x.nm y.nm = true) ↔ (l.map (·.nm)).Pairwise (fun x y => less x y = true) := fun l => by rw [List.pairwise_map]
  rw [e] at h ⊢
  simpa [hx] using h

theorem frows_set2 {l1 : List Rf} {x : Rf} {l2 : List Rf} (j : Nat) (hj : l1.length = j) (a : Option Addr) (c : Nat) :
    ((frows (l1 ++ x :: l2)).set (j * 4 + 2) (.slice a x.f.now.length c)).set (j * 4 + 3) (.bool true) = frows (l1 ++ { x with f := { x.f with safe := x.f.now, sure := true }, sa := a, sc := c } :: l2) := by
  have e : ∀ y : Rf, frows (l1 ++ y :: l2) = frows l1 ++ (frow y ++ frows l2) := fun y => by simp [frows]
  rw [e, e]
  have hl : (frows l1).length = j * 4 := by rw [frows_len, hj]
  rw [List.set_append_right _ _ (by omega), List.set_append_right _ _ (by omega), hl, show j * 4 + 2 - j * 4 = 2 by omega, show j * 4 + 3 - j * 4 = 3 by omega]
  rfl
theorem frows_set1 {l1 : List Rf} {x : Rf} {l2 : List Rf} (j : Nat) (hj : l1.length = j) (a : Option Addr) (c : Nat) (b : List UInt8) :
    (frows (l1 ++ x :: l2)).set (j * 4 + 1) (.slice a b.length c) = frows (l1 ++ { x with f := { x.f with now := b }, na := a, nc := c } :: l2) := by
  have e : ∀ y : Rf, frows (l1 ++ y :: l2) = frows l1 ++ (frow y ++ frows l2) := fun y => by simp [frows]
  rw [e, e]
  have hl : (frows l1).length = j * 4 := by rw [frows_len, hj]
  rw [List.set_append_right _ _ (by omega), hl, show j * 4 + 1 - j * 4 = 1 by omega]
  rfl

/-- a change, on the plain disk and here -/
theorem change_ref_any (W : Nat) (h : Rh) (fv pv : Value) (fs : List Rf) (ps : List Rp) (d : Dk) (m : Nat) (F : Assn) (w : World) (hs : Sat (coreR W h fv pv * F) w) (r : RefOf h fs ps d) (ok : Ok m d) (hm : m ≤ 1099511627776) :
    Calls Try.prog 100 #[.pointer (some ⟨W, 0, none⟩)] w fun e w' => ∃ h', e = .returned (.int .i64 (if d.stop then 8 else 0)) ∧ RefOf h' fs ps (if d.stop then { d with down := true } else d.ticked) ∧ h'.down = (d.stop || h.down) ∧ Sat (coreR W h' fv pv * F) w' := by
  have hc := ok.changes
  have hl := ok.left
  rw [← r.changes] at hc
  rcases Bool.eq_false_or_eq_true d.armed with ha | ha
  · have hle := r.left ha
    by_cases h0 : d.left = 0
    · have hst : d.stop = true := by unfold Dk.stop; rw [ha, h0]; rfl
      refine (change_ref_stop W h fv pv F w hs (by rw [r.armed, ha]) (by rw [hle, h0])).mono fun e w' ⟨h1, h2⟩ => ?_
      refine ⟨_, by rw [if_pos hst]; exact h1, ?_, by rw [hst]; rfl, h2⟩
      rw [if_pos hst]
      exact ⟨r.room, r.changes, r.armed, rfl, (fun _ => hle), r.files, r.rising, r.pend⟩
    · have hst : d.stop = false := by unfold Dk.stop; rw [ha]; simpa using h0
      refine (change_ref_on W h fv pv F w hs (by rw [r.armed, ha]) (by rw [hle]; exact h0) (by omega) (by omega) (by omega) (by omega)).mono fun e w' ⟨h1, h2⟩ => ?_
      refine ⟨_, by rw [if_neg (by simp [hst])]; exact h1, ?_, by rw [hst]; rfl, h2⟩
      rw [if_neg (by simp [hst])]
      exact ⟨r.room, (by show h.changes + 1 = d.changes + 1; rw [r.changes]), r.armed, r.down, (fun _ => by show h.left - 1 = d.left - 1; rw [hle]), r.files, r.rising, r.pend⟩
  · have hst : d.stop = false := by unfold Dk.stop; rw [ha]; rfl
    refine (change_ref_off W h fv pv F w hs (by rw [r.armed, ha]) (by omega) (by omega)).mono fun e w' ⟨h1, h2⟩ => ?_
    refine ⟨_, by rw [if_neg (by simp [hst])]; exact h1, ?_, by rw [hst]; rfl, h2⟩
    rw [if_neg (by simp [hst])]
    exact ⟨r.room, (by show h.changes + 1 = d.changes + 1; rw [r.changes]), r.armed, r.down, (fun h => by have h' : d.armed = true := h; rw [ha] at h'; cases h'), r.files, r.rising, r.pend⟩

end Go.Proofs.Ytjhkmmpgjiciiaa
