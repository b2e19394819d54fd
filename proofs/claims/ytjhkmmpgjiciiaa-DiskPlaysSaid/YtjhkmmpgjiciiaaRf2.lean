/-
  The reference disk: change, fits, settled, Lay.
-/
import Derived.Test.YtjhkmmpgjiciiaaRf1
namespace Go.Proofs.Ytjhkmmpgjiciiaa
set_option linter.unusedSimpArgs false
set_option linter.unusedVariables false
open Go.RowKit Go.Sl Go.Dk
attribute [local go_sem ↓] Go.wp_at_zero Go.wp_at_succ
attribute [local go_sem] Go.Sl.cell_sat Go.Sl.frozen_sat

theorem change_ref_stop (W : Nat) (h : Rh) (fv pv : Value) (F : Assn) (w : World) (hs : Sat (coreR W h fv pv * F) w) (ha : h.armed = true) (hl : h.left = 0) :
    Calls Try.prog 100 #[.pointer (some ⟨W, 0, none⟩)] w fun e w' => e = .returned (.int .i64 8) ∧ Sat (coreR W { h with down := true } fv pv * F) w' := by
  obtain ⟨room, changes, left, armed, down⟩ := h
  simp only at ha hl
  subst ha hl
  haveI := hs.i
  clear hs
  go_enter Try.func100, Try.ntmps100
  go_wp2
  try go_quiet (fail)
  go_wp2
  go_ret
  exact ⟨rfl, satI⟩

theorem change_ref_off (W : Nat) (h : Rh) (fv pv : Value) (F : Assn) (w : World) (hs : Sat (coreR W h fv pv * F) w) (ha : h.armed = false) (h2 : 0 ≤ h.changes) (h3 : h.changes ≤ 4611686018427387904) :
    Calls Try.prog 100 #[.pointer (some ⟨W, 0, none⟩)] w fun e w' => e = .returned (.int .i64 0) ∧ Sat (coreR W { h with changes := h.changes + 1 } fv pv * F) w' := by
  obtain ⟨room, changes, left, armed, down⟩ := h
  simp only at ha h2 h3
  subst ha
  haveI := hs.i
  clear hs
  go_enter Try.func100, Try.ntmps100
  go_wp2
  try go_quiet (fail)
  go_wp2
  go_ret
  exact ⟨rfl, satI⟩

theorem change_ref_on (W : Nat) (h : Rh) (fv pv : Value) (F : Assn) (w : World) (hs : Sat (coreR W h fv pv * F) w) (ha : h.armed = true) (hl : h.left ≠ 0) (h1 : -4611686018427387904 ≤ h.left) (h1' : h.left ≤ 9223372036854775807) (h2 : 0 ≤ h.changes) (h3 : h.changes ≤ 4611686018427387904) :
    Calls Try.prog 100 #[.pointer (some ⟨W, 0, none⟩)] w fun e w' => e = .returned (.int .i64 0) ∧ Sat (coreR W { h with left := h.left - 1, changes := h.changes + 1 } fv pv * F) w' := by
  obtain ⟨room, changes, left, armed, down⟩ := h
  simp only at ha hl h1 h1' h2 h3
  subst ha
  have hd : (left == 0) = false := by simpa using hl
  haveI := hs.i
  clear hs
  go_enter Try.func100, Try.ntmps100
  go_wp2
  try go_quiet (fail)
  go_wp2
  go_ret
  exact ⟨rfl, satI⟩

def rents (l : List Rf) : List (ByteArray × Fl) := l.map fun x => (x.nm, x.f)
def fitR (room : Int) (fs : List (ByteArray × Fl)) (f : Option Fl) (size : Int) : Int :=
  if f.isNone && decide (16 ≤ fs.length) then 11 else
  if decide ((had f : Int) < size) && decide (room < (Go.Dk.sum fs : Int) - had f + size) then 7 else 0
theorem fits_fitR (d : Dk) (f : Option Fl) (size : Int) : d.fits f size = fitR d.room d.files f size := rfl
theorem sum_rents (l : List Rf) : Go.Dk.sum (rents l) = lensR l := by simp [Go.Dk.sum, rents, lensR, List.map_map, Function.comp_def]
theorem fget_hit {nm : ByteArray} {l1 : List Rf} {x : Rf} {l2 : List Rf} (h : ∀ y ∈ l1, y.nm ≠ nm) (hx : x.nm = nm) : fget nm (rents (l1 ++ x :: l2)) = some x.f := by
  induction l1 with
  | nil => show (if nm = x.nm then _ else _) = _; rw [if_pos hx.symm]
  | cons m l ih =>
    show (if nm = m.nm then _ else _) = _
    rw [if_neg (fun e => h m (by simp) e.symm)]
    exact ih fun m hm => h m (by simp [hm])
theorem fget_miss {nm : ByteArray} {l : List Rf} (h : ∀ y ∈ l, y.nm ≠ nm) : fget nm (rents l) = none := by
  induction l with
  | nil => rfl
  | cons m l ih =>
    show (if nm = m.nm then _ else _) = _
    rw [if_neg (fun e => h m (by simp) e.symm)]
    exact ih fun m hm => h m (by simp [hm])

/-- a name among the files, or not -/
theorem find_cases (nm : ByteArray) (fs : List Rf) :
    (findI nm fs = -1 ∧ fget nm (rents fs) = none ∧ ∀ y ∈ fs, y.nm ≠ nm) ∨ ∃ l1 x l2, fs = l1 ++ x :: l2 ∧ x.nm = nm ∧ (∀ y ∈ l1, y.nm ≠ nm) ∧ findI nm fs = (l1.length : Nat) ∧ fget nm (rents fs) = some x.f := by
  by_cases h : ∀ y ∈ fs, y.nm ≠ nm
  · exact .inl ⟨findI_miss h, fget_miss h, h⟩
  · right
    have : ∃ l1 x l2, fs = l1 ++ x :: l2 ∧ x.nm = nm ∧ (∀ y ∈ l1, y.nm ≠ nm) := by
      induction fs with
      | nil => exact absurd (by simp) h
      | cons y l ih =>
        by_cases hy : y.nm = nm
        · exact ⟨[], y, l, rfl, hy, by simp⟩
        · obtain ⟨l1, x, l2, rfl, h2, h3⟩ := ih (fun h' => h (by intro z hz; rcases List.mem_cons.1 hz with rfl | hz; exact hy; exact h' z hz))
          exact ⟨y :: l1, x, l2, rfl, h2, fun z hz => by rcases List.mem_cons.1 hz with rfl | hz; exact hy; exact h3 z hz⟩
    obtain ⟨l1, x, l2, rfl, h2, h3⟩ := this
    refine ⟨l1, x, l2, rfl, h2, h3, findI_hit (j := l1.length) (x := x) (by simp) h2 (by simpa using h3), fget_hit h3 h2⟩

set_option maxHeartbeats 800000 in
theorem fits_ref (W : Nat) (h : Rh) (fa : Option Addr) (fc : Nat) (pv : Value) (fs : List Rf) (nm : ByteArray) (size : Int) (F : Assn) (w : World) (hs : Sat (coreR W h (.slice fa fs.length fc) pv * (rw TRF 4 (.slice fa fs.length fc) (frows fs) * F)) w) (hb : lensR fs ≤ 4611686018427387904) (h16 : fs.length ≤ 16) (hs0 : 0 ≤ size) (hs1 : size ≤ 4611686018427387903) (hr0 : 0 ≤ h.room) (hr1 : h.room ≤ 9223372036854775807) :
    Calls Try.prog 99 #[.pointer (some ⟨W, 0, none⟩), .string nm, .int .i64 size] w fun e w' => e = .returned (.int .i64 (fitR h.room (rents fs) (fget nm (rents fs)) size)) ∧ Sat (coreR W h (.slice fa fs.length fc) pv * (rw TRF 4 (.slice fa fs.length fc) (frows fs) * F)) w' := by
  have hfi := find_ref W h fa fc pv fs nm F w hs
  have hsu := fun F w hs => sum_ref W h fa fc pv fs F w hs hb
  have HS : Aside (∀ (F : Assn) (w : World), Sat (coreR W h (.slice fa fs.length fc) pv * (rw TRF 4 (.slice fa fs.length fc) (frows fs) * F)) w → Calls Try.prog 107 #[.pointer (some ⟨W, 0, none⟩)] w fun e w' => e = .returned (.int .i64 (lensR fs : Nat)) ∧ w = w') := hsu
  clear hsu
  haveI := hs.i
  rcases find_cases nm fs with ⟨h1, h2, h3⟩ | ⟨l1, x, l2, hfs, hx, h3, h1, h2⟩
  · rw [h1] at hfi
    rw [h2]
    by_cases hl : fs.length = 16
    · have HR : Aside (fitR h.room (rents fs) none size = 11) := (by unfold fitR; rw [show (rents fs).length = 16 by simpa [rents] using hl]; rfl : _ = _)
      rw [HR.out]
      have hl' : ((fs.length : Int) == 16) = true := by simp; omega
      clear h1 h2 h3 HR HS
      go_enter Try.func99, Try.ntmps99
      go_wp2_with fail
      refine hfi.mono ?_
      rintro e w' ⟨rfl, rfl⟩
      go_wp2
      try go_quiet (fail)
      go_wp2
      go_ret
      exact ⟨rfl, satI⟩
    · have hl' : ((fs.length : Int) == 16) = false := by simp; omega
      have HR : Aside (fitR h.room (rents fs) none size = if decide (0 < size) && decide (h.room < (lensR fs : Int) + size) then 7 else 0) := (by
        unfold fitR
        rw [show (rents fs).length = fs.length by simp [rents], sum_rents, decide_eq_false (show ¬ 16 ≤ fs.length by omega), ← Int.sub_zero (lensR fs : Int)]
        rfl : _ = _)
      clear h1 h2 h3
      go_enter Try.func99, Try.ntmps99
      go_wp2_with fail
      refine hfi.mono ?_
      rintro e w' ⟨rfl, rfl⟩
      go_upto_region 7 with (fail)
      by_cases hz : 0 < size
      · have hd0 : decide (0 < size) = true := by simpa using hz
        have hw1 : IntKind.i64.wrap (lensR fs : Int) = (lensR fs : Int) := IntWalk.i64_in _ (by omega)
        have hw2 : IntKind.i64.wrap ((lensR fs : Int) + size) = (lensR fs : Int) + size := IntWalk.i64_in _ (by omega)
        by_cases hq : h.room < (lensR fs : Int) + size
        · have hd1 : decide (h.room < (lensR fs : Int) + size) = true := by simpa using hq
          go_region_held3 (fun w' => w'.cell? ⟨W, 0, none⟩ = some (.int .i64 h.room)) (first | exact cell_sat _ _ _) (first
            | (go_at_call 107; refine (HS.out _ _ satI).mono ?_; rintro e w2 ⟨rfl, rfl⟩))
          all_goals
            clear hw1 hw2
            go_wp2
            go_ret
            exact ⟨by rw [HR.out, if_pos (by simp; omega)]; rfl, satI⟩
        · have hd1 : decide (h.room < (lensR fs : Int) + size) = false := by simpa using hq
          go_region_held3 (fun w' => w'.cell? ⟨W, 0, none⟩ = some (.int .i64 h.room)) (first | exact cell_sat _ _ _) (first
            | (go_at_call 107; refine (HS.out _ _ satI).mono ?_; rintro e w2 ⟨rfl, rfl⟩))
          all_goals
            clear hw1 hw2
            go_wp2
            go_ret
            exact ⟨by rw [HR.out, if_neg (by simp; omega)]; rfl, satI⟩
      · have hd0 : decide (0 < size) = false := by simpa using hz
        go_wp2
        try go_quiet (fail)
        go_wp2
        go_ret
        exact ⟨by rw [HR.out, if_neg (by simp; omega)]; rfl, satI⟩
  · rw [h1] at hfi
    rw [h2]
    have hj : l1.length < fs.length := by rw [hfs]; simp
    have hxj : fs[l1.length]? = some x := by rw [hfs]; simp
    obtain ⟨hd, hhd⟩ : ∃ m : Nat, x.f.now.length = m := ⟨_, rfl⟩
    obtain ⟨j, hjj⟩ : ∃ m : Nat, l1.length = m := ⟨_, rfl⟩
    have hdl : hd ≤ lensR fs := by
      have a1 := lensR_take hxj
      have a2 := lensR_le fs (l1.length + 1)
      omega
    have HR : Aside (fitR h.room (rents fs) (some x.f) size = if decide ((hd : Int) < size) && decide (h.room < (lensR fs : Int) - hd + size) then 7 else 0) := (by
      unfold fitR
      rw [sum_rents, ← hhd]
      rfl : _ = _)
    obtain ⟨g, rfl⟩ := row_some (hs.take (rw TRF 4 (.slice fa fs.length fc) (frows fs))) (by omega)
    obtain ⟨_, i1, _, _⟩ := frows_at hxj
    rw [hjj] at hfi hj i1
    rw [hhd] at i1
    have hj' : (j : Int) < fs.length := by omega
    haveI := hs.i
    clear h1 h2 h3 hx hxj hfs hjj hhd
    go_enter Try.func99, Try.ntmps99
    go_wp2_with fail
    refine hfi.mono ?_
    rintro e w' ⟨rfl, rfl⟩
    go_upto_region 7 with (fail)
    by_cases hz : (hd : Int) < size
    · have hd0 : decide ((hd : Int) < size) = true := by simpa using hz
      have hw1 : IntKind.i64.wrap ((lensR fs : Int) - (hd : Int)) = (lensR fs : Int) - (hd : Int) := IntWalk.i64_in _ (by omega)
      have hw2 : IntKind.i64.wrap ((lensR fs : Int) - (hd : Int) + size) = (lensR fs : Int) - (hd : Int) + size := IntWalk.i64_in _ (by omega)
      by_cases hq : h.room < (lensR fs : Int) - (hd : Int) + size
      · have hd1 : decide (h.room < (lensR fs : Int) - (hd : Int) + size) = true := by simpa using hq
        go_region_held3 (fun w' => w'.cell? ⟨W, 0, none⟩ = some (.int .i64 h.room)) (first | exact cell_sat _ _ _) (first
          | (go_at_call 107; refine (HS.out _ _ satI).mono ?_; rintro e w2 ⟨rfl, rfl⟩))
        all_goals
          clear hw1 hw2
          go_wp2
          go_ret
          exact ⟨by rw [HR.out, if_pos (by simp; omega)]; rfl, satI⟩
      · have hd1 : decide (h.room < (lensR fs : Int) - (hd : Int) + size) = false := by simpa using hq
        go_region_held3 (fun w' => w'.cell? ⟨W, 0, none⟩ = some (.int .i64 h.room)) (first | exact cell_sat _ _ _) (first
          | (go_at_call 107; refine (HS.out _ _ satI).mono ?_; rintro e w2 ⟨rfl, rfl⟩))
        all_goals
          clear hw1 hw2
          go_wp2
          go_ret
          exact ⟨by rw [HR.out, if_neg (by simp; omega)]; rfl, satI⟩
    · have hd0 : decide ((hd : Int) < size) = false := by simpa using hz
      go_wp2
      try go_quiet (fail)
      go_wp2
      go_ret
      exact ⟨by rw [HR.out, if_neg (by simp; omega)]; rfl, satI⟩

end Go.Proofs.Ytjhkmmpgjiciiaa
