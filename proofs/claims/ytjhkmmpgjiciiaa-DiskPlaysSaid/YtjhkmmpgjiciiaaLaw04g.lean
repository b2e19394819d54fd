/-
  The disk's laws: one call on the disk and on the reference.
-/
import Derived.Test.YtjhkmmpgjiciiaaLaw04f
namespace Go.Proofs.Ytjhkmmpgjiciiaa
set_option linter.unusedSimpArgs false
set_option linter.unusedVariables false
open Go.RowKit Go.Sl Go.Dk
attribute [local go_sem ↓] Go.wp_at_zero Go.wp_at_succ
attribute [local go_sem] Go.Sl.cell_sat Go.Sl.frozen_sat

/-- what a call does to a plain disk -/
def stepD (c : CallD) (zs : List Int) (d : Dk) : Dk :=
  if c.kd = 1 then (d.write c.nm c.n (bxl (c.len % 400).toNat c.x)).2 else
  if c.kd = 2 then (d.cut c.nm c.n).2 else
  if c.kd = 3 then (d.sync c.nm).2 else
  if c.kd = 5 then (d.load c.nm (bxl (c.len % 400).toNat c.x)).2 else
  if c.kd = 6 then (d.arm c.n).2 else
  if c.kd = 7 then d.crash zs else d

abbrev cagg (kd : Int) (nm : ByteArray) (n len : Int) (x : UInt8) (pa : Option Addr) (pn pc : Nat) : Value := .agg #[.int .i64 kd, .string nm, .int .i64 n, .int .i64 len, .int .u8 x.toNat, .slice pa pn pc]
abbrev cblk (b : Nat) (kd : Int) (nm : ByteArray) (n len : Int) (x : UInt8) (pa : Option Addr) (pn pc : Nat) : Assn := block b TCd [.int .i64 kd, .string nm, .int .i64 n, .int .i64 len, .int .u8 x.toNat, .slice pa pn pc]

/-- what a call ends with -/
def Did (D W : Nat) (d1 d2 d1' d2' : Dk) (F : Assn) (e : Ending) (w' : World) : Prop :=
  ∃ r : Bool, e = .returned (.bool r) ∧ (d1 = d2 → r = true) ∧ Sat (diskP D d1' * (refP W d2' * F)) w'

set_option maxRecDepth 100000 in
set_option maxHeartbeats 3200000 in
theorem does_cut (D W : Nat) (d1 d2 : Dk) (m : Nat) (nm : ByteArray) (n len : Int) (x : UInt8) (pa : Option Addr) (pn pc : Nat) (F : Assn) (w : World) (hs : Sat (diskP D d1 * (refP W d2 * F)) w) (hnm : nm.size ≤ 9223372036854775807) (ok1 : Ok m d1) (ok2 : Ok m d2) (hm : m ≤ 1099511627776) :
    Calls Try.prog 38 #[.pointer (some ⟨D, 0, none⟩), .pointer (some ⟨W, 0, none⟩), cagg 2 nm n len x pa pn pc] w (Did D W d1 d2 (d1.cut nm n).2 (d2.cut nm n).2 F) := by
  have h1 := fun (F : Assn) (w : World) (h : Sat (diskP D d1 * F) w) => cut_any D d1 m nm n F w h hnm ok1 hm
  have h2 := fun (F : Assn) (w : World) (h : Sat (refP W d2 * F) w) => cut_ref W d2 m nm n F w h hnm ok2 hm
  have hee : d1 = d2 → ((d1.cut nm n).1 == (d2.cut nm n).1) = true := by rintro rfl; simp
  obtain ⟨⟨z1, e1⟩, q1⟩ : ∃ r, d1.cut nm n = r := ⟨_, rfl⟩
  obtain ⟨⟨z2, e2⟩, q2⟩ : ∃ r, d2.cut nm n = r := ⟨_, rfl⟩
  rw [q1] at h1 hee
  rw [q2] at h2 hee
  rw [q1, q2]
  have H1 : Aside (∀ (F : Assn) (w : World), Sat (diskP D d1 * F) w → Calls Try.prog 47 #[.pointer (some ⟨D, 0, none⟩), .string nm, .int .i64 n] w fun e w' => e = .returned (.int .i64 z1) ∧ Sat (diskP D e1 * F) w') := h1
  have H2 : Aside (∀ (F : Assn) (w : World), Sat (refP W d2 * F) w → Calls Try.prog 79 #[.pointer (some ⟨W, 0, none⟩), .string nm, .int .i64 n] w fun e w' => e = .returned (.int .i64 z2) ∧ Sat (refP W e2 * F) w') := h2
  have HE : Aside (d1 = d2 → (z1 == z2) = true) := hee
  haveI := hs.i
  clear h1 h2 hee q1 q2
  go_enter Try.func38, Try.ntmps38
  go_upto_region 12 with (fail)
  go_region_held3 (fun w' => w'.cell? ⟨w.heap.size, 1, none⟩ = some (.string nm) ∧ w'.cell? ⟨w.heap.size, 2, none⟩ = some (.int .i64 n)) (first | exact ⟨cell_sat _ _ _, cell_sat _ _ _⟩) (first
    | (go_at_call 47; refine (H1.out _ _ (takeI (diskP D d1))).mono ?_; rintro e w3 ⟨rfl, hs3⟩; haveI := hs3.i)
    | (go_at_call 79; refine (H2.out _ _ (takeI (refP W d2))).mono ?_; rintro e w4 ⟨rfl, hs4⟩; haveI := hs4.i))
  all_goals
    go_wp2
    go_ret
    exact ⟨_, rfl, HE.out, satI_weak (C := cblk w.heap.size 2 nm n len x pa pn pc) (by unfold cblk; ac_rfl)⟩

set_option maxRecDepth 100000 in
set_option maxHeartbeats 3200000 in
theorem does_sync (D W : Nat) (d1 d2 : Dk) (m : Nat) (nm : ByteArray) (n len : Int) (x : UInt8) (pa : Option Addr) (pn pc : Nat) (F : Assn) (w : World) (hs : Sat (diskP D d1 * (refP W d2 * F)) w) (hnm : nm.size ≤ 9223372036854775807) (ok1 : Ok m d1) (ok2 : Ok m d2) (hm : m ≤ 1099511627776) :
    Calls Try.prog 38 #[.pointer (some ⟨D, 0, none⟩), .pointer (some ⟨W, 0, none⟩), cagg 3 nm n len x pa pn pc] w (Did D W d1 d2 (d1.sync nm).2 (d2.sync nm).2 F) := by
  have h1 := fun (F : Assn) (w : World) (h : Sat (diskP D d1 * F) w) => sync_any D d1 m nm F w h hnm ok1 hm
  have h2 := fun (F : Assn) (w : World) (h : Sat (refP W d2 * F) w) => sync_ref W d2 m nm F w h hnm ok2 hm
  have hee : d1 = d2 → ((d1.sync nm).1 == (d2.sync nm).1) = true := by rintro rfl; simp
  obtain ⟨⟨z1, e1⟩, q1⟩ : ∃ r, d1.sync nm = r := ⟨_, rfl⟩
  obtain ⟨⟨z2, e2⟩, q2⟩ : ∃ r, d2.sync nm = r := ⟨_, rfl⟩
  rw [q1] at h1 hee
  rw [q2] at h2 hee
  rw [q1, q2]
  have H1 : Aside (∀ (F : Assn) (w : World), Sat (diskP D d1 * F) w → Calls Try.prog 33 #[.pointer (some ⟨D, 0, none⟩), .string nm] w fun e w' => e = .returned (.int .i64 z1) ∧ Sat (diskP D e1 * F) w') := h1
  have H2 : Aside (∀ (F : Assn) (w : World), Sat (refP W d2 * F) w → Calls Try.prog 80 #[.pointer (some ⟨W, 0, none⟩), .string nm] w fun e w' => e = .returned (.int .i64 z2) ∧ Sat (refP W e2 * F) w') := h2
  have HE : Aside (d1 = d2 → (z1 == z2) = true) := hee
  haveI := hs.i
  clear h1 h2 hee q1 q2
  go_enter Try.func38, Try.ntmps38
  go_upto_region 14 with (fail)
  go_region_held3 (fun w' => w'.cell? ⟨w.heap.size, 1, none⟩ = some (.string nm)) (first | exact cell_sat _ _ _) (first
    | (go_at_call 33; refine (H1.out _ _ (takeI (diskP D d1))).mono ?_; rintro e w3 ⟨rfl, hs3⟩; haveI := hs3.i)
    | (go_at_call 80; refine (H2.out _ _ (takeI (refP W d2))).mono ?_; rintro e w4 ⟨rfl, hs4⟩; haveI := hs4.i))
  all_goals
    go_wp2
    go_ret
    exact ⟨_, rfl, HE.out, satI_weak (C := cblk w.heap.size 3 nm n len x pa pn pc) (by unfold cblk; ac_rfl)⟩

set_option maxRecDepth 100000 in
set_option maxHeartbeats 3200000 in
theorem does_arm (D W : Nat) (d1 d2 : Dk) (m : Nat) (nm : ByteArray) (n len : Int) (x : UInt8) (pa : Option Addr) (pn pc : Nat) (F : Assn) (w : World) (hs : Sat (diskP D d1 * (refP W d2 * F)) w) (hnm : nm.size ≤ 9223372036854775807) (ok1 : Ok m d1) (ok2 : Ok m d2) (hm : m ≤ 1099511627776) :
    Calls Try.prog 38 #[.pointer (some ⟨D, 0, none⟩), .pointer (some ⟨W, 0, none⟩), cagg 6 nm n len x pa pn pc] w (Did D W d1 d2 (d1.arm n).2 (d2.arm n).2 F) := by
  have h1 := fun (F : Assn) (w : World) (h : Sat (diskP D d1 * F) w) => arm_any D d1 n F w h
  have h2 := fun (F : Assn) (w : World) (h : Sat (refP W d2 * F) w) => arm_ref W d2 n F w h
  have hee : d1 = d2 → ((d1.arm n).1 == (d2.arm n).1) = true := by rintro rfl; simp
  obtain ⟨⟨z1, e1⟩, q1⟩ : ∃ r, d1.arm n = r := ⟨_, rfl⟩
  obtain ⟨⟨z2, e2⟩, q2⟩ : ∃ r, d2.arm n = r := ⟨_, rfl⟩
  rw [q1] at h1 hee
  rw [q2] at h2 hee
  rw [q1, q2]
  have H1 : Aside (∀ (F : Assn) (w : World), Sat (diskP D d1 * F) w → Calls Try.prog 51 #[.pointer (some ⟨D, 0, none⟩), .int .i64 n] w fun e w' => e = .returned (.int .i64 z1) ∧ Sat (diskP D e1 * F) w') := h1
  have H2 : Aside (∀ (F : Assn) (w : World), Sat (refP W d2 * F) w → Calls Try.prog 83 #[.pointer (some ⟨W, 0, none⟩), .int .i64 n] w fun e w' => e = .returned (.int .i64 z2) ∧ Sat (refP W e2 * F) w') := h2
  have HE : Aside (d1 = d2 → (z1 == z2) = true) := hee
  haveI := hs.i
  clear h1 h2 hee q1 q2
  go_enter Try.func38, Try.ntmps38
  go_upto_region 33 with (fail)
  go_region_held3 (fun w' => w'.cell? ⟨w.heap.size, 2, none⟩ = some (.int .i64 n)) (first | exact cell_sat _ _ _) (first
    | (go_at_call 51; refine (H1.out _ _ (takeI (diskP D d1))).mono ?_; rintro e w3 ⟨rfl, hs3⟩; haveI := hs3.i)
    | (go_at_call 83; refine (H2.out _ _ (takeI (refP W d2))).mono ?_; rintro e w4 ⟨rfl, hs4⟩; haveI := hs4.i))
  all_goals
    go_wp2
    go_ret
    exact ⟨_, rfl, HE.out, satI_weak (C := cblk w.heap.size 6 nm n len x pa pn pc) (by unfold cblk; ac_rfl)⟩

set_option maxRecDepth 100000 in
set_option maxHeartbeats 3200000 in
theorem does_crash (D W : Nat) (d1 d2 : Dk) (m : Nat) (nm : ByteArray) (n len : Int) (x : UInt8) (pa : Option Addr) (pn pc : Nat) (zs : List Int) (B F : Assn) (w : World) (hz : ReadsZ B (.slice pa pn pc) zs) (hs : Sat (diskP D d1 * (refP W d2 * (B * F))) w) (hzl : zs.length ≤ 9223372036854775807) (ok1 : Ok m d1) (ok2 : Ok m d2) (hm : m ≤ 1099511627776) :
    Calls Try.prog 38 #[.pointer (some ⟨D, 0, none⟩), .pointer (some ⟨W, 0, none⟩), cagg 7 nm n len x pa pn pc] w (Did D W d1 d2 (d1.crash zs) (d2.crash zs) (B * F)) := by
  have H1 : Aside (∀ (F : Assn) (w : World), Sat (diskP D d1 * (B * F)) w → Calls Try.prog 34 #[.pointer (some ⟨D, 0, none⟩), .slice pa pn pc] w fun e w' => e = .returned (.tuple #[]) ∧ Sat (diskP D (d1.crash zs) * (B * F)) w') := fun F w h => crash_any D d1 m zs _ B F w hz h hzl ok1 hm
  have H2 : Aside (∀ (F : Assn) (w : World), Sat (refP W d2 * (B * F)) w → Calls Try.prog 84 #[.pointer (some ⟨W, 0, none⟩), .slice pa pn pc] w fun e w' => e = .returned (.tuple #[]) ∧ Sat (refP W (d2.crash zs) * (B * F)) w') := fun F w h => crash_ref W d2 m zs _ B F w hz h hzl ok2 hm
  obtain ⟨e1, q1⟩ : ∃ r, d1.crash zs = r := ⟨_, rfl⟩
  obtain ⟨e2, q2⟩ : ∃ r, d2.crash zs = r := ⟨_, rfl⟩
  rw [q1] at H1 ⊢
  rw [q2] at H2 ⊢
  haveI := hs.i
  clear q1 q2
  go_enter Try.func38, Try.ntmps38
  go_wp2_with fail
  refine (H1.out _ _ (satI.take2 (diskP D d1) B)).mono ?_
  rintro e w3 ⟨rfl, hs3⟩
  haveI := hs3.i
  go_wp2_with fail
  refine (H2.out _ _ (satI.take2 (refP W d2) B)).mono ?_
  rintro e w4 ⟨rfl, hs4⟩
  haveI := hs4.i
  go_wp2
  go_ret
  exact ⟨_, rfl, fun _ => rfl, satI_weak (C := cblk w.heap.size 7 nm n len x pa pn pc) (by unfold cblk; ac_rfl)⟩

theorem read_00 (d : Dk) (nm : ByteArray) : (d.read nm 0 0).2 = [] := by
  unfold Dk.read
  by_cases h : d.may nm true ≠ 0
  · rw [if_pos h]
  · rw [if_neg h, if_neg (by omega)]
    simp
theorem size_read (d : Dk) (nm : ByteArray) : 0 ≤ d.size nm ↔ (d.read nm 0 0).1 = 0 := by
  unfold Dk.size Dk.read
  by_cases h : d.may nm true ≠ 0
  · rw [if_pos h, if_pos h]
    constructor
    · intro h2; omega
    · intro h2; exact absurd h2 h
  · rw [if_neg h, if_neg h, if_neg (by omega)]
    simp

set_option maxRecDepth 100000 in
set_option maxHeartbeats 3200000 in
theorem does_other (D W : Nat) (d1 d2 : Dk) (m : Nat) (kd : Int) (nm : ByteArray) (n len : Int) (x : UInt8) (pa : Option Addr) (pn pc : Nat) (F : Assn) (w : World) (hs : Sat (diskP D d1 * (refP W d2 * F)) w) (hnm : nm.size ≤ 9223372036854775807) (ok1 : Ok m d1) (ok2 : Ok m d2)
    (k1 : (kd == 1) = false) (k2 : (kd == 2) = false) (k3 : (kd == 3) = false) (k4 : (kd == 4) = false) (k5 : (kd == 5) = false) (k6 : (kd == 6) = false) (k7 : (kd == 7) = false) :
    Calls Try.prog 38 #[.pointer (some ⟨D, 0, none⟩), .pointer (some ⟨W, 0, none⟩), cagg kd nm n len x pa pn pc] w (Did D W d1 d2 d1 d2 F) := by
  have h1 := fun (F : Assn) (w : World) (h : Sat (diskP D d1 * F) w) => size_any D d1 nm F w h hnm
  have h2 := fun (F : Assn) (w : World) (h : Sat (refP W d2 * F) w) => read_ref W d2 m nm 0 0 F w h hnm ok2
  have hee : d1 = d2 → (0 ≤ d1.size nm ↔ (d2.read nm 0 0).1 = 0) := by rintro rfl; exact size_read _ _
  rw [read_00] at h2
  obtain ⟨z1, q1⟩ : ∃ r, d1.size nm = r := ⟨_, rfl⟩
  obtain ⟨z2, q2⟩ : ∃ r, (d2.read nm 0 0).1 = r := ⟨_, rfl⟩
  rw [q1] at h1 hee
  rw [q2] at h2 hee
  have H1 : Aside (∀ (F : Assn) (w : World), Sat (diskP D d1 * F) w → Calls Try.prog 36 #[.pointer (some ⟨D, 0, none⟩), .string nm] w fun e w' => e = .returned (.int .i64 z1) ∧ w = w') := h1
  have H2 : Aside (∀ (F : Assn) (w : World), Sat (refP W d2 * F) w → Calls Try.prog 81 #[.pointer (some ⟨W, 0, none⟩), .string nm, .int .i64 0, .int .i64 0] w fun e w' => ∃ v, e = .returned (.tuple #[v, .int .i64 z2]) ∧ Sat (rw TB 1 v (bys []) * (refP W d2 * F)) w') := h2
  have HE : Aside (d1 = d2 → (0 ≤ z1 ↔ z2 = 0)) := hee
  haveI := hs.i
  clear h1 h2 hee q1 q2
  go_enter Try.func38, Try.ntmps38
  go_wp2_with fail
  refine (H2.out _ _ (takeI (refP W d2))).mono ?_
  rintro e w3 ⟨v3, rfl, hs3⟩
  obtain ⟨a3, c3, rfl, _, _⟩ := rw_vb hs3
  rw [List.length_nil] at hs3 ⊢
  haveI := hs3.i
  by_cases g1 : 0 ≤ z1
  · have g1' : decide (0 ≤ z1) = true := by simpa using g1
    by_cases g2 : z2 = 0
    · subst g2
      go_wp2_with fail
      refine (H1.out _ _ (takeI (diskP D d1))).mono ?_
      rintro e w4 ⟨rfl, rfl⟩
      go_wp2
      go_ret
      exact ⟨_, rfl, fun _ => rfl, satI_weak (C := cblk w.heap.size kd nm n len x pa pn pc * rw TB 1 (.slice a3 0 c3) (bys [])) (by unfold cblk; ac_rfl)⟩
    · have g2' : (z2 == 0) = false := by simpa using g2
      have HX : Aside (¬ d1 = d2) := fun e => g2 ((HE.out e).1 g1)
      clear g2
      go_wp2_with fail
      refine (H1.out _ _ (takeI (diskP D d1))).mono ?_
      rintro e w4 ⟨rfl, rfl⟩
      go_wp2
      go_ret
      exact ⟨_, rfl, fun e => absurd e HX.out, satI_weak (C := cblk w.heap.size kd nm n len x pa pn pc * rw TB 1 (.slice a3 0 c3) (bys [])) (by unfold cblk; ac_rfl)⟩
  · have g1' : decide (0 ≤ z1) = false := by simpa using g1
    by_cases g2 : z2 = 0
    · subst g2
      have HX : Aside (¬ d1 = d2) := fun e => g1 ((HE.out e).2 rfl)
      go_wp2_with fail
      refine (H1.out _ _ (takeI (diskP D d1))).mono ?_
      rintro e w4 ⟨rfl, rfl⟩
      go_wp2
      go_ret
      exact ⟨_, rfl, fun e => absurd e HX.out, satI_weak (C := cblk w.heap.size kd nm n len x pa pn pc * rw TB 1 (.slice a3 0 c3) (bys [])) (by unfold cblk; ac_rfl)⟩
    · have g2' : (z2 == 0) = false := by simpa using g2
      clear g2
      go_wp2_with fail
      refine (H1.out _ _ (takeI (diskP D d1))).mono ?_
      rintro e w4 ⟨rfl, rfl⟩
      go_wp2
      go_ret
      exact ⟨_, rfl, fun _ => rfl, satI_weak (C := cblk w.heap.size kd nm n len x pa pn pc * rw TB 1 (.slice a3 0 c3) (bys [])) (by unfold cblk; ac_rfl)⟩

end Go.Proofs.Ytjhkmmpgjiciiaa
