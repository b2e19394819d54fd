/-
  The disk's laws: a read on the disk and on the reference, a load.
-/
import Derived.Test.YtjhkmmpgjiciiaaLaw04g
namespace Go.Proofs.Ytjhkmmpgjiciiaa
set_option linter.unusedSimpArgs false
set_option linter.unusedVariables false
open Go.RowKit Go.Sl Go.Dk
attribute [local go_sem ↓] Go.wp_at_zero Go.wp_at_succ
attribute [local go_sem] Go.Sl.cell_sat Go.Sl.frozen_sat

theorem u8_succ (x : UInt8) : ((x + 1).toNat : Int) = ((x.toNat : Int) + 1) % 256 := by
  rw [UInt8.toNat_add]
  have : (1 : UInt8).toNat = 1 := rfl
  rw [this]
  omega

set_option maxRecDepth 100000 in
set_option maxHeartbeats 6400000 in
theorem does_read (D W : Nat) (d1 d2 : Dk) (m : Nat) (nm : ByteArray) (n len : Int) (x : UInt8) (pa : Option Addr) (pn pc : Nat) (F : Assn) (w : World) (hs : Sat (diskP D d1 * (refP W d2 * F)) w) (hnm : nm.size ≤ 9223372036854775807) (ok1 : Ok m d1) (ok2 : Ok m d2) :
    Calls Try.prog 38 #[.pointer (some ⟨D, 0, none⟩), .pointer (some ⟨W, 0, none⟩), cagg 4 nm n len x pa pn pc] w (Did D W d1 d2 d1 d2 F) := by
  have h1 := fun (F : Assn) (w : World) (h : Sat (diskP D d1 * F) w) => read_any D d1 nm n len F w h hnm (fun p hp => (ok1.sz p hp).1)
  have h2 := fun (F : Assn) (w : World) (h : Sat (refP W d2 * F) w) => read_ref W d2 m nm n len F w h hnm ok2
  have hee : d1 = d2 → d1.read nm n len = d2.read nm n len := by rintro rfl; rfl
  obtain ⟨⟨z1, l1⟩, q1⟩ : ∃ r, d1.read nm n len = r := ⟨_, rfl⟩
  obtain ⟨⟨z2, l2⟩, q2⟩ : ∃ r, d2.read nm n len = r := ⟨_, rfl⟩
  rw [q1] at h1 hee
  rw [q2] at h2 hee
  have H1 : Aside (∀ (F : Assn) (w : World), Sat (diskP D d1 * F) w → Calls Try.prog 35 #[.pointer (some ⟨D, 0, none⟩), .string nm, .int .i64 n, .int .i64 len] w fun e w' => ∃ v, e = .returned (.tuple #[v, .int .i64 z1]) ∧ Sat (rw TB 1 v (bys l1) * (diskP D d1 * F)) w') := h1
  have H2 : Aside (∀ (F : Assn) (w : World), Sat (refP W d2 * F) w → Calls Try.prog 81 #[.pointer (some ⟨W, 0, none⟩), .string nm, .int .i64 n, .int .i64 len] w fun e w' => ∃ v, e = .returned (.tuple #[v, .int .i64 z2]) ∧ Sat (rw TB 1 v (bys l2) * (refP W d2 * F)) w') := h2
  obtain ⟨rr, hrr⟩ : ∃ r : Bool, r = (decide (l1 = l2) && z1 == z2) := ⟨_, rfl⟩
  have HE : Aside (rr = (decide (l1 = l2) && z1 == z2) ∧ (d1 = d2 → rr = true)) := ⟨hrr, fun e => by cases hee e; rw [hrr]; simp⟩
  haveI := hs.i
  clear h1 h2 hee q1 q2 hrr
  go_enter Try.func38, Try.ntmps38
  go_wp2_with fail
  refine (H1.out _ _ (takeI (diskP D d1))).mono ?_
  rintro e w3 ⟨v3, rfl, hs3⟩
  obtain ⟨a3, c3, rfl, _, hc3⟩ := rw_vb hs3
  haveI := hs3.i
  go_wp2_with fail
  refine (H2.out _ _ (takeI (refP W d2))).mono ?_
  rintro e w4 ⟨v4, rfl, hs4⟩
  obtain ⟨a4, c4, rfl, _, _⟩ := rw_vb hs4
  haveI := hs4.i
  have hsm := same_any (.slice a3 l1.length c3) (.slice a4 l2.length c4) l1 l2 w4 (Reads.rw _ _ (takeI (rw TB 1 (.slice a3 l1.length c3) (bys l1)))) (Reads.rw _ _ hs4)
  clear hs hs3
  have hs5 : Sat (rw TB 1 (.slice a3 l1.length c3) (bys l1) * (diskP D d1 * (refP W d2 * (F * (rw TB 1 (.slice a4 l2.length c4) (bys l2) * cblk w.heap.size 4 nm n len x pa pn pc))))) w4 := satI_eq (by unfold cblk; ac_rfl)
  obtain ⟨R, HR⟩ : ∃ R, Aside (diskP D d1 * (refP W d2 * (F * (rw TB 1 (.slice a4 l2.length c4) (bys l2) * cblk w.heap.size 4 nm n len x pa pn pc))) = R) := ⟨_, rfl⟩
  rw [HR.out] at hs5
  clear hs4
  go_upto_region 18 with (fail)
  go_cut [15] (fun t15 wx => t15 = .bool rr ∧ Sat (rw TB 1 (.slice a3 l1.length c3) (bys l1) * R) wx)
  case first =>
    by_cases hl : l1 = l2
    · rw [decide_eq_true hl] at hsm
      by_cases hz : z1 = z2
      · have hz' : (z1 == z2) = true := by simpa using hz
        have HB : Aside (rr = true) := (by rw [HE.out.1, decide_eq_true hl, hz']; rfl : _ = _)
        clear hl hz
        go_wp2_with fail
        refine hsm.mono ?_
        rintro e w6 ⟨rfl, nd, rfl⟩
        go_wp2_with fail
        go_meet
        exact ⟨by rw [HB.out], hs5.drewN nd⟩
      · have hz' : (z1 == z2) = false := by simpa using hz
        have HB : Aside (rr = false) := (by rw [HE.out.1, decide_eq_true hl, hz']; rfl : _ = _)
        clear hl hz
        go_wp2_with fail
        refine hsm.mono ?_
        rintro e w6 ⟨rfl, nd, rfl⟩
        go_wp2_with fail
        go_meet
        exact ⟨by rw [HB.out], hs5.drewN nd⟩
    · have HB : Aside (rr = false) := (by rw [HE.out.1, decide_eq_false hl]; rfl : _ = _)
      rw [decide_eq_false hl] at hsm
      clear hl
      go_wp2_with fail
      refine hsm.mono ?_
      rintro e w6 ⟨rfl, nd, rfl⟩
      go_wp2_with fail
      go_meet
      exact ⟨by rw [HB.out], hs5.drewN nd⟩
  case rest =>
    obtain ⟨rfl, hs6⟩ := hcut
    clear hs5 hsm
    go_wp2_with fail
    go_loopg [16] l1.length (fun g t wr => ∃ (j : Nat) (bs : List UInt8), t = .int .i64 j ∧ j ≤ l1.length ∧ bs.length = l1.length ∧ Aside (g = l1.length - j) ∧ Sat (rw TB 1 (.slice a3 l1.length c3) (bys bs) * R) wr)
    case atStart => exact ⟨0, l1, rfl, by omega, rfl, rfl, hs6⟩
    case round =>
      clear hs6
      obtain ⟨j, bs, rfl, hj, hbs, A, hs⟩ := hrel
      by_cases hlt : j < l1.length
      · have hlt' : (j : Int) < l1.length := by omega
        obtain ⟨g, rfl⟩ := row_some hs (by omega)
        obtain ⟨y, hy⟩ : ∃ y, bs[j]? = some y := ⟨bs[j], by simp⟩
        have hy8 := y.toNat_lt
        haveI : At (bys bs) j (.int .u8 y.toNat) := ⟨by unfold bys; rw [List.getElem?_map, hy]; rfl⟩
        have HU := u8_succ y
        have HU2 : Aside (((y + 1).toNat : Int) = ((y.toNat : Int) + 1) % 256) := HU
        haveI := hs.i
        have HL : Aside ((bs.set j (y + 1)).length = l1.length) := (by rw [List.length_set]; exact hbs : _ = _)
        clear hy HU hbs
        go_wp2
        go_roundg (l1.length - (j + 1))
        case measure => have := A.out; omega
        case rel =>
          refine ⟨j + 1, bs.set j (y + 1), by go_num, by omega, HL.out, rfl, ?_⟩
          rw [← bys_set, HU2.out]
          exact satI
      · have hlt' : ¬ (j : Int) < l1.length := by omega
        clear hbs
        go_wp2
        go_ret
        refine ⟨_, rfl, HE.out.2, Sat.weak (B := rw TB 1 (.slice a3 l1.length c3) (bys bs) * (rw TB 1 (.slice a4 l2.length c4) (bys l2) * cblk w.heap.size 4 nm n len x pa pn pc)) (hs.eq ?_)⟩
        rw [← HR.out]
        ac_rfl

set_option maxRecDepth 100000 in
set_option maxHeartbeats 6400000 in
theorem does_load (D W : Nat) (d1 d2 : Dk) (m : Nat) (nm : ByteArray) (n len : Int) (x : UInt8) (pa : Option Addr) (pn pc : Nat) (k : Nat) (hk : len % 400 = (k : Int)) (F : Assn) (w : World) (hs : Sat (diskP D d1 * (refP W d2 * F)) w) (hnm : nm.size ≤ 9223372036854775807) (ok1 : Ok m d1) (ok2 : Ok m d2) (hm : m ≤ 1099511627776) :
    Calls Try.prog 38 #[.pointer (some ⟨D, 0, none⟩), .pointer (some ⟨W, 0, none⟩), cagg 5 nm n len x pa pn pc] w (Did D W d1 d2 (d1.load nm (bxl k x)).2 (d2.load nm (bxl k x)).2 F) := by
  have hk4 : k < 400 := by omega
  have h1 := fun (a : Option Addr) (c : Nat) (F : Assn) (w : World) (h : Sat (diskP D d1 * (rw TB 1 (.slice a k c) (bys (bxl k x)) * F)) w) => load_any D d1 m nm (.slice a k c) (bxl k x) _ F w Reads.rw h hnm (by rw [bxl_len]; omega) ok1 hm
  have h2 := fun (a : Option Addr) (c : Nat) (F : Assn) (w : World) (h : Sat (refP W d2 * (rw TB 1 (.slice a k c) (bys (bxl k x)) * F)) w) => load_ref W d2 m nm (.slice a k c) (bxl k x) _ F Reads.rw w h hnm (by rw [bxl_len]; omega) ok2 hm
  have hee : d1 = d2 → ((d1.load nm (bxl k x)).1 == (d2.load nm (bxl k x)).1) = true := by rintro rfl; simp
  obtain ⟨⟨z1, e1⟩, q1⟩ : ∃ r, d1.load nm (bxl k x) = r := ⟨_, rfl⟩
  obtain ⟨⟨z2, e2⟩, q2⟩ : ∃ r, d2.load nm (bxl k x) = r := ⟨_, rfl⟩
  rw [q1] at h1 hee
  rw [q2] at h2 hee
  rw [q1, q2]
  have H1 : Aside (∀ (a : Option Addr) (c : Nat) (F : Assn) (w : World), Sat (diskP D d1 * (rw TB 1 (.slice a k c) (bys (bxl k x)) * F)) w → Calls Try.prog 30 #[.pointer (some ⟨D, 0, none⟩), .string nm, .slice a k c] w fun e w' => e = .returned (.int .i64 z1) ∧ Sat (diskP D e1 * (rw TB 1 (.slice a k c) (bys (bxl k x)) * F)) w') := h1
  have H2 : Aside (∀ (a : Option Addr) (c : Nat) (F : Assn) (w : World), Sat (refP W d2 * (rw TB 1 (.slice a k c) (bys (bxl k x)) * F)) w → Calls Try.prog 82 #[.pointer (some ⟨W, 0, none⟩), .string nm, .slice a k c] w fun e w' => e = .returned (.int .i64 z2) ∧ Sat (refP W e2 * (rw TB 1 (.slice a k c) (bys (bxl k x)) * F)) w') := h2
  have HE : Aside (d1 = d2 → (z1 == z2) = true) := hee
  have HBY : Aside (∀ (F : Assn) (w : World), Sat F w → Calls Try.prog 46 #[cagg 5 nm n len x pa pn pc] w fun e w' => ∃ a c, e = .returned (.slice a k c) ∧ Sat (rw TB 1 (.slice a k c) (bys (bxl k x)) * F) w') := fun F w h => bytes_any 5 nm n len x pa pn pc F w h k hk
  haveI := hs.i
  clear h1 h2 hee q1 q2 hk
  go_enter Try.func38, Try.ntmps38
  go_wp2_with fail
  refine (HBY.out _ _ satI).mono ?_
  rintro e w3 ⟨a3, c3, rfl, hs3⟩
  haveI := hs3.i
  go_wp2_with fail
  refine (H1.out a3 c3 _ _ (satI.take2 (diskP D d1) (rw TB 1 (.slice a3 k c3) (bys (bxl k x))))).mono ?_
  rintro e w4 ⟨rfl, hs4⟩
  have hs5 : Sat (rw TB 1 (.slice a3 k c3) (bys (bxl k x)) * (diskP D e1 * (refP W d2 * (F * cblk w.heap.size 5 nm n len x pa pn pc)))) w4 := hs4.eq (by unfold cblk; ac_rfl)
  clear hs hs3 hs4
  go_wp2_with fail
  go_loopg [19] k (fun g t wr => ∃ (j : Nat) (bs : List UInt8), t = .int .i64 j ∧ j ≤ k ∧ Aside (g = k - j ∧ bs.length = k) ∧ Sat (rw TB 1 (.slice a3 k c3) (bys bs) * (diskP D e1 * (refP W d2 * (F * cblk w.heap.size 5 nm n len x pa pn pc)))) wr)
  case atStart => exact ⟨0, bxl k x, rfl, by omega, ⟨rfl, bxl_len k x⟩, hs5⟩
  case round =>
    clear hs5
    obtain ⟨j, bs, rfl, hj, A, hs⟩ := hrel
    by_cases hlt : j < k
    · have hlt' : (j : Int) < k := by omega
      obtain ⟨g, rfl⟩ := row_some hs (by omega)
      obtain ⟨y, hy⟩ : ∃ y, bs[j]? = some y := ⟨bs[j]'(by rw [A.out.2]; exact hlt), by simp⟩
      haveI : At (bys bs) j (.int .u8 y.toNat) := ⟨by unfold bys; rw [List.getElem?_map, hy]; rfl⟩
      haveI := hs.i
      clear hy
      go_wp2
      go_roundg (k - (j + 1))
      case measure => have := A.out.1; omega
      case rel =>
        refine ⟨j + 1, bs.set j 98, by go_num, by omega, ⟨rfl, by rw [List.length_set]; exact A.out.2⟩, ?_⟩
        rw [← bys_set]
        exact satI
    · have hlt' : ¬ (j : Int) < k := by omega
      haveI := hs.i
      go_upto_region 31 with (fail)
      go_region_held3 (fun w' => w'.cell? ⟨w.heap.size, 0, none⟩ = some (.int .i64 5) ∧ w'.cell? ⟨w.heap.size, 1, none⟩ = some (.string nm) ∧ w'.cell? ⟨w.heap.size, 2, none⟩ = some (.int .i64 n) ∧ w'.cell? ⟨w.heap.size, 3, none⟩ = some (.int .i64 len) ∧ w'.cell? ⟨w.heap.size, 4, none⟩ = some (.int .u8 x.toNat) ∧ w'.cell? ⟨w.heap.size, 5, none⟩ = some (.slice pa pn pc)) (first | exact ⟨cell_sat _ _ _, cell_sat _ _ _, cell_sat _ _ _, cell_sat _ _ _, cell_sat _ _ _, cell_sat _ _ _⟩) (first
        | (go_at_call 46; refine (HBY.out _ _ satI).mono ?_; rintro e w8 ⟨a8, c8, rfl, hs8⟩; haveI := hs8.i)
        | (go_at_call 82; refine (H2.out a8 c8 _ _ (satI.take2 (refP W d2) (rw TB 1 (.slice a8 k c8) (bys (bxl k x))))).mono ?_; rintro e w9 ⟨rfl, hs9⟩; haveI := hs9.i))
      all_goals
        go_wp2
        go_ret
        exact ⟨_, rfl, HE.out, satI_weak (C := rw TB 1 (.slice a3 k c3) (bys bs) * (rw TB 1 (.slice a8 k c8) (bys (bxl k x)) * cblk w.heap.size 5 nm n len x pa pn pc)) (by unfold cblk; ac_rfl)⟩

end Go.Proofs.Ytjhkmmpgjiciiaa
