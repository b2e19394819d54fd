/-
  The disk's laws: a write on the disk and on the reference; any call.
-/
import Derived.Test.YtjhkmmpgjiciiaaLaw04h
namespace Go.Proofs.Ytjhkmmpgjiciiaa
set_option linter.unusedSimpArgs false
set_option linter.unusedVariables false
open Go.RowKit Go.Sl Go.Dk
attribute [local go_sem ↓] Go.wp_at_zero Go.wp_at_succ
attribute [local go_sem] Go.Sl.cell_sat Go.Sl.frozen_sat

set_option maxRecDepth 100000 in
set_option maxHeartbeats 6400000 in
theorem does_write (D W : Nat) (d1 d2 : Dk) (m : Nat) (nm : ByteArray) (n len : Int) (x : UInt8) (pa : Option Addr) (pn pc : Nat) (k : Nat) (hk : len % 400 = (k : Int)) (F : Assn) (w : World) (hs : Sat (diskP D d1 * (refP W d2 * F)) w) (hnm : nm.size ≤ 9223372036854775807) (ok1 : Ok m d1) (ok2 : Ok m d2) (hm : m ≤ 1099511627776) :
    Calls Try.prog 38 #[.pointer (some ⟨D, 0, none⟩), .pointer (some ⟨W, 0, none⟩), cagg 1 nm n len x pa pn pc] w (Did D W d1 d2 (d1.write nm n (bxl k x)).2 (d2.write nm n (bxl k x)).2 F) := by
  have hk4 : k < 400 := by omega
  have hbk := bxl_len k x
  obtain ⟨bx, hbx⟩ : ∃ b, bxl k x = b := ⟨_, rfl⟩
  rw [hbx] at hbk ⊢
  have h1 := fun (g c : Nat) (F : Assn) (w : World) (h : Sat (diskP D d1 * (rw TB 1 (.slice (some ⟨g, 0, none⟩) (bx.length + 3) c) (bys (lentL bx)) * F)) w) => write_any D d1 m nm n (.slice (some ⟨g, 0, none⟩) bx.length c) bx _ F w (reads_lent g c bx) h hnm (by omega) ok1 hm
  have h2 := fun (a : Option Addr) (c : Nat) (F : Assn) (w : World) (h : Sat (refP W d2 * (rw TB 1 (.slice a bx.length c) (bys bx) * F)) w) => write_ref W d2 m nm n (.slice a bx.length c) bx _ F Reads.rw w h hnm (by omega) ok2 hm
  have h3 := fun (a : Option Addr) (c : Nat) (F : Assn) (w : World) (h : Sat (rw TB 1 (.slice a bx.length c) (bys bx) * F) w) => lent_any (.slice a bx.length c) bx _ F w Reads.rw h (by omega)
  have h4 := fun (a : Option Addr) (c g cc : Nat) (F : Assn) (w : World) (h : Sat (rw TB 1 (.slice (some ⟨g, 0, none⟩) (bx.length + 3) cc) (bys (lentL bx)) * (rw TB 1 (.slice a bx.length c) (bys bx) * F)) w) => kept_any (.slice a bx.length c) bx g cc _ F w Reads.rw h (by omega)
  have hee : d1 = d2 → ((d1.write nm n bx).1 == (d2.write nm n bx).1) = true := by rintro rfl; simp
  obtain ⟨⟨z1, e1⟩, q1⟩ : ∃ r, d1.write nm n bx = r := ⟨_, rfl⟩
  obtain ⟨⟨z2, e2⟩, q2⟩ : ∃ r, d2.write nm n bx = r := ⟨_, rfl⟩
  rw [q1] at h1 hee
  rw [q2] at h2 hee
  rw [q1, q2]
  rw [hbk] at h1 h2 h3 h4
  have H1 : Aside (∀ (g c : Nat) (F : Assn) (w : World), Sat (diskP D d1 * (rw TB 1 (.slice (some ⟨g, 0, none⟩) (k + 3) c) (bys (lentL bx)) * F)) w → Calls Try.prog 32 #[.pointer (some ⟨D, 0, none⟩), .string nm, .int .i64 n, .slice (some ⟨g, 0, none⟩) k c] w fun e w' => e = .returned (.int .i64 z1) ∧ Sat (diskP D e1 * (rw TB 1 (.slice (some ⟨g, 0, none⟩) (k + 3) c) (bys (lentL bx)) * F)) w') := h1
  have H2 : Aside (∀ (a : Option Addr) (c : Nat) (F : Assn) (w : World), Sat (refP W d2 * (rw TB 1 (.slice a k c) (bys bx) * F)) w → Calls Try.prog 78 #[.pointer (some ⟨W, 0, none⟩), .string nm, .int .i64 n, .slice a k c] w fun e w' => e = .returned (.int .i64 z2) ∧ Sat (refP W e2 * (rw TB 1 (.slice a k c) (bys bx) * F)) w') := h2
  have H3 : Aside (∀ (a : Option Addr) (c : Nat) (F : Assn) (w : World), Sat (rw TB 1 (.slice a k c) (bys bx) * F) w → Calls Try.prog 76 #[.slice a k c] w fun e w' => ∃ g c', e = .returned (.slice (some ⟨g, 0, none⟩) k c') ∧ Sat (rw TB 1 (.slice (some ⟨g, 0, none⟩) (k + 3) c') (bys (lentL bx)) * (rw TB 1 (.slice a k c) (bys bx) * F)) w') := h3
  have H4 : Aside (∀ (a : Option Addr) (c g cc : Nat) (F : Assn) (w : World), Sat (rw TB 1 (.slice (some ⟨g, 0, none⟩) (k + 3) cc) (bys (lentL bx)) * (rw TB 1 (.slice a k c) (bys bx) * F)) w → Calls Try.prog 77 #[.slice (some ⟨g, 0, none⟩) k cc, .slice a k c] w fun e w' => e = .returned (.bool true) ∧ Sat (rw TB 1 (.slice (some ⟨g, 0, none⟩) (k + 3) cc) (bys (lentL bx)) * (rw TB 1 (.slice a k c) (bys bx) * F)) w') := h4
  have HE : Aside (d1 = d2 → (z1 == z2) = true) := hee
  have HBY : Aside (∀ (F : Assn) (w : World), Sat F w → Calls Try.prog 46 #[cagg 1 nm n len x pa pn pc] w fun e w' => ∃ a c, e = .returned (.slice a k c) ∧ Sat (rw TB 1 (.slice a k c) (bys bx) * F) w') := fun F w h => by rw [← hbx]; exact bytes_any 1 nm n len x pa pn pc F w h k hk
  have HL3 : Aside ((lentL bx).length = k + 3) := (by rw [lentL_len, hbk] : _ = _)
  haveI := hs.i
  clear h1 h2 h3 h4 hee q1 q2 hk hbx hbk
  go_enter Try.func38, Try.ntmps38
  go_wp2_with fail
  refine (HBY.out _ _ satI).mono ?_
  rintro e w3 ⟨a3, c3, rfl, hs3⟩
  go_wp2_with fail
  refine (H3.out a3 c3 _ _ hs3).mono ?_
  rintro e w4 ⟨g, gc, rfl, hs4⟩
  haveI := hs4.i
  clear hs hs3
  go_wp2_with fail
  refine (H1.out g gc _ _ (satI.take2 (diskP D d1) (rw TB 1 (.slice (some ⟨g, 0, none⟩) (k + 3) gc) (bys (lentL bx))))).mono ?_
  rintro e w5 ⟨rfl, hs5⟩
  haveI := hs5.i
  clear hs4
  go_wp2_with fail
  refine (HBY.out _ _ satI).mono ?_
  rintro e w6 ⟨a6, c6, rfl, hs6⟩
  haveI := hs6.i
  clear hs5
  go_wp2_with fail
  refine (H4.out a6 c6 g gc _ _ (satI.take2 (rw TB 1 (.slice (some ⟨g, 0, none⟩) (k + 3) gc) (bys (lentL bx))) (rw TB 1 (.slice a6 k c6) (bys bx)))).mono ?_
  rintro e w7 ⟨rfl, hs7⟩
  have hs8 : Sat (rw TB 1 (.slice (some ⟨g, 0, none⟩) (k + 3) gc) (bys (lentL bx)) * (diskP D e1 * (refP W d2 * (F * (cblk w.heap.size 1 nm n len x pa pn pc * (rw TB 1 (.slice a6 k c6) (bys bx) * rw TB 1 (.slice a3 k c3) (bys bx))))))) w7 := hs7.eq (by unfold cblk; ac_rfl)
  clear hs6 hs7
  obtain ⟨lx, hlx⟩ : ∃ l, lentL bx = l := ⟨_, rfl⟩
  have HL4 := HL3.out
  rw [hlx] at hs8 HL4
  have HL5 : Aside (lx.length = k + 3) := HL4
  clear hlx HL4 HL3 H4 H3
  go_wp2_with fail
  go_loopg [10] k (fun gk t wr => ∃ (j : Nat) (bs : List UInt8), t = .int .i64 j ∧ j ≤ k ∧ Aside (gk = k - j ∧ bs.length = k + 3) ∧ Sat (rw TB 1 (.slice (some ⟨g, 0, none⟩) (k + 3) gc) (bys bs) * (diskP D e1 * (refP W d2 * (F * (cblk w.heap.size 1 nm n len x pa pn pc * (rw TB 1 (.slice a6 k c6) (bys bx) * rw TB 1 (.slice a3 k c3) (bys bx))))))) wr)
  case atStart => exact ⟨0, lx, rfl, by omega, ⟨rfl, HL5.out⟩, hs8⟩
  case round =>
    clear hs8
    obtain ⟨j, bs, rfl, hj, A, hs⟩ := hrel
    by_cases hlt : j < k
    · have hlt' : (j : Int) < k := by omega
      obtain ⟨y, hy⟩ : ∃ y, bs[j]? = some y := ⟨bs[j]'(by rw [A.out.2]; omega), by simp⟩
      haveI : At (bys bs) j (.int .u8 y.toNat) := ⟨by unfold bys; rw [List.getElem?_map, hy]; rfl⟩
      haveI := hs.i
      clear hy
      go_wp2
      go_roundg (k - (j + 1))
      case measure => have := A.out.1; omega
      case rel =>
        refine ⟨j + 1, bs.set j 99, by go_num, by omega, ⟨rfl, by rw [List.length_set]; exact A.out.2⟩, ?_⟩
        rw [← bys_set]
        exact satI
    · have hlt' : ¬ (j : Int) < k := by omega
      haveI := hs.i
      go_upto_region 10 with (fail)
      go_region_held3 (fun w' => w'.cell? ⟨w.heap.size, 0, none⟩ = some (.int .i64 1) ∧ w'.cell? ⟨w.heap.size, 1, none⟩ = some (.string nm) ∧ w'.cell? ⟨w.heap.size, 2, none⟩ = some (.int .i64 n) ∧ w'.cell? ⟨w.heap.size, 3, none⟩ = some (.int .i64 len) ∧ w'.cell? ⟨w.heap.size, 4, none⟩ = some (.int .u8 x.toNat) ∧ w'.cell? ⟨w.heap.size, 5, none⟩ = some (.slice pa pn pc)) (first | exact ⟨cell_sat _ _ _, cell_sat _ _ _, cell_sat _ _ _, cell_sat _ _ _, cell_sat _ _ _, cell_sat _ _ _⟩) (first
        | (go_at_call 46; refine (HBY.out _ _ satI).mono ?_; rintro e w8 ⟨a8, c8, rfl, hs8⟩; haveI := hs8.i)
        | (go_at_call 78; refine (H2.out a8 c8 _ _ (satI.take2 (refP W d2) (rw TB 1 (.slice a8 k c8) (bys bx)))).mono ?_; rintro e w9 ⟨rfl, hs9⟩; haveI := hs9.i))
      all_goals
        go_wp2
        go_ret
        exact ⟨_, rfl, HE.out, satI_weak (C := rw TB 1 (.slice (some ⟨g, 0, none⟩) (k + 3) gc) (bys bs) * (rw TB 1 (.slice a8 k c8) (bys bx) * (cblk w.heap.size 1 nm n len x pa pn pc * (rw TB 1 (.slice a6 k c6) (bys bx) * rw TB 1 (.slice a3 k c3) (bys bx))))) (by unfold cblk; ac_rfl)⟩

theorem does_any (D W : Nat) (d1 d2 : Dk) (m : Nat) (c : CallD) (zs : List Int) (B F : Assn) (w : World) (hz : ReadsZ B (.slice c.pa c.pn c.pc) zs) (hs : Sat (diskP D d1 * (refP W d2 * (B * F))) w) (hzl : zs.length ≤ 9223372036854775807) (hnm : c.nm.size ≤ 9223372036854775807) (ok1 : Ok m d1) (ok2 : Ok m d2) (hm : m ≤ 1099511627776) :
    Calls Try.prog 38 #[.pointer (some ⟨D, 0, none⟩), .pointer (some ⟨W, 0, none⟩), .agg (crowDD c).toArray] w (Did D W d1 d2 (stepD c zs d1) (stepD c zs d2) (B * F)) := by
  obtain ⟨kd, nm, n, len, x, pa, pn, pc⟩ := c
  obtain ⟨k, hk⟩ : ∃ m : Nat, len % 400 = (m : Int) := ⟨(len % 400).toNat, by omega⟩
  show Calls _ _ #[.pointer (some ⟨D, 0, none⟩), .pointer (some ⟨W, 0, none⟩), cagg kd nm n len x pa pn pc] w _
  unfold stepD
  simp only [hk, Int.toNat_natCast]
  by_cases h1 : kd = 1
  · subst h1; exact does_write D W d1 d2 m nm n len x pa pn pc k hk _ w hs hnm ok1 ok2 hm
  by_cases h2 : kd = 2
  · subst h2; exact does_cut D W d1 d2 m nm n len x pa pn pc _ w hs hnm ok1 ok2 hm
  by_cases h3 : kd = 3
  · subst h3; exact does_sync D W d1 d2 m nm n len x pa pn pc _ w hs hnm ok1 ok2 hm
  by_cases h5 : kd = 5
  · subst h5; exact does_load D W d1 d2 m nm n len x pa pn pc k hk _ w hs hnm ok1 ok2 hm
  by_cases h6 : kd = 6
  · subst h6; exact does_arm D W d1 d2 m nm n len x pa pn pc _ w hs hnm ok1 ok2 hm
  by_cases h7 : kd = 7
  · subst h7; exact does_crash D W d1 d2 m nm n len x pa pn pc zs B F w hz hs hzl ok1 ok2 hm
  rw [if_neg h1, if_neg h2, if_neg h3, if_neg h5, if_neg h6, if_neg h7, if_neg h1, if_neg h2, if_neg h3, if_neg h5, if_neg h6, if_neg h7]
  by_cases h4 : kd = 4
  · subst h4; exact does_read D W d1 d2 m nm n len x pa pn pc _ w hs hnm ok1 ok2
  exact does_other D W d1 d2 m kd nm n len x pa pn pc _ w hs hnm ok1 ok2 (by simpa using h1) (by simpa using h2) (by simpa using h3) (by simpa using h4) (by simpa using h5) (by simpa using h6) (by simpa using h7)

theorem ok_step {m : Nat} {d : Dk} (ok : Ok m d) (c : CallD) (zs : List Int) (hn : c.n ≤ 9223372036854775807) : Ok (m + 402) (stepD c zs d) := by
  unfold stepD
  have hb : (bxl (c.len % 400).toNat c.x).length ≤ 400 := by rw [bxl_len]; omega
  split
  · exact ok_more (ok_write ok c.nm c.n _) (by omega)
  split
  · exact ok_more (ok_cut ok c.nm c.n) (by omega)
  split
  · exact ok_more (ok_sync ok c.nm) (by omega)
  split
  · exact ok_more (ok_load ok c.nm _) (by omega)
  split
  · exact ok_more (ok_arm ok c.n hn) (by omega)
  split
  · exact ok_more (ok_crash ok zs) (by omega)
  · exact ok_more ok (by omega)

end Go.Proofs.Ytjhkmmpgjiciiaa
