/-
  Crash in one contract; New, Arm, Free, Changes, Down.
-/
import Derived.Test.YtjhkmmpgjiciiaaDk11
namespace Go.Proofs.Ytjhkmmpgjiciiaa
set_option linter.unusedSimpArgs false
set_option linter.unusedVariables false
open Go.RowKit Go.Sl Go.Dk
attribute [local go_sem ↓] Go.wp_at_zero Go.wp_at_succ

theorem crash_any (D : Nat) (d : Dk) (m : Nat) (picks : List Int) (v : Value) (B F : Assn) (w : World) (hP : ReadsZ B v picks) (hs : Sat (diskP D d * (B * F)) w) (hlp : picks.length ≤ 9223372036854775807) (ok : Ok m d) (hm' : m ≤ big) :
    Calls Try.prog 34 #[.pointer (some ⟨D, 0, none⟩), v] w fun e w' => e = .returned (.tuple #[]) ∧ Sat (diskP D (d.crash picks) * (B * F)) w' := by
  obtain ⟨M, ns, pv, ps, h1, h2, h3⟩ := Sat.disk_open hs
  refine (crash_go D M ns pv ps d m picks v B F w hP h3 h1 h2 hlp ok hm').mono ?_
  rintro e w' ⟨ψ, φ, rfl, hs1⟩
  refine ⟨rfl, Sat.disk_shut (M := M) (ns := (ns.map (st2 (keep picks 0 (pents ps)) ψ)).filterMap (st3 (keep picks 0 (pents ps)) [] φ)) (pv := .slice none 0 0) (ps := []) ?_ rfl hs1⟩
  rw [crash_files, h1, h2]; rfl

set_option maxHeartbeats 400000 in
theorem newD_no (room : Int) (w : World) (h : room < 0 ∨ 1099511627776 < room) :
    Calls Try.prog 28 #[.int .i64 room] w fun e w' => e = .returned (.tuple #[.pointer none, .int .i64 1]) ∧ w = w' := by
  by_cases h1 : room < 0
  · have h1' : decide (room < 0) = true := by simpa using h1
    go_enter Try.func28, Try.ntmps28
    go_wp2
    go_ret2
    exact ⟨rfl, rfl⟩
  · have h1' : decide (room < 0) = false := by simpa using h1
    have h2 : 1099511627776 < room := by omega
    go_enter Try.func28, Try.ntmps28
    go_wp2
    go_ret2
    exact ⟨rfl, rfl⟩

set_option maxHeartbeats 400000 in
theorem newD_yes (room : Int) (F : Assn) (w : World) (hs : Sat F w) (h1 : 0 ≤ room) (h2 : room ≤ 1099511627776) :
    Calls Try.prog 28 #[.int .i64 room] w fun e w' => ∃ D, e = .returned (.tuple #[.pointer (some ⟨D, 0, none⟩), .int .i64 0]) ∧ Sat (diskP D (Dk.new room) * F) w' := by
  have hmm := @run_makeMap Try.prog
  have g1 : decide (room < 0) = false := by simp; omega
  have g2 : ¬ 1099511627776 < room := by omega
  have a1 := hs.alloc_raw (.map #[] 0)
  have a2 := a1.alloc #[.int .i64 room, .int .i64 0, .int .i64 0, .bool false, .bool false, .map (some w.heap.size), .slice none 0 0] TD
  have e : (w.alloc (.map #[] 0)).heap.size = w.heap.size + 1 := by simp
  rw [e] at a2
  have a3 := Sat.mp_shut (kf := skey) (ms := []) (b := w.heap.size) (o := .map #[] 0) ⟨#[], 0, rfl, rfl, by simp, by simp⟩ (a2.take (raw w.heap.size _))
  have a4 := a3.rw_nil (e := TP) (s := 3)
  clear a1 a2 a3 e hs
  go_enter Try.func28, Try.ntmps28
  go_wp2
  go_ret2
  refine ⟨w.heap.size + 1, rfl, ?_⟩
  refine Sat.disk_shut (M := w.heap.size) (ns := []) (pv := .slice none 0 0) (ps := []) rfl rfl (a4.eq ?_)
  unfold diskA coreD pendA Dk.new
  simp only [block, Sl.cells, filesA, piecesA, prows, List.map_nil, List.flatMap_nil, one_sep, sep_one, List.length_cons, List.length_nil, Nat.zero_add, Nat.reduceAdd]
  ac_rfl

set_option maxHeartbeats 400000 in
theorem arm_any (D : Nat) (d : Dk) (n : Int) (F : Assn) (w : World) (hs : Sat (diskP D d * F) w) :
    Calls Try.prog 51 #[.pointer (some ⟨D, 0, none⟩), .int .i64 n] w fun e w' => e = .returned (.int .i64 (d.arm n).1) ∧ Sat (diskP D (d.arm n).2 * F) w' := by
  by_cases h : n < 0
  · have e1 : d.arm n = (1, d) := by unfold Dk.arm; rw [if_pos h]
    have h' : decide (n < 0) = true := by simpa using h
    rw [e1]
    clear e1
    go_enter Try.func51, Try.ntmps51
    go_wp2
    go_ret
    exact ⟨rfl, hs⟩
  · have e1 : d.arm n = (0, { d with armed := true, left := n }) := by unfold Dk.arm; rw [if_neg h]
    have h' : decide (n < 0) = false := by simpa using h
    rw [e1]
    obtain ⟨M, ns, pv, ps, h1, h2, h3⟩ := Sat.disk_open hs
    have HH : Aside (fents ns = d.files ∧ pents ps = d.pend) := ⟨h1, h2⟩
    unfold diskA coreD at h3
    have c3 := h3.c D 3
    have f3 := h3.f D 3
    have s1 := h3.upd D 3 (.bool true)
    have c2 := s1.c D 2
    have f2 := s1.f D 2
    have s2 := s1.upd D 2 (.int .i64 n)
    clear hs h3 s1 h1 h2 e1
    go_enter Try.func51, Try.ntmps51
    go_wp2
    go_ret
    refine ⟨rfl, Sat.disk_shut (M := M) (ns := ns) (pv := pv) (ps := ps) HH.out.1 HH.out.2 (s2.eq ?_)⟩
    unfold diskA coreD
    ac_rfl

end Go.Proofs.Ytjhkmmpgjiciiaa
