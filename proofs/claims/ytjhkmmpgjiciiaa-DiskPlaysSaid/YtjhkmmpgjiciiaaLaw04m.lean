/-
  DiskPlays, the walk.
-/
import Derived.Test.YtjhkmmpgjiciiaaLaw04l
import Derived.Test.YtjhkmmpgjiciiaaLaw04j
import Derived.Test.YtjhkmmpgjiciiaaSkel8
namespace Go.Proofs.Ytjhkmmpgjiciiaa
set_option linter.unusedSimpArgs false
set_option linter.unusedVariables false
open Go.RowKit Go.Sl Go.Dk
attribute [local go_sem ↓] Go.wp_at_zero Go.wp_at_succ
attribute [local go_sem] Go.Sl.cell_sat Go.Sl.frozen_sat

set_option maxRecDepth 100000 in
set_option maxHeartbeats 8000000 in
theorem diskPlays_walk (room : Int) (v : Value) (cs : List CallD) (w : World) (hv : Rws w v 6 (cs.map crowDD)) (hl : cs.length ≤ 9223372036854775807) (hcs : ∀ c ∈ cs, CallOk w c) :
    Calls Try.prog 11 #[.int .i64 room, v] w fun e w' => e = .returned (.bool true) ∧ Below w.heap.size w w' := by
  obtain ⟨va, vc, hvv⟩ := hv.len
  rw [List.length_map] at hvv
  subst hvv
  have HCS : Aside (∀ c ∈ cs, CallOk w c) := hcs
  clear hcs
  by_cases hrm : room < 0 ∨ 1099511627776 < room
  · have hnew := newD_no room w hrm
    clear hv
    by_cases g1 : room < 0
    · have g1' : decide (room < 0) = true := by simpa using g1
      clear hrm
      go_enter Try.func11, Try.ntmps11
      go_wp2_with fail
      refine hnew.mono ?_
      rintro e w1 ⟨rfl, rfl⟩
      go_wp2_with fail
      refine (awake04 _ _ (Sat.old_self _)).mono ?_
      rintro e w2 ⟨rfl, hs2⟩
      go_wp2
      go_ret
      exact ⟨rfl, ((Sat.eq hs2 (sep_one _).symm)).old_below⟩
    · have g1' : decide (room < 0) = false := by simpa using g1
      have g2 : 1099511627776 < room := by omega
      clear hrm
      go_enter Try.func11, Try.ntmps11
      go_wp2_with fail
      refine hnew.mono ?_
      rintro e w1 ⟨rfl, rfl⟩
      go_wp2_with fail
      refine (awake04 _ _ (Sat.old_self _)).mono ?_
      rintro e w2 ⟨rfl, hs2⟩
      go_wp2
      go_ret
      exact ⟨rfl, ((Sat.eq hs2 (sep_one _).symm)).old_below⟩
  · have g1' : decide (room < 0) = false := by simp; omega
    have g2' : ¬ 1099511627776 < room := by omega
    have ok0 : Ok 0 (Dk.new room) := ok_new _ (by omega) (by unfold big; omega)
    have hnew := newD_yes room (old w) w (Sat.old_self w) (by omega) (by omega)
    clear hrm
    go_enter Try.func11, Try.ntmps11
    go_wp2_with fail
    refine hnew.mono ?_
    rintro e w1 ⟨D, rfl, hs1⟩
    go_wp2_with fail
    refine (awake04 _ w1 hs1).mono ?_
    rintro e w2 ⟨rfl, hs2⟩
    clear hs1 hnew
    have hs3 : Sat (refP w2.heap.size (Dk.new room) * (diskP D (Dk.new room) * old w)) (w2.alloc (.cells #[.int .i64 room, .int .i64 0, .int .i64 0, .bool false, .bool false, .slice none 0 0, .slice none 0 0] TR)) := newRef (hs2.alloc #[.int .i64 room, .int .i64 0, .int .i64 0, .bool false, .bool false, .slice none 0 0, .slice none 0 0] TR)
    obtain ⟨W, hW⟩ : ∃ z, w2.heap.size = z := ⟨_, rfl⟩
    rw [hW] at hs3
    clear hs2
    go_wp2_with fail
    go_loopg [8] 80 (fun gk t8 wr => ∃ (j : Nat) (d : Dk), t8 = .int .i64 j ∧ j ≤ 80 ∧ Aside (gk = 80 - j ∧ Ok (j * 402) d ∧ NmOk d) ∧ Sat (diskP D d * (refP W d * old w)) wr)
    case atStart => exact ⟨0, Dk.new room, rfl, by omega, ⟨rfl, by simpa using ok0, fun p hp => by simp [Dk.new] at hp⟩, hs3.eq (by ac_rfl)⟩
    case round =>
      clear hs3 hW
      obtain ⟨j, d, rfl, hj, A, hs⟩ := hrel
      by_cases hgo : j < cs.length ∧ j < 80
      · obtain ⟨hjl, hj2⟩ := hgo
        have hj3 : (j : Int) < cs.length := by omega
        have hj4 : (j : Int) < 80 := by omega
        obtain ⟨⟨kd, nm, n, len, x, qa, qn, qc⟩, hx⟩ : ∃ x, cs[j]? = some x := ⟨cs[j], by simp [hjl]⟩
        obtain ⟨rb, ro, e1, hcell⟩ := hv.at (show (cs.map crowDD)[j]? = some (crowDD ⟨kd, nm, n, len, x, qa, qn, qc⟩) by simp [hx])
        subst e1
        obtain ⟨hnm, ⟨hn1, hn2⟩, _, zs, hzs, hzl, hzl2, _⟩ := HCS.out _ (List.mem_of_getElem? hx)
        simp only at hnm hn1 hn2 hzs hzl hzl2
        haveI : OldAt w rb (ro + j * 6) (.int .i64 kd) := ⟨by have := hcell 0 _ rfl; simpa using this⟩
        haveI : OldAt w rb (ro + j * 6 + 1) (.string nm) := ⟨hcell 1 _ rfl⟩
        haveI : OldAt w rb (ro + j * 6 + 2) (.int .i64 n) := ⟨hcell 2 _ rfl⟩
        haveI : OldAt w rb (ro + j * 6 + 3) (.int .i64 len) := ⟨hcell 3 _ rfl⟩
        haveI : OldAt w rb (ro + j * 6 + 4) (.int .u8 x.toNat) := ⟨hcell 4 _ rfl⟩
        haveI : OldAt w rb (ro + j * 6 + 5) (.slice qa qn qc) := ⟨hcell 5 _ rfl⟩
        clear hcell hx
        haveI := hs.i
        obtain ⟨hgk, hok, hnk⟩ := A.out
        have HG : Aside (gk = 80 - j) := hgk
        have hdo : Calls Try.prog 38 #[.pointer (some ⟨D, 0, none⟩), .pointer (some ⟨W, 0, none⟩), cagg kd nm n len x qa qn qc] wr (Did D W d d (stepD ⟨kd, nm, n, len, x, qa, qn, qc⟩ zs d) (stepD ⟨kd, nm, n, len, x, qa, qn, qc⟩ zs d) (old w * 1)) :=
          does_any D W d d (j * 402) ⟨kd, nm, n, len, x, qa, qn, qc⟩ zs (old w) 1 wr (fun F' w' h => hzs.old h) (hs.eq (by rw [sep_one])) (by omega) hnm hok hok (by omega)
        have hA1 := hnk.step ⟨kd, nm, n, len, x, qa, qn, qc⟩ zs
        have hA2 := ok_step hok ⟨kd, nm, n, len, x, qa, qn, qc⟩ zs hn2
        obtain ⟨d3, h3⟩ : ∃ z, stepD ⟨kd, nm, n, len, x, qa, qn, qc⟩ zs d = z := ⟨_, rfl⟩
        rw [h3] at hdo hA1 hA2
        have HA : Aside (NmOk d3 ∧ Ok ((j + 1) * 402) d3) := ⟨hA1, ok_more hA2 (by omega)⟩
        clear hgk A hok hnk hA1 hA2 h3
        go_wp2_with fail
        refine hdo.mono ?_
        rintro e w5 ⟨r5, rfl, hr5, hs5⟩
        obtain rfl := hr5 rfl
        clear hdo
        have hal := alike_any D W d3 ((j + 1) * 402) _ w5 hs5 HA.out.2 HA.out.1
        go_wp2_with fail
        refine hal.mono ?_
        rintro e w6 ⟨rfl, hs6⟩
        go_wp2
        go_roundg (80 - (j + 1))
        case measure => have := HG.out; omega
        case rel => exact ⟨j + 1, d3, by go_num, by omega, ⟨rfl, HA.out.2, HA.out.1⟩, hs6.eq (by rw [sep_one])⟩
      · have hways : (¬ (j : Int) < cs.length) ∨ ((j : Int) < cs.length ∧ ¬ (j : Int) < 80) := by omega
        clear A
        rcases hways with h1 | ⟨h1, h2⟩
        all_goals
          go_wp2
          go_ret
          exact ⟨rfl, (hs.take (old w)).old_below⟩

end Go.Proofs.Ytjhkmmpgjiciiaa
