/-
  The laws of the disk: full, Same, the document's example.
-/
import Derived.Test.YtjhkmmpgjiciiaaDk12
import Derived.Test.YtjhkmmpgjiciiaaDk13
namespace Go.Proofs.Ytjhkmmpgjiciiaa
set_option linter.unusedSimpArgs false
set_option linter.unusedVariables false
open Go.RowKit Go.Sl Go.Dk
attribute [local go_sem ↓] Go.wp_at_zero Go.wp_at_succ

set_option maxHeartbeats 400000 in
theorem same_any (v1 v2 : Value) (z1 z2 : List UInt8) (w : World) (h1 : Byt w v1 z1) (h2 : Byt w v2 z2) :
    Calls Try.prog 37 #[v1, v2] w fun e w' => e = .returned (.bool (decide (z1 = z2))) ∧ ∃ n, w' = w.drewN n := by
  obtain ⟨a1, c1, rfl, hc1, hm1⟩ := h1.len
  obtain ⟨a2, c2, rfl, hc2, hm2⟩ := h2.len
  have hz1 : z1.length ≤ 9223372036854775807 := by have : c1 ≤ 9223372036854775807 := by simpa [maxLen] using hm1
                                                   omega
  have hz2 : z2.length ≤ 9223372036854775807 := by have : c2 ≤ 9223372036854775807 := by simpa [maxLen] using hm2
                                                   omega
  by_cases hl : z1.length = z2.length
  · have hne2 : ((z1.length : Int) != (z2.length : Int)) = false := by simp; omega
    have HL : Aside (z1.length = z2.length) := hl
    clear hl
    go_enter Try.func37, Try.ntmps37
    go_wp2
    go_loopg [5] z1.length (fun k i wr => ∃ j : Nat, i = .int .i64 j ∧ j ≤ z1.length ∧ Aside (k = z1.length - j ∧ z1.take j = z2.take j) ∧ ∃ n, w.drewN n = wr)
    case atStart => exact ⟨0, rfl, by omega, ⟨rfl, rfl⟩, 0, rfl⟩
    case round =>
      obtain ⟨j, rfl, hj, A, nn, rfl⟩ := hrel
      by_cases hlt : j < z1.length
      · have hlt2 : j < z2.length := by have := HL.out; omega
        obtain ⟨y1, hy1⟩ : ∃ y, z1[j]? = some y := ⟨z1[j], by simp [hlt]⟩
        obtain ⟨y2, hy2⟩ : ∃ y, z2[j]? = some y := ⟨z2[j], by simp [hlt2]⟩
        obtain ⟨b1, o1, rfl, x1⟩ := h1.at hy1
        obtain ⟨b2, o2, rfl, x2⟩ := h2.at hy2
        have HY : Aside (z1[j]? = some y1 ∧ z2[j]? = some y2) := ⟨hy1, hy2⟩
        clear h1 h2 hne2 hy1 hy2
        have hlt3 : (j : Int) < z1.length := by omega
        have hlt4 : (j : Int) < z2.length := by omega
        by_cases he : y1 = y2
        · subst he
          go_wp2
          go_quiet (fail)
          go_wp2
          go_roundg (z1.length - (j + 1))
          case measure => have := A.out.1; omega
          case rel =>
            refine ⟨j + 1, by go_num, by omega, ⟨rfl, ?_⟩, nn + nq, rfl⟩
            rw [take_snoc' HY.out.1, take_snoc' HY.out.2, A.out.2]
        · have he0 : y1.toNat ≠ y2.toNat := fun e => he (UInt8.toNat_inj.1 e)
          have he1 : ((y1.toNat : Int) != (y2.toNat : Int)) = true := by rw [bne_iff_ne]; omega
          have he2 : (y1.toNat != y2.toNat) = true := by simpa using he0
          have HE : Aside (y1 ≠ y2) := he
          clear he
          go_wp2
          go_quiet (fail)
          go_wp2
          go_ret
          have : z1 ≠ z2 := fun e => HE.out (by have h3 := HY.out.1; rw [e, HY.out.2] at h3; exact (Option.some.inj h3).symm)
          exact ⟨by simp [this], nn + nq, by rw [World.drewN_drewN]⟩
      · have : j = z1.length := by omega
        subst this
        clear hlt hne2 h1 h2
        go_wp2
        go_ret
        have e : z1 = z2 := by
          have := A.out.2
          rw [List.take_of_length_le (Nat.le_refl _), List.take_of_length_le (by have := HL.out; omega)] at this
          exact this
        exact ⟨by simp [e], nn, rfl⟩
  · have hne : z1 ≠ z2 := fun e => hl (by rw [e])
    have hne2 : ((z1.length : Int) != (z2.length : Int)) = true := by simp; omega
    have e : decide (z1 = z2) = false := by simpa using hne
    rw [e]
    clear e hne h1 h2 hl
    go_enter Try.func37, Try.ntmps37
    go_wp2
    go_ret
    exact ⟨rfl, 0, rfl⟩

set_option maxHeartbeats 400000 in
theorem full_any (n : Nat) (x : UInt8) (F : Assn) (w : World) (hs : Sat F w) (hn : n ≤ 35184372088832) :
    Calls Try.prog 31 #[.int .i64 n, .int .u8 x.toNat] w fun e w' => ∃ a c, e = .returned (.slice a n c) ∧ Sat (rw TB 1 (.slice a n c) (bys (List.replicate n x)) * F) w' := by
  obtain ⟨i0, E⟩ := elemB
  go_enter Try.func31, Try.ntmps31
  go_wp2
  go_loopg [5, 6] n (fun k t i wr => ∃ (j : Nat) (a : Option Addr) (c : Nat), i = .int .i64 j ∧ t = .slice a j c ∧ j ≤ n ∧ Aside (k = n - j) ∧ Sat (rw TB 1 (.slice a j c) (bys (List.replicate j x)) * F) wr)
  case atStart => exact ⟨0, none, 0, rfl, rfl, by omega, rfl, by simpa [bys] using hs.rw_nil⟩
  case round =>
    obtain ⟨j, a, c, rfl, rfl, hj, A, hsr⟩ := hrel
    clear hs
    by_cases hlt : j < n
    · have hlt' : (j : Int) < n := by omega
      have hs4 := hsr.alloc #[.int .u8 x.toNat] TB
      have hs5 := hs4.take (rw TB 1 (.slice a j c) (bys (List.replicate j x)))
      have hsrc := Src.one_new (P := Try.prog) hs4 rfl
      clear hs4
      go_wp2_with (at_builtin; refine wpl_append_same E rfl (.tmp 12) (.tmp 14) rfl rfl rfl hs5 hsrc (by unfold maxLen; omega) (by omega) ?_; intro a' c' w' hs6 hnil; clear hnil hs5 hsrc)
      go_roundg (n - (j + 1))
      case measure => have := A.out; omega
      case rel =>
        refine ⟨j + 1, a', c', by go_num, rfl, by omega, rfl, ?_⟩
        rw [List.replicate_succ', bys_append]
        refine Sat.weak (B := block wr.heap.size TB [.int .u8 x.toNat]) (hs6.eq ?_)
        rw [show bys [x] = [Value.int .u8 x.toNat] from rfl]
        ac_rfl
    · have hlt' : ¬ (j : Int) < n := by omega
      have hje : j = n := by omega
      subst hje
      go_wp2
      go_ret
      exact ⟨a, c, rfl, hsr⟩

end Go.Proofs.Ytjhkmmpgjiciiaa
