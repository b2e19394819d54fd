/-
  CacheNil: the walk.
-/
import Derived.Test.YtjhkmmpgjiciiaaLaw07a
namespace Go.Proofs.Ytjhkmmpgjiciiaa
set_option linter.unusedSimpArgs false
set_option linter.unusedVariables false
open Go.RowKit Go.Sl Go.Dk
attribute [local go_sem ↓] Go.wp_at_zero Go.wp_at_succ

set_option maxHeartbeats 400000 in
theorem namedR_any (s : ByteArray) (w : World) (hs : s.size ≤ 9223372036854775807) :
    Calls Try.prog 61 #[.string s] w fun e w' => e = .returned (.bool (Dk.named s)) ∧ w = w' := by
  by_cases hsz : s.size < 1 ∨ 16 < s.size
  · rw [named_short hsz]
    rcases hsz with h | h
    · have h1 : s.size < 1 := h
      go_enter Try.func61, Try.ntmps61
      go_wp2
      go_ret
      exact ⟨rfl, rfl⟩
    · have h1 : ¬ s.size < 1 := by omega
      go_enter Try.func61, Try.ntmps61
      go_wp2
      go_ret
      exact ⟨rfl, rfl⟩
  · have h1 : ¬ s.size < 1 := by omega
    have h2 : ¬ 16 < s.size := by omega
    have HN : Aside (Dk.named s = s.data.toList.all lowc) := named_all (by omega) (by omega)
    clear hsz
    obtain ⟨r, HR⟩ : ∃ r, Aside (Dk.named s = r) := ⟨_, rfl⟩
    rw [HR.out]
    go_enter Try.func61, Try.ntmps61
    go_wp2
    go_loop [3] (fun i => ∃ k : Nat, k ≤ s.size ∧ i = .int .i64 k ∧ Aside ((s.data.toList.take k).all lowc = true)) (fun i => s.size - (intOf i).toNat)
    case atStart => exact ⟨0, Nat.zero_le _, rfl, by simp [Aside]⟩
    case round =>
      obtain ⟨k, hk, rfl, A⟩ := hrel
      by_cases hlt : k < s.size
      · have hb := s[k].toNat_lt
        by_cases c1 : s[k].toNat < 97
        · have HF : Aside (r = false) := by
            have := named_bad hlt (show lowc s[k] = false by unfold lowc; simp; omega)
            rw [← HR.out, HN.out]; exact this
          go_wp2
          go_ret
          exact ⟨by rw [HF.out]; rfl, rfl⟩
        · by_cases c2 : 122 < s[k].toNat
          · have HF : Aside (r = false) := by
              have := named_bad hlt (show lowc s[k] = false by unfold lowc; simp; omega)
              rw [← HR.out, HN.out]; exact this
            go_wp2
            go_ret
            exact ⟨by rw [HF.out]; rfl, rfl⟩
          · have HA : Aside ((s.data.toList.take (k + 1)).all lowc = true) := by
              show _ = true
              rw [all_take_snoc s k hlt, A.out]
              unfold lowc; simp; omega
            go_wp2
            go_round
            case rel => exact ⟨k + 1, by omega, by go_num, HA⟩
            case measure => simp [intOf]; omega
      · have HF : Aside (r = true) := by
          have := A.out
          rw [List.take_of_length_le (by simp; omega)] at this
          rw [← HR.out, HN.out]; exact this
        go_wp2
        go_ret
        exact ⟨by rw [HF.out]; rfl, rfl⟩

theorem nilGetC (no : Int) (w : World) :
    Calls Try.prog 57 #[.pointer none, .int .i64 no] w fun e w' => e = .returned (.tuple #[.slice none 0 0, .int .i64 1]) ∧ w = w' := by
  go_enter Try.func57, Try.ntmps57
  go_wp2
  go_ret2
  exact ⟨rfl, rfl⟩

theorem nilPutC (no : Int) (a : Option Addr) (n c : Nat) (w : World) :
    Calls Try.prog 55 #[.pointer none, .int .i64 no, .slice a n c] w fun e w' => e = .returned (.int .i64 1) ∧ w = w' := by
  go_enter Try.func55, Try.ntmps55
  go_wp2
  go_ret
  exact ⟨rfl, rfl⟩

theorem nilPinC (no : Int) (w : World) :
    Calls Try.prog 62 #[.pointer none, .int .i64 no] w fun e w' => e = .returned (.int .i64 1) ∧ w = w' := by
  go_enter Try.func62, Try.ntmps62
  go_wp2
  go_ret
  exact ⟨rfl, rfl⟩

theorem nilUnpinC (no : Int) (w : World) :
    Calls Try.prog 63 #[.pointer none, .int .i64 no] w fun e w' => e = .returned (.int .i64 1) ∧ w = w' := by
  go_enter Try.func63, Try.ntmps63
  go_wp2
  go_ret
  exact ⟨rfl, rfl⟩

theorem nilEvictC (no : Int) (w : World) :
    Calls Try.prog 58 #[.pointer none, .int .i64 no] w fun e w' => e = .returned (.int .i64 1) ∧ w = w' := by
  go_enter Try.func58, Try.ntmps58
  go_wp2
  go_ret
  exact ⟨rfl, rfl⟩

theorem nilForgetC (no : Int) (w : World) :
    Calls Try.prog 64 #[.pointer none, .int .i64 no] w fun e w' => e = .returned (.bool false) ∧ w = w' := by
  go_enter Try.func64, Try.ntmps64
  go_wp2
  go_ret
  exact ⟨rfl, rfl⟩

theorem nilFlushC (w : World) :
    Calls Try.prog 59 #[.pointer none] w fun e w' => e = .returned (.int .i64 1) ∧ w = w' := by
  go_enter Try.func59, Try.ntmps59
  go_wp2
  go_ret
  exact ⟨rfl, rfl⟩

theorem nilResidentC (w : World) :
    Calls Try.prog 60 #[.pointer none] w fun e w' => e = .returned (.int .i64 0) ∧ w = w' := by
  go_enter Try.func60, Try.ntmps60
  go_wp2
  go_ret
  exact ⟨rfl, rfl⟩

theorem nilReadsC (w : World) :
    Calls Try.prog 65 #[.pointer none] w fun e w' => e = .returned (.int .i64 0) ∧ w = w' := by
  go_enter Try.func65, Try.ntmps65
  go_wp2
  go_ret
  exact ⟨rfl, rfl⟩

set_option maxRecDepth 100000 in
set_option maxHeartbeats 2000000 in
theorem cacheNil_walk (no : Int) (nm : ByteArray) (w : World) (hnm : nm.size ≤ 9223372036854775807) :
    Calls Try.prog 16 #[.int .i64 no, .string nm] w fun e w' => e = .returned (.bool true) ∧ Below w.heap.size w w' := by
  have hgoal : ∀ F, Calls Try.prog 16 #[.int .i64 no, .string nm] w (fun e w' => e = .returned (.bool true) ∧ Sat (old w * F) w') → Calls Try.prog 16 #[.int .i64 no, .string nm] w fun e w' => e = .returned (.bool true) ∧ Below w.heap.size w w' := fun F h => h.mono fun e w' ⟨h1, h2⟩ => ⟨h1, h2.old_below⟩
  refine hgoal 1 ?_
  clear hgoal
  have hnmd := fun w => namedR_any nm w hnm
  have HND : Aside (∀ w, Calls Try.prog 61 #[.string nm] w fun e w' => e = .returned (.bool (Dk.named nm)) ∧ w = w') := hnmd
  clear hnmd
  go_enter Try.func16, Try.ntmps16
  go_wp2_with fail
  refine (nilGetC no w).mono ?_
  rintro e w' ⟨rfl, rfl⟩
  go_wp2_with fail
  refine (newC_nil ⟨#[97]⟩ 3 w).mono ?_
  rintro e w' ⟨rfl, rfl⟩
  go_wp2_with fail
  refine (newD_yes 100 (old w) w (Sat.old_self w) (by omega) (by omega)).mono ?_
  rintro e w1 ⟨D, rfl, hs1⟩
  cases hn : Dk.named nm with
  | true =>
    rw [hn] at HND
    have hnew := newC_yes D (Dk.new 100) nm 3 (old w) w1 hs1 hn (by omega) (by omega)
    clear hn
    go_wp2_with fail
    refine hnew.mono ?_
    rintro e w2 ⟨C, rfl, hs2⟩
    have hs2 : Sat (old w * 1) w2 := by rw [sep_one]; exact hs2.right
    clear hnew hs1
    go_wp2_with fail
    refine (HND.out _).mono ?_
    rintro e w' ⟨rfl, rfl⟩
    go_wp2_with fail
    refine (awake07 _ _ hs2).mono ?_
    rintro e w3 ⟨rfl, hs3⟩
    have hf := full07_any 1 _ w3 hs3
    rw [show (((1 : UInt8).toNat : Nat) : Int) = 1 from rfl] at hf
    go_wp2_with fail
    refine hf.mono ?_
    rintro e w4 ⟨b4, rfl, hs4⟩
    clear hf hs3 hs2
    go_wp2_with fail
    refine (nilPutC no _ _ _ w4).mono ?_
    rintro e w' ⟨rfl, rfl⟩
    go_wp2_with fail
    refine (nilPinC no w4).mono ?_
    rintro e w' ⟨rfl, rfl⟩
    go_wp2_with fail
    refine (nilUnpinC no w4).mono ?_
    rintro e w' ⟨rfl, rfl⟩
    go_wp2_with fail
    refine (nilEvictC no w4).mono ?_
    rintro e w' ⟨rfl, rfl⟩
    go_wp2_with fail
    refine (nilForgetC no w4).mono ?_
    rintro e w' ⟨rfl, rfl⟩
    go_wp2_with fail
    refine (nilFlushC w4).mono ?_
    rintro e w' ⟨rfl, rfl⟩
    go_wp2_with fail
    refine (nilResidentC w4).mono ?_
    rintro e w' ⟨rfl, rfl⟩
    go_wp2_with fail
    refine (nilReadsC w4).mono ?_
    rintro e w' ⟨rfl, rfl⟩
    go_wp2
    go_ret
    exact ⟨rfl, hs4.right⟩
  | false =>
    rw [hn] at HND
    have hnew := newC_name D nm 3 w1 hnm hn
    clear hn
    go_wp2_with fail
    refine hnew.mono ?_
    rintro e w2 ⟨rfl, rfl⟩
    have hs2 : Sat (old w * 1) w1 := by rw [sep_one]; exact hs1.right
    clear hnew hs1
    go_wp2_with fail
    refine (HND.out _).mono ?_
    rintro e w' ⟨rfl, rfl⟩
    go_wp2_with fail
    refine (awake07 _ _ hs2).mono ?_
    rintro e w3 ⟨rfl, hs3⟩
    have hf := full07_any 1 _ w3 hs3
    rw [show (((1 : UInt8).toNat : Nat) : Int) = 1 from rfl] at hf
    go_wp2_with fail
    refine hf.mono ?_
    rintro e w4 ⟨b4, rfl, hs4⟩
    clear hf hs3 hs2
    go_wp2_with fail
    refine (nilPutC no _ _ _ w4).mono ?_
    rintro e w' ⟨rfl, rfl⟩
    go_wp2_with fail
    refine (nilPinC no w4).mono ?_
    rintro e w' ⟨rfl, rfl⟩
    go_wp2_with fail
    refine (nilUnpinC no w4).mono ?_
    rintro e w' ⟨rfl, rfl⟩
    go_wp2_with fail
    refine (nilEvictC no w4).mono ?_
    rintro e w' ⟨rfl, rfl⟩
    go_wp2_with fail
    refine (nilForgetC no w4).mono ?_
    rintro e w' ⟨rfl, rfl⟩
    go_wp2_with fail
    refine (nilFlushC w4).mono ?_
    rintro e w' ⟨rfl, rfl⟩
    go_wp2_with fail
    refine (nilResidentC w4).mono ?_
    rintro e w' ⟨rfl, rfl⟩
    go_wp2_with fail
    refine (nilReadsC w4).mono ?_
    rintro e w' ⟨rfl, rfl⟩
    go_wp2
    go_ret
    exact ⟨rfl, hs4.right⟩

end Go.Proofs.Ytjhkmmpgjiciiaa
