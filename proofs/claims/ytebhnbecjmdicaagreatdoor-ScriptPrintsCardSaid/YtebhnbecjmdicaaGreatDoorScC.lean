/-
  Walks of package script: asks. (Printed by a program.)
  Walks: strings.Cut at a blank; script.May.
  Walk: script.number.
-/
import Derived.Test.YtebhnbecjmdicaaGreatDoorSc2
import Derived.Test.YtebhnbecjmdicaaGreatDoorChecked
import Derived.WalkLawsBesides
import Derived.Deep.QuietTactic
import Derived.BigQuiet
import Derived.Test.YtebhnbecjmdicaaGreatDoorShelf
import Derived.Test.YtebhnbecjmdicaaGreatDoorScS
import Derived.Deep.DrawnRows
import Derived.Lib.ItoaMem
import Derived.Lib.AppendIntMem
namespace Go.Proofs.YtebhnbecjmdicaaGreatDoor
set_option linter.unusedSimpArgs false
set_option linter.unusedVariables false
open Go.RowKit Go.Sl Go.Sc

attribute [local go_sem] Go.Sc.str_toList Go.Sc.str_size

theorem results_tmp4 {fn : Func} {t u v x : Tmp} (h : fn.results = #[.tmp t, .tmp u, .tmp v, .tmp x]) (tmps : Array Value) (P : Program) (w : World) :
    (results fn tmps).run P w = .ok (.tuple #[tmps.getD t undef, tmps.getD u undef, tmps.getD v undef, tmps.getD x undef]) w := by
  simp [results, h]
def askV : Option (Nat × Nat × Bool) → Value
  | some (a, b, t) => .tuple #[.int .i64 a, .int .i64 b, .bool t, .bool true]
  | none => .tuple #[.int .i64 0, .int .i64 0, .bool false, .bool false]
theorem asks_not (l : Bs) (b0 : (l == [108, 111, 97, 100]) = false) (b1 : (l == [111, 112, 101, 110]) = false) (b2 : (l == [100, 101, 108, 101, 116, 101]) = false) (b3 : (l == [114, 101, 97, 100]) = false) (b4 : (l == [105, 110, 115, 101, 114, 116]) = false) (b5 : (l == [114, 101, 112, 108, 97, 99, 101]) = false) (b6 : (l == [108, 105, 110, 101]) = false) (b7 : (l == [115, 116, 97, 114, 116]) = false) (b8 : (l == [101, 118, 105, 99, 116]) = false) (b9 : (l == [97, 114, 109]) = false) (b10 : (l == [108, 101, 110]) = false) (b11 : (l == [108, 105, 110, 101, 115]) = false) (b12 : (l == [100, 105, 114, 116, 121]) = false) (b13 : (l == [118, 101, 114, 115, 105, 111, 110, 115]) = false) (b14 : (l == [99, 111, 109, 109, 105, 116]) = false) (b15 : (l == [117, 110, 100, 111]) = false) (b16 : (l == [114, 101, 100, 111]) = false) (b17 : (l == [114, 101, 118, 101, 114, 116]) = false) (b18 : (l == [115, 97, 118, 101]) = false) (b19 : (l == [99, 108, 111, 115, 101]) = false) (b20 : (l == [99, 114, 97, 115, 104]) = false) : asks l = none := by
  simp only [asks, tab, List.lookup_cons, b0, b1, b2, b3, b4, b5, b6, b7, b8, b9, b10, b11, b12, b13, b14, b15, b16, b17, b18, b19, b20, List.lookup_nil]
set_option maxHeartbeats 1600000 in
theorem asks_any (l : Bs) (w : World) : Calls Tryz.prog 17 #[.string (str l)] w fun e w' => e = .returned (askV (asks l)) ∧ w' = w := by
  by_cases h0 : l = [108, 111, 97, 100]
  · subst h0
    go_enter Tryz.func17, Tryz.ntmps17
    go_wp2
    (try simp only [Exit.inBlock, Exit.then]); refine bodyPost_ret (results_tmp4 rfl _ _ _) rfl ?_
    exact ⟨rfl, rfl⟩
  by_cases h1 : l = [111, 112, 101, 110]
  · subst h1
    go_enter Tryz.func17, Tryz.ntmps17
    go_wp2
    (try simp only [Exit.inBlock, Exit.then]); refine bodyPost_ret (results_tmp4 rfl _ _ _) rfl ?_
    exact ⟨rfl, rfl⟩
  by_cases h2 : l = [100, 101, 108, 101, 116, 101]
  · subst h2
    go_enter Tryz.func17, Tryz.ntmps17
    go_wp2
    (try simp only [Exit.inBlock, Exit.then]); refine bodyPost_ret (results_tmp4 rfl _ _ _) rfl ?_
    exact ⟨rfl, rfl⟩
  by_cases h3 : l = [114, 101, 97, 100]
  · subst h3
    go_enter Tryz.func17, Tryz.ntmps17
    go_wp2
    (try simp only [Exit.inBlock, Exit.then]); refine bodyPost_ret (results_tmp4 rfl _ _ _) rfl ?_
    exact ⟨rfl, rfl⟩
  by_cases h4 : l = [105, 110, 115, 101, 114, 116]
  · subst h4
    go_enter Tryz.func17, Tryz.ntmps17
    go_wp2
    (try simp only [Exit.inBlock, Exit.then]); refine bodyPost_ret (results_tmp4 rfl _ _ _) rfl ?_
    exact ⟨rfl, rfl⟩
  by_cases h5 : l = [114, 101, 112, 108, 97, 99, 101]
  · subst h5
    go_enter Tryz.func17, Tryz.ntmps17
    go_wp2
    (try simp only [Exit.inBlock, Exit.then]); refine bodyPost_ret (results_tmp4 rfl _ _ _) rfl ?_
    exact ⟨rfl, rfl⟩
  by_cases h6 : l = [108, 105, 110, 101]
  · subst h6
    go_enter Tryz.func17, Tryz.ntmps17
    go_wp2
    (try simp only [Exit.inBlock, Exit.then]); refine bodyPost_ret (results_tmp4 rfl _ _ _) rfl ?_
    exact ⟨rfl, rfl⟩
  by_cases h7 : l = [115, 116, 97, 114, 116]
  · subst h7
    go_enter Tryz.func17, Tryz.ntmps17
    go_wp2
    (try simp only [Exit.inBlock, Exit.then]); refine bodyPost_ret (results_tmp4 rfl _ _ _) rfl ?_
    exact ⟨rfl, rfl⟩
  by_cases h8 : l = [101, 118, 105, 99, 116]
  · subst h8
    go_enter Tryz.func17, Tryz.ntmps17
    go_wp2
    (try simp only [Exit.inBlock, Exit.then]); refine bodyPost_ret (results_tmp4 rfl _ _ _) rfl ?_
    exact ⟨rfl, rfl⟩
  by_cases h9 : l = [97, 114, 109]
  · subst h9
    go_enter Tryz.func17, Tryz.ntmps17
    go_wp2
    (try simp only [Exit.inBlock, Exit.then]); refine bodyPost_ret (results_tmp4 rfl _ _ _) rfl ?_
    exact ⟨rfl, rfl⟩
  by_cases h10 : l = [108, 101, 110]
  · subst h10
    go_enter Tryz.func17, Tryz.ntmps17
    go_wp2
    (try simp only [Exit.inBlock, Exit.then]); refine bodyPost_ret (results_tmp4 rfl _ _ _) rfl ?_
    exact ⟨rfl, rfl⟩
  by_cases h11 : l = [108, 105, 110, 101, 115]
  · subst h11
    go_enter Tryz.func17, Tryz.ntmps17
    go_wp2
    (try simp only [Exit.inBlock, Exit.then]); refine bodyPost_ret (results_tmp4 rfl _ _ _) rfl ?_
    exact ⟨rfl, rfl⟩
  by_cases h12 : l = [100, 105, 114, 116, 121]
  · subst h12
    go_enter Tryz.func17, Tryz.ntmps17
    go_wp2
    (try simp only [Exit.inBlock, Exit.then]); refine bodyPost_ret (results_tmp4 rfl _ _ _) rfl ?_
    exact ⟨rfl, rfl⟩
  by_cases h13 : l = [118, 101, 114, 115, 105, 111, 110, 115]
  · subst h13
    go_enter Tryz.func17, Tryz.ntmps17
    go_wp2
    (try simp only [Exit.inBlock, Exit.then]); refine bodyPost_ret (results_tmp4 rfl _ _ _) rfl ?_
    exact ⟨rfl, rfl⟩
  by_cases h14 : l = [99, 111, 109, 109, 105, 116]
  · subst h14
    go_enter Tryz.func17, Tryz.ntmps17
    go_wp2
    (try simp only [Exit.inBlock, Exit.then]); refine bodyPost_ret (results_tmp4 rfl _ _ _) rfl ?_
    exact ⟨rfl, rfl⟩
  by_cases h15 : l = [117, 110, 100, 111]
  · subst h15
    go_enter Tryz.func17, Tryz.ntmps17
    go_wp2
    (try simp only [Exit.inBlock, Exit.then]); refine bodyPost_ret (results_tmp4 rfl _ _ _) rfl ?_
    exact ⟨rfl, rfl⟩
  by_cases h16 : l = [114, 101, 100, 111]
  · subst h16
    go_enter Tryz.func17, Tryz.ntmps17
    go_wp2
    (try simp only [Exit.inBlock, Exit.then]); refine bodyPost_ret (results_tmp4 rfl _ _ _) rfl ?_
    exact ⟨rfl, rfl⟩
  by_cases h17 : l = [114, 101, 118, 101, 114, 116]
  · subst h17
    go_enter Tryz.func17, Tryz.ntmps17
    go_wp2
    (try simp only [Exit.inBlock, Exit.then]); refine bodyPost_ret (results_tmp4 rfl _ _ _) rfl ?_
    exact ⟨rfl, rfl⟩
  by_cases h18 : l = [115, 97, 118, 101]
  · subst h18
    go_enter Tryz.func17, Tryz.ntmps17
    go_wp2
    (try simp only [Exit.inBlock, Exit.then]); refine bodyPost_ret (results_tmp4 rfl _ _ _) rfl ?_
    exact ⟨rfl, rfl⟩
  by_cases h19 : l = [99, 108, 111, 115, 101]
  · subst h19
    go_enter Tryz.func17, Tryz.ntmps17
    go_wp2
    (try simp only [Exit.inBlock, Exit.then]); refine bodyPost_ret (results_tmp4 rfl _ _ _) rfl ?_
    exact ⟨rfl, rfl⟩
  by_cases h20 : l = [99, 114, 97, 115, 104]
  · subst h20
    go_enter Tryz.func17, Tryz.ntmps17
    go_wp2
    (try simp only [Exit.inBlock, Exit.then]); refine bodyPost_ret (results_tmp4 rfl _ _ _) rfl ?_
    exact ⟨rfl, rfl⟩
  have b0 : (l == [108, 111, 97, 100]) = false := by simpa using h0
  have b1 : (l == [111, 112, 101, 110]) = false := by simpa using h1
  have b2 : (l == [100, 101, 108, 101, 116, 101]) = false := by simpa using h2
  have b3 : (l == [114, 101, 97, 100]) = false := by simpa using h3
  have b4 : (l == [105, 110, 115, 101, 114, 116]) = false := by simpa using h4
  have b5 : (l == [114, 101, 112, 108, 97, 99, 101]) = false := by simpa using h5
  have b6 : (l == [108, 105, 110, 101]) = false := by simpa using h6
  have b7 : (l == [115, 116, 97, 114, 116]) = false := by simpa using h7
  have b8 : (l == [101, 118, 105, 99, 116]) = false := by simpa using h8
  have b9 : (l == [97, 114, 109]) = false := by simpa using h9
  have b10 : (l == [108, 101, 110]) = false := by simpa using h10
  have b11 : (l == [108, 105, 110, 101, 115]) = false := by simpa using h11
  have b12 : (l == [100, 105, 114, 116, 121]) = false := by simpa using h12
  have b13 : (l == [118, 101, 114, 115, 105, 111, 110, 115]) = false := by simpa using h13
  have b14 : (l == [99, 111, 109, 109, 105, 116]) = false := by simpa using h14
  have b15 : (l == [117, 110, 100, 111]) = false := by simpa using h15
  have b16 : (l == [114, 101, 100, 111]) = false := by simpa using h16
  have b17 : (l == [114, 101, 118, 101, 114, 116]) = false := by simpa using h17
  have b18 : (l == [115, 97, 118, 101]) = false := by simpa using h18
  have b19 : (l == [99, 108, 111, 115, 101]) = false := by simpa using h19
  have b20 : (l == [99, 114, 97, 115, 104]) = false := by simpa using h20
  rw [asks_not l b0 b1 b2 b3 b4 b5 b6 b7 b8 b9 b10 b11 b12 b13 b14 b15 b16 b17 b18 b19 b20]
  clear h0 h1 h2 h3 h4 h5 h6 h7 h8 h9 h10 h11 h12 h13 h14 h15 h16 h17 h18 h19 h20
  go_enter Tryz.func17, Tryz.ntmps17
  go_wp2
  (try simp only [Exit.inBlock, Exit.then]); refine bodyPost_ret (results_tmp4 rfl _ _ _) rfl ?_
  exact ⟨rfl, rfl⟩
end Go.Proofs.YtebhnbecjmdicaaGreatDoor

namespace Go.Proofs.YtebhnbecjmdicaaGreatDoor
set_option linter.unusedSimpArgs false
set_option linter.unusedVariables false
open Go.RowKit Go.Sl Go.Sc

attribute [local go_sem] Go.Sl.cell_sat Go.Sl.frozen_sat Go.Sc.str_toList Go.Sc.str_size Go.Sc.str_extract

theorem slcut_any (l : Bs) (hl : l.length ≤ 9223372036854775807) (w : World) : Calls Tryz.prog 35 #[.string (str l), .string ⟨#[32]⟩] w fun e w' => e = .returned (.tuple #[.string (str (cut l).1), .string (str (cut l).2.1), .bool (cut l).2.2]) ∧ ∃ n, w' = w.drewN n := by
  have hI := Any.stringslite_Index_one Tryz.lays219 (str l) 32 w
  rw [str_data] at hI
  have hI' : Calls Tryz.prog 51 #[.string (str l), .string ⟨#[32]⟩] w fun e w' => e = .returned (.int .i64 (Lib.indexByte l 32)) ∧ w' = w := hI
  clear hI
  rcases cut_idx l with ⟨h1, h2⟩ | ⟨k, h1, h2, h3⟩
  · rw [h1] at hI'
    rw [h2]
    clear h1 h2
    go_enter Tryz.func35, Tryz.ntmps35
    go_wp2_with fail
    refine hI'.mono ?_
    rintro e w' ⟨rfl, rfl⟩
    go_wp2
    go_ret3
    exact ⟨rfl, 0, rfl⟩
  · rw [h1] at hI'
    rw [h3]
    clear h1 h3
    have hk : (k : Int) + 1 ≤ l.length := by omega
    have hk2 : (k : Int) ≤ l.length := by omega
    go_enter Tryz.func35, Tryz.ntmps35
    go_wp2_with fail
    refine hI'.mono ?_
    rintro e w' ⟨rfl, rfl⟩
    go_wp2
    go_region
    all_goals
      go_wp2
      go_ret3
      refine ⟨?_, _, rfl⟩
      simp [List.take_of_length_le]
theorem cut_any (l : Bs) (hl : l.length ≤ 9223372036854775807) (w : World) : Calls Tryz.prog 24 #[.string (str l), .string ⟨#[32]⟩] w fun e w' => e = .returned (.tuple #[.string (str (cut l).1), .string (str (cut l).2.1), .bool (cut l).2.2]) ∧ ∃ n, w' = w.drewN n := by
  have h := slcut_any l hl w
  go_enter Tryz.func24, Tryz.ntmps24
  go_wp2_with fail
  refine h.mono ?_
  rintro e w' ⟨rfl, n, rfl⟩
  go_wp2
  go_ret3
  exact ⟨rfl, n, rfl⟩

abbrev cmdV (wd : Bs) (v1 v2 : Value) : Value := .agg #[.string (str wd), v1, v2]
def mayN (wd : Bs) (nums : List Int) (n : Nat) : Bool := match asks wd with
  | some (a, b, t) => decide (a ≤ nums.length) && decide (nums.length ≤ b) && (t || decide (n = 0)) && numsOk nums
  | none => false
theorem may_n (wd : Bs) (nums : List Int) (text : Bs) : may ⟨wd, nums, text⟩ = mayN wd nums text.length := by
  unfold may mayN
  cases asks wd with
  | none => rfl
  | some r =>
    obtain ⟨a, b, t⟩ := r
    cases text <;> simp
theorem numsOk_take {l : List Int} {i : Nat} {x : Int} (h : l[i]? = some x) : numsOk (l.take (i + 1)) = (numsOk (l.take i) && (decide (-999999999999999999 ≤ x) && decide (x ≤ 999999999999999999))) := by
  unfold numsOk
  rw [List.take_add_one, h]
  simp
theorem numsOk_no {l : List Int} {i : Nat} {x : Int} (h : l[i]? = some x) (hx : x < -999999999999999999 ∨ 999999999999999999 < x) : numsOk l = false := by
  unfold numsOk
  rw [List.all_eq_false]
  refine ⟨x, List.mem_of_getElem? h, ?_⟩
  simp
  omega

set_option maxHeartbeats 1600000 in
theorem may_any (wd : Bs) (v1 : Value) (nums : List Int) (ta : Option Addr) (tl tc : Nat) (w : World) (hz : Zat w v1 nums) :
    Calls Tryz.prog 8 #[cmdV wd v1 (.slice ta tl tc)] w fun e w' => e = .returned (.bool (mayN wd nums tl)) ∧ Below w.heap.size w w' := by
  obtain ⟨a1, c1, rfl, hc1, hc2⟩ := hz.len
  have HZ : Aside (Zat w (.slice a1 nums.length c1) nums) := hz
  have hlen : nums.length ≤ 9223372036854775807 := Nat.le_trans hc1 (by simpa [maxLen] using hc2)
  clear hz hc1 hc2
  have ha := asks_any wd
  haveI := (Sat.old_self w).i
  unfold mayN
  cases hq : asks wd with
  | none =>
    rw [hq] at ha
    clear hq
    go_enter Tryz.func8, Tryz.ntmps8
    go_wp2_with fail
    refine (ha _).mono ?_
    unfold askV
    rintro e w' ⟨rfl, rfl⟩
    go_wp2
    go_ret
    exact ⟨rfl, (Sat.eq (takeI (old w)) rfl).old_below⟩
  | some r =>
    obtain ⟨a, b, t⟩ := r
    rw [hq] at ha
    clear hq
    have ha' : ∀ w, Calls Tryz.prog 17 #[.string (str wd)] w fun e w' => e = .returned (.tuple #[.int .i64 a, .int .i64 b, .bool t, .bool true]) ∧ w' = w := ha
    clear ha
    by_cases p1 : nums.length < a
    · have e1 : decide (a ≤ nums.length) = false := decide_eq_false (by omega)
      simp only [e1, Bool.false_and]
      have p1' : (nums.length : Int) < a := by omega
      go_enter Tryz.func8, Tryz.ntmps8
      go_wp2_with fail
      refine (ha' _).mono ?_
      rintro e w' ⟨rfl, rfl⟩
      go_wp2
      go_ret
      exact ⟨rfl, (Sat.eq (takeI (old w)) rfl).old_below⟩
    · have e1 : decide (a ≤ nums.length) = true := decide_eq_true (by omega)
      have p1' : ¬ (nums.length : Int) < a := by omega
      by_cases p2 : b < nums.length
      · have e2 : decide (nums.length ≤ b) = false := decide_eq_false (by omega)
        simp only [e1, e2, Bool.false_and, Bool.true_and]
        have p2' : (b : Int) < nums.length := by omega
        go_enter Tryz.func8, Tryz.ntmps8
        go_wp2_with fail
        refine (ha' _).mono ?_
        rintro e w' ⟨rfl, rfl⟩
        go_wp2
        go_ret
        exact ⟨rfl, (Sat.eq (takeI (old w)) rfl).old_below⟩
      · have e2 : decide (nums.length ≤ b) = true := decide_eq_true (by omega)
        have p2' : ¬ (b : Int) < nums.length := by omega
        by_cases p3 : t = false ∧ 0 < tl
        · obtain ⟨rfl, p3⟩ := p3
          have e3 : decide (tl = 0) = false := decide_eq_false (by omega)
          simp only [e1, e2, e3, Bool.false_or, Bool.false_and, Bool.true_and]
          have p3' : (0 : Int) < tl := by omega
          go_enter Tryz.func8, Tryz.ntmps8
          go_wp2_with fail
          refine (ha' _).mono ?_
          rintro e w' ⟨rfl, rfl⟩
          go_wp2
          go_ret
          exact ⟨rfl, (Sat.eq (takeI (old w)) rfl).old_below⟩
        · have e3 : (t || decide (tl = 0)) = true := by
            cases t with
            | true => rfl
            | false =>
              have : ¬ 0 < tl := fun h => p3 ⟨rfl, h⟩
              simp
              omega
          cases t with
          | true =>
            simp only [e1, e2, e3, Bool.true_and]
            clear e1 e2 e3 p3
            go_enter Tryz.func8, Tryz.ntmps8
            go_wp2_with fail
            refine (ha' _).mono ?_
            rintro e w' ⟨rfl, rfl⟩
            go_wp2
            go_loopg [46] nums.length (fun g t46 wr => ∃ i : Nat, t46 = .int .i64 i ∧ i ≤ nums.length ∧ Aside (g = nums.length - i ∧ numsOk (nums.take i) = true) ∧ Sat (old w) wr)
            case atStart => exact ⟨0, rfl, by omega, ⟨rfl, rfl⟩, (takeI (old w)).weak⟩
            case round =>
              obtain ⟨i, rfl, hi, A, hsr⟩ := hrel
              haveI := hsr.i
              by_cases hlt : i < nums.length
              · have hlt' : (i : Int) < nums.length := by omega
                obtain ⟨x, hx⟩ : ∃ x, nums[i]? = some x := ⟨nums[i], by simp [hlt]⟩
                obtain ⟨b0, o0, rfl, hc⟩ := HZ.out.at hx
                haveI : OldAt w b0 (o0 + i) (.int .i64 x) := ⟨hc⟩
                have HX : Aside (nums[i]? = some x) := hx
                clear hx hc
                by_cases x1 : x < -999999999999999999
                · go_wp2
                  go_ret
                  exact ⟨by rw [numsOk_no HX.out (.inl x1)]; rfl, (Sat.eq hsr (sep_one _).symm).old_below⟩
                · by_cases x2 : 999999999999999999 < x
                  · go_wp2
                    go_ret
                    exact ⟨by rw [numsOk_no HX.out (.inr x2)]; rfl, (Sat.eq hsr (sep_one _).symm).old_below⟩
                  · go_wp2
                    go_roundg (nums.length - (i + 1))
                    case measure => have := A.out.1; omega
                    case rel => exact ⟨i + 1, by go_num, by omega, ⟨rfl, by rw [numsOk_take HX.out, A.out.2]; simp; omega⟩, satI⟩
              · have hlt' : ¬ (i : Int) < nums.length := by omega
                have HN : Aside (numsOk nums = true) := (by have h9 := A.out.2; rw [List.take_of_length_le (by omega)] at h9; exact h9 : _ = _)
                go_wp2
                go_ret
                exact ⟨by rw [HN.out]; rfl, (Sat.eq hsr (sep_one _).symm).old_below⟩
          | false =>
            have p3' : ¬ (0 : Int) < tl := by
              intro h
              exact p3 ⟨rfl, by omega⟩
            have p3'' : ¬ 0 < tl := by omega
            simp only [e1, e2, e3, Bool.true_and]
            clear e1 e2 e3 p3
            go_enter Tryz.func8, Tryz.ntmps8
            go_wp2_with fail
            refine (ha' _).mono ?_
            rintro e w' ⟨rfl, rfl⟩
            go_wp2
            go_loopg [46] nums.length (fun g t46 wr => ∃ i : Nat, t46 = .int .i64 i ∧ i ≤ nums.length ∧ Aside (g = nums.length - i ∧ numsOk (nums.take i) = true) ∧ Sat (old w) wr)
            case atStart => exact ⟨0, rfl, by omega, ⟨rfl, rfl⟩, (takeI (old w)).weak⟩
            case round =>
              obtain ⟨i, rfl, hi, A, hsr⟩ := hrel
              haveI := hsr.i
              by_cases hlt : i < nums.length
              · have hlt' : (i : Int) < nums.length := by omega
                obtain ⟨x, hx⟩ : ∃ x, nums[i]? = some x := ⟨nums[i], by simp [hlt]⟩
                obtain ⟨b0, o0, rfl, hc⟩ := HZ.out.at hx
                haveI : OldAt w b0 (o0 + i) (.int .i64 x) := ⟨hc⟩
                have HX : Aside (nums[i]? = some x) := hx
                clear hx hc
                by_cases x1 : x < -999999999999999999
                · go_wp2
                  go_ret
                  exact ⟨by rw [numsOk_no HX.out (.inl x1)]; rfl, (Sat.eq hsr (sep_one _).symm).old_below⟩
                · by_cases x2 : 999999999999999999 < x
                  · go_wp2
                    go_ret
                    exact ⟨by rw [numsOk_no HX.out (.inr x2)]; rfl, (Sat.eq hsr (sep_one _).symm).old_below⟩
                  · go_wp2
                    go_roundg (nums.length - (i + 1))
                    case measure => have := A.out.1; omega
                    case rel => exact ⟨i + 1, by go_num, by omega, ⟨rfl, by rw [numsOk_take HX.out, A.out.2]; simp; omega⟩, satI⟩
              · have hlt' : ¬ (i : Int) < nums.length := by omega
                have HN : Aside (numsOk nums = true) := (by have h9 := A.out.2; rw [List.take_of_length_le (by omega)] at h9; exact h9 : _ = _)
                go_wp2
                go_ret
                exact ⟨by rw [HN.out]; rfl, (Sat.eq hsr (sep_one _).symm).old_below⟩
end Go.Proofs.YtebhnbecjmdicaaGreatDoor

namespace Go.Proofs.YtebhnbecjmdicaaGreatDoor
set_option linter.unusedSimpArgs false
set_option linter.unusedVariables false
open Go.RowKit Go.Sl Go.Sc

attribute [local go_sem] Go.Sl.cell_sat Go.Sl.frozen_sat Go.Sc.str_toList Go.Sc.str_size Go.Sc.str_extract

/-- what is laid when a call begins: the errors of strconv, and the powers of ten -/
structure Ctx (w : World) : Prop where
  es : ∃ te pe, w.cell? ⟨2, 0, none⟩ = some (.iface te pe)
  er : ∃ te pe, w.cell? ⟨3, 0, none⟩ = some (.iface te pe)
  tab : Lib.TabIs Tryz.prog w "internal/strconv.uint64pow10" .u64 Lib.pow10Tab
theorem Ctx.below {w w' : World} (h : Ctx w) (hb : Below w.heap.size w w') : Ctx w' := by
  obtain ⟨⟨te, pe, h1⟩, ⟨tr, pr, h2⟩, h3⟩ := h
  exact ⟨⟨te, pe, by rw [hb.cell (World.block_lt_of_cell? w _ h1)]; exact h1⟩, ⟨tr, pr, by rw [hb.cell (World.block_lt_of_cell? w _ h2)]; exact h2⟩, Lib.tabBelow_of_tabIs h3 w' hb⟩
theorem below_grow {w : World} (k : Nat) (os : Array Obj) : Below w.heap.size w (Sort.grow (w.drewN k) os) := ⟨rfl, rfl, rfl, by simp [Sort.grow, World.drewN], fun b hb => Sort.heap_grow_old (w.drewN k) os hb⟩
theorem itoa_any (n : Int) (h0 : -9223372036854775808 ≤ n) (h1 : n ≤ 9223372036854775807) (w : World) (hc : Ctx w) : Calls Tryz.prog 16 #[.int .i64 n] w fun e w' => e = .returned (.string (str (Lib.itoa n))) ∧ Below w.heap.size w w' :=
  (Any.strconv_Itoa Tryz.laysM171 n h0 h1 w hc.tab).mono fun e w' ⟨he, k, os, hw⟩ => ⟨he, by rw [hw]; exact below_grow k os⟩
/-- a number's reading -/
theorem atoi_any (l : Bs) (hl : l.length ≤ 19) (w : World) (hc : Ctx w) : Calls Tryz.prog 36 #[.string (str l)] w fun e w' => (∃ n v, e = .returned (.tuple #[.int .i64 n, v]) ∧ (Lib.atoiAll l = .ok n ∧ v = .nilIface ∨ (∀ m, Lib.atoiAll l ≠ .ok m) ∧ ∃ t p, v = .iface t p)) ∧ Below w.heap.size w w' := by
  have hs : (str l).size ≤ 19 := by rw [str_size]; exact hl
  cases hq : Lib.atoiAll l with
  | ok n =>
    refine (Any.strconv_Atoi_ok Tryz.laysC172 (str l) (by omega) n (by rw [str_data]; exact hq) w).mono ?_
    rintro e w' ⟨rfl, hw⟩
    refine ⟨⟨n, _, rfl, .inl ⟨rfl, rfl⟩⟩, ?_⟩
    rcases hw with rfl | ⟨t, rfl⟩
    · exact Below.refl _ _
    · exact Lib.bytesWorld_below _ _ _
  | range =>
    obtain ⟨te, pe, h1⟩ := hc.er
    refine (Any.strconv_Atoi_range Tryz.laysC172 (str l) (by omega) (by rw [str_data]; exact hq) _ w h1 (.inr ⟨te, pe, rfl⟩)).mono ?_
    rintro e w' ⟨N, rfl, _, _, hb⟩
    exact ⟨⟨_, _, rfl, .inr ⟨fun m h => (by cases h), _, _, rfl⟩⟩, hb⟩
  | _ =>
    obtain ⟨te, pe, h1⟩ := hc.es
    refine (Any.strconv_Atoi_syntax Tryz.laysC172 (str l) (by omega) (by rw [str_data]; exact hq) _ w h1 (.inr ⟨te, pe, rfl⟩)).mono ?_
    rintro e w' ⟨N, rfl, _, _, hb⟩
    exact ⟨⟨0, _, rfl, .inr ⟨fun m h => (by cases h), _, _, rfl⟩⟩, hb⟩

set_option maxHeartbeats 1600000 in
theorem number_any (l : Bs) (w : World) (hc : Ctx w) : Calls Tryz.prog 25 #[.string (str l)] w fun e w' => (∃ (n : Int) (ok : Bool), e = .returned (.tuple #[.int .i64 n, .bool ok]) ∧ numP l = (if ok then some n else none)) ∧ Below w.heap.size w w' := by
  by_cases hl : 19 < l.length
  · have hl' : (19 : Int) < l.length := by omega
    go_enter Tryz.func25, Tryz.ntmps25
    go_wp2
    go_ret2
    exact ⟨⟨0, false, rfl, by unfold numP; rw [if_pos hl]; rfl⟩, Below.refl _ _⟩
  · have hl' : ¬ (19 : Int) < l.length := by omega
    have ha := atoi_any l (by omega) w hc
    have HI : Aside (∀ (n : Int) (w : World), -9223372036854775808 ≤ n → n ≤ 9223372036854775807 → Ctx w → Calls Tryz.prog 16 #[.int .i64 n] w fun e w' => e = .returned (.string (str (Lib.itoa n))) ∧ Below w.heap.size w w') := fun n w h0 h1 hc => itoa_any n h0 h1 w hc
    go_enter Tryz.func25, Tryz.ntmps25
    go_wp2_with fail
    refine ha.mono ?_
    rintro e w1 ⟨⟨n, v, rfl, hn⟩, hb⟩
    rcases hn with ⟨hq, rfl⟩ | ⟨hq, t, p, rfl⟩
    · have hc1 := hc.below hb
      have HB : Aside (Below w.heap.size w w1 ∧ Ctx w1) := ⟨hb, hc1⟩
      obtain ⟨hr0, hr1⟩ := Lib.atoiAll_bounds hq
      have HQ : Aside (Lib.atoiAll l = .ok n) := hq
      have HT := HI.out n w1 hr0 hr1 hc1
      clear hb hc1 hq ha
      go_wp2_with fail
      refine HT.mono ?_
      rintro e w2 ⟨rfl, hb2⟩
      go_wp2
      go_ret2
      refine ⟨⟨n, _, rfl, ?_⟩, HB.out.1.trans (hb2.mono HB.out.1.size)⟩
      unfold numP
      rw [if_neg hl, HQ.out]
      by_cases h : Lib.itoa n = l
      · simp [h]
      · simp [h]
    · go_wp2
      go_ret2
      refine ⟨⟨n, false, rfl, ?_⟩, hb⟩
      unfold numP
      rw [if_neg hl]
      cases h : Lib.atoiAll l with
      | ok m => exact absurd h (hq m)
      | _ => rfl
end Go.Proofs.YtebhnbecjmdicaaGreatDoor
