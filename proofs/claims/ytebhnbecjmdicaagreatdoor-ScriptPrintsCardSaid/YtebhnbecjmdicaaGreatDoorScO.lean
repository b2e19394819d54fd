/-
  Walks of the document's answer for lines: Asks. (Printed by a program.)
  Walks of the document's answer for lines: May, first, hex.
  Walk of the document's answer for lines: number. (Printed by a program.)
-/
import Derived.Test.YtebhnbecjmdicaaGreatDoorScH
namespace Go.Sc
def noneL : List Bs := [[108, 101, 110], [108, 105, 110, 101, 115], [100, 105, 114, 116, 121], [118, 101, 114, 115, 105, 111, 110, 115], [99, 111, 109, 109, 105, 116], [117, 110, 100, 111], [114, 101, 100, 111], [114, 101, 118, 101, 114, 116], [115, 97, 118, 101], [99, 108, 111, 115, 101]]
theorem none_ask : ∀ x ∈ noneL, asks x = some (0, 0, false) := by decide
end Go.Sc
namespace Go.Proofs.YtebhnbecjmdicaaGreatDoor
set_option linter.unusedSimpArgs false
set_option linter.unusedVariables false
open Go.RowKit Go.Sl Go.Sc
attribute [local go_sem] Go.Sl.cell_sat Go.Sl.frozen_sat Go.Sc.str_toList Go.Sc.str_size Go.Sc.str_extract

def askR : Option (Nat × Nat × Bool) → Value
  | some (a, b, t) => .tuple #[.int .i64 a, .int .i64 b, .bool t]
  | none => .tuple #[.int .i64 (-1), .int .i64 (-1), .bool false]
set_option maxHeartbeats 3200000 in
theorem refAsks_any (l : Bs) (w : World) : Calls Tryz.prog 20 #[.string (str l)] w fun e w' => e = .returned (askR (asks l)) ∧ Below w.heap.size w w' := by
  obtain ⟨r, hr⟩ : ∃ r, asks l = r := ⟨_, rfl⟩
  rw [hr]
  have HR : Aside (asks l = r) := hr
  clear hr
  haveI := (Sat.old_self w).i
  have hs0 := (Sat.old_self w).alloc #[.string (str [108, 101, 110]), .string (str [108, 105, 110, 101, 115]), .string (str [100, 105, 114, 116, 121]), .string (str [118, 101, 114, 115, 105, 111, 110, 115]), .string (str [99, 111, 109, 109, 105, 116]), .string (str [117, 110, 100, 111]), .string (str [114, 101, 100, 111]), .string (str [114, 101, 118, 101, 114, 116]), .string (str [115, 97, 118, 101]), .string (str [99, 108, 111, 115, 101])] 9
  go_enter Tryz.func20, Tryz.ntmps20
  go_wp2
  go_loopg [6] 10 (fun g t6 wr => ∃ i : Nat, t6 = .int .i64 i ∧ i ≤ 10 ∧ Aside (g = 10 - i ∧ ∀ x ∈ noneL.take i, l ≠ x) ∧ Sat (block w.heap.size 9 (noneL.map fun x => .string (str x)) * old w) wr)
  case atStart => exact ⟨0, rfl, by omega, ⟨rfl, by simp⟩, hs0⟩
  case round =>
    obtain ⟨i, rfl, hi, A, hsr⟩ := hrel
    clear hs0
    haveI := hsr.i
    by_cases hlt : i < 10
    · have hlt' : (i : Int) < 10 := by omega
      obtain ⟨x, hx⟩ : ∃ x, noneL[i]? = some x := ⟨noneL[i]'(by simpa [noneL] using hlt), by simp⟩
      haveI : At (noneL.map fun x => Value.string (str x)) i (.string (str x)) := ⟨by rw [List.getElem?_map, hx]; rfl⟩
      have HX : Aside (noneL[i]? = some x) := hx
      clear hx
      by_cases he : x = l
      · have b : (x == l) = true := by simpa using he
        have HN : Aside (r = some (0, 0, false)) := HR.out.symm.trans (none_ask l (by rw [← he]; exact List.mem_of_getElem? HX.out))
        clear he
        go_wp2
        go_ret3
        exact ⟨by rw [HN.out]; rfl, (Sat.eq hsr (sep_comm _ _)).old_below⟩
      · have b : (x == l) = false := by simpa using he
        have HN : Aside (∀ y ∈ noneL.take (i + 1), l ≠ y) := by
          intro y hy
          rw [List.take_add_one, HX.out] at hy
          rcases List.mem_append.1 hy with h | h
          · exact A.out.2 y h
          · simp at h
            subst h
            exact fun h => he h.symm
        clear he
        go_wp2
        go_roundg (10 - (i + 1))
        case measure => have := A.out.1; omega
        case rel => exact ⟨i + 1, by go_num, by omega, ⟨rfl, HN.out⟩, satI⟩
    · have hlt' : ¬ (i : Int) < 10 := by omega
      obtain rfl : i = 10 := by omega
      have hno : ∀ y ∈ noneL, l ≠ y := A.out.2
      have b10 : (l == [108, 101, 110]) = false := by simpa using hno [108, 101, 110] (by decide)
      have b11 : (l == [108, 105, 110, 101, 115]) = false := by simpa using hno [108, 105, 110, 101, 115] (by decide)
      have b12 : (l == [100, 105, 114, 116, 121]) = false := by simpa using hno [100, 105, 114, 116, 121] (by decide)
      have b13 : (l == [118, 101, 114, 115, 105, 111, 110, 115]) = false := by simpa using hno [118, 101, 114, 115, 105, 111, 110, 115] (by decide)
      have b14 : (l == [99, 111, 109, 109, 105, 116]) = false := by simpa using hno [99, 111, 109, 109, 105, 116] (by decide)
      have b15 : (l == [117, 110, 100, 111]) = false := by simpa using hno [117, 110, 100, 111] (by decide)
      have b16 : (l == [114, 101, 100, 111]) = false := by simpa using hno [114, 101, 100, 111] (by decide)
      have b17 : (l == [114, 101, 118, 101, 114, 116]) = false := by simpa using hno [114, 101, 118, 101, 114, 116] (by decide)
      have b18 : (l == [115, 97, 118, 101]) = false := by simpa using hno [115, 97, 118, 101] (by decide)
      have b19 : (l == [99, 108, 111, 115, 101]) = false := by simpa using hno [99, 108, 111, 115, 101] (by decide)
      have HNo : Aside (∀ y ∈ noneL, l ≠ y) := hno
      clear hno A
      by_cases h0 : l = [108, 111, 97, 100]
      · have HN : Aside (r = some (0, 0, true)) := HR.out.symm.trans (by rw [h0]; rfl)
        clear b10 b11 b12 b13 b14 b15 b16 b17 b18 b19
        go_wp2
        go_ret3
        exact ⟨by rw [HN.out]; rfl, (Sat.eq hsr (sep_comm _ _)).old_below⟩
      have b0 : (l == [108, 111, 97, 100]) = false := by simpa using h0
      by_cases h4 : l = [105, 110, 115, 101, 114, 116]
      · have HN : Aside (r = some (1, 1, true)) := HR.out.symm.trans (by rw [h4]; rfl)
        clear b10 b11 b12 b13 b14 b15 b16 b17 b18 b19
        go_wp2
        go_ret3
        exact ⟨by rw [HN.out]; rfl, (Sat.eq hsr (sep_comm _ _)).old_below⟩
      have b4 : (l == [105, 110, 115, 101, 114, 116]) = false := by simpa using h4
      by_cases h5 : l = [114, 101, 112, 108, 97, 99, 101]
      · have HN : Aside (r = some (2, 2, true)) := HR.out.symm.trans (by rw [h5]; rfl)
        clear b10 b11 b12 b13 b14 b15 b16 b17 b18 b19
        go_wp2
        go_ret3
        exact ⟨by rw [HN.out]; rfl, (Sat.eq hsr (sep_comm _ _)).old_below⟩
      have b5 : (l == [114, 101, 112, 108, 97, 99, 101]) = false := by simpa using h5
      by_cases h1 : l = [111, 112, 101, 110]
      · have HN : Aside (r = some (2, 2, false)) := HR.out.symm.trans (by rw [h1]; rfl)
        clear b10 b11 b12 b13 b14 b15 b16 b17 b18 b19
        go_wp2
        go_ret3
        exact ⟨by rw [HN.out]; rfl, (Sat.eq hsr (sep_comm _ _)).old_below⟩
      have b1 : (l == [111, 112, 101, 110]) = false := by simpa using h1
      by_cases h2 : l = [100, 101, 108, 101, 116, 101]
      · have HN : Aside (r = some (2, 2, false)) := HR.out.symm.trans (by rw [h2]; rfl)
        clear b10 b11 b12 b13 b14 b15 b16 b17 b18 b19
        go_wp2
        go_ret3
        exact ⟨by rw [HN.out]; rfl, (Sat.eq hsr (sep_comm _ _)).old_below⟩
      have b2 : (l == [100, 101, 108, 101, 116, 101]) = false := by simpa using h2
      by_cases h3 : l = [114, 101, 97, 100]
      · have HN : Aside (r = some (2, 2, false)) := HR.out.symm.trans (by rw [h3]; rfl)
        clear b10 b11 b12 b13 b14 b15 b16 b17 b18 b19
        go_wp2
        go_ret3
        exact ⟨by rw [HN.out]; rfl, (Sat.eq hsr (sep_comm _ _)).old_below⟩
      have b3 : (l == [114, 101, 97, 100]) = false := by simpa using h3
      by_cases h6 : l = [108, 105, 110, 101]
      · have HN : Aside (r = some (1, 1, false)) := HR.out.symm.trans (by rw [h6]; rfl)
        clear b10 b11 b12 b13 b14 b15 b16 b17 b18 b19
        go_wp2
        go_ret3
        exact ⟨by rw [HN.out]; rfl, (Sat.eq hsr (sep_comm _ _)).old_below⟩
      have b6 : (l == [108, 105, 110, 101]) = false := by simpa using h6
      by_cases h7 : l = [115, 116, 97, 114, 116]
      · have HN : Aside (r = some (1, 1, false)) := HR.out.symm.trans (by rw [h7]; rfl)
        clear b10 b11 b12 b13 b14 b15 b16 b17 b18 b19
        go_wp2
        go_ret3
        exact ⟨by rw [HN.out]; rfl, (Sat.eq hsr (sep_comm _ _)).old_below⟩
      have b7 : (l == [115, 116, 97, 114, 116]) = false := by simpa using h7
      by_cases h8 : l = [101, 118, 105, 99, 116]
      · have HN : Aside (r = some (1, 1, false)) := HR.out.symm.trans (by rw [h8]; rfl)
        clear b10 b11 b12 b13 b14 b15 b16 b17 b18 b19
        go_wp2
        go_ret3
        exact ⟨by rw [HN.out]; rfl, (Sat.eq hsr (sep_comm _ _)).old_below⟩
      have b8 : (l == [101, 118, 105, 99, 116]) = false := by simpa using h8
      by_cases h9 : l = [97, 114, 109]
      · have HN : Aside (r = some (1, 1, false)) := HR.out.symm.trans (by rw [h9]; rfl)
        clear b10 b11 b12 b13 b14 b15 b16 b17 b18 b19
        go_wp2
        go_ret3
        exact ⟨by rw [HN.out]; rfl, (Sat.eq hsr (sep_comm _ _)).old_below⟩
      have b9 : (l == [97, 114, 109]) = false := by simpa using h9
      by_cases h20 : l = [99, 114, 97, 115, 104]
      · have HN : Aside (r = some (0, 64, false)) := HR.out.symm.trans (by rw [h20]; rfl)
        clear b10 b11 b12 b13 b14 b15 b16 b17 b18 b19
        go_wp2
        go_ret3
        exact ⟨by rw [HN.out]; rfl, (Sat.eq hsr (sep_comm _ _)).old_below⟩
      have b20 : (l == [99, 114, 97, 115, 104]) = false := by simpa using h20
      have HN : Aside (r = none) := HR.out.symm.trans (asks_not l b0 b1 b2 b3 b4 b5 b6 b7 b8 b9 b10 b11 b12 b13 b14 b15 b16 b17 b18 b19 b20)
      clear h0 h4 h5 h1 h2 h3 h6 h7 h8 h9 h20
      go_wp2
      go_ret3
      exact ⟨by rw [HN.out]; rfl, (Sat.eq hsr (sep_comm _ _)).old_below⟩
end Go.Proofs.YtebhnbecjmdicaaGreatDoor

namespace Go.Proofs.YtebhnbecjmdicaaGreatDoor
set_option linter.unusedSimpArgs false
set_option linter.unusedVariables false
open Go.RowKit Go.Sl Go.Sc
attribute [local go_sem] Go.Sl.cell_sat Go.Sl.frozen_sat Go.Sc.str_toList Go.Sc.str_size Go.Sc.str_extract

set_option maxHeartbeats 1600000 in
theorem refMay_any (wd : Bs) (v1 : Value) (nums : List Int) (ta : Option Addr) (tl tc : Nat) (w : World) (hz : Zat w v1 nums) :
    Calls Tryz.prog 9 #[cmdV wd v1 (.slice ta tl tc)] w fun e w' => e = .returned (.bool (mayN wd nums tl)) ∧ Below w.heap.size w w' := by
  obtain ⟨a1, c1, rfl, hc1, hc2⟩ := hz.len
  have HZ : Aside (Zat w (.slice a1 nums.length c1) nums) := hz
  have hlen : nums.length ≤ 9223372036854775807 := Nat.le_trans hc1 (by simpa [maxLen] using hc2)
  clear hz hc1 hc2
  have ha := refAsks_any wd
  have hs0 := (Sat.old_self w).alloc #[.string (str wd), .slice a1 nums.length c1, .slice ta tl tc] TCm
  haveI := (Sat.old_self w).i
  unfold mayN
  cases hq : asks wd with
  | none =>
    rw [hq] at ha
    have ha' : ∀ w, Calls Tryz.prog 20 #[.string (str wd)] w fun e w' => e = .returned (.tuple #[.int .i64 (-1), .int .i64 (-1), .bool false]) ∧ Below w.heap.size w w' := ha
    clear hq ha
    go_enter Tryz.func9, Tryz.ntmps9
    go_wp2_with fail
    refine (ha' _).mono ?_
    rintro e w' ⟨rfl, hb⟩
    have hs1 := hs0.below hb
    haveI := hs1.i
    go_wp2
    go_ret
    exact ⟨rfl, (Sat.eq hs1 (sep_comm _ _)).old_below⟩
  | some r =>
    obtain ⟨a, b, t⟩ := r
    rw [hq] at ha
    clear hq
    have ha' : ∀ w, Calls Tryz.prog 20 #[.string (str wd)] w fun e w' => e = .returned (.tuple #[.int .i64 a, .int .i64 b, .bool t]) ∧ Below w.heap.size w w' := ha
    clear ha
    have p0 : ¬ (a : Int) < 0 := by omega
    by_cases p1 : nums.length < a
    · have e1 : decide (a ≤ nums.length) = false := decide_eq_false (by omega)
      simp only [e1, Bool.false_and]
      have p1' : (nums.length : Int) < a := by omega
      go_enter Tryz.func9, Tryz.ntmps9
      go_wp2_with fail
      refine (ha' _).mono ?_
      rintro e w' ⟨rfl, hb⟩
      have hs1 := hs0.below hb
      haveI := hs1.i
      go_wp2
      go_ret
      exact ⟨rfl, (Sat.eq hs1 (sep_comm _ _)).old_below⟩
    · have e1 : decide (a ≤ nums.length) = true := decide_eq_true (by omega)
      have p1' : ¬ (nums.length : Int) < a := by omega
      by_cases p2 : b < nums.length
      · have e2 : decide (nums.length ≤ b) = false := decide_eq_false (by omega)
        simp only [e1, e2, Bool.false_and, Bool.true_and]
        have p2' : (b : Int) < nums.length := by omega
        go_enter Tryz.func9, Tryz.ntmps9
        go_wp2_with fail
        refine (ha' _).mono ?_
        rintro e w' ⟨rfl, hb⟩
        have hs1 := hs0.below hb
        haveI := hs1.i
        go_wp2
        go_ret
        exact ⟨rfl, (Sat.eq hs1 (sep_comm _ _)).old_below⟩
      · have e2 : decide (nums.length ≤ b) = true := decide_eq_true (by omega)
        have p2' : ¬ (b : Int) < nums.length := by omega
        by_cases p3 : t = false ∧ 0 < tl
        · obtain ⟨rfl, p3⟩ := p3
          have e3 : decide (tl = 0) = false := decide_eq_false (by omega)
          simp only [e1, e2, e3, Bool.false_or, Bool.false_and, Bool.true_and]
          have p3' : (0 : Int) < tl := by omega
          go_enter Tryz.func9, Tryz.ntmps9
          go_wp2_with fail
          refine (ha' _).mono ?_
          rintro e w' ⟨rfl, hb⟩
          have hs1 := hs0.below hb
          haveI := hs1.i
          go_wp2
          go_ret
          exact ⟨rfl, (Sat.eq hs1 (sep_comm _ _)).old_below⟩
        · have e3 : (t || decide (tl = 0)) = true := by
            cases t with
            | true => rfl
            | false =>
              have : ¬ 0 < tl := fun h => p3 ⟨rfl, h⟩
              simp
              omega
          cases t with
          | true =>
            simp only [e1, e2, e3, Bool.true_and]
            clear e1 e2 e3 p3
            go_enter Tryz.func9, Tryz.ntmps9
            go_wp2_with fail
            refine (ha' _).mono ?_
            rintro e w' ⟨rfl, hb⟩
            have hs1 := hs0.below hb
            haveI := hs1.i
            go_wp2
            clear hs0 hb
            go_loopg [6] nums.length (fun g t6 wr => ∃ i : Nat, t6 = .int .i64 i ∧ i ≤ nums.length ∧ Aside (g = nums.length - i ∧ numsOk (nums.take i) = true) ∧ Sat (block w.heap.size TCm [.string (str wd), .slice a1 nums.length c1, .slice ta tl tc] * old w) wr)
            case atStart => exact ⟨0, rfl, by omega, ⟨rfl, rfl⟩, hs1⟩
            case round =>
              obtain ⟨i, rfl, hi, A, hsr⟩ := hrel
              clear hs1
              haveI := hsr.i
              by_cases hlt : i < nums.length
              · have hlt' : (i : Int) < nums.length := by omega
                obtain ⟨x, hx⟩ : ∃ x, nums[i]? = some x := ⟨nums[i], by simp [hlt]⟩
                obtain ⟨b0, o0, rfl, hc⟩ := HZ.out.at hx
                haveI : OldAt w b0 (o0 + i) (.int .i64 x) := ⟨hc⟩
                have HX : Aside (nums[i]? = some x) := hx
                clear hx hc
                by_cases x2 : 999999999999999999 < x
                · go_wp2
                  go_ret
                  exact ⟨by rw [numsOk_no HX.out (.inr x2)]; rfl, (Sat.eq hsr (sep_comm _ _)).old_below⟩
                · by_cases x1 : x < -999999999999999999
                  · go_wp2
                    go_ret
                    exact ⟨by rw [numsOk_no HX.out (.inl x1)]; rfl, (Sat.eq hsr (sep_comm _ _)).old_below⟩
                  · go_wp2
                    go_roundg (nums.length - (i + 1))
                    case measure => have := A.out.1; omega
                    case rel => exact ⟨i + 1, by go_num, by omega, ⟨rfl, by rw [numsOk_take HX.out, A.out.2]; simp; omega⟩, satI⟩
              · have hlt' : ¬ (i : Int) < nums.length := by omega
                have HN : Aside (numsOk nums = true) := (by have h9 := A.out.2; rw [List.take_of_length_le (by omega)] at h9; exact h9 : _ = _)
                go_wp2
                go_ret
                exact ⟨by rw [HN.out]; rfl, (Sat.eq hsr (sep_comm _ _)).old_below⟩
          | false =>
            have p3' : ¬ (0 : Int) < tl := by
              intro h
              exact p3 ⟨rfl, by omega⟩
            have p3'' : ¬ 0 < tl := by omega
            simp only [e1, e2, e3, Bool.true_and]
            clear e1 e2 e3 p3
            go_enter Tryz.func9, Tryz.ntmps9
            go_wp2_with fail
            refine (ha' _).mono ?_
            rintro e w' ⟨rfl, hb⟩
            have hs1 := hs0.below hb
            haveI := hs1.i
            go_wp2
            clear hs0 hb
            go_loopg [6] nums.length (fun g t6 wr => ∃ i : Nat, t6 = .int .i64 i ∧ i ≤ nums.length ∧ Aside (g = nums.length - i ∧ numsOk (nums.take i) = true) ∧ Sat (block w.heap.size TCm [.string (str wd), .slice a1 nums.length c1, .slice ta tl tc] * old w) wr)
            case atStart => exact ⟨0, rfl, by omega, ⟨rfl, rfl⟩, hs1⟩
            case round =>
              obtain ⟨i, rfl, hi, A, hsr⟩ := hrel
              clear hs1
              haveI := hsr.i
              by_cases hlt : i < nums.length
              · have hlt' : (i : Int) < nums.length := by omega
                obtain ⟨x, hx⟩ : ∃ x, nums[i]? = some x := ⟨nums[i], by simp [hlt]⟩
                obtain ⟨b0, o0, rfl, hc⟩ := HZ.out.at hx
                haveI : OldAt w b0 (o0 + i) (.int .i64 x) := ⟨hc⟩
                have HX : Aside (nums[i]? = some x) := hx
                clear hx hc
                by_cases x2 : 999999999999999999 < x
                · go_wp2
                  go_ret
                  exact ⟨by rw [numsOk_no HX.out (.inr x2)]; rfl, (Sat.eq hsr (sep_comm _ _)).old_below⟩
                · by_cases x1 : x < -999999999999999999
                  · go_wp2
                    go_ret
                    exact ⟨by rw [numsOk_no HX.out (.inl x1)]; rfl, (Sat.eq hsr (sep_comm _ _)).old_below⟩
                  · go_wp2
                    go_roundg (nums.length - (i + 1))
                    case measure => have := A.out.1; omega
                    case rel => exact ⟨i + 1, by go_num, by omega, ⟨rfl, by rw [numsOk_take HX.out, A.out.2]; simp; omega⟩, satI⟩
              · have hlt' : ¬ (i : Int) < nums.length := by omega
                have HN : Aside (numsOk nums = true) := (by have h9 := A.out.2; rw [List.take_of_length_le (by omega)] at h9; exact h9 : _ = _)
                go_wp2
                go_ret
                exact ⟨by rw [HN.out]; rfl, (Sat.eq hsr (sep_comm _ _)).old_below⟩
end Go.Proofs.YtebhnbecjmdicaaGreatDoor

namespace Go.Sc
open Go.Lib
/-- the number of digits, with a sign -/
def numT (minus : Bool) (t : Bs) : Option Int :=
  if t.length < 1 ∨ 18 < t.length ∨ (1 < t.length ∧ t.head? = some 48) ∨ (minus = true ∧ t = [48]) then none else match decFrom 0 t with
  | none => none
  | some m => some (if minus then -(m : Int) else m)
theorem numR_minus (r : Bs) : numR (45 :: r) = numT true r := rfl
theorem numR_plain (s : Bs) (h : s.head? ≠ some 45) : numR s = numT false s := by
  unfold numR numT
  have : (s.head? == some 45) = false := by simpa using h
  simp only [this]
  rfl
theorem numT_no {minus : Bool} {t : Bs} (h : t.length < 1 ∨ 18 < t.length ∨ (1 < t.length ∧ t.head? = some 48) ∨ (minus = true ∧ t = [48])) : numT minus t = none := by
  unfold numT
  rw [if_pos h]
def numE (minus : Bool) : Option Nat → Option Int
  | none => none
  | some m => some (if minus then -(m : Int) else m)
theorem numT_dec {minus : Bool} {t : Bs} {o : Option Nat} (h : ¬ (t.length < 1 ∨ 18 < t.length ∨ (1 < t.length ∧ t.head? = some 48) ∨ (minus = true ∧ t = [48]))) (hd : decFrom 0 t = o) : numT minus t = numE minus o := by
  unfold numT
  rw [if_neg h]
  subst hd
  cases decFrom 0 t <;> rfl
theorem dec_yes {acc : Nat} {c : UInt8} {r : Bs} (h0 : 48 ≤ c.toNat) (h1 : c.toNat ≤ 57) : decFrom acc (c :: r) = decFrom (acc * 10 + (c.toNat - 48)) r := by
  show (match digitVal c with
    | some d => decFrom (acc * 10 + d) r
    | none => none) = _
  unfold digitVal
  rw [if_pos ⟨h0, h1⟩]
theorem dec_no {acc : Nat} {c : UInt8} {r : Bs} (h : c.toNat < 48 ∨ 57 < c.toNat) : decFrom acc (c :: r) = none := by
  show (match digitVal c with
    | some d => decFrom (acc * 10 + d) r
    | none => none) = _
  unfold digitVal
  rw [if_neg (by omega)]
end Go.Sc
namespace Go.Proofs.YtebhnbecjmdicaaGreatDoor
set_option linter.unusedSimpArgs false
set_option linter.unusedVariables false
open Go.RowKit Go.Sl Go.Sc
attribute [local go_sem] Go.Sl.cell_sat Go.Sl.frozen_sat Go.Sc.str_toList Go.Sc.str_size Go.Sc.str_extract

def NumRR (r : Option Int) (e : Ending) : Prop := ∃ (n : Int) (ok : Bool), e = .returned (.tuple #[.int .i64 n, .bool ok]) ∧ r = (if ok then some n else none)
theorem numRR_no {r : Option Int} (h : r = none) (n : Int) : NumRR r (.returned (.tuple #[.int .i64 n, .bool false])) := ⟨n, false, rfl, h⟩
theorem numRR_yes {r : Option Int} {n : Int} (h : r = some n) : NumRR r (.returned (.tuple #[.int .i64 n, .bool true])) := ⟨n, true, rfl, h⟩

end Go.Proofs.YtebhnbecjmdicaaGreatDoor
