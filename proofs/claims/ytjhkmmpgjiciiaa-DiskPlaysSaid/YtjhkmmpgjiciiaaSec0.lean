/-
  Sectors: writes of whole sectors; what a sector has behind a crash. Plain.
-/
import Derived.Test.YtjhkmmpgjiciiaaDk13
namespace Go.Proofs.Ytjhkmmpgjiciiaa
set_option linter.unusedSimpArgs false
set_option linter.unusedVariables false
open Go.Dk

def sec (k : Nat) (l : List UInt8) : List UInt8 := (l.drop (64 * k)).take 64

theorem sect_al (nm : ByteArray) (x : UInt8) : ∀ n k, sect nm (64 * k) (List.replicate (64 * n) x) = (List.range n).map fun i => (⟨nm, 64 * (k + i), some (List.replicate 64 x)⟩ : Pc)
  | 0, k => by simp [sect_nil]
  | n + 1, k => by
    have hl : (List.replicate (64 * (n + 1)) x).length = 64 * n + 64 := by simp; omega
    rw [sect_cons _ _ _ (by rw [hl]; omega), hl]
    have hp : Dk.part (64 * k) (64 * n + 64) = 64 := by unfold Dk.part; omega
    rw [hp]
    have h1 : (List.replicate (64 * (n + 1)) x).take 64 = List.replicate 64 x := by rw [List.take_replicate]; rfl
    have h2 : (List.replicate (64 * (n + 1)) x).drop 64 = List.replicate (64 * n) x := by rw [List.drop_replicate]; rfl
    have h3 : 64 * k + 64 = 64 * (k + 1) := by omega
    rw [h1, h2, h3, sect_al nm x n (k + 1), List.range_succ_eq_map, List.map_cons, List.map_map]
    congr 1
    apply List.map_congr_left
    intro i _
    simp only [Function.comp]
    congr 2
    omega

theorem sec_laid {l b : List UInt8} {k j n : Nat} (hl : l.length = 768) (hb : b.length = 64 * n) (hk : k + n ≤ 12) (hj : j < 12) :
    sec j (laid l (64 * k) b) = if k ≤ j ∧ j < k + n then sec (j - k) b else sec j l := by
  have e : laid l (64 * k) b = l.take (64 * k) ++ b ++ l.drop (64 * k + 64 * n) := by
    unfold laid
    rw [hb, hl]
    have : 64 * k + 64 * n - 768 = 0 := by omega
    rw [this]; simp
  apply List.ext_getElem?
  intro i
  unfold sec
  by_cases hi : i < 64
  · rw [List.getElem?_take_of_lt hi, List.getElem?_drop, e]
    by_cases hc : k ≤ j ∧ j < k + n
    · rw [if_pos hc, List.getElem?_take_of_lt hi, List.getElem?_drop]
      have h1 : (l.take (64 * k)).length = 64 * k := by simp; omega
      rw [List.append_assoc, List.getElem?_append_right (by rw [h1]; omega), h1, List.getElem?_append_left (by rw [hb]; omega)]
      congr 1; omega
    · rw [if_neg hc, List.getElem?_take_of_lt hi, List.getElem?_drop]
      have h1 : (l.take (64 * k)).length = 64 * k := by simp; omega
      by_cases hlt : j < k
      · rw [List.append_assoc, List.getElem?_append_left (by rw [h1]; omega), List.getElem?_take_of_lt (by omega)]
      · rw [List.getElem?_append_right (by rw [List.length_append, h1, hb]; omega), List.length_append, h1, hb, List.getElem?_drop]
        congr 1; omega
  · rw [List.getElem?_eq_none (by simp; omega)]
    split
    · rw [List.getElem?_eq_none (by simp; omega)]
    · rw [List.getElem?_eq_none (by simp; omega)]

theorem sec_rep (j n : Nat) (x : UInt8) (h : j < n) : sec j (List.replicate (64 * n) x) = List.replicate 64 x := by
  unfold sec
  rw [List.drop_replicate, List.take_replicate]
  congr 1; omega

end Go.Proofs.Ytjhkmmpgjiciiaa
