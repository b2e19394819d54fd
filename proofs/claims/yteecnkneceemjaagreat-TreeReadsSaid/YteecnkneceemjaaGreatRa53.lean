/-
  Lemmas for TreeReads. No condition (part 53)
-/
import Derived.Test.YteecnkneceemjaaGreatRa34
import Derived.Test.YteecnkneceemjaaGreatRa28
set_option linter.unusedSimpArgs false
set_option linter.unusedVariables false
namespace Go.Tr
set_option linter.unusedSimpArgs false
set_option linter.unusedVariables false
theorem manyE_may (i sd : Nat) (hi : i ≤ 1000) (hs : sd ≤ 1000) : mayEnt (manyE i sd) = true ∧ 1 ≤ (manyE i sd).len ∧ (manyE i sd).len ≤ 5 := by
 rw [mayE_iff]
 unfold manyE
 simp only
 split <;> (try split) <;> omega
theorem many_may (n sd : Nat) (hn : n ≤ 1000) (hs : sd ≤ 1000) : (∀ x ∈ manyL n sd, mayEnt x = true) ∧ 0 ≤ eBytes (manyL n sd) ∧ eBytes (manyL n sd) ≤ 5 * n := by
 induction n with
 | zero => exact ⟨fun x hx => by simp [manyL] at hx, by simp [manyL, eBytes], by simp [manyL, eBytes]⟩
 | succ n ih =>
   obtain ⟨h1, h2, h3⟩ := ih (by omega)
   obtain ⟨m1, m2, m3⟩ := manyE_may n sd (by omega) hs
   rw [manyL_succ]
   have e : eBytes (manyL n sd ++ [manyE n sd]) = eBytes (manyL n sd) + (manyE n sd).len := by rw [eBytes_append]; simp [eBytes]
   rw [e]
   refine ⟨fun x hx => ?_, by omega, by omega⟩
   rcases List.mem_append.1 hx with hx | hx
   · exact h1 x hx
   · simp at hx; subst hx; exact m1
theorem many_last (n sd : Nat) (a : Ent) (h : (manyL n sd).getLast? = some a) : ∃ m, n = m + 1 ∧ a = manyE m sd := by
 cases n with
 | zero => simp [manyL] at h
 | succ n =>
   rw [manyL_succ, List.getLast?_append] at h
   simp at h
   exact ⟨n, rfl, h.symm⟩
theorem many_joined (n sd : Nat) : Joined (manyL n sd) := by
 induction n with
 | zero => exact trivial
 | succ n ih =>
   rw [manyL_succ]
   refine joined_app ih trivial fun a b B' h1 h2 => ?_
   obtain ⟨m, rfl, rfl⟩ := many_last n sd a h1
   cases h2
   unfold meets manyE
   simp only
   have : ((m + sd) % 2 : Nat) ≠ (m + 1 + sd) % 2 := by omega
   simp
   intro h
   omega
theorem many_list (n sd : Nat) (hn : n ≤ 1000) (hs : sd ≤ 1000) : mayList (manyL n sd) = true := by
 obtain ⟨h1, h2, h3⟩ := many_may n sd hn hs
 show ((manyL n sd).all mayEnt && decide (eBytes (manyL n sd) ≤ 1048576)) = true
 simp only [Bool.and_eq_true, List.all_eq_true, decide_eq_true_eq]
 exact ⟨h1, by omega⟩
theorem levels_of {n j : Nat} (h : n < 4 ^ (j + 1)) : ∀ k : Nat, 2 * 4 ^ k ≤ n → k ≤ j := fun k hk => by
 rcases Nat.lt_or_ge j k with h1 | h1
 · have : 4 ^ (j + 1) ≤ 4 ^ k := Nat.pow_le_pow_right (by omega) h1
   omega
 · exact h1
theorem levels_low {n j : Nat} (h : j = 0 ∨ 4 ^ j ≤ n) (hn : n < 1024) : j ≤ 4 := by
 rcases Nat.lt_or_ge 4 j with h1 | h1
 · have : 4 ^ 5 ≤ 4 ^ j := Nat.pow_le_pow_right (by omega) h1
   rcases h with h | h
   · omega
   · omega
 · exact h1
end Go.Tr
