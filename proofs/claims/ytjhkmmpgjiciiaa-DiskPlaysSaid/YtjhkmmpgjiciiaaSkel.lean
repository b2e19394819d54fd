/-
  What the row's frame tells of a slice of integers, as the walks take it.
-/
import Derived.Test.YtjhkmmpgjiciiaaRef1
namespace Go.Proofs.Ytjhkmmpgjiciiaa
set_option linter.unusedSimpArgs false
set_option linter.unusedVariables false
open Go.RowKit Go.Sl

/-- what the frame says of a slice of integers that came in -/
theorem ints_in {w : World} {a : Option Addr} {len cap : Nat} {zs : List Int}
    (h : (a = none ∧ len = 0 ∧ cap = 0 ∧ zs = []) ∨
      ∃ x, a = some x ∧ len ≤ cap ∧ cap ≤ maxLen ∧ zs.length = cap ∧ (∀ i, i < zs.length → w.cell? (x.add i) = some (.int .i64 (zs.getD i 0))) ∧ ∀ n ∈ zs, (Lit.int .i64 n).wf = true) :
    Ints w (.slice a len cap) (zs.take len) ∧ (zs.take len).length ≤ 9223372036854775807 ∧ (zs.take len).length = len ∧ ∀ z ∈ zs.take len, (Lit.int .i64 z).wf = true := by
  have hz : (zs.take len).length = len := by
    rcases h with ⟨_, h2, _, h4⟩ | ⟨x, _, h2, _, h4, _⟩
    · subst h2; simp
    · simp; omega
  refine ⟨?_, ?_, hz, ?_⟩
  · refine ⟨a, cap, by rw [hz], fun i z hi => ?_⟩
    rcases h with ⟨_, h2, _, h4⟩ | ⟨x, hx, h2, _, h4, h5, _⟩
    · subst h2; simp at hi
    · have hi1 : i < len := by
        rcases Nat.lt_or_ge i len with h | h
        · exact h
        · rw [List.getElem?_eq_none (by omega)] at hi; cases hi
      have hi2 : zs[i]? = some z := by rw [List.getElem?_take_of_lt hi1] at hi; exact hi
      have h6 := h5 i (by omega)
      have h7 : zs.getD i 0 = z := by simp [hi2]
      rw [h7] at h6
      have h8 := h5 0 (by omega)
      have hsp : x.spot = none := by
        rw [Addr.add_zero'] at h8
        unfold World.cell? at h8
        cases hs : x.spot with
        | none => rfl
        | some _ => simp [hs] at h8; split at h8 <;> simp at h8
      obtain ⟨b, o, sp⟩ := x
      simp only at hsp
      subst hsp
      rw [Addr.add_lit] at h6
      exact ⟨b, o, hx, h6⟩
  · rw [hz]
    rcases h with ⟨_, h2, _, h4⟩ | ⟨x, _, h2, h3, h4, _⟩
    · subst h2; omega
    · have : maxLen = 9223372036854775807 := rfl
      omega
  · intro z hz'
    rcases h with ⟨_, h2, _, h4⟩ | ⟨x, _, _, _, _, _, h6⟩
    · subst h4; simp at hz'
    · exact h6 z (List.mem_of_mem_take hz')

end Go.Proofs.Ytjhkmmpgjiciiaa
