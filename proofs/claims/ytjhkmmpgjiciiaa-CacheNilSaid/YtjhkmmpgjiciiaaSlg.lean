/-
  Deleting from a map, while it is ranged over, what was visited.
-/
import Derived.Test.YtjhkmmpgjiciiaaSlf
namespace Go.Sl
set_option linter.unusedSimpArgs false
set_option linter.unusedVariables false
open Go.RowKit

section
variable {κ : Type}

theorem filter_eraseIdx {α : Type} (p : α → Bool) : ∀ (l : List α) (j : Nat) (x : α), l[j]? = some x → p x = false → (l.eraseIdx j).filter p = l.filter p
  | [], j, x, h, _ => by simp at h
  | y :: l, 0, x, h, hp => by simp at h; subst h; simp [hp]
  | y :: l, j + 1, x, h, hp => by
    simp at h
    simp only [List.eraseIdx_cons_succ, List.filter_cons, filter_eraseIdx p l j x h hp]

theorem run_delete_iter [DecidableEq κ] {P : Program} {kt : TypeId} {kf : κ → Value} (K : KeyOk P kt kf) {t e : TypeId} (ht : P.underlying t = some (.map kt e)) {w : World} {M : Nat} {o oi : Obj} {ms rem : List (κ × Value)}
    (hb : w.heap[M]? = some o) (hI : Iter kf M o oi ms rem) (k : κ) (hk : ∀ p ∈ rem, p.1 ≠ k) :
    ∃ o', Iter kf M o' oi (mdel k ms) rem ∧ ∀ kt' ty, (Builtin.delete_ #[t, kt'] ty #[.map (some M), kf k]).run P w = .ok (.tuple #[]) { w with heap := w.heap.setIfInBounds M o' } := by
  obtain ⟨es, clock, seen, rfl, rfl, h1, h2, h3, h6⟩ := hI
  obtain ⟨kd, hkd, hsame⟩ := K.und
  obtain ⟨r, r1, r2, r3, r4⟩ := findNow_of hsame k ms es.toList 0 h1
  have hg : (getObj M).run P w = .ok (.map es clock) w := by simp [getObj, Sem.run, hb]
  have hset : ∀ o' : Obj, (setObj M o').run P w = .ok () { w with heap := w.heap.setIfInBounds M o' } := by intro o'; simp [setObj, Sem.run, hb]
  have hc := K.chk es.isEmpty 9999 k w
  cases r with
  | none =>
    refine ⟨.map es clock, ⟨_, _, _, rfl, rfl, by rw [r4 rfl]; exact h1, h2, h3, h6⟩, ?_⟩
    intro kt' ty
    unfold Builtin.delete_
    simp only [Sem.run_bind, underlying, run_program, Result.andThen_ok, ht, Sem.run_pure, hg, hc, Instr.findKey, hkd, r1, hset, List.getElem?_toArray, List.getElem?_cons_zero, List.getElem?_cons_succ]
  | some q =>
    obtain ⟨j, u⟩ := q
    obtain ⟨_, e0, a2, a3, a4, a5, a6⟩ := r3 j u rfl
    simp only [Nat.sub_zero] at a2 a5 a6
    have hj : j < es.size := by
      rcases Nat.lt_or_ge j es.size with h | h
      · exact h
      · rw [List.getElem?_eq_none (by simpa using h)] at a2; cases a2
    have hmod : (es.eraseIdxIfInBounds j).toList = es.toList.eraseIdx j := by simp [Array.eraseIdxIfInBounds, hj]
    have hseen : (!seen.contains e0.born) = false := by
      cases hs : (!seen.contains e0.born) with
      | false => rfl
      | true =>
        have hm : (e0.key, e0.val) ∈ ((es.toList.filter fun e => !seen.contains e.born).map fun e => (e.key, e.val)) :=
          List.mem_map.2 ⟨e0, List.mem_filter.2 ⟨List.mem_of_getElem? a2, hs⟩, rfl⟩
        rw [h6] at hm
        obtain ⟨p, hp, hpe⟩ := List.mem_map.1 hm
        have hpk : kf p.1 = kf k := by have := congrArg Prod.fst hpe; simpa [a3] using this
        have s1 := hsame p.1 k
        rw [hpk, hsame k k] at s1
        have : p.1 = k := by simpa using s1.symm
        exact absurd this (hk p hp)
    refine ⟨.map (es.eraseIdxIfInBounds j) clock, ⟨_, _, _, rfl, rfl, ?_, ?_, ?_, ?_⟩, ?_⟩
    · rw [hmod]; exact a6
    · rw [hmod]
      have : (es.toList.eraseIdx j).map (·.born) = (es.toList.map (·.born)).eraseIdx j := map_eraseIdx _ _ _
      rw [this]; exact nodup_eraseIdx h2 j
    · intro x hx
      rw [hmod] at hx
      exact h3 x (List.mem_of_mem_eraseIdx hx)
    · rw [hmod, filter_eraseIdx _ _ j e0 a2 hseen]; exact h6
    · intro kt' ty
      unfold Builtin.delete_
      simp only [Sem.run_bind, underlying, run_program, Result.andThen_ok, ht, Sem.run_pure, hg, hc, Instr.findKey, hkd, r1, hset, List.getElem?_toArray, List.getElem?_cons_zero, List.getElem?_cons_succ]

/-- the keys that are still to come, behind one that was visited -/
theorem rem_keys {ms rem : List (κ × Value)} {i : Nat} {k : κ} {v : Value} (hn : (rem.map (·.1)).Nodup) (hi : rem[i]? = some (k, v)) : (∀ p ∈ rem.eraseIdx i, p.1 ≠ k) ∧ ((rem.eraseIdx i).map (·.1)).Nodup ∧ (∀ x, x ≠ k → (x ∈ rem.map (·.1) ↔ x ∈ (rem.eraseIdx i).map (·.1))) ∧ k ∈ rem.map (·.1) := by
  have hp := perm_eraseIdx rem i (k, v) hi
  have hp1 := hp.map (·.1)
  simp only [List.map_cons] at hp1
  have hn1 := hp1.nodup_iff.1 hn
  rw [List.nodup_cons] at hn1
  refine ⟨fun p hpm e => hn1.1 (List.mem_map.2 ⟨p, hpm, e⟩), hn1.2, fun x hx => ?_, hp1.mem_iff.2 (by simp)⟩
  rw [hp1.mem_iff, List.mem_cons]
  simp [hx]

end

end Go.Sl
