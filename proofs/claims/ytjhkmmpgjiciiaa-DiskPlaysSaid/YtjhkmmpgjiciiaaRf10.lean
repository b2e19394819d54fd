/-
  The reference disk: the order of names; a new file among them.
-/
import Derived.Test.YtjhkmmpgjiciiaaRf9
import Derived.Sort.Walk0
namespace Go.Proofs.Ytjhkmmpgjiciiaa
set_option linter.unusedSimpArgs false
set_option linter.unusedVariables false
open Go.RowKit Go.Sl Go.Dk

theorem bl_trans : ∀ a b c : List UInt8, Op.bytesLess a b = true → Op.bytesLess b c = true → Op.bytesLess a c = true
  | _, [], _, h, _ => by simp [Op.bytesLess] at h
  | _, _ :: _, [], _, h => by simp [Op.bytesLess] at h
  | [], _ :: _, _ :: _, _, _ => by simp [Op.bytesLess]
  | x :: a, y :: b, z :: c, h1, h2 => by
    simp only [Op.bytesLess, Bool.or_eq_true, Bool.and_eq_true, beq_iff_eq, decide_eq_true_eq] at h1 h2 ⊢
    rcases h1 with h1 | ⟨rfl, h1⟩
    · rcases h2 with h2 | ⟨rfl, h2⟩
      · exact .inl (UInt8.lt_trans h1 h2)
      · exact .inl h1
    · rcases h2 with h2 | ⟨rfl, h2⟩
      · exact .inl h2
      · exact .inr ⟨rfl, bl_trans a b c h1 h2⟩
theorem bl_total : ∀ a b : List UInt8, Op.bytesLess a b = false → a ≠ b → Op.bytesLess b a = true
  | [], [], _, h => absurd rfl h
  | _ :: _, [], _, _ => by simp [Op.bytesLess]
  | [], _ :: _, h, _ => by simp [Op.bytesLess] at h
  | x :: a, y :: b, h, hn => by
    simp only [Op.bytesLess, Bool.or_eq_false_iff, decide_eq_false_iff_not, Bool.and_eq_false_iff, beq_eq_false_iff_ne] at h
    simp only [Op.bytesLess, Bool.or_eq_true, Bool.and_eq_true, beq_iff_eq, decide_eq_true_eq]
    by_cases hxy : x = y
    · subst hxy
      have h2 : Op.bytesLess a b = false := by rcases h.2 with h3 | h3; exact absurd rfl h3; exact h3
      exact .inr ⟨rfl, bl_total a b h2 fun e => hn (by rw [e])⟩
    · left
      have h1 : ¬ x.toNat < y.toNat := fun e => h.1 (UInt8.lt_iff_toNat_lt.2 e)
      have h2 : x.toNat ≠ y.toNat := fun e => hxy (UInt8.toNat_inj.1 e)
      exact UInt8.lt_iff_toNat_lt.2 (by omega)
theorem less_trans {a b c : ByteArray} (h1 : less a b = true) (h2 : less b c = true) : less a c = true := bl_trans _ _ _ h1 h2
theorem less_total {a b : ByteArray} (h1 : less a b = false) (hn : a ≠ b) : less b a = true := bl_total _ _ h1 fun e => hn (by rw [Lib.toList_data, Lib.toList_data] at e; exact ByteArray.ext (by simpa using e))

theorem posR_pre (nm : ByteArray) (l : List Rf) : ∀ y ∈ l.take (posR nm l), less y.nm nm = true := by
  induction l with
  | nil => simp
  | cons x l ih =>
    unfold posR
    cases h : less x.nm nm with
    | false => simp
    | true =>
      rw [if_pos rfl, List.take_succ_cons]
      intro y hy
      rcases List.mem_cons.1 hy with rfl | hy
      · exact h
      · exact ih y hy
theorem posR_post {nm : ByteArray} {l : List Rf} (hr : l.Pairwise fun x y => less x.nm y.nm = true) (hn : ∀ y ∈ l, y.nm ≠ nm) : ∀ y ∈ l.drop (posR nm l), less nm y.nm = true := by
  induction l with
  | nil => simp
  | cons x l ih =>
    rw [List.pairwise_cons] at hr
    unfold posR
    cases h : less x.nm nm with
    | true =>
      rw [if_pos rfl, List.drop_succ_cons]
      exact ih hr.2 fun y hy => hn y (by simp [hy])
    | false =>
      have h1 := less_total h (hn x (by simp))
      intro y hy
      simp at hy
      rcases hy with rfl | hy
      · exact h1
      · exact less_trans h1 (hr.1 y hy)
theorem rising_new {nm : ByteArray} {l : List Rf} (hr : l.Pairwise fun x y => less x.nm y.nm = true) (hn : ∀ y ∈ l, y.nm ≠ nm) (x : Rf) (hx : x.nm = nm) : (l.take (posR nm l) ++ x :: l.drop (posR nm l)).Pairwise fun x y => less x.nm y.nm = true := by
  have h1 := posR_pre nm l
  have h2 := posR_post hr hn
  rw [← List.take_append_drop (posR nm l) l] at hr
  rw [List.pairwise_append] at hr ⊢
  refine ⟨hr.1, ?_, fun a ha b hb => ?_⟩
  · rw [List.pairwise_cons]
    exact ⟨fun b hb => by rw [hx]; exact h2 b hb, hr.2.1⟩
  · rcases List.mem_cons.1 hb with rfl | hb
    · rw [hx]; exact h1 a ha
    · exact hr.2.2 a ha b hb

end Go.Proofs.Ytjhkmmpgjiciiaa
