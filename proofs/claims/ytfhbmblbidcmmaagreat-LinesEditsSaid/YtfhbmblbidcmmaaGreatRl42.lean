/-
  Walks and plain laws that the lines of texts lean on. No condition (part 42)
-/
import Derived.Test.YtfhbmblbidcmmaaGreatRl21
set_option linter.unusedSimpArgs false
set_option linter.unusedVariables false
namespace Go.Tr
set_option linter.unusedSimpArgs false
set_option linter.unusedVariables false
def endsC (b : List UInt8) : Nat := b.count 10
def srcF (O T : List UInt8) (s : Int) : List UInt8 := if s = 0 then O else T
def pieceE (O T : List UInt8) (x : Ent) : List UInt8 := ((srcF O T x.src).drop x.pos.toNat).take x.len.toNat
def textE (O T : List UInt8) (l : List Ent) : List UInt8 := l.flatMap (pieceE O T)
structure RtE (O T : List UInt8) (x : Ent) : Prop where
 pos : 0 ≤ x.pos
 len : 0 ≤ x.len
 inF : x.pos + x.len ≤ (srcF O T x.src).length
 lines : x.lines = -1 ∨ x.lines = endsC (pieceE O T x)
theorem endsC_app (a b : List UInt8) : endsC (a ++ b) = endsC a + endsC b := List.count_append ..
theorem endsC_le (a : List UInt8) : endsC a ≤ a.length := List.count_le_length
variable {O T : List UInt8}
theorem pieceE_len {x : Ent} (h : RtE O T x) : (pieceE O T x).length = x.len.toNat := by
 have h1 := h.pos
 have h2 := h.len
 have h3 := h.inF
 unfold pieceE
 rw [List.length_take, List.length_drop]
 omega
theorem piece_cut {O T : List UInt8} (s p : Int) (n k : Nat) (h : k ≤ n) : ((srcF O T s).drop p.toNat).take n = (((srcF O T s).drop p.toNat).take k) ++ ((((srcF O T s).drop (p.toNat + k))).take (n - k)) := by
 rw [← List.drop_drop]
 conv => lhs; rw [show n = k + (n - k) by omega]
 rw [List.take_add]
theorem piece_glue {a x : Ent} (ha : RtE O T a) (hx : RtE O T x) (hm : meets a x = true) : pieceE O T (glue a x) = pieceE O T a ++ pieceE O T x := by
 unfold meets at hm
 simp only [decide_eq_true_eq] at hm
 have h1 := ha.pos
 have h2 := ha.len
 have h3 := hx.len
 have h4 := hx.pos
 unfold pieceE glue
 simp only
 rw [piece_cut a.src a.pos (a.len + x.len).toNat a.len.toNat (by omega), ← hm.1, show a.pos.toNat + a.len.toNat = x.pos.toNat by omega, show (a.len + x.len).toNat - a.len.toNat = x.len.toNat by omega]
theorem rtE_glue {a x : Ent} (ha : RtE O T a) (hx : RtE O T x) (hm : meets a x = true) : RtE O T (glue a x) := by
 have e := piece_glue ha hx hm
 unfold meets at hm
 simp only [decide_eq_true_eq] at hm
 refine ⟨ha.pos, ?_, ?_, ?_⟩
 · have := ha.len
   have := hx.len
   show 0 ≤ a.len + x.len
   omega
 · have := hx.inF
   show a.pos + (a.len + x.len) ≤ (srcF O T a.src).length
   rw [hm.1]
   omega
 · rw [e, endsC_app]
   unfold glue
   simp only
   by_cases hc : a.lines < 0 ∨ x.lines < 0
   · rw [if_pos hc]; exact .inl rfl
   · rw [if_neg hc]
     right
     rcases ha.lines with h1 | h1
     · omega
     rcases hx.lines with h2 | h2
     · omega
     rw [h1, h2]
     omega
theorem textE_app (a b : List Ent) : textE O T (a ++ b) = textE O T a ++ textE O T b := List.flatMap_append ..
theorem joinTo_text {o : List Ent} {x : Ent} (ho : ∀ y ∈ o, RtE O T y) (hx : RtE O T x) : (∀ y ∈ joinTo o x, RtE O T y) ∧ textE O T (joinTo o x) = textE O T o ++ pieceE O T x := by
 unfold joinTo
 cases h : o.getLast? with
 | none =>
   have : o = [] := List.getLast?_eq_none_iff.1 h
   subst this
   refine ⟨fun y hy => ?_, by simp [textE]⟩
   simp at hy
   rw [hy]; exact hx
 | some a =>
   obtain ⟨ys, rfl⟩ := List.getLast?_eq_some_iff.1 h
   simp only
   have ha := ho a (by simp)
   by_cases hm : meets a x = true
   · rw [if_pos hm, List.dropLast_concat]
     refine ⟨fun y hy => ?_, ?_⟩
     · rcases List.mem_append.1 hy with hy | hy
       · exact ho y (List.mem_append_left _ hy)
       · simp at hy
         rw [hy]
         exact rtE_glue ha hx hm
     · rw [textE_app, textE_app]
       have e1 : textE O T [glue a x] = pieceE O T (glue a x) := by simp [textE]
       have e2 : textE O T [a] = pieceE O T a := by simp [textE]
       rw [e1, e2, piece_glue ha hx hm, List.append_assoc]
   · rw [if_neg hm]
     refine ⟨fun y hy => ?_, ?_⟩
     · rcases List.mem_append.1 hy with hy | hy
       · exact ho y hy
       · simp at hy
         rw [hy]
         exact hx
     · rw [textE_app]
       simp [textE]
theorem fold_text : ∀ (l o : List Ent), (∀ y ∈ o, RtE O T y) → (∀ y ∈ l, RtE O T y) → (∀ y ∈ l.foldl joinTo o, RtE O T y) ∧ textE O T (l.foldl joinTo o) = textE O T o ++ textE O T l
 | [], o, ho, _ => ⟨ho, by simp [textE]⟩
 | x :: l, o, ho, hl => by
   obtain ⟨h1, h2⟩ := joinTo_text ho (hl x (by simp))
   obtain ⟨h3, h4⟩ := fold_text l (joinTo o x) h1 fun y hy => hl y (by simp [hy])
   rw [List.foldl_cons]
   refine ⟨h3, ?_⟩
   rw [h4, h2, List.append_assoc]
   rfl
theorem join_text {l : List Ent} (h : ∀ y ∈ l, RtE O T y) : (∀ y ∈ join l, RtE O T y) ∧ textE O T (join l) = textE O T l := by
 obtain ⟨h1, h2⟩ := fold_text l [] (fun y hy => by cases hy) h
 exact ⟨h1, by rw [show join l = l.foldl joinTo [] from rfl, h2]; rfl⟩
theorem textE_len {l : List Ent} (h : ∀ y ∈ l, RtE O T y) : ((textE O T l).length : Int) = eBytes l := by
 induction l with
 | nil => rfl
 | cons x l ih =>
   have h1 := pieceE_len (h x (by simp))
   have h2 := ih fun y hy => h y (by simp [hy])
   have h3 := (h x (by simp)).len
   have e : textE O T (x :: l) = pieceE O T x ++ textE O T l := rfl
   have e2 : eBytes (x :: l) = x.len + eBytes l := by simp [eBytes]
   rw [e, e2, List.length_append]
   omega
theorem addL_fold : ∀ (l : List Int) (c : List Nat) (a : Int) (n : Nat), (a = -1 ∨ a = n) → F2 (fun x (m : Nat) => x = -1 ∨ x = (m : Int)) l c → l.foldl addL a = -1 ∨ l.foldl addL a = ((n + c.sum : Nat) : Int)
 | [], [], a, n, ha, _ => by simpa using ha
 | x :: l, m :: c, a, n, ha, h => by
   rw [List.foldl_cons]
   have := addL_fold l c (addL a x) (n + m) (by
    unfold addL
    rcases ha with h1 | h1
    · rw [if_pos (by omega)]; exact .inl rfl
    · rcases h.1 with h2 | h2
      · rw [if_pos (by omega)]; exact .inl rfl
      · rw [if_neg (by omega)]; right; omega) h.2
   rcases this with h1 | h1
   · exact .inl h1
   · right; rw [h1, List.sum_cons]; omega
 | [], _ :: _, _, _, _, h => h.elim
 | _ :: _, [], _, _, _, h => h.elim
theorem lines_ents {l : List Ent} (h : ∀ y ∈ l, RtE O T y) : F2 (fun x (m : Nat) => x = -1 ∨ x = (m : Int)) (l.map (·.lines)) (l.map fun x => endsC (pieceE O T x)) := by
 induction l with
 | nil => exact trivial
 | cons x l ih => exact ⟨(h x (by simp)).lines, ih fun y hy => h y (by simp [hy])⟩
theorem ends_sum (l : List Ent) : (l.map fun x => endsC (pieceE O T x)).sum = endsC (textE O T l) := by
 induction l with
 | nil => rfl
 | cons x l ih =>
   have e : textE O T (x :: l) = pieceE O T x ++ textE O T l := rfl
   rw [List.map_cons, List.sum_cons, ih, e, endsC_app]
theorem ends_flat (ls : List (List Ent)) : (ls.map fun l => endsC (textE O T l)).sum = endsC (textE O T ls.flatten) := by
 induction ls with
 | nil => rfl
 | cons x l ih => rw [List.map_cons, List.sum_cons, ih, List.flatten_cons, textE_app, endsC_app]
theorem sub_lines {v : Int → Option Nd} : ∀ {h lo hi : Nat} {k : Kd} {l : List Ent}, Sub v h lo hi k l → (∀ y ∈ l, RtE O T y) → k.lines = -1 ∨ k.lines = endsC (textE O T l)
 | 0, lo, hi, k, l, hs, hr => by
   obtain ⟨h1, h2, h3, h4, h5, _⟩ := hs
   rw [h5]
   unfold kdOf ndSum
   rw [if_pos h2]
   simp only [List.map_nil, List.foldl_nil]
   have := addL_fold _ _ 0 0 (.inr rfl) (lines_ents hr)
   rw [ends_sum] at this
   simpa using this
 | h + 1, lo, hi, k, l, hs, hr => by
   obtain ⟨ks, ls, h1, h2, h3, h4, h5, h6, h7, h8, rfl⟩ := hs
   rw [h5]
   unfold kdOf ndSum
   rw [if_pos h2]
   simp only [List.map_nil, List.foldl_nil]
   have key : ∀ {ks : List Kd} {ls : List (List Ent)}, F2 (Sub v h 4 12) ks ls → (∀ y ∈ ls.flatten, RtE O T y) → F2 (fun x (m : Nat) => x = -1 ∨ x = (m : Int)) (ks.map (·.lines)) (ls.map fun l => endsC (textE O T l)) := by
    intro ks
    induction ks with
    | nil =>
      intro ls hf _
      cases ls with
      | nil => exact trivial
      | cons _ _ => exact hf.elim
    | cons k ks ih =>
      intro ls hf hr
      cases ls with
      | nil => exact hf.elim
      | cons l ls => exact ⟨sub_lines hf.1 fun y hy => hr y (by simp [hy]), ih hf.2 fun y hy => hr y (by rw [List.flatten_cons]; exact List.mem_append_right _ hy)⟩
   have := addL_fold _ _ 0 0 (.inr rfl) (key h8 hr)
   rw [ends_flat] at this
   simpa using this
end Go.Tr
namespace Go.Tr
set_option linter.unusedSimpArgs false
set_option linter.unusedVariables false
def startOf : List UInt8 → Nat → Option Nat
 | _, 0 => some 0
 | [], _ + 1 => none
 | x :: b, k + 1 => (startOf b (if x = 10 then k else k + 1)).map (· + 1)
theorem startOf_cons (x : UInt8) (b : List UInt8) (k : Nat) : startOf (x :: b) (k + 1) = (startOf b (if x = 10 then k else k + 1)).map (· + 1) := rfl
theorem startOf_zero (b : List UInt8) : startOf b 0 = some 0 := by cases b <;> rfl
theorem endsC_cons (x : UInt8) (b : List UInt8) : endsC (x :: b) = (if x = 10 then 1 else 0) + endsC b := by
 unfold endsC
 rw [List.count_cons]
 by_cases h : x = 10 <;> simp [h, Nat.add_comm]
theorem startOf_none : ∀ (b : List UInt8) (k : Nat), startOf b k = none ↔ endsC b < k
 | [], 0 => by simp [startOf, endsC]
 | [], k + 1 => by simp [startOf, endsC]
 | x :: b, 0 => by simp [startOf]
 | x :: b, k + 1 => by
   rw [endsC_cons]
   unfold startOf
   rw [Option.map_eq_none_iff, startOf_none b]
   by_cases h : x = 10
   · rw [if_pos h, if_pos h]; omega
   · rw [if_neg h, if_neg h]; omega
theorem startOf_app : ∀ (a b : List UInt8) (k : Nat), startOf (a ++ b) k = if k ≤ endsC a then startOf a k else (startOf b (k - endsC a)).map (a.length + ·)
 | [], b, k => by
  have e : endsC [] = 0 := rfl
  rw [e, List.nil_append]
  by_cases h : k = 0
  · subst h
    rw [if_pos (Nat.le_refl _), startOf_zero, startOf_zero]
  · rw [if_neg (by omega)]
    cases hs : startOf b k <;> simp [hs]
 | x :: a, b, 0 => by rw [if_pos (Nat.zero_le _), startOf_zero, startOf_zero]
 | x :: a, b, k + 1 => by
   rw [List.cons_append, endsC_cons, startOf_cons, startOf_cons, startOf_app a b]
   by_cases hx : x = 10
   · simp only [if_pos hx]
     by_cases h : k ≤ endsC a
     · rw [if_pos h, if_pos (by omega)]
     · rw [if_neg h, if_neg (by omega), show k + 1 - (1 + endsC a) = k - endsC a by omega, Option.map_map]
       congr 1
       funext p
       simp [Function.comp]
       omega
   · simp only [if_neg hx, Nat.zero_add]
     by_cases h : k + 1 ≤ endsC a
     · rw [if_pos h, if_pos h]
     · rw [if_neg h, if_neg h, Option.map_map]
       congr 1
       funext p
       simp [Function.comp]
       omega
theorem startOf_end : ∀ (b : List UInt8) (k p : Nat), endsC (b.take p) ≤ k → k < endsC (b.take (p + 1)) → startOf b (k + 1) = some (p + 1)
 | [], k, p, _, h => by simp [endsC] at h
 | x :: b, k, 0, h1, h2 => by
   have e : (x :: b).take 1 = [x] := by simp
   rw [show (0 + 1 : Nat) = 1 from rfl, e, endsC_cons] at h2
   have hx : x = 10 := by
    rcases Classical.em (x = 10) with hx | hx
    · exact hx
    · rw [if_neg hx] at h2; simp [endsC] at h2
   have hk : k = 0 := by rw [if_pos hx] at h2; simp [endsC] at h2; omega
   subst hk
   unfold startOf
   rw [if_pos hx, startOf_zero]
   rfl
 | x :: b, k, p + 1, h1, h2 => by
   rw [List.take_succ_cons, endsC_cons] at h1 h2
   unfold startOf
   by_cases hx : x = 10
   · rw [if_pos hx] at h1 h2 ⊢
     obtain ⟨k, rfl⟩ : ∃ j, k = j + 1 := ⟨k - 1, by omega⟩
     rw [startOf_end b k p (by omega) (by omega)]
     rfl
   · rw [if_neg hx] at h1 h2 ⊢
     rw [startOf_end b k p (by omega) (by omega)]
     rfl
end Go.Tr
