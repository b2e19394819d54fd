/-
  Walks and plain laws that the lines of texts lean on. No condition (part 51)
-/
import Derived.Test.YtfhbmblbidcmmaaGreatRl42
import Derived.Test.YtfhbmblbidcmmaaGreatRl21
set_option linter.unusedSimpArgs false
set_option linter.unusedVariables false
namespace Go.Tr
set_option linter.unusedSimpArgs false
set_option linter.unusedVariables false
variable {O T : List UInt8}
theorem cutE_text {x : Ent} (h : RtE O T x) {a n : Int} (ha : 0 ≤ a) (hn : 0 ≤ n) (hl : a + n ≤ x.len) : RtE O T (cutE x a n) ∧ pieceE O T (cutE x a n) = ((pieceE O T x).drop a.toNat).take n.toNat := by
 have h1 := h.pos
 have h2 := h.len
 have h3 := h.inF
 have e : pieceE O T (cutE x a n) = ((pieceE O T x).drop a.toNat).take n.toNat := by
  unfold pieceE cutE
  simp only
  rw [List.drop_take, List.take_take, List.drop_drop, show min n.toNat (x.len.toNat - a.toNat) = n.toNat by omega, show x.pos.toNat + a.toNat = (x.pos + a).toNat by omega]
 refine ⟨⟨?_, hn, ?_, ?_⟩, e⟩
 · show 0 ≤ x.pos + a
   omega
 · show x.pos + a + n ≤ _
   show x.pos + a + n ≤ ((srcF O T x.src).length : Int)
   omega
 · rw [e]
   by_cases h0 : x.lines = 0
   · right
     have hz : endsC (pieceE O T x) = 0 := by
      rcases h.lines with h4 | h4
      · omega
      · omega
     have hs : endsC (((pieceE O T x).drop a.toNat).take n.toNat) ≤ endsC (pieceE O T x) :=
      List.Sublist.count_le _ ((List.take_sublist _ _).trans (List.drop_sublist _ _))
     have : (cutE x a n).lines = 0 := by unfold cutE; simp [h0]
     rw [this]
     omega
   · left
     unfold cutE
     simp [h0]
theorem first_text : ∀ (l : List Ent) (n : Int), 0 ≤ n → (∀ y ∈ l, RtE O T y) →
 (∀ y ∈ (first l n).1, RtE O T y) ∧ (∀ y ∈ (first l n).2, RtE O T y) ∧ textE O T (first l n).1 = (textE O T l).take n.toNat ∧ textE O T (first l n).2 = (textE O T l).drop n.toNat
 | [], n, hn, _ => ⟨fun y h => (by cases h), fun y h => (by cases h), by simp [first, textE], by simp [first, textE]⟩
 | x :: l, n, hn, hr => by
   have hx := hr x (by simp)
   have hl : ∀ y ∈ l, RtE O T y := fun y hy => hr y (by simp [hy])
   have hxl := pieceE_len hx
   have hx0 := hx.len
   have e : textE O T (x :: l) = pieceE O T x ++ textE O T l := rfl
   rw [first, e]
   by_cases h1 : x.len ≤ n
   · obtain ⟨i1, i2, i3, i4⟩ := first_text l (n - x.len) (by omega) hl
     rw [if_pos h1]
     refine ⟨fun y hy => ?_, i2, ?_, ?_⟩
     · rcases List.mem_cons.1 hy with rfl | hy
       · exact hx
       · exact i1 y hy
     · show pieceE O T x ++ textE O T (first l (n - x.len)).1 = _
       rw [i3, List.take_append, List.take_of_length_le (l := pieceE O T x) (by omega), hxl, show n.toNat - x.len.toNat = (n - x.len).toNat by omega]
     · show textE O T (first l (n - x.len)).2 = _
       rw [i4, List.drop_append, List.drop_of_length_le (l := pieceE O T x) (by omega), List.nil_append, hxl, show n.toNat - x.len.toNat = (n - x.len).toNat by omega]
   · have hneg : ∀ (l : List Ent) (k : Int), k ≤ 0 → (∀ y ∈ l, RtE O T y) → (∀ y ∈ (first l k).1, RtE O T y) ∧ (∀ y ∈ (first l k).2, RtE O T y) ∧ textE O T (first l k).1 = [] ∧ textE O T (first l k).2 = textE O T l := by
      intro l
      induction l with
      | nil => exact fun k _ _ => ⟨fun y h => (by cases h), fun y h => (by cases h), rfl, rfl⟩
      | cons z l ih =>
        intro k hk hr
        have hz := hr z (by simp)
        obtain ⟨i1, i2, i3, i4⟩ := ih (k - z.len) (by have := hz.len; omega) fun y hy => hr y (by simp [hy])
        have ez : textE O T (z :: l) = pieceE O T z ++ textE O T l := rfl
        rw [first, ez]
        by_cases hc : z.len ≤ k
        · have hz0 : z.len = 0 := by have := hz.len; omega
          have hp : pieceE O T z = [] := by
           have := pieceE_len hz
           rw [hz0] at this
           exact List.length_eq_zero_iff.1 this
          rw [if_pos hc]
          refine ⟨fun y hy => ?_, i2, ?_, ?_⟩
          · rcases List.mem_cons.1 hy with rfl | hy
            · exact hz
            · exact i1 y hy
          · show pieceE O T z ++ textE O T (first l (k - z.len)).1 = _
            rw [hp, i3]; rfl
          · show textE O T (first l (k - z.len)).2 = _
            rw [hp, i4]; rfl
        · rw [if_neg hc, if_pos hk]
          refine ⟨i1, fun y hy => ?_, i3, ?_⟩
          · rcases List.mem_cons.1 hy with rfl | hy
            · exact hz
            · exact i2 y hy
          · show pieceE O T z ++ textE O T (first l (k - z.len)).2 = _
            rw [i4]
     rw [if_neg h1]
     obtain ⟨i1, i2, i3, i4⟩ := hneg l (n - x.len) (by omega) hl
     by_cases h2 : n ≤ 0
     · obtain rfl : n = 0 := by omega
       rw [if_pos h2]
       refine ⟨i1, fun y hy => ?_, ?_, ?_⟩
       · rcases List.mem_cons.1 hy with rfl | hy
         · exact hx
         · exact i2 y hy
       · rw [i3]; rfl
       · show pieceE O T x ++ textE O T (first l (0 - x.len)).2 = _
         rw [i4]; rfl
     · rw [if_neg h2]
       obtain ⟨c1, c2⟩ := cutE_text hx (a := 0) (n := n) (Int.le_refl _) hn (by omega)
       obtain ⟨d1, d2⟩ := cutE_text hx (a := n) (n := x.len - n) hn (by omega) (by omega)
       refine ⟨fun y hy => ?_, fun y hy => ?_, ?_, ?_⟩
       · rcases List.mem_cons.1 hy with rfl | hy
         · exact c1
         · exact i1 y hy
       · rcases List.mem_cons.1 hy with rfl | hy
         · exact d1
         · exact i2 y hy
       · show pieceE O T (cutE x 0 n) ++ textE O T (first l (n - x.len)).1 = _
         rw [c2, i3, List.append_nil, List.take_append_of_le_length (by omega)]
         rfl
       · show pieceE O T (cutE x n (x.len - n)) ++ textE O T (first l (n - x.len)).2 = _
         rw [d2, i4, List.drop_append_of_le_length (by omega), List.take_of_length_le (by rw [List.length_drop]; omega)]
theorem splice_text {l put : List Ent} {at_ n : Int} (h1 : 0 ≤ at_) (h2 : 0 ≤ n) (hl : ∀ y ∈ l, RtE O T y) (hp : ∀ y ∈ put, RtE O T y) :
 (∀ y ∈ spliceL l at_ n put, RtE O T y) ∧ textE O T (spliceL l at_ n put) = (textE O T l).take at_.toNat ++ textE O T put ++ (textE O T l).drop (at_.toNat + n.toNat) := by
 obtain ⟨a1, a2, a3, a4⟩ := first_text l at_ h1 hl
 obtain ⟨b1, b2, b3, b4⟩ := first_text (first l at_).2 n h2 a2
 unfold spliceL
 obtain ⟨c1, c2⟩ := join_text (O := O) (T := T) (l := (first l at_).1 ++ put ++ (first (first l at_).2 n).2) (fun y hy => by
  rcases List.mem_append.1 hy with hy | hy
  · rcases List.mem_append.1 hy with hy | hy
    · exact a1 y hy
    · exact hp y hy
  · exact b2 y hy)
 refine ⟨c1, ?_⟩
 rw [c2, textE_app, textE_app, a3, b4, a4, List.drop_drop]
end Go.Tr
