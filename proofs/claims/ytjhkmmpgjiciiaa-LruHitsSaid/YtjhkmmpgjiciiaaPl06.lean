/-
  Plain lists: the unlike ones among the last, as LruHits gathers them.
-/
import Derived.Test.YtjhkmmpgjiciiaaLru2
namespace Go.Pl06
open Go.Lru

def D : List Int → List Int
  | [] => []
  | x :: l => x :: (D l).filter fun y => y != x

theorem mem_D {y : Int} : ∀ {l : List Int}, y ∈ D l ↔ y ∈ l
  | [] => by simp [D]
  | x :: l => by
    simp only [D, List.mem_cons, List.mem_filter, mem_D (l := l)]
    by_cases h : y = x <;> simp [h]

theorem nodup_D : ∀ l : List Int, (D l).Nodup
  | [] => List.nodup_nil
  | x :: l => by
    simp only [D, List.nodup_cons]
    exact ⟨by simp, (nodup_D l).sublist List.filter_sublist⟩

theorem D_snoc (x : Int) : ∀ l : List Int, D (l ++ [x]) = if x ∈ l then D l else D l ++ [x]
  | [] => by simp [D]
  | y :: l => by
    simp only [List.cons_append, D, D_snoc x l, List.mem_cons]
    by_cases hx : x ∈ l
    · simp [hx]
    · by_cases hxy : x = y
      · subst hxy; simp [hx]
      · simp [hx, hxy]

theorem D_prefix : ∀ (m l : List Int), ∃ t, D (l ++ m) = D l ++ t
  | [], l => ⟨[], by simp⟩
  | x :: m, l => by
    obtain ⟨t, ht⟩ := D_prefix m (l ++ [x])
    have e : l ++ x :: m = l ++ [x] ++ m := by simp
    rw [e, ht, D_snoc]
    split
    · exact ⟨t, rfl⟩
    · exact ⟨[x] ++ t, by simp⟩

theorem take_filter {p : Int → Bool} : ∀ (l : List Int) (m : Nat), (∀ y ∈ l.take m, p y = true) → (l.filter p).take m = l.take m
  | [], m, _ => by simp
  | x :: l, 0, _ => by simp
  | x :: l, m + 1, h => by
    have hx := h x (by simp)
    simp only [List.filter_cons, hx, if_true, List.take_succ_cons]
    rw [take_filter l m fun y hy => h y (by simp [hy])]

theorem filter_len {x : Int} : ∀ {l : List Int}, l.Nodup → x ∈ l → (l.filter fun y => y != x).length + 1 = l.length
  | [], _, h => by simp at h
  | y :: l, hn, h => by
    simp only [List.nodup_cons] at hn
    simp only [List.mem_cons] at h
    by_cases hxy : x = y
    · subst hxy
      have : (l.filter fun z => z != x) = l := List.filter_eq_self.2 fun z hz => by simp; rintro rfl; exact hn.1 hz
      simp [this]
    · have hx : x ∈ l := by rcases h with h | h; exact absurd h hxy; exact h
      have := filter_len hn.2 hx
      have hyx : (y != x) = true := by simp; exact fun e => hxy e.symm
      simp [hyx, this]

theorem step_in {x : Int} {L : List Int} {cap : Nat} (h : x ∈ (D L).take cap) : (D (x :: L)).take cap = x :: ((D L).take cap).filter fun y => y != x := by
  cases cap with
  | zero => simp at h
  | succ m =>
    simp only [D, List.take_succ_cons]
    congr 1
    have hn := nodup_D L
    have e : D L = (D L).take (m + 1) ++ (D L).drop (m + 1) := (List.take_append_drop _ _).symm
    have hn1 : ((D L).take (m + 1)).Nodup := hn.sublist (List.take_sublist _ _)
    have hl := filter_len hn1 h
    have hT : ((D L).drop (m + 1)).filter (fun y => y != x) = (D L).drop (m + 1) := by
      refine List.filter_eq_self.2 fun z hz => ?_
      simp only [bne_iff_ne, ne_eq]
      rintro rfl
      rw [e, List.nodup_append] at hn
      exact hn.2.2 z h z hz rfl
    conv => lhs; rw [e, List.filter_append, hT]
    by_cases hfull : (D L).length ≤ m + 1
    · rw [List.drop_of_length_le hfull, List.append_nil]
      refine List.take_of_length_le ?_
      have : ((D L).take (m + 1)).length ≤ m + 1 := List.length_take_le _ _
      omega
    · have : ((D L).take (m + 1)).length = m + 1 := by simp; omega
      rw [List.take_append_of_le_length (by omega)]
      refine List.take_of_length_le ?_
      omega

theorem step_new {x : Int} {L : List Int} {cap : Nat} (h : x ∉ (D L).take cap) (hl : ((D L).take cap).length < cap) : (D (x :: L)).take cap = x :: (D L).take cap := by
  have e : (D L).take cap = D L := by
    refine List.take_of_length_le ?_
    simp only [List.length_take] at hl
    omega
  rw [e] at h hl ⊢
  have : (D L).filter (fun y => y != x) = D L := List.filter_eq_self.2 fun z hz => by simp; rintro rfl; exact h hz
  simp only [D, this]
  exact List.take_of_length_le (by simp; omega)

theorem step_full {x : Int} {L : List Int} {cap : Nat} (h : x ∉ (D L).take cap) (hl : ((D L).take cap).length = cap) (h1 : 1 ≤ cap) : (D (x :: L)).take cap = x :: ((D L).take cap).take (cap - 1) := by
  cases cap with
  | zero => omega
  | succ m =>
    simp only [D, List.take_succ_cons, Nat.add_sub_cancel]
    congr 1
    rw [take_filter, List.take_take]
    · congr 1; omega
    · intro y hy
      simp only [bne_iff_ne, ne_eq]
      rintro rfl
      exact h (List.mem_of_mem_take (by rw [List.take_take, Nat.min_eq_left (by omega)]; exact hy : y ∈ ((D L).take (m + 1)).take m))

end Go.Pl06
