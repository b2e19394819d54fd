/-
  Of all versions the pages that are told are just those of their trees in the file in the form of the document, and a root that is none is refused. No condition. (part 52)
-/
import Derived.Test.YtfhbmblbidcmmaaGreatVa50
set_option linter.unusedSimpArgs false
set_option linter.unusedVariables false
namespace Go.Tr
theorem first_cons (x : Ent) (l : List Ent) (n : Int) : first (x :: l) n = if x.len ≤ n then (x :: (first l (n - x.len)).1, (first l (n - x.len)).2)
 else if n ≤ 0 then ((first l (n - x.len)).1, x :: (first l (n - x.len)).2)
 else (cutE x 0 n :: (first l (n - x.len)).1, cutE x n (x.len - n) :: (first l (n - x.len)).2) := by rw [first]
theorem first_snoc (y : Ent) : ∀ (l : List Ent) (n : Int), first (l ++ [y]) n = ((first l n).1 ++ (first [y] (n - eBytes l)).1, (first l n).2 ++ (first [y] (n - eBytes l)).2)
 | [], n => by simp [first, eBytes]
 | x :: l, n => by
   have h := first_snoc y l (n - x.len)
   have e : n - x.len - eBytes l = n - eBytes (x :: l) := by
    have : eBytes (x :: l) = x.len + eBytes l := by simp [eBytes]
    omega
   rw [e] at h
   rw [List.cons_append, first_cons x (l ++ [y]) n, h, first_cons x l n]
   generalize first [y] (n - eBytes (x :: l)) = f
   split
   · rfl
   · split <;> rfl
theorem first_one (x : Ent) (n : Int) : first [x] n = if x.len ≤ n then ([x], []) else if n ≤ 0 then ([], [x]) else ([cutE x 0 n], [cutE x n (x.len - n)]) := by
 rw [first]
 simp only [first]
theorem first_len (l : List Ent) (n : Int) : (first l n).1.length ≤ l.length ∧ (first l n).2.length ≤ l.length := by
 induction l generalizing n with
 | nil => simp [first]
 | cons x l ih =>
   have := ih (n - x.len)
   rw [first]
   split
   · simp; omega
   · split
     · simp; omega
     · simp; omega
end Go.Tr
namespace Go.Proofs.YtfhbmblbidcmmaaGreat
set_option linter.unusedSimpArgs false
set_option linter.unusedVariables false
open Go.RowKit Go.Sl Go.Dk Go.Tr
attribute [local go_sem ↓] Go.wp_at_zero Go.wp_at_succ
attribute [local go_sem] Go.Sl.cell_sat Go.Sl.frozen_sat
set_option maxRecDepth 100000 in
set_option maxHeartbeats 3200000 in
theorem rfirst_any (l : List Ent) (n0 : Int) (v : Value) (B F : Assn) (w : World) (hE : ReadsE B v l) (hs : Sat (B * F) w) (hl : l.length ≤ 65536) (hm : ∀ x ∈ l, mayEnt x = true) (h0 : -1099511627776 ≤ n0) (h1 : n0 ≤ 1099511627776) :
 Calls Tryz.prog 106 #[v, .int .i64 n0] w fun e w' => ∃ a c a' c', e = .returned (.tuple #[.slice a (first l n0).1.length c, .slice a' (first l n0).2.length c']) ∧
  Sat (rw TEn 4 (.slice a (first l n0).1.length c) (ecs (first l n0).1) * (rw TEn 4 (.slice a' (first l n0).2.length c') (ecs (first l n0).2) * (B * F))) w' := by
 obtain ⟨i0, E⟩ := elemEn
 obtain ⟨a0, c0, rfl, hE1, hE2⟩ := hE.v
 have HL : Aside (ReadsE B (.slice a0 l.length c0) l) := hE
 have HM : Aside (∀ x ∈ l, mayEnt x = true) := hm
 have HB : Aside (∀ i : Nat, 0 ≤ eBytes (l.take i) ∧ eBytes (l.take i) ≤ i * 1048576) := eBytes_take_bound fun x hx => by have := mayE_bounds (hm x hx); omega
 have HFL : Aside (∀ i, (first (l.take i) n0).1.length ≤ i ∧ (first (l.take i) n0).2.length ≤ i) := fun i => by
  have := first_len (l.take i) n0
  have h2 : (l.take i).length ≤ i := by rw [List.length_take]; omega
  omega
 obtain ⟨nl, hnl⟩ : ∃ nl, l.length = nl := ⟨_, rfl⟩
 have HNL : Aside (l.length = nl) := hnl
 have HR : Aside (first l n0 = first (l.take nl) n0) := (by rw [← hnl, List.take_length] : first l n0 = first (l.take nl) n0)
 rw [hnl] at hl hE1 ⊢
 obtain ⟨R, hR⟩ : ∃ R, first l n0 = R := ⟨_, rfl⟩
 rw [hR]
 have HRR : Aside (first l n0 = R) := hR
 have q0 := hs.rw_nil (e := TEn) (s := 4) |>.rw_nil (e := TEn) (s := 4)
 haveI := hs.i
 clear hE hm hnl hR
 go_enter Tryz.func106, Tryz.ntmps106
 go_wp2
 go_loopg [1, 6, 7, 8] nl (fun g t1 t6 t7 t8 wr => ∃ (j : Nat) (L R : List Ent) (a : Option Addr) (c : Nat) (a' : Option Addr) (c' : Nat), t8 = .int .i64 j ∧ t1 = .int .i64 (n0 - eBytes (l.take j)) ∧ t6 = .slice a L.length c ∧ t7 = .slice a' R.length c' ∧ j ≤ nl ∧ L.length ≤ 65536 ∧ R.length ≤ 65536 ∧ Aside (g = nl - j ∧ L = (first (l.take j) n0).1 ∧ R = (first (l.take j) n0).2) ∧
  Sat (rw TEn 4 (.slice a L.length c) (ecs L) * (rw TEn 4 (.slice a' R.length c') (ecs R) * (B * F))) wr)
 case atStart => exact ⟨0, [], [], none, 0, none, 0, rfl, by simp [eBytes], rfl, rfl, by omega, by simp, by simp, ⟨rfl, by simp [first], by simp [first]⟩, q0⟩
 case round =>
  obtain ⟨j, L, R', a, c, a', c', rfl, rfl, rfl, rfl, hj, hL, hR, J, hsr⟩ := hrel
  clear q0 hs this
  haveI := hsr.i
  by_cases hlj : j < nl
  · have hlj' : (j : Int) < nl := by omega
    obtain ⟨y, hy⟩ : ∃ y, l[j]? = some y := ⟨_, List.getElem?_eq_getElem (by have := HNL.out; omega)⟩
    obtain ⟨b, q, rfl, r1, r2, r3, r4⟩ := readsE_at HL.out hy
    have hsn := first_snoc y (l.take j) n0
    rw [← take_snoc' hy, ← J.out.2.1, ← J.out.2.2, first_one] at hsn
    have hbn := eBytes_snoc hy
    have hyb := mayE_iff.1 (HM.out y (List.mem_of_getElem? hy))
    have hbd := HB.out j
    have hfl := HFL.out (j + 1)
    obtain ⟨z, hz⟩ : ∃ z, n0 - eBytes (l.take j) = z := ⟨_, rfl⟩
    rw [hz] at hsn ⊢
    have hz2 : n0 - eBytes (l.take (j + 1)) = z - y.len := by rw [hbn]; omega
    have hzb : -1168231104512 ≤ z ∧ z ≤ 1168231104512 := by omega
    obtain ⟨k, hk⟩ : ∃ k, first (l.take (j + 1)) n0 = k := ⟨_, rfl⟩
    rw [hk] at hfl
    have HS : Aside (first (l.take (j + 1)) n0 = k ∧ k.1.length ≤ j + 1 ∧ k.2.length ≤ j + 1 ∧ n0 - eBytes (l.take (j + 1)) = z - y.len) := ⟨hk, hfl.1, hfl.2, hz2⟩
    rw [hk] at hsn
    obtain ⟨y1, y2, y3, y4⟩ := y
    simp only at r1 r2 r3 r4 hyb hsn HS
    have hw1 : IntKind.i64.wrap (z - y3) = z - y3 := IntWalk.i64_in _ (by omega)
    clear hy hbn hbd hfl hz hz2 hk
    by_cases c1 : y3 ≤ z
    · rw [if_pos c1] at hsn
      have HK : Aside (k = (L ++ [⟨y1, y2, y3, y4⟩], R' ++ [])) := hsn
      clear hsn
      go_wp2_with (at_builtin; refine wpl_append_same E rfl (.tmp 26) (.tmp 28) rfl rfl rfl (takeI (rw TEn 4 (.slice a L.length c) (ecs L))) (Src.new (b := wr.heap.size + 1) (e := TEn) (s := 4) (vs := [.int .i64 y1, .int .i64 y2, .int .i64 y3, .int .i64 y4]) (takeI _) rfl (by intro u hu; simp at hu; rcases hu with rfl | rfl | rfl | rfl <;> rfl)) (by unfold maxLen; omega) (by omega) ?_; intro a9 c9 w9 q9 z9; clear z9; haveI := q9.i)
      go_roundg (nl - (j + 1))
      case measure => have := J.out.1; omega
      case rel =>
       refine ⟨j + 1, L ++ [⟨y1, y2, y3, y4⟩], R', a9, c9, a', c', by go_num, by rw [HS.out.2.2.2], ?_, rfl, by omega, ?_, hR, ⟨rfl, ?_, ?_⟩, ?_⟩
       · rw [List.length_append]; rfl
       · have := HS.out.2.1; rw [HK.out] at this; simp only at this; omega
       · rw [HS.out.1, HK.out]
       · rw [HS.out.1, HK.out, List.append_nil]
       · rw [ecs_last, List.length_append]
         show Sat (rw TEn 4 (.slice a9 (L.length + 1) c9) (ecs L ++ [.int .i64 y1, .int .i64 y2, .int .i64 y3, .int .i64 y4]) * (rw TEn 4 (.slice a' R'.length c') (ecs R') * (B * F))) _
         exact keep4 _ _ _ _
    rw [if_neg c1] at hsn
    by_cases c2 : z ≤ 0
    · rw [if_pos c2] at hsn
      have HK : Aside (k = (L ++ [], R' ++ [⟨y1, y2, y3, y4⟩])) := hsn
      clear hsn
      go_wp2_with (at_builtin; refine wpl_append_same E rfl (.tmp 32) (.tmp 34) rfl rfl rfl (takeI (rw TEn 4 (.slice a' R'.length c') (ecs R'))) (Src.new (b := wr.heap.size + 1) (e := TEn) (s := 4) (vs := [.int .i64 y1, .int .i64 y2, .int .i64 y3, .int .i64 y4]) (takeI _) rfl (by intro u hu; simp at hu; rcases hu with rfl | rfl | rfl | rfl <;> rfl)) (by unfold maxLen; omega) (by omega) ?_; intro a9 c9 w9 q9 z9; clear z9; haveI := q9.i)
      go_roundg (nl - (j + 1))
      case measure => have := J.out.1; omega
      case rel =>
       refine ⟨j + 1, L, R' ++ [⟨y1, y2, y3, y4⟩], a, c, a9, c9, by go_num, by rw [HS.out.2.2.2], rfl, ?_, by omega, hL, ?_, ⟨rfl, ?_, ?_⟩, ?_⟩
       · rw [List.length_append]; rfl
       · have := HS.out.2.2.1; rw [HK.out] at this; simp only at this; omega
       · rw [HS.out.1, HK.out, List.append_nil]
       · rw [HS.out.1, HK.out]
       · rw [ecs_last, List.length_append]
         show Sat (rw TEn 4 (.slice a L.length c) (ecs L) * (rw TEn 4 (.slice a9 (R'.length + 1) c9) (ecs R' ++ [.int .i64 y1, .int .i64 y2, .int .i64 y3, .int .i64 y4]) * (B * F))) _
         exact keep4 _ _ _ _
    rw [if_neg c2] at hsn
    have hw2 : IntKind.i64.wrap (y2 + z) = y2 + z := IntWalk.i64_in _ (by omega)
    have hw3 : IntKind.i64.wrap (y3 - z) = y3 - z := IntWalk.i64_in _ (by omega)
    have HK : Aside (k = (L ++ [⟨y1, y2, z, if y4 = 0 then 0 else -1⟩], R' ++ [⟨y1, y2 + z, y3 - z, if y4 = 0 then 0 else -1⟩])) := by
     rw [hsn]
     unfold cutE
     simp only [Int.add_zero]
     exact (trivial : True)
    clear hsn
    by_cases c3 : y4 = 0
    · subst c3
      go_wp2_with (first | (at_builtin; refine wpl_append_same E rfl (.tmp 39) (.tmp 50) rfl rfl rfl (takeI (rw TEn 4 (.slice a L.length c) (ecs L))) (Src.new (b := wr.heap.size + 1) (e := TEn) (s := 4) (vs := [.int .i64 y1, .int .i64 y2, .int .i64 z, .int .i64 (0)]) (takeI _) rfl (by intro u hu; simp at hu; rcases hu with rfl | rfl | rfl | rfl <;> rfl)) (by unfold maxLen; omega) (by omega) ?_; intro a9 c9 w9 q9 z9; clear z9; haveI := q9.i) | (at_builtin; refine wpl_append_same E rfl (.tmp 52) (.tmp 69) rfl rfl rfl (takeI (rw TEn 4 (.slice a' R'.length c') (ecs R'))) (Src.new (b := w9.heap.size) (e := TEn) (s := 4) (vs := [.int .i64 y1, .int .i64 (y2 + z), .int .i64 (y3 - z), .int .i64 (0)]) (takeI _) rfl (by intro u hu; simp at hu; rcases hu with rfl | rfl | rfl | rfl <;> rfl)) (by unfold maxLen; omega) (by omega) ?_; intro a8 c8 w8 q8 z8; clear z8; haveI := q8.i))
      go_roundg (nl - (j + 1))
      case measure => have := J.out.1; omega
      case rel =>
       refine ⟨j + 1, L ++ [⟨y1, y2, z, 0⟩], R' ++ [⟨y1, y2 + z, y3 - z, 0⟩], a9, c9, a8, c8, by go_num, by rw [HS.out.2.2.2], ?_, ?_, by omega, ?_, ?_, ⟨rfl, ?_, ?_⟩, ?_⟩
       · rw [List.length_append]; rfl
       · rw [List.length_append]; rfl
       · have := HS.out.2.1; rw [HK.out] at this; simp only [List.length_append, List.length_singleton] at this ⊢; omega
       · have := HS.out.2.2.1; rw [HK.out] at this; simp only [List.length_append, List.length_singleton] at this ⊢; omega
       · rw [HS.out.1, HK.out]; simp
       · rw [HS.out.1, HK.out]; simp
       · rw [ecs_last, ecs_last, List.length_append, List.length_append]
         show Sat (rw TEn 4 (.slice a9 (L.length + 1) c9) (ecs L ++ [.int .i64 y1, .int .i64 y2, .int .i64 z, .int .i64 (0)]) * (rw TEn 4 (.slice a8 (R'.length + 1) c8) (ecs R' ++ [.int .i64 y1, .int .i64 (y2 + z), .int .i64 (y3 - z), .int .i64 (0)]) * (B * F))) _
         exact keep4 _ _ _ _
    · have c4 : (y4 == 0) = false := by simp [c3]
      have C3 : Aside (¬ y4 = 0) := c3
      go_wp2_with (first | (at_builtin; refine wpl_append_same E rfl (.tmp 39) (.tmp 50) rfl rfl rfl (takeI (rw TEn 4 (.slice a L.length c) (ecs L))) (Src.new (b := wr.heap.size + 1) (e := TEn) (s := 4) (vs := [.int .i64 y1, .int .i64 y2, .int .i64 z, .int .i64 (-1)]) (takeI _) rfl (by intro u hu; simp at hu; rcases hu with rfl | rfl | rfl | rfl <;> rfl)) (by unfold maxLen; omega) (by omega) ?_; intro a9 c9 w9 q9 z9; clear z9; haveI := q9.i) | (at_builtin; refine wpl_append_same E rfl (.tmp 52) (.tmp 69) rfl rfl rfl (takeI (rw TEn 4 (.slice a' R'.length c') (ecs R'))) (Src.new (b := w9.heap.size) (e := TEn) (s := 4) (vs := [.int .i64 y1, .int .i64 (y2 + z), .int .i64 (y3 - z), .int .i64 (-1)]) (takeI _) rfl (by intro u hu; simp at hu; rcases hu with rfl | rfl | rfl | rfl <;> rfl)) (by unfold maxLen; omega) (by omega) ?_; intro a8 c8 w8 q8 z8; clear z8; haveI := q8.i))
      go_roundg (nl - (j + 1))
      case measure => have := J.out.1; omega
      case rel =>
       refine ⟨j + 1, L ++ [⟨y1, y2, z, -1⟩], R' ++ [⟨y1, y2 + z, y3 - z, -1⟩], a9, c9, a8, c8, by go_num, by rw [HS.out.2.2.2], ?_, ?_, by omega, ?_, ?_, ⟨rfl, ?_, ?_⟩, ?_⟩
       · rw [List.length_append]; rfl
       · rw [List.length_append]; rfl
       · have := HS.out.2.1; rw [HK.out] at this; simp only [List.length_append, List.length_singleton] at this ⊢; omega
       · have := HS.out.2.2.1; rw [HK.out] at this; simp only [List.length_append, List.length_singleton] at this ⊢; omega
       · rw [HS.out.1, HK.out]; simp [C3.out]
       · rw [HS.out.1, HK.out]; simp [C3.out]
       · rw [ecs_last, ecs_last, List.length_append, List.length_append]
         show Sat (rw TEn 4 (.slice a9 (L.length + 1) c9) (ecs L ++ [.int .i64 y1, .int .i64 y2, .int .i64 z, .int .i64 (-1)]) * (rw TEn 4 (.slice a8 (R'.length + 1) c8) (ecs R' ++ [.int .i64 y1, .int .i64 (y2 + z), .int .i64 (y3 - z), .int .i64 (-1)]) * (B * F))) _
         exact keep4 _ _ _ _
  · have hlj' : ¬ (j : Int) < nl := by omega
    have hjn : j = nl := by omega
    have HF : Aside (L = R.1 ∧ R' = R.2) := (by rw [J.out.2.1, J.out.2.2, hjn, ← HR.out, HRR.out]; exact ⟨rfl, rfl⟩ : _ ∧ _)
    clear hjn
    go_wp2
    go_ret2
    rw [HF.out.1, HF.out.2] at hsr
    exact ⟨a, c, a', c', by rw [HF.out.1, HF.out.2]; rfl, hsr⟩
end Go.Proofs.YtfhbmblbidcmmaaGreat
