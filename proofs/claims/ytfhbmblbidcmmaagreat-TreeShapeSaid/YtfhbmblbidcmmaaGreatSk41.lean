/-
  Of all roots that are made the pages are a tree in the form of the document, and just these are told, and each is in use. No condition. (part 41)
-/
import Derived.Test.YtfhbmblbidcmmaaGreatSk33
import Derived.BigQuiet
import Derived.IntWalk
set_option linter.unusedSimpArgs false
set_option linter.unusedVariables false
namespace Go.Tr
def manyE (i sd : Nat) : Ent := ⟨((i + sd) % 2 : Nat), 7 * (i : Int) + (sd % 3 : Nat), 1 + ((i + sd) % 5 : Nat), if (i + sd) % 2 = 0 then -1 else if (1 + ((i + sd) % 5 : Nat) : Int) < ((i + sd) % 4 : Nat) - 1 then 1 + ((i + sd) % 5 : Nat) else ((i + sd) % 4 : Nat) - 1⟩
def manyL (n sd : Nat) : List Ent := (List.range n).map fun i => manyE i sd
theorem manyL_len (n sd : Nat) : (manyL n sd).length = n := by simp [manyL]
theorem manyL_succ (n sd : Nat) : manyL (n + 1) sd = manyL n sd ++ [manyE n sd] := by simp [manyL, List.range_succ]
end Go.Tr
namespace Go.Proofs.YtfhbmblbidcmmaaGreat
set_option linter.unusedSimpArgs false
set_option linter.unusedVariables false
open Go.RowKit Go.Sl Go.Dk Go.Tr
attribute [local go_sem ↓] Go.wp_at_zero Go.wp_at_succ
attribute [local go_sem] Go.Sl.cell_sat Go.Sl.frozen_sat
set_option maxRecDepth 100000 in
set_option maxHeartbeats 1600000 in
theorem rsize_any (l : List Ent) (v : Value) (B F : Assn) (w : World) (hE : ReadsE B v l) (hs : Sat (B * F) w) (hl : l.length ≤ 65536) (hm : ∀ x ∈ l, 0 ≤ x.len ∧ x.len ≤ 1048576) :
 Calls Tryz.prog 31 #[v] w fun e w' => e = .returned (.int .i64 (eBytes l)) ∧ Sat (B * F) w' := by
 obtain ⟨a0, c0, rfl, hE1, hE2⟩ := hE.v
 have HE : Aside (ReadsE B (.slice a0 l.length c0) l) := hE
 have HM : Aside (∀ i : Nat, 0 ≤ eBytes (l.take i) ∧ eBytes (l.take i) ≤ i * 1048576) := eBytes_take_bound hm
 have HO : Aside (∀ x ∈ l, 0 ≤ x.len ∧ x.len ≤ 1048576) := hm
 obtain ⟨n, hn⟩ : ∃ n, l.length = n := ⟨_, rfl⟩
 have HN : Aside (l.length = n) := hn
 rw [hn] at hl hE1 ⊢
 haveI := hs.i
 clear hE hm hn
 go_enter Tryz.func31, Tryz.ntmps31
 go_wp2
 go_loopg [3, 4] n (fun g t3 t4 wr => ∃ i : Nat, t4 = .int .i64 i ∧ i ≤ n ∧ t3 = .int .i64 (eBytes (l.take i)) ∧ Aside (g = n - i) ∧ Sat (B * F) wr)
 case atStart => exact ⟨0, rfl, by omega, by simp [eBytes], rfl, hs⟩
 case round =>
  obtain ⟨i, rfl, hi, rfl, A, hsr⟩ := hrel
  haveI := hsr.i
  by_cases hlt : i < n
  · have hlt' : (i : Int) < n := by omega
    obtain ⟨y, hy⟩ : ∃ y, l[i]? = some y := ⟨_, List.getElem?_eq_getElem (by have := HN.out; omega)⟩
    obtain ⟨b, q, rfl, r1, r2, r3, r4⟩ := readsE_at HE.out hy
    have hs1 := eBytes_snoc hy
    have h3 := HM.out i
    have h4 := HO.out y (List.mem_of_getElem? hy)
    obtain ⟨y1, y2, y3, y4⟩ := y
    simp only at hs1 h4 r1 r2 r3 r4
    obtain ⟨z, hz⟩ : ∃ z, eBytes (l.take i) = z := ⟨_, rfl⟩
    rw [hz] at hs1 h3 ⊢
    have hw1 : IntKind.i64.wrap (z + y3) = z + y3 := IntWalk.i64_in _ (by omega)
    clear hy hz hs
    go_wp2
    go_roundg (n - (i + 1))
    case measure => have := A.out; omega
    case rel => exact ⟨i + 1, by go_num, by omega, by rw [hs1], rfl, hsr⟩
  · have hlt' : ¬ (i : Int) < n := by omega
    obtain rfl : i = n := by omega
    rw [List.take_of_length_le (by rw [HN.out]; exact Nat.le_refl _)]
    go_wp2
    go_ret
    exact ⟨rfl, hsr⟩
theorem set_last (xs : List Value) (i : Nat) (a b c d v : Value) (h : xs.length = i * 4) : (xs ++ [a, b, c, d]).set (i * 4 + 3) v = xs ++ [a, b, c, v] := by
 rw [List.set_append_right _ _ (by omega), h, Nat.add_sub_cancel_left]
 rfl
theorem at_last (xs : List Value) (i j : Nat) (a b c d v : Value) (h : xs.length = i * 4) (hj : [a, b, c, d][j]? = some v) : (xs ++ [a, b, c, d])[i * 4 + j]? = some v := by
 rw [List.getElem?_append_right (by omega), h, Nat.add_sub_cancel_left]
 exact hj
set_option maxRecDepth 100000 in
set_option maxHeartbeats 3200000 in
theorem many_any' (n sd : Nat) (F : Assn) (w : World) (hs : Sat F w) (hn : n ≤ 1000) (hsd : sd ≤ 1000) :
 Calls Tryz.prog 35 #[.int .i64 n, .int .i64 sd] w fun e w' => ∃ a c, e = .returned (.slice a n c) ∧ Sat (rw TEn 4 (.slice a n c) (ecs (manyL n sd)) * F) w' := by
 obtain ⟨i0, E⟩ := elemEn
 haveI := hs.i
 go_enter Tryz.func35, Tryz.ntmps35
 go_wp2
 go_loopg [5, 6] n (fun g t5 t6 wr => ∃ (i : Nat) (a : Option Addr) (c : Nat), t6 = .int .i64 i ∧ t5 = .slice a i c ∧ i ≤ n ∧ Aside (g = n - i) ∧ Sat (rw TEn 4 (.slice a i c) (ecs (manyL i sd)) * F) wr)
 case atStart => exact ⟨0, none, 0, rfl, rfl, by omega, rfl, hs.rw_nil⟩
 case round =>
  obtain ⟨i, a, c, rfl, rfl, hi, A, hsr⟩ := hrel
  haveI := hsr.i
  by_cases hlt : i < n
  · have hlt' : (i : Int) < n := by omega
    have HX0 : (ecs (manyL i sd)).length = i * 4 := by rw [ecs_len, manyL_len]
    obtain ⟨xs, hxs⟩ : ∃ xs, ecs (manyL i sd) = xs := ⟨_, rfl⟩
    obtain ⟨e1, h1⟩ : ∃ e, ((i + sd) % 2 : Nat) = e := ⟨_, rfl⟩
    obtain ⟨e3, h3⟩ : ∃ e, sd % 3 = e := ⟨_, rfl⟩
    obtain ⟨e4, h4⟩ : ∃ e, ((i + sd) % 4 : Nat) = e := ⟨_, rfl⟩
    obtain ⟨e5, h5⟩ : ∃ e, ((i + sd) % 5 : Nat) = e := ⟨_, rfl⟩
    obtain ⟨k, hk⟩ : ∃ k : Int, 1 + (e5 : Int) = k := ⟨_, rfl⟩
    obtain ⟨l0, hl0⟩ : ∃ k : Int, (e4 : Int) - 1 = k := ⟨_, rfl⟩
    obtain ⟨pz, hpz⟩ : ∃ k : Int, 7 * (i : Int) + (e3 : Int) = k := ⟨_, rfl⟩
    have HX : Aside (ecs (manyL i sd) = xs ∧ xs.length = i * 4 ∧ manyE i sd = ⟨(e1 : Int), pz, k, if e1 = 0 then -1 else if k < l0 then k else l0⟩) := ⟨hxs, by rw [← hxs]; exact HX0, by unfold manyE; rw [h1, h3, h4, h5, hk, hl0, hpz]⟩
    have t2 : ((i : Int) + (sd : Int)).tmod 2 = e1 := by rw [Int.tmod_eq_emod_of_nonneg (by omega), ← h1]; omega
    have t3 : ((sd : Int)).tmod 3 = e3 := by rw [Int.tmod_eq_emod_of_nonneg (by omega), ← h3]; omega
    have t4 : ((i : Int) + (sd : Int)).tmod 4 = e4 := by rw [Int.tmod_eq_emod_of_nonneg (by omega), ← h4]; omega
    have t5 : ((i : Int) + (sd : Int)).tmod 5 = e5 := by rw [Int.tmod_eq_emod_of_nonneg (by omega), ← h5]; omega
    have l1 : e1 < 2 := by omega
    have l3 : e3 < 3 := by omega
    have l4 : e4 < 4 := by omega
    have l5 : e5 < 5 := by omega
    have w1 : IntKind.i64.wrap ((i : Int) + (sd : Int)) = (i : Int) + (sd : Int) := IntWalk.i64_in _ (by omega)
    have w2 : IntKind.i64.wrap (1 + (e5 : Int)) = k := by rw [IntWalk.i64_in _ (by omega), hk]
    have w3 : IntKind.i64.wrap (7 * (i : Int)) = 7 * (i : Int) := IntWalk.i64_in _ (by omega)
    have w4 : IntKind.i64.wrap (7 * (i : Int) + (e3 : Int)) = pz := by rw [IntWalk.i64_in _ (by omega), hpz]
    have w5 : IntKind.i64.wrap ((e4 : Int) - 1) = l0 := by rw [IntWalk.i64_in _ (by omega), hl0]
    rw [hxs] at hsr
    haveI := hsr.i
    clear hxs h1 h3 h4 h5 HX0 hs hk hl0 hpz l3 l4 l5
    go_wp2_with (at_builtin; refine wpl_append_same E rfl (.tmp 18) (.tmp 36) rfl rfl rfl (takeI (rw TEn 4 (.slice a i c) xs)) (Src.new (b := wr.heap.size) (e := TEn) (s := 4) (vs := [.int .i64 e1, .int .i64 pz, .int .i64 k, .int .i64 l0]) (takeI _) rfl (by intro u hu; simp at hu; rcases hu with rfl | rfl | rfl | rfl <;> rfl)) (by unfold maxLen; omega) (by omega) ?_; intro a9 c9 w9 q9 z9; clear z9)
    obtain ⟨g, rfl⟩ := row_some q9 (by omega)
    have y0 := at_last xs i 0 (.int .i64 e1) (.int .i64 pz) (.int .i64 k) (.int .i64 l0) _ HX.out.2.1 rfl
    have y3 := at_last xs i 3 (.int .i64 e1) (.int .i64 pz) (.int .i64 k) (.int .i64 l0) _ HX.out.2.1 rfl
    obtain ⟨ys, hys⟩ : ∃ ys, (xs ++ [.int .i64 e1, .int .i64 pz, .int .i64 k, .int .i64 l0]) = ys := ⟨_, rfl⟩
    have HY : Aside ((xs ++ [.int .i64 e1, .int .i64 pz, .int .i64 k, .int .i64 l0]) = ys) := hys
    have q10 : Sat (rw TEn 4 (.slice (some ⟨g, 0, none⟩) (i + 1) c9) ys * F) w9 := by
     rw [← hys]
     haveI := q9.i
     exact keep2 _ _
    rw [hys] at y0 y3
    haveI : At ys (i * 4) (.int .i64 e1) := ⟨y0⟩
    haveI : At ys (i * 4 + 3) (.int .i64 l0) := ⟨y3⟩
    haveI : At (ys.set (i * 4 + 3) (.int .i64 k)) (i * 4) (.int .i64 e1) := ⟨by rw [List.getElem?_set_ne (by omega)]; exact y0⟩
    haveI : At (ys.set (i * 4 + 3) (.int .i64 k)) (i * 4 + 3) (.int .i64 k) := ⟨by rw [List.getElem?_set_self (by exact (List.getElem?_eq_some_iff.1 y3).1)]⟩
    have hix : (i : Int) < (i : Int) + 1 := by omega
    have hix2 : (i : Int) < ((i + 1 : Nat) : Int) := by omega
    have hix3 : (0 : Int) ≤ (i : Int) ∧ (i : Int) < (i : Int) + 1 := by omega
    clear q9 hys hsr y0 y3
    haveI := q10.i
    have hq : ∀ w : World, (Sem.run Tryz.prog (Instr.indexAt 29 (Value.slice (some ⟨g, 0, none⟩) (i + 1) c9) (Value.int IntKind.i64 i)) w) = .ok (.pointer (some ⟨g, i * 4, none⟩)) w := by
     intro w
     simp [go_sem, *]
    rw [hq]
    simp only [Result.andThen_ok]
    by_cases c1 : k < l0
    · have HC1 : Aside (k < l0) := c1
      have d1 : decide (k < l0) = true := decide_eq_true c1
      clear c1
      by_cases c2 : e1 = 0
      · have c3 : ((e1 : Int) == 0) = true := by simp; omega
        go_wp2
        go_roundg (n - (i + 1))
        case measure => have := A.out; omega
        case rel =>
         refine ⟨i + 1, some ⟨g, 0, none⟩, c9, by go_num, rfl, by omega, rfl, ?_⟩
         have he : erow (manyE i sd) = [.int .i64 e1, .int .i64 pz, .int .i64 k, .int .i64 (-1)] := by
          rw [HX.out.2.2]
          unfold erow
          simp only
          rw [if_pos c2]
         rw [manyL_succ, ecs_last, he, HX.out.1]
         refine Sat.eq (A := rw TEn 4 (.slice (some ⟨g, 0, none⟩) (i + 1) c9) ((ys.set (i * 4 + 3) (.int .i64 k)).set (i * 4 + 3) (.int .i64 (-1))) * F) (keep2 _ _) ?_
         rw [List.set_set, ← HY.out, set_last _ _ _ _ _ _ _ HX.out.2.1]
      · have c3 : ((e1 : Int) == 0) = false := by simp; omega
        go_wp2
        go_roundg (n - (i + 1))
        case measure => have := A.out; omega
        case rel =>
         refine ⟨i + 1, some ⟨g, 0, none⟩, c9, by go_num, rfl, by omega, rfl, ?_⟩
         have he : erow (manyE i sd) = [.int .i64 e1, .int .i64 pz, .int .i64 k, .int .i64 k] := by
          rw [HX.out.2.2]
          unfold erow
          simp only
          rw [if_neg c2, if_pos HC1.out]
         rw [manyL_succ, ecs_last, he, HX.out.1]
         refine Sat.eq (A := rw TEn 4 (.slice (some ⟨g, 0, none⟩) (i + 1) c9) (ys.set (i * 4 + 3) (.int .i64 k)) * F) (keep2 _ _) ?_
         rw [← HY.out, set_last _ _ _ _ _ _ _ HX.out.2.1]
    · by_cases c2 : e1 = 0
      · have c3 : ((e1 : Int) == 0) = true := by simp; omega
        go_wp2
        go_roundg (n - (i + 1))
        case measure => have := A.out; omega
        case rel =>
         refine ⟨i + 1, some ⟨g, 0, none⟩, c9, by go_num, rfl, by omega, rfl, ?_⟩
         have he : erow (manyE i sd) = [.int .i64 e1, .int .i64 pz, .int .i64 k, .int .i64 (-1)] := by
          rw [HX.out.2.2]
          unfold erow
          simp only
          rw [if_pos c2]
         rw [manyL_succ, ecs_last, he, HX.out.1]
         refine Sat.eq (A := rw TEn 4 (.slice (some ⟨g, 0, none⟩) (i + 1) c9) (ys.set (i * 4 + 3) (.int .i64 (-1))) * F) (keep2 _ _) ?_
         rw [← HY.out, set_last _ _ _ _ _ _ _ HX.out.2.1]
      · have c3 : ((e1 : Int) == 0) = false := by simp; omega
        go_wp2
        go_roundg (n - (i + 1))
        case measure => have := A.out; omega
        case rel =>
         refine ⟨i + 1, some ⟨g, 0, none⟩, c9, by go_num, rfl, by omega, rfl, ?_⟩
         have he : erow (manyE i sd) = [.int .i64 e1, .int .i64 pz, .int .i64 k, .int .i64 l0] := by
          rw [HX.out.2.2]
          unfold erow
          simp only
          rw [if_neg c2, if_neg (by omega)]
         rw [manyL_succ, ecs_last, he, HX.out.1]
         refine Sat.eq (A := rw TEn 4 (.slice (some ⟨g, 0, none⟩) (i + 1) c9) (ys) * F) (keep2 _ _) ?_
         rw [← HY.out]
  · have hlt' : ¬ (i : Int) < n := by omega
    obtain rfl : i = n := by omega
    go_wp2
    go_ret
    exact ⟨_, _, rfl, hsr⟩
end Go.Proofs.YtfhbmblbidcmmaaGreat
