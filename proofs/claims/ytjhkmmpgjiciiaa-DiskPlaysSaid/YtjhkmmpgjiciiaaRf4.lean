/-
  The reference disk: made.
-/
import Derived.Test.YtjhkmmpgjiciiaaRf3
import Derived.Deep.CutBlock
namespace Go.Proofs.Ytjhkmmpgjiciiaa
set_option linter.unusedSimpArgs false
set_option linter.unusedVariables false
open Go.RowKit Go.Sl Go.Dk
attribute [local go_sem ↓] Go.wp_at_zero Go.wp_at_succ
attribute [local go_sem] Go.Sl.cell_sat Go.Sl.frozen_sat

/-- a part of a row, as what is appended -/
theorem src_part {P : Program} {e s : Nat} {a : Option Addr} {n c : Nat} {xs : List Value} {F : Assn} {w : World} (hs : Sat (rw e s (.slice a n c) xs * F) w) (lo hi : Nat) (h1 : lo ≤ hi) (h2 : hi ≤ n) (ho : ∀ u ∈ xs, u.oneCell' = true) :
    Src P s w (.slice (cutA a c lo s) (hi - lo) (c - lo)) (hi - lo) ((xs.drop (lo * s)).take ((hi - lo) * s)) := by
  rcases hs.rw_open with ⟨h3, h4, h5⟩ | ⟨g, n', cap, sp, h3, h4, h5, h6, h7, h8⟩
  · cases h3
    obtain rfl : hi = 0 := by omega
    obtain rfl : lo = 0 := by omega
    subst h4
    rw [cutA_none]
    simpa using Src.nil P s w
  · cases h3
    have hlen : ((xs.drop (lo * s)).take ((hi - lo) * s)).length = (hi - lo) * s := by
      have e1 : (hi - lo) * s + lo * s = hi * s := by rw [← Nat.add_mul]; congr 1; omega
      have e2 : hi * s ≤ n * s := Nat.mul_le_mul_right s h2
      simp; omega
    have hone : ∀ u ∈ (xs.drop (lo * s)).take ((hi - lo) * s), u.oneCell' = true := fun u hu => ho u (List.mem_of_mem_drop (List.mem_of_mem_take hu))
    by_cases hc : c = lo
    · have : cutA (some ⟨g, 0, none⟩) c lo s = some ⟨g, 0, none⟩ := by unfold cutA; rw [if_pos hc]
      rw [this]
      refine Src.slice hlen (fun j u hj => ?_) hone
      have := (List.getElem?_eq_some_iff.1 hj).1
      rw [hlen, show hi - lo = 0 by omega] at this
      omega
    · have : cutA (some ⟨g, 0, none⟩) c lo s = some ⟨g, lo * s, none⟩ := by unfold cutA; rw [if_neg hc]; simp [Addr.add]; try omega
      rw [this]
      refine Src.slice hlen (fun j u hj => ?_) hone
      have hjl := (List.getElem?_eq_some_iff.1 hj).1
      rw [hlen] at hjl
      rw [List.getElem?_take_of_lt hjl, List.getElem?_drop] at hj
      have hlx := (List.getElem?_eq_some_iff.1 hj).1
      exact (h8.at_get (k := lo * s + j) (v := u) (by rw [List.getElem?_append_left hlx]; exact hj)).1

theorem frows_one (fs : List Rf) : ∀ u ∈ frows fs, u.oneCell' = true := by
  intro u hu
  obtain ⟨x, _, hx⟩ := List.mem_flatMap.1 hu
  simp only [frow, List.mem_cons, List.not_mem_nil, or_false] at hx
  rcases hx with rfl | rfl | rfl | rfl <;> rfl
theorem frows_take (fs : List Rf) (q : Nat) (hq : q ≤ fs.length) : (frows fs).take (q * 4) = frows (fs.take q) := by
  conv => lhs; rw [← List.take_append_drop q fs, frows_append]
  rw [List.take_append_of_le_length (by rw [frows_len]; simp; omega), List.take_of_length_le (by rw [frows_len]; simp; omega)]
theorem frows_drop (fs : List Rf) (q : Nat) (hq : q ≤ fs.length) : (frows fs).drop (q * 4) = frows (fs.drop q) := by
  conv => lhs; rw [← List.take_append_drop q fs, frows_append]
  rw [List.drop_append_of_le_length (by rw [frows_len]; simp; omega), List.drop_of_length_le (by rw [frows_len]; simp; omega), List.nil_append]

def less (a b : ByteArray) : Bool := Op.bytesLess a.toList b.toList
def posR (nm : ByteArray) : List Rf → Nat
  | [] => 0
  | x :: l => if less x.nm nm then posR nm l + 1 else 0
theorem posR_end {nm : ByteArray} {l : List Rf} (h : ∀ y ∈ l, less y.nm nm = true) : posR nm l = l.length := by
  induction l with
  | nil => rfl
  | cons x l ih => unfold posR; rw [if_pos (h x (by simp)), ih fun y hy => h y (by simp [hy])]; rfl
theorem posR_at {nm : ByteArray} {l : List Rf} {q : Nat} {x : Rf} (hx : l[q]? = some x) (h : ∀ y ∈ l.take q, less y.nm nm = true) (hn : less x.nm nm = false) : posR nm l = q := by
  induction l generalizing q with
  | nil => simp at hx
  | cons y l ih =>
    cases q with
    | zero => simp at hx; subst hx; unfold posR; rw [hn]; rfl
    | succ q =>
      unfold posR
      rw [if_pos (h y (by simp)), ih (q := q) (by simpa using hx) fun z hz => h z (by simp [hz])]
theorem posR_le (nm : ByteArray) (l : List Rf) : posR nm l ≤ l.length := by
  induction l with
  | nil => simp [posR]
  | cons x l ih => unfold posR; split <;> simp <;> omega

def newR (nm : ByteArray) : Rf := ⟨nm, Dk.fl0, none, 0, none, 0⟩
def putR (nm : ByteArray) (fs : List Rf) : List Rf := fs.take (posR nm fs) ++ newR nm :: fs.drop (posR nm fs)

theorem made_ref_had (W : Nat) (h : Rh) (fa : Option Addr) (fc : Nat) (pv : Value) (fs : List Rf) (nm : ByteArray) (j : Nat) (hj : findI nm fs = j) (F : Assn) (w : World) (hs : Sat (coreR W h (.slice fa fs.length fc) pv * (rw TRF 4 (.slice fa fs.length fc) (frows fs) * F)) w) :
    Calls Try.prog 101 #[.pointer (some ⟨W, 0, none⟩), .string nm] w fun e w' => e = .returned (.int .i64 j) ∧ w = w' := by
  have hfi := find_ref W h fa fc pv fs nm F w hs
  rw [hj] at hfi
  clear hj
  go_enter Try.func101, Try.ntmps101
  go_wp2_with fail
  refine hfi.mono ?_
  rintro e w' ⟨rfl, rfl⟩
  go_wp2
  go_ret
  exact ⟨rfl, rfl⟩

set_option maxHeartbeats 800000 in
theorem made_ref_new (W : Nat) (h : Rh) (fa : Option Addr) (fc : Nat) (pv : Value) (fs : List Rf) (nm : ByteArray) (hj : findI nm fs = -1) (h16 : fs.length ≤ 16) (F : Assn) (w : World) (hs : Sat (coreR W h (.slice fa fs.length fc) pv * (rw TRF 4 (.slice fa fs.length fc) (frows fs) * F)) w) :
    Calls Try.prog 101 #[.pointer (some ⟨W, 0, none⟩), .string nm] w fun e w' => ∃ a c, e = .returned (.int .i64 (posR nm fs : Nat)) ∧ Sat (coreR W h (.slice a (putR nm fs).length c) pv * (rw TRF 4 (.slice a (putR nm fs).length c) (frows (putR nm fs)) * F)) w' := by
  obtain ⟨i0, E⟩ := elemRF
  have hfi := find_ref W h fa fc pv fs nm F w hs
  rw [hj] at hfi
  clear hj
  obtain ⟨_, hm1, hm2⟩ := rw_max (hs.take (rw TRF 4 (.slice fa fs.length fc) (frows fs)))
  haveI := hs.i
  go_enter Try.func101, Try.ntmps101
  go_wp2_with fail
  refine hfi.mono ?_
  rintro e w' ⟨rfl, rfl⟩
  clear hfi
  go_wp2_with fail
  go_loopg [6] fs.length (fun k i wr => ∃ q : Nat, i = .int .i64 q ∧ q ≤ fs.length ∧ Aside (k = fs.length - q ∧ ∀ y ∈ fs.take q, less y.nm nm = true) ∧ w = wr)
  case atStart => exact ⟨0, rfl, by omega, ⟨rfl, by simp⟩, rfl⟩
  case round =>
    obtain ⟨q, rfl, hq, A, rfl⟩ := hrel
    by_cases hgo : q < fs.length ∧ ∀ x, fs[q]? = some x → less x.nm nm = true
    · obtain ⟨hlt, hgl⟩ := hgo
      have hlt' : (q : Int) < fs.length := by omega
      obtain ⟨x, hx⟩ : ∃ x, fs[q]? = some x := ⟨fs[q], by simp [hlt]⟩
      obtain ⟨g, rfl⟩ := row_some (hs.take (rw TRF 4 (.slice fa fs.length fc) (frows fs))) (by omega)
      obtain ⟨i1, _, _, _⟩ := frows_at hx
      haveI := hs.i
      have hb : Op.bytesLess x.nm.toList nm.toList = true := hgl x hx
      have HX : Aside (fs[q]? = some x ∧ less x.nm nm = true) := ⟨hx, hb⟩
      clear hx hgl
      go_wp2
      go_roundg (fs.length - (q + 1))
      case measure => have := A.out.1; omega
      case rel =>
        refine ⟨q + 1, by go_num, by omega, ⟨rfl, ?_⟩, rfl⟩
        rw [take_snoc' HX.out.1]
        intro y hy
        rcases List.mem_append.1 hy with h1 | h1
        · exact A.out.2 y h1
        · obtain rfl : y = x := by simpa using h1
          exact HX.out.2
    · have HP : Aside (posR nm fs = q) := (by
        by_cases hlt : q < fs.length
        · obtain ⟨x, hx⟩ : ∃ x, fs[q]? = some x := ⟨fs[q], by simp [hlt]⟩
          have : less x.nm nm = false := by
            cases hl : less x.nm nm with
            | false => rfl
            | true => exact absurd ⟨hlt, fun y hy => by rw [hx] at hy; cases hy; exact hl⟩ hgo
          exact posR_at hx A.out.2 this
        · have h1 := A.out.2
          rw [List.take_of_length_le (by omega)] at h1
          rw [posR_end h1]; omega : _ = _)
      have HU : Aside (putR nm fs = fs.take q ++ newR nm :: fs.drop q) := (by unfold putR; rw [HP.out] : _ = _)
      have hto := fun w => at_to E (a := fa) (n := fs.length) (c := fc) q (by omega) w
      have hfrom := fun w => at_from E (a := fa) (n := fs.length) (c := fc) q (by omega) w
      by_cases hlt : q < fs.length
      · have hlt' : (q : Int) < fs.length := by omega
        obtain ⟨x, hx⟩ : ∃ x, fs[q]? = some x := ⟨fs[q], by simp [hlt]⟩
        have hb : Op.bytesLess x.nm.toList nm.toList = false := by
          cases hl : Op.bytesLess x.nm.toList nm.toList with
          | false => rfl
          | true => exact absurd ⟨hlt, fun y hy => by rw [hx] at hy; cases hy; exact hl⟩ hgo
        obtain ⟨g, rfl⟩ := row_some (hs.take (rw TRF 4 (.slice fa fs.length fc) (frows fs))) (by omega)
        obtain ⟨i1, _, _, _⟩ := frows_at hx
        haveI := hs.i
        clear hx hgo
        go_upto_region 8 with (fail)
        have hsrc1 : Src Try.prog 4 w (.slice (cutA (some ⟨g, 0, none⟩) fc 0 4) q fc) q (frows (fs.take q)) := by
          have := src_part (P := Try.prog) (hs.take (rw TRF 4 (.slice (some ⟨g, 0, none⟩) fs.length fc) (frows fs))) 0 q (by omega) (by omega) (frows_one fs)
          rw [Nat.sub_zero, Nat.sub_zero, Nat.zero_mul, List.drop_zero, frows_take fs q (by omega)] at this
          exact this
        go_upto_region 9 with (at_builtin; refine wpl_append_same E rfl (.tmp 35) (.tmp 41) rfl rfl rfl (hs.rw_nil (e := TRF) (s := 4)) hsrc1 (by unfold maxLen; omega) (by omega) ?_; intro a1 c1 w1 hs6 hnil; clear hnil hsrc1; simp only [Nat.zero_add, List.nil_append] at hs6 ⊢; haveI := hs6.i)
        have hs7 := hs6.alloc #[.string nm, .slice none 0 0, .slice none 0 0, .bool false] TRF
        have hs5 := hs7.take (rw TRF 4 (.slice a1 q c1) (frows (fs.take q)))
        have hsrc2 := Src.new (P := Try.prog) (s := 4) hs7 rfl (by intro u hu; simp at hu; rcases hu with rfl | rfl | rfl | rfl <;> rfl)
        go_upto_region 10 with (at_builtin; refine wpl_append_same E rfl (.tmp 43) (.tmp 46) rfl rfl rfl hs5 hsrc2 (by unfold maxLen; omega) (by omega) ?_; intro a2 c2 w2 hs8 hnil; clear hnil hsrc2 hs5 hs7; haveI := hs8.i)
        have hsrc3 : Src Try.prog 4 w2 (.slice (cutA (some ⟨g, 0, none⟩) fc q 4) (fs.length - q) (fc - q)) (fs.length - q) (frows (fs.drop q)) := by
          have := src_part (P := Try.prog) (hs8.take (rw TRF 4 (.slice (some ⟨g, 0, none⟩) fs.length fc) (frows fs))) q fs.length (by omega) (by omega) (frows_one fs)
          rw [frows_drop fs q (by omega), List.take_of_length_le (by rw [frows_len]; simp)] at this
          exact this
        go_wp2_with (at_builtin; refine wpl_append_same E rfl (.tmp 48) (.tmp 54) rfl rfl rfl hs8 hsrc3 (by unfold maxLen; omega) (by omega) ?_; intro a3 c3 w3 hs9 hnil; clear hnil hsrc3 hs8; haveI := hs9.i)
        go_ret
        have hlen : (putR nm fs).length = q + 1 + (fs.length - q) := by rw [HU.out]; simp; omega
        have hrow : frows (putR nm fs) = frows (fs.take q) ++ [.string nm, .slice none 0 0, .slice none 0 0, .bool false] ++ frows (fs.drop q) := by rw [HU.out]; simp [frows, frow, newR, Dk.fl0]
        refine ⟨by rw [HP.out]; rfl, a3, c3, ?_⟩
        rw [hlen, hrow]
        exact satI_weak (C := rw TRF 4 (.slice (some ⟨g, 0, none⟩) fs.length fc) (frows fs) * block w1.heap.size TRF [.string nm, .slice none 0 0, .slice none 0 0, .bool false]) (by ac_rfl)
      · have hlt' : ¬ (q : Int) < fs.length := by omega
        clear hgo
        go_upto_region 8 with (fail)
        have hsrc1 : Src Try.prog 4 w (.slice (cutA fa fc 0 4) q fc) q (frows (fs.take q)) := by
          have := src_part (P := Try.prog) (hs.take (rw TRF 4 (.slice fa fs.length fc) (frows fs))) 0 q (by omega) (by omega) (frows_one fs)
          rw [Nat.sub_zero, Nat.sub_zero, Nat.zero_mul, List.drop_zero, frows_take fs q (by omega)] at this
          exact this
        go_upto_region 9 with (at_builtin; refine wpl_append_same E rfl (.tmp 35) (.tmp 41) rfl rfl rfl (hs.rw_nil (e := TRF) (s := 4)) hsrc1 (by unfold maxLen; omega) (by omega) ?_; intro a1 c1 w1 hs6 hnil; clear hnil hsrc1; simp only [Nat.zero_add, List.nil_append] at hs6 ⊢; haveI := hs6.i)
        have hs7 := hs6.alloc #[.string nm, .slice none 0 0, .slice none 0 0, .bool false] TRF
        have hs5 := hs7.take (rw TRF 4 (.slice a1 q c1) (frows (fs.take q)))
        have hsrc2 := Src.new (P := Try.prog) (s := 4) hs7 rfl (by intro u hu; simp at hu; rcases hu with rfl | rfl | rfl | rfl <;> rfl)
        go_upto_region 10 with (at_builtin; refine wpl_append_same E rfl (.tmp 43) (.tmp 46) rfl rfl rfl hs5 hsrc2 (by unfold maxLen; omega) (by omega) ?_; intro a2 c2 w2 hs8 hnil; clear hnil hsrc2 hs5 hs7; haveI := hs8.i)
        have hsrc3 : Src Try.prog 4 w2 (.slice (cutA fa fc q 4) (fs.length - q) (fc - q)) (fs.length - q) (frows (fs.drop q)) := by
          have := src_part (P := Try.prog) (hs8.take (rw TRF 4 (.slice fa fs.length fc) (frows fs))) q fs.length (by omega) (by omega) (frows_one fs)
          rw [frows_drop fs q (by omega), List.take_of_length_le (by rw [frows_len]; simp)] at this
          exact this
        go_wp2_with (at_builtin; refine wpl_append_same E rfl (.tmp 48) (.tmp 54) rfl rfl rfl hs8 hsrc3 (by unfold maxLen; omega) (by omega) ?_; intro a3 c3 w3 hs9 hnil; clear hnil hsrc3 hs8; haveI := hs9.i)
        go_ret
        have hlen : (putR nm fs).length = q + 1 + (fs.length - q) := by rw [HU.out]; simp; omega
        have hrow : frows (putR nm fs) = frows (fs.take q) ++ [.string nm, .slice none 0 0, .slice none 0 0, .bool false] ++ frows (fs.drop q) := by rw [HU.out]; simp [frows, frow, newR, Dk.fl0]
        refine ⟨by rw [HP.out]; rfl, a3, c3, ?_⟩
        rw [hlen, hrow]
        exact satI_weak (C := rw TRF 4 (.slice fa fs.length fc) (frows fs) * block w1.heap.size TRF [.string nm, .slice none 0 0, .slice none 0 0, .bool false]) (by ac_rfl)

end Go.Proofs.Ytjhkmmpgjiciiaa
