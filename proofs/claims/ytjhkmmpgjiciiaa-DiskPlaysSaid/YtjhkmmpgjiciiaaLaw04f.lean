/-
  The disk's laws: bytes that are lent, and kept.
-/
import Derived.Test.YtjhkmmpgjiciiaaRf13
import Derived.Test.YtjhkmmpgjiciiaaRf14
import Derived.Test.YtjhkmmpgjiciiaaLaw04e
import Derived.Deep.RegionHeld3
namespace Go.Proofs.Ytjhkmmpgjiciiaa
set_option linter.unusedSimpArgs false
set_option linter.unusedVariables false
open Go.RowKit Go.Sl Go.Dk
attribute [local go_sem ↓] Go.wp_at_zero Go.wp_at_succ
attribute [local go_sem] Go.Sl.cell_sat Go.Sl.frozen_sat

def lentL (l : List UInt8) : List UInt8 := l ++ [165, 90, 165]
theorem lentL_len (l : List UInt8) : (lentL l).length = l.length + 3 := by simp [lentL]
theorem reads_lent (g c : Nat) (l : List UInt8) : Reads (rw TB 1 (.slice (some ⟨g, 0, none⟩) (l.length + 3) c) (bys (lentL l))) (.slice (some ⟨g, 0, none⟩) l.length c) l := by
  intro F w hs
  have h0 : Byt w (.slice (some ⟨g, 0, none⟩) (l.length + 3) c) (lentL l) := Reads.rw F w hs
  have h := h0.cut 0 l.length (by omega) (by omega)
  rw [cutA_zero] at h
  simpa [lentL] using h

set_option maxHeartbeats 800000 in
theorem lent_any (v : Value) (l : List UInt8) (B F : Assn) (w : World) (hB : Reads B v l) (hs : Sat (B * F) w) (hl : l.length ≤ 1099511627776) :
    Calls Try.prog 76 #[v] w fun e w' => ∃ g c, e = .returned (.slice (some ⟨g, 0, none⟩) l.length c) ∧ Sat (rw TB 1 (.slice (some ⟨g, 0, none⟩) (l.length + 3) c) (bys (lentL l)) * (B * F)) w' := by
  obtain ⟨i0, E⟩ := elemB
  obtain ⟨va, vc, rfl, _, _⟩ := (hB F w hs).len
  have hco := copy_ref _ l B F w hB hs (by omega)
  go_enter Try.func76, Try.ntmps76
  go_wp2_with fail
  refine hco.mono ?_
  rintro e w1 ⟨a1, c1, rfl, hs1⟩
  clear hco hs
  haveI := hs1.i
  have hb3 : bys [165, 90, 165] = [Value.int .u8 165, .int .u8 90, .int .u8 165] := rfl
  have hsb : Sat (block w1.heap.size TB (bys [165, 90, 165]) * _) (w1.alloc (.cells #[.int .u8 165, .int .u8 90, .int .u8 165] TB)) := hs1.alloc #[.int .u8 165, .int .u8 90, .int .u8 165] TB
  have hsrc := ((Reads.block0 (l := [165, 90, 165]) (by unfold maxLen; decide)) _ _ hsb).src (P := Try.prog)
  have hs5 := hsb.take (rw TB 1 (.slice a1 l.length c1) (bys l))
  go_wp2_with (at_builtin; refine wpl_append_same E rfl (.tmp 5) (.tmp 6) rfl rfl rfl hs5 hsrc (by unfold maxLen; simp; omega) (by simp; omega) ?_; intro a2 c2 w2 hs6 hnil; clear hnil hs5 hsrc; obtain ⟨g, rfl⟩ := row_some hs6 (by simp); have hcc := (rw_max hs6).2.1; simp only [List.length_cons, List.length_nil, Nat.zero_add, Nat.reduceAdd] at hcc hs6 ⊢; have hlc : (l.length : Int) ≤ c2 := by omega)
  go_ret
  rw [← bys_append] at hs6
  exact ⟨g, c2, rfl, Sat.weak (B := block w1.heap.size TB (bys [165, 90, 165])) (hs6.eq (by show _ = rw TB 1 (.slice (some ⟨g, 0, none⟩) (l.length + 3) c2) (bys (l ++ [165, 90, 165])) * _ * _; ac_rfl))⟩

set_option maxHeartbeats 800000 in
theorem kept_any (v : Value) (l : List UInt8) (g c : Nat) (B F : Assn) (w : World) (hB : Reads B v l) (hs : Sat (rw TB 1 (.slice (some ⟨g, 0, none⟩) (l.length + 3) c) (bys (lentL l)) * (B * F)) w) (hl : l.length ≤ 1099511627776) :
    Calls Try.prog 77 #[.slice (some ⟨g, 0, none⟩) l.length c, v] w fun e w' => e = .returned (.bool true) ∧ Sat (rw TB 1 (.slice (some ⟨g, 0, none⟩) (l.length + 3) c) (bys (lentL l)) * (B * F)) w' := by
  obtain ⟨i0, E⟩ := elemB
  have hb2 := hB _ _ (hs.take B)
  obtain ⟨va, vc, rfl, _, _⟩ := hb2.len
  obtain ⟨_, hcc, hcm⟩ := rw_max hs
  have hsm := same_any (.slice (some ⟨g, 0, none⟩) l.length c) (.slice va l.length vc) l l w ((reads_lent g c l) _ _ hs) hb2
  rw [decide_eq_true (rfl : l = l)] at hsm
  go_enter Try.func77, Try.ntmps77
  go_wp2_with fail
  refine hsm.mono ?_
  rintro e w1 ⟨rfl, n, rfl⟩
  clear hsm hb2
  have hs1 := hs.drewN n
  generalize w.drewN n = w1 at hs1 ⊢
  clear hs
  have hto := at_to (P := Try.prog) E (a := some ⟨g, 0, none⟩) (n := l.length) (c := c) (l.length + 3) (by omega)
  rw [cutA_zero, Int.natCast_add] at hto
  have hlt : ¬ (c : Int) < (l.length : Int) + 3 := by omega
  have g0 : (lentL l)[l.length]? = some 165 := by simp [lentL]
  have g1 : (lentL l)[l.length + 1]? = some 90 := by simp [lentL]
  have g2 : (lentL l)[l.length + 2]? = some 165 := by simp [lentL]
  haveI : At (bys (lentL l)) l.length (.int .u8 165) := ⟨by unfold bys; rw [List.getElem?_map, g0]; rfl⟩
  haveI : At (bys (lentL l)) (l.length + 1) (.int .u8 90) := ⟨by unfold bys; rw [List.getElem?_map, g1]; rfl⟩
  haveI : At (bys (lentL l)) (l.length + 2) (.int .u8 165) := ⟨by unfold bys; rw [List.getElem?_map, g2]; rfl⟩
  haveI := hs1.i
  clear g0 g1 g2
  go_wp2
  go_ret
  exact ⟨rfl, satI⟩

end Go.Proofs.Ytjhkmmpgjiciiaa
