/-
  Walks of package disk: settled, lay.
-/
import Derived.Test.YtjhkmmpgjiciiaaDk3
import Derived.Test.YtjhkmmpgjiciiaaSlb
namespace Go.Proofs.Ytjhkmmpgjiciiaa
set_option linter.unusedSimpArgs false
set_option linter.unusedVariables false
open Go.RowKit Go.Sl Go.Dk

theorem piecesA_filter (q : Np → Bool) (ps : List Np) : piecesA ps = piecesA (ps.filter q) * piecesA (ps.filter fun x => !q x) := by
  induction ps with
  | nil => simp [piecesA, one_sep]
  | cons n l ih =>
    rw [piecesA, ih]
    cases h : q n
    · simp only [List.filter_cons, h, Bool.not_false, if_true, Bool.false_eq_true, if_false, piecesA]; ac_rfl
    · simp only [List.filter_cons, h, Bool.not_true, if_true, Bool.false_eq_true, if_false, piecesA]; ac_rfl

def others (nm : ByteArray) (ps : List Np) : List Np := ps.filter fun x => x.p.nm != nm
theorem others_pents (nm : ByteArray) (ps : List Np) : pents (others nm ps) = (pents ps).filter fun p => p.nm != nm := by
  simp [others, pents, List.filter_map, Function.comp_def]
theorem others_snoc (nm : ByteArray) (l : List Np) (x : Np) : others nm (l ++ [x]) = if x.p.nm != nm then others nm l ++ [x] else others nm l := by
  unfold others
  rw [List.filter_append]
  cases h : (x.p.nm != nm) <;> simp [List.filter_cons, h]
theorem others_len (nm : ByteArray) (l : List Np) : (others nm l).length ≤ l.length := List.length_filter_le _ _
theorem prow_one (x : Np) (h : x.v.oneCell' = true) : ∀ u ∈ prow x, u.oneCell' = true := by
  intro u hu
  simp only [prow, List.mem_cons, List.not_mem_nil, or_false] at hu
  rcases hu with rfl | rfl | rfl
  · rfl
  · rfl
  · exact h

theorem take_snoc' {α : Type} {l : List α} {i : Nat} {x : α} (h : l[i]? = some x) : l.take (i + 1) = l.take i ++ [x] := by
  obtain ⟨hi, rfl⟩ := List.getElem?_eq_some_iff.1 h
  rw [List.take_succ_eq_append_getElem hi]

theorem bne_bytes (a b : ByteArray) : (a != b) = !(decide (a = b)) := by
  simp only [bne, bytes_beq]

theorem piece_v {x : Np} {F : Assn} {w : World} (hs : Sat (pieceA x * F) w) : ∃ a n c, x.v = .slice a n c := by
  unfold pieceA at hs
  cases hb : x.p.b with
  | none => rw [hb] at hs; exact ⟨_, _, _, hs.pur_open.1⟩
  | some l =>
    rw [hb] at hs
    rw [sep_assoc] at hs
    obtain ⟨g, n, c, h⟩ := hs.pur_open.1
    exact ⟨_, _, _, h⟩
theorem pieces_in {ps : List Np} {x : Np} (h : x ∈ ps) : ∃ R, piecesA ps = pieceA x * R := by
  obtain ⟨l1, l2, rfl⟩ := List.append_of_mem h
  exact ⟨piecesA l1 * piecesA l2, by rw [piecesA_append, piecesA]; ac_rfl⟩

set_option maxHeartbeats 800000 in
theorem settled_any (D M : Nat) (pv : Value) (ps : List Np) (d : Dk) (nm : ByteArray) (F : Assn) (w : World) (hs : Sat (coreD D M pv d * (pendA pv ps * F)) w) (hn : ps.length ≤ 1099511627776) :
    Calls Try.prog 72 #[.pointer (some ⟨D, 0, none⟩), .string nm] w fun e w' => ∃ rv, e = .returned (.tuple #[]) ∧ Sat (coreD D M rv d * (pendA rv (others nm ps) * F)) w' := by
  obtain ⟨i0, E⟩ := elemP
  have hs0 := hs
  unfold coreD pendA at hs0
  have c6 := hs0.c D 6
  obtain ⟨pa, pn, pc, rfl, hpl, hpc, hpm⟩ := rw_v (hs0.take (rw TP 3 pv (prows ps)))
  rw [prows_len] at hpl
  obtain rfl : ps.length = pn := by omega
  have hs1 : Sat (coreD D M (.slice pa ps.length pc) d * (rw TP 3 (.slice pa ps.length pc) (prows ps) * (piecesA ps * F))) w := hs.eq (by unfold pendA; ac_rfl)
  clear hs0 hs hpl
  go_enter Try.func72, Try.ntmps72
  go_wp2
  go_loopg [4, 12] ps.length (fun k rest i wr => ∃ (j : Nat) (a : Option Addr) (c : Nat), i = .int .i64 j ∧ j ≤ ps.length ∧ Aside (k = ps.length - j) ∧ rest = .slice a (others nm (ps.take j)).length c ∧
    Sat (rw TP 3 (.slice a (others nm (ps.take j)).length c) (prows (others nm (ps.take j))) * (coreD D M (.slice pa ps.length pc) d * (rw TP 3 (.slice pa ps.length pc) (prows ps) * (piecesA ps * F)))) wr)
  case atStart => exact ⟨0, none, 0, rfl, by omega, rfl, rfl, by simpa [others, prows] using hs1.rw_nil⟩
  case round =>
    obtain ⟨j, a, c, rfl, hj, A, rfl, hsr⟩ := hrel
    clear hs1 c6
    by_cases hlt : j < ps.length
    · have hlt' : (j : Int) < ps.length := by omega
      obtain ⟨x, hx⟩ : ∃ x, ps[j]? = some x := ⟨ps[j], by simp [hlt]⟩
      obtain ⟨p0, p1, p2⟩ := prows_at hx
      obtain ⟨g, rfl, q0, _⟩ := (hsr.take (rw TP 3 (.slice pa ps.length pc) (prows ps))).rw_get p0
      obtain ⟨_, e1, q1, _⟩ := (hsr.take (rw TP 3 (.slice (some ⟨g, 0, none⟩) ps.length pc) (prows ps))).rw_get p1
      cases e1
      obtain ⟨_, e2, q2, _⟩ := (hsr.take (rw TP 3 (.slice (some ⟨g, 0, none⟩) ps.length pc) (prows ps))).rw_get p2
      cases e2
      obtain ⟨R, hR⟩ := pieces_in (List.mem_of_getElem? hx)
      obtain ⟨xa, xn, xc, hxv⟩ := piece_v (hsr.eq (B := pieceA x * (R * (rw TP 3 (.slice a (others nm (ps.take j)).length c) (prows (others nm (ps.take j))) * (coreD D M (.slice (some ⟨g, 0, none⟩) ps.length pc) d * (rw TP 3 (.slice (some ⟨g, 0, none⟩) ps.length pc) (prows ps) * F))))) (by rw [hR]; ac_rfl))
      rw [hxv] at q2
      have hs2 := hsr.alloc #[.string x.p.nm, .int .i64 x.p.pos, .slice xa xn xc] TP
      have hl := others_len nm (ps.take j)
      have hl2 : (ps.take j).length = j := by simp; omega
      have HS : Aside (others nm (ps.take (j + 1)) = if x.p.nm != nm then others nm (ps.take j) ++ [x] else others nm (ps.take j)) := (by rw [take_snoc' hx, others_snoc] : _ = _)
      have HV : Aside (x.v = .slice xa xn xc) := hxv
      clear hx p0 p1 p2 hR hxv
      by_cases he : x.p.nm = nm
      · have HS2 : Aside (others nm (ps.take (j + 1)) = others nm (ps.take j)) := (by rw [HS.out, bne_bytes, decide_eq_true he]; rfl : _ = _)
        have hd0 := str_eq he
        clear HS he
        go_wp2
        go_roundg (ps.length - (j + 1))
        case measure => have := A.out; omega
        case rel =>
          refine ⟨j + 1, a, c, by go_num, by omega, rfl, by rw [HS2.out], ?_⟩
          rw [HS2.out]
          exact hs2.right
      · have HS2 : Aside (others nm (ps.take (j + 1)) = others nm (ps.take j) ++ [x]) := (by rw [HS.out, bne_bytes, decide_eq_false he]; rfl : _ = _)
        have hd0 := str_ne he
        clear HS he
        have hs3 := hs2.alloc #[.string x.p.nm, .int .i64 x.p.pos, .slice xa xn xc] TP
        have e0 : (wr.alloc (.cells #[.string x.p.nm, .int .i64 x.p.pos, .slice xa xn xc] TP)).heap.size = wr.heap.size + 1 := by simp
        rw [e0] at hs3
        have hs5 := hs3.take (rw TP 3 (.slice a (others nm (ps.take j)).length c) (prows (others nm (ps.take j))))
        have hsrc := Src.new (P := Try.prog) (s := 3) hs3 rfl (by intro u hu; simp at hu; rcases hu with rfl | rfl | rfl <;> rfl)
        clear hs3 hs2 e0
        go_wp2_with (at_builtin; refine wpl_append_same E rfl (.tmp 20) (.tmp 22) rfl rfl rfl hs5 hsrc (by unfold maxLen; omega) (by omega) ?_; intro a' c' w' hs6 hnil; clear hnil hs5 hsrc)
        go_roundg (ps.length - (j + 1))
        case measure => have := A.out; omega
        case rel =>
          refine ⟨j + 1, a', c', by go_num, by omega, rfl, by rw [HS2.out]; simp, ?_⟩
          rw [HS2.out, prows_append]
          have e1 : prows [x] = [.string x.p.nm, .int .i64 x.p.pos, .slice xa xn xc] := by simp [prows, prow, HV.out]
          rw [e1]
          simp only [List.length_append, List.length_cons, List.length_nil, Nat.zero_add]
          refine Sat.weak (B := block (wr.heap.size + 1) TP [.string x.p.nm, .int .i64 x.p.pos, .slice xa xn xc] * block wr.heap.size TP [.string x.p.nm, .int .i64 x.p.pos, .slice xa xn xc]) (hs6.eq ?_)
          ac_rfl
    · have hlt' : ¬ (j : Int) < ps.length := by omega
      have hje : ps.take j = ps := List.take_of_length_le (by omega)
      rw [hje] at hsr
      have hc := hsr
      unfold coreD at hc
      have f6 := hc.f D 6
      have c6 := hc.c D 6
      have hs2 := hc.upd D 6 (.slice a (others nm ps).length c)
      have HJ : Aside (ps.take j = ps) := hje
      rw [HJ.out]
      clear hc hsr hje
      go_wp2
      go_end0
      refine ⟨rfl, .slice a (others nm ps).length c, ?_⟩
      refine Sat.weak (B := rw TP 3 (.slice pa ps.length pc) (prows ps) * piecesA (ps.filter fun x => !(x.p.nm != nm))) (hs2.eq ?_)
      unfold coreD pendA
      rw [piecesA_filter (fun x => x.p.nm != nm) ps]
      show _ = _ * (_ * piecesA (ps.filter fun x => x.p.nm != nm) * _) * _
      ac_rfl

theorem laid_pad (into : List UInt8) (k : Nat) (b : List UInt8) : laid into k b = (into ++ List.replicate (k + b.length - into.length) 0).take k ++ b ++ (into ++ List.replicate (k + b.length - into.length) 0).drop (k + b.length) := by
  unfold laid
  congr 1
  by_cases h : k + b.length ≤ into.length
  · have : k + b.length - into.length = 0 := by omega
    simp [this]
  · rw [List.drop_of_length_le (by omega), List.drop_of_length_le (by simp; omega)]

theorem bys_rep (n : Nat) : bys (List.replicate n 0) = List.replicate n (.int .u8 0) := by simp [bys, bv]

set_option maxHeartbeats 800000 in
theorem lay_any (v : Value) (into : List UInt8) (k : Nat) (x : Value) (b : List UInt8) (B F : Assn) (hB : Reads B x b) (w : World) (hs : Sat (rw TB 1 v (bys into) * (B * F)) w) (h1 : into.length ≤ 35184372088832) (h2 : k + b.length ≤ 35184372088832) :
    Calls Try.prog 75 #[v, .int .i64 k, x] w fun e w' => ∃ v', e = .returned v' ∧ Sat (rw TB 1 v' (bys (laid into k b)) * (B * F)) w' := by
  obtain ⟨i0, E⟩ := elemB
  obtain ⟨va, vc, rfl, hvc, _⟩ := rw_vb hs
  obtain ⟨xa, xc, rfl, hxc, hxm⟩ := (hB _ _ (hs.take B)).len
  have hxm' : xc ≤ 9223372036854775807 := by simpa [maxLen] using hxm
  clear hxm
  go_enter Try.func75, Try.ntmps75
  go_wp2
  go_loopg [0] (k + b.length - into.length) (fun g t wr => ∃ (m : Nat) (a : Option Addr) (c : Nat), t = .slice a (into.length + m) c ∧ m ≤ k + b.length - into.length ∧ Aside (g = k + b.length - into.length - m) ∧
    Sat (rw TB 1 (.slice a (into.length + m) c) (bys (into ++ List.replicate m 0)) * (B * F)) wr)
  case atStart => exact ⟨0, va, vc, rfl, by omega, rfl, by simpa using hs⟩
  case round =>
    obtain ⟨m, a, c, rfl, hm, A, hsr⟩ := hrel
    clear hs
    by_cases hlt : into.length + m < k + b.length
    · have hs4 := hsr.alloc #[.int .u8 0] TB
      have hs5 := hs4.take (rw TB 1 (.slice a (into.length + m) c) (bys (into ++ List.replicate m 0)))
      have hsrc := Src.one_new (P := Try.prog) hs4 rfl
      clear hs4
      go_wp2_with (at_builtin; refine wpl_append_same E rfl (.tmp 14) (.tmp 15) rfl rfl rfl hs5 hsrc (by unfold maxLen; omega) (by omega) ?_; intro a' c' w' hs6 hnil; clear hnil hs5 hsrc)
      go_roundg (k + b.length - into.length - (m + 1))
      case measure => have := A.out; omega
      case rel =>
        refine ⟨m + 1, a', c', rfl, by omega, rfl, ?_⟩
        rw [List.replicate_succ', ← List.append_assoc, bys_append]
        refine Sat.weak (B := block wr.heap.size TB [.int .u8 0]) (hs6.eq ?_)
        show rw TB 1 _ (_ ++ [Value.int .u8 0]) * _ = _
        rw [show bys [(0 : UInt8)] = [Value.int .u8 0] from rfl]
        ac_rfl
    · have hge : ¬ ((into.length : Int) + m < k + b.length) := by omega
      obtain ⟨hac1, hac2⟩ : into.length + m ≤ c ∧ c ≤ 9223372036854775807 := by
        obtain ⟨_, _, _, h5, _, h7, h8⟩ := rw_v hsr
        cases h5
        exact ⟨h7, h8⟩
      have hm1 : m = k + b.length - into.length := by omega
      have HM : Aside (m = k + b.length - into.length) := hm1
      have hkm : k ≤ into.length + m := by omega
      have hx := hB _ _ (hsr.take B)
      clear hm1
      have hcut := at_from (P := Try.prog) E (a := a) (n := into.length + m) (c := c) k hkm
      obtain ⟨w6, hrun, hs6⟩ := run_copy_any (P := Try.prog) E 45 3 (lo := k) hsr hx (by omega)
      clear hsr hx
      go_wp2
      go_ret
      refine ⟨_, rfl, ?_⟩
      rw [laid_pad, ← HM.out, bys_append, bys_append, bys_take, bys_drop]
      exact hs6

end Go.Proofs.Ytjhkmmpgjiciiaa
