/-
  Walk of the document's answer for lines: Quoted.
  Walk of the document's answer for lines: Number.
-/
import Derived.Test.YtebhnbecjmdicaaGreatDoorScO
namespace Go.Sl
theorem Src.blk {P : Program} {w : World} {b e : Nat} {vs : List Value} {F : Assn} (hs : Sat (block b e vs * F) w) (h1 : ∀ u ∈ vs, u.oneCell' = true) : Src P 1 w (.slice (some ⟨b, 0, none⟩) vs.length vs.length) vs.length vs :=
  Src.slice (by simp) (fun j u hj => by
    have h7 : Sat (Sl.cells b 0 vs * (hdr b e vs.length * F)) w := hs.eq (by unfold block; ac_rfl)
    have h8 := h7.cells_at j u hj
    simpa using h8) h1
end Go.Sl
namespace Go.Proofs.YtebhnbecjmdicaaGreatDoor
set_option linter.unusedSimpArgs false
set_option linter.unusedVariables false
open Go.RowKit Go.Sl Go.Sc
attribute [local go_sem] Go.Sl.cell_sat Go.Sl.frozen_sat Go.Sc.str_toList Go.Sc.str_size Go.Sc.str_extract

theorem div_all : ∀ c : Fin 256, IntKind.u8.wrap ((c.val : Int) / 16) = (c.val : Int) / 16 := by decide +kernel
theorem conv_any (a : Option Addr) (n c : Nat) (l : Bs) (F : Assn) (w : World) (hs : Sat (rw TBy 1 (.slice a n c) (bys l) * F) w) (hl : l.length = n) (hn : 0 < n) : (convert 23 9 (.slice a n c)).run Tryz.prog w = .ok (.string (str l)) w := by
  subst hl
  have hb := Byt.rw hs
  obtain ⟨x, hx⟩ : ∃ x, l[0]? = some x := ⟨l[0], by simp⟩
  obtain ⟨b, o, rfl, _⟩ := hb.at hx
  exact run_convert_bytes_back w 23 9 5 ⟨b, o, none⟩ c l Tryz.underlying23 Tryz.underlying5 Tryz.underlying9 (fun j hj => by
    obtain ⟨b', o', e, h⟩ := hb.at (List.getElem?_eq_getElem hj)
    cases e
    rw [Addr.add_lit]
    exact h)

set_option maxRecDepth 100000 in
set_option maxHeartbeats 3200000 in
theorem refQuoted_any (v : Value) (o : Bs) (w : World) (hb : Byt w v o) (hl : o.length ≤ 1000000000) :
    Calls Tryz.prog 21 #[v] w fun e w' => e = .returned (.string (str (Go.Sc.quoted o))) ∧ Below w.heap.size w w' := by
  obtain ⟨va, vc, rfl, hc1, hc2⟩ := hb.len
  have HB : Aside (Byt w (.slice va o.length vc) o) := hb
  clear hb hc1 hc2
  obtain ⟨i0, E⟩ := elemBy
  have hs0 : Sat (rw TBy 1 (.slice (some ⟨w.heap.size, 0, none⟩) 1 1) (bys [34]) * old w) (w.alloc (.cells #[.int .u8 34] TBy)) := Sat.rw_shut (sp := []) rfl rfl (by omega) (by unfold maxLen; omega) ((Sat.old_self w).alloc #[.int .u8 34] TBy)
  haveI := (Sat.old_self w).i
  go_enter Tryz.func21, Tryz.ntmps21
  go_wp2
  go_loopg [3, 5] o.length (fun g t3 t5 wr => ∃ (i : Nat) (out : Bs) (a : Option Addr) (c : Nat), t3 = .slice a out.length c ∧ t5 = .int .i64 i ∧ i ≤ o.length ∧ Aside (g = o.length - i ∧ out = 34 :: (o.take i).flatMap qb) ∧ Sat (rw TBy 1 (.slice a out.length c) (bys out) * old w) wr)
  case atStart => exact ⟨0, [34], _, 1, rfl, rfl, by omega, ⟨rfl, rfl⟩, hs0⟩
  case round =>
    obtain ⟨i, out, a, c, rfl, rfl, hi, A, hsr⟩ := hrel
    clear hs0
    haveI := hsr.i
    have hol : out.length ≤ 4000000001 := by
      rw [A.out.2]
      have := out_len o i
      omega
    by_cases hlt : i < o.length
    · have hlt' : (i : Int) < o.length := by omega
      obtain ⟨x, hx⟩ : ∃ x, o[i]? = some x := ⟨o[i], by simp [hlt]⟩
      obtain ⟨b0, o0, rfl, hc⟩ := HB.out.at hx
      haveI : OldAt w b0 (o0 + i) (.int .u8 x.toNat) := ⟨hc⟩
      have HN : Aside ((34 : UInt8) :: (o.take (i + 1)).flatMap qb = out ++ qb x) := by rw [A.out.2]; exact out_next hx
      have HX : Aside (x.toNat < 256) := x.toNat_lt
      clear hx hc
      by_cases x1 : x = 34 ∨ x = 92
      · rcases x1 with rfl | rfl
        · have hq : qb 34 = [92, 34] := rfl
          rw [hq] at HN
          clear hq
          go_wp2_with (at_builtin; refine wpl_append_same E rfl (.tmp 33) (.tmp 38) rfl rfl rfl (takeI (rw TBy 1 (.slice a out.length c) (bys out))) (Src.blk (P := Tryz.prog) (vs := [.int .u8 92, .int .u8 34]) (takeI (Sl.block wr.heap.size TBy [.int .u8 92, .int .u8 34])) (by simp [Value.oneCell'])) (by unfold maxLen; simp; omega) (by simp; omega) ?_; intro a4 c4 w4 hs4 hnn; clear hnn; simp only [List.length_cons, List.length_nil, Nat.zero_add, Nat.reduceAdd] at hs4 ⊢; haveI := hs4.i)
          go_wp2
          go_roundg (o.length - (i + 1))
          case measure => have := A.out.1; omega
          case rel => exact ⟨i + 1, out ++ [92, 34], a4, c4, by simp, by go_num, by omega, ⟨rfl, HN.out.symm⟩, satI_weak (C := Sl.block wr.heap.size TBy [.int .u8 92, .int .u8 34]) (by rw [bys_append, List.length_append]; show _ = rw TBy 1 (.slice a4 (out.length + 2) c4) (bys out ++ [.int .u8 92, .int .u8 34]) * _ * _; ac_rfl)⟩
        · have hq : qb 92 = [92, 92] := rfl
          rw [hq] at HN
          clear hq
          go_wp2_with (at_builtin; refine wpl_append_same E rfl (.tmp 33) (.tmp 38) rfl rfl rfl (takeI (rw TBy 1 (.slice a out.length c) (bys out))) (Src.blk (P := Tryz.prog) (vs := [.int .u8 92, .int .u8 92]) (takeI (Sl.block wr.heap.size TBy [.int .u8 92, .int .u8 92])) (by simp [Value.oneCell'])) (by unfold maxLen; simp; omega) (by simp; omega) ?_; intro a4 c4 w4 hs4 hnn; clear hnn; simp only [List.length_cons, List.length_nil, Nat.zero_add, Nat.reduceAdd] at hs4 ⊢; haveI := hs4.i)
          go_wp2
          go_roundg (o.length - (i + 1))
          case measure => have := A.out.1; omega
          case rel => exact ⟨i + 1, out ++ [92, 92], a4, c4, by simp, by go_num, by omega, ⟨rfl, HN.out.symm⟩, satI_weak (C := Sl.block wr.heap.size TBy [.int .u8 92, .int .u8 92]) (by rw [bys_append, List.length_append]; show _ = rw TBy 1 (.slice a4 (out.length + 2) c4) (bys out ++ [.int .u8 92, .int .u8 92]) * _ * _; ac_rfl)⟩
      · have hq1 : ¬ (x.toNat : Int) = 34 ∧ ¬ (x.toNat : Int) = 92 := by
          refine ⟨fun h => x1 (.inl (UInt8.toNat_inj.mp (by simpa using (by omega : x.toNat = 34)))), fun h => x1 (.inr (UInt8.toNat_inj.mp (by simpa using (by omega : x.toNat = 92))))⟩
        obtain ⟨q1, q2⟩ := hq1
        have b1 : ((x.toNat : Int) == 34) = false := by simpa using q1
        have b2 : ((x.toNat : Int) == 92) = false := by simpa using q2
        by_cases x2 : x = 10
        · have hq : qb x = [92, 110] := by unfold qb; rw [if_neg x1, if_pos x2]
          have x2' : (x.toNat : Int) = 10 := by subst x2; rfl
          rw [hq] at HN
          clear x1 x2 hq
          go_wp2_with (at_builtin; refine wpl_append_same E rfl (.tmp 46) (.tmp 47) rfl rfl rfl (takeI (rw TBy 1 (.slice a out.length c) (bys out))) (Src.blk (P := Tryz.prog) (vs := [.int .u8 92, .int .u8 110]) (takeI (Sl.block wr.heap.size TBy [.int .u8 92, .int .u8 110])) (by simp [Value.oneCell'])) (by unfold maxLen; simp; omega) (by simp; omega) ?_; intro a4 c4 w4 hs4 hnn; clear hnn; simp only [List.length_cons, List.length_nil, Nat.zero_add, Nat.reduceAdd] at hs4 ⊢; haveI := hs4.i)
          go_wp2
          go_roundg (o.length - (i + 1))
          case measure => have := A.out.1; omega
          case rel => exact ⟨i + 1, out ++ [92, 110], a4, c4, by simp, by go_num, by omega, ⟨rfl, HN.out.symm⟩, satI_weak (C := Sl.block wr.heap.size TBy [.int .u8 92, .int .u8 110]) (by rw [bys_append, List.length_append]; show _ = rw TBy 1 (.slice a4 (out.length + 2) c4) (bys out ++ [.int .u8 92, .int .u8 110]) * _ * _; ac_rfl)⟩
        · have q3 : ¬ (x.toNat : Int) = 10 := fun h => x2 (UInt8.toNat_inj.mp (by simpa using (by omega : x.toNat = 10)))
          have b3 : ((x.toNat : Int) == 10) = false := by simpa using q3
          by_cases x3 : x.toNat < 32 ∨ 126 < x.toNat
          · have hq : qb x = [92, 120, hexd (x.toNat / 16), hexd (x.toNat % 16)] := by unfold qb; rw [if_neg x1, if_neg x2, if_pos x3]
            have x3' : (x.toNat : Int) < 32 ∨ ((126 : Int) < x.toNat ∧ ¬ (x.toNat : Int) < 32) := by omega
            rw [hq] at HN
            clear x1 x2 x3 hq
            have g1 : (x.toNat : Int) / 16 < 16 := by have := HX.out; omega
            have g0 : 0 ≤ (x.toNat : Int) / 16 := by omega
            have g3 : (x.toNat : Int) % 16 < 16 := by omega
            have g2 : 0 ≤ (x.toNat : Int) % 16 := by omega
            have g8 : (x.toNat : Int) ≤ 255 := by have := HX.out; omega
            have e1 := div_all ⟨x.toNat, HX.out⟩
            have tm : (x.toNat : Int).tmod 16 = (x.toNat : Int) % 16 := Int.tmod_eq_emod_of_nonneg (by omega)
            simp only at e1
            have en1 : ((x.toNat : Int) / 16).toNat = x.toNat / 16 := by omega
            have en2 : ((x.toNat : Int) % 16).toNat = x.toNat % 16 := by omega
            have d1 : ∀ h, (⟨#[48, 49, 50, 51, 52, 53, 54, 55, 56, 57, 97, 98, 99, 100, 101, 102]⟩ : ByteArray)[((x.toNat : Int) / 16).toNat]'h = hexd (x.toNat / 16) := fun h => by
              simp only [en1]
              exact dig_get _ (by have := HX.out; omega) _
            have d2 : ∀ h, (⟨#[48, 49, 50, 51, 52, 53, 54, 55, 56, 57, 97, 98, 99, 100, 101, 102]⟩ : ByteArray)[((x.toNat : Int) % 16).toNat]'h = hexd (x.toNat % 16) := fun h => by
              simp only [en2]
              exact dig_get _ (by omega) _
            clear en1 en2
            rcases x3' with x3' | ⟨x3', x4'⟩
            · go_upto_region 12 with (fail)
              go_region_law first
                | (refine step_append_sl E rfl (.tmp 62) (.tmp 77) rfl rfl rfl (takeI (rw TBy 1 (.slice a out.length c) (bys out))) (Src.blk (P := Tryz.prog) (vs := [.int .u8 92, .int .u8 120, .int .u8 (hexd (x.toNat / 16)).toNat, .int .u8 (hexd (x.toNat % 16)).toNat]) (takeI (Sl.block wr.heap.size TBy [.int .u8 92, .int .u8 120, .int .u8 (hexd (x.toNat / 16)).toNat, .int .u8 (hexd (x.toNat % 16)).toNat])) (by simp [Value.oneCell'])) (by unfold maxLen; simp; omega) (by simp; omega) ?_; intro a4 c4 w4 hs4 hnn; clear hnn; simp only [List.length_cons, List.length_nil, Nat.zero_add, Nat.reduceAdd] at hs4 ⊢; haveI := hs4.i)
              all_goals
                clear d1 d2 tm e1 g0 g1 g2 g3
                go_wp2
                go_roundg (o.length - (i + 1))
                case measure => have := A.out.1; omega
                case rel => exact ⟨i + 1, out ++ [92, 120, hexd (x.toNat / 16), hexd (x.toNat % 16)], a4, c4, by simp, by go_num, by omega, ⟨rfl, HN.out.symm⟩, satI_weak (C := Sl.block wr.heap.size TBy [.int .u8 92, .int .u8 120, .int .u8 (hexd (x.toNat / 16)).toNat, .int .u8 (hexd (x.toNat % 16)).toNat]) (by rw [bys_append, List.length_append]; show _ = rw TBy 1 (.slice a4 (out.length + 4) c4) (bys out ++ [.int .u8 92, .int .u8 120, .int .u8 (hexd (x.toNat / 16)).toNat, .int .u8 (hexd (x.toNat % 16)).toNat]) * _ * _; ac_rfl)⟩
            · go_upto_region 12 with (fail)
              go_region_law first
                | (refine step_append_sl E rfl (.tmp 62) (.tmp 77) rfl rfl rfl (takeI (rw TBy 1 (.slice a out.length c) (bys out))) (Src.blk (P := Tryz.prog) (vs := [.int .u8 92, .int .u8 120, .int .u8 (hexd (x.toNat / 16)).toNat, .int .u8 (hexd (x.toNat % 16)).toNat]) (takeI (Sl.block wr.heap.size TBy [.int .u8 92, .int .u8 120, .int .u8 (hexd (x.toNat / 16)).toNat, .int .u8 (hexd (x.toNat % 16)).toNat])) (by simp [Value.oneCell'])) (by unfold maxLen; simp; omega) (by simp; omega) ?_; intro a4 c4 w4 hs4 hnn; clear hnn; simp only [List.length_cons, List.length_nil, Nat.zero_add, Nat.reduceAdd] at hs4 ⊢; haveI := hs4.i)
              all_goals
                clear d1 d2 tm e1 g0 g1 g2 g3
                go_wp2
                go_roundg (o.length - (i + 1))
                case measure => have := A.out.1; omega
                case rel => exact ⟨i + 1, out ++ [92, 120, hexd (x.toNat / 16), hexd (x.toNat % 16)], a4, c4, by simp, by go_num, by omega, ⟨rfl, HN.out.symm⟩, satI_weak (C := Sl.block wr.heap.size TBy [.int .u8 92, .int .u8 120, .int .u8 (hexd (x.toNat / 16)).toNat, .int .u8 (hexd (x.toNat % 16)).toNat]) (by rw [bys_append, List.length_append]; show _ = rw TBy 1 (.slice a4 (out.length + 4) c4) (bys out ++ [.int .u8 92, .int .u8 120, .int .u8 (hexd (x.toNat / 16)).toNat, .int .u8 (hexd (x.toNat % 16)).toNat]) * _ * _; ac_rfl)⟩
          · have hq : qb x = [x] := by unfold qb; rw [if_neg x1, if_neg x2, if_neg x3]
            have x3' : ¬ (x.toNat : Int) < 32 := by omega
            have x4' : ¬ (126 : Int) < x.toNat := by omega
            rw [hq] at HN
            clear x1 x2 x3 hq
            go_wp2_with (at_builtin; refine wpl_append_same E rfl (.tmp 13) (.tmp 18) rfl rfl rfl (takeI (rw TBy 1 (.slice a out.length c) (bys out))) (Src.blk (P := Tryz.prog) (vs := [.int .u8 x.toNat]) (takeI (Sl.block wr.heap.size TBy [.int .u8 x.toNat])) (by simp [Value.oneCell'])) (by unfold maxLen; simp; omega) (by simp; omega) ?_; intro a4 c4 w4 hs4 hnn; clear hnn; simp only [List.length_cons, List.length_nil, Nat.zero_add, Nat.reduceAdd] at hs4 ⊢; haveI := hs4.i)
            go_wp2
            go_roundg (o.length - (i + 1))
            case measure => have := A.out.1; omega
            case rel => exact ⟨i + 1, out ++ [x], a4, c4, by simp, by go_num, by omega, ⟨rfl, HN.out.symm⟩, satI_weak (C := Sl.block wr.heap.size TBy [.int .u8 x.toNat]) (by rw [bys_append, List.length_append]; show _ = rw TBy 1 (.slice a4 (out.length + 1) c4) (bys out ++ [.int .u8 x.toNat]) * _ * _; ac_rfl)⟩
    · have hlt' : ¬ (i : Int) < o.length := by omega
      have HQ : Aside (out ++ [34] = Go.Sc.quoted o) := (by rw [A.out.2, List.take_of_length_le (by omega)]; rfl : _ = _)
      go_wp2_with (at_builtin; refine wpl_append_same E rfl (.tmp 79) (.tmp 80) rfl rfl rfl (takeI (rw TBy 1 (.slice a out.length c) (bys out))) (Src.blk (P := Tryz.prog) (vs := [.int .u8 34]) (takeI (Sl.block wr.heap.size TBy [.int .u8 34])) (by simp [Value.oneCell'])) (by unfold maxLen; simp; omega) (by simp; omega) ?_; intro a4 c4 w4 hs4 hnn; clear hnn; have hs5 : Sat (rw TBy 1 (.slice a4 (out.length + 1) c4) (bys (out ++ [34])) * _) w4 := (by rw [bys_append]; exact hs4); have hcv := conv_any a4 (out.length + 1) c4 (out ++ [34]) _ w4 hs5 (by simp) (by omega); haveI := hs5.i; simp only [List.length_cons, List.length_nil, Nat.zero_add])
      go_wp2
      go_ret
      exact ⟨by rw [HQ.out]; rfl, (takeI (old w)).old_below⟩
end Go.Proofs.YtebhnbecjmdicaaGreatDoor

namespace Go.Sc
open Go.Lib
def digs : Bs := [48, 49, 50, 51, 52, 53, 54, 55, 56, 57]
theorem lit10 : (⟨#[48, 49, 50, 51, 52, 53, 54, 55, 56, 57]⟩ : ByteArray) = str digs := rfl
theorem digs_at (d : Nat) (h : d < 10) : (digs.drop d).take 1 = [UInt8.ofNat (48 + d)] := by
  have := (by decide +kernel : ∀ d : Fin 10, (digs.drop d.val).take 1 = [UInt8.ofNat (48 + d.val)]) ⟨d, h⟩
  exact this
/-- what is still to be written, with what is -/
def todo (u : Nat) (s : Bs) : Bs := (if u = 0 ∧ s ≠ [] then [] else decDigits u) ++ s
theorem todo_step (u : Nat) (s : Bs) (h : u ≠ 0 ∨ s = []) : todo u s = todo (u / 10) (UInt8.ofNat (48 + u % 10) :: s) := by
  unfold todo
  rw [if_neg (by rintro ⟨h1, h2⟩; rcases h with h | h; exact h h1; exact h2 h)]
  by_cases h10 : u < 10
  · rw [decDigits, dif_pos h10, if_pos ⟨by omega, by simp⟩, show u % 10 = u by omega]
    rfl
  · conv => lhs; rw [decDigits, dif_neg h10]
    rw [if_neg (by rintro ⟨h1, _⟩; omega)]
    simp
theorem todo_end (s : Bs) (h : s ≠ []) : todo 0 s = s := by
  unfold todo
  rw [if_pos ⟨rfl, h⟩]
  rfl
theorem todo_start (u : Nat) : todo u [] = decDigits u := by
  unfold todo
  rw [if_neg (by rintro ⟨_, h⟩; exact h rfl)]
  simp
theorem add45 (x : Bs) : (⟨#[45]⟩ : ByteArray) ++ str x = str (45 :: x) := str_append [45] x
theorem sz45 : (⟨#[45]⟩ : ByteArray).size = 1 := rfl
end Go.Sc
namespace Go.Proofs.YtebhnbecjmdicaaGreatDoor
set_option linter.unusedSimpArgs false
set_option linter.unusedVariables false
open Go.RowKit Go.Sl Go.Sc
attribute [local go_sem] Go.Sl.cell_sat Go.Sl.frozen_sat Go.Sc.str_toList Go.Sc.str_size Go.Sc.str_extract Go.Sc.str_append Go.Sc.add45 Go.Sc.sz45 Go.Sc.lit10

set_option maxHeartbeats 1600000 in
theorem refNum_any (n : Int) (h0 : -999999999999999999 ≤ n) (h1 : n ≤ 999999999999999999) (w : World) : Calls Tryz.prog 19 #[.int .i64 n] w fun e w' => e = .returned (.string (str (Lib.itoa n))) ∧ w' = w := by
  obtain ⟨q, hq⟩ : ∃ q, Lib.itoa n = q := ⟨_, rfl⟩
  rw [hq]
  have hdl : digs.length = 10 := rfl
  by_cases hn : n < 0
  · have HQ : Aside (q = 45 :: Lib.decDigits n.natAbs) := by
      rw [← hq]
      unfold Lib.itoa
      rw [if_pos hn]
      exact (rfl : _ = _)
    clear hq
    go_enter Tryz.func19, Tryz.ntmps19
    go_wp2
    go_loopg [3, 4] (n.natAbs + 1) (fun g t3 t4 wr => ∃ (u : Nat) (s : Bs) (m : Int), t3 = .string (str s) ∧ t4 = .int .i64 m ∧ s.length ≤ 30 ∧ Aside (m = -(u : Int) ∧ g = u + (if s = [] then 1 else 0) ∧ u ≤ 999999999999999999 ∧ s.length + (if u = 0 then 0 else Lib.nDigits u) ≤ 20 ∧ todo u s = Lib.decDigits n.natAbs) ∧ wr = w)
    case atStart =>
      have hl := digits_len18 n.natAbs (by omega)
      rw [Lib.decDigits_length] at hl
      exact ⟨n.natAbs, [], n, rfl, rfl, by simp, ⟨by omega, rfl, by omega, by simp only [List.length_nil]; split <;> omega, todo_start _⟩, rfl⟩
    case round =>
      obtain ⟨u, s, m, rfl, rfl, hs, A, rfl⟩ := hrel
      have hm := A.out.1
      have hu := A.out.2.2.1
      by_cases hgo : u ≠ 0 ∨ s = []
      · have hst := todo_step u s hgo
        have hlen : (UInt8.ofNat (48 + u % 10) :: s).length + (if u / 10 = 0 then 0 else Lib.nDigits (u / 10)) ≤ 20 := by
          have h := A.out.2.2.2.1
          rw [List.length_cons]
          by_cases u10 : u < 10
          · rw [if_pos (by omega)]
            by_cases u0 : u = 0
            · rw [if_pos u0] at h; rcases hgo with g | g; exact absurd u0 g; rw [g]; simp
            · rw [if_neg u0, Lib.nDigits_small u10] at h; omega
          · rw [if_neg (by omega)]
            rw [if_neg (by omega), Lib.nDigits_big u10] at h
            omega
        have hc : (m != 0) = true ∨ ((m != 0) = false ∧ s = []) := by
          by_cases h : m = 0
          · refine .inr ⟨by simp [h], ?_⟩
            rcases hgo with g | g
            · exact absurd (by omega) g
            · exact g
          · exact .inl (by simpa using h)
        obtain ⟨d, hd⟩ : ∃ d, u % 10 = d := ⟨_, rfl⟩
        have hd9 : d < 10 := by omega
        have hdg := digs_at d hd9
        have hr : m.tmod 10 = -(d : Int) := by rw [hm, Int.neg_tmod, Int.tmod_eq_emod_of_nonneg (by omega)]; omega
        have hqo : m.tdiv 10 = -((u / 10 : Nat) : Int) := by rw [hm, Int.neg_tdiv, Int.tdiv_eq_ediv_of_nonneg (by omega)]; omega
        rw [hd] at hst hlen
        have HN : Aside (todo (u / 10) (UInt8.ofNat (48 + d) :: s) = Lib.decDigits n.natAbs ∧ (UInt8.ofNat (48 + d) :: s).length + (if u / 10 = 0 then 0 else Lib.nDigits (u / 10)) ≤ 20 ∧ u / 10 < u + (if s = [] then 1 else 0)) := ⟨hst.symm.trans A.out.2.2.2.2, hlen, by rcases hgo with g | g; omega; rw [if_pos g]; omega⟩
        have hs2 : s.length ≤ 19 := by have := HN.out.2.1; rw [List.length_cons] at this; omega
        have d0 : (0 : Int) ≤ d := by omega
        have d1 : (d : Int) < 10 := by omega
        have d2 : (d : Int) + 1 ≤ 10 := by omega
        clear hst hlen hgo hd hm
        rcases hc with hc | ⟨hc, rfl⟩
        · by_cases hd0 : d = 0
          · subst hd0
            go_wp2
            go_roundg (u / 10 + 0)
            case measure => have := HN.out.2.2; have := A.out.2.1; omega
            case rel => exact ⟨u / 10, UInt8.ofNat (48 + 0) :: s, -((u / 10 : Nat) : Int), by first | rfl | (simp; done) | (simp; rfl), by first | rfl | (congr 1; done) | go_num, by first | (simp; done) | (simp; omega), ⟨rfl, by simp, by omega, HN.out.2.1, HN.out.1⟩, rfl⟩
          · have dn : -(d : Int) < 0 := by omega
            go_wp2
            go_roundg (u / 10 + 0)
            case measure => have := HN.out.2.2; have := A.out.2.1; omega
            case rel => exact ⟨u / 10, UInt8.ofNat (48 + d) :: s, -((u / 10 : Nat) : Int), by first | rfl | (simp; done) | (simp; rfl), by first | rfl | (congr 1; done) | go_num, by first | (simp; done) | (simp; omega), ⟨rfl, by simp, by omega, HN.out.2.1, HN.out.1⟩, rfl⟩
        · by_cases hd0 : d = 0
          · subst hd0
            go_wp2
            go_roundg (u / 10 + 0)
            case measure => have := HN.out.2.2; have := A.out.2.1; omega
            case rel => exact ⟨u / 10, UInt8.ofNat (48 + 0) :: ([] : Bs), -((u / 10 : Nat) : Int), by first | rfl | (simp; done) | (simp; rfl), by first | rfl | (congr 1; done) | go_num, by first | (simp; done) | (simp; omega), ⟨rfl, by simp, by omega, HN.out.2.1, HN.out.1⟩, rfl⟩
          · have dn : -(d : Int) < 0 := by omega
            go_wp2
            go_roundg (u / 10 + 0)
            case measure => have := HN.out.2.2; have := A.out.2.1; omega
            case rel => exact ⟨u / 10, UInt8.ofNat (48 + d) :: ([] : Bs), -((u / 10 : Nat) : Int), by first | rfl | (simp; done) | (simp; rfl), by first | rfl | (congr 1; done) | go_num, by first | (simp; done) | (simp; omega), ⟨rfl, by simp, by omega, HN.out.2.1, HN.out.1⟩, rfl⟩
      · simp only [not_or, Decidable.not_not] at hgo
        obtain ⟨rfl, hse⟩ := hgo
        have HE : Aside (s = Lib.decDigits n.natAbs) := by rw [← A.out.2.2.2.2, todo_end s hse]; exact (rfl : _ = _)
        have bse : (s == []) = false := by simpa using hse
        obtain rfl : m = 0 := by omega
        have hs3 : (1 : Int) + s.length ≤ 9223372036854775807 := by omega
        have hs4 : 1 + s.length ≤ 9223372036854775807 := by omega
        clear hse hm hu
        go_wp2
        go_ret
        exact ⟨by rw [HQ.out, ← HE.out]; rfl, rfl⟩
  · have HQ : Aside (q = Lib.decDigits n.toNat) := by
      rw [← hq]
      unfold Lib.itoa
      rw [if_neg hn]
      exact (rfl : _ = _)
    clear hq
    have hn' : 0 ≤ n := by omega
    go_enter Tryz.func19, Tryz.ntmps19
    go_wp2
    go_loopg [3, 4] (n.toNat + 1) (fun g t3 t4 wr => ∃ (u : Nat) (s : Bs) (m : Int), t3 = .string (str s) ∧ t4 = .int .i64 m ∧ s.length ≤ 30 ∧ Aside (m = (u : Int) ∧ g = u + (if s = [] then 1 else 0) ∧ u ≤ 999999999999999999 ∧ s.length + (if u = 0 then 0 else Lib.nDigits u) ≤ 20 ∧ todo u s = Lib.decDigits n.toNat) ∧ wr = w)
    case atStart =>
      have hl := digits_len18 n.toNat (by omega)
      rw [Lib.decDigits_length] at hl
      exact ⟨n.toNat, [], n, rfl, rfl, by simp, ⟨by omega, rfl, by omega, by simp only [List.length_nil]; split <;> omega, todo_start _⟩, rfl⟩
    case round =>
      obtain ⟨u, s, m, rfl, rfl, hs, A, rfl⟩ := hrel
      have hm := A.out.1
      have hu := A.out.2.2.1
      by_cases hgo : u ≠ 0 ∨ s = []
      · have hst := todo_step u s hgo
        have hlen : (UInt8.ofNat (48 + u % 10) :: s).length + (if u / 10 = 0 then 0 else Lib.nDigits (u / 10)) ≤ 20 := by
          have h := A.out.2.2.2.1
          rw [List.length_cons]
          by_cases u10 : u < 10
          · rw [if_pos (by omega)]
            by_cases u0 : u = 0
            · rw [if_pos u0] at h; rcases hgo with g | g; exact absurd u0 g; rw [g]; simp
            · rw [if_neg u0, Lib.nDigits_small u10] at h; omega
          · rw [if_neg (by omega)]
            rw [if_neg (by omega), Lib.nDigits_big u10] at h
            omega
        have hc : (m != 0) = true ∨ ((m != 0) = false ∧ s = []) := by
          by_cases h : m = 0
          · refine .inr ⟨by simp [h], ?_⟩
            rcases hgo with g | g
            · exact absurd (by omega) g
            · exact g
          · exact .inl (by simpa using h)
        obtain ⟨d, hd⟩ : ∃ d, u % 10 = d := ⟨_, rfl⟩
        have hd9 : d < 10 := by omega
        have hdg := digs_at d hd9
        have hr : m.tmod 10 = (d : Int) := by rw [hm, Int.tmod_eq_emod_of_nonneg (by omega)]; omega
        have hqo : m.tdiv 10 = ((u / 10 : Nat) : Int) := by rw [hm, Int.tdiv_eq_ediv_of_nonneg (by omega)]; omega
        rw [hd] at hst hlen
        have HN : Aside (todo (u / 10) (UInt8.ofNat (48 + d) :: s) = Lib.decDigits n.toNat ∧ (UInt8.ofNat (48 + d) :: s).length + (if u / 10 = 0 then 0 else Lib.nDigits (u / 10)) ≤ 20 ∧ u / 10 < u + (if s = [] then 1 else 0)) := ⟨hst.symm.trans A.out.2.2.2.2, hlen, by rcases hgo with g | g; omega; rw [if_pos g]; omega⟩
        have hs2 : s.length ≤ 19 := by have := HN.out.2.1; rw [List.length_cons] at this; omega
        have d0 : (0 : Int) ≤ d := by omega
        have d1 : (d : Int) < 10 := by omega
        have d2 : (d : Int) + 1 ≤ 10 := by omega
        clear hst hlen hgo hd hm
        rcases hc with hc | ⟨hc, rfl⟩
        · go_wp2
          go_roundg (u / 10 + 0)
          case measure => have := HN.out.2.2; have := A.out.2.1; omega
          case rel => exact ⟨u / 10, UInt8.ofNat (48 + d) :: s, ((u / 10 : Nat) : Int), by first | rfl | (simp; done) | (simp; rfl), by first | rfl | (congr 1; done) | go_num, by first | (simp; done) | (simp; omega), ⟨rfl, by simp, by omega, HN.out.2.1, HN.out.1⟩, rfl⟩
        · go_wp2
          go_roundg (u / 10 + 0)
          case measure => have := HN.out.2.2; have := A.out.2.1; omega
          case rel => exact ⟨u / 10, UInt8.ofNat (48 + d) :: ([] : Bs), ((u / 10 : Nat) : Int), by first | rfl | (simp; done) | (simp; rfl), by first | rfl | (congr 1; done) | go_num, by first | (simp; done) | (simp; omega), ⟨rfl, by simp, by omega, HN.out.2.1, HN.out.1⟩, rfl⟩
      · simp only [not_or, Decidable.not_not] at hgo
        obtain ⟨rfl, hse⟩ := hgo
        have HE : Aside (s = Lib.decDigits n.toNat) := by rw [← A.out.2.2.2.2, todo_end s hse]; exact (rfl : _ = _)
        have bse : (s == []) = false := by simpa using hse
        obtain rfl : m = 0 := by omega
        have hs3 : (1 : Int) + s.length ≤ 9223372036854775807 := by omega
        have hs4 : 1 + s.length ≤ 9223372036854775807 := by omega
        clear hse hm hu
        go_wp2
        go_ret
        exact ⟨by rw [HQ.out, ← HE.out]; rfl, rfl⟩
end Go.Proofs.YtebhnbecjmdicaaGreatDoor
