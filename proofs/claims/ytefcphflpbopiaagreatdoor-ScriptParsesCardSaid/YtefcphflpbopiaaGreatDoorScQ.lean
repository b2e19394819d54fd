/-
  Walk of the document's answer for lines: Quoted.
  Walk of the document's answer for lines: Unquoted.
-/
import Derived.Test.YtefcphflpbopiaaGreatDoorScO
namespace Go.Sl
theorem Src.blk {P : Program} {w : World} {b e : Nat} {vs : List Value} {F : Assn} (hs : Sat (block b e vs * F) w) (h1 : ∀ u ∈ vs, u.oneCell' = true) : Src P 1 w (.slice (some ⟨b, 0, none⟩) vs.length vs.length) vs.length vs :=
  Src.slice (by simp) (fun j u hj => by
    have h7 : Sat (Sl.cells b 0 vs * (hdr b e vs.length * F)) w := hs.eq (by unfold block; ac_rfl)
    have h8 := h7.cells_at j u hj
    simpa using h8) h1
end Go.Sl
namespace Go.Proofs.YtefcphflpbopiaaGreatDoor
set_option linter.unusedSimpArgs false
set_option linter.unusedVariables false
open Go.RowKit Go.Sl Go.Sc
attribute [local go_sem] Go.Sl.cell_sat Go.Sl.frozen_sat Go.Sc.str_toList Go.Sc.str_size Go.Sc.str_extract

theorem div_all : ∀ c : Fin 256, IntKind.u8.wrap ((c.val : Int) / 16) = (c.val : Int) / 16 := by decide +kernel
theorem conv_any (a : Option Addr) (n c : Nat) (l : Bs) (F : Assn) (w : World) (hs : Sat (rw TBy 1 (.slice a n c) (bys l) * F) w) (hl : l.length = n) (hn : 0 < n) : (convert 24 9 (.slice a n c)).run Tryz.prog w = .ok (.string (str l)) w := by
  subst hl
  have hb := Byt.rw hs
  obtain ⟨x, hx⟩ : ∃ x, l[0]? = some x := ⟨l[0], by simp⟩
  obtain ⟨b, o, rfl, _⟩ := hb.at hx
  exact run_convert_bytes_back w 24 9 5 ⟨b, o, none⟩ c l Tryz.underlying24 Tryz.underlying5 Tryz.underlying9 (fun j hj => by
    obtain ⟨b', o', e, h⟩ := hb.at (List.getElem?_eq_getElem hj)
    cases e
    rw [Addr.add_lit]
    exact h)

set_option maxRecDepth 100000 in
set_option maxHeartbeats 3200000 in
theorem refQuoted_any (v : Value) (o : Bs) (w : World) (hb : Byt w v o) (hl : o.length ≤ 1000000000) :
    Calls Tryz.prog 35 #[v] w fun e w' => e = .returned (.string (str (Go.Sc.quoted o))) ∧ Below w.heap.size w w' := by
  obtain ⟨va, vc, rfl, hc1, hc2⟩ := hb.len
  have HB : Aside (Byt w (.slice va o.length vc) o) := hb
  clear hb hc1 hc2
  obtain ⟨i0, E⟩ := elemBy
  have hs0 : Sat (rw TBy 1 (.slice (some ⟨w.heap.size, 0, none⟩) 1 1) (bys [34]) * old w) (w.alloc (.cells #[.int .u8 34] TBy)) := Sat.rw_shut (sp := []) rfl rfl (by omega) (by unfold maxLen; omega) ((Sat.old_self w).alloc #[.int .u8 34] TBy)
  haveI := (Sat.old_self w).i
  go_enter Tryz.func35, Tryz.ntmps35
  go_wp2
  go_loopg [3, 5] o.length (fun g t3 t5 wr => ∃ (i : Nat) (out : Bs) (a : Option Addr) (c : Nat), t3 = .slice a out.length c ∧ t5 = .int .i64 i ∧ i ≤ o.length ∧ Aside (g = o.length - i ∧ out = 34 :: (o.take i).flatMap qb) ∧ Sat (rw TBy 1 (.slice a out.length c) (bys out) * old w) wr)
  case atStart => exact ⟨0, [34], _, 1, rfl, rfl, by omega, ⟨rfl, rfl⟩, hs0⟩
  case round =>
    obtain ⟨i, out, a, c, rfl, rfl, hi, A, hsr⟩ := hrel
    clear hs0
    haveI := hsr.i
    have hol : out.length ≤ 4000000001 := by
      rw [A.out.2]
      have := out_len o i
      omega
    by_cases hlt : i < o.length
    · have hlt' : (i : Int) < o.length := by omega
      obtain ⟨x, hx⟩ : ∃ x, o[i]? = some x := ⟨o[i], by simp [hlt]⟩
      obtain ⟨b0, o0, rfl, hc⟩ := HB.out.at hx
      haveI : OldAt w b0 (o0 + i) (.int .u8 x.toNat) := ⟨hc⟩
      have HN : Aside ((34 : UInt8) :: (o.take (i + 1)).flatMap qb = out ++ qb x) := by rw [A.out.2]; exact out_next hx
      have HX : Aside (x.toNat < 256) := x.toNat_lt
      clear hx hc
      by_cases x1 : x = 34 ∨ x = 92
      · rcases x1 with rfl | rfl
        · have hq : qb 34 = [92, 34] := rfl
          rw [hq] at HN
          clear hq
          go_wp2_with (at_builtin; refine wpl_append_same E rfl (.tmp 33) (.tmp 38) rfl rfl rfl (takeI (rw TBy 1 (.slice a out.length c) (bys out))) (Src.blk (P := Tryz.prog) (vs := [.int .u8 92, .int .u8 34]) (takeI (Sl.block wr.heap.size TBy [.int .u8 92, .int .u8 34])) (by simp [Value.oneCell'])) (by unfold maxLen; simp; omega) (by simp; omega) ?_; intro a4 c4 w4 hs4 hnn; clear hnn; simp only [List.length_cons, List.length_nil, Nat.zero_add, Nat.reduceAdd] at hs4 ⊢; haveI := hs4.i)
          go_wp2
          go_roundg (o.length - (i + 1))
          case measure => have := A.out.1; omega
          case rel => exact ⟨i + 1, out ++ [92, 34], a4, c4, by simp, by go_num, by omega, ⟨rfl, HN.out.symm⟩, satI_weak (C := Sl.block wr.heap.size TBy [.int .u8 92, .int .u8 34]) (by rw [bys_append, List.length_append]; show _ = rw TBy 1 (.slice a4 (out.length + 2) c4) (bys out ++ [.int .u8 92, .int .u8 34]) * _ * _; ac_rfl)⟩
        · have hq : qb 92 = [92, 92] := rfl
          rw [hq] at HN
          clear hq
          go_wp2_with (at_builtin; refine wpl_append_same E rfl (.tmp 33) (.tmp 38) rfl rfl rfl (takeI (rw TBy 1 (.slice a out.length c) (bys out))) (Src.blk (P := Tryz.prog) (vs := [.int .u8 92, .int .u8 92]) (takeI (Sl.block wr.heap.size TBy [.int .u8 92, .int .u8 92])) (by simp [Value.oneCell'])) (by unfold maxLen; simp; omega) (by simp; omega) ?_; intro a4 c4 w4 hs4 hnn; clear hnn; simp only [List.length_cons, List.length_nil, Nat.zero_add, Nat.reduceAdd] at hs4 ⊢; haveI := hs4.i)
          go_wp2
          go_roundg (o.length - (i + 1))
          case measure => have := A.out.1; omega
          case rel => exact ⟨i + 1, out ++ [92, 92], a4, c4, by simp, by go_num, by omega, ⟨rfl, HN.out.symm⟩, satI_weak (C := Sl.block wr.heap.size TBy [.int .u8 92, .int .u8 92]) (by rw [bys_append, List.length_append]; show _ = rw TBy 1 (.slice a4 (out.length + 2) c4) (bys out ++ [.int .u8 92, .int .u8 92]) * _ * _; ac_rfl)⟩
      · have hq1 : ¬ (x.toNat : Int) = 34 ∧ ¬ (x.toNat : Int) = 92 := by
          refine ⟨fun h => x1 (.inl (UInt8.toNat_inj.mp (by simpa using (by omega : x.toNat = 34)))), fun h => x1 (.inr (UInt8.toNat_inj.mp (by simpa using (by omega : x.toNat = 92))))⟩
        obtain ⟨q1, q2⟩ := hq1
        have b1 : ((x.toNat : Int) == 34) = false := by simpa using q1
        have b2 : ((x.toNat : Int) == 92) = false := by simpa using q2
        by_cases x2 : x = 10
        · have hq : qb x = [92, 110] := by unfold qb; rw [if_neg x1, if_pos x2]
          have x2' : (x.toNat : Int) = 10 := by subst x2; rfl
          rw [hq] at HN
          clear x1 x2 hq
          go_wp2_with (at_builtin; refine wpl_append_same E rfl (.tmp 46) (.tmp 47) rfl rfl rfl (takeI (rw TBy 1 (.slice a out.length c) (bys out))) (Src.blk (P := Tryz.prog) (vs := [.int .u8 92, .int .u8 110]) (takeI (Sl.block wr.heap.size TBy [.int .u8 92, .int .u8 110])) (by simp [Value.oneCell'])) (by unfold maxLen; simp; omega) (by simp; omega) ?_; intro a4 c4 w4 hs4 hnn; clear hnn; simp only [List.length_cons, List.length_nil, Nat.zero_add, Nat.reduceAdd] at hs4 ⊢; haveI := hs4.i)
          go_wp2
          go_roundg (o.length - (i + 1))
          case measure => have := A.out.1; omega
          case rel => exact ⟨i + 1, out ++ [92, 110], a4, c4, by simp, by go_num, by omega, ⟨rfl, HN.out.symm⟩, satI_weak (C := Sl.block wr.heap.size TBy [.int .u8 92, .int .u8 110]) (by rw [bys_append, List.length_append]; show _ = rw TBy 1 (.slice a4 (out.length + 2) c4) (bys out ++ [.int .u8 92, .int .u8 110]) * _ * _; ac_rfl)⟩
        · have q3 : ¬ (x.toNat : Int) = 10 := fun h => x2 (UInt8.toNat_inj.mp (by simpa using (by omega : x.toNat = 10)))
          have b3 : ((x.toNat : Int) == 10) = false := by simpa using q3
          by_cases x3 : x.toNat < 32 ∨ 126 < x.toNat
          · have hq : qb x = [92, 120, hexd (x.toNat / 16), hexd (x.toNat % 16)] := by unfold qb; rw [if_neg x1, if_neg x2, if_pos x3]
            have x3' : (x.toNat : Int) < 32 ∨ ((126 : Int) < x.toNat ∧ ¬ (x.toNat : Int) < 32) := by omega
            rw [hq] at HN
            clear x1 x2 x3 hq
            have g1 : (x.toNat : Int) / 16 < 16 := by have := HX.out; omega
            have g0 : 0 ≤ (x.toNat : Int) / 16 := by omega
            have g3 : (x.toNat : Int) % 16 < 16 := by omega
            have g2 : 0 ≤ (x.toNat : Int) % 16 := by omega
            have g8 : (x.toNat : Int) ≤ 255 := by have := HX.out; omega
            have e1 := div_all ⟨x.toNat, HX.out⟩
            have tm : (x.toNat : Int).tmod 16 = (x.toNat : Int) % 16 := Int.tmod_eq_emod_of_nonneg (by omega)
            simp only at e1
            have en1 : ((x.toNat : Int) / 16).toNat = x.toNat / 16 := by omega
            have en2 : ((x.toNat : Int) % 16).toNat = x.toNat % 16 := by omega
            have d1 : ∀ h, (⟨#[48, 49, 50, 51, 52, 53, 54, 55, 56, 57, 97, 98, 99, 100, 101, 102]⟩ : ByteArray)[((x.toNat : Int) / 16).toNat]'h = hexd (x.toNat / 16) := fun h => by
              simp only [en1]
              exact dig_get _ (by have := HX.out; omega) _
            have d2 : ∀ h, (⟨#[48, 49, 50, 51, 52, 53, 54, 55, 56, 57, 97, 98, 99, 100, 101, 102]⟩ : ByteArray)[((x.toNat : Int) % 16).toNat]'h = hexd (x.toNat % 16) := fun h => by
              simp only [en2]
              exact dig_get _ (by omega) _
            clear en1 en2
            rcases x3' with x3' | ⟨x3', x4'⟩
            · go_upto_region 12 with (fail)
              go_region_law first
                | (refine step_append_sl E rfl (.tmp 62) (.tmp 77) rfl rfl rfl (takeI (rw TBy 1 (.slice a out.length c) (bys out))) (Src.blk (P := Tryz.prog) (vs := [.int .u8 92, .int .u8 120, .int .u8 (hexd (x.toNat / 16)).toNat, .int .u8 (hexd (x.toNat % 16)).toNat]) (takeI (Sl.block wr.heap.size TBy [.int .u8 92, .int .u8 120, .int .u8 (hexd (x.toNat / 16)).toNat, .int .u8 (hexd (x.toNat % 16)).toNat])) (by simp [Value.oneCell'])) (by unfold maxLen; simp; omega) (by simp; omega) ?_; intro a4 c4 w4 hs4 hnn; clear hnn; simp only [List.length_cons, List.length_nil, Nat.zero_add, Nat.reduceAdd] at hs4 ⊢; haveI := hs4.i)
              all_goals
                clear d1 d2 tm e1 g0 g1 g2 g3
                go_wp2
                go_roundg (o.length - (i + 1))
                case measure => have := A.out.1; omega
                case rel => exact ⟨i + 1, out ++ [92, 120, hexd (x.toNat / 16), hexd (x.toNat % 16)], a4, c4, by simp, by go_num, by omega, ⟨rfl, HN.out.symm⟩, satI_weak (C := Sl.block wr.heap.size TBy [.int .u8 92, .int .u8 120, .int .u8 (hexd (x.toNat / 16)).toNat, .int .u8 (hexd (x.toNat % 16)).toNat]) (by rw [bys_append, List.length_append]; show _ = rw TBy 1 (.slice a4 (out.length + 4) c4) (bys out ++ [.int .u8 92, .int .u8 120, .int .u8 (hexd (x.toNat / 16)).toNat, .int .u8 (hexd (x.toNat % 16)).toNat]) * _ * _; ac_rfl)⟩
            · go_upto_region 12 with (fail)
              go_region_law first
                | (refine step_append_sl E rfl (.tmp 62) (.tmp 77) rfl rfl rfl (takeI (rw TBy 1 (.slice a out.length c) (bys out))) (Src.blk (P := Tryz.prog) (vs := [.int .u8 92, .int .u8 120, .int .u8 (hexd (x.toNat / 16)).toNat, .int .u8 (hexd (x.toNat % 16)).toNat]) (takeI (Sl.block wr.heap.size TBy [.int .u8 92, .int .u8 120, .int .u8 (hexd (x.toNat / 16)).toNat, .int .u8 (hexd (x.toNat % 16)).toNat])) (by simp [Value.oneCell'])) (by unfold maxLen; simp; omega) (by simp; omega) ?_; intro a4 c4 w4 hs4 hnn; clear hnn; simp only [List.length_cons, List.length_nil, Nat.zero_add, Nat.reduceAdd] at hs4 ⊢; haveI := hs4.i)
              all_goals
                clear d1 d2 tm e1 g0 g1 g2 g3
                go_wp2
                go_roundg (o.length - (i + 1))
                case measure => have := A.out.1; omega
                case rel => exact ⟨i + 1, out ++ [92, 120, hexd (x.toNat / 16), hexd (x.toNat % 16)], a4, c4, by simp, by go_num, by omega, ⟨rfl, HN.out.symm⟩, satI_weak (C := Sl.block wr.heap.size TBy [.int .u8 92, .int .u8 120, .int .u8 (hexd (x.toNat / 16)).toNat, .int .u8 (hexd (x.toNat % 16)).toNat]) (by rw [bys_append, List.length_append]; show _ = rw TBy 1 (.slice a4 (out.length + 4) c4) (bys out ++ [.int .u8 92, .int .u8 120, .int .u8 (hexd (x.toNat / 16)).toNat, .int .u8 (hexd (x.toNat % 16)).toNat]) * _ * _; ac_rfl)⟩
          · have hq : qb x = [x] := by unfold qb; rw [if_neg x1, if_neg x2, if_neg x3]
            have x3' : ¬ (x.toNat : Int) < 32 := by omega
            have x4' : ¬ (126 : Int) < x.toNat := by omega
            rw [hq] at HN
            clear x1 x2 x3 hq
            go_wp2_with (at_builtin; refine wpl_append_same E rfl (.tmp 13) (.tmp 18) rfl rfl rfl (takeI (rw TBy 1 (.slice a out.length c) (bys out))) (Src.blk (P := Tryz.prog) (vs := [.int .u8 x.toNat]) (takeI (Sl.block wr.heap.size TBy [.int .u8 x.toNat])) (by simp [Value.oneCell'])) (by unfold maxLen; simp; omega) (by simp; omega) ?_; intro a4 c4 w4 hs4 hnn; clear hnn; simp only [List.length_cons, List.length_nil, Nat.zero_add, Nat.reduceAdd] at hs4 ⊢; haveI := hs4.i)
            go_wp2
            go_roundg (o.length - (i + 1))
            case measure => have := A.out.1; omega
            case rel => exact ⟨i + 1, out ++ [x], a4, c4, by simp, by go_num, by omega, ⟨rfl, HN.out.symm⟩, satI_weak (C := Sl.block wr.heap.size TBy [.int .u8 x.toNat]) (by rw [bys_append, List.length_append]; show _ = rw TBy 1 (.slice a4 (out.length + 1) c4) (bys out ++ [.int .u8 x.toNat]) * _ * _; ac_rfl)⟩
    · have hlt' : ¬ (i : Int) < o.length := by omega
      have HQ : Aside (out ++ [34] = Go.Sc.quoted o) := (by rw [A.out.2, List.take_of_length_le (by omega)]; rfl : _ = _)
      go_wp2_with (at_builtin; refine wpl_append_same E rfl (.tmp 79) (.tmp 80) rfl rfl rfl (takeI (rw TBy 1 (.slice a out.length c) (bys out))) (Src.blk (P := Tryz.prog) (vs := [.int .u8 34]) (takeI (Sl.block wr.heap.size TBy [.int .u8 34])) (by simp [Value.oneCell'])) (by unfold maxLen; simp; omega) (by simp; omega) ?_; intro a4 c4 w4 hs4 hnn; clear hnn; have hs5 : Sat (rw TBy 1 (.slice a4 (out.length + 1) c4) (bys (out ++ [34])) * _) w4 := (by rw [bys_append]; exact hs4); have hcv := conv_any a4 (out.length + 1) c4 (out ++ [34]) _ w4 hs5 (by simp) (by omega); haveI := hs5.i; simp only [List.length_cons, List.length_nil, Nat.zero_add])
      go_wp2
      go_ret
      exact ⟨by rw [HQ.out]; rfl, (takeI (old w)).old_below⟩
end Go.Proofs.YtefcphflpbopiaaGreatDoor

namespace Go.Sc
theorem escR_le {l : Bs} {x : UInt8} {n : Nat} (hl : l ≠ []) (h : escR l = some (x, n)) : 1 ≤ n ∧ n ≤ l.length := by
  have h1 : 1 ≤ l.length := List.length_pos_iff.mpr hl
  unfold escR at h
  split at h
  · split at h
    · cases h
    · rename_i hc
      split at h
      · cases h; exact ⟨by omega, by omega⟩
      · split at h
        · cases h; exact ⟨by omega, by omega⟩
        · split at h
          · rename_i hd
            split at h
            · cases h; exact ⟨by omega, hd.2⟩
            · cases h
          · cases h
  · cases h
    exact ⟨by omega, h1⟩
def hex2 (a b : UInt8) : Option (UInt8 × Nat) := match hexv a, hexv b with
  | some a, some b => some (UInt8.ofNat (16 * a + b), 4)
  | _, _ => none
theorem escR_92 {l : Bs} (h : l.head? = some 92) : escR l = if l.length < 2 then none else if l.getD 1 0 = 34 ∨ l.getD 1 0 = 92 then some (l.getD 1 0, 2) else if l.getD 1 0 = 110 then some (10, 2) else if l.getD 1 0 = 120 ∧ 4 ≤ l.length then hex2 (l.getD 2 0) (l.getD 3 0) else none := by
  unfold escR hex2
  rw [if_pos h]
  cases hexv (l.getD 2 0) <;> cases hexv (l.getD 3 0) <;> rfl
def hexI (x : UInt8) : Int := match hexv x with
  | some n => (n : Int)
  | none => -1
theorem hexI_no {x : UInt8} (h : hexv x = none) : hexI x = -1 := by unfold hexI; rw [h]
theorem hexI_yes {x : UInt8} {n : Nat} (h : hexv x = some n) : hexI x = n := by unfold hexI; rw [h]
theorem hex2_no1 {a b : UInt8} (h : hexv a = none) : hex2 a b = none := by unfold hex2; rw [h]
theorem hex2_no2 {a b : UInt8} (h : hexv b = none) : hex2 a b = none := by
  unfold hex2
  rw [h]
  cases hexv a <;> rfl
theorem hex2_yes {a b : UInt8} {x y : Nat} (h : hexv a = some x) (h2 : hexv b = some y) : hex2 a b = some (UInt8.ofNat (16 * x + y), 4) := by unfold hex2; rw [h, h2]
def qFin (s : Bs) : Option Bs → Option Bs
  | none => none
  | some o => if quoted o = s then some o else none
theorem unq_fin (esc : Bs → Option (UInt8 × Nat)) (s : Bs) : unqBy esc s = if s.length < 2 ∨ s.head? ≠ some 34 ∨ s.getLast? ≠ some 34 then none else qFin s (Dd esc (mid s)) := by
  rw [unq_eq]
  split
  · rfl
  · cases Dd esc (mid s) <;> rfl
theorem drop_at {m : Bs} {i k : Nat} {x : UInt8} (h : m[i + k]? = some x) : (m.drop i).getD k 0 = x := by
  simp [List.getD, List.getElem?_drop, h]
theorem head_at {m : Bs} {i : Nat} {x : UInt8} (h : m[i]? = some x) : (m.drop i).head? = some x := by
  rw [List.head?_eq_getElem?, List.getElem?_drop]
  simpa using h
theorem hexv_lt {c : UInt8} {n : Nat} (h : hexv c = some n) : n < 16 := by
  unfold hexv at h
  split at h
  · cases h; omega
  · split at h
    · cases h; omega
    · cases h
end Go.Sc
namespace Go.Proofs.YtefcphflpbopiaaGreatDoor
set_option linter.unusedSimpArgs false
set_option linter.unusedVariables false
open Go.RowKit Go.Sl Go.Sc
attribute [local go_sem] Go.Sl.cell_sat Go.Sl.frozen_sat Go.Sc.str_toList Go.Sc.str_size Go.Sc.str_extract

set_option maxRecDepth 100000 in
set_option maxHeartbeats 3200000 in
theorem refUnquoted_any (s : Bs) (hmax : s.length ≤ 1000000000) (w : World) :
    Calls Tryz.prog 18 #[.string (str s)] w fun e w' => UnqR (unqBy escR s) w e w' ∧ Below w.heap.size w w' := by
  have hno : s.length < 2 ∨ s.head? ≠ some 34 ∨ s.getLast? ≠ some 34 → unqBy escR s = none := fun h => by rw [unq_eq, if_pos h]
  by_cases h2 : s.length < 2
  · have h2' : (s.length : Int) < 2 := by omega
    have hn : Aside (unqBy escR s = none) := hno (.inl h2)
    clear hno
    go_enter Tryz.func18, Tryz.ntmps18
    go_wp2
    go_ret2
    exact ⟨unqR_no hn.out _ _ _ _ _, Below.refl _ _⟩
  · have h2' : ¬ (s.length : Int) < 2 := by omega
    obtain ⟨x0, hx0⟩ : ∃ x, s[0]? = some x := ⟨s[0], by simp⟩
    obtain ⟨y0, hy0⟩ : ∃ y, s[s.length - 1]? = some y := ⟨s[s.length - 1], by simp⟩
    have hh : s.head? = some x0 := by rw [List.head?_eq_getElem?]; exact hx0
    have hg : s.getLast? = some y0 := by rw [List.getLast?_eq_getElem?]; exact hy0
    have hix := run_index_str (P := Tryz.prog) (h := Tryz.underlying9) (hx := (⟨by omega, hx0⟩ : StrAt s 0 x0)) (t := 9) (k := .i64)
    have hiy := run_index_str (P := Tryz.prog) (h := Tryz.underlying9) (hx := (⟨by omega, by rw [show ((s.length : Int) - 1).toNat = s.length - 1 by omega]; exact hy0⟩ : StrAt s ((s.length : Int) - 1) y0)) (t := 9) (k := .i64)
    by_cases q1 : x0 = 34
    · have q1' : (x0.toNat : Int) = 34 := by rw [q1]; rfl
      by_cases q2 : y0 = 34
      · have q2' : (y0.toNat : Int) = 34 := by rw [q2]; rfl
        obtain ⟨m, hmm⟩ : ∃ m : Bs, List.take (s.length - 1 - 1) (List.tail s) = m := ⟨_, rfl⟩
        have hmm2 : List.take (s.length - 1 - 1) (List.drop 1 s) = m := by rw [List.drop_one]; exact hmm
        have hmid : mid s = m := by
          have h : (List.take (s.length - 1 - 1) (List.drop 1 s)) = mid s := by unfold mid; rw [Nat.sub_sub]
          rw [← h]; exact hmm2
        have HM : Aside (m.length ≤ s.length ∧ ∀ o, Dd escR m = o → unqBy escR s = qFin s o) := by
          refine ⟨by rw [← hmid]; unfold mid; simp; omega, fun o ho => ?_⟩
          rw [← hmid] at ho
          rw [unq_fin, if_neg (by rw [hh, hg, q1, q2]; simp; omega), ho]
        have hml : m.length ≤ 1000000000 := Nat.le_trans HM.out.1 hmax
        clear hno hmid hh hg hx0 hy0 q1 q2
        have HH : Aside (∀ (x : UInt8) (w : World), Calls Tryz.prog 34 #[.int .u8 x.toNat] w fun e w' => e = .returned (.int .i64 (hexI x)) ∧ w' = w) := hex_any
        obtain ⟨i0, E⟩ := elemBy
        have hs0 : Sat (rw TBy 1 (.slice none 0 0) (bys []) * old w) w := Sat.rw_nil (Sat.old_self w)
        haveI := hs0.i
        go_enter Tryz.func18, Tryz.ntmps18
        go_wp2
        go_loopg [4, 6] m.length (fun g t4 t6 wr => ∃ (i : Nat) (out : Bs) (a : Option Addr) (c : Nat), t4 = .slice a out.length c ∧ t6 = .int .i64 i ∧ i ≤ m.length ∧ Aside (g = m.length - i ∧ Dd escR m = (Dd escR (m.drop i)).map (out ++ ·) ∧ out.length ≤ i) ∧ Sat (rw TBy 1 (.slice a out.length c) (bys out) * old w) wr)
        case atStart =>
          refine ⟨0, [], none, 0, rfl, rfl, by omega, ⟨rfl, ?_, by simp⟩, satI⟩
          rw [List.drop_zero]
          cases Dd escR m <;> simp
        case round =>
          obtain ⟨i, out, a, c, rfl, rfl, hi, A, hsr⟩ := hrel
          haveI := hsr.i
          clear hs0 hmm hmm2
          have hol : out.length ≤ 1000000000 := by have := A.out.2.2; omega
          by_cases hlt : i < m.length
          · have hlt' : (i : Int) < m.length := by omega
            obtain ⟨x, hx⟩ : ∃ x, m[i]? = some x := ⟨m[i], by simp [hlt]⟩
            have hic := run_index_str (P := Tryz.prog) (h := Tryz.underlying9) (hx := (⟨by omega, by simpa using hx⟩ : StrAt m (i : Int) x)) (t := 9) (k := .i64)
            have hne : m.drop i ≠ [] := by
              intro h
              have := congrArg List.length h
              rw [List.length_drop] at this
              simp at this
              omega
            have hdl : (m.drop i).length = m.length - i := List.length_drop
            have HS : Aside (Dd escR (m.drop i) = match escR (m.drop i) with
              | none => none
              | some (x, n) => (Dd escR ((m.drop i).drop n)).map (x :: ·)) := Dd_step (fun l x n h1 h2 => escR_le h1 h2) hne
            have HNext : Aside (∀ y n, escR (m.drop i) = some (y, n) → Dd escR m = (Dd escR (m.drop (i + n))).map ((out ++ [y]) ++ ·)) := fun y n he => by
              rw [A.out.2.1, HS.out, he]
              simp only
              rw [List.drop_drop]
              exact map_next _ _ _
            have HStop : Aside (escR (m.drop i) = none → unqBy escR s = none) := fun he => by
              have h := HM.out.2 none (by rw [A.out.2.1, HS.out, he]; rfl)
              exact h
            have hhd := head_at hx
            by_cases hx92 : x = 92
            · have x92' : (x.toNat : Int) = 92 := by rw [hx92]; rfl
              rw [hx92] at hhd
              have hes0 := escR_92 hhd
              by_cases hl2 : i + 1 < m.length
              · have hl2' : (i : Int) + 1 < m.length := by omega
                obtain ⟨y, hy⟩ : ∃ y, m[i + 1]? = some y := ⟨m[i + 1], by simp [hl2]⟩
                have hic1 := run_index_str (P := Tryz.prog) (h := Tryz.underlying9) (hx := (⟨by omega, by rw [show ((i : Int) + 1).toNat = i + 1 by omega]; exact hy⟩ : StrAt m ((i : Int) + 1) y)) (t := 9) (k := .i64)
                rw [if_neg (by omega), drop_at hy] at hes0
                by_cases y34 : y = 34 ∨ y = 92
                · rw [if_pos y34] at hes0
                  have HN : Aside (Dd escR m = (Dd escR (m.drop (i + 2))).map ((out ++ [y]) ++ ·)) := HNext.out _ _ hes0
                  have y34' : (y.toNat : Int) = 34 ∨ (¬ (y.toNat : Int) = 34 ∧ (y.toNat : Int) = 92) := by
                    rcases y34 with h | h
                    · exact .inl (by rw [h]; rfl)
                    · exact .inr ⟨by rw [h]; decide, by rw [h]; rfl⟩
                  clear hes0 hne hdl hhd hx hy hx92
                  rcases y34 with rfl | rfl
                  · clear y34'
                    go_wp2_with (at_builtin; refine wpl_append_same E rfl (.tmp 62) (.tmp 66) rfl rfl rfl (takeI (rw TBy 1 (.slice a out.length c) (bys out))) (Src.blk (P := Tryz.prog) (vs := [.int .u8 34]) (takeI (Sl.block wr.heap.size TBy [.int .u8 34])) (by simp [Value.oneCell'])) (by unfold maxLen; simp; omega) (by simp; omega) ?_; intro a4 c4 w4 hs4 hnn; clear hnn; simp only [List.length_cons, List.length_nil, Nat.zero_add, Nat.reduceAdd] at hs4 ⊢; haveI := hs4.i)
                    go_wp2
                    go_roundg (m.length - (i + 2))
                    case measure => have := A.out.1; omega
                    case rel => exact ⟨i + 2, out ++ [34], a4, c4, by simp, by go_num, by omega, ⟨rfl, HN.out, by have := A.out.2.2; simp; omega⟩, satI_weak (C := Sl.block wr.heap.size TBy [.int .u8 34]) (by rw [bys_append, List.length_append]; show _ = rw TBy 1 (.slice a4 (out.length + 1) c4) (bys out ++ [.int .u8 34]) * _ * _; ac_rfl)⟩
                  · clear y34'
                    go_wp2_with (at_builtin; refine wpl_append_same E rfl (.tmp 62) (.tmp 66) rfl rfl rfl (takeI (rw TBy 1 (.slice a out.length c) (bys out))) (Src.blk (P := Tryz.prog) (vs := [.int .u8 92]) (takeI (Sl.block wr.heap.size TBy [.int .u8 92])) (by simp [Value.oneCell'])) (by unfold maxLen; simp; omega) (by simp; omega) ?_; intro a4 c4 w4 hs4 hnn; clear hnn; simp only [List.length_cons, List.length_nil, Nat.zero_add, Nat.reduceAdd] at hs4 ⊢; haveI := hs4.i)
                    go_wp2
                    go_roundg (m.length - (i + 2))
                    case measure => have := A.out.1; omega
                    case rel => exact ⟨i + 2, out ++ [92], a4, c4, by simp, by go_num, by omega, ⟨rfl, HN.out, by have := A.out.2.2; simp; omega⟩, satI_weak (C := Sl.block wr.heap.size TBy [.int .u8 92]) (by rw [bys_append, List.length_append]; show _ = rw TBy 1 (.slice a4 (out.length + 1) c4) (bys out ++ [.int .u8 92]) * _ * _; ac_rfl)⟩
                · rw [if_neg y34] at hes0
                  have b34 : ((y.toNat : Int) == 34) = false := by
                    simp only [beq_eq_false_iff_ne, ne_eq]
                    intro h
                    exact y34 (.inl (UInt8.toNat_inj.mp (by simpa using (by omega : y.toNat = 34))))
                  have b92 : ((y.toNat : Int) == 92) = false := by
                    simp only [beq_eq_false_iff_ne, ne_eq]
                    intro h
                    exact y34 (.inr (UInt8.toNat_inj.mp (by simpa using (by omega : y.toNat = 92))))
                  by_cases y110 : y = 110
                  · rw [if_pos y110] at hes0
                    have HN : Aside (Dd escR m = (Dd escR (m.drop (i + 2))).map ((out ++ [10]) ++ ·)) := HNext.out _ _ hes0
                    have y110' : (y.toNat : Int) = 110 := by rw [y110]; rfl
                    clear hes0 hne hdl hhd hx hy hx92 y34 y110
                    go_wp2_with (at_builtin; refine wpl_append_same E rfl (.tmp 73) (.tmp 74) rfl rfl rfl (takeI (rw TBy 1 (.slice a out.length c) (bys out))) (Src.blk (P := Tryz.prog) (vs := [.int .u8 10]) (takeI (Sl.block wr.heap.size TBy [.int .u8 10])) (by simp [Value.oneCell'])) (by unfold maxLen; simp; omega) (by simp; omega) ?_; intro a4 c4 w4 hs4 hnn; clear hnn; simp only [List.length_cons, List.length_nil, Nat.zero_add, Nat.reduceAdd] at hs4 ⊢; haveI := hs4.i)
                    go_wp2
                    go_roundg (m.length - (i + 2))
                    case measure => have := A.out.1; omega
                    case rel => exact ⟨i + 2, out ++ [10], a4, c4, by simp, by go_num, by omega, ⟨rfl, HN.out, by have := A.out.2.2; simp; omega⟩, satI_weak (C := Sl.block wr.heap.size TBy [.int .u8 10]) (by rw [bys_append, List.length_append]; show _ = rw TBy 1 (.slice a4 (out.length + 1) c4) (bys out ++ [.int .u8 10]) * _ * _; ac_rfl)⟩
                  · rw [if_neg y110] at hes0
                    have b110 : ((y.toNat : Int) == 110) = false := by
                      simp only [beq_eq_false_iff_ne, ne_eq]
                      intro h
                      exact y110 (UInt8.toNat_inj.mp (by simpa using (by omega : y.toNat = 110)))
                    by_cases y120 : y = 120
                    · have y120' : (y.toNat : Int) = 120 := by rw [y120]; rfl
                      by_cases hl4 : i + 3 < m.length
                      · have hl4' : (i : Int) + 1 + 2 < m.length := by omega
                        have hl4'' : (i : Int) + 3 < m.length := by omega
                        rw [if_pos ⟨y120, by omega⟩] at hes0
                        obtain ⟨p, hp⟩ : ∃ y, m[i + 2]? = some y := ⟨m[i + 2], by simp⟩
                        obtain ⟨q, hq⟩ : ∃ y, m[i + 3]? = some y := ⟨m[i + 3], by simp⟩
                        rw [drop_at hp, drop_at hq] at hes0
                        have hic2 := run_index_str (P := Tryz.prog) (h := Tryz.underlying9) (hx := (⟨by omega, by rw [show ((i : Int) + 1 + 1).toNat = i + 2 by omega]; exact hp⟩ : StrAt m ((i : Int) + 1 + 1) p)) (t := 9) (k := .i64)
                        have hic2' := run_index_str (P := Tryz.prog) (h := Tryz.underlying9) (hx := (⟨by omega, by rw [show ((i : Int) + 2).toNat = i + 2 by omega]; exact hp⟩ : StrAt m ((i : Int) + 2) p)) (t := 9) (k := .i64)
                        have hic3 := run_index_str (P := Tryz.prog) (h := Tryz.underlying9) (hx := (⟨by omega, by rw [show ((i : Int) + 1 + 2).toNat = i + 3 by omega]; exact hq⟩ : StrAt m ((i : Int) + 1 + 2) q)) (t := 9) (k := .i64)
                        have hic3' := run_index_str (P := Tryz.prog) (h := Tryz.underlying9) (hx := (⟨by omega, by rw [show ((i : Int) + 3).toNat = i + 3 by omega]; exact hq⟩ : StrAt m ((i : Int) + 3) q)) (t := 9) (k := .i64)
                        have hhp := HH.out p
                        have hhq := HH.out q
                        clear hne hdl hhd hx hy hx92 y34 y110 hp hq y120
                        cases hvp : hexv p with
                        | none =>
                          rw [hexI_no hvp] at hhp
                          have HN : Aside (unqBy escR s = none) := HStop.out (hes0.trans (hex2_no1 hvp))
                          have hhp' : ∀ w, Calls Tryz.prog 34 #[.int .u8 p.toNat] w fun e w' => e = .returned (.int .i64 (-1)) ∧ w' = w := hhp
                          clear hes0 hvp hhp
                          go_wp2_with fail
                          refine (hhp' _).mono ?_
                          rintro e w3 ⟨rfl, rfl⟩
                          go_wp2
                          go_ret2
                          exact ⟨unqR_no HN.out _ _ _ _ _, (hsr.take (old w)).old_below⟩
                        | some np =>
                          rw [hexI_yes hvp] at hhp
                          have ep : hexI p = np := hexI_yes hvp
                          have hhp' : ∀ w, Calls Tryz.prog 34 #[.int .u8 p.toNat] w fun e w' => e = .returned (.int .i64 np) ∧ w' = w := hhp
                          have np16 := hexv_lt hvp
                          clear hhp
                          cases hvq : hexv q with
                          | none =>
                            rw [hexI_no hvq] at hhq
                            have HN : Aside (unqBy escR s = none) := HStop.out (hes0.trans (hex2_no2 hvq))
                            have hhq' : ∀ w, Calls Tryz.prog 34 #[.int .u8 q.toNat] w fun e w' => e = .returned (.int .i64 (-1)) ∧ w' = w := hhq
                            clear hes0 hvq hhq hvp
                            go_wp2_with fail
                            refine (hhp' _).mono ?_
                            rintro e w3 ⟨rfl, rfl⟩
                            go_wp2_with fail
                            refine (hhq' _).mono ?_
                            rintro e w3 ⟨rfl, rfl⟩
                            go_wp2
                            go_ret2
                            exact ⟨unqR_no HN.out _ _ _ _ _, (hsr.take (old w)).old_below⟩
                          | some nq =>
                            rw [hexI_yes hvq] at hhq
                            have eq : hexI q = nq := hexI_yes hvq
                            have hhq' : ∀ w, Calls Tryz.prog 34 #[.int .u8 q.toNat] w fun e w' => e = .returned (.int .i64 nq) ∧ w' = w := hhq
                            have nq16 := hexv_lt hvq
                            have HN : Aside (Dd escR m = (Dd escR (m.drop (i + 4))).map ((out ++ [UInt8.ofNat (16 * np + nq)]) ++ ·)) := HNext.out _ _ (hes0.trans (hex2_yes hvp hvq))
                            have HV : Aside (bys [UInt8.ofNat (16 * np + nq)] = [.int .u8 ((16 : Int) * np + nq)]) := by
                              have : (UInt8.ofNat (16 * np + nq)).toNat = 16 * np + nq := by simp [UInt8.toNat_ofNat']; omega
                              show [Value.int .u8 ((UInt8.ofNat (16 * np + nq)).toNat : Nat)] = _
                              rw [this]
                              rfl
                            have n1 : (16 : Int) * np + nq ≤ 255 := by omega
                            have n0 : (0 : Int) ≤ 16 * np + nq := by omega
                            have np0 : (np : Int) < 16 := by omega
                            have nq0 : (nq : Int) < 16 := by omega
                            have HP : Aside (∀ w, Calls Tryz.prog 34 #[.int .u8 p.toNat] w fun e w' => e = .returned (.int .i64 np) ∧ w' = w) := hhp'
                            have HQ : Aside (∀ w, Calls Tryz.prog 34 #[.int .u8 q.toNat] w fun e w' => e = .returned (.int .i64 nq) ∧ w' = w) := hhq'
                            clear hes0 hvq hvp hhq hhp' hhq' np16 nq16
                            go_wp2_with fail
                            refine (HP.out _).mono ?_
                            rintro e w3 ⟨rfl, rfl⟩
                            go_wp2_with fail
                            refine (HQ.out _).mono ?_
                            rintro e w3 ⟨rfl, rfl⟩
                            go_upto_region 19 with (fail)
                            have w1 : IntKind.i64.wrap ((i : Int) + 1 + 1) = (i : Int) + 1 + 1 := by simp [IntKind.wrap, IntKind.bits, IntKind.signed]; omega
                            have w2 : IntKind.i64.wrap ((i : Int) + 1 + 2) = (i : Int) + 1 + 2 := by simp [IntKind.wrap, IntKind.bits, IntKind.signed]; omega
                            have w5 : IntKind.i64.wrap ((16 : Int) * np) = (16 : Int) * np := by simp [IntKind.wrap, IntKind.bits, IntKind.signed]; omega
                            have w6 : IntKind.i64.wrap ((16 : Int) * np + nq) = (16 : Int) * np + nq := by simp [IntKind.wrap, IntKind.bits, IntKind.signed]; omega
                            have w7 : IntKind.u8.wrap ((16 : Int) * np + nq) = (16 : Int) * np + nq := by simp [IntKind.wrap, IntKind.bits, IntKind.signed]; omega
                            go_region_law first
                              | (go_simp; go_at_call 34; refine (HH.out _ _).mono ?_; rintro e w4 ⟨rfl, rfl⟩)
                              | (refine step_append_sl E rfl (.tmp 104) (.tmp 118) rfl rfl rfl (takeI (rw TBy 1 (.slice a out.length c) (bys out))) (Src.blk (P := Tryz.prog) (vs := [.int .u8 ((16 : Int) * np + nq)]) (takeI (Sl.block w3.heap.size TBy [.int .u8 ((16 : Int) * np + nq)])) (by simp [Value.oneCell'])) (by unfold maxLen; simp; omega) (by simp; omega) ?_; intro a4 c4 w4 hs4 hnn; clear hnn; simp only [List.length_cons, List.length_nil, Nat.zero_add, Nat.reduceAdd] at hs4 ⊢; haveI := hs4.i)
                            all_goals
                              clear w1 w2 w5 w6 w7
                              go_wp2
                              go_roundg (m.length - (i + 4))
                              case measure => have := A.out.1; omega
                              case rel => exact ⟨i + 4, out ++ [UInt8.ofNat (16 * np + nq)], a4, c4, by simp, by go_num, by omega, ⟨rfl, HN.out, by have := A.out.2.2; simp; omega⟩, satI_weak (C := Sl.block w3.heap.size TBy [.int .u8 ((16 : Int) * np + nq)]) (by rw [bys_append, HV.out, List.length_append]; show _ = rw TBy 1 (.slice a4 (out.length + 1) c4) (bys out ++ [.int .u8 ((16 : Int) * np + nq)]) * _ * _; ac_rfl)⟩
                      · have hl4' : ¬ (i : Int) + 1 + 2 < m.length := by omega
                        have hl4'' : ¬ (i : Int) + 3 < m.length := by omega
                        rw [if_neg (fun h => by omega)] at hes0
                        have HN : Aside (unqBy escR s = none) := HStop.out hes0
                        clear hes0 hne hdl hhd hx hy hx92 y34 y110 y120
                        go_wp2
                        go_ret2
                        exact ⟨unqR_no HN.out _ _ _ _ _, (hsr.take (old w)).old_below⟩
                    · rw [if_neg (fun h => y120 h.1)] at hes0
                      have HN : Aside (unqBy escR s = none) := HStop.out hes0
                      have b120 : ((y.toNat : Int) == 120) = false := by
                        simp only [beq_eq_false_iff_ne, ne_eq]
                        intro h
                        exact y120 (UInt8.toNat_inj.mp (by simpa using (by omega : y.toNat = 120)))
                      clear hes0 hne hdl hhd hx hy hx92 y34 y110 y120
                      go_wp2
                      go_ret2
                      exact ⟨unqR_no HN.out _ _ _ _ _, (hsr.take (old w)).old_below⟩
              · have hl2' : ¬ (i : Int) + 1 < m.length := by omega
                have hl2'' : (m.length : Int) ≤ (i : Int) + 1 := by omega
                rw [if_pos (by omega)] at hes0
                have HN : Aside (unqBy escR s = none) := HStop.out hes0
                clear hes0 hne hdl hhd hx hx92
                go_wp2
                go_ret2
                exact ⟨unqR_no HN.out _ _ _ _ _, (hsr.take (old w)).old_below⟩
            · have b92 : ((x.toNat : Int) == 92) = false := by
                simp only [beq_eq_false_iff_ne, ne_eq]
                intro h
                exact hx92 (UInt8.toNat_inj.mp (by simpa using (by omega : x.toNat = 92)))
              have hes : escR (m.drop i) = some (x, 1) := by
                unfold escR
                rw [if_neg (by rw [hhd]; intro h; cases h; exact hx92 rfl), drop_at (k := 0) hx]
              have HN : Aside (Dd escR m = (Dd escR (m.drop (i + 1))).map ((out ++ [x]) ++ ·)) := HNext.out _ _ hes
              clear hes hne hdl hhd hx hx92
              go_wp2_with (at_builtin; refine wpl_append_same E rfl (.tmp 38) (.tmp 42) rfl rfl rfl (takeI (rw TBy 1 (.slice a out.length c) (bys out))) (Src.blk (P := Tryz.prog) (vs := [.int .u8 x.toNat]) (takeI (Sl.block wr.heap.size TBy [.int .u8 x.toNat])) (by simp [Value.oneCell'])) (by unfold maxLen; simp; omega) (by simp; omega) ?_; intro a4 c4 w4 hs4 hnn; clear hnn; simp only [List.length_cons, List.length_nil, Nat.zero_add, Nat.reduceAdd] at hs4 ⊢; haveI := hs4.i)
              go_wp2
              go_roundg (m.length - (i + 1))
              case measure => have := A.out.1; omega
              case rel => exact ⟨i + 1, out ++ [x], a4, c4, by simp, by go_num, by omega, ⟨rfl, HN.out, by have := A.out.2.2; simp; omega⟩, satI_weak (C := Sl.block wr.heap.size TBy [.int .u8 x.toNat]) (by rw [bys_append, List.length_append]; show _ = rw TBy 1 (.slice a4 (out.length + 1) c4) (bys out ++ [.int .u8 x.toNat]) * _ * _; ac_rfl)⟩
          · have hlt' : ¬ (i : Int) < m.length := by omega
            have HD : Aside (Dd escR m = some out) := (by
              rw [A.out.2.1, List.drop_of_length_le (by omega), Dd_nil]
              simp : _ = _)
            have hq := refQuoted_any (.slice a out.length c) out wr (Byt.rw hsr) (by omega)
            go_wp2_with fail
            refine hq.mono ?_
            rintro e w3 ⟨rfl, hb3⟩
            go_wp2
            go_ret2
            refine ⟨?_, (hsr.take (old w)).old_below.trans (hb3.mono (hsr.take (old w)).old_below.size)⟩
            have h := HM.out.2 _ HD.out
            unfold qFin at h
            simp only at h
            by_cases hq : Go.Sc.quoted out = s
            · rw [if_pos hq] at h
              exact ⟨a, out.length, c, true, by simp [hq], .inl ⟨out, h, rfl, hsr.below hb3⟩⟩
            · rw [if_neg hq] at h
              exact ⟨a, out.length, c, false, by simp [hq], .inr ⟨h, rfl⟩⟩
      · have b2 : ((y0.toNat : Int) == 34) = false := by
          simp only [beq_eq_false_iff_ne, ne_eq]
          intro h
          exact q2 (UInt8.toNat_inj.mp (by simpa using (by omega : y0.toNat = 34)))
        have hn : Aside (unqBy escR s = none) := hno (.inr (.inr (by rw [hg]; intro h; cases h; exact q2 rfl)))
        clear hno
        go_enter Tryz.func18, Tryz.ntmps18
        go_wp2
        go_ret2
        exact ⟨unqR_no hn.out _ _ _ _ _, Below.refl _ _⟩
    · have b1 : ((x0.toNat : Int) == 34) = false := by
        simp only [beq_eq_false_iff_ne, ne_eq]
        intro h
        exact q1 (UInt8.toNat_inj.mp (by simpa using (by omega : x0.toNat = 34)))
      have hn : Aside (unqBy escR s = none) := hno (.inr (.inl (by rw [hh]; intro h; cases h; exact q1 rfl)))
      clear hno
      go_enter Tryz.func18, Tryz.ntmps18
      go_wp2
      go_ret2
      exact ⟨unqR_no hn.out _ _ _ _ _, Below.refl _ _⟩
end Go.Proofs.YtefcphflpbopiaaGreatDoor
