/-
  ranges.Normal, walked.
-/
import Derived.Test.YtjclpdlijblpjaaGreatNm1
import Derived.Test.YtjclpdlijblpjaaGreatSld
import Derived.Deep.DrawnRows
import Derived.BigQuiet
namespace Go.Proofs.YtjclpdlijblpjaaGreat
set_option linter.unusedSimpArgs false
set_option linter.unusedVariables false
open Go.RowKit Go.Sl Go.Ev
attribute [local go_sem ↓] Go.wp_at_zero Go.wp_at_succ
attribute [local go_sem] Go.Sl.cell_sat Go.Sl.frozen_sat

theorem elemRG : ∃ i, ElemOk Tryz.prog 103 TRG 2 16 i (.agg #[.int .i64 0, .int .i64 0]) := by
  exact elemOk Tryz.underlying103 (by kernel_rfl) rfl (by decide)
theorem keepR_append : ∀ a b : List (Int × Int), keepR (a ++ b) = keepR a ++ keepR b
  | [], b => rfl
  | p :: a, b => by
    show (match decide (max p.1 0 < p.2) with | true => (max p.1 0, p.2) :: keepR (a ++ b) | false => keepR (a ++ b)) = (match decide (max p.1 0 < p.2) with | true => (max p.1 0, p.2) :: keepR a | false => keepR a) ++ keepR b
    rw [keepR_append a b]
    cases decide (max p.1 0 < p.2) <;> rfl
theorem flatP_append : ∀ a b : List (Int × Int), flatP (a ++ b) = flatP a ++ flatP b
  | [], b => rfl
  | p :: a, b => by simp [flatP, flatP_append a b]
theorem joinR_snoc : ∀ (l out : List (Int × Int)) (r : Int × Int), joinR out (l ++ [r]) = putR r (joinR out l)
  | [], out, r => rfl
  | p :: l, out, r => joinR_snoc l (putR p out) r
theorem putR_nil (r : Int × Int) : putR r [] = [r] := rfl
theorem putR_last (r : Int × Int) : ∀ (o : List (Int × Int)) (p : Int × Int), putR r (o ++ [p]) = match decide (r.1 ≤ p.2) with
    | true => o ++ [(p.1, max p.2 r.2)]
    | false => o ++ [p, r]
  | [], p => rfl
  | [q], p => by
    show q :: putR r [p] = _
    rw [show [p] = [] ++ [p] from rfl, putR_last r [] p]
    cases decide (r.1 ≤ p.2) <;> rfl
  | q :: q2 :: o, p => by
    show q :: putR r ((q2 :: o) ++ [p]) = _
    rw [putR_last r (q2 :: o) p]
    cases decide (r.1 ≤ p.2) <;> rfl
theorem flatP_set (o : List (Int × Int)) (px py z : Int) : (flatP (o ++ [(px, py)])).set (o.length * 2 + 1) (.int .i64 z) = flatP (o ++ [(px, z)]) := by
  rw [flatP_append, flatP_append, List.set_append_right _ _ (by rw [flatP_len]; omega), flatP_len]
  rw [show o.length * 2 + 1 - o.length * 2 = 1 by omega]
  rfl
theorem sortR_len (l : List (Int × Int)) : (sortR l).length = l.length := by
  unfold sortR
  have := insO_size (l.length - 1) 1 l.toArray
  simpa using this
theorem putR_len (r : Int × Int) (o : List (Int × Int)) : (putR r o).length ≤ o.length + 1 := by
  rcases List.eq_nil_or_concat o with rfl | ⟨o', p, rfl⟩
  · simp [putR]
  · rw [List.concat_eq_append, putR_last]
    cases decide (r.1 ≤ p.2) <;> simp
theorem putR_ne (r : Int × Int) : ∀ o : List (Int × Int), putR r o ≠ []
  | [] => by simp [putR]
  | [p] => by
    show (match decide (r.1 ≤ p.2) with | true => [(p.1, max p.2 r.2)] | false => [p, r]) ≠ []
    cases decide (r.1 ≤ p.2) <;> simp
  | p :: q :: l => by simp [putR]
theorem joinR_len : ∀ (l out : List (Int × Int)), (joinR out l).length ≤ out.length + l.length
  | [], out => Nat.le_refl _
  | p :: l, out => by
    have h1 := joinR_len l (putR p out)
    have h2 := putR_len p out
    show (joinR (putR p out) l).length ≤ _
    simp only [List.length_cons]
    omega
theorem old_new {b n t : Nat} {F : Assn} {w0 w : World} (hs : Sat (Sl.hdr b t n * (old w0 * F)) w) : w0.heap.size ≤ b := by
  obtain ⟨_, ⟨g, k, d, rfl, hg, ⟨k1, k2, d2, rfl, ho, _⟩⟩, _⟩ := hs
  rcases Nat.lt_or_ge b w0.heap.size with h | h
  · exfalso
    refine d (.hdr b) (.raw b) ?_ ?_ (.inr ⟨.inr trivial, rfl⟩)
    · rw [show g = Sl.one (.hdr b) (.shp t n) from hg]; simp [Sl.one]
    · apply Hp.un_ne.2
      left
      rw [ho]
      simp [h]
  · exact h
theorem rows_new {w0 w : World} {v : Value} {out : List (Int × Int)} {F : Assn} (hs : Sat (rw TRG 2 v (flatP out) * (F * old w0)) w) (hnil : out = [] → v = .slice none 0 0) : RowsNew TRG w0 w v out := by
  have hb := Sat.old_below (hs.eq (show _ = old w0 * (rw TRG 2 v (flatP out) * F) by ac_rfl))
  refine ⟨hb.block, hb.size, hb.os, hb.tape, hb.output, ?_⟩
  rcases hs.rw_open with ⟨h1, h2, _⟩ | ⟨g, n, cap, sp, h1, h2, h3, h4, h5, h6⟩
  · left
    refine ⟨?_, h1⟩
    have := flatP_len out
    rw [h2] at this
    simp only [List.length_nil] at this
    exact List.length_eq_zero_iff.1 (by omega)
  · right
    have hne : out ≠ [] := fun c => by
      have := hnil c
      rw [h1] at this
      cases this
    rw [flatP_len] at h2
    have hn : n = out.length := by omega
    subst hn
    have h7 : Sat (Sl.hdr g TRG (flatP out ++ sp).length * (old w0 * (Sl.cells g 0 (flatP out ++ sp) * F))) w := h6.eq (by unfold Sl.block; ac_rfl)
    have h8 : Sat (Sl.cells g 0 (flatP out ++ sp) * (Sl.hdr g TRG (flatP out ++ sp).length * (F * old w0))) w := h6.eq (by unfold Sl.block; ac_rfl)
    obtain ⟨c', g1, g2⟩ := h7.shp
    refine ⟨hne, g, cap - out.length, c', old_new h7, by rw [h1, show out.length + (cap - out.length) = cap by omega], g1, by rw [g2, h3]; omega, ?_⟩
    apply List.ext_getElem?
    intro i
    rw [List.getElem?_take]
    by_cases hi : i < out.length * 2
    · rw [if_pos hi]
      obtain ⟨u, hu⟩ : ∃ u, (flatP out)[i]? = some u := ⟨_, List.getElem?_eq_getElem (by rw [flatP_len]; exact hi)⟩
      have hc := h8.cells_at i u (by rw [List.getElem?_append_left (by rw [flatP_len]; exact hi)]; exact hu)
      simp [World.cell?, g1] at hc
      rw [hu, Array.getElem?_toList]
      exact hc
    · rw [if_neg hi, List.getElem?_eq_none (by rw [flatP_len]; omega)]
theorem keepR_len : ∀ l : List (Int × Int), (keepR l).length ≤ l.length
  | [] => Nat.le_refl _
  | p :: l => by
    have := keepR_len l
    unfold keepR
    split <;> simp <;> omega
theorem keepR_one {x y : Int} (h : max x 0 < y) : keepR [(x, y)] = [(max x 0, y)] := by simp [keepR, h]
theorem keepR_none {x y : Int} (h : ¬ max x 0 < y) : keepR [(x, y)] = [] := by simp [keepR, h]
set_option maxRecDepth 100000 in
set_option maxHeartbeats 1600000 in
theorem normal_any (v : Value) (rows : List (Int × Int)) (w : World) (hl : rows.length ≤ 12) (hv : RowsAt w v rows) :
    Calls Tryz.prog 157 #[v] w fun e w' => ∃ v', e = .returned v' ∧ RowsNew TRG w w' v' (normR rows) := by
  obtain ⟨b0, o0, c0, rfl, hcell⟩ := hv
  have HC : Aside (∀ j u, (flatP rows)[j]? = some u → w.cell? ⟨b0, o0 + j, none⟩ = some u) := hcell
  clear hcell
  have hs0 : Sat (old w) w := Sat.old_self w
  go_enter Tryz.func157, Tryz.ntmps157
  obtain ⟨i0, EP⟩ := elemRG
  have hs1 := hs0.alloc #[.slice none 0 0] 103
  have hs2 := hs1.rw_nil (e := TRG) (s := 2)
  go_wp2
  go_loopg [12] rows.length (fun g t12 wr => ∃ (i : Nat) (a : Option Addr) (c : Nat), t12 = .int .i64 i ∧ i ≤ rows.length ∧ Aside (g = rows.length - i) ∧
    Sat (rw TRG 2 (.slice a (keepR (rows.take i)).length c) (flatP (keepR (rows.take i))) * (Sl.block w.heap.size 103 [.slice a (keepR (rows.take i)).length c] * old w)) wr)
  case atStart => exact ⟨0, none, 0, rfl, by omega, rfl, by simpa [keepR, flatP] using hs2⟩
  case round =>
    obtain ⟨i, a, c, rfl, hi, A, hsr⟩ := hrel
    haveI := hsr.i
    clear hs0 hs1 hs2
    by_cases hlt : i < rows.length
    · have hlt' : (i : Int) < rows.length := by omega
      obtain ⟨⟨x, y⟩, hp⟩ : ∃ p, rows[i] = p := ⟨_, rfl⟩
      have hx : (flatP rows)[i * 2]? = some (.int .i64 x) := by rw [flatP_get, show i * 2 / 2 = i by omega, show i * 2 % 2 = 0 by omega, List.getElem?_eq_getElem hlt, hp]; rfl
      have hy : (flatP rows)[i * 2 + 1]? = some (.int .i64 y) := by rw [flatP_get, show (i * 2 + 1) / 2 = i by omega, show (i * 2 + 1) % 2 = 1 by omega, List.getElem?_eq_getElem hlt, hp]; rfl
      haveI : OldAt w b0 (o0 + i * 2) (.int .i64 x) := ⟨HC.out _ _ hx⟩
      haveI : OldAt w b0 (o0 + i * 2 + 1) (.int .i64 y) := ⟨HC.out _ _ hy⟩
      have HT : Aside (rows.take (i + 1) = rows.take i ++ [(x, y)]) := (by rw [List.take_add_one, List.getElem?_eq_getElem hlt, hp]; rfl : _ = _)
      by_cases hk : max x 0 < y
      · have hkl : (keepR (rows.take i)).length ≤ 12 := by
          have := keepR_len (rows.take i)
          rw [List.length_take] at this
          omega
        go_wp2_with (at_builtin; go_loud (refine wpl_append_same EP rfl (.tmp 25) (.tmp 27) rfl rfl rfl (takeI (rw TRG 2 (.slice a (keepR (rows.take i)).length c) (flatP (keepR (rows.take i))))) (Src.new (b := wr.heap.size + 1) (e := TRG) (s := 2) (vs := [.int .i64 (max x 0), .int .i64 y]) (by rw [← show (wr.alloc (.cells #[.int .i64 (max x 0), .int .i64 y] TRG)).heap.size = wr.heap.size + 1 by simp]; exact takeI _) rfl (by intro u hu; simp at hu; rcases hu with rfl | rfl <;> rfl)) (by unfold maxLen; omega) (by omega) ?_; intro a' c' w2 hs6 hnil; haveI := hs6.i; clear hnil))
        go_roundg (rows.length - (i + 1))
        case measure => have := A.out; omega
        case rel =>
          refine ⟨i + 1, a', c', by go_num, by omega, rfl, ?_⟩
          rw [HT.out, keepR_append, keepR_one (by omega), List.length_append, flatP_append]
          exact satI_weak (C := Sl.block (wr.alloc (.cells #[.int .i64 (max x 0), .int .i64 y] TRG)).heap.size TRG [.int .i64 (max x 0), .int .i64 y] * Sl.block wr.heap.size TRG [.int .i64 (max x 0), .int .i64 y]) (by
            show rw TRG 2 (.slice a' ((keepR (rows.take i)).length + 1) c') _ * _ = _
            ac_rfl)
      · go_wp2
        go_roundg (rows.length - (i + 1))
        case measure => have := A.out; omega
        case rel =>
          refine ⟨i + 1, a, c, by go_num, by omega, rfl, ?_⟩
          rw [HT.out, keepR_append, keepR_none (by omega), List.append_nil]
          exact satI_weak (C := Sl.block wr.heap.size TRG [.int .i64 (max x 0), .int .i64 y]) (by ac_rfl)
    · have hlt' : ¬ (i : Int) < rows.length := by omega
      obtain rfl : i = rows.length := by omega
      rw [List.take_length] at hsr
      haveI := hsr.i
      have hkl := keepR_len rows
      have hso := sort_sat a c w.heap.size (keepR rows) (old w) wr (by omega) hsr
      have hsl := sortR_len (keepR rows)
      obtain ⟨ins, hins⟩ : ∃ l, sortR (keepR rows) = l := ⟨_, rfl⟩
      have HI : Aside (normR rows = joinR [] ins) := (by unfold normR; rw [hins] : _ = _)
      rw [hins] at hso hsl
      obtain ⟨nn, hnn⟩ : ∃ n, (keepR rows).length = n := ⟨_, rfl⟩
      rw [hnn] at hso hsl hkl
      have HSR : Aside (Sat (rw TRG 2 (.slice a nn c) (flatP (keepR rows)) * (Sl.block w.heap.size 103 [.slice a nn c] * old w)) wr) := (by rw [← hnn]; exact hsr : Sat _ _)
      haveI := HSR.out.i
      clear hsr hins hnn
      go_wp2_with fail
      refine hso.mono ?_
      rintro e w2 ⟨rfl, hs3⟩
      clear hso
      haveI := hs3.i
      have hs4 := Sat.rw_nil (e := TRG) (s := 2) (hs3.eq (show _ = rw TRG 2 (.slice a nn c) (flatP ins) * old w * Sl.block w.heap.size 103 [.slice a nn c] by ac_rfl)).weak
      go_wp2
      go_loopg [6, 36] nn (fun g t6 t36 wr => ∃ (j : Nat) (a2 : Option Addr) (c2 : Nat), t36 = .int .i64 j ∧ j ≤ nn ∧ Aside (g = nn - j ∧ (joinR [] (ins.take j) = [] → a2 = none ∧ c2 = 0)) ∧ t6 = .slice a2 (joinR [] (ins.take j)).length c2 ∧
        Sat (rw TRG 2 (.slice a2 (joinR [] (ins.take j)).length c2) (flatP (joinR [] (ins.take j))) * (rw TRG 2 (.slice a nn c) (flatP ins) * old w)) wr)
      case atStart => exact ⟨0, none, 0, rfl, by omega, ⟨rfl, fun _ => ⟨rfl, rfl⟩⟩, rfl, by simpa [joinR, flatP] using hs4⟩
      case round =>
        obtain ⟨j, a2, c2, rfl, hj, A2, rfl, hsr⟩ := hrel
        clear hs3 hs4
        have HSQ : Aside (Sat (rw TRG 2 (.slice a2 (joinR [] (ins.take j)).length c2) (flatP (joinR [] (ins.take j))) * (rw TRG 2 (.slice a nn c) (flatP ins) * old w)) wr) := hsr
        by_cases hlt : j < nn
        · have hlt' : (j : Int) < nn := by omega
          have hjl : j < ins.length := by omega
          obtain ⟨g, rfl⟩ := row_some (hsr.take (rw TRG 2 (.slice a nn c) (flatP ins))) (by omega)
          obtain ⟨⟨x, y⟩, hp⟩ : ∃ p, ins[j] = p := ⟨_, rfl⟩
          haveI : At (flatP ins) (j * 2) (.int .i64 x) := ⟨by rw [flatP_get, show j * 2 / 2 = j by omega, show j * 2 % 2 = 0 by omega, List.getElem?_eq_getElem hjl, hp]; rfl⟩
          haveI : At (flatP ins) (j * 2 + 1) (.int .i64 y) := ⟨by rw [flatP_get, show (j * 2 + 1) / 2 = j by omega, show (j * 2 + 1) % 2 = 1 by omega, List.getElem?_eq_getElem hjl, hp]; rfl⟩
          have HT : Aside (ins.take (j + 1) = ins.take j ++ [(x, y)]) := (by rw [List.take_add_one, List.getElem?_eq_getElem hjl, hp]; rfl : _ = _)
          have hol : (joinR [] (ins.take j)).length ≤ 12 := by
            have := joinR_len (ins.take j) []
            rw [List.length_take] at this
            simp at this
            omega
          obtain ⟨out, hout⟩ : ∃ l, joinR [] (ins.take j) = l := ⟨_, rfl⟩
          rw [hout] at hsr hol
          have HO : Aside (joinR [] (ins.take j) = out) := hout
          simp only [hout]
          clear hout hp
          haveI := hsr.i
          rcases List.eq_nil_or_concat out with rfl | ⟨o', ⟨px, py⟩, rfl⟩
          · have hsr2 : Sat (rw TRG 2 (.slice a2 0 c2) [] * (rw TRG 2 (.slice (some ⟨g, 0, none⟩) nn c) (flatP ins) * old w)) wr := hsr
            simp only [List.length_nil]
            haveI := hsr2.i
            go_wp2_with fail
            go_quiet (fail)
            go_wp2_with (at_builtin; go_loud (refine wpl_append_same EP rfl (.tmp 67) (.tmp 69) rfl rfl rfl (takeI (rw TRG 2 (.slice a2 0 c2) [])) (Src.new (b := wr.heap.size + 1) (e := TRG) (s := 2) (vs := [.int .i64 x, .int .i64 y]) (by rw [← show ((wr.alloc (.cells #[.int .i64 x, .int .i64 y] TRG)).drewN nq).heap.size = wr.heap.size + 1 by simp]; exact takeI _) rfl (by intro u hu; simp at hu; rcases hu with rfl | rfl <;> rfl)) (by unfold maxLen; omega) (by omega) ?_; intro a' c' w3 hs6 hnil; haveI := hs6.i; clear hnil))
            go_roundg (nn - (j + 1))
            case measure => have := A2.out.1; omega
            case rel =>
              refine ⟨j + 1, a', c', by go_num, by omega, ⟨rfl, fun h0 => ?_⟩, ?_, ?_⟩
              · rw [HT.out, joinR_snoc] at h0; exact absurd h0 (putR_ne _ _)
              · rw [HT.out, joinR_snoc, HO.out]; rfl
              · rw [HT.out, joinR_snoc, HO.out]
                refine satI_weak (C := Sl.block ((wr.alloc (.cells #[.int .i64 x, .int .i64 y] TRG)).drewN nq).heap.size TRG [.int .i64 x, .int .i64 y] * Sl.block wr.heap.size TRG [.int .i64 x, .int .i64 y]) ?_
                show rw TRG 2 (.slice a' (0 + 1) c') _ * _ = _
                ac_rfl
          · rw [List.concat_eq_append] at hsr hol HO
            have hml : (o'.concat (px, py)).length = o'.length + 1 := by simp
            rw [List.length_append, List.length_singleton] at hol
            obtain ⟨m, hm⟩ : ∃ m, o'.length = m := ⟨_, rfl⟩
            have hsr2 : Sat (rw TRG 2 (.slice a2 (m + 1) c2) (flatP (o' ++ [(px, py)])) * (rw TRG 2 (.slice (some ⟨g, 0, none⟩) nn c) (flatP ins) * old w)) wr := by
              have : (o' ++ [(px, py)]).length = m + 1 := by simp [hm]
              rw [← this]; exact hsr
            obtain ⟨g2, rfl⟩ := row_some hsr2 (by omega)
            have hp1 : (o' ++ [(px, py)])[m]? = some (px, py) := by rw [List.getElem?_append_right (by omega)]; simp [hm]
            haveI : At (flatP (o' ++ [(px, py)])) (m * 2) (.int .i64 px) := ⟨by rw [flatP_get, show m * 2 / 2 = m by omega, show m * 2 % 2 = 0 by omega, hp1]; rfl⟩
            haveI : At (flatP (o' ++ [(px, py)])) (m * 2 + 1) (.int .i64 py) := ⟨by rw [flatP_get, show (m * 2 + 1) / 2 = m by omega, show (m * 2 + 1) % 2 = 1 by omega, hp1]; rfl⟩
            rw [hm] at hol hml
            simp only [hml]
            haveI := hsr2.i
            by_cases hle : x ≤ py
            · have hd : decide (x ≤ py) = true := by simpa using hle
              go_wp2_with fail
              go_quiet (fail)
              go_wp2_with fail
              go_region
              go_wp2
              go_roundg (nn - (j + 1))
              case measure => have := A2.out.1; omega
              case rel =>
                have HP : Aside (putR (x, y) (o' ++ [(px, py)]) = o' ++ [(px, max py y)]) := (by
                  rw [putR_last]
                  show (match decide (x ≤ py) with | true => _ | false => _) = _
                  rw [hd] : _ = _)
                refine ⟨j + 1, some ⟨g2, 0, none⟩, c2, by go_num, by omega, ⟨rfl, fun h0 => ?_⟩, ?_, ?_⟩
                · rw [HT.out, joinR_snoc] at h0; exact absurd h0 (putR_ne _ _)
                · rw [HT.out, joinR_snoc, HO.out, HP.out]; simp [hm]
                · rw [HT.out, joinR_snoc, HO.out, HP.out]
                  rw [show (o' ++ [(px, max py y)]).length = m + 1 by simp [hm]]
                  have hfs := flatP_set o' px py (max py y)
                  rw [hm] at hfs
                  rw [← hfs]
                  exact satI_weak (C := Sl.block wr.heap.size TRG [.int .i64 x, .int .i64 y]) (by ac_rfl)
            · have hd : decide (x ≤ py) = false := by simpa using hle
              go_wp2_with fail
              go_quiet (fail)
              go_wp2_with (at_builtin; go_loud (refine wpl_append_same EP rfl (.tmp 67) (.tmp 69) rfl rfl rfl (takeI (rw TRG 2 (.slice (some ⟨g2, 0, none⟩) (m + 1) c2) (flatP (o' ++ [(px, py)])))) (Src.new (b := wr.heap.size + 1) (e := TRG) (s := 2) (vs := [.int .i64 x, .int .i64 y]) (by rw [← show ((wr.alloc (.cells #[.int .i64 x, .int .i64 y] TRG)).drewN nq).heap.size = wr.heap.size + 1 by simp]; exact takeI _) rfl (by intro u hu; simp at hu; rcases hu with rfl | rfl <;> rfl)) (by unfold maxLen; omega) (by omega) ?_; intro a' c' w3 hs6 hnil; haveI := hs6.i; clear hnil))
              go_roundg (nn - (j + 1))
              case measure => have := A2.out.1; omega
              case rel =>
                have HP : Aside (putR (x, y) (o' ++ [(px, py)]) = o' ++ [(px, py)] ++ [(x, y)]) := (by
                  rw [putR_last]
                  show (match decide (x ≤ py) with | true => _ | false => _) = _
                  rw [hd]
                  simp : _ = _)
                refine ⟨j + 1, a', c', by go_num, by omega, ⟨rfl, fun h0 => ?_⟩, ?_, ?_⟩
                · rw [HT.out, joinR_snoc] at h0; exact absurd h0 (putR_ne _ _)
                · rw [HT.out, joinR_snoc, HO.out, HP.out]; simp [hm]
                · rw [HT.out, joinR_snoc, HO.out, HP.out, flatP_append _ [(x, y)]]
                  rw [show (o' ++ [(px, py)] ++ [(x, y)]).length = m + 1 + 1 by simp [hm]]
                  refine satI_weak (C := Sl.block ((wr.alloc (.cells #[.int .i64 x, .int .i64 y] TRG)).drewN nq).heap.size TRG [.int .i64 x, .int .i64 y] * Sl.block wr.heap.size TRG [.int .i64 x, .int .i64 y]) ?_
                  show rw TRG 2 (.slice a' (m + 1 + 1) c') (_ ++ [Value.int .i64 x, Value.int .i64 y]) * _ = _
                  ac_rfl
        · have hlt' : ¬ (j : Int) < nn := by omega
          have hjn : j = nn := by omega
          have hfull : ins.take j = ins := List.take_of_length_le (by omega)
          have HF : Aside (ins.take j = ins) := hfull
          clear hfull hjn
          go_wp2
          go_ret
          refine ⟨_, rfl, ?_⟩
          have hq := HSQ.out
          have hn := A2.out.2
          rw [HF.out] at hq hn
          rw [HI.out, HF.out]
          refine rows_new (F := rw TRG 2 (.slice a nn c) (flatP ins)) hq fun h0 => ?_
          obtain ⟨rfl, rfl⟩ := hn h0
          rw [h0]
          rfl
end Go.Proofs.YtjclpdlijblpjaaGreat
