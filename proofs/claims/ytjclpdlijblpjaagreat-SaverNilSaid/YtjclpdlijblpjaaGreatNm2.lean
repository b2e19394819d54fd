/-
  space.listed, walked: whatever the order of the map, the rows that ranges.Normal makes of its keys.
-/
import Derived.Test.YtjclpdlijblpjaaGreatNm0
import Derived.Sort.LotA
namespace Go.Sl
set_option linter.unusedSimpArgs false
set_option linter.unusedVariables false
/-- all blocks of w0 but one -/
def oldBut (M : Nat) (w0 : World) : Assn := fun h => h = fun k => match k with
  | .raw b => if b = M then none else (w0.heap[b]?).map Res.obj
  | .env => some (.io w0.os w0.tape w0.output)
  | _ => none
theorem old_split {M : Nat} {o : Obj} {w0 : World} (hM : w0.heap[M]? = some o) : old w0 = raw M o * oldBut M w0 := by
  funext h
  apply propext
  constructor
  · intro e
    have e : h = _ := e
    subst e
    refine ⟨_, _, ?_, ?_, rfl, rfl⟩
    · intro k k' h1 h2 hc
      rw [one_ne] at h1
      subst h1
      rcases hc with rfl | ⟨_, hc⟩
      · simp at h2
      · cases k' with
        | raw b => simp only [Key.blk, Option.some.injEq] at hc; subst hc; simp at h2
        | cell b i => simp at h2
        | hdr b => simp at h2
        | env => cases hc
    · funext k
      unfold Hp.un one
      cases k with
      | raw b =>
        by_cases hb : b = M
        · subst hb; simp [hM]
        · simp [hb]
      | cell b i => simp
      | hdr b => simp
      | env => simp
  · rintro ⟨g, k, d, rfl, hg, hk⟩
    have hg : g = _ := hg
    have hk : k = _ := hk
    subst hg hk
    show _ = _
    funext k
    unfold Hp.un one
    cases k with
    | raw b =>
      by_cases hb : b = M
      · subst hb; simp [hM]
      · simp [hb]
    | cell b i => simp
    | hdr b => simp
    | env => simp
end Go.Sl
namespace Go.Proofs.YtjclpdlijblpjaaGreat
set_option linter.unusedSimpArgs false
set_option linter.unusedVariables false
open Go.RowKit Go.Sl Go.Ev
attribute [local go_sem ↓] Go.wp_at_zero Go.wp_at_succ
attribute [local go_sem] Go.Sl.cell_sat Go.Sl.frozen_sat

abbrev ikeyN : Int → Value := fun n => Value.int .i64 n
theorem swo_ltR : Sort.SWO ltR := ⟨fun x => by simp [ltR], fun x y z => by simp only [ltR, decide_eq_true_eq]; omega, fun x y z => by simp only [ltR, decide_eq_false_iff_not]; omega⟩
theorem sortR_spec (l : List (Int × Int)) : (sortR l).Perm l ∧ (sortR l).Pairwise (fun a b => a.1 ≤ b.1) := by
  rcases Nat.eq_zero_or_pos l.length with h | h
  · have : l = [] := List.length_eq_zero_iff.1 h
    subst this
    exact ⟨.refl _, .nil⟩
  · have hs := sorted_eq l.length h l.toArray
    have key := Sort.insertionSort_holds (lt := ltR) swo_ltR l.toArray 0 l.length (Nat.zero_le _) (by simp)
    rw [hs] at key
    obtain ⟨⟨k1, _, k3⟩, k4⟩ := key
    have hlen : (insO (l.length - 1) 1 l.toArray).size = l.length := by rw [k1]; simp
    refine ⟨?_, ?_⟩
    · unfold sortR
      have e1 : (insO (l.length - 1) 1 l.toArray).extract 0 l.length = insO (l.length - 1) 1 l.toArray := by
        apply Array.extract_eq_self_of_le; omega
      have e2 : l.toArray.extract 0 l.length = l.toArray := by simp
      rw [e1, e2] at k3
      simpa using k3
    · unfold sortR
      rw [List.pairwise_iff_getElem]
      intro i j hi hj hij
      simp only [Array.length_toList] at hi hj
      have := k4 i j (Nat.zero_le _) hij (by omega)
      rw [getElem!_pos (insO (l.length - 1) 1 l.toArray) i hi, getElem!_pos (insO (l.length - 1) 1 l.toArray) j hj] at this
      simp only [ltR, decide_eq_false_iff_not] at this
      simp only [Array.getElem_toList]
      omega
def pageR (ks : List Int) : List (Int × Int) := ks.map fun k => (k, k + 1)
theorem keepR_page : ∀ ks : List Int, (∀ k ∈ ks, 0 ≤ k) → keepR (pageR ks) = pageR ks
  | [], _ => rfl
  | k :: ks, h => by
    have h0 := h k (by simp)
    have h1 := keepR_page ks fun x hx => h x (by simp [hx])
    show (match decide (max k 0 < k + 1) with | true => (max k 0, k + 1) :: keepR (pageR ks) | false => keepR (pageR ks)) = (k, k + 1) :: pageR ks
    rw [h1, show max k 0 = k by omega, show decide (k < k + 1) = true from decide_eq_true (by omega)]
theorem normR_perm {ks ks' : List Int} (h : ks.Perm ks') (h0 : ∀ k ∈ ks', 0 ≤ k) : normR (pageR ks) = normR (pageR ks') := by
  unfold normR
  rw [keepR_page ks fun k hk => h0 k (h.mem_iff.1 hk), keepR_page ks' h0]
  congr 1
  obtain ⟨p1, s1⟩ := sortR_spec (pageR ks)
  obtain ⟨p2, s2⟩ := sortR_spec (pageR ks')
  have hp : (sortR (pageR ks)).Perm (sortR (pageR ks')) := p1.trans ((h.map _).trans p2.symm)
  have mem : ∀ x ∈ sortR (pageR ks), x.2 = x.1 + 1 := fun x hx => by
    obtain ⟨k, _, rfl⟩ := List.mem_map.1 (p1.mem_iff.1 hx)
    rfl
  have mem' : ∀ x ∈ sortR (pageR ks'), x.2 = x.1 + 1 := fun x hx => by
    obtain ⟨k, _, rfl⟩ := List.mem_map.1 (p2.mem_iff.1 hx)
    rfl
  refine hp.eq_of_pairwise (fun a b ha hb hab hba => ?_) s1 s2
  have h1 := mem a ha
  have h2 := mem' b hb
  have h3 : a.1 = b.1 := by omega
  exact Prod.ext h3 (by omega)
theorem rows_at {w : World} {a : Option Addr} {c : Nat} {rows : List (Int × Int)} {F : Assn} (hs : Sat (rw TRG 2 (.slice a rows.length c) (flatP rows) * F) w) (hn : 0 < rows.length) : RowsAt w (.slice a rows.length c) rows := by
  rcases hs.rw_open with ⟨h1, _⟩ | ⟨g, n, cap, sp, h1, h2, h3, h4, h5, h6⟩
  · injection h1 with _ h1 _; omega
  · injection h1 with h1 h7 h8
    subst h1 h8
    refine ⟨g, 0, c, rfl, fun j u hj => ?_⟩
    have h8 : Sat (Sl.cells g 0 (flatP rows ++ sp) * (Sl.hdr g TRG (flatP rows ++ sp).length * F)) w := h6.eq (by unfold Sl.block; ac_rfl)
    have := h8.cells_at j u (by rw [List.getElem?_append_left (List.getElem?_eq_some_iff.1 hj).1]; exact hj)
    simpa using this
theorem RowsNew.trans {t : TypeId} {w0 w w' : World} {v : Value} {rows : List (Int × Int)} (hb : Below w0.heap.size w0 w) (h : RowsNew t w w' v rows) : RowsNew t w0 w' v rows := by
  obtain ⟨z1, z2, z3, z4, z5, z6⟩ := h
  have hsz := hb.size
  refine ⟨fun b hlt => ?_, by omega, z3.trans hb.os, z4.trans hb.tape, z5.trans hb.output, ?_⟩
  · rw [z1 b (by omega)]; exact hb.block b hlt
  · rcases z6 with h | ⟨h1, b, x, c', h2, h3⟩
    · exact .inl h
    · exact .inr ⟨h1, b, x, c', by omega, h3⟩

set_option maxRecDepth 100000 in
set_option maxHeartbeats 1600000 in
theorem listed_any (M : Nat) (o : Obj) (ms : List (Int × Value)) (w : World) (hM : w.heap[M]? = some o) (ho : MapIs ikeyN o ms) (hk : ∀ p ∈ ms, 0 ≤ p.1 ∧ p.1 < 1099511627776) (hn : 0 < ms.length) (hl : ms.length ≤ 12) :
    Calls Tryz.prog 158 #[.map (some M)] w fun e w' => ∃ v', e = .returned v' ∧ RowsNew TRG w w' v' (normR (pageR (ms.map (·.1)))) := by
  have hs0 : Sat (old w) w := Sat.old_self w
  obtain ⟨oi, hI, hrange⟩ := run_range_mp (P := Tryz.prog) Tryz.underlying212 hM ho
  have hs3 : Sat (raw w.heap.size oi * old w) (w.alloc oi) := hs0.alloc_raw oi
  obtain ⟨i0, EP⟩ := elemRG
  go_enter Tryz.func158, Tryz.ntmps158
  go_wp2
  go_loopg [3] ms.length (fun g out wr => ∃ (a : Option Addr) (ks : List Int) (c : Nat) (oi' : Obj) (rem : List (Int × Value)), out = .slice a ks.length c ∧ Aside (g = rem.length ∧ Iter ikeyN M o oi' ms rem ∧ (rem.map (·.1) ++ ks).Perm (ms.map (·.1))) ∧
    Sat (rw TRG 2 (.slice a ks.length c) (flatP (pageR ks)) * (raw w.heap.size oi' * old w)) wr)
  case atStart => exact ⟨none, [], 0, oi, ms, rfl, ⟨rfl, hI, by simp⟩, by simpa [pageR, flatP] using hs3.rw_nil (e := TRG) (s := 2)⟩
  case round =>
    obtain ⟨a, ks, c, oi', rem, rfl, A, hsr⟩ := hrel
    obtain ⟨hgk, hI', hR⟩ := A.out
    have hsn := hsr.eq (B := raw M o * (raw w.heap.size oi' * (oldBut M w * rw TRG 2 (.slice a ks.length c) (flatP (pageR ks))))) (by rw [old_split hM]; ac_rfl)
    clear hI hs3 hrange hs0
    rcases run_next_sl (P := Tryz.prog) hsn hI' with ⟨hrem, hnext⟩ | ⟨i, k, v, oi2, w2, hi, hnext, hI2, hs4, hentry⟩
    · subst hrem
      have hks : ks.Perm (ms.map (·.1)) := by simpa using hR
      have hkl : ks.length = ms.length := by simpa using hks.length_eq
      have hat : RowsAt wr (.slice a ks.length c) (pageR ks) := by
        have := rows_at (rows := pageR ks) (a := a) (c := c) (F := raw w.heap.size oi' * old w) (by simpa [pageR] using hsr) (by simp [pageR]; omega)
        simpa [pageR] using this
      have hnorm := normal_any _ (pageR ks) wr (by simp [pageR]; omega) hat
      rw [normR_perm hks (fun k hk' => by obtain ⟨p, hp, rfl⟩ := List.mem_map.1 hk'; exact (hk p hp).1)] at hnorm
      have hbel := Sat.old_below (hsr.eq (show _ = old w * (rw TRG 2 (.slice a ks.length c) (flatP (pageR ks)) * raw w.heap.size oi') by ac_rfl))
      have HB : Aside (Below w.heap.size w wr) := hbel
      have HN : Aside (Calls Tryz.prog 157 #[.slice a ks.length c] wr fun e w' => ∃ v', e = .returned v' ∧ RowsNew TRG wr w' v' (normR (pageR (ms.map (·.1))))) := hnorm
      clear hsn hI' A hks hkl hsr hat hnorm hbel hR
      go_wp2_with fail
      refine HN.out.mono ?_
      rintro e w3 ⟨v', rfl, hs3⟩
      have HR : Aside (RowsNew TRG w w3 v' (normR (pageR (ms.map (·.1))))) := RowsNew.trans HB.out hs3
      clear hs3
      go_wp2
      go_ret
      exact ⟨_, rfl, HR.out⟩
    · have hmem : (k, v) ∈ rem := List.mem_of_getElem? hi
      have hin : k ∈ ms.map (·.1) := hR.mem_iff.1 (by simp only [List.mem_append, List.mem_map]; exact .inl ⟨_, hmem, rfl⟩)
      obtain ⟨hk0, hk1⟩ : 0 ≤ k ∧ k < 1099511627776 := by obtain ⟨p, hp, rfl⟩ := List.mem_map.1 hin; exact hk p hp
      have hlt : (rem.eraseIdx i).length < rem.length := by
        have := (List.getElem?_eq_some_iff.1 hi).1
        rw [List.length_eraseIdx]; split <;> omega
      have hlen : rem.length + ks.length = ms.length := by simpa using hR.length_eq
      have hrl : 0 < rem.length := by omega
      have hR2 : ((rem.eraseIdx i).map (·.1) ++ (ks ++ [k])).Perm (ms.map (·.1)) := by
        refine List.Perm.trans ?_ hR
        have h1 := (perm_eraseIdx rem i _ hi).map (·.1)
        simp only [List.map_cons] at h1
        have h2 : ((rem.eraseIdx i).map (·.1) ++ (ks ++ [k])).Perm (k :: ((rem.eraseIdx i).map (·.1) ++ ks)) := by
          rw [← List.append_assoc]
          exact List.perm_append_singleton _ _
        exact h2.trans ((h1.append_right ks).symm)
      have HL : Aside ((rem.eraseIdx i).length < rem.length ∧ gk = rem.length) := ⟨hlt, hgk⟩
      have HI : Aside (Iter ikeyN M o oi2 ms (rem.eraseIdx i) ∧ ((rem.eraseIdx i).map (·.1) ++ (ks ++ [k])).Perm (ms.map (·.1))) := ⟨hI2, hR2⟩
      have hs5 : Sat (rw TRG 2 (.slice a ks.length c) (flatP (pageR ks)) * (raw w.heap.size oi2 * old w)) w2 := hs4.eq (by rw [old_split hM]; ac_rfl)
      have hkl : ks.length ≤ 12 := by omega
      clear hsn hI' A hsr hlt hgk hI2 hi hR hR2 hmem hin hlen hrl hs4
      haveI := hs5.i
      go_wp2_with (at_builtin; go_loud (refine wpl_append_same EP rfl (.tmp 11) (.tmp 16) rfl rfl rfl (takeI (rw TRG 2 (.slice a ks.length c) (flatP (pageR ks)))) (Src.new (b := w2.heap.size) (e := TRG) (s := 2) (vs := [.int .i64 k, .int .i64 (k + 1)]) (takeI _) rfl (by intro u hu; simp at hu; rcases hu with rfl | rfl <;> rfl)) (by unfold maxLen; omega) (by omega) ?_; intro a' c' w3 hs6 hnil; haveI := hs6.i; clear hnil))
      go_roundg (rem.eraseIdx i).length
      case measure => have := HL.out; omega
      case rel =>
        refine ⟨a', ks ++ [k], c', oi2, _, by simp, ⟨rfl, HI.out.1, HI.out.2⟩, ?_⟩
        rw [show pageR (ks ++ [k]) = pageR ks ++ [(k, k + 1)] by simp [pageR], flatP_append, List.length_append]
        exact satI_weak (C := Sl.block w2.heap.size TRG [.int .i64 k, .int .i64 (k + 1)]) (by
          show rw TRG 2 (.slice a' (ks.length + 1) c') _ * _ = _
          ac_rfl)
end Go.Proofs.YtjclpdlijblpjaaGreat
