/-
  lru.Marked, walked from the cells alone: whatever the order of the map, the keys that are marked, rising.
-/
import Derived.Test.YtjclpdlijblpjaaGreatNm2
import Derived.Test.YtjclpdlijblpjaaGreatEvw
import Derived.Test.YtjclpdlijblpjaaGreatSort
namespace Go.Proofs.YtjclpdlijblpjaaGreat
set_option linter.unusedSimpArgs false
set_option linter.unusedVariables false
open Go.RowKit Go.Sl Go.Ev
attribute [local go_sem ↓] Go.wp_at_zero Go.wp_at_succ
attribute [local go_sem] Go.Sl.cell_sat Go.Sl.frozen_sat

theorem elemIN : ∃ i, ElemOk Tryz.prog 37 3 1 8 i (.int .i64 0) := elemOk Tryz.underlying37 (by kernel_rfl) rfl (by omega)
theorem sortI_K {l l' : List Int} (h : l.Perm l') : sortI l = sortK l' := by
  have tr : ∀ a b c : Int, decide (a ≤ b) = true → decide (b ≤ c) = true → decide (a ≤ c) = true := by intro a b c; simp; omega
  have tot : ∀ a b : Int, (decide (a ≤ b) || decide (b ≤ a)) = true := by intro a b; simp; omega
  have h1 := List.pairwise_mergeSort tr tot l
  have hp : (sortI l).Perm (sortK l') := (List.mergeSort_perm l _).trans (h.trans (sortK_perm l').symm)
  refine hp.eq_of_pairwise (le := fun a b : Int => a ≤ b) (fun a b _ _ hab hba => by omega) ?_ (sortK_sorted l')
  exact h1.imp fun h => by simpa using h
abbrev kvT (x : Int × Value × Bool) : Int × Value := (x.1, x.2.1)
theorem perm_pickT {rem : List (Int × Value)} {T1 : List (Int × Value × Bool)} (h : rem.Perm (T1.map kvT)) {i : Nat} {p : Int × Value} (hi : rem[i]? = some p) :
    ∃ l1 n l2, T1 = l1 ++ n :: l2 ∧ kvT n = p ∧ (rem.eraseIdx i).Perm ((l1 ++ l2).map kvT) := by
  have hm : p ∈ T1.map kvT := h.mem_iff.1 (List.mem_of_getElem? hi)
  obtain ⟨n, hn, rfl⟩ := List.mem_map.1 hm
  obtain ⟨l1, l2, rfl⟩ := List.append_of_mem hn
  refine ⟨l1, n, l2, rfl, rfl, ?_⟩
  have h1 : rem.Perm (kvT n :: rem.eraseIdx i) := perm_eraseIdx rem i _ hi
  have h2 : ((l1 ++ n :: l2).map kvT).Perm (kvT n :: (l1 ++ l2).map kvT) := by
    simp only [List.map_append, List.map_cons]
    exact List.perm_middle
  exact (List.perm_cons _).1 (h1.symm.trans (h.trans h2))
def MarkRelT (T : List (Int × Value × Bool)) (rem : List (Int × Value)) (ks : List Int) : Prop := ∃ T1 : List (Int × Value × Bool), rem.Perm (T1.map kvT) ∧ (∀ n ∈ T1, n ∈ T) ∧ (ks ++ markT T1).Perm (markT T) ∧ ks.length + T1.length ≤ T.length
theorem MarkRelT.step {T : List (Int × Value × Bool)} {rem : List (Int × Value)} {ks : List Int} (h : MarkRelT T rem ks) {i : Nat} {k : Int} {v : Value} (hi : rem[i]? = some (k, v)) :
    ∃ n ∈ T, k = n.1 ∧ v = n.2.1 ∧ ks.length < T.length ∧ MarkRelT T (rem.eraseIdx i) (if n.2.2 then ks ++ [n.1] else ks) := by
  obtain ⟨T1, h1, h2, h3, h4⟩ := h
  obtain ⟨l1, n, l2, rfl, hkv, hp⟩ := perm_pickT h1 hi
  simp only [kvT, Prod.mk.injEq] at hkv
  simp only [List.length_append, List.length_cons] at h4
  refine ⟨n, h2 n (by simp), hkv.1.symm, hkv.2.symm, by omega, l1 ++ l2, hp, fun m hm => h2 m (by simp only [List.mem_append, List.mem_cons] at hm ⊢; rcases hm with h | h <;> simp [h]), ?_, ?_⟩
  · refine List.Perm.trans ?_ h3
    unfold markT
    simp only [List.filter_append, List.filter_cons, List.map_append]
    cases hm : n.2.2 with
    | false => simp
    | true =>
      simp only [if_true, List.map_cons, List.append_assoc]
      refine List.Perm.append_left ks ?_
      simp only [List.singleton_append]
      exact List.perm_middle.symm
  · split
    · simp; omega
    · simp; omega
theorem ints_new {w0 w : World} {v : Value} {out : List Int} {F : Assn} (hs : Sat (rw 3 1 v (out.map (Value.int .i64)) * (F * old w0)) w) (hnil : out = [] → v = .slice none 0 0) : IntsNew 3 w0 w v out := by
  have hb := Sat.old_below (hs.eq (show _ = old w0 * (rw 3 1 v (out.map (Value.int .i64)) * F) by ac_rfl))
  refine ⟨hb.block, hb.size, hb.os, hb.tape, hb.output, ?_⟩
  rcases hs.rw_open with ⟨h1, h2, _⟩ | ⟨g, n, cap, sp, h1, h2, h3, h4, h5, h6⟩
  · left
    exact ⟨by simpa using h2, h1⟩
  · right
    have hne : out ≠ [] := fun c => by
      have := hnil c
      rw [h1] at this
      cases this
    have hn : n = out.length := by simpa using h2.symm
    subst hn
    have h7 : Sat (Sl.hdr g 3 (out.map (Value.int .i64) ++ sp).length * (old w0 * (Sl.cells g 0 (out.map (Value.int .i64) ++ sp) * F))) w := h6.eq (by unfold Sl.block; ac_rfl)
    have h8 : Sat (Sl.cells g 0 (out.map (Value.int .i64) ++ sp) * (Sl.hdr g 3 (out.map (Value.int .i64) ++ sp).length * (F * old w0))) w := h6.eq (by unfold Sl.block; ac_rfl)
    obtain ⟨c', g1, g2⟩ := h7.shp
    refine ⟨hne, g, cap - out.length, c', old_new h7, by rw [h1, show out.length + (cap - out.length) = cap by omega], g1, by rw [g2, h3]; omega, ?_⟩
    apply List.ext_getElem?
    intro i
    rw [List.getElem?_take]
    by_cases hi : i < out.length
    · rw [if_pos hi]
      obtain ⟨u, hu⟩ : ∃ u, (out.map (Value.int .i64))[i]? = some u := ⟨_, List.getElem?_eq_getElem (by simpa using hi)⟩
      have hc := h8.cells_at i u (by rw [List.getElem?_append_left (by simpa using hi)]; exact hu)
      simp [World.cell?, g1] at hc
      rw [hu, Array.getElem?_toList]
      exact hc
    · rw [if_neg hi, List.getElem?_eq_none (by simp; omega)]

set_option maxRecDepth 100000 in
set_option maxHeartbeats 1600000 in
theorem marked_at (L lo M : Nat) (o : Obj) (T : List (Int × Value × Bool)) (w : World) (hL : w.cell? ⟨L, lo + 6, none⟩ = some (.map (some M))) (hM : w.heap[M]? = some o) (ho : MapIs ikeyN o (T.map fun x => (x.1, x.2.1))) (hT : MksT w T) (hl : T.length ≤ 100) :
    Calls Tryz.prog 314 #[.pointer (some ⟨L, lo, none⟩)] w fun e w' => ∃ v', e = .returned v' ∧ IntsNew 3 w w' v' (sortK (markT T)) := by
  have hs0 : Sat (old w) w := Sat.old_self w
  obtain ⟨oi, hI, hrange⟩ := run_range_mp (P := Tryz.prog) Tryz.underlying355 hM ho
  have hs3 : Sat (raw w.heap.size oi * old w) (w.alloc oi) := hs0.alloc_raw oi
  obtain ⟨i0, EP⟩ := elemIN
  haveI : OldAt w L (lo + 6) (.map (some M)) := ⟨hL⟩
  haveI := hs0.i
  go_enter Tryz.func314, Tryz.ntmps314
  go_wp2
  go_loopg [3] T.length (fun k out wr => ∃ (a : Option Addr) (ks : List Int) (c : Nat) (oi' : Obj) (rem : List (Int × Value)), out = .slice a ks.length c ∧ Aside (k = rem.length ∧ Iter ikeyN M o oi' (T.map fun x => (x.1, x.2.1)) rem ∧ MarkRelT T rem ks ∧ (ks = [] → a = none ∧ c = 0)) ∧
    Sat (rw 3 1 (.slice a ks.length c) (ks.map (Value.int .i64)) * (raw w.heap.size oi' * old w)) wr)
  case atStart => exact ⟨none, [], 0, oi, _, rfl, ⟨by simp, hI, ⟨T, .refl _, fun _ h => h, by simp, by simp⟩, fun _ => ⟨rfl, rfl⟩⟩, hs3.rw_nil⟩
  case round =>
    obtain ⟨a, ks, c, oi', rem, rfl, A, hsr⟩ := hrel
    obtain ⟨hgk, hI', hR, hz⟩ := A.out
    have hsn := hsr.eq (B := raw M o * (raw w.heap.size oi' * (oldBut M w * rw 3 1 (.slice a ks.length c) (ks.map (Value.int .i64))))) (by rw [old_split hM]; ac_rfl)
    clear hI hs3 hrange hs0
    rcases run_next_sl (P := Tryz.prog) hsn hI' with ⟨hrem, hnext⟩ | ⟨i, k, v, oi2, w2, hi, hnext, hI2, hs4, hentry⟩
    · subst hrem
      obtain ⟨T1, hp1, _, hp2, hl2⟩ := hR
      have hT1 : T1 = [] := by have := hp1.length_eq; simpa using this.symm
      subst hT1
      have hks : ks.Perm (markT T) := by simpa [markT] using hp2
      have hkl : ks.length < 4611686018427387904 := by simp at hl2; omega
      have hsort := sortInts_sl a ks.length c ks _ wr hsr hkl
      rw [sortI_K hks] at hsort
      have HS : Aside (Calls Tryz.prog 171 #[.slice a ks.length c] wr fun e w' => e = .returned (.tuple #[]) ∧ Sat (rw 3 1 (.slice a ks.length c) ((sortK (markT T)).map (Value.int .i64)) * (raw w.heap.size oi' * old w)) w') := hsort
      have HZ : Aside (sortK (markT T) = [] → (Value.slice a ks.length c) = .slice none 0 0) := fun h0 => by
        have h1 := (sortK_perm (markT T)).length_eq
        have h2 := hks.length_eq
        rw [h0] at h1
        have h3 : ks = [] := List.length_eq_zero_iff.1 (by simpa using h2.trans h1.symm)
        obtain ⟨rfl, rfl⟩ := hz h3
        rw [h3]
        rfl
      clear hsn hI' A hp1 hp2 hl2 hks hkl hsr hsort hz
      go_wp2_with fail
      refine HS.out.mono ?_
      rintro e w3 ⟨rfl, hs3⟩
      have HR : Aside (IntsNew 3 w w3 (.slice a ks.length c) (sortK (markT T))) := ints_new hs3 HZ.out
      clear hs3
      go_wp2
      go_ret
      exact ⟨_, rfl, HR.out⟩
    · obtain ⟨⟨nk, nv, mk⟩, hn', rfl, rfl, hkl, hR2⟩ := hR.step hi
      obtain ⟨b, o2, hv, hc⟩ := hT _ hn'
      simp only at hv hc
      subst hv
      have hlt : (rem.eraseIdx i).length < rem.length := by
        have := (List.getElem?_eq_some_iff.1 hi).1
        rw [List.length_eraseIdx]; split <;> omega
      have HL : Aside ((rem.eraseIdx i).length < rem.length ∧ gk = rem.length) := ⟨hlt, hgk⟩
      have HI : Aside (Iter ikeyN M o oi2 (T.map fun x => (x.1, x.2.1)) (rem.eraseIdx i)) := hI2
      have HZ : Aside (ks = [] → a = none ∧ c = 0) := hz
      have hs5 : Sat (rw 3 1 (.slice a ks.length c) (ks.map (Value.int .i64)) * (raw w.heap.size oi2 * old w)) w2 := hs4.eq (by rw [old_split hM]; ac_rfl)
      haveI : OldAt w b (o2 + 2) (.bool mk) := ⟨hc⟩
      clear hsn hI' A hsr hlt hgk hI2 hi hR hs4 hz hn'
      haveI := hs5.i
      cases mk with
      | false =>
        have HR : Aside (MarkRelT T (rem.eraseIdx i) ks) := (by simpa using hR2 : MarkRelT T (rem.eraseIdx i) ks)
        clear hR2
        go_wp2
        go_roundg (rem.eraseIdx i).length
        case measure => have := HL.out; omega
        case rel => exact ⟨a, ks, c, oi2, _, rfl, ⟨rfl, HI.out, HR.out, HZ.out⟩, satI⟩
      | true =>
        have HR : Aside (MarkRelT T (rem.eraseIdx i) (ks ++ [k])) := (by simpa using hR2 : MarkRelT T (rem.eraseIdx i) (ks ++ [k]))
        clear hR2
        go_wp2_with (at_builtin; go_loud (refine wpl_append_same EP rfl (.tmp 22) (.tmp 24) rfl rfl rfl (takeI (rw 3 1 (.slice a ks.length c) (ks.map (Value.int .i64)))) (Src.new (b := w2.heap.size) (e := 3) (s := 1) (vs := [.int .i64 k]) (takeI _) rfl (by intro u hu; simp at hu; subst hu; rfl)) (by unfold maxLen; omega) (by omega) ?_; intro a' c' w3 hs6 hnil; haveI := hs6.i; clear hnil))
        go_roundg (rem.eraseIdx i).length
        case measure => have := HL.out; omega
        case rel =>
          refine ⟨a', ks ++ [k], c', oi2, _, by simp, ⟨rfl, HI.out, HR.out, fun h0 => by simp at h0⟩, ?_⟩
          rw [List.map_append, List.length_append]
          exact satI_weak (C := Sl.block w2.heap.size 3 [.int .i64 k]) (by
            show rw 3 1 (.slice a' (ks.length + 1) c') _ * _ = _
            ac_rfl)
end Go.Proofs.YtjclpdlijblpjaaGreat
