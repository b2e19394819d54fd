/-
  Walks of package disk: Free, Names.
-/
import Derived.Test.YtjhkmmpgjiciiaaDk12
import Derived.Test.YtjhkmmpgjiciiaaDk13
import Derived.Test.YtjhkmmpgjiciiaaDk3
import Derived.Test.YtjhkmmpgjiciiaaSort
import Derived.Deep.DrawnRows
import Derived.Deep.RegionHeld3
import Derived.IntWalk
namespace Go.Proofs.Ytjhkmmpgjiciiaa
set_option linter.unusedSimpArgs false
set_option linter.unusedVariables false
open Go.RowKit Go.Sl Go.Dk
attribute [local go_sem ↓] Go.wp_at_zero Go.wp_at_succ
attribute [local go_sem] Go.Sl.cell_sat Go.Sl.frozen_sat

abbrev TS : TypeId := 9
def sortS (l : List (List UInt8)) : List (List UInt8) := l.mergeSort fun x y => decide (x ≤ y)

theorem sortStrings_sl (a : Option Addr) (n c : Nat) (ss : List (List UInt8)) (F : Assn) (w : World) (hs : Sat (rw TS 1 (.slice a n c) (ss.map Go.Proofs.encStr) * F) w) (hm : ss.length < 4611686018427387904) :
    Calls Try.prog 91 #[.slice a n c] w fun e w' => e = .returned (.tuple #[]) ∧ Sat (rw TS 1 (.slice a n c) ((sortS ss).map Go.Proofs.encStr) * F) w' := by
  rcases hs.rw_open with ⟨h1, h2, h3⟩ | ⟨g, n', cap', sp, h1, h2, h3, h4, h5, h6⟩
  · cases h1
    have : ss = [] := by simpa using h2
    subst this
    refine (Try.sort_Strings_none none 0 w).mono fun e w' ⟨h, h'⟩ => ⟨h, ?_⟩
    subst h'
    simpa [sortS] using hs
  · cases h1
    have hn : n = ss.length := by simpa using h2.symm
    subst hn
    have hw := h6.block_heap
    have hH : Go.Sort.Holds Go.Proofs.encStr w g 0 ss.toArray := by
      intro j hj
      simp only [List.size_toArray] at hj
      have h7 : Sat (cells g 0 (ss.map Go.Proofs.encStr) * (hdr g TS (ss.map Go.Proofs.encStr ++ sp).length * (cells g (ss.map Go.Proofs.encStr).length sp * F))) w := h6.eq (by rw [block_split]; ac_rfl)
      refine ⟨?_, by simp [World.frozen?, hw]⟩
      rw [h7.cells_at j (Go.Proofs.encStr ss[j]) (by simp [hj])]
      simp [hj]
    refine (Try.sort_Strings g 0 c ss w hH (lt_of_some hw) hm).mono fun e w' ⟨h, nn, os, h'⟩ => ⟨h, ?_⟩
    subst h'
    have hl : (sortS ss).length = ss.length := List.length_mergeSort ss
    have h8 := sort_row Go.Proofs.encStr (n := nn) (os := os) (ys := sortS ss) h6 hl
    refine Sat.rw_shut (sp := sp) ?_ ?_ h4 h5 h8
    · simp [hl]
    · have : ((ss.map Go.Proofs.encStr) ++ sp).length = c * 1 := h3
      simp only [List.length_append, List.length_map, hl] at this ⊢
      exact this

section
variable (D M : Nat) (pv : Value) (d : Dk)
instance : HasC (coreD D M pv d) D 0 (.int .i64 d.room) := by unfold coreD; infer_instance
instance : HasC (coreD D M pv d) D 1 (.int .i64 d.changes) := by unfold coreD; infer_instance
instance : HasC (coreD D M pv d) D 2 (.int .i64 d.left) := by unfold coreD; infer_instance
instance : HasC (coreD D M pv d) D 3 (.bool d.armed) := by unfold coreD; infer_instance
instance : HasC (coreD D M pv d) D 4 (.bool d.down) := by unfold coreD; infer_instance
instance : HasC (coreD D M pv d) D 5 (.map (some M)) := by unfold coreD; infer_instance
instance : HasC (coreD D M pv d) D 6 pv := by unfold coreD; infer_instance
end

theorem lens_le {m : Nat} {d : Dk} (ok : Ok m d) {ns : List Nf} (h : fents ns = d.files) : lens ns ≤ 4611686018427387904 := by
  have h1 : ∀ l : List Nf, (∀ n ∈ l, n.f.now.length ≤ big) → lens l ≤ l.length * big := by
    intro l
    induction l with
    | nil => intro _; simp [lens]
    | cons n l ih =>
      intro hl
      have := ih fun m hm => hl m (by simp [hm])
      rw [lens_cons, List.length_cons, Nat.add_mul]
      have := hl n (by simp)
      omega
  have h2 := h1 ns fun n hn => (ok.sz (n.nm, n.f) (by rw [← h]; exact List.mem_map.2 ⟨n, hn, rfl⟩)).1
  have h3 : ns.length ≤ 16 := by have := ok.nf; rw [← h] at this; simpa [fents] using this
  have h4 := Nat.mul_le_mul_right big h3
  unfold big at *
  omega

set_option maxHeartbeats 800000 in
theorem free_any (D : Nat) (d : Dk) (m : Nat) (F : Assn) (w : World) (hs : Sat (diskP D d * F) w) (ok : Ok m d) :
    Calls Try.prog 45 #[.pointer (some ⟨D, 0, none⟩)] w fun e w' => e = .returned (.int .i64 d.free) ∧ Sat (diskP D d * F) w' := by
  obtain ⟨M, ns, pv, ps, h1, h2, hs1⟩ := Sat.disk_open hs
  have hlb := lens_le ok h1
  have hsum := fun F w h => sum_any D M ns pv ps d F w h hlb
  have hfr : d.free = max 0 (d.room - (lens ns : Int)) := by unfold Dk.free; rw [← h1, lens_sum]
  rw [hfr]
  have hr := ok.room
  have hbig : big = 1099511627776 := rfl
  rw [hbig] at hr
  obtain ⟨hr0, hr1⟩ := hr
  have HS : Aside (∀ (F : Assn) (w : World), Sat (diskA D M ns pv ps d * F) w → Calls Try.prog 90 #[.pointer (some ⟨D, 0, none⟩)] w fun e w' => e = .returned (.int .i64 (lens ns : Nat)) ∧ Sat (diskA D M ns pv ps d * F) w') := hsum
  have HH : Aside (fents ns = d.files ∧ pents ps = d.pend) := ⟨h1, h2⟩
  have hs2 : Sat (coreD D M pv d * ((mp skey M (ns.map kvF) * (filesA ns * pendA pv ps)) * F)) w := hs1.eq (by unfold diskA; rw [sep_assoc])
  haveI := hs2.i
  clear hsum hfr h1 h2 hs hbig
  go_enter Try.func45, Try.ntmps45
  go_upto_region 3 with (fail)
  have hw1 : IntKind.i64.wrap (d.room - (lens ns : Int)) = d.room - (lens ns : Int) := IntWalk.i64_in _ (by omega)
  go_region_held3 (fun w' => w'.cell? ⟨D, 0, none⟩ = some (.int .i64 d.room)) (first | exact cell_sat _ _ _) (first
    | (go_at_call 90; refine (HS.out F _ (satI_eq (by unfold diskA; ac_rfl))).mono ?_; rintro e w2 ⟨rfl, hs3⟩; haveI := (show Sat (coreD D M pv d * ((mp skey M (ns.map kvF) * (filesA ns * pendA pv ps)) * F)) w2 from hs3.eq (by unfold diskA; rw [sep_assoc])).i))
  all_goals
    clear hw1
    go_wp2
    go_ret
    refine ⟨?_, Sat.disk_shut (M := M) (pv := pv) HH.out.1 HH.out.2 (satI_eq (by unfold diskA; ac_rfl))⟩
    first | rfl | (congr 1)

def nmL (d : Dk) : List (List UInt8) := d.files.map fun p => p.1.data.toList
theorem elemS : ∃ i, ElemOk Try.prog 83 TS 1 16 i (.string ByteArray.empty) := elemOk Try.underlying83 (by kernel_rfl) rfl (by omega)

theorem names_down (D : Nat) (d : Dk) (F : Assn) (w : World) (hs : Sat (diskP D d * F) w) (hd : d.down = true) :
    Calls Try.prog 48 #[.pointer (some ⟨D, 0, none⟩)] w fun e w' => e = .returned (.slice none 0 0) ∧ w = w' := by
  obtain ⟨M, ns, pv, ps, h1, h2, hs1⟩ := Sat.disk_open hs
  have hs2 : Sat (coreD D M pv d * ((mp skey M (ns.map kvF) * (filesA ns * pendA pv ps)) * F)) w := hs1.eq (by unfold diskA; rw [sep_assoc])
  haveI := hs2.i
  clear h1 h2 hs hs1
  go_enter Try.func48, Try.ntmps48
  go_wp2
  go_ret
  exact ⟨rfl, rfl⟩

theorem encStr_nm (s : ByteArray) : Go.Proofs.encStr s.data.toList = .string s := by
  simp [Go.Proofs.encStr]

def NmRel (ns : List Nf) (rem : List (ByteArray × Value)) (ks : List (List UInt8)) : Prop :=
  ∃ ns1 : List Nf, rem.Perm (ns1.map kvF) ∧ (ks ++ ns1.map (fun n => n.nm.data.toList)).Perm (ns.map fun n => n.nm.data.toList) ∧ ks.length + ns1.length = ns.length

set_option maxHeartbeats 800000 in
theorem names_any (D : Nat) (d : Dk) (m : Nat) (F : Assn) (w : World) (hs : Sat (diskP D d * F) w) (ok : Ok m d) (hd : d.down = false) :
    Calls Try.prog 48 #[.pointer (some ⟨D, 0, none⟩)] w fun e w' => ∃ a n c ks, e = .returned (.slice a n c) ∧ ks.Perm (nmL d) ∧ Sat (rw TS 1 (.slice a n c) ((sortS ks).map Go.Proofs.encStr) * (diskP D d * F)) w' := by
  obtain ⟨i0, E⟩ := elemS
  obtain ⟨M, ns, pv, ps, h1, h2, hs1⟩ := Sat.disk_open hs
  have hs0 : Sat (coreD D M pv d * (mp skey M (ns.map kvF) * (filesA ns * pendA pv ps)) * F) w := hs1
  obtain ⟨o, ho, hs2⟩ := (hs0.take (mp skey M (ns.map kvF))).mp_open
  obtain ⟨oi, hI, hrange⟩ := run_range_mp (P := Try.prog) Try.underlying113 hs2.obj ho
  have hs4 := hs2.alloc_raw oi
  have hs3 : Sat (raw M o * (raw w.heap.size oi * (coreD D M pv d * (filesA ns * pendA pv ps) * F))) (w.alloc oi) := hs4.eq (by ac_rfl)
  have hn16 : ns.length ≤ 16 := by have := ok.nf; rw [← h1] at this; simpa [fents] using this
  have HH : Aside (fents ns = d.files ∧ pents ps = d.pend ∧ MapIs skey o (ns.map kvF) ∧ nmL d = ns.map (fun n => n.nm.data.toList)) := ⟨h1, h2, ho, by unfold nmL; rw [← h1]; simp [fents]⟩
  haveI := hs0.i
  clear hs4 hs2 hs1 hs ho h1 h2
  go_enter Try.func48, Try.ntmps48
  go_wp2
  go_loopg [3] ns.length (fun k out wr => ∃ (a : Option Addr) (ks : List (List UInt8)) (c : Nat) (oi' : Obj) (rem : List (ByteArray × Value)), out = .slice a ks.length c ∧ ks.length ≤ 16 ∧ Aside (k = rem.length ∧ Iter skey M o oi' (ns.map kvF) rem ∧ NmRel ns rem ks) ∧
    Sat (rw TS 1 (.slice a ks.length c) (ks.map Go.Proofs.encStr) * (raw M o * (raw w.heap.size oi' * (coreD D M pv d * (filesA ns * pendA pv ps) * F)))) wr)
  case atStart => exact ⟨none, [], 0, oi, ns.map kvF, rfl, by simp, ⟨by simp, hI, ns, .refl _, by simp, by simp⟩, hs3.rw_nil⟩
  case round =>
    obtain ⟨a, ks, c, oi', rem, rfl, hk16, A, hsr⟩ := hrel
    obtain ⟨hgk, hI', hR⟩ := A.out
    have hsn := hsr.eq (B := raw M o * (raw w.heap.size oi' * (rw TS 1 (.slice a ks.length c) (ks.map Go.Proofs.encStr) * (coreD D M pv d * (filesA ns * pendA pv ps) * F)))) (by ac_rfl)
    clear hI hs3 hrange hs0
    rcases run_next_sl (P := Try.prog) hsn hI' with ⟨hrem, hnext⟩ | ⟨i, k, v, oi2, w2, hi, hnext, hI2, hs4, hentry⟩
    · subst hrem
      obtain ⟨ns1, hp1, hp2, hl2⟩ := hR
      have hns1 : ns1 = [] := by have := hp1.length_eq; simpa using this.symm
      subst hns1
      have hks : ks.Perm (nmL d) := by rw [HH.out.2.2.2]; simpa using hp2
      have hsort := sortStrings_sl a ks.length c ks _ wr hsr (by omega)
      have HKS : Aside (ks.Perm (nmL d)) := hks
      have HI : Aside (Iter skey M o oi' (ns.map kvF) []) := hI'
      clear hsn hI' A hp1 hp2 hl2 hks hsr
      go_wp2_with (go_at_call 91; refine hsort.mono ?_; rintro e w3 ⟨rfl, hs3⟩)
      go_ret
      refine ⟨a, ks.length, c, ks, rfl, HKS.out, ?_⟩
      have hs5 := Sat.mp_shut HI.out.mapIs (hs3.take (raw M o))
      rw [sep_left]
      refine Sat.disk_shut (M := M) (pv := pv) HH.out.1 HH.out.2.1 ?_
      refine Sat.weak (B := raw w.heap.size oi') (hs5.eq ?_)
      unfold diskA
      ac_rfl
    · obtain ⟨ns1, hp1, hp2, hl2⟩ := hR
      obtain ⟨n, ns2, hq1, hx, hq2⟩ := perm_map_step hp1 hi
      cases hx
      have hlt : (rem.eraseIdx i).length < rem.length := by
        have := (List.getElem?_eq_some_iff.1 hi).1
        rw [List.length_eraseIdx]; split <;> omega
      have hl3 : ns1.length = ns2.length + 1 := by simpa using hq1.length_eq
      have hk15 : ks.length + 1 ≤ 16 := by omega
      have HL : Aside ((rem.eraseIdx i).length < rem.length ∧ gk = rem.length) := ⟨hlt, hgk⟩
      have HI : Aside (Iter skey M o oi2 (ns.map kvF) (rem.eraseIdx i)) := hI2
      have HR : Aside (NmRel ns (rem.eraseIdx i) (ks ++ [n.nm.data.toList])) := by
        refine ⟨ns2, hq2, ?_, by simp; omega⟩
        refine List.Perm.trans ?_ hp2
        rw [List.append_assoc]
        refine List.Perm.append_left ks ?_
        have := (hq1.map (fun n : Nf => n.nm.data.toList)).symm
        simpa using this
      clear hsn hI' A hsr hlt hgk hI2 hi hp1 hp2 hl2 hq1 hq2 hl3
      have hs5 := hs4.alloc #[.string n.nm] TS
      have hs6 := hs5.take (rw TS 1 (.slice a ks.length c) (ks.map Go.Proofs.encStr))
      have hx := Src.one_new (P := Try.prog) hs5 rfl
      clear hs5
      go_wp2_with (at_builtin; refine wpl_append_same E rfl (.tmp 22) (.tmp 24) rfl rfl rfl hs6 hx (by unfold maxLen; omega) (by omega) ?_; intro a' c' w' hs7 hnil; clear hnil hs6 hx)
      go_roundg (rem.eraseIdx i).length
      case measure => have := HL.out; omega
      case rel =>
        refine ⟨a', ks ++ [n.nm.data.toList], c', oi2, _, by simp, by simp; omega, ⟨rfl, HI.out, HR.out⟩, ?_⟩
        simp only [List.length_append, List.length_cons, List.length_nil, List.map_append, List.map_cons, List.map_nil, Nat.zero_add, encStr_nm]
        refine Sat.weak (B := block w2.heap.size TS [.string n.nm]) (hs7.eq ?_)
        ac_rfl

end Go.Proofs.Ytjhkmmpgjiciiaa
