/-
  The cache: walks of named, New, Resident, Reads; what always holds is kept by Get, Put, Evict, Flush.
-/
import Derived.Test.YtjhkmmpgjiciiaaCk6
namespace Go.Proofs.Ytjhkmmpgjiciiaa
set_option linter.unusedSimpArgs false
set_option linter.unusedVariables false
open Go.RowKit Go.Sl Go.Dk
open Go.Lru (ikey)
attribute [local go_sem ↓] Go.wp_at_zero Go.wp_at_succ
attribute [local go_sem] Go.Sl.cell_sat Go.Sl.frozen_sat look_PM len_PM put_PM del_PM

def lenOk (s : ByteArray) : Bool := decide (1 ≤ s.size) && decide (s.size ≤ 16)
theorem named_eq (s : ByteArray) : Dk.named s = (s.data.toList.all lowc && lenOk s) := by
  unfold Dk.named lenOk lowc
  rw [Bool.and_comm]

set_option maxHeartbeats 400000 in
theorem namedC_any (s : ByteArray) (w : World) (hs : s.size ≤ 9223372036854775807) :
    Calls Try.prog 93 #[.string s] w fun e w' => e = .returned (.bool (Dk.named s)) ∧ w = w' := by
  obtain ⟨r, HR⟩ : ∃ r, Aside (Dk.named s = r) := ⟨_, rfl⟩
  rw [HR.out]
  go_enter Try.func93, Try.ntmps93
  go_wp2
  go_loop [6] (fun i => ∃ k : Nat, k ≤ s.size ∧ i = .int .i64 k ∧ Aside ((s.data.toList.take k).all lowc = true)) (fun i => s.size - (intOf i).toNat)
  case atStart => exact ⟨0, Nat.zero_le _, rfl, by simp [Aside]⟩
  case round =>
    obtain ⟨k, hk, rfl, A⟩ := hrel
    by_cases hlt : k < s.size
    · have hb := s[k].toNat_lt
      by_cases c1 : s[k].toNat < 97
      · have HF : Aside (r = false) := by
          have := named_bad hlt (show lowc s[k] = false by unfold lowc; simp; omega)
          show _ = _
          rw [← HR.out, named_eq, this]; rfl
        go_wp2
        go_ret
        exact ⟨by rw [HF.out]; rfl, rfl⟩
      · by_cases c2 : 122 < s[k].toNat
        · have HF : Aside (r = false) := by
            have := named_bad hlt (show lowc s[k] = false by unfold lowc; simp; omega)
            show _ = _
            rw [← HR.out, named_eq, this]; rfl
          go_wp2
          go_ret
          exact ⟨by rw [HF.out]; rfl, rfl⟩
        · have HA : Aside ((s.data.toList.take (k + 1)).all lowc = true) := by
            show _ = true
            rw [all_take_snoc s k hlt, A.out]
            unfold lowc; simp; omega
          go_wp2
          go_round
          case rel => exact ⟨k + 1, by omega, by go_num, HA⟩
          case measure => simp [intOf]; omega
    · have HF : Aside (r = lenOk s) := by
        have := A.out
        rw [List.take_of_length_le (by simp; omega)] at this
        show _ = _
        rw [← HR.out, named_eq, this]; rfl
      clear A
      by_cases h1 : 1 ≤ s.size
      · by_cases h2 : s.size ≤ 16
        · have HL : Aside (lenOk s = true) := by show _ = _; simp [lenOk, h1, h2]
          have h2' : decide ((s.size : Int) ≤ 16) = true := by simp; omega
          go_wp2
          go_ret
          exact ⟨by rw [HF.out, HL.out]; rfl, rfl⟩
        · have HL : Aside (lenOk s = false) := by show _ = _; simp [lenOk, h2]
          have h2' : decide ((s.size : Int) ≤ 16) = false := by simp; omega
          go_wp2
          go_ret
          exact ⟨by rw [HF.out, HL.out]; rfl, rfl⟩
      · have HL : Aside (lenOk s = false) := by show _ = _; simp [lenOk, h1]
        go_wp2
        go_ret
        exact ⟨by rw [HF.out, HL.out]; rfl, rfl⟩

theorem newC_nil (nm : ByteArray) (cap : Int) (w : World) :
    Calls Try.prog 53 #[.pointer none, .string nm, .int .i64 cap] w fun e w' => e = .returned (.tuple #[.pointer none, .int .i64 1]) ∧ w = w' := by
  go_enter Try.func53, Try.ntmps53
  go_wp2
  go_ret2
  exact ⟨rfl, rfl⟩

theorem newC_name (D : Nat) (nm : ByteArray) (cap : Int) (w : World) (hs : nm.size ≤ 9223372036854775807) (hn : Dk.named nm = false) :
    Calls Try.prog 53 #[.pointer (some ⟨D, 0, none⟩), .string nm, .int .i64 cap] w fun e w' => e = .returned (.tuple #[.pointer none, .int .i64 1]) ∧ w = w' := by
  have h := namedC_any nm w hs
  rw [hn] at h
  go_enter Try.func53, Try.ntmps53
  go_wp2_with fail
  refine h.mono ?_
  rintro e w' ⟨rfl, rfl⟩
  go_wp2
  go_ret2
  exact ⟨rfl, rfl⟩

theorem newC_cap (D : Nat) (nm : ByteArray) (cap : Int) (w : World) (hs : nm.size ≤ 9223372036854775807) (hn : Dk.named nm = true) (hc : cap < 1 ∨ 4096 < cap) :
    Calls Try.prog 53 #[.pointer (some ⟨D, 0, none⟩), .string nm, .int .i64 cap] w fun e w' => e = .returned (.tuple #[.pointer none, .int .i64 1]) ∧ w = w' := by
  have h := namedC_any nm w hs
  rw [hn] at h
  have h2 := new_no cap w hc
  go_enter Try.func53, Try.ntmps53
  go_wp2_with fail
  refine h.mono ?_
  rintro e w' ⟨rfl, rfl⟩
  go_wp2_with fail
  refine h2.mono ?_
  rintro e w' ⟨rfl, rfl⟩
  go_wp2
  go_ret2
  exact ⟨rfl, rfl⟩

set_option maxHeartbeats 400000 in
theorem newC_yes (D : Nat) (d : Dk) (nm : ByteArray) (cap : Int) (F : Assn) (w : World) (hs : Sat (diskP D d * F) w) (hn : Dk.named nm = true) (h1 : 1 ≤ cap) (h2 : cap ≤ 4096) :
    Calls Try.prog 53 #[.pointer (some ⟨D, 0, none⟩), .string nm, .int .i64 cap] w fun e w' => ∃ C, e = .returned (.tuple #[.pointer (some ⟨C, 0, none⟩), .int .i64 0]) ∧ Sat (cacheP C D ⟨nm, cap, 0, d, [], []⟩ * F) w' := by
  have hnm := namedC_any nm w (named_size hn)
  rw [hn] at hnm
  have hnew := new_yes cap _ w hs h1 h2
  have hmm := @run_makeMap Try.prog
  go_enter Try.func53, Try.ntmps53
  go_wp2_with fail
  refine hnm.mono ?_
  rintro e w' ⟨rfl, rfl⟩
  go_wp2_with fail
  refine hnew.mono ?_
  rintro e w1 ⟨L, M, rfl, hs1⟩
  have a0 := Sat.lru_shut (its := []) rfl hs1
  have a1 := a0.alloc_raw (.map #[] 0)
  have a2 := a1.alloc #[.pointer (some ⟨L, 0, none⟩), .pointer (some ⟨D, 0, none⟩), .string nm, .int .i64 cap, .map (some w1.heap.size), .int .i64 0] TC
  have e : (w1.alloc (.map #[] 0)).heap.size = w1.heap.size + 1 := by simp
  rw [e] at a2
  have a3 := Sat.mp_shut (kf := ikey) (ms := []) (b := w1.heap.size) (o := .map #[] 0) ⟨#[], 0, rfl, rfl, by simp, by simp⟩ (a2.take (raw w1.heap.size _))
  clear a0 a1 a2 e hs hs1 hnm hnew
  go_wp2
  go_ret2
  refine ⟨w1.heap.size + 1, rfl, ?_⟩
  refine Sat.cache_shut (L := L) (PM := w1.heap.size) (ps := []) rfl (a3.eq ?_)
  unfold cacheA coreC
  simp only [block, Sl.cells, pagesA, List.map_nil, one_sep, sep_one, List.length_cons, List.length_nil, Nat.zero_add, Nat.reduceAdd]
  ac_rfl

theorem resident_any (C D : Nat) (s : Ck) (F : Assn) (w : World) (hs : Sat (cacheP C D s * F) w) :
    Calls Try.prog 60 #[.pointer (some ⟨C, 0, none⟩)] w fun e w' => e = .returned (.int .i64 s.pgs.length) ∧ w = w' := by
  obtain ⟨L, PM, ps, hp, hs1⟩ := Sat.cache_open hs
  unfold cacheA at hs1
  have hpl : s.pgs.length = ps.length := by rw [← hp]; simp [pgents]
  rw [hpl]
  haveI := hs1.i
  clear hp hpl hs
  go_enter Try.func60, Try.ntmps60
  go_wp2
  go_ret
  exact ⟨by simp, rfl⟩

theorem reads_any (C D : Nat) (s : Ck) (F : Assn) (w : World) (hs : Sat (cacheP C D s * F) w) :
    Calls Try.prog 65 #[.pointer (some ⟨C, 0, none⟩)] w fun e w' => e = .returned (.int .i64 s.reads) ∧ w = w' := by
  obtain ⟨L, PM, ps, hp, hs1⟩ := Sat.cache_open hs
  unfold cacheA at hs1
  haveI := hs1.i
  clear hp hs
  go_enter Try.func65, Try.ntmps65
  go_wp2
  go_ret
  exact ⟨rfl, rfl⟩

/-! what always holds is kept -/
theorem ck_use {m : Nat} {s : Ck} (ok : CkOk m s) (k : Int) : CkOk m { s with its := useI s.its k } :=
  ⟨ok_use ok.lru k, ok.nd, fun j => by show hasI (useI s.its k) j = _; rw [hasI_keys (fun _ => use_mem)]; exact ok.same j, by show _ = (useI s.its k).length; rw [(useI_perm s.its k).length_eq]; exact ok.len, ok.page, ok.cap, by show ((useI s.its k).length : Int) ≤ _; rw [(useI_perm s.its k).length_eq]; exact ok.most, ok.dk, ok.nm, ok.reads⟩

theorem get_ok {m : Nat} {s : Ck} (ok : CkOk m s) (no : Int) : CkOk (m + U) (s.get no).2.2 := by
  unfold Ck.get
  split
  · exact ok.more (by omega)
  split
  · exact (ck_use ok no).more (by omega)
  · rename_i hr hh
    have hh' : hasI s.its no = false := by simpa using hh
    simp only
    split
    · rename_i hz
      have hl : (s.d.read s.nm (no * 256) 256).2.length = 256 := read_len (n := 256) hz
      have ht := take_ok ok hh' (by omega) (by omega) hl
      split
      · exact ⟨ht.lru, ht.nd, ht.same, ht.len, ht.page, ht.cap, ht.most, ht.dk, ht.nm, by
          have h2 : (s.take no (s.d.read s.nm (no * 256) 256).2).2.reads = s.reads := take_reads s no _
          have := ok.reads
          show 0 ≤ (s.take no (s.d.read s.nm (no * 256) 256).2).2.reads + 1 ∧ (s.take no (s.d.read s.nm (no * 256) 256).2).2.reads + 1 ≤ ((m + U : Nat) : Int)
          rw [h2]; unfold U; omega⟩
      · exact ht
    · exact ok.more (by omega)

theorem put_ok {m : Nat} {s : Ck} (ok : CkOk m s) (no : Int) (b : List UInt8) : CkOk (m + U) (s.put no b).2 := by
  unfold Ck.put
  split
  · exact ok.more (by omega)
  split
  · rename_i hr hh
    have h1 := (ck_use ok no).mark no true
    have hp : (pget no s.pgs).isSome = true := by rw [← ok.same]; exact hh
    refine CkOk.more (m := m) ⟨h1.lru, ?_, ?_, ?_, ?_, h1.cap, h1.most, h1.dk, h1.nm, h1.reads⟩ (by omega)
    · show ((pput no b s.pgs).map (·.1)).Nodup
      rw [pput_keys, hp]; exact ok.nd
    · intro k
      show hasI (markI (useI s.its no) no true) k = (pget k (pput no b s.pgs)).isSome
      rw [h1.same k, pget_pput]
      show (pget k s.pgs).isSome = _
      split
      · rename_i e; subst e; rw [hp]; rfl
      · rfl
    · show (pput no b s.pgs).length = (markI (useI s.its no) no true).length
      rw [pput_len, hp]
      exact h1.len
    · intro p hp'
      exact pput_page (by omega) (by omega) (by omega) ok.page p hp'
  · rename_i hr hh
    have hh' : hasI s.its no = false := by simpa using hh
    have ht := take_ok (b := b) ok hh' (by omega) (by omega) (by omega)
    split
    · exact ht.mark no true
    · exact ht

theorem evict_ok : ∀ (n : Nat) {m : Nat} {s : Ck}, CkOk m s → CkOk (m + s.its.length * U) (Ck.evict n s).2
  | 0, m, s, ok => ok.more (by omega)
  | n + 1, m, s, ok => by
    cases ho : oldI s.its with
    | none => rw [evict_none ho]; exact ok.more (by omega)
    | some k =>
      obtain ⟨h1, h2, h3, h4⟩ := release_ok ok (old_drop ho)
      rw [evict_some ho]
      have hlen : 0 < s.its.length := List.length_pos_of_mem (old_has ho).1
      have hle : U ≤ s.its.length * U := by have := Nat.mul_le_mul_right U hlen; omega
      split
      · rename_i hz
        have := evict_ok n h1
        have hl := h2 hz
        exact this.more (by rw [← hl, Nat.add_mul]; omega)
      · exact h1.more (by omega)

theorem writes_ok : ∀ (l : List Int) {m : Nat} {s : Ck}, CkOk m s → (∀ k ∈ l, hasI s.its k = true) → CkOk (m + l.length * U) (Ck.writes l s).2 ∧ (Ck.writes l s).2.nm = s.nm
  | [], m, s, ok, _ => ⟨ok.more (by omega), rfl⟩
  | k :: l, m, s, ok, h => by
    have h1 := write_ok ok (h k (by simp))
    have e : (k :: l).length * U = l.length * U + U := by rw [List.length_cons, Nat.add_mul]; omega
    unfold Ck.writes
    split
    · obtain ⟨h2, h3⟩ := writes_ok l h1 fun j hj => by rw [write_has]; exact h j (by simp [hj])
      exact ⟨h2.more (by rw [e]; omega), by rw [h3]; exact (write_same s k).1⟩
    · exact ⟨h1.more (by rw [e]; omega), (write_same s k).1⟩

theorem marked_len (its : List It) : (markedI its).length ≤ its.length := by
  unfold markedI sortI
  rw [(List.mergeSort_perm _ _).length_eq, List.length_map]
  exact List.length_filter_le _ _
theorem marked_mem {its : List It} {z : Int} : z ∈ markedI its ↔ ∃ n ∈ its, n.mkd = true ∧ n.key = z := by
  unfold markedI
  rw [sortI_mem, List.mem_map]
  constructor
  · rintro ⟨n, h1, h2⟩; exact ⟨n, (List.mem_filter.1 h1).1, (List.mem_filter.1 h1).2, h2⟩
  · rintro ⟨n, h1, h2, h3⟩; exact ⟨n, List.mem_filter.2 ⟨h1, h2⟩, h3⟩
theorem marked_has {its : List It} {z : Int} (h : z ∈ markedI its) : hasI its z = true := by
  obtain ⟨n, h1, _, h3⟩ := marked_mem.1 h
  exact hasI_iff.2 (List.mem_map.2 ⟨n, h1, h3⟩)

theorem flush_ok {m : Nat} {s : Ck} (ok : CkOk m s) : CkOk (m + s.its.length * U + 1) s.flush.2 := by
  obtain ⟨h, hn⟩ := writes_ok (markedI s.its) ok fun k hk => marked_has hk
  have hl := Nat.mul_le_mul_right U (marked_len s.its)
  unfold Ck.flush
  simp only
  split
  · have h2 := ok_sync h.dk (Ck.writes (markedI s.its) s).2.nm
    exact h.disk (by omega) (ok_more h2 (by omega))
  · exact h.more (by omega)

end Go.Proofs.Ytjhkmmpgjiciiaa
