/-
  CacheReads: the walk.
-/
import Derived.Test.YtjhkmmpgjiciiaaLaw07c
namespace Go.Proofs.Ytjhkmmpgjiciiaa
set_option linter.unusedSimpArgs false
set_option linter.unusedVariables false
open Go.RowKit Go.Sl Go.Dk
open Go.Lru (ikey)
attribute [local go_sem ↓] Go.wp_at_zero Go.wp_at_succ
attribute [local go_sem] Go.Sl.cell_sat Go.Sl.frozen_sat

def crS (cap : Int) : Ck := ⟨nmP, cap, 0, Dk.new 1048576, [], []⟩
theorem cr_ok (cap : Int) (h1 : 1 ≤ cap) (h2 : cap ≤ 4096) : CkOk 0 (crS cap) :=
  ⟨⟨by simp [crS, keysI], by simp [crS], by simp [crS]⟩, by simp [crS], fun k => by simp [crS, hasI, pget], rfl, by simp [crS], ⟨h1, h2⟩, by simp [crS]; omega, ok_new 1048576 (by omega) (by unfold big; omega), nmP_named, by simp [crS]⟩
theorem cr_good (cap : Int) : Good 0 (crS cap) := by
  have hg : (crS cap).d.get (crS cap).nm = none := rfl
  refine ⟨⟨rfl, rfl, nmP_named, ?_⟩, by simp [crS], by simp [crS], ?_, by simp [crS]⟩
  · rw [hg]; simp [crS, Dk.new]
  · unfold fnow; rw [hg]; simp [Dk.fl0]
theorem cr_roomy (cap : Int) : Roomy 40 (crS cap) := ⟨.inl rfl, by show _ ≤ (1048576 : Int); omega⟩
theorem Roomy.less {T T' : Nat} {s : Ck} (h : Roomy T s) (ht : T' ≤ T) : Roomy T' s := ⟨h.1, by have := h.2; omega⟩
theorem Roomy.of {T T' : Nat} {s s' : Ck} (h : Roomy T s) (h' : Roomy T' s') (hr : s'.d.room = s.d.room) : Roomy T s' := ⟨h'.1, by rw [hr]; exact h.2⟩

theorem mk40 (w : World) : (Instr.makeSlice 22 (.int .i64 40) (.int .i64 40)).run Try.prog w = .ok (.slice (some ⟨w.heap.size, 0, none⟩) 40 40) (w.alloc (.cells ((List.replicate 40 0).map (Value.int .i64)).toArray 3)) := by kernel_rfl

def UR : Nat := 8 * U + 1

/-- what holds between two calls -/
structure RdInv (cap : Int) (j : Nat) (top : Nat) (s : Ck) (hv : List Int) : Prop where
  len : hv.length = 40
  have_ : HaveOk s hv
  ok : CkOk (j * UR) s
  good : Good top s
  t40 : top ≤ 40
  room : Roomy 40 s
  nm : s.nm = nmP
  cap : s.cap = cap
  last : 0 < top → ∃ h, hv[top - 1]? = some h ∧ 0 < h
  past : ∀ (k : Nat) h, hv[k]? = some h → top ≤ k → h = 0

theorem wr_room {nm : ByteArray} (r : Int) : ∀ d k b d', (fun d : Dk => d.room = r) d → Wr d nm k b d' → (fun d : Dk => d.room = r) d' := fun d k b d' h hw => by show d'.room = r; rw [hw.room]; exact h
theorem put_cap (s : Ck) (no : Int) (b : List UInt8) : (s.put no b).2.cap = s.cap := by
  have hw : ∀ k, (s.release k).2.cap = s.cap := by
    intro k
    unfold Ck.release
    split
    · exact (write_same s k).2.1
    · exact (write_same s k).2.1
  have hr : s.room.2.cap = s.cap := by
    unfold Ck.room
    split
    · rfl
    · cases oldI s.its with
      | none => rfl
      | some n => exact hw n.key
  unfold Ck.put
  split
  · rfl
  split
  · rfl
  · unfold Ck.take
    by_cases hz : s.room.1 = 0
    · rw [if_pos hz]
      simp only [if_true]
      exact hr
    · rw [if_neg hz, if_neg hz]; exact hr
theorem get_cap (s : Ck) (no : Int) : (s.get no).2.2.cap = s.cap := by
  have hw : ∀ k, (s.release k).2.cap = s.cap := by
    intro k
    unfold Ck.release
    split
    · exact (write_same s k).2.1
    · exact (write_same s k).2.1
  have hr : s.room.2.cap = s.cap := by
    unfold Ck.room
    split
    · rfl
    · cases oldI s.its with
      | none => rfl
      | some n => exact hw n.key
  have ht : ∀ b, (s.take no b).2.cap = s.cap := by
    intro b
    unfold Ck.take
    split
    · exact hr
    · exact hr
  unfold Ck.get
  split
  · rfl
  split
  · rfl
  · simp only
    split
    · split
      · exact ht _
      · exact ht _
    · rfl
theorem evict_cap : ∀ (n : Nat) (s : Ck), (Ck.evict n s).2.cap = s.cap
  | 0, s => rfl
  | n + 1, s => by
    have hw : ∀ k, (s.release k).2.cap = s.cap := by
      intro k
      unfold Ck.release
      split
      · exact (write_same s k).2.1
      · exact (write_same s k).2.1
    cases ho : oldI s.its with
    | none => rw [evict_none ho]
    | some k =>
      rw [evict_some ho]
      split
      · rw [evict_cap n]; exact hw _
      · exact hw _
theorem writes_cap : ∀ (l : List Int) (s : Ck), (Ck.writes l s).2.cap = s.cap
  | [], s => rfl
  | k :: l, s => by
    unfold Ck.writes
    split
    · rw [writes_cap l]; exact (write_same s k).2.1
    · exact (write_same s k).2.1
theorem flush_cap (s : Ck) : s.flush.2.cap = s.cap := by
  unfold Ck.flush
  simp only
  split
  · exact writes_cap _ _
  · exact writes_cap _ _

theorem RdInv.put {cap : Int} {j top : Nat} {s : Ck} {hv : List Int} (h : RdInv cap j top s hv) {no : Nat} (hn : no < 40) (x : UInt8) :
    (s.put (no : Int) (pgx x)).1 = 0 ∧ RdInv cap (j + 1) (max top (no + 1)) (s.put (no : Int) (pgx x)).2 (hv.set no (1 + (x.toNat : Int))) := by
  have g := h.good.more (T' := max top (no + 1)) (by omega)
  have hp := put_good (no := (no : Int)) (c := pgx x) h.ok g (by omega) (by omega) (by omega) (pgx_len x)
  have hok := put_ok h.ok (no : Int) (pgx x)
  obtain ⟨hz, hr⟩ := hp.roomy (h.room.less (by have := h.t40; omega))
  have hrm := hp.inv _ (wr_room s.d.room) rfl
  refine ⟨hz, ⟨by simpa using h.len, h.have_.put (fun k b hne => hp.has k b (.inl hne)) (hp.put hz), hok.more (by rw [Nat.add_mul]; unfold UR; omega), hp.good, by have := h.t40; omega, h.room.of hr hrm, hp.nm.trans h.nm, (put_cap s _ _).trans h.cap, fun _ => ?_, ?_⟩⟩
  · have hx := x.toNat_lt
    by_cases hlt : top ≤ no
    · have e : max top (no + 1) - 1 = no := by omega
      rw [e, List.getElem?_set_self (by rw [h.len]; exact hn)]
      exact ⟨_, rfl, by omega⟩
    · have e : max top (no + 1) - 1 = top - 1 := by omega
      rw [e]
      obtain ⟨y, h1, h2⟩ := h.last (by omega)
      by_cases hne : no = top - 1
      · rw [← hne, List.getElem?_set_self (by rw [h.len]; exact hn)]
        exact ⟨_, rfl, by omega⟩
      · rw [List.getElem?_set_ne hne]; exact ⟨y, h1, h2⟩
  · intro k y hk hle
    rw [List.getElem?_set_ne (by omega)] at hk
    exact h.past k y hk (by omega)
theorem RdInv.get {cap : Int} {j top : Nat} {s : Ck} {hv : List Int} (h : RdInv cap j top s hv) {no : Nat} (hn : no < 40) :
    GetOut top s (no : Int) (s.get (no : Int)).1 (s.get (no : Int)).2.1 (s.get (no : Int)).2.2 ∧ (s.get (no : Int)).1 ≠ 7 ∧ RdInv cap (j + 1) top (s.get (no : Int)).2.2 hv := by
  have hp := get_good (no := (no : Int)) h.ok h.good (by omega) (by omega)
  have hok := get_ok h.ok (no : Int)
  obtain ⟨hz, hr⟩ := hp.roomy (h.room.less h.t40)
  have hrm := hp.inv _ (wr_room s.d.room) rfl
  exact ⟨hp, hz, ⟨h.len, h.have_.mono hp.has, hok.more (by rw [Nat.add_mul]; unfold UR; omega), hp.good, h.t40, h.room.of hr hrm, hp.nm.trans h.nm, (get_cap s _).trans h.cap, h.last, h.past⟩⟩
theorem RdInv.evict {cap : Int} {j top : Nat} {s : Ck} {hv : List Int} (h : RdInv cap j top s hv) (hc : cap ≤ 8) (n : Nat) :
    (Ck.evict n s).1 = 0 ∧ RdInv cap (j + 1) top (Ck.evict n s).2 hv := by
  have hp := evict_good n h.ok h.good
  have hok := evict_ok n h.ok
  obtain ⟨hz, hr⟩ := hp.roomy (h.room.less h.t40)
  have hrm := hp.inv _ (wr_room s.d.room) rfl
  have hlen := h.ok.most
  rw [h.cap] at hlen
  have hl8 : s.its.length * U ≤ 8 * U := Nat.mul_le_mul_right U (by omega)
  exact ⟨hz, ⟨h.len, h.have_.mono hp.has, hok.more (by rw [Nat.add_mul]; unfold UR; omega), hp.good, h.t40, h.room.of hr hrm, hp.nm.trans h.nm, (evict_cap n s).trans h.cap, h.last, h.past⟩⟩
theorem sync_room (d : Dk) (nm : ByteArray) : (d.sync nm).2.room = d.room := by
  unfold Dk.sync
  split
  · rfl
  split
  · rfl
  · rfl
theorem RdInv.flush {cap : Int} {j top : Nat} {s : Ck} {hv : List Int} (h : RdInv cap j top s hv) (hc : cap ≤ 8) :
    s.flush.1 = 0 ∧ RdInv cap (j + 1) top s.flush.2 hv ∧ (0 < top → ((256 * top : Nat) : Int) ≤ s.flush.2.d.size nmP) := by
  have hp := flush_good h.ok h.good
  have hok := flush_ok h.ok
  obtain ⟨hz, hr⟩ := hp.roomy (h.room.less h.t40)
  have hlen := h.ok.most
  rw [h.cap] at hlen
  have hl8 : s.its.length * U ≤ 8 * U := Nat.mul_le_mul_right U (by omega)
  have hU : 1 ≤ U := by unfold U; omega
  have hrm : s.flush.2.d.room = s.d.room := by
    have hw := (writes_good (markedI s.its) h.ok h.good fun k hk => marked_has hk).1.inv _ (wr_room s.d.room) rfl
    have hw' : (Ck.writes (markedI s.its) s).2.d.room = s.d.room := hw
    unfold Ck.flush
    simp only
    split
    · show (Dk.sync _ _).2.room = _
      rw [sync_room]; exact hw'
    · exact hw'
  refine ⟨hz, ⟨h.len, h.have_.mono hp.has, hok.more (by rw [Nat.add_mul]; unfold UR; omega), hp.good, h.t40, h.room.of hr hrm, hp.nm.trans h.nm, (flush_cap s).trans h.cap, h.last, h.past⟩, fun ht => ?_⟩
  obtain ⟨y, h1, h2⟩ := h.last ht
  have h3 := hp.has _ _ ((h.have_ _ y h1).2.2 h2)
  have h4 := hp.filed hz _ _ h3
  have h5 := size_fnow hp.good.fine
  rw [hp.nm.trans h.nm] at h4 h5
  have h6 := h4.2.1
  have h7 : (((top - 1 : Nat) : Int)).toNat = top - 1 := by omega
  rw [h7] at h6
  omega

abbrev TCall : TypeId := 94
set_option maxRecDepth 100000 in
set_option maxHeartbeats 8000000 in
theorem cacheReads_walk (capacity : Int) (v : Value) (cs : List CallC) (w : World) (hv : Rws w v 3 (cs.map crowC)) (hl : cs.length ≤ 9223372036854775807) (hwf : ∀ c ∈ cs, (Lit.int .i64 c.kind).wf = true ∧ (Lit.int .i64 c.no).wf = true) :
    Calls Try.prog 14 #[.int .i64 capacity, v] w fun e w' => e = .returned (.bool true) ∧ Below w.heap.size w w' := by
  obtain ⟨va, vc, hvv⟩ := hv.len
  rw [List.length_map] at hvv
  subst hvv
  have hmk40 := mk40
  obtain ⟨cc, hcc, hc8⟩ : ∃ m : Nat, capacity % 8 = (m : Int) ∧ m < 8 := ⟨(capacity % 8).toNat, by omega, by omega⟩
  have hp0 := pick_any capacity 8 w (by omega) (by omega)
  rw [hcc] at hp0
  clear hcc
  have HWF : Aside (∀ c ∈ cs, (Lit.int .i64 c.kind).wf = true ∧ (Lit.int .i64 c.no).wf = true) := hwf
  clear hwf
  go_enter Try.func14, Try.ntmps14
  go_wp2_with fail
  refine hp0.mono ?_
  rintro e w' ⟨rfl, rfl⟩
  go_wp2_with fail
  refine (newD_yes 1048576 (old w) w (Sat.old_self w) (by omega) (by omega)).mono ?_
  rintro e w1 ⟨D, rfl, hs1⟩
  have hnew := newC_yes D (Dk.new 1048576) nmP (1 + (cc : Int)) (old w) w1 hs1 nmP_named (by omega) (by omega)
  unfold nmP at hnew
  clear hp0
  go_wp2_with fail
  refine hnew.mono ?_
  rintro e w2 ⟨C, rfl, hs2⟩
  clear hs1 hnew
  go_wp2_with fail
  refine (awake07 _ w2 hs2).mono ?_
  rintro e w3 ⟨rfl, hs3⟩
  have hs8 := hs3.alloc ((List.replicate 40 0).map (Value.int .i64)).toArray 3
  have hs9 : Sat (block w3.heap.size 3 (ints (List.replicate 40 0)) * (cacheP C D (crS (1 + (cc : Int))) * old w)) (w3.alloc (.cells ((List.replicate 40 0).map (Value.int .i64)).toArray 3)) := hs8
  clear hs2 hs3 hs8
  go_wp2_with fail
  go_loopg [10, 11] 120 (fun k t10 i wr => ∃ (j top : Nat) (s : Ck) (hv : List Int), i = .int .i64 j ∧ t10 = .int .i64 top ∧ j ≤ 120 ∧ top ≤ 40 ∧ Aside (k = 120 - j ∧ RdInv (1 + (cc : Int)) j top s hv) ∧ Sat (block w3.heap.size 3 (ints hv) * (cacheP C D s * old w)) wr)
  case atStart => exact ⟨0, 0, crS (1 + (cc : Int)), List.replicate 40 0, rfl, rfl, by omega, by omega, ⟨rfl, ⟨by simp, HaveOk.zero 40, by simpa using cr_ok (1 + (cc : Int)) (by omega) (by omega), cr_good _, by omega, cr_roomy _, rfl, rfl, fun h => by omega, fun k h hk _ => by rw [List.getElem?_replicate] at hk; split at hk; exact (Option.some.inj hk).symm; cases hk⟩⟩, hs9⟩
  case round =>
    clear hs9 hmk40
    obtain ⟨j, top, s, hv2, rfl, rfl, hj, htop, A, hs⟩ := hrel
    by_cases hgo : j < cs.length ∧ j < 120
    · obtain ⟨hjl, hj2⟩ := hgo
      have hj3 : (j : Int) < cs.length := by omega
      have hj4 : (j : Int) < 120 := by omega
      obtain ⟨⟨kd, cno, x⟩, hx⟩ : ∃ x, cs[j]? = some x := ⟨cs[j], by simp [hjl]⟩
      obtain ⟨rb, ro, e1, hcell⟩ := hv.at (show (cs.map crowC)[j]? = some (crowC ⟨kd, cno, x⟩) by simp [hx])
      subst e1
      have hwf := HWF.out _ (List.mem_of_getElem? hx)
      have hcn : -9223372036854775808 ≤ cno ∧ cno ≤ 9223372036854775807 := by have := hwf.2; simpa [Lit.wf, IntKind.min, IntKind.max, IntKind.signed, IntKind.bits] using this
      obtain ⟨hcn1, hcn2⟩ := hcn
      haveI : OldAt w rb (ro + j * 3) (.int .i64 kd) := ⟨by have := hcell 0 _ rfl; simpa using this⟩
      haveI : OldAt w rb (ro + j * 3 + 1) (.int .i64 cno) := ⟨hcell 1 _ rfl⟩
      haveI : OldAt w rb (ro + j * 3 + 2) (.int .u8 x.toNat) := ⟨hcell 2 _ rfl⟩
      clear hcell hx hwf
      obtain ⟨kk, hkk, hk40⟩ : ∃ m : Nat, cno % 40 = (m : Int) ∧ m < 40 := ⟨(cno % 40).toNat, by omega, by omega⟩
      have hp1 := fun w => pick_any cno 40 w (by omega) (by omega)
      rw [hkk] at hp1
      have HP1 : Aside (∀ w, Calls Try.prog 17 #[.int .i64 cno, .int .i64 40] w fun e w' => e = .returned (.int .i64 (kk : Int)) ∧ w = w') := hp1
      clear hkk hp1
      obtain ⟨hk, hI⟩ := A.out
      haveI := hs.i
      have hcx := x.toNat_lt
      have HK : Aside (gk = 120 - j) := hk
      have h8 : 1 + (cc : Int) ≤ 8 := by omega
      have hmj : j * UR ≤ 257699020920 := by have := Nat.mul_le_mul_right UR (show j ≤ 120 by omega); unfold UR U at *; omega
      by_cases hk2 : kd = 2
      · subst hk2
        obtain ⟨hz, hI2⟩ := hI.put hk40 x
        have hpa := fun (b : Nat) (F : Assn) (w : World) (h : Sat (cacheP C D s * (rw TB 1 (.slice (some ⟨b, 0, none⟩) 256 256) (bys (pgx x)) * F)) w) => put_any C D s (j * UR) (kk : Int) _ (pgx x) (rw TB 1 (.slice (some ⟨b, 0, none⟩) 256 256) (bys (pgx x))) F w Reads.rw h hI.ok (by omega)
        rw [hz] at hpa
        obtain ⟨s', hs'⟩ : ∃ t, (s.put (kk : Int) (pgx x)).2 = t := ⟨_, rfl⟩
        rw [hs'] at hpa hI2
        have HPA : Aside (∀ (b : Nat) (F : Assn) (w : World), Sat (cacheP C D s * (rw TB 1 (.slice (some ⟨b, 0, none⟩) 256 256) (bys (pgx x)) * F)) w → Calls Try.prog 55 #[.pointer (some ⟨C, 0, none⟩), .int .i64 (kk : Int), .slice (some ⟨b, 0, none⟩) 256 256] w fun e w' => e = .returned (.int .i64 0) ∧ Sat (cacheP C D s' * (rw TB 1 (.slice (some ⟨b, 0, none⟩) 256 256) (bys (pgx x)) * F)) w') := hpa
        have HI : Aside (RdInv (1 + (cc : Int)) (j + 1) (max top (kk + 1)) s' (hv2.set kk (1 + (x.toNat : Int)))) := hI2
        obtain ⟨h0, hh0⟩ : ∃ h, hv2[kk]? = some h := ⟨hv2[kk]'(by rw [hI.len]; exact hk40), by simp⟩
        haveI : At (ints hv2) kk (.int .i64 h0) := ⟨by simp [ints, hh0]⟩
        have hle : (s'.pgs.length : Int) ≤ 1 + (cc : Int) := by have h1 := hI2.ok.len; have h2 := hI2.ok.most; rw [hI2.cap] at h2; omega
        clear hpa hs' hI2 hI hk A hz hh0
        go_wp2_with fail
        refine (HP1.out _).mono ?_
        rintro e w' ⟨rfl, rfl⟩
        go_wp2_with fail
        refine (full07_any x _ _ satI).mono ?_
        rintro e w5 ⟨b5, rfl, hs5⟩
        go_wp2_with fail
        refine (HPA.out b5 _ w5 (hs5.take2 (cacheP C D s) (rw TB 1 (.slice (some ⟨b5, 0, none⟩) 256 256) (bys (pgx x))))).mono ?_
        rintro e w6 ⟨rfl, hs6⟩
        have hs7 := hs6.drop (rw TB 1 (.slice (some ⟨b5, 0, none⟩) 256 256) (bys (pgx x)))
        haveI := hs7.i
        clear hs5 hs6 hs
        go_wp2_with fail
        refine (resident_any C D s' _ _ (takeI (cacheP C D s'))).mono ?_
        rintro e w' ⟨rfl, rfl⟩
        go_wp2_with fail
        go_roundg (120 - (j + 1))
        case measure => have := HK.out; omega
        case rel =>
          refine ⟨j + 1, max top (kk + 1), s', hv2.set kk (1 + (x.toNat : Int)), by go_num, by congr 1; omega, by omega, by omega, ⟨rfl, HI.out⟩, ?_⟩
          rw [ints_set]
          exact satI_weak (C := block wr.heap.size TCall [.int .i64 2, .int .i64 cno, .int .u8 x.toNat]) (by ac_rfl)
      · by_cases hk5 : kd = 5
        · subst hk5
          obtain ⟨hz, hI2⟩ := hI.evict h8 cno.toNat
          have hll : s.its.length ≤ 8 := by have h2 := hI.ok.most; rw [hI.cap] at h2; omega
          have hea := fun (F : Assn) (w : World) (h : Sat (cacheP C D s * F) w) => evict_any C D s (j * UR) cno F w h hI.ok (by have := Nat.mul_le_mul_right U hll; have hu : U = 268436480 := rfl; omega) hcn2 hcn1
          rw [hz] at hea
          obtain ⟨s', hs'⟩ : ∃ t, (Ck.evict cno.toNat s).2 = t := ⟨_, rfl⟩
          rw [hs'] at hea hI2
          have HEA : Aside (∀ (F : Assn) (w : World), Sat (cacheP C D s * F) w → Calls Try.prog 58 #[.pointer (some ⟨C, 0, none⟩), .int .i64 cno] w fun e w' => e = .returned (.int .i64 0) ∧ Sat (cacheP C D s' * F) w') := hea
          have HI : Aside (RdInv (1 + (cc : Int)) (j + 1) top s' hv2) := hI2
          have hle : (s'.pgs.length : Int) ≤ 1 + (cc : Int) := by have h1 := hI2.ok.len; have h2 := hI2.ok.most; rw [hI2.cap] at h2; omega
          clear hea hs' hI2 hI hk A hz hll hk2
          go_wp2_with fail
          refine (HP1.out _).mono ?_
          rintro e w' ⟨rfl, rfl⟩
          go_wp2_with fail
          refine (HEA.out _ _ (takeI (cacheP C D s))).mono ?_
          rintro e w6 ⟨rfl, hs6⟩
          haveI := hs6.i
          clear hs
          go_wp2_with fail
          refine (resident_any C D s' _ _ (takeI (cacheP C D s'))).mono ?_
          rintro e w' ⟨rfl, rfl⟩
          go_wp2_with fail
          go_roundg (120 - (j + 1))
          case measure => have := HK.out; omega
          case rel =>
            refine ⟨j + 1, top, s', hv2, by go_num, rfl, by omega, by omega, ⟨rfl, HI.out⟩, ?_⟩
            exact satI_weak (C := block wr.heap.size TCall [.int .i64 5, .int .i64 cno, .int .u8 x.toNat]) (by ac_rfl)
        · by_cases hk7 : kd = 7
          · subst hk7
            obtain ⟨hz, hI2, hsz⟩ := hI.flush h8
            have hll : s.its.length ≤ 8 := by have h2 := hI.ok.most; rw [hI.cap] at h2; omega
            have hfa := fun (F : Assn) (w : World) (h : Sat (cacheP C D s * F) w) => flush_any C D s (j * UR) F w h hI.ok (by have := Nat.mul_le_mul_right U hll; have hu : U = 268436480 := rfl; omega)
            rw [hz] at hfa
            obtain ⟨s', hs'⟩ : ∃ t, s.flush.2 = t := ⟨_, rfl⟩
            rw [hs'] at hfa hI2 hsz
            obtain ⟨zz, hzz⟩ : ∃ z, s'.d.size nmP = z := ⟨_, rfl⟩
            rw [hzz] at hsz
            have hsza := fun (F : Assn) (w : World) (h : Sat (diskP D s'.d * F) w) => size_any D s'.d nmP F w h (by decide)
            rw [hzz] at hsza
            unfold nmP at hsza
            have HFA : Aside (∀ (F : Assn) (w : World), Sat (cacheP C D s * F) w → Calls Try.prog 59 #[.pointer (some ⟨C, 0, none⟩)] w fun e w' => e = .returned (.int .i64 0) ∧ Sat (cacheP C D s' * F) w') := hfa
            have HSZ : Aside (∀ (F : Assn) (w : World), Sat (diskP D s'.d * F) w → Calls Try.prog 36 #[.pointer (some ⟨D, 0, none⟩), .string ⟨#[112, 97, 103, 101, 115]⟩] w fun e w' => e = .returned (.int .i64 zz) ∧ w = w') := hsza
            have HI : Aside (RdInv (1 + (cc : Int)) (j + 1) top s' hv2) := hI2
            have hle : (s'.pgs.length : Int) ≤ 1 + (cc : Int) := by have h1 := hI2.ok.len; have h2 := hI2.ok.most; rw [hI2.cap] at h2; omega
            have hways : (0 < top ∧ ¬ zz < 256 * (top : Int)) ∨ (top = 0) := by
              by_cases ht : 0 < top
              · have := hsz ht; left; omega
              · right; omega
            clear hfa hs' hI2 hI hk A hz hll hk2 hk5 hsza hzz hsz
            rcases hways with ⟨ht1, ht2⟩ | ht1
            · have ht3 : decide (zz < 256 * (top : Int)) = false := by simpa using ht2
              go_wp2_with fail
              refine (HP1.out _).mono ?_
              rintro e w' ⟨rfl, rfl⟩
              go_wp2_with fail
              refine (HFA.out _ _ (takeI (cacheP C D s))).mono ?_
              rintro e w6 ⟨rfl, hs6⟩
              obtain ⟨X, hs7, hX⟩ := Sat.cache_disk hs6
              have hsz := HSZ.out _ _ hs7
              haveI := hs6.i
              clear hs hs7 hX
              go_wp2_with fail
              refine hsz.mono ?_
              rintro e w' ⟨rfl, rfl⟩
              clear hsz
              go_wp2_with fail
              refine (resident_any C D s' _ _ (takeI (cacheP C D s'))).mono ?_
              rintro e w' ⟨rfl, rfl⟩
              go_wp2_with fail
              go_roundg (120 - (j + 1))
              case measure => have := HK.out; omega
              case rel =>
                refine ⟨j + 1, top, s', hv2, by go_num, rfl, by omega, by omega, ⟨rfl, HI.out⟩, ?_⟩
                exact satI_weak (C := block wr.heap.size TCall [.int .i64 7, .int .i64 cno, .int .u8 x.toNat]) (by ac_rfl)
            · subst ht1
              by_cases hz0 : zz < 0
              all_goals
                go_wp2_with fail
                refine (HP1.out _).mono ?_
                rintro e w' ⟨rfl, rfl⟩
                go_wp2_with fail
                refine (HFA.out _ _ (takeI (cacheP C D s))).mono ?_
                rintro e w6 ⟨rfl, hs6⟩
                obtain ⟨X, hs7, hX⟩ := Sat.cache_disk hs6
                have hsz := HSZ.out _ _ hs7
                haveI := hs6.i
                clear hs hs7 hX
                go_wp2_with fail
                refine hsz.mono ?_
                rintro e w' ⟨rfl, rfl⟩
                clear hsz
                go_wp2_with fail
                refine (resident_any C D s' _ _ (takeI (cacheP C D s'))).mono ?_
                rintro e w' ⟨rfl, rfl⟩
                go_wp2_with fail
                go_roundg (120 - (j + 1))
                case measure => have := HK.out; omega
                case rel =>
                  refine ⟨j + 1, 0, s', hv2, by go_num, rfl, by omega, by omega, ⟨rfl, HI.out⟩, ?_⟩
                  exact satI_weak (C := block wr.heap.size TCall [.int .i64 7, .int .i64 cno, .int .u8 x.toNat]) (by ac_rfl)
          · have hd2 : (kd == 2) = false := by simpa using hk2
            have hd5 : (kd == 5) = false := by simpa using hk5
            have hd7 : (kd == 7) = false := by simpa using hk7
            obtain ⟨hgo, hne7, hI2⟩ := hI.get hk40
            have hga := fun (F : Assn) (w : World) (h : Sat (cacheP C D s * F) w) => get_any C D s (j * UR) (kk : Int) F w h hI.ok (by omega)
            obtain ⟨⟨gc, gb, s'⟩, hgt⟩ : ∃ r, s.get (kk : Int) = r := ⟨_, rfl⟩
            rw [hgt] at hga hgo hne7 hI2
            simp only at hgo hne7 hI2
            have HGA : Aside (∀ (F : Assn) (w : World), Sat (cacheP C D s * F) w → Calls Try.prog 57 #[.pointer (some ⟨C, 0, none⟩), .int .i64 (kk : Int)] w fun e w' => ∃ v, e = .returned (.tuple #[v, .int .i64 gc]) ∧ Sat (rw TB 1 v (bys gb) * (cacheP C D s' * F)) w') := hga
            have HI : Aside (RdInv (1 + (cc : Int)) (j + 1) top s' hv2) := hI2
            have hle : (s'.pgs.length : Int) ≤ 1 + (cc : Int) := by have h1 := hI2.ok.len; have h2 := hI2.ok.most; rw [hI2.cap] at h2; omega
            obtain ⟨h0, hh0⟩ : ∃ h, hv2[kk]? = some h := ⟨hv2[kk]'(by rw [hI.len]; exact hk40), by simp⟩
            haveI : At (ints hv2) kk (.int .i64 h0) := ⟨by simp [ints, hh0]⟩
            obtain ⟨b0, b1, b2⟩ := hI.have_ kk h0 hh0
            have hpast : top ≤ kk → h0 = 0 := fun h => hI.past kk h0 hh0 h
            have hcode : gc = 0 ∨ gc = 6 := by rcases hgo.code with h | h | h; exact .inl h; exact absurd h hne7; exact .inr h
            have hsix : top ≤ kk → gc = 6 := fun h => hgo.six (by omega)
            have hgl : gc = 0 → gb.length = 256 := hgo.len
            have hgn : gc ≠ 0 → gb = [] := hgo.none
            have hgot : 0 < h0 → gc = 0 ∧ gb = pgx (UInt8.ofNat (h0 - 1).toNat) := by
              intro h
              rcases hgo.got _ (b2 h) with h7 | h7
              · exact absurd h7 hne7
              · exact h7
            clear hga hgt hI2 hI hk A hk2 hk5 hk7 hgo hne7 hh0 b2
            by_cases hp : 0 < h0
            · obtain ⟨rfl, rfl⟩ := hgot hp
              obtain ⟨y, hy⟩ : ∃ y, UInt8.ofNat (h0 - 1).toNat = y := ⟨_, rfl⟩
              have hyn : (y.toNat : Int) = h0 - 1 := by rw [← hy, UInt8.toNat_ofNat']; omega
              rw [hy] at HGA
              have HYN : Aside ((y.toNat : Int) = h0 - 1) := hyn
              have hlt : ¬ (top ≤ kk) := fun h => by have := hpast h; omega
              have hlt2 : ¬ (top : Int) ≤ kk := by omega
              have hh0 : (h0 == 0) = false := by simp; omega
              clear hgot hgl hgn hsix hcode hpast hy hyn hlt
              go_wp2_with fail
              refine (HP1.out _).mono ?_
              rintro e w' ⟨rfl, rfl⟩
              go_wp2_with fail
              refine (HGA.out _ _ (takeI (cacheP C D s))).mono ?_
              rintro e w7 ⟨v7, rfl, hs7⟩
              obtain ⟨va7, vc7, rfl, _, _⟩ := rw_vb hs7
              haveI := hs7.i
              have hf := full07_any y _ w7 hs7
              rw [HYN.out] at hf
              clear hs
              go_wp2_with fail
              refine hf.mono ?_
              rintro e w8 ⟨b8, rfl, hs8⟩
              have hsame := same_any _ _ _ _ w8 (Reads.rw _ _ (hs8.take (rw TB 1 (.slice va7 (pgx y).length vc7) (bys (pgx y))))) (Reads.rw _ _ hs8)
              simp only [decide_true] at hsame
              clear hf hs7
              go_wp2_with fail
              refine hsame.mono ?_
              rintro e w9 ⟨rfl, n9, rfl⟩
              have hs9 := hs8.right.right
              haveI := hs9.i
              clear hsame hs8
              go_wp2_with fail
              refine (resident_any C D s' _ _ (takeI (cacheP C D s'))).mono ?_
              rintro e w' ⟨rfl, rfl⟩
              go_wp2_with fail
              go_roundg (120 - (j + 1))
              case measure => have := HK.out; omega
              case rel =>
                refine ⟨j + 1, top, s', hv2, by go_num, rfl, by omega, by omega, ⟨rfl, HI.out⟩, ?_⟩
                exact satI_weak (C := block wr.heap.size TCall [.int .i64 kd, .int .i64 cno, .int .u8 x.toNat]) (by ac_rfl)
            · have hz : h0 = 0 := by omega
              subst hz
              clear hgot hp b0 b1 hpast
              rcases hcode with rfl | rfl
              · have hlt2 : ¬ (top : Int) ≤ kk := fun h => by have := hsix (by omega); cases this
                have hgl' := hgl rfl
                clear hgl hgn hsix
                go_wp2_with fail
                refine (HP1.out _).mono ?_
                rintro e w' ⟨rfl, rfl⟩
                go_wp2_with fail
                refine (HGA.out _ _ (takeI (cacheP C D s))).mono ?_
                rintro e w7 ⟨v7, rfl, hs7⟩
                obtain ⟨va7, vc7, rfl, _, _⟩ := rw_vb hs7
                rw [hgl'] at hs7
                simp only [hgl']
                haveI := hs7.i
                clear hs hgl'
                go_wp2_with fail
                refine (resident_any C D s' _ _ (takeI (cacheP C D s'))).mono ?_
                rintro e w' ⟨rfl, rfl⟩
                go_wp2_with fail
                go_roundg (120 - (j + 1))
                case measure => have := HK.out; omega
                case rel =>
                  refine ⟨j + 1, top, s', hv2, by go_num, rfl, by omega, by omega, ⟨rfl, HI.out⟩, ?_⟩
                  exact satI_weak (C := block wr.heap.size TCall [.int .i64 kd, .int .i64 cno, .int .u8 x.toNat] * rw TB 1 (.slice va7 256 vc7) (bys gb)) (by ac_rfl)
              · have hgn' := hgn (by decide)
                subst hgn'
                clear hgl hgn hsix
                by_cases hlt : (top : Int) ≤ kk
                all_goals
                  go_wp2_with fail
                  refine (HP1.out _).mono ?_
                  rintro e w' ⟨rfl, rfl⟩
                  go_wp2_with fail
                  refine (HGA.out _ _ (takeI (cacheP C D s))).mono ?_
                  rintro e w7 ⟨v7, rfl, hs7⟩
                  obtain ⟨va7, vc7, rfl, _, _⟩ := rw_vb hs7
                  have hs8 := hs7.right
                  haveI := hs8.i
                  clear hs hs7
                  go_wp2_with fail
                  refine (resident_any C D s' _ _ (takeI (cacheP C D s'))).mono ?_
                  rintro e w' ⟨rfl, rfl⟩
                  go_wp2_with fail
                  go_roundg (120 - (j + 1))
                  case measure => have := HK.out; omega
                  case rel =>
                    refine ⟨j + 1, top, s', hv2, by go_num, rfl, by omega, by omega, ⟨rfl, HI.out⟩, ?_⟩
                    exact satI_weak (C := block wr.heap.size TCall [.int .i64 kd, .int .i64 cno, .int .u8 x.toNat]) (by ac_rfl)
    · have hways : (¬ (j : Int) < cs.length) ∨ ((j : Int) < cs.length ∧ ¬ (j : Int) < 120) := by omega
      clear A
      rcases hways with h1 | ⟨h1, h2⟩
      all_goals
        go_wp2
        go_ret
        exact ⟨rfl, (hs.take (old w)).old_below⟩

end Go.Proofs.Ytjhkmmpgjiciiaa
