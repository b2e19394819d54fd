/-
  The cache: walks of Evict, Flush, New, Resident, Reads; what always holds is kept.
-/
import Derived.Test.YtjhkmmpgjiciiaaCk5
namespace Go.Proofs.Ytjhkmmpgjiciiaa
set_option linter.unusedSimpArgs false
set_option linter.unusedVariables false
open Go.RowKit Go.Sl Go.Dk
open Go.Lru (ikey)
attribute [local go_sem ↓] Go.wp_at_zero Go.wp_at_succ
attribute [local go_sem] Go.Sl.cell_sat Go.Sl.frozen_sat look_PM len_PM put_PM del_PM

theorem write_anyC (C D : Nat) (s : Ck) (m : Nat) (no : Int) (F : Assn) (w : World) (hs : Sat (cacheP C D s * F) w) (ok : CkOk m s) (hm : m ≤ 549755813888) (h0 : 0 ≤ no) (h1 : no < 1048576) :
    Calls Try.prog 96 #[.pointer (some ⟨C, 0, none⟩), .int .i64 no] w fun e w' => e = .returned (.int .i64 (s.write no).1) ∧ Sat (cacheP C D (s.write no).2 * F) w' := by
  obtain ⟨L, PM, ps, hp, hs1⟩ := Sat.cache_open hs
  refine (write_go C L D PM ps s m no F w hs1 hp ok hm h0 h1).mono ?_
  rintro e w' ⟨h2, h3⟩
  exact ⟨h2, Sat.cache_shut (by rw [(write_same s no).2.2.2.1]; exact hp) h3⟩

theorem evict_none {n : Nat} {s : Ck} (h : oldI s.its = none) : Ck.evict n s = (0, s) := by
  cases n with
  | zero => rfl
  | succ n => unfold Ck.evict; rw [h]
theorem evict_some {n : Nat} {s : Ck} {k : It} (h : oldI s.its = some k) : Ck.evict (n + 1) s = if (s.release k.key).1 = 0 then Ck.evict n (s.release k.key).2 else s.release k.key := by
  show (match oldI s.its with | none => _ | some k => _) = _
  rw [h]

set_option maxRecDepth 100000 in
set_option maxHeartbeats 1000000 in
theorem evict_any (C D : Nat) (s : Ck) (m : Nat) (n : Int) (F : Assn) (w : World) (hs : Sat (cacheP C D s * F) w) (ok : CkOk m s) (hm : m + s.its.length * U ≤ 549755813888) (hn : n ≤ 9223372036854775807) (hn2 : -9223372036854775808 ≤ n) :
    Calls Try.prog 58 #[.pointer (some ⟨C, 0, none⟩), .int .i64 n] w fun e w' => e = .returned (.int .i64 (Ck.evict n.toNat s).1) ∧ Sat (cacheP C D (Ck.evict n.toNat s).2 * F) w' := by
  obtain ⟨R, HR⟩ : ∃ R, Aside (Ck.evict n.toNat s = R) := ⟨_, rfl⟩
  rw [HR.out]
  have HM : Aside (CkOk m s ∧ m + s.its.length * U ≤ 549755813888) := ⟨ok, hm⟩
  clear hm ok
  go_enter Try.func58, Try.ntmps58
  go_wp2_with fail
  go_loopg [1] s.its.length (fun k t1 wr => ∃ (r : Int) (t : Ck), t1 = .int .i64 r ∧ -9223372036854775808 ≤ r ∧ r ≤ 9223372036854775807 ∧ Aside (k = t.its.length ∧ Ck.evict r.toNat t = R ∧ ∃ m', CkOk m' t ∧ m' + t.its.length * U ≤ 549755813888) ∧ Sat (cacheP C D t * F) wr)
  case atStart => exact ⟨n, s, rfl, hn2, hn, ⟨rfl, HR.out, m, HM.out.1, HM.out.2⟩, hs⟩
  case round =>
    clear hs HR HM hn hn2
    obtain ⟨r, t, rfl, hr1, hr2, A, hs⟩ := hrel
    by_cases hr : 0 < r
    · obtain ⟨hk, hev, m', hok, hm'⟩ := A.out
      obtain ⟨L, PM, ps, hp, hs1⟩ := Sat.cache_open hs
      unfold cacheA at hs1
      have hol := oldestH L t.cap t.its _ wr (hs1.take (lruI L t.cap t.its))
      haveI := hs1.i
      cases ho : oldI t.its with
      | none =>
        rw [ho] at hol
        have HE : Aside (R = (0, t)) := by show _ = _; rw [← hev, evict_none ho]
        clear ho hk hev hok hm' hp A
        go_wp2_with fail
        refine hol.mono ?_
        rintro e w2 ⟨rfl, rfl⟩
        go_wp2
        go_ret
        rw [HE.out]
        exact ⟨rfl, hs⟩
      | some q =>
        rw [ho] at hol
        obtain ⟨r1, r2, r3, r4⟩ := release_ok hok (old_drop ho)
        have hmu : m' ≤ 549755813888 := by omega
        have hrel2 := release_any C D t m' q.key F wr hs hok hmu (old_drop ho)
        have hev2 : (if (t.release q.key).1 = 0 then Ck.evict (r - 1).toNat (t.release q.key).2 else t.release q.key) = R := by
          rw [← hev, show r.toNat = (r - 1).toNat + 1 by omega, evict_some ho]
        obtain ⟨⟨rc, rs⟩, hrr⟩ : ∃ x, t.release q.key = x := ⟨_, rfl⟩
        rw [hrr] at r1 r2 hrel2 hev2
        simp only at r1 r2 hrel2 hev2
        have HK : Aside (gk = t.its.length) := hk
        by_cases hz : rc = 0
        · subst hz
          rw [if_pos rfl] at hev2
          have hl := r2 rfl
          have HQ : Aside (Ck.evict (r - 1).toNat rs = R ∧ rs.its.length + 1 = t.its.length ∧ CkOk (m' + U) rs ∧ m' + U + rs.its.length * U ≤ 549755813888) := ⟨hev2, hl, r1, by rw [← hl, Nat.add_mul] at hm'; omega⟩
          clear ho hk hev hok hm' hp A r1 r2 r3 r4 hmu hev2 hrr hl
          go_wp2_with fail
          refine hol.mono ?_
          rintro e w2 ⟨rfl, rfl⟩
          go_wp2_with fail
          refine hrel2.mono ?_
          rintro e w3 ⟨rfl, hs3⟩
          clear hol hrel2 hs hs1
          go_wp2_with fail
          go_roundg rs.its.length
          case measure => have := HK.out; have := HQ.out.2.1; omega
          case rel => exact ⟨r - 1, rs, rfl, by omega, by omega, ⟨rfl, HQ.out.1, _, HQ.out.2.2.1, HQ.out.2.2.2⟩, hs3⟩
        · rw [if_neg hz] at hev2
          have hz2 : (rc != 0) = true := by simpa using hz
          have HQ : Aside ((rc, rs) = R) := hev2
          clear ho hk hev hok hm' hp A r1 r2 r3 r4 hmu hev2 hrr hz
          go_wp2_with fail
          refine hol.mono ?_
          rintro e w2 ⟨rfl, rfl⟩
          go_wp2_with fail
          refine hrel2.mono ?_
          rintro e w3 ⟨rfl, hs3⟩
          clear hol hrel2 hs hs1
          go_wp2
          go_ret
          rw [← HQ.out]
          exact ⟨rfl, hs3⟩
    · have hr' : ¬ (0 : Int) < r := hr
      have HE : Aside (R = (0, t)) := by
        show _ = _
        rw [← A.out.2.1, show r.toNat = 0 by omega]; rfl
      clear A
      go_wp2
      go_ret
      rw [HE.out]
      exact ⟨rfl, hs⟩

theorem write_has (s : Ck) (no k : Int) : hasI (s.write no).2.its k = hasI s.its k := by
  rcases (write_same s no).2.2.2.2 with e | e
  · rw [e]
  · rw [e, has_mark]

set_option maxRecDepth 100000 in
set_option maxHeartbeats 1000000 in
theorem flush_any (C D : Nat) (s : Ck) (m : Nat) (F : Assn) (w : World) (hs : Sat (cacheP C D s * F) w) (ok : CkOk m s) (hm : m + s.its.length * U ≤ 549755813888) :
    Calls Try.prog 59 #[.pointer (some ⟨C, 0, none⟩)] w fun e w' => e = .returned (.int .i64 s.flush.1) ∧ Sat (cacheP C D s.flush.2 * F) w' := by
  obtain ⟨R, HR⟩ : ∃ R, Aside (Ck.writes (markedI s.its) s = R) := ⟨_, rfl⟩
  have HFL : Aside (s.flush = if R.1 = 0 then ((if (R.2.d.sync R.2.nm).1 = 6 then 0 else (R.2.d.sync R.2.nm).1), { R.2 with d := (R.2.d.sync R.2.nm).2 }) else R) := by
    show _ = _
    unfold Ck.flush; rw [HR.out]
  obtain ⟨Z, HZ⟩ : ∃ Z, Aside (s.flush = Z) := ⟨_, rfl⟩
  rw [HZ.out]
  rw [HZ.out] at HFL
  clear HZ
  obtain ⟨L, PM, ps, hp, hs1⟩ := Sat.cache_open hs
  unfold cacheA at hs1
  have hmk := markedH L s.cap s.its _ w (hs1.take (lruI L s.cap s.its)) ok.lru
  have hzs : ∀ z ∈ markedI s.its, hasI s.its z = true := by
    intro z hz
    exact dirty_has (s := s) (by unfold Ck.dirty; exact List.contains_iff_mem.2 hz)
  have hzl : (markedI s.its).length ≤ s.its.length := by
    unfold markedI sortI
    rw [(List.mergeSort_perm _ _).length_eq, List.length_map]
    exact List.length_filter_le _ _
  obtain ⟨zs, hzz⟩ : ∃ zs, markedI s.its = zs := ⟨_, rfl⟩
  rw [hzz] at hmk hzs hzl HR
  have HP : Aside (pgents ps = s.pgs ∧ (∀ z ∈ zs, hasI s.its z = true) ∧ CkOk m s ∧ m + zs.length * U ≤ 549755813888 ∧ zs.length ≤ 4096) := ⟨hp, hzs, ok, by have := Nat.mul_le_mul_right U hzl; omega, by have := ok.lru.len; omega⟩
  haveI := hs1.i
  clear hzz hzs hzl hs hp ok hm
  go_enter Try.func59, Try.ntmps59
  go_wp2_with fail
  refine hmk.mono ?_
  rintro e w1 ⟨a, n, c, rfl, hs2⟩
  have hn : n = zs.length := by have := hs2.rw_len; simpa using this
  subst hn
  obtain ⟨R0, hR0⟩ : ∃ R0, rw 3 1 (.slice a zs.length c) (zs.map (Value.int .i64)) = R0 := ⟨_, rfl⟩
  have hI : ∀ F w, Sat (R0 * F) w → Ints w (.slice a zs.length c) zs := by intro F w h; rw [← hR0] at h; exact Ints.of_rw h
  have hs3 : Sat (R0 * (cacheP C D s * F)) w1 := by
    rw [hR0] at hs2
    have h3 := Sat.cache_shut (L := L) (PM := PM) (ps := ps) (C := C) (D := D) (s := s) (F := R0 * F) (w := w1) HP.out.1 (hs2.eq (by unfold cacheA; ac_rfl))
    exact h3.eq (by ac_rfl)
  have HI : Aside (∀ F w, Sat (R0 * F) w → Ints w (.slice a zs.length c) zs) := hI
  have hzl : zs.length ≤ 4096 := HP.out.2.2.2.2
  clear hmk hs1 hs2 hR0 hI
  go_wp2_with fail
  go_loopg [15] zs.length (fun k t15 wr => ∃ (j : Nat) (t : Ck), t15 = .int .i64 j ∧ j ≤ zs.length ∧ Aside (k = zs.length - j ∧ Ck.writes (zs.drop j) t = R ∧ CkOk (m + j * U) t ∧ (∀ z, hasI t.its z = hasI s.its z)) ∧ Sat (R0 * (cacheP C D t * F)) wr)
  case atStart => exact ⟨0, s, rfl, by omega, ⟨rfl, HR.out, by simpa using HP.out.2.2.1, fun _ => rfl⟩, hs3⟩
  case round =>
    clear hs3
    obtain ⟨j, t, rfl, hj, A, hs⟩ := hrel
    by_cases hlt : j < zs.length
    · have hlt' : (j : Int) < zs.length := by omega
      obtain ⟨z, hz⟩ : ∃ z, zs[j]? = some z := ⟨zs[j], by simp [hlt]⟩
      obtain ⟨hk, hwr, hok, hhas⟩ := A.out
      have hzh : hasI t.its z = true := by rw [hhas]; exact HP.out.2.1 z (List.mem_of_getElem? hz)
      obtain ⟨b0, _, _, hz0, hz1⟩ := hok.key hzh
      have hmj : m + j * U + U ≤ 549755813888 := by
        have := HP.out.2.2.2.1
        have h2 : (j + 1) * U ≤ zs.length * U := Nat.mul_le_mul_right U hlt
        rw [Nat.add_mul] at h2
        omega
      have hw := write_anyC C D t (m + j * U) z (R0 * F) wr (hs.eq (by ac_rfl)) hok (by omega) hz0 hz1
      have hw2 := write_ok hok hzh
      have hdr : zs.drop j = z :: zs.drop (j + 1) := by
        rw [List.drop_eq_getElem_cons hlt]
        congr 1
        rw [List.getElem?_eq_getElem hlt] at hz; exact Option.some.inj hz
      rw [hdr] at hwr
      have hwr2 : (if (t.write z).1 = 0 then Ck.writes (zs.drop (j + 1)) (t.write z).2 else t.write z) = R := hwr
      have hhas2 : ∀ y, hasI (t.write z).2.its y = hasI s.its y := by
        intro y; rw [← hhas y, write_has]
      obtain ⟨⟨rc, rs⟩, hrr⟩ : ∃ x, t.write z = x := ⟨_, rfl⟩
      rw [hrr] at hw hw2 hwr2 hhas2
      simp only at hw hw2 hwr2 hhas2
      obtain ⟨b, o, rfl, hc⟩ := (HI.out _ _ hs).at hz
      have HK : Aside (gk = zs.length - j) := hk
      have HH : Aside (∀ y, hasI rs.its y = hasI s.its y) := hhas2
      have HO : Aside (CkOk (m + (j + 1) * U) rs) := hw2.more (by rw [Nat.add_mul]; omega)
      by_cases hzz : rc = 0
      · subst hzz
        rw [if_pos rfl] at hwr2
        have HW : Aside (Ck.writes (zs.drop (j + 1)) rs = R) := hwr2
        clear A hz hk hwr hok hhas hzh hz0 hz1 hmj hw2 hdr hwr2 hhas2 hrr
        go_wp2_with fail
        refine hw.mono ?_
        rintro e w3 ⟨rfl, hs3⟩
        clear hw hs hc
        go_wp2_with fail
        go_roundg (zs.length - (j + 1))
        case measure => have := HK.out; omega
        case rel => exact ⟨j + 1, rs, by go_num, by omega, ⟨rfl, HW.out, HO.out, HH.out⟩, hs3.eq (by ac_rfl)⟩
      · rw [if_neg hzz] at hwr2
        have hz2 : (rc != 0) = true := by simpa using hzz
        have HW : Aside (Z = (rc, rs)) := by
          show _ = _
          rw [HFL.out, ← hwr2, if_neg hzz]
        clear A hz hk hwr hok hhas hzh hz0 hz1 hmj hw2 hdr hwr2 hhas2 hrr hzz
        go_wp2_with fail
        refine hw.mono ?_
        rintro e w3 ⟨rfl, hs3⟩
        clear hw hs hc
        go_wp2
        go_ret
        rw [HW.out]
        exact ⟨rfl, (hs3.eq (sep_left _ _ _)).right⟩
    · have hlt' : ¬ (j : Int) < zs.length := by omega
      obtain ⟨hk, hwr, hok, hhas⟩ := A.out
      rw [List.drop_of_length_le (by omega)] at hwr
      have hwr2 : (0, t) = R := hwr
      have HZ : Aside (Z = ((if (t.d.sync t.nm).1 = 6 then 0 else (t.d.sync t.nm).1), { t with d := (t.d.sync t.nm).2 })) := by
        show _ = _
        rw [HFL.out, ← hwr2, if_pos rfl]
      have hmj : m + j * U ≤ 549755813888 := by
        have := HP.out.2.2.2.1
        have h2 : j * U ≤ zs.length * U := Nat.mul_le_mul_right U hj
        omega
      have hnm : t.nm.size ≤ 9223372036854775807 := named_size hok.nm
      have hsc := fun F w h => sync_any D t.d (m + j * U) t.nm F w h hnm hok.dk (by unfold big; omega)
      obtain ⟨⟨rc, rd⟩, hrr⟩ : ∃ x, t.d.sync t.nm = x := ⟨_, rfl⟩
      rw [hrr] at hsc HZ
      simp only at hsc HZ
      have HSC : Aside (∀ (F : Assn) (w : World), Sat (diskP D t.d * F) w → Calls Try.prog 33 #[.pointer (some ⟨D, 0, none⟩), .string t.nm] w fun e w' => e = .returned (.int .i64 rc) ∧ Sat (diskP D rd * F) w') := hsc
      obtain ⟨L5, PM5, ps5, hp5, hs5⟩ := Sat.cache_open (hs.right)
      unfold cacheA at hs5
      have HP5 : Aside (pgents ps5 = t.pgs) := hp5
      haveI := hs5.i
      clear A hk hwr hok hhas hwr2 hmj hsc hrr HFL hp5 hs
      have hshut : Aside (∀ w, Sat (diskP D rd * (coreC C L5 D PM5 t * (lruI L5 t.cap t.its * (mp ikey PM5 (ps5.map kvP) * pagesA ps5)) * F)) w → Sat (cacheP C D { t with d := rd } * F) w) := by
        intro w h
        refine Sat.cache_shut (L := L5) (PM := PM5) (ps := ps5) HP5.out (h.eq ?_)
        show _ = coreC C L5 D PM5 t * (lruI L5 t.cap t.its * (diskP D rd * (mp ikey PM5 (ps5.map kvP) * pagesA ps5))) * F
        ac_rfl
      by_cases h6 : rc = 6
      · subst h6
        have HZ2 : Aside (Z = (0, { t with d := rd })) := by show _ = _; rw [HZ.out, if_pos rfl]
        clear HZ
        go_upto_region 10 with (fail)
        go_region_held3 (fun w' => w'.cell? ⟨C, 1, none⟩ = some (.pointer (some ⟨D, 0, none⟩)) ∧ w'.cell? ⟨C, 2, none⟩ = some (.string t.nm)) (first | exact ⟨cell_sat _ _ _, cell_sat _ _ _⟩) (first
          | (go_at_call 33; refine (HSC.out _ _ (takeI (diskP D t.d))).mono ?_; rintro e w6 ⟨rfl, hs6⟩; haveI := hs6.i))
        all_goals
          go_wp2
          go_ret
          rw [HZ2.out]
          exact ⟨rfl, hshut.out _ (hs6.eq (by ac_rfl))⟩
      · have HZ2 : Aside (Z = (rc, { t with d := rd })) := by show _ = _; rw [HZ.out, if_neg h6]
        clear HZ
        have h6' : (rc != 6) = true := by simpa using h6
        by_cases h0 : rc = 0
        · subst h0
          clear h6 h6'
          go_upto_region 10 with (fail)
          go_region_held3 (fun w' => w'.cell? ⟨C, 1, none⟩ = some (.pointer (some ⟨D, 0, none⟩)) ∧ w'.cell? ⟨C, 2, none⟩ = some (.string t.nm)) (first | exact ⟨cell_sat _ _ _, cell_sat _ _ _⟩) (first
            | (go_at_call 33; refine (HSC.out _ _ (takeI (diskP D t.d))).mono ?_; rintro e w6 ⟨rfl, hs6⟩; haveI := hs6.i))
          all_goals
            go_wp2
            go_ret
            rw [HZ2.out]
            exact ⟨rfl, hshut.out _ (hs6.eq (by ac_rfl))⟩
        · have h0' : (rc != 0) = true := by simpa using h0
          clear h6 h0
          go_upto_region 10 with (fail)
          go_region_held3 (fun w' => w'.cell? ⟨C, 1, none⟩ = some (.pointer (some ⟨D, 0, none⟩)) ∧ w'.cell? ⟨C, 2, none⟩ = some (.string t.nm)) (first | exact ⟨cell_sat _ _ _, cell_sat _ _ _⟩) (first
            | (go_at_call 33; refine (HSC.out _ _ (takeI (diskP D t.d))).mono ?_; rintro e w6 ⟨rfl, hs6⟩; haveI := hs6.i))
          all_goals
            go_wp2
            go_ret
            rw [HZ2.out]
            exact ⟨rfl, hshut.out _ (hs6.eq (by ac_rfl))⟩

end Go.Proofs.Ytjhkmmpgjiciiaa
