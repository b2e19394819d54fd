/-
  The cache: walks of release, room, take.
-/
import Derived.Test.YtjhkmmpgjiciiaaCk2
import Derived.Test.YtjhkmmpgjiciiaaCk3
namespace Go.Proofs.Ytjhkmmpgjiciiaa
set_option linter.unusedSimpArgs false
set_option linter.unusedVariables false
open Go.RowKit Go.Sl Go.Dk
open Go.Lru (ikey)
attribute [local go_sem ↓] Go.wp_at_zero Go.wp_at_succ
attribute [local go_sem] Go.Sl.cell_sat Go.Sl.frozen_sat look_PM len_PM put_PM del_PM

set_option maxRecDepth 100000 in
set_option maxHeartbeats 1000000 in
theorem release_any (C D : Nat) (s : Ck) (m : Nat) (no : Int) (F : Assn) (w : World) (hs : Sat (cacheP C D s * F) w) (ok : CkOk m s) (hm : m ≤ 549755813888) (hd : dropB s.its no = true) :
    Calls Try.prog 95 #[.pointer (some ⟨C, 0, none⟩), .int .i64 no] w fun e w' => e = .returned (.int .i64 (s.release no).1) ∧ Sat (cacheP C D (s.release no).2 * F) w' := by
  obtain ⟨L, PM, ps, hp, hs⟩ := Sat.cache_open hs
  obtain ⟨b, hb, hl, h0, h1⟩ := ok.key (drop_has hd)
  have hwr := write_go C L D PM ps s m no F w hs hp ok hm h0 h1
  have hwo := write_ok ok (drop_has hd)
  obtain ⟨w1, w2, w3, w4, w5⟩ := write_same s no
  have HR : Aside (s.release no = if (s.write no).1 = 0 then (0, { (s.write no).2 with its := if dropB (s.write no).2.its no then outI (s.write no).2.its no else (s.write no).2.its, pgs := pdel no (s.write no).2.pgs }) else s.write no) := rfl
  obtain ⟨s1, hs1⟩ : ∃ x, (s.write no).2 = x := ⟨_, rfl⟩
  obtain ⟨e1, he1⟩ : ∃ x, (s.write no).1 = x := ⟨_, rfl⟩
  have hse : s.write no = (e1, s1) := by rw [← hs1, ← he1]
  rw [hse] at hwr hwo HR
  rw [hs1, ← hp] at w4
  rw [hs1] at w5
  have hd1 : dropB s1.its no = true := by
    rcases w5 with e | e
    · rw [e]; exact hd
    · rw [e, dropB_mark]; exact hd
  simp only at hwr hwo HR
  rw [if_pos hd1] at HR
  have hdr := fun F w h => dropH L s1.cap s1.its no F w h hwo.lru
  rw [hd1, if_pos rfl] at hdr
  have HP : Aside (pgents ps = s1.pgs ∧ pget no s.pgs = some b) := ⟨w4.symm, hb⟩
  have HL : Aside (LruOk s1.its) := hwo.lru
  clear hs1 he1 hse w1 w2 w3 w4 w5 hwo hs hl hd hd1
  by_cases hz : e1 = 0
  · subst hz
    rw [if_pos rfl] at HR
    rw [HR.out]
    clear HR
    rcases pg_cases ps no with ⟨l1, p, l2, rfl, rfl, hl1⟩ | hno
    · obtain ⟨_, _, _, q4, q5⟩ := pg_found (l2 := l2) hl1
      have HQ : Aside (pgents (l1 ++ l2) = pdel p.key s1.pgs ∧ mdel p.key ((l1 ++ p :: l2).map kvP) = (l1 ++ l2).map kvP) := ⟨by rw [← HP.out.1]; exact q4.symm, q5⟩
      clear q4 q5 hp hb
      go_enter Try.func95, Try.ntmps95
      go_wp2_with fail
      refine hwr.mono ?_
      rintro e w2 ⟨rfl, hs2⟩
      unfold cacheA at hs2
      haveI := hs2.i
      have HDR : Aside (∀ (F : Assn) (w : World), Sat (lruI L s1.cap s1.its * F) w → Calls Try.prog 26 #[.pointer (some ⟨L, 0, none⟩), .int .i64 p.key] w fun e w' => e = .returned (.bool true) ∧ Sat (lruI L s1.cap (outI s1.its p.key) * F) w') := hdr
      clear hwr hdr
      go_wp2_with fail
      refine (HDR.out _ _ (takeI (lruI L s1.cap s1.its))).mono ?_
      rintro e w3 ⟨rfl, hs3⟩
      haveI := hs3.i
      clear hs2
      go_wp2
      go_ret
      refine ⟨rfl, ?_⟩
      refine Sat.cache_shut (L := L) (PM := PM) (ps := l1 ++ l2) HQ.out.1 ?_
      refine satI_weak (C := rw TB 1 p.v (bys p.b)) ?_
      rw [HQ.out.2, pagesA_append, show pagesA (p :: l2) = rw TB 1 p.v (bys p.b) * pagesA l2 from rfl]
      show _ = coreC C L D PM s1 * (lruI L s1.cap (outI s1.its p.key) * (diskP D s1.d * (mp ikey PM ((l1 ++ l2).map kvP) * pagesA (l1 ++ l2)))) * F * rw TB 1 p.v (bys p.b)
      rw [pagesA_append]
      ac_rfl
    · have := HP.out.2
      rw [← hp, (pg_none hno).1] at this
      cases this
  · rw [if_neg hz] at HR
    rw [HR.out]
    clear HR
    have hz' : (e1 == 0) = false := by simpa using hz
    go_enter Try.func95, Try.ntmps95
    go_wp2_with fail
    refine hwr.mono ?_
    rintro e w2 ⟨rfl, hs2⟩
    go_wp2
    go_ret
    exact ⟨rfl, Sat.cache_shut HP.out.1 hs2⟩

set_option maxRecDepth 100000 in
set_option maxHeartbeats 1000000 in
theorem room_any (C D : Nat) (s : Ck) (m : Nat) (F : Assn) (w : World) (hs : Sat (cacheP C D s * F) w) (ok : CkOk m s) (hm : m ≤ 549755813888) :
    Calls Try.prog 108 #[.pointer (some ⟨C, 0, none⟩)] w fun e w' => e = .returned (.int .i64 s.room.1) ∧ Sat (cacheP C D s.room.2 * F) w' := by
  obtain ⟨L, PM, ps, hp, hs1⟩ := Sat.cache_open hs
  have hpl : ps.length = s.pgs.length := by rw [← hp]; simp [pgents]
  have hlen := ok.len
  have hcap := ok.cap
  have hmost := ok.most
  unfold cacheA at hs1
  by_cases hlt : (ps.length : Int) < s.cap
  · have e : s.room = (0, s) := by unfold Ck.room; rw [if_pos (by rw [← hpl]; exact hlt)]
    rw [e]
    have HP : Aside (pgents ps = s.pgs) := hp
    haveI := hs1.i
    clear e hs hp hpl hlen
    go_enter Try.func108, Try.ntmps108
    go_upto_region 1 with (fail)
    go_region
    all_goals
      go_wp2
      go_ret
      exact ⟨rfl, Sat.cache_shut HP.out (satI_eq (by unfold cacheA; rfl))⟩
  · have hlt' : decide ((ps.length : Int) < s.cap) = false := by simpa using hlt
    cases ho : oldI s.its with
    | none =>
      have e : s.room = (9, s) := by unfold Ck.room; rw [if_neg (by rw [← hpl]; exact hlt), ho]
      rw [e]
      have hol := fun F w h => oldestH L s.cap s.its F w h
      rw [ho] at hol
      have HP : Aside (pgents ps = s.pgs) := hp
      have HO : Aside (∀ (F : Assn) (w : World), Sat (lruI L s.cap s.its * F) w → Calls Try.prog 25 #[.pointer (some ⟨L, 0, none⟩)] w fun e w' => e = .returned (.tuple #[.int .i64 0, .bool false]) ∧ w = w') := hol
      haveI := hs1.i
      clear e hs hp hpl hlen hlt hol ho
      go_enter Try.func108, Try.ntmps108
      go_upto_region 1 with (fail)
      go_region
      all_goals
        go_wp2_with fail
        refine (HO.out _ _ (takeI (lruI L s.cap s.its))).mono ?_
        rintro e w2 ⟨rfl, rfl⟩
        go_wp2
        go_ret
        exact ⟨rfl, Sat.cache_shut HP.out (satI_eq (by unfold cacheA; rfl))⟩
    | some n =>
      have e : s.room = s.release n.key := by unfold Ck.room; rw [if_neg (by rw [← hpl]; exact hlt), ho]
      rw [e]
      have hol := fun F w h => oldestH L s.cap s.its F w h
      rw [ho] at hol
      have HP : Aside (pgents ps = s.pgs ∧ dropB s.its n.key = true) := ⟨hp, old_drop ho⟩
      have HO : Aside (∀ (F : Assn) (w : World), Sat (lruI L s.cap s.its * F) w → Calls Try.prog 25 #[.pointer (some ⟨L, 0, none⟩)] w fun e w' => e = .returned (.tuple #[.int .i64 n.key, .bool true]) ∧ w = w') := hol
      haveI := hs1.i
      clear e hs hp hpl hlen hlt hol ho
      go_enter Try.func108, Try.ntmps108
      go_upto_region 1 with (fail)
      go_region
      all_goals
        go_wp2_with fail
        refine (HO.out _ _ (takeI (lruI L s.cap s.its))).mono ?_
        rintro e w2 ⟨rfl, rfl⟩
        go_wp2_with fail
        refine (release_any C D s m n.key F _ (Sat.cache_shut HP.out.1 (satI_eq (by unfold cacheA; rfl))) ok hm HP.out.2).mono ?_
        rintro e w3 ⟨rfl, hs3⟩
        go_wp2
        go_ret
        exact ⟨rfl, hs3⟩

set_option maxRecDepth 100000 in
set_option maxHeartbeats 1000000 in
theorem take_any (C D : Nat) (s : Ck) (m : Nat) (no : Int) (v : Value) (b : List UInt8) (B F : Assn) (w : World) (hB : Reads B v b) (hs : Sat (cacheP C D s * (B * F)) w) (ok : CkOk m s) (hm : m ≤ 274877906944) (hno : hasI s.its no = false) (hb : b.length = 256) :
    Calls Try.prog 94 #[.pointer (some ⟨C, 0, none⟩), .int .i64 no, v] w fun e w' => e = .returned (.int .i64 (s.take no b).1) ∧ Sat (cacheP C D (s.take no b).2 * (B * F)) w' := by
  obtain ⟨va, vc, rfl, hvc, hvm⟩ := (hB _ _ (hs.take B)).len
  have hrm := room_any C D s m _ w hs ok (by omega)
  obtain ⟨r1, r2, r3, r4⟩ := room_ok ok
  have HT : Aside (s.take no b = if s.room.1 = 0 then (0, { s.room.2 with its := s.room.2.its ++ [⟨no, 0, false⟩], pgs := pput no b s.room.2.pgs }) else s.room) := rfl
  obtain ⟨s1, hs1⟩ : ∃ x, s.room.2 = x := ⟨_, rfl⟩
  obtain ⟨e1, he1⟩ : ∃ x, s.room.1 = x := ⟨_, rfl⟩
  have hse : s.room = (e1, s1) := by rw [← hs1, ← he1]
  rw [hse] at hrm HT
  simp only at hrm HT
  rw [hs1] at r1 r2 r3
  rw [he1] at r2
  clear hs1 he1 hse
  by_cases hz : e1 = 0
  · subst hz
    rw [if_pos rfl] at HT
    rw [HT.out]
    have hlt := r2 rfl
    have hno1 : hasI s1.its no = false := by
      rw [Bool.eq_false_iff]; intro hh; rw [r3 no hh] at hno; cases hno
    have hpn : (pget no s1.pgs).isSome = false := by rw [← r1.same]; exact hno1
    have HA : Aside (LruOk s1.its ∧ hasI s1.its no = false ∧ (s1.its.length : Int) ≠ s1.cap ∧ (pget no s1.pgs).isSome = false) := ⟨r1.lru, hno1, by omega, hpn⟩
    obtain ⟨i0, E⟩ := elemB
    rw [hb] at hvc hB
    rw [hb]
    have HB : Aside (b.length = 256) := hb
    clear HT r1 r2 r3 r4 hlt hno1 hpn hs hno hb
    go_enter Try.func94, Try.ntmps94
    go_wp2_with fail
    refine hrm.mono ?_
    rintro e w2 ⟨rfl, hs2⟩
    obtain ⟨L, PM, ps, hp, hs2⟩ := Sat.cache_open hs2
    unfold cacheA at hs2
    have HP : Aside (pgents ps = s1.pgs) := hp
    haveI := hs2.i
    clear hrm hp
    go_wp2_with fail
    refine (addH L s1.cap s1.its no _ _ (takeI (lruI L s1.cap s1.its)) HA.out.1 HA.out.2.1 HA.out.2.2.1).mono ?_
    rintro e w3 ⟨rfl, hs3⟩
    haveI := hs3.i
    clear hs2
    go_upto_region 5 with (fail)
    go_region_held3 (fun w' => w'.cell? ⟨C, 4, none⟩ = some (.map (some PM))) (first | exact cell_sat _ _ _) (first
      | (refine step_append_sl E rfl (.tmp 24) (.tmp 25) rfl rfl rfl (rw_empty (b := w3.heap.size) (e := TB)) (hB.srcI HB.out) (by unfold maxLen; omega) (by omega) ?_; intro a4 c4 w4 hs4 hnn; clear hnn; simp only [Nat.zero_add, List.nil_append] at hs4; haveI := hs4.i))
    all_goals
      go_wp2
      go_ret
      refine ⟨rfl, ?_⟩
      have hno2 : ∀ p ∈ ps, p.key ≠ no := by
        rcases pg_cases ps no with ⟨l1, p, l2, rfl, rfl, hl1⟩ | h
        · have := HA.out.2.2.2
          rw [← HP.out, (pg_found hl1).1] at this
          cases this
        · exact h
      obtain ⟨_, _, g1, g2⟩ := pg_none hno2
      refine Sat.cache_shut (L := L) (PM := PM) (ps := ps ++ [⟨no, .slice a4 256 c4, b⟩]) ?_ ?_
      · show _ = pput no b s1.pgs
        rw [← HP.out, g1]; simp [pgents]
      · refine satI_eq ?_
        rw [g2]
        show _ = coreC C L D PM s1 * (lruI L s1.cap (s1.its ++ [⟨no, 0, false⟩]) * (diskP D s1.d * (mp ikey PM ((ps ++ [(⟨no, .slice a4 256 c4, b⟩ : Pg)]).map kvP) * pagesA (ps ++ [(⟨no, .slice a4 256 c4, b⟩ : Pg)])))) * (B * F)
        rw [pagesA_append, List.map_append, show pagesA [(⟨no, .slice a4 256 c4, b⟩ : Pg)] = rw TB 1 (.slice a4 256 c4) (bys b) * 1 from rfl, sep_one]
        show _ = coreC C L D PM s1 * (lruI L s1.cap (s1.its ++ [⟨no, 0, false⟩]) * (diskP D s1.d * (mp ikey PM (ps.map kvP ++ [(no, .slice a4 256 c4)]) * _))) * (B * F)
        ac_rfl
  · rw [if_neg hz] at HT
    rw [HT.out]
    have hz' : (e1 != 0) = true := by simpa using hz
    clear HT r1 r2 r3 r4 hs hno hz
    go_enter Try.func94, Try.ntmps94
    go_wp2_with fail
    refine hrm.mono ?_
    rintro e w2 ⟨rfl, hs2⟩
    go_wp2
    go_ret
    exact ⟨rfl, hs2⟩

end Go.Proofs.Ytjhkmmpgjiciiaa
