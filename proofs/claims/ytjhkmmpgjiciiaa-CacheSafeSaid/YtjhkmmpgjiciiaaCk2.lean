/-
  The cache: the walk of write.
-/
import Derived.Test.YtjhkmmpgjiciiaaCk1
import Derived.Laws.MakeOwn
namespace Go.Proofs.Ytjhkmmpgjiciiaa
set_option linter.unusedSimpArgs false
set_option linter.unusedVariables false
open Go.RowKit Go.Sl Go.Dk
open Go.Lru (ikey)
attribute [local go_sem ↓] Go.wp_at_zero Go.wp_at_succ
attribute [local go_sem] Go.Sl.cell_sat Go.Sl.frozen_sat look_PM len_PM put_PM del_PM

theorem made_bytes (n : Nat) : madeCells (Value.int .u8 0).cells n = (bys (List.replicate n 0)).toArray := by
  apply Array.ext
  · simp [madeCells, bys]
  · intro i h1 h2
    have e : (Value.int .u8 0).cells = #[Value.int .u8 0] := rfl
    simp [madeCells, bys, bv, e, Nat.mod_one]

theorem mk_bytes (n : Nat) (hn : n ≤ 1099511627776) (w : World) : (Instr.makeSlice 45 (.int .i64 n) (.int .i64 n)).run Try.prog w = .ok (.slice (some ⟨w.heap.size, 0, none⟩) n n) (w.alloc (.cells (bys (List.replicate n 0)).toArray TB)) := by
  obtain ⟨i, E⟩ := elemB
  have h := run_make (P := Try.prog) w 45 TB i (.int .u8 0) E.und E.info E.zero .i64 .i64 n n (by omega) (by omega) (by rw [E.bytes]; omega) (by omega)
  rw [E.size, Nat.mul_one, Int.toNat_natCast, made_bytes] at h
  exact h

theorem sortI_mem (l : List Int) (x : Int) : x ∈ sortI l ↔ x ∈ l := (List.mergeSort_perm l _).mem_iff
theorem named_size {s : ByteArray} (h : Dk.named s = true) : s.size ≤ 9223372036854775807 := by
  rcases Nat.lt_or_ge 16 s.size with h1 | h1
  · rw [named_short (.inr h1)] at h; cases h
  · omega

theorem dirty_has {s : Ck} {no : Int} (h : s.dirty no = true) : hasI s.its no = true := by
  unfold Ck.dirty at h
  have h1 := List.contains_iff_mem.1 h
  unfold markedI at h1
  have h2 := (sortI_mem _ _).1 h1
  obtain ⟨n, h3, rfl⟩ := List.mem_map.1 h2
  unfold hasI
  rw [List.any_eq_true]
  exact ⟨n, (List.mem_filter.1 h3).1, by simp⟩

theorem size_nat {m : Nat} {d : Dk} (ok : Ok m d) (nm : ByteArray) : ∃ sz : Nat, max 0 (d.size nm) = sz ∧ sz ≤ 1099511627776 ∧ d.size nm ≤ sz ∧ -1 ≤ d.size nm := by
  unfold Dk.size
  split
  · exact ⟨0, by omega, by omega, by omega, by omega⟩
  · refine ⟨((d.get nm).getD Dk.fl0).now.length, by omega, ?_, by omega, by omega⟩
    cases h : d.get nm with
    | none => simp [Dk.fl0]
    | some f =>
      have : (nm, f) ∈ d.files := by
        unfold Dk.get at h
        generalize d.files = l at h
        induction l with
        | nil => simp [fget] at h
        | cons p l ih =>
          unfold fget at h
          split at h
          · cases h; subst nm; simp
          · exact List.mem_cons_of_mem _ (ih h)
      exact (ok.sz _ this).1

set_option maxRecDepth 100000 in
set_option maxHeartbeats 1000000 in
theorem write_go (C L D PM : Nat) (ps : List Pg) (s : Ck) (m : Nat) (no : Int) (F : Assn) (w : World) (hs : Sat (cacheA C L D PM ps s * F) w) (hp : pgents ps = s.pgs) (ok : CkOk m s) (hm : m ≤ 549755813888) (h0 : 0 ≤ no) (h1 : no < 1048576) :
    Calls Try.prog 96 #[.pointer (some ⟨C, 0, none⟩), .int .i64 no] w fun e w' => e = .returned (.int .i64 (s.write no).1) ∧ Sat (cacheA C L D PM ps (s.write no).2 * F) w' := by
  unfold cacheA at hs
  have hdy := dirty_go C L D PM s no _ w (hs.take2 (coreC C L D PM s) (lruI L s.cap s.its)) ok.lru
  cases hd : s.dirty no with
  | false =>
    have e : s.write no = (0, s) := by unfold Ck.write; rw [if_pos hd]
    rw [e]
    rw [hd] at hdy
    clear e
    go_enter Try.func96, Try.ntmps96
    go_wp2_with fail
    refine hdy.mono ?_
    rintro e w1 ⟨rfl, hs1⟩
    go_wp2
    go_ret
    exact ⟨rfl, hs1.eq (by unfold cacheA; ac_rfl)⟩
  | true =>
    rw [hd] at hdy
    have hh := dirty_has hd
    rw [ok.same, ← hp] at hh
    rcases pg_cases ps no with ⟨l1, p, l2, rfl, rfl, hl1⟩ | hno
    · obtain ⟨sz, hsz1, hsz2, hsz3, hsz4⟩ := size_nat ok.dk s.nm
      obtain ⟨q1, q2, _⟩ := pg_found (l2 := l2) hl1
      rw [hp] at q1
      have hb : s.page p.key = p.b := by unfold Ck.page; rw [q1]; rfl
      have hnm : s.nm.size ≤ 9223372036854775807 := named_size ok.nm
      have HW : Aside (s.write p.key = if (sz : Int) < p.key * 256 then (if (s.pad p.key).1 = 0 then Ck.write2 { s with d := (s.pad p.key).2 } p.key else ((s.pad p.key).1, { s with d := (s.pad p.key).2 })) else s.write2 p.key) := by
        show _ = _
        unfold Ck.write
        rw [if_neg (by simp [hd]), hsz1]
      go_enter Try.func96, Try.ntmps96
      go_wp2_with fail
      refine hdy.mono ?_
      rintro e w1 ⟨rfl, hs1⟩
      clear hdy hs
      have HP : Aside (hl1 = hl1 ∧ (mget p.key ((l1 ++ p :: l2).map kvP) = some p.v) ∧ s.page p.key = p.b) := ⟨rfl, q2, hb⟩
      have HPG : Aside (pgents (l1 ++ p :: l2) = s.pgs) := hp
      clear q1 q2 hb hh hp hd hsz4
      haveI := hs1.i
      go_upto_region 3 with (fail)
      go_region_held3 (fun w' => w'.cell? ⟨C, 1, none⟩ = some (.pointer (some ⟨D, 0, none⟩)) ∧ w'.cell? ⟨C, 2, none⟩ = some (.string s.nm)) (first | exact ⟨cell_sat _ _ _, cell_sat _ _ _⟩) (first
        | (go_at_call 36; refine (size_any D s.d s.nm _ _ (takeI (diskP D s.d)) hnm).mono ?_; rintro e w2 ⟨rfl, rfl⟩))
      go_upto_if 25 with (fail)
      go_cut [6] (fun t6 wx => ∃ (d2 : Dk) (m2 : Nat), m2 ≤ 824633720832 ∧ Aside (s.write p.key = Ck.write2 { s with d := d2 } p.key ∧ Ok m2 d2) ∧ Sat (coreC C L D PM s * (lruI L s.cap s.its * (diskP D d2 * (mp ikey PM ((l1 ++ p :: l2).map kvP) * (pagesA (l1 ++ p :: l2) * F))))) wx)
      case first =>
        by_cases hlt : (sz : Int) < p.key * 256
        · obtain ⟨nn, hnn, hnn2⟩ : ∃ nn : Nat, p.key * 256 - sz = (nn : Int) ∧ nn ≤ 268435456 := ⟨(p.key * 256 - sz).toNat, by omega, by omega⟩
          have hmk := mk_bytes nn (by omega)
          have hpad : s.pad p.key = s.d.write s.nm sz (List.replicate nn 0) := by
            unfold Ck.pad
            rw [hsz1, hnn, Int.toNat_natCast]
          have hokp := ok_write ok.dk s.nm sz (List.replicate nn 0)
          rw [← hpad, List.length_replicate] at hokp
          have HK : Aside (Ok (m + 1 + nn) (s.pad p.key).2) := hokp
          have HQ : Aside (s.write p.key = if (s.pad p.key).1 = 0 then Ck.write2 { s with d := (s.pad p.key).2 } p.key else ((s.pad p.key).1, { s with d := (s.pad p.key).2 })) := by
            show _ = _
            rw [HW.out, if_pos hlt]
          have HPD : Aside (s.pad p.key = s.d.write s.nm sz (List.replicate nn 0)) := hpad
          by_cases hz : (s.pad p.key).1 = 0
          · have hz' : ((s.d.write s.nm sz (List.replicate nn 0)).1 != 0) = false := by rw [← hpad]; simpa using hz
            have HZ : Aside ((s.pad p.key).1 = 0) := hz
            clear hpad hokp hz
            go_upto_region 5 with (fail)
            have hw1 : IntKind.i64.wrap (p.key * 256) = p.key * 256 := IntWalk.i64_in _ (by omega)
            have hw2 : IntKind.i64.wrap (nn : Int) = nn := IntWalk.i64_in _ (by omega)
            go_region_held3 (fun w' => w'.cell? ⟨C, 1, none⟩ = some (.pointer (some ⟨D, 0, none⟩)) ∧ w'.cell? ⟨C, 2, none⟩ = some (.string s.nm)) (first | exact ⟨cell_sat _ _ _, cell_sat _ _ _⟩) (first
              | (go_at_call 32; refine (write_any D s.d m s.nm sz _ (List.replicate nn 0) (block w1.heap.size TB (bys (List.replicate nn 0))) _ _ (by have hz := Reads.block0 (b := w1.heap.size) (e := TB) (l := List.replicate nn 0) (by rw [List.length_replicate]; unfold maxLen; omega); rw [List.length_replicate] at hz; exact hz) (Sat.take2 satI (diskP D s.d) (block w1.heap.size TB (bys (List.replicate nn 0)))) hnm (by rw [List.length_replicate]; omega) ok.dk (by unfold big; omega)).mono ?_; rintro e w3 ⟨rfl, hs3⟩; haveI := hs3.i))
            all_goals
              go_wp2_with fail
              go_meet
              refine ⟨(s.pad p.key).2, m + 1 + nn, by omega, ⟨by rw [HQ.out, if_pos HZ.out], HK.out⟩, ?_⟩
              rw [HPD.out]
              exact satI_weak (C := block w1.heap.size TB (bys (List.replicate nn 0))) (by ac_rfl)
          · have hz' : ((s.d.write s.nm sz (List.replicate nn 0)).1 != 0) = true := by rw [← hpad]; simpa using hz
            have HZ : Aside ((s.pad p.key).1 ≠ 0) := hz
            clear hpad hokp hz
            go_upto_region 5 with (fail)
            have hw1 : IntKind.i64.wrap (p.key * 256) = p.key * 256 := IntWalk.i64_in _ (by omega)
            have hw2 : IntKind.i64.wrap (nn : Int) = nn := IntWalk.i64_in _ (by omega)
            go_region_held3 (fun w' => w'.cell? ⟨C, 1, none⟩ = some (.pointer (some ⟨D, 0, none⟩)) ∧ w'.cell? ⟨C, 2, none⟩ = some (.string s.nm)) (first | exact ⟨cell_sat _ _ _, cell_sat _ _ _⟩) (first
              | (go_at_call 32; refine (write_any D s.d m s.nm sz _ (List.replicate nn 0) (block w1.heap.size TB (bys (List.replicate nn 0))) _ _ (by have hz := Reads.block0 (b := w1.heap.size) (e := TB) (l := List.replicate nn 0) (by rw [List.length_replicate]; unfold maxLen; omega); rw [List.length_replicate] at hz; exact hz) (Sat.take2 satI (diskP D s.d) (block w1.heap.size TB (bys (List.replicate nn 0)))) hnm (by rw [List.length_replicate]; omega) ok.dk (by unfold big; omega)).mono ?_; rintro e w3 ⟨rfl, hs3⟩; haveI := hs3.i))
            all_goals
              go_wp2_with fail
              go_ret
              refine ⟨?_, ?_⟩
              · rw [HQ.out, if_neg HZ.out, HPD.out]; rfl
              · rw [HQ.out, if_neg HZ.out, HPD.out]
                exact satI_weak (C := block w1.heap.size TB (bys (List.replicate nn 0))) (by unfold cacheA; ac_rfl)
        · have hlt' : ¬ (sz : Int) < p.key * 256 := hlt
          have HQ : Aside (s.write p.key = s.write2 p.key) := by
            show _ = _
            rw [HW.out, if_neg hlt]
          go_wp2_with fail
          go_meet
          exact ⟨s.d, m, by omega, ⟨HQ.out, ok.dk⟩, satI_eq (by ac_rfl)⟩
      case rest =>
        obtain ⟨d2, m2, hm2, A, hs2⟩ := hcut
        obtain ⟨hw, hok2⟩ := A.out
        obtain ⟨R, hR1, hR2⟩ : ∃ R, pagesA (l1 ++ p :: l2) = rw TB 1 p.v (bys p.b) * R ∧ True := ⟨pagesA l1 * pagesA l2, by rw [pagesA_append]; show pagesA l1 * (_ * pagesA l2) = _; ac_rfl, trivial⟩
        rw [hR1] at hs2
        have hpb := HP.out.2.2
        have hq2 := HP.out.2.1
        obtain ⟨va, vc, hpv, hvc, hvm⟩ := rw_vb (hs2.take (rw TB 1 p.v (bys p.b)))
        have hpl : p.b.length = 256 := by
          have := (ok.page (p.key, p.b) (by rw [← HPG.out]; simp [pgents])).1
          exact this
        have HR : Aside (pagesA (l1 ++ p :: l2) = rw TB 1 p.v (bys p.b) * R) := hR1
        have HW2 : Aside (s.write p.key = Ck.write2 { s with d := d2 } p.key) := hw
        have HO : Aside (Ok m2 d2) := hok2
        have HB : Aside (Ck.page { s with d := d2 } p.key = p.b) := hpb
        clear A hw hR1 hR2 HW hok2 hpb HP hpv
        by_cases hz : (d2.write s.nm (p.key * 256) p.b).1 = 0
        · have hz' : ((d2.write s.nm (p.key * 256) p.b).1 == 0) = true := by simpa using hz
          have HE : Aside (s.write p.key = (0, { s with d := (d2.write s.nm (p.key * 256) p.b).2, its := markI s.its p.key false })) := by
            show _ = _
            rw [HW2.out]; unfold Ck.write2; rw [HB.out]; rw [if_pos hz]
          have HZ : Aside ((d2.write s.nm (p.key * 256) p.b).1 = 0) := hz
          clear hz
          haveI := hs2.i
          go_upto_region 8 with (fail)
          have hw1 : IntKind.i64.wrap (p.key * 256) = p.key * 256 := IntWalk.i64_in _ (by omega)
          go_region_held3 (fun w' => w'.cell? ⟨C, 1, none⟩ = some (.pointer (some ⟨D, 0, none⟩)) ∧ w'.cell? ⟨C, 2, none⟩ = some (.string s.nm) ∧ w'.cell? ⟨C, 4, none⟩ = some (.map (some PM)) ∧ (Instr.lookup TPM (.map (some PM)) (.int .i64 p.key) false).run Try.prog w' = .ok p.v w') (first | exact ⟨cell_sat _ _ _, cell_sat _ _ _, cell_sat _ _ _, by rw [look_PM, hq2]; rfl⟩) (first
            | (go_at_call 32; refine (write_any D d2 m2 s.nm (p.key * 256) p.v p.b (rw TB 1 p.v (bys p.b)) _ _ Reads.rw (Sat.take2 satI (diskP D d2) (rw TB 1 p.v (bys p.b))) hnm (by omega) HO.out (by unfold big; omega)).mono ?_; rintro e w4 ⟨rfl, hs4⟩; haveI := hs4.i))
          all_goals
            clear hq2
            go_wp2_with fail
            refine (markH L s.cap s.its p.key false _ _ (takeI (lruI L s.cap s.its)) ok.lru).mono ?_
            rintro e w5 ⟨rfl, hs5⟩
            go_wp2
            go_ret
            refine ⟨?_, ?_⟩
            · rw [HE.out]
              show Ending.returned (.int .i64 (d2.write s.nm (p.key * 256) p.b).1) = _
              rw [HZ.out]
            · rw [HE.out]
              refine hs5.eq ?_
              unfold cacheA
              rw [HR.out]
              show lruI L s.cap (markI s.its p.key false) * _ = coreC C L D PM s * (lruI L s.cap (markI s.its p.key false) * (diskP D (d2.write s.nm (p.key * 256) p.b).2 * _)) * _
              ac_rfl
        · have hz' : ((d2.write s.nm (p.key * 256) p.b).1 == 0) = false := by simpa using hz
          have HE : Aside (s.write p.key = ((d2.write s.nm (p.key * 256) p.b).1, { s with d := (d2.write s.nm (p.key * 256) p.b).2 })) := by
            show _ = _
            rw [HW2.out]; unfold Ck.write2; rw [HB.out]; rw [if_neg hz]
          clear hz
          haveI := hs2.i
          go_upto_region 8 with (fail)
          have hw1 : IntKind.i64.wrap (p.key * 256) = p.key * 256 := IntWalk.i64_in _ (by omega)
          go_region_held3 (fun w' => w'.cell? ⟨C, 1, none⟩ = some (.pointer (some ⟨D, 0, none⟩)) ∧ w'.cell? ⟨C, 2, none⟩ = some (.string s.nm) ∧ w'.cell? ⟨C, 4, none⟩ = some (.map (some PM)) ∧ (Instr.lookup TPM (.map (some PM)) (.int .i64 p.key) false).run Try.prog w' = .ok p.v w') (first | exact ⟨cell_sat _ _ _, cell_sat _ _ _, cell_sat _ _ _, by rw [look_PM, hq2]; rfl⟩) (first
            | (go_at_call 32; refine (write_any D d2 m2 s.nm (p.key * 256) p.v p.b (rw TB 1 p.v (bys p.b)) _ _ Reads.rw (Sat.take2 satI (diskP D d2) (rw TB 1 p.v (bys p.b))) hnm (by omega) HO.out (by unfold big; omega)).mono ?_; rintro e w4 ⟨rfl, hs4⟩; haveI := hs4.i))
          all_goals
            clear hq2
            go_wp2
            go_ret
            refine ⟨?_, ?_⟩
            · rw [HE.out]; rfl
            · rw [HE.out]
              refine hs4.eq ?_
              unfold cacheA
              rw [HR.out]
              show diskP D (d2.write s.nm (p.key * 256) p.b).2 * _ = coreC C L D PM s * (lruI L s.cap s.its * (diskP D (d2.write s.nm (p.key * 256) p.b).2 * _)) * _
              ac_rfl
    · rw [(pg_none hno).1] at hh
      cases hh

end Go.Proofs.Ytjhkmmpgjiciiaa
