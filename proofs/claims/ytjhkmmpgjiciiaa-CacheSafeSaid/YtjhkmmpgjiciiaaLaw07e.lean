/-
  CacheSafe: the walk.
-/
import Derived.Test.YtjhkmmpgjiciiaaCl3
namespace Go.Proofs.Ytjhkmmpgjiciiaa
set_option linter.unusedSimpArgs false
set_option linter.unusedVariables false
open Go.RowKit Go.Sl Go.Dk
open Go.Lru (ikey)
attribute [local go_sem ↓] Go.wp_at_zero Go.wp_at_succ
attribute [local go_sem] Go.Sl.cell_sat Go.Sl.frozen_sat

set_option maxRecDepth 100000 in
set_option maxHeartbeats 8000000 in
theorem cacheSafe_walk (capacity : Int) (v1 v2 pv : Value) (cs ds : List CallC) (picks : List Int) (w : World) (hv1 : Rws w v1 3 (cs.map crowC)) (hv2 : Rws w v2 3 (ds.map crowC)) (hpk : Ints w pv picks) (hl1 : cs.length ≤ 9223372036854775807) (hl2 : ds.length ≤ 9223372036854775807) (hl3 : picks.length ≤ 9223372036854775807) :
    Calls Try.prog 15 #[.int .i64 capacity, v1, v2, pv] w fun e w' => e = .returned (.bool true) ∧ Below w.heap.size w w' := by
  obtain ⟨va, vc, hvv⟩ := hv1.len
  rw [List.length_map] at hvv
  subst hvv
  obtain ⟨ua, uc, huu⟩ := hv2.len
  rw [List.length_map] at huu
  subst huu
  obtain ⟨pa, pc, hpp⟩ := hpk.len
  subst hpp
  have hmk40 := mk40
  obtain ⟨cc, hcc, hc8⟩ : ∃ m : Nat, capacity % 8 = (m : Int) ∧ m < 8 := ⟨(capacity % 8).toNat, by omega, by omega⟩
  have hp0 := pick_any capacity 8 w (by omega) (by omega)
  rw [hcc] at hp0
  clear hcc
  go_enter Try.func15, Try.ntmps15
  go_wp2_with fail
  refine hp0.mono ?_
  rintro e w' ⟨rfl, rfl⟩
  go_wp2_with fail
  refine (newD_yes 1048576 (old w) w (Sat.old_self w) (by omega) (by omega)).mono ?_
  rintro e w1 ⟨D, rfl, hs1⟩
  have hnew := newC_yes D (Dk.new 1048576) nmP (1 + (cc : Int)) (old w) w1 hs1 nmP_named (by omega) (by omega)
  unfold nmP at hnew
  clear hp0
  go_wp2_with fail
  refine hnew.mono ?_
  rintro e w2 ⟨C, rfl, hs2⟩
  clear hs1 hnew
  go_wp2_with fail
  refine (awake07 _ w2 hs2).mono ?_
  rintro e w3 ⟨rfl, hs3⟩
  have hs8 := hs3.alloc ((List.replicate 40 0).map (Value.int .i64)).toArray 3
  have hs9 : Sat (block w3.heap.size 3 (ints (List.replicate 40 0)) * (cacheP C D (crS (1 + (cc : Int))) * old w)) (w3.alloc (.cells ((List.replicate 40 0).map (Value.int .i64)).toArray 3)) := hs8
  clear hs2 hs3 hs8
  go_wp2_with fail
  go_loopg [14] 60 (fun k i wr => ∃ (j top : Nat) (s : Ck) (hv : List Int), i = .int .i64 j ∧ j ≤ 60 ∧ Aside (k = 60 - j ∧ RdInv (1 + (cc : Int)) j top s hv) ∧ Sat (block w3.heap.size 3 (ints hv) * (cacheP C D s * old w)) wr)
  case atStart => exact ⟨0, 0, crS (1 + (cc : Int)), List.replicate 40 0, rfl, by omega, ⟨rfl, ⟨by simp, HaveOk.zero 40, by simpa using cr_ok (1 + (cc : Int)) (by omega) (by omega), cr_good _, by omega, cr_roomy _, rfl, rfl, fun h => by omega, fun k h hk _ => by rw [List.getElem?_replicate] at hk; split at hk; exact (Option.some.inj hk).symm; cases hk⟩⟩, hs9⟩
  case round =>
    clear hs9 hmk40
    obtain ⟨j, top, s, hv, rfl, hj, A, hs⟩ := hrel
    have h8 : 1 + (cc : Int) ≤ 8 := by omega
    have hmj : j * UR ≤ 128849510460 := by have := Nat.mul_le_mul_right UR (show j ≤ 60 by omega); unfold UR U at *; omega
    by_cases hgo : j < cs.length ∧ j < 60
    · obtain ⟨hjl, hj2⟩ := hgo
      have hj3 : (j : Int) < cs.length := by omega
      have hj4 : (j : Int) < 60 := by omega
      obtain ⟨⟨kd, cno, x⟩, hx⟩ : ∃ x, cs[j]? = some x := ⟨cs[j], by simp [hjl]⟩
      obtain ⟨rb, ro, e1, hcell⟩ := hv1.at (show (cs.map crowC)[j]? = some (crowC ⟨kd, cno, x⟩) by simp [hx])
      subst e1
      haveI : OldAt w rb (ro + j * 3 + 1) (.int .i64 cno) := ⟨hcell 1 _ rfl⟩
      haveI : OldAt w rb (ro + j * 3 + 2) (.int .u8 x.toNat) := ⟨hcell 2 _ rfl⟩
      clear hcell hx
      obtain ⟨kk, hkk, hk40⟩ : ∃ m : Nat, cno % 40 = (m : Int) ∧ m < 40 := ⟨(cno % 40).toNat, by omega, by omega⟩
      have hp1 := pick_any cno 40 wr (by omega) (by omega)
      rw [hkk] at hp1
      clear hkk
      obtain ⟨hk, hI⟩ := A.out
      have HK : Aside (gk = 60 - j) := hk
      obtain ⟨hz, hI2⟩ := hI.put hk40 x
      have hpa := fun (b : Nat) (F : Assn) (w : World) (h : Sat (cacheP C D s * (rw TB 1 (.slice (some ⟨b, 0, none⟩) 256 256) (bys (pgx x)) * F)) w) => put_any C D s (j * UR) (kk : Int) _ (pgx x) (rw TB 1 (.slice (some ⟨b, 0, none⟩) 256 256) (bys (pgx x))) F w Reads.rw h hI.ok (by omega)
      rw [hz] at hpa
      obtain ⟨s', hs'⟩ : ∃ t, (s.put (kk : Int) (pgx x)).2 = t := ⟨_, rfl⟩
      rw [hs'] at hpa hI2
      have HPA : Aside (∀ (b : Nat) (F : Assn) (w : World), Sat (cacheP C D s * (rw TB 1 (.slice (some ⟨b, 0, none⟩) 256 256) (bys (pgx x)) * F)) w → Calls Try.prog 55 #[.pointer (some ⟨C, 0, none⟩), .int .i64 (kk : Int), .slice (some ⟨b, 0, none⟩) 256 256] w fun e w' => e = .returned (.int .i64 0) ∧ Sat (cacheP C D s' * (rw TB 1 (.slice (some ⟨b, 0, none⟩) 256 256) (bys (pgx x)) * F)) w') := hpa
      have HI : Aside (RdInv (1 + (cc : Int)) (j + 1) (max top (kk + 1)) s' (hv.set kk (1 + (x.toNat : Int)))) := hI2
      obtain ⟨h0, hh0⟩ : ∃ h, hv[kk]? = some h := ⟨hv[kk]'(by rw [hI.len]; exact hk40), by simp⟩
      haveI : At (ints hv) kk (.int .i64 h0) := ⟨by simp [ints, hh0]⟩
      have hcx := x.toNat_lt
      haveI := hs.i
      clear hpa hs' hI2 hI hk A hz hh0
      go_wp2_with fail
      refine hp1.mono ?_
      rintro e w' ⟨rfl, rfl⟩
      go_wp2_with fail
      refine (full07_any x _ _ satI).mono ?_
      rintro e w5 ⟨b5, rfl, hs5⟩
      go_wp2_with fail
      refine (HPA.out b5 _ w5 (hs5.take2 (cacheP C D s) (rw TB 1 (.slice (some ⟨b5, 0, none⟩) 256 256) (bys (pgx x))))).mono ?_
      rintro e w6 ⟨rfl, hs6⟩
      have hs7 := hs6.drop (rw TB 1 (.slice (some ⟨b5, 0, none⟩) 256 256) (bys (pgx x)))
      haveI := hs7.i
      clear hs5 hs6 hs hp1
      go_wp2_with fail
      go_roundg (60 - (j + 1))
      case measure => have := HK.out; omega
      case rel =>
        refine ⟨j + 1, max top (kk + 1), s', hv.set kk (1 + (x.toNat : Int)), by go_num, by omega, ⟨rfl, HI.out⟩, ?_⟩
        rw [ints_set]
        exact satI_eq (by ac_rfl)
    · have hways : (¬ (j : Int) < cs.length) ∨ ((j : Int) < cs.length ∧ ¬ (j : Int) < 60) := by omega
      obtain ⟨hk, hI⟩ := A.out
      obtain ⟨hz, hS⟩ := SfInv.start hI h8
      have hll : s.its.length ≤ 8 := by have h2 := hI.ok.most; rw [hI.cap] at h2; omega
      have hfa := flush_any C D s (j * UR) _ wr (hs.take (cacheP C D s)) hI.ok (by have := Nat.mul_le_mul_right U hll; have hu : U = 268436480 := rfl; omega)
      rw [hz] at hfa
      obtain ⟨s', hs'⟩ : ∃ t, s.flush.2 = t := ⟨_, rfl⟩
      rw [hs'] at hfa hS
      have HS : Aside (SfInv (1 + (cc : Int)) (j + 1) s' hv) := hS
      clear hs' hS hI hz hll A hk hgo hv1
      rcases hways with h1 | ⟨h1, h2⟩
      all_goals
        go_wp2_with fail
        refine hfa.mono ?_
        rintro e w5 ⟨rfl, hs5⟩
        clear hfa hs
        go_wp2_with fail
        go_loopg [16] 60 (fun k i wr => ∃ (y : Nat) (t : Ck) (hv : List Int), i = .int .i64 y ∧ y ≤ 60 ∧ Aside (k = 60 - y ∧ SfInv (1 + (cc : Int)) (j + 1 + y) t hv) ∧ Sat (block w3.heap.size 3 (ints hv) * (cacheP C D t * old w)) wr)
        case atStart => exact ⟨0, s', hv, rfl, by omega, ⟨rfl, HS.out⟩, hs5.eq (by ac_rfl)⟩
        case round =>
          clear hs5 HS
          obtain ⟨y, t, hv, rfl, hy, A, hs⟩ := hrel
          have hmy : (j + 1 + y) * UR ≤ 261000000000 := Nat.le_trans (Nat.mul_le_mul_right UR (show j + 1 + y ≤ 121 by omega)) (by decide +kernel)
          by_cases hgo : y < ds.length ∧ y < 60
          · obtain ⟨hjl, hj2⟩ := hgo
            have hj3 : (y : Int) < ds.length := by omega
            have hj4 : (y : Int) < 60 := by omega
            obtain ⟨⟨kd, cno, x⟩, hx⟩ : ∃ x, ds[y]? = some x := ⟨ds[y], by simp [hjl]⟩
            obtain ⟨rb, ro, e1, hcell⟩ := hv2.at (show (ds.map crowC)[y]? = some (crowC ⟨kd, cno, x⟩) by simp [hx])
            subst e1
            haveI : OldAt w rb (ro + y * 3 + 1) (.int .i64 cno) := ⟨hcell 1 _ rfl⟩
            haveI : OldAt w rb (ro + y * 3 + 2) (.int .u8 x.toNat) := ⟨hcell 2 _ rfl⟩
            clear hcell hx
            obtain ⟨kk, hkk, hk40⟩ : ∃ m : Nat, cno % 40 = (m : Int) ∧ m < 40 := ⟨(cno % 40).toNat, by omega, by omega⟩
            have hp1 := pick_any cno 40 wr (by omega) (by omega)
            rw [hkk] at hp1
            clear hkk
            obtain ⟨hk, hI⟩ := A.out
            have HK : Aside (gk = 60 - y) := hk
            obtain ⟨hz, hI2⟩ := hI.put hk40 x
            have hpa := fun (b : Nat) (F : Assn) (w : World) (h : Sat (cacheP C D t * (rw TB 1 (.slice (some ⟨b, 0, none⟩) 256 256) (bys (pgx x)) * F)) w) => put_any C D t ((j + 1 + y) * UR) (kk : Int) _ (pgx x) (rw TB 1 (.slice (some ⟨b, 0, none⟩) 256 256) (bys (pgx x))) F w Reads.rw h hI.ok (by omega)
            rw [hz] at hpa
            obtain ⟨t', ht'⟩ : ∃ u, (t.put (kk : Int) (pgx x)).2 = u := ⟨_, rfl⟩
            rw [ht'] at hpa hI2
            have HPA : Aside (∀ (b : Nat) (F : Assn) (w : World), Sat (cacheP C D t * (rw TB 1 (.slice (some ⟨b, 0, none⟩) 256 256) (bys (pgx x)) * F)) w → Calls Try.prog 55 #[.pointer (some ⟨C, 0, none⟩), .int .i64 (kk : Int), .slice (some ⟨b, 0, none⟩) 256 256] w fun e w' => e = .returned (.int .i64 0) ∧ Sat (cacheP C D t' * (rw TB 1 (.slice (some ⟨b, 0, none⟩) 256 256) (bys (pgx x)) * F)) w') := hpa
            have HI : Aside (SfInv (1 + (cc : Int)) (j + 1 + (y + 1)) t' (hv.set kk 0)) := hI2
            obtain ⟨h0, hh0⟩ : ∃ h, hv[kk]? = some h := ⟨hv[kk]'(by rw [hI.len]; exact hk40), by simp⟩
            haveI : At (ints hv) kk (.int .i64 h0) := ⟨by simp [ints, hh0]⟩
            have hcx := x.toNat_lt
            haveI := hs.i
            clear hpa ht' hI2 hI hk A hz hh0
            go_wp2_with fail
            refine hp1.mono ?_
            rintro e w' ⟨rfl, rfl⟩
            go_wp2_with fail
            refine (full07_any x _ _ satI).mono ?_
            rintro e w5 ⟨b5, rfl, hs5⟩
            go_wp2_with fail
            refine (HPA.out b5 _ w5 (hs5.take2 (cacheP C D t) (rw TB 1 (.slice (some ⟨b5, 0, none⟩) 256 256) (bys (pgx x))))).mono ?_
            rintro e w6 ⟨rfl, hs6⟩
            have hs7 := hs6.drop (rw TB 1 (.slice (some ⟨b5, 0, none⟩) 256 256) (bys (pgx x)))
            haveI := hs7.i
            clear hs5 hs6 hs hp1
            go_wp2_with fail
            go_roundg (60 - (y + 1))
            case measure => have := HK.out; omega
            case rel =>
              refine ⟨y + 1, t', hv.set kk 0, by go_num, by omega, ⟨rfl, HI.out⟩, ?_⟩
              rw [ints_set]
              exact satI_eq (by ac_rfl)
          · have hways2 : (¬ (y : Int) < ds.length) ∨ ((y : Int) < ds.length ∧ ¬ (y : Int) < 60) := by omega
            obtain ⟨hk, hI⟩ := A.out
            obtain ⟨X, hs4, hX⟩ := Sat.cache_disk (hs.take (cacheP C D t))
            have hok := hI.ok.dk
            have hcr := crash_any D t.d ((j + 1 + y) * UR) picks (.slice pa picks.length pc) (old w) _ wr (fun F' w' h => hpk.old h) (hs4.take2 (diskP D t.d) (old w)) hl3 hok (by unfold big; omega)
            have hokc := ok_crash hok picks
            have HR : Aside ((∀ (k : Nat) (h : Int), hv[k]? = some h → 0 < h → (t.d.crash picks).read nmP (256 * (k : Int)) 256 = (0, pgx (UInt8.ofNat (h - 1).toNat))) ∧ hv.length = 40 ∧ (∀ (k : Nat) h, hv[k]? = some h → 0 ≤ h ∧ h ≤ 256) ∧ ∀ p ∈ (t.d.crash picks).files, p.2.now.length ≤ big) := ⟨fun k h hk' hh => hI.read picks hk' hh, hI.len, hI.num, fun p hp => (hokc.sz p hp).1⟩
            obtain ⟨dc, hdc⟩ : ∃ dc, t.d.crash picks = dc := ⟨_, rfl⟩
            rw [hdc] at hcr HR
            clear hdc hokc hok hI hk A hX hs4 hgo hv2 hpk
            rcases hways2 with g1 | ⟨g1, g2⟩
            all_goals
              go_wp2_with fail
              refine hcr.mono ?_
              rintro e w6 ⟨rfl, hs6⟩
              have hs7 := hs6.take3 (diskP D dc) (old w) (block w3.heap.size 3 (ints hv))
              clear hcr hs6 hs
              go_wp2_with fail
              go_loopg [18] 40 (fun k i wr => ∃ (z : Nat), i = .int .i64 z ∧ z ≤ 40 ∧ Aside (k = 40 - z) ∧ Sat (diskP D dc * (old w * (block w3.heap.size 3 (ints hv)))) wr)
              case atStart => exact ⟨0, rfl, by omega, rfl, Sat.weak (hs7.eq (by rw [← sep_assoc, ← sep_assoc, sep_assoc (diskP D dc)]))⟩
              case round =>
                clear hs7
                obtain ⟨z, rfl, hz, A, hs⟩ := hrel
                by_cases hz40 : z < 40
                · have hz4 : (z : Int) < 40 := by omega
                  obtain ⟨h0, hh0⟩ : ∃ h, hv[z]? = some h := ⟨hv[z]'(by rw [HR.out.2.1]; exact hz40), by simp⟩
                  haveI : At (ints hv) z (.int .i64 h0) := ⟨by simp [ints, hh0]⟩
                  obtain ⟨b0, b1⟩ := HR.out.2.2.1 z h0 hh0
                  have hrd := read_any D dc nmP (256 * (z : Int)) 256 _ wr hs (by decide) HR.out.2.2.2
                  haveI := hs.i
                  by_cases hp : 0 < h0
                  · rw [HR.out.1 z h0 hh0 hp] at hrd
                    obtain ⟨q, hq⟩ : ∃ q, UInt8.ofNat (h0 - 1).toNat = q := ⟨_, rfl⟩
                    have hqn : (q.toNat : Int) = h0 - 1 := by rw [← hq, UInt8.toNat_ofNat']; omega
                    rw [hq] at hrd
                    unfold nmP at hrd
                    have HQN : Aside ((q.toNat : Int) = h0 - 1) := hqn
                    clear hq hqn hh0
                    go_wp2_with fail
                    refine hrd.mono ?_
                    rintro e w7 ⟨v7, rfl, hs7⟩
                    obtain ⟨va7, vc7, rfl, _, _⟩ := rw_vb hs7
                    haveI := hs7.i
                    have hf := full07_any q _ w7 hs7
                    rw [HQN.out] at hf
                    clear hs hrd
                    go_wp2_with fail
                    refine hf.mono ?_
                    rintro e w8 ⟨b8, rfl, hs8⟩
                    have hsame := same_any _ _ _ _ w8 (Reads.rw _ _ (hs8.take (rw TB 1 (.slice va7 (pgx q).length vc7) (bys (pgx q))))) (Reads.rw _ _ hs8)
                    simp only [decide_true] at hsame
                    clear hf hs7
                    go_wp2_with fail
                    refine hsame.mono ?_
                    rintro e w9 ⟨rfl, n9, rfl⟩
                    clear hsame
                    go_wp2_with fail
                    go_roundg (40 - (z + 1))
                    case measure => have := A.out; omega
                    case rel => exact ⟨z + 1, by go_num, by omega, rfl, (hs8.drewN n9).right.right⟩
                  · unfold nmP at hrd
                    clear hh0
                    go_wp2_with fail
                    refine hrd.mono ?_
                    rintro e w7 ⟨v7, rfl, hs7⟩
                    haveI := hs7.i
                    clear hs hrd
                    go_wp2_with fail
                    go_roundg (40 - (z + 1))
                    case measure => have := A.out; omega
                    case rel => exact ⟨z + 1, by go_num, by omega, rfl, hs7.right⟩
                · have hz4 : ¬ (z : Int) < 40 := by omega
                  clear A
                  go_wp2
                  go_ret
                  exact ⟨rfl, (hs.take (old w)).old_below⟩

end Go.Proofs.Ytjhkmmpgjiciiaa
