/-
  DiskSafe, the walk.
-/
import Derived.Test.YtjhkmmpgjiciiaaLaw04j
import Derived.Test.YtjhkmmpgjiciiaaSkel8
import Derived.Deep.CutBlock
namespace Go.Proofs.Ytjhkmmpgjiciiaa
set_option linter.unusedSimpArgs false
set_option linter.unusedVariables false
open Go.RowKit Go.Sl Go.Dk
attribute [local go_sem ↓] Go.wp_at_zero Go.wp_at_succ
attribute [local go_sem] Go.Sl.cell_sat Go.Sl.frozen_sat

theorem nmO_list : nmO.toList = [111, 119, 110] := by decide +kernel
theorem readsZ_nil (B : Assn) : ReadsZ B (.slice none 0 0) [] := fun _ _ _ => ⟨none, 0, rfl, by simp⟩

set_option maxRecDepth 100000 in
set_option maxHeartbeats 8000000 in
theorem diskSafe_walk (bv : Value) (b : List UInt8) (v : Value) (cs : List CallD) (pv : Value) (picks : List Int) (w : World) (hb : Byt w bv b) (hv : Rws w v 6 (cs.map crowDD)) (hl : cs.length ≤ 9223372036854775807) (hcs : ∀ c ∈ cs, CallOk w c) (hpk : Ints w pv picks) (hpl : picks.length ≤ 9223372036854775807) :
    Calls Try.prog 6 #[bv, v, pv] w fun e w' => e = .returned (.bool true) ∧ Below w.heap.size w w' := by
  obtain ⟨va, vc, hvv⟩ := hv.len
  rw [List.length_map] at hvv
  subst hvv
  obtain ⟨ba, bc, rfl, hbc, hbm⟩ := hb.len
  obtain ⟨pa, pc, rfl⟩ := hpk.len
  have HRB : Aside (Reads (old w) (.slice ba b.length bc) b) := Reads.old hb
  have HPK : Aside (ReadsZ (old w) (.slice pa picks.length pc) picks) := fun F' w' h => hpk.old h
  have HCS : Aside (∀ c ∈ cs, CallOk w c) := hcs
  have ok0 : Ok 0 (Dk.new 1048576) := ok_new _ (by omega) (by unfold big; omega)
  clear hcs hpk
  by_cases h5 : 5000 < b.length
  · have h5' : (5000 : Int) < b.length := by omega
    clear hb hv
    go_enter Try.func6, Try.ntmps6
    go_wp2_with fail
    refine (newD_yes 1048576 (old w) w (Sat.old_self w) (by omega) (by omega)).mono ?_
    rintro e w1 ⟨D, rfl, hs1⟩
    go_wp2_with fail
    refine (awake04 _ w1 hs1).mono ?_
    rintro e w2 ⟨rfl, hs2⟩
    clear hs1
    go_wp2_with fail
    refine (awake04 _ w2 hs2).mono ?_
    rintro e w3 ⟨rfl, hs3⟩
    go_wp2
    go_ret
    exact ⟨rfl, (hs3.take (old w)).old_below⟩
  · have h5' : ¬ (5000 : Int) < b.length := by omega
    obtain ⟨z, hz⟩ : ∃ z : Bool, z = decide (b.length = 0) := ⟨_, rfl⟩
    go_enter Try.func6, Try.ntmps6
    go_wp2_with fail
    refine (newD_yes 1048576 (old w) w (Sat.old_self w) (by omega) (by omega)).mono ?_
    rintro e w1 ⟨D, rfl, hs1⟩
    go_wp2_with fail
    refine (awake04 _ w1 hs1).mono ?_
    rintro e w2 ⟨rfl, hs2⟩
    clear hs1 hz
    go_upto_region 4 with (fail)
    go_cut [46] (fun t46 wx => t46 = .bool false ∧ ∃ d : Dk, Aside (Own b d ∧ Ok 5002 d) ∧ Sat (diskP D d * old w) wx)
    case first =>
      by_cases hb0 : b.length = 0
      · have hb0' : ¬ (0 : Int) < b.length := by omega
        have HO : Aside (Own b (Dk.new 1048576) ∧ Ok 5002 (Dk.new 1048576)) := ⟨by rw [List.length_eq_zero_iff.1 hb0]; exact own_new, ok_more ok0 (by omega)⟩
        have hb1 : decide ((0 : Int) < b.length) = false := by simpa using hb0'
        clear hb0
        go_wp2_with fail
        go_meet
        exact ⟨rfl, _, HO, hs2⟩
      · have hb0' : (0 : Int) < b.length := by omega
        obtain ⟨d1, hw1, ok1, d2, hw2, own2, ok2⟩ := own_write (b := b) (by omega) (by omega)
        have hwr := write_any D (Dk.new 1048576) 0 nmO 0 _ b (old w) 1 w2 HRB.out (hs2.eq (by rw [sep_one])) (by decide) (by omega) ok0 (by omega)
        rw [hw1] at hwr
        have hsy := fun (w : World) (F : Assn) (h : Sat (diskP D d1 * F) w) => sync_any D d1 5001 nmO F w h (by decide) ok1 (by unfold big; omega)
        rw [hw2] at hsy
        have HO : Aside (Own b d2 ∧ Ok 5002 d2) := ⟨own2, ok2⟩
        have HSY : Aside (∀ (w : World) (F : Assn), Sat (diskP D d1 * F) w → Calls Try.prog 33 #[.pointer (some ⟨D, 0, none⟩), .string nmO] w fun e w' => e = .returned (.int .i64 0) ∧ Sat (diskP D d2 * F) w') := hsy
        clear hsy hw1 hw2 own2 hb0
        go_wp2_with fail
        refine hwr.mono ?_
        rintro e w3 ⟨rfl, hs3⟩
        go_wp2_with fail
        refine (HSY.out _ _ hs3).mono ?_
        rintro e w4 ⟨rfl, hs4⟩
        go_wp2_with fail
        go_meet
        exact ⟨rfl, d2, HO, hs4.eq (by rw [sep_one])⟩
    case rest =>
      obtain ⟨rfl, d, HD, hs3⟩ := hcut
      clear hs2
      have hsR : ∀ F, Sat F wc → Sat (refP wc.heap.size (Dk.new 1048576) * F) (wc.alloc (.cells #[.int .i64 1048576, .int .i64 0, .int .i64 0, .bool false, .bool false, .slice none 0 0, .slice none 0 0] TR)) := fun F h => newRef (h.alloc #[.int .i64 1048576, .int .i64 0, .int .i64 0, .bool false, .bool false, .slice none 0 0, .slice none 0 0] TR)
      have hs4 := hsR _ hs3
      obtain ⟨W, hW⟩ : ∃ z, wc.heap.size = z := ⟨_, rfl⟩
      rw [hW] at hs4
      have HW : Aside (wc.heap.size = W) := hW
      clear hsR hs3
      go_wp2_with fail
      go_loopg [10] 40 (fun gk t10 wr => ∃ (j : Nat) (d1 d2 : Dk), t10 = .int .i64 j ∧ j ≤ 40 ∧ Aside (gk = 40 - j ∧ Own b d1 ∧ Ok (5002 + j * 402) d1 ∧ Ok (5002 + j * 402) d2) ∧ Sat (diskP D d1 * (refP W d2 * old w)) wr)
      case atStart => exact ⟨0, d, Dk.new 1048576, rfl, by omega, ⟨rfl, HD.out.1, HD.out.2, ok_more ok0 (by omega)⟩, hs4.eq (by ac_rfl)⟩
      case round =>
        clear hs4 hW
        obtain ⟨j, d1, d2, rfl, hj, A, hs⟩ := hrel
        by_cases hgo : j < cs.length ∧ j < 40
        · obtain ⟨hjl, hj2⟩ := hgo
          have hj3 : (j : Int) < cs.length := by omega
          have hj4 : (j : Int) < 40 := by omega
          obtain ⟨⟨kd, nm, n, len, x, qa, qn, qc⟩, hx⟩ : ∃ x, cs[j]? = some x := ⟨cs[j], by simp [hjl]⟩
          obtain ⟨rb, ro, e1, hcell⟩ := hv.at (show (cs.map crowDD)[j]? = some (crowDD ⟨kd, nm, n, len, x, qa, qn, qc⟩) by simp [hx])
          subst e1
          obtain ⟨hnm, ⟨hn1, hn2⟩, _, zs, hzs, hzl, hzl2, _⟩ := HCS.out _ (List.mem_of_getElem? hx)
          simp only at hnm hn1 hn2 hzs hzl hzl2
          haveI : OldAt w rb (ro + j * 6) (.int .i64 kd) := ⟨by have := hcell 0 _ rfl; simpa using this⟩
          haveI : OldAt w rb (ro + j * 6 + 1) (.string nm) := ⟨hcell 1 _ rfl⟩
          haveI : OldAt w rb (ro + j * 6 + 2) (.int .i64 n) := ⟨hcell 2 _ rfl⟩
          haveI : OldAt w rb (ro + j * 6 + 3) (.int .i64 len) := ⟨hcell 3 _ rfl⟩
          haveI : OldAt w rb (ro + j * 6 + 4) (.int .u8 x.toNat) := ⟨hcell 4 _ rfl⟩
          haveI : OldAt w rb (ro + j * 6 + 5) (.slice qa qn qc) := ⟨hcell 5 _ rfl⟩
          clear hcell hx
          haveI := hs.i
          obtain ⟨hgk, hown, hok1, hok2⟩ := A.out
          have HG : Aside (gk = 40 - j) := hgk
          by_cases hne : nm = nmO
          · have hd0 := str_eq hne
            have HA : Aside (Own b d1 ∧ Ok (5002 + (j + 1) * 402) d1 ∧ Ok (5002 + (j + 1) * 402) d2) := ⟨hown, ok_more hok1 (by omega), ok_more hok2 (by omega)⟩
            rw [nmO_list] at hd0
            clear hgk A hok1 hok2 hown hne
            go_wp2
            go_roundg (40 - (j + 1))
            case measure => have := HG.out; omega
            case rel => exact ⟨j + 1, d1, d2, by go_num, by omega, ⟨rfl, HA.out⟩, hs⟩
          · have hd0 := str_ne hne
            have hdo : Calls Try.prog 38 #[.pointer (some ⟨D, 0, none⟩), .pointer (some ⟨W, 0, none⟩), cagg kd nm n len x qa qn qc] wr (Did D W d1 d2 (stepD ⟨kd, nm, n, len, x, qa, qn, qc⟩ zs d1) (stepD ⟨kd, nm, n, len, x, qa, qn, qc⟩ zs d2) (old w * 1)) :=
              does_any D W d1 d2 (5002 + j * 402) ⟨kd, nm, n, len, x, qa, qn, qc⟩ zs (old w) 1 wr (fun F' w' h => hzs.old h) (hs.eq (by rw [sep_one])) (by omega) hnm hok1 hok2 (by omega)
            have hA1 := hown.step ⟨kd, nm, n, len, x, qa, qn, qc⟩ zs hne
            have hA2 := ok_step hok1 ⟨kd, nm, n, len, x, qa, qn, qc⟩ zs hn2
            have hA3 := ok_step hok2 ⟨kd, nm, n, len, x, qa, qn, qc⟩ zs hn2
            obtain ⟨d3, h3⟩ : ∃ z, stepD ⟨kd, nm, n, len, x, qa, qn, qc⟩ zs d1 = z := ⟨_, rfl⟩
            obtain ⟨d4, h4⟩ : ∃ z, stepD ⟨kd, nm, n, len, x, qa, qn, qc⟩ zs d2 = z := ⟨_, rfl⟩
            rw [h3] at hdo hA1 hA2
            rw [h4] at hdo hA3
            have HA : Aside (Own b d3 ∧ Ok (5002 + (j + 1) * 402) d3 ∧ Ok (5002 + (j + 1) * 402) d4) := ⟨hA1, ok_more hA2 (by omega), ok_more hA3 (by omega)⟩
            rw [nmO_list] at hd0
            clear hgk A hok1 hok2 hown hne hA1 hA2 hA3 h3 h4
            go_wp2_with fail
            refine hdo.mono ?_
            rintro e w5 ⟨r5, rfl, _, hs5⟩
            clear hdo
            go_wp2
            go_roundg (40 - (j + 1))
            case measure => have := HG.out; omega
            case rel => exact ⟨j + 1, d3, d4, by go_num, by omega, ⟨rfl, HA.out⟩, hs5.eq (by rw [sep_one])⟩
        · have hways : (¬ (j : Int) < cs.length) ∨ ((j : Int) < cs.length ∧ ¬ (j : Int) < 40) := by omega
          obtain ⟨_, hown, hok1, hok2⟩ := A.out
          have hcr := crash_any D d1 (5002 + j * 402) picks (.slice pa picks.length pc) (old w) (refP W d2) wr HPK.out (hs.eq (by ac_rfl)) hpl hok1 (by unfold big; omega)
          have hcr2 := fun (F : Assn) (w' : World) (h : Sat (diskP D (d1.crash picks) * (old w * F)) w') => crash_any D (d1.crash picks) (5002 + j * 402) [] (.slice none 0 0) (old w) F w' (readsZ_nil _) h (by simp) (ok_crash hok1 picks) (by unfold big; omega)
          have ho2 := (hown.crash picks).crash []
          have hokc := ok_crash (ok_crash hok1 picks) []
          have hdn : ((d1.crash picks).crash []).down = false := rfl
          obtain ⟨d3, h3⟩ : ∃ z, d1.crash picks = z := ⟨_, rfl⟩
          rw [h3] at hcr hcr2 ho2 hokc hdn
          obtain ⟨d4, h4⟩ : ∃ z, d3.crash [] = z := ⟨_, rfl⟩
          rw [h4] at hcr2 ho2 hokc hdn
          have HC2 : Aside (∀ (F : Assn) (w' : World), Sat (diskP D d3 * (old w * F)) w' → Calls Try.prog 34 #[.pointer (some ⟨D, 0, none⟩), .slice none 0 0] w' fun e w'' => e = .returned (.tuple #[]) ∧ Sat (diskP D d4 * (old w * F)) w'') := hcr2
          have hrd := fun (F : Assn) (w' : World) (h : Sat (diskP D d4 * F) w') => read_any D d4 nmO 0 b.length F w' h (by decide) (fun p hp => (hokc.sz p hp).1)
          have hsz := fun (F : Assn) (w' : World) (h : Sat (diskP D d4 * F) w') => size_any D d4 nmO F w' h (by decide)
          clear hcr2 h3 h4 hokc A hok1 hok2 hown hgo
          by_cases hb0 : b.length = 0
          · rw [own_end0 ho2 hdn hb0] at hrd
            have HRD : Aside (∀ (F : Assn) (w' : World), Sat (diskP D d4 * F) w' → Calls Try.prog 35 #[.pointer (some ⟨D, 0, none⟩), .string nmO, .int .i64 0, .int .i64 b.length] w' fun e w'' => ∃ v, e = .returned (.tuple #[v, .int .i64 6]) ∧ Sat (rw TB 1 v (bys []) * (diskP D d4 * F)) w'') := hrd
            have hb1 : ((b.length : Int) == 0) = true := by rw [beq_iff_eq]; omega
            clear hrd hsz ho2 hdn hb0
            rcases hways with h1 | ⟨h1, h2⟩
            all_goals
              go_wp2_with fail
              refine hcr.mono ?_
              rintro e w5 ⟨rfl, hs5⟩
              go_wp2_with fail
              refine (HC2.out _ _ hs5).mono ?_
              rintro e w6 ⟨rfl, hs6⟩
              go_wp2_with fail
              refine (HRD.out _ _ hs6).mono ?_
              rintro e w7 ⟨v7, rfl, hs7⟩
              obtain ⟨a7, c7, rfl, _, _⟩ := rw_vb hs7
              rw [List.length_nil] at hs7 ⊢
              go_wp2
              go_ret
              exact ⟨rfl, (hs7.take (old w)).old_below⟩
          · obtain ⟨he1, he2⟩ := own_end1 ho2 hdn hb0
            rw [he1] at hrd
            rw [he2] at hsz
            have HRD : Aside (∀ (F : Assn) (w' : World), Sat (diskP D d4 * F) w' → Calls Try.prog 35 #[.pointer (some ⟨D, 0, none⟩), .string nmO, .int .i64 0, .int .i64 b.length] w' fun e w'' => ∃ v, e = .returned (.tuple #[v, .int .i64 0]) ∧ Sat (rw TB 1 v (bys b) * (diskP D d4 * F)) w'') := hrd
            have HSZ : Aside (∀ (F : Assn) (w' : World), Sat (diskP D d4 * F) w' → Calls Try.prog 36 #[.pointer (some ⟨D, 0, none⟩), .string nmO] w' fun e w'' => e = .returned (.int .i64 b.length) ∧ w' = w'') := hsz
            have hb1 : ((b.length : Int) == 0) = false := by rw [beq_eq_false_iff_ne]; omega
            clear hrd hsz ho2 hdn hb0 he1 he2
            rcases hways with h1 | ⟨h1, h2⟩
            all_goals
              go_wp2_with fail
              refine hcr.mono ?_
              rintro e w5 ⟨rfl, hs5⟩
              go_wp2_with fail
              refine (HC2.out _ _ hs5).mono ?_
              rintro e w6 ⟨rfl, hs6⟩
              go_wp2_with fail
              refine (HRD.out _ _ hs6).mono ?_
              rintro e w7 ⟨v7, rfl, hs7⟩
              obtain ⟨a7, c7, rfl, _, _⟩ := rw_vb hs7
              have hsm := same_any (.slice a7 b.length c7) (.slice ba b.length bc) b b w7 (Reads.rw _ _ hs7) (HRB.out _ _ (hs7.take (old w)))
              rw [decide_eq_true (rfl : b = b)] at hsm
              go_wp2_with fail
              refine hsm.mono ?_
              rintro e w8 ⟨rfl, nd, rfl⟩
              have hs8 := hs7.drewN nd
              go_wp2_with fail
              refine (HSZ.out _ _ (hs8.take (diskP D d4))).mono ?_
              rintro e w9 ⟨rfl, rfl⟩
              go_wp2
              go_ret
              exact ⟨rfl, (hs8.take (old w)).old_below⟩

end Go.Proofs.Ytjhkmmpgjiciiaa
