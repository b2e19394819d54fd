/-
  DiskSectors: the walk.
-/
import Derived.Test.YtjhkmmpgjiciiaaSec1
import Derived.Test.YtjhkmmpgjiciiaaSlb
import Derived.Test.YtjhkmmpgjiciiaaRef1
import Derived.Deep.DrawnRows
import Derived.Deep.RegionHeld3
import Derived.IntWalk
import Derived.Deep.DeepCutAuto
namespace Go.Proofs.Ytjhkmmpgjiciiaa
set_option linter.unusedSimpArgs false
set_option linter.unusedVariables false
open Go.RowKit Go.Sl Go.Dk
attribute [local go_sem ↓] Go.wp_at_zero Go.wp_at_succ
attribute [local go_sem] Go.Sl.cell_sat Go.Sl.frozen_sat

def maysA : List Value → List (List UInt8) → Assn
  | v :: vs, m :: ms => rwo TB 1 v (bys m) * maysA vs ms
  | _, _ => 1

theorem maysA_at : ∀ {vs : List Value} {ms : List (List UInt8)} {k : Nat} {v : Value} {m : List UInt8} (hv : vs[k]? = some v) (hm : ms[k]? = some m),
    ∃ R, maysA vs ms = rwo TB 1 v (bys m) * R ∧ ∀ v' m', maysA (vs.set k v') (ms.set k m') = rwo TB 1 v' (bys m') * R
  | [], _, _, _, _, hv, _ => by simp at hv
  | _ :: _, [], _, _, _, _, hm => by simp at hm
  | u :: vs, q :: ms, 0, v, m, hv, hm => by
    simp at hv hm; subst hv hm
    exact ⟨maysA vs ms, rfl, fun _ _ => rfl⟩
  | u :: vs, q :: ms, k + 1, v, m, hv, hm => by
    simp at hv hm
    obtain ⟨R, h1, h2⟩ := maysA_at hv hm
    refine ⟨rwo TB 1 u (bys q) * R, ?_, fun v' m' => ?_⟩
    · show rwo TB 1 u (bys q) * maysA vs ms = _
      rw [h1]; ac_rfl
    · show rwo TB 1 u (bys q) * maysA (vs.set k v') (ms.set k m') = _
      rw [h2]; ac_rfl

theorem mays_nil {F : Assn} {w : World} (hs : Sat F w) : ∀ n, Sat (maysA (List.replicate n (.slice none 0 0)) (List.replicate n []) * F) w
  | 0 => by simpa [maysA, one_sep] using hs
  | n + 1 => by
    have h := Sat.rwo_of (Sat.rw_nil (e := TB) (s := 1) (mays_nil hs n))
    rw [List.replicate_succ, List.replicate_succ]
    exact h.eq (by show _ = rwo TB 1 _ (bys []) * _ * _; rw [sep_assoc]; rfl)

abbrev nilS : Value := .slice none 0 0
theorem makeS (w : World) : (Instr.makeSlice 47 (.int .i64 12) (.int .i64 12)).run Try.prog w = .ok (.slice (some ⟨w.heap.size, 0, none⟩) 12 12) (w.alloc (.cells (List.replicate 12 nilS).toArray 45)) := by kernel_rfl

structure PutR where
  pat : Int
  n : Int
  x : UInt8
  sync : Bool
def putrow (p : PutR) : List Value := [.int .i64 p.pat, .int .i64 p.n, .int .u8 p.x.toNat, .bool p.sync]

def ms0 (j : Nat) : List (List UInt8) := List.replicate j [0] ++ List.replicate (12 - j) []
theorem ms0_set {j : Nat} (h : j < 12) : (ms0 j).set j [0] = ms0 (j + 1) := by
  unfold ms0
  apply List.ext_getElem?
  intro i
  by_cases h1 : j = i
  · subst h1
    rw [List.getElem?_set_self (by simp; omega), List.getElem?_append_left (by simp), List.getElem?_replicate, if_pos (by omega)]
  · rw [List.getElem?_set_ne h1]
    by_cases h2 : i < j
    · rw [List.getElem?_append_left (by simp; omega), List.getElem?_append_left (by simp; omega), List.getElem?_replicate, List.getElem?_replicate, if_pos h2, if_pos (by omega)]
    · rw [List.getElem?_append_right (by simp; omega), List.getElem?_append_right (by simp; omega)]
      simp only [List.length_replicate, List.getElem?_replicate]
      by_cases h3 : i < 12
      · rw [if_pos (by omega), if_pos (by omega)]
      · rw [if_neg (by omega), if_neg (by omega)]
theorem ms0_at {j : Nat} (h : j < 12) : (ms0 j)[j]? = some [] := by
  unfold ms0
  rw [List.getElem?_append_right (by simp), List.getElem?_replicate, if_pos (by simp; omega)]

set_option maxRecDepth 100000 in
set_option maxHeartbeats 4000000 in
theorem diskSectors_walk (v pv : Value) (ps : List PutR) (picks : List Int) (w : World) (hv : Rws w v 4 (ps.map putrow)) (hpk : Ints w pv picks) (hl1 : ps.length ≤ 9223372036854775807) (hl2 : picks.length ≤ 9223372036854775807) :
    Calls Try.prog 5 #[v, pv] w fun e w' => e = .returned (.bool true) ∧ Below w.heap.size w w' := by
  obtain ⟨va, vc, hvv⟩ := hv.len
  rw [List.length_map] at hvv
  obtain ⟨pa, pc, hpp⟩ := hpk.len
  subst hvv hpp
  have hmk := makeS
  go_enter Try.func5, Try.ntmps5
  go_wp2_with fail
  refine (newD_yes 100000 (old w) w (Sat.old_self w) (by omega) (by omega)).mono ?_
  rintro e w1 ⟨D, rfl, hs1⟩
  go_wp2_with fail
  refine (awake04 _ w1 hs1).mono ?_
  rintro e w2 ⟨rfl, hs2⟩
  clear hs1
  have hfull := full_any 768 0 _ w2 hs2 (by omega)
  rw [show (((0 : UInt8).toNat : Nat) : Int) = 0 from rfl, show ((768 : Nat) : Int) = 768 from rfl] at hfull
  clear hs2
  go_wp2_with fail
  refine hfull.mono ?_
  rintro e w3 ⟨a3, c3, rfl, hs3⟩
  have hld := load_any D (Dk.new 100000) 0 nmA (.slice a3 768 c3) (List.replicate 768 0) (rw TB 1 (.slice a3 768 c3) (bys (List.replicate 768 0))) (old w) w3 Reads.rw (hs3.eq (by ac_rfl)) (by decide) (by rw [List.length_replicate]; omega) (ok_new 100000 (by omega) (by unfold big; omega)) (by unfold big; omega)
  rw [sec_load] at hld
  unfold nmA at hld
  clear hfull hs3
  go_wp2_with fail
  refine hld.mono ?_
  rintro e w4 ⟨rfl, hs4⟩
  have hs5 : Sat (diskP D secD * old w) w4 := Sat.weak (B := rw TB 1 (.slice a3 768 c3) (bys (List.replicate 768 0))) (hs4.eq (by ac_rfl))
  clear hld hs4
  have hs6 := (mays_nil hs5 12).alloc (List.replicate 12 nilS).toArray 45
  have e12 : (List.replicate 12 nilS).toArray.toList = List.replicate 12 nilS := rfl
  rw [e12] at hs6
  clear hs5 e12
  go_wp2_with fail
  go_loopg [8] 12 (fun k i wr => ∃ (j : Nat) (vs : List Value), i = .int .i64 j ∧ j ≤ 12 ∧ Aside (k = 12 - j ∧ vs.length = 12 ∧ (∀ i, j ≤ i → i < 12 → vs[i]? = some nilS)) ∧ Sat (block w4.heap.size 45 vs * (maysA vs (ms0 j) * (diskP D secD * old w))) wr)
  case atStart => exact ⟨0, List.replicate 12 nilS, rfl, by omega, ⟨rfl, List.length_replicate, fun i _ h => by rw [List.getElem?_replicate, if_pos h]⟩, hs6⟩
  case round =>
    obtain ⟨j, vs, rfl, hj, A, hs⟩ := hrel
    clear hs6 hmk
    by_cases hjl : j < 12
    · have hj3 : (j : Int) < 12 := by omega
      obtain ⟨hk, hvl, hvn⟩ := A.out
      have HA : Aside (gk = 12 - j ∧ vs.length = 12 ∧ (∀ i, j ≤ i → i < 12 → vs[i]? = some nilS)) := A
      haveI hat : At vs j nilS := ⟨hvn j (Nat.le_refl _) hjl⟩
      haveI := hs.i
      clear hk hvl hvn A
      go_wp2
      go_roundg (12 - (j + 1))
      case measure => have := HA.out.1; omega
      case rel =>
        obtain ⟨hk, hvl, hvn⟩ := HA.out
        obtain ⟨R, h1, h2⟩ := maysA_at (hvn j (Nat.le_refl _) hjl) (ms0_at hjl)
        refine ⟨j + 1, vs.set j (.slice (some ⟨wr.heap.size, 0, none⟩) 1 1), by go_num, by omega, ⟨rfl, by simpa using hvl, fun i h3 h4 => by rw [List.getElem?_set_ne (by omega)]; exact hvn i (by omega) h4⟩, ?_⟩
        have hz : Sat _ _ := satI (w := (wr.alloc (.cells #[.int .u8 0] TB)).setCell ⟨w4.heap.size, j, none⟩ (.slice (some ⟨wr.heap.size, 0, none⟩) 1 1))
        rw [h1] at hz
        rw [← ms0_set hjl, h2]
        have hz2 := Sat.rwo_of (Sat.rw_shut (e := TB) (s := 1) (xs := [.int .u8 0]) (sp := []) (n := 1) (cap := 1) (g := wr.heap.size) rfl rfl (by omega) (by unfold maxLen; omega) (hz.take (block wr.heap.size TB [.int .u8 0])))
        exact Sat.weak (B := rwo TB 1 nilS (bys [])) (hz2.eq (by show rwo TB 1 _ (bys [0]) * _ = _; ac_rfl))
    · have hj3 : ¬ (j : Int) < 12 := by omega
      obtain rfl : j = 12 := by omega
      have HV : Aside (vs.length = 12) := A.out.2.1
      clear A
      go_wp2_with fail
      go_loopg [9] 40 (fun k i wr => ∃ (j : Nat) (d : Dk) (vs : List Value) (ms : List (List UInt8)), i = .int .i64 j ∧ j ≤ 40 ∧ Aside (k = 40 - j ∧ vs.length = 12 ∧ (∃ now safe, Sec d now safe ms) ∧ Ok (j * 800) d ∧ ∀ m ∈ ms, m.length ≤ j + 1) ∧ Sat (block w4.heap.size 45 vs * (maysA vs ms * (diskP D d * old w))) wr)
      case atStart => exact ⟨0, secD, vs, ms0 12, rfl, by omega, ⟨rfl, HV.out, ⟨_, _, sec_start⟩, by have := ok_load (ok_new 100000 (by omega) (by unfold big; omega)) nmA (List.replicate 768 0); rw [sec_load] at this; exact this, by intro m hm; simp [ms0] at hm; subst hm; simp⟩, hs⟩
      case round =>
        clear hs HV
        obtain ⟨j, d, vs, ms, rfl, hj, A, hs⟩ := hrel
        by_cases hgo : j < ps.length ∧ j < 40
        · obtain ⟨hjl, hj2⟩ := hgo
          have hj3 : (j : Int) < ps.length := by omega
          · have hj4 : (j : Int) < 40 := by omega
            obtain ⟨p, hx⟩ : ∃ x, ps[j]? = some x := ⟨ps[j], by simp [hjl]⟩
            obtain ⟨rb, ro, e1, hcell⟩ := hv.at (show (ps.map putrow)[j]? = some (putrow p) by simp [hx])
            subst e1
            haveI : OldAt w rb (ro + j * 4) (.int .i64 p.pat) := ⟨by have := hcell 0 _ rfl; simpa using this⟩
            haveI : OldAt w rb (ro + j * 4 + 1) (.int .i64 p.n) := ⟨hcell 1 _ rfl⟩
            haveI : OldAt w rb (ro + j * 4 + 2) (.int .u8 p.x.toNat) := ⟨hcell 2 _ rfl⟩
            haveI : OldAt w rb (ro + j * 4 + 3) (.bool p.sync) := ⟨hcell 3 _ rfl⟩
            clear hcell hx
            haveI := hs.i
            obtain ⟨kk, hkk, hk12⟩ : ∃ m : Nat, p.pat % 12 = (m : Int) ∧ m < 12 := ⟨(p.pat % 12).toNat, by omega, by omega⟩
            obtain ⟨nn, hnn, hn12⟩ : ∃ m : Nat, p.n % (13 - (kk : Int)) = (m : Int) ∧ kk + m ≤ 12 := ⟨(p.n % (13 - (kk : Int))).toNat, by have := Int.emod_nonneg p.n (show (13 - (kk : Int)) ≠ 0 by omega); omega, by have := Int.emod_nonneg p.n (show (13 - (kk : Int)) ≠ 0 by omega); have := Int.emod_lt_of_pos p.n (show (0 : Int) < 13 - (kk : Int) by omega); omega⟩
            have hp1 := pick_any p.pat 12 wr (by omega) (by omega)
            rw [hkk] at hp1
            have hp2 := pick_any p.n (13 - (kk : Int)) wr (by omega) (by omega)
            rw [hnn] at hp2
            have hfull := full_any (64 * nn) p.x _ wr (satI (w := wr)) (by omega)
            rw [Int.natCast_mul, show ((64 : Nat) : Int) = 64 from rfl] at hfull
            have HA : Aside (gk = 40 - j ∧ vs.length = 12 ∧ (∃ now safe, Sec d now safe ms) ∧ Ok (j * 800) d ∧ ∀ m ∈ ms, m.length ≤ j + 1) := A
            clear hkk hnn A
            go_wp2_with fail
            refine hp1.mono ?_
            rintro e w' ⟨rfl, rfl⟩
            go_wp2_with fail
            refine hp2.mono ?_
            rintro e w' ⟨rfl, rfl⟩
            go_wp2_with fail
            refine hfull.mono ?_
            rintro e w5 ⟨a5, c5, rfl, hs5⟩
            have hok := HA.out.2.2.2.1
            have hwr := write_any D d (j * 800) nmA ((64 * kk : Nat) : Int) (.slice a5 (64 * nn) c5) (List.replicate (64 * nn) p.x) (rw TB 1 (.slice a5 (64 * nn) c5) (bys (List.replicate (64 * nn) p.x))) _ w5 Reads.rw (hs5.take2 (diskP D d) (rw TB 1 (.slice a5 (64 * nn) c5) (bys (List.replicate (64 * nn) p.x)))) (by decide) (by simp; omega) hok (by unfold big; omega)
            have hok2 := ok_write hok nmA ((64 * kk : Nat) : Int) (List.replicate (64 * nn) p.x)
            obtain ⟨now, safe, hsec⟩ := HA.out.2.2.1
            obtain ⟨q1, now2, q2⟩ := sec_write hsec kk nn p.x hn12
            obtain ⟨d2, hd2⟩ : ∃ d2, (d.write nmA ((64 * kk : Nat) : Int) (List.replicate (64 * nn) p.x)).2 = d2 := ⟨_, rfl⟩
            rw [q1, hd2, Int.natCast_mul, show ((64 : Nat) : Int) = 64 from rfl] at hwr
            rw [hd2] at q2 hok2
            unfold nmA at hwr
            have H2 : Aside (Sec d2 now2 safe (mayput ms kk nn p.x) ∧ Ok ((j + 1) * 800 - 1) d2) := ⟨q2, ok_more hok2 (by simp; omega)⟩
            clear hd2 q1 q2 hok2 hok hsec hfull
            go_wp2_with fail
            refine hwr.mono ?_
            rintro e w6 ⟨rfl, hs6⟩
            have hs7 := hs6.drop (rw TB 1 (.slice a5 (64 * nn) c5) (bys (List.replicate (64 * nn) p.x)))
            clear hs6 hs5 hwr hp1 hp2 hs
            go_wp2_with fail
            go_loopg [12] nn (fun k i wr => ∃ (y : Nat) (vs : List Value), i = .int .i64 y ∧ kk ≤ y ∧ y ≤ kk + nn ∧ Aside (k = kk + nn - y ∧ vs.length = 12) ∧ Sat (block w4.heap.size 45 vs * (maysA vs (mayput ms kk (y - kk) p.x) * (diskP D d2 * old w))) wr)
            case atStart => exact ⟨kk, vs, rfl, by omega, by omega, ⟨by show nn = kk + nn - kk; omega, HA.out.2.1⟩, by rw [Nat.sub_self, mayput_zero]; exact hs7.eq (by ac_rfl)⟩
            case round =>
              clear hs7
              obtain ⟨y, vs, rfl, hy1, hy2, A, hs⟩ := hrel
              by_cases hqn : y < kk + nn
              · have hlt : (y : Int) < kk + nn := by omega
                have hlt2 : (y : Int) < 12 := by omega
                obtain ⟨q, hq⟩ : ∃ q, y - kk = q := ⟨_, rfl⟩
                have hyq : y = kk + q := by omega
                rw [hq] at hs
                obtain ⟨u, hu⟩ : ∃ u, vs[y]? = some u := ⟨vs[y]'(by rw [A.out.2]; omega), by simp⟩
                obtain ⟨m, hm⟩ : ∃ m, (mayput ms kk q p.x)[y]? = some m := ⟨(mayput ms kk q p.x)[y]'(by rw [mayput_len, (HA.out.2.2.1).choose_spec.choose_spec.ml]; omega), by simp⟩
                obtain ⟨R, g1, g2⟩ := maysA_at hu hm
                haveI : At vs y u := ⟨hu⟩
                rw [g1] at hs
                obtain ⟨ua, un, uc, rfl⟩ : ∃ a n c, u = .slice a n c := by
                  rcases (hs.take (rwo TB 1 u (bys m))).rwo_open with ⟨h1, _⟩ | ⟨g, pre, n, cap, sp, h1, _⟩
                  · exact ⟨_, _, _, h1⟩
                  · exact ⟨_, _, _, h1⟩
                have hun : un = m.length := by
                  rcases (hs.take (rwo TB 1 (.slice ua un uc) (bys m))).rwo_open with ⟨h1, h2, _⟩ | ⟨g, pre, n, cap, sp, h1, h2, _⟩
                  · cases h1; simp [bys] at h2; simp [h2]
                  · cases h1; simpa [bys_len] using h2.symm
                have hml : m.length ≤ 41 := by
                  have h := hm
                  rw [mayput_at] at h
                  obtain ⟨m', h1, h2⟩ := Option.map_eq_some_iff.1 h
                  rw [if_neg (by omega)] at h2
                  subst h2
                  have := HA.out.2.2.2.2 m' (List.mem_of_getElem? h1)
                  omega
                have HG : Aside ((maysA vs (mayput ms kk q p.x) = rwo TB 1 (.slice ua un uc) (bys m) * R) ∧ (∀ v' m', maysA (vs.set y v') ((mayput ms kk q p.x).set y m') = rwo TB 1 v' (bys m') * R) ∧ (mayput ms kk q p.x)[y]? = some m ∧ y - kk = q) := ⟨g1, g2, hm, hq⟩
                have hun2 : un ≤ 41 := by omega
                clear g1 g2 hun hml hm hu hyq hq
                obtain ⟨i0, E⟩ := elemB
                haveI := hs.i
                go_upto_region 21 with (fail)
                go_region_law first
                  | (refine step_append_slo E rfl (.tmp 92) (.tmp 98) rfl rfl rfl (takeI (rwo TB 1 (.slice ua un uc) (bys m))) (Src.one_new (b := wr.heap.size) (e := TB) (takeI (block wr.heap.size TB [.int .u8 p.x.toNat])) rfl) (by unfold maxLen; omega) (by omega) ?_; intro a7 c7 w7 hs7 hnn; clear hnn; haveI := hs7.i)
                all_goals
                  go_wp2_with fail
                  go_roundg (kk + nn - (y + 1))
                  case measure => have := A.out.1; omega
                  case rel =>
                    refine ⟨y + 1, vs.set y (.slice a7 (un + 1) c7), by go_num, by omega, by omega, ⟨rfl, by rw [List.length_set]; exact A.out.2⟩, ?_⟩
                    obtain ⟨g1, g2, g3, g4⟩ := HG.out
                    have e1 : y + 1 - kk = q + 1 := by omega
                    obtain rfl : y = kk + q := by omega
                    rw [e1, mayput_succ ms kk q p.x m g3, g2, bys_append]
                    refine satI_weak (C := block wr.heap.size TB [.int .u8 p.x.toNat]) ?_
                    rw [show bys [p.x] = [Value.int .u8 p.x.toNat] from rfl]
                    ac_rfl
              · have hlt : ¬ (y : Int) < kk + nn := by omega
                obtain rfl : y = kk + nn := by omega
                have H3 : Aside (vs.length = 12) := A.out.2
                rw [Nat.add_sub_cancel_left] at hs
                clear A
                haveI := hs.i
                cases hsy : p.sync with
                | false =>
                  go_wp2_with fail
                  go_roundg (40 - (j + 1))
                  case measure => have := HA.out.1; omega
                  case rel =>
                    refine ⟨j + 1, d2, vs, mayput ms kk nn p.x, by go_num, by omega, ⟨rfl, H3.out, ⟨_, _, H2.out.1⟩, ok_more H2.out.2 (by omega), ?_⟩, hs⟩
                    intro m hm
                    obtain ⟨i, hi⟩ := List.mem_iff_getElem?.1 hm
                    rw [mayput_at] at hi
                    obtain ⟨m', h1, rfl⟩ := Option.map_eq_some_iff.1 hi
                    have := HA.out.2.2.2.2 m' (List.mem_of_getElem? h1)
                    split
                    · simp; omega
                    · omega
                | true =>
                  have hok := H2.out.2
                  have hsc := sync_any D d2 ((j + 1) * 800 - 1) nmA _ wr (takeI (diskP D d2)) (by decide) hok (by unfold big; omega)
                  have hok3 := ok_sync hok nmA
                  obtain ⟨q1, q2⟩ := sec_sync H2.out.1
                  obtain ⟨d3, hd3⟩ : ∃ d3, (d2.sync nmA).2 = d3 := ⟨_, rfl⟩
                  rw [q1, hd3] at hsc
                  rw [hd3] at q2 hok3
                  unfold nmA at hsc
                  have H4 : Aside (Sec d3 now2 now2 (maysync (mayput ms kk nn p.x)) ∧ Ok ((j + 1) * 800) d3) := ⟨q2, ok_more hok3 (by omega)⟩
                  clear hd3 q1 q2 hok hok3
                  go_wp2_with fail
                  refine hsc.mono ?_
                  rintro e w8 ⟨rfl, hs8⟩
                  clear hsc hs
                  have hms : (mayput ms kk nn p.x).length = 12 := H2.out.1.ml
                  have HM : Aside ((mayput ms kk nn p.x).length = 12 ∧ (∀ m ∈ mayput ms kk nn p.x, 0 < m.length ∧ m.length ≤ j + 2)) := by
                    refine ⟨hms, fun m hm => ⟨?_, ?_⟩⟩
                    · obtain ⟨i, hi⟩ := List.mem_iff_getElem?.1 hm
                      obtain ⟨_, _, _, _, g3, _⟩ := H2.out.1.own i m hi
                      exact List.length_pos_of_mem g3
                    · obtain ⟨i, hi⟩ := List.mem_iff_getElem?.1 hm
                      rw [mayput_at] at hi
                      obtain ⟨m', h1, rfl⟩ := Option.map_eq_some_iff.1 hi
                      have := HA.out.2.2.2.2 m' (List.mem_of_getElem? h1)
                      split
                      · simp; omega
                      · omega
                  obtain ⟨ms2, hms2⟩ : ∃ x, mayput ms kk nn p.x = x := ⟨_, rfl⟩
                  rw [hms2] at HM H4 hs8
                  clear hms hms2 H2
                  go_wp2_with fail
                  go_loopg [13] 12 (fun k i wr => ∃ (y : Nat) (vs : List Value), i = .int .i64 y ∧ y ≤ 12 ∧ Aside (k = 12 - y ∧ vs.length = 12) ∧ Sat (block w4.heap.size 45 vs * (maysA vs (maysN ms2 y) * (diskP D d3 * old w))) wr)
                  case atStart => exact ⟨0, vs, rfl, by omega, ⟨rfl, H3.out⟩, by rw [maysN_zero]; exact hs8.eq (by ac_rfl)⟩
                  case round =>
                    clear hs8 H3
                    obtain ⟨y, vs, rfl, hy, A, hs⟩ := hrel
                    by_cases hy2 : y < 12
                    · have hlt2 : (y : Int) < 12 := by omega
                      obtain ⟨u, hu⟩ : ∃ u, vs[y]? = some u := ⟨vs[y]'(by rw [A.out.2]; omega), by simp⟩
                      obtain ⟨m, hm⟩ : ∃ m, (maysN ms2 y)[y]? = some m := ⟨(maysN ms2 y)[y]'(by rw [maysN_len, HM.out.1]; omega), by simp⟩
                      obtain ⟨R, g1, g2⟩ := maysA_at hu hm
                      haveI : At vs y u := ⟨hu⟩
                      rw [g1] at hs
                      obtain ⟨ua, un, uc, rfl⟩ : ∃ a n c, u = .slice a n c := by
                        rcases (hs.take (rwo TB 1 u (bys m))).rwo_open with ⟨h1, _⟩ | ⟨g, pre, n, cap, sp, h1, _⟩
                        · exact ⟨_, _, _, h1⟩
                        · exact ⟨_, _, _, h1⟩
                      have hun : un = m.length := by
                        rcases (hs.take (rwo TB 1 (.slice ua un uc) (bys m))).rwo_open with ⟨h1, h2, _⟩ | ⟨g, pre, n, cap, sp, h1, h2, _⟩
                        · cases h1; simp [bys] at h2; simp [h2]
                        · cases h1; simpa [bys_len] using h2.symm
                      have hml : 0 < m.length ∧ m.length ≤ 42 := by
                        have h := hm
                        rw [maysN_at] at h
                        obtain ⟨m', h1, h2⟩ := Option.map_eq_some_iff.1 h
                        rw [if_neg (by omega)] at h2
                        subst h2
                        have := HM.out.2 m' (List.mem_of_getElem? h1)
                        omega
                      obtain ⟨u1, rfl⟩ : ∃ u1, un = u1 + 1 := ⟨un - 1, by omega⟩
                      have HG : Aside ((∀ v' m', maysA (vs.set y v') ((maysN ms2 y).set y m') = rwo TB 1 v' (bys m') * R) ∧ (maysN ms2 y)[y]? = some m ∧ m.length = u1 + 1) := ⟨g2, hm, hun.symm⟩
                      have hun2 : u1 ≤ 41 := by omega
                      clear g1 g2 hun hml hm hu
                      obtain ⟨i0, E⟩ := elemB
                      have hfrom := at_from (P := Try.prog) E (a := ua) (n := u1 + 1) (c := uc) u1 (by omega)
                      haveI := hs.i
                      go_upto_region 28 with (fail)
                      go_region
                      all_goals
                        go_wp2_with fail
                        go_roundg (12 - (y + 1))
                        case measure => have := A.out.1; omega
                        case rel =>
                          obtain ⟨g2, g3, g4⟩ := HG.out
                          refine ⟨y + 1, vs.set y (.slice (cutA ua uc u1 1) (u1 + 1 - u1) (uc - u1)), by go_num, by omega, ⟨rfl, by rw [List.length_set]; exact A.out.2⟩, ?_⟩
                          have e1 : m.length - 1 = u1 := by omega
                          rw [maysN_succ g3, g2, e1, bys_drop]
                          have hz : Sat _ _ := satI (w := wr.drew.setCell ⟨w4.heap.size, y, none⟩ (.slice (cutA ua uc u1 1) (u1 + 1 - u1) (uc - u1)))
                          have hz2 := Sat.rwo_from (hz.take (rwo TB 1 (.slice ua (u1 + 1) uc) (bys m))) u1 (by omega)
                          have e2 : u1 + 1 - u1 = 1 := by omega
                          rw [e2] at hz2 ⊢
                          exact hz2.eq (by ac_rfl)
                    · have hlt2 : ¬ (y : Int) < 12 := by omega
                      obtain rfl : y = 12 := by omega
                      rw [maysN_all (by rw [HM.out.1]; omega)] at hs
                      have H5 : Aside (vs.length = 12) := A.out.2
                      clear A
                      go_wp2_with fail
                      go_roundg (40 - (j + 1))
                      case measure => have := HA.out.1; omega
                      case rel =>
                        refine ⟨j + 1, d3, vs, maysync ms2, by go_num, by omega, ⟨rfl, H5.out, ⟨_, _, H4.out.1⟩, H4.out.2, ?_⟩, hs⟩
                        intro m hm
                        obtain ⟨m', h1, rfl⟩ := List.mem_map.1 hm
                        simp
                        omega
        · have hways : (¬ (j : Int) < ps.length) ∨ ((j : Int) < ps.length ∧ ¬ (j : Int) < 40) := by omega
          obtain ⟨now, safe, hsec⟩ := A.out.2.2.1
          obtain ⟨b, hb1, hb2, hb3, hb4⟩ := sec_crash hsec picks
          have hok := A.out.2.2.2.1
          have hvl := A.out.2.1
          have hcr := crash_any D d (j * 800) picks (.slice pa picks.length pc) (old w) _ wr (fun F' w' h => hpk.old h) (hs.take2 (diskP D d) (old w)) hl2 hok (by unfold big; omega)
          have hokc := ok_crash hok picks
          have HB : Aside ((d.crash picks).read nmA 0 768 = (0, b) ∧ (d.crash picks).size nmA = 768 ∧ Ok (j * 800) (d.crash picks)) := ⟨hb2, hb3, hokc⟩
          have HM : Aside ((∀ k m, ms[k]? = some m → ∃ x ∈ m, sec k b = List.replicate 64 x) ∧ vs.length = 12 ∧ ms.length = 12 ∧ b.length = 768 ∧ ∀ m ∈ ms, m.length ≤ 41) := ⟨hb4, hvl, hsec.ml, hb1, fun m hm => by have := A.out.2.2.2.2 m hm; omega⟩
          clear hb1 hb2 hb3 hb4 hsec hok hokc hvl A hgo hv
          obtain ⟨dc, hdc⟩ : ∃ dc, d.crash picks = dc := ⟨_, rfl⟩
          rw [hdc] at hcr HB
          clear hdc
          rcases hways with h1 | ⟨h1, h2⟩
          all_goals
            go_wp2_with fail
            refine hcr.mono ?_
            rintro e w5 ⟨rfl, hs5⟩
            have hrd := read_any D dc nmA 0 768 _ w5 hs5 (by decide) (fun p hp => (HB.out.2.2.sz p hp).1)
            rw [HB.out.1] at hrd
            unfold nmA at hrd
            clear hs hcr
            go_wp2_with fail
            refine hrd.mono ?_
            rintro e w6 ⟨bvv, rfl, hs6⟩
            obtain ⟨ba, bc, rfl, hbc, hbc2⟩ := rw_vb hs6
            have hsize := size_any D dc nmA _ w6 (hs6.take (diskP D dc)) (by decide)
            rw [HB.out.2.1] at hsize
            unfold nmA at hsize
            clear hs5 hrd
            have hbl : b.length = 768 := HM.out.2.2.2.1
            rw [hbl] at hs6 hbc
            simp only [hbl]
            have HBL : Aside (b.length = 768) := hbl
            clear hbl
            go_wp2_with fail
            refine hsize.mono ?_
            rintro e w6' ⟨rfl, rfl⟩
            clear hsize
            go_wp2_with fail
            go_loopg [16, 17, 18] 12 (fun k i t17 t18 wr => ∃ (y : Nat), i = .int .i64 y ∧ y ≤ 12 ∧ Aside (k = 12 - y) ∧ Sat (rw TB 1 (.slice ba 768 bc) (bys b) * (block w4.heap.size 45 vs * (maysA vs ms * (diskP D dc * old w)))) wr)
            case atStart => exact ⟨0, rfl, by omega, rfl, hs6.eq (by ac_rfl)⟩
            case round =>
              clear hs6
              obtain ⟨y, rfl, hy, A, hs⟩ := hrel
              by_cases hy2 : y < 12
              · have hlt2 : (y : Int) < 12 := by omega
                obtain ⟨u, hu⟩ : ∃ u, vs[y]? = some u := ⟨vs[y]'(by rw [HM.out.2.1]; omega), by simp⟩
                obtain ⟨m, hm⟩ : ∃ m, ms[y]? = some m := ⟨ms[y]'(by rw [HM.out.2.2.1]; omega), by simp⟩
                obtain ⟨R, g1, g2⟩ := maysA_at hu hm
                haveI : At vs y u := ⟨hu⟩
                rw [g1] at hs
                obtain ⟨ua, uc, rfl, hua, huc, huc2⟩ := Sat.rwo_v (hs.take (rwo TB 1 u (bys m)))
                obtain ⟨xx, hxm, hxs⟩ := HM.out.1 y m hm
                obtain ⟨ug, uo, rfl⟩ := hua (by intro h; have := congrArg List.length h; simp [bys] at this; subst this; simp at hxm)
                rw [bys_len] at *
                have hml : m.length ≤ 41 := HM.out.2.2.2.2 m (List.mem_of_getElem? hm)
                have HX : Aside ((∃ x ∈ m, sec y b = List.replicate 64 x) ∧ maysA vs ms = rwo TB 1 (.slice (some ⟨ug, uo, none⟩) m.length uc) (bys m) * R) := ⟨⟨xx, hxm, hxs⟩, g1⟩
                clear hua hxm hxs g1 g2 hm hu
                go_wp2_with fail
                go_loopg [17, 18] 50 (fun k t17 t18 wr => ∃ (q : Nat) (mt : Bool), t17 = .bool mt ∧ t18 = .int .i64 q ∧ q ≤ m.length ∧ Aside (k = 50 - q ∧ (mt = true ↔ ∃ i x, i < q ∧ m[i]? = some x ∧ sec y b = List.replicate 64 x)) ∧ Sat (rw TB 1 (.slice ba 768 bc) (bys b) * (block w4.heap.size 45 vs * (rwo TB 1 (.slice (some ⟨ug, uo, none⟩) m.length uc) (bys m) * R * (diskP D dc * old w)))) wr)
                case atStart => exact ⟨0, false, rfl, rfl, by omega, ⟨rfl, by simp⟩, hs⟩
                case round =>
                  clear hs
                  obtain ⟨q, mt, rfl, rfl, hq, B, hs⟩ := hrel
                  haveI := hs.i
                  by_cases hq2 : q < m.length
                  · have hq3 : (q : Int) < m.length := by omega
                    cases mt with
                    | true =>
                      go_wp2_with fail
                      go_region
                      all_goals
                        go_wp2_with fail
                        go_roundg (50 - (q + 1))
                        case measure => have := B.out.1; omega
                        case rel =>
                          refine ⟨q + 1, true, rfl, by go_num, by omega, ⟨rfl, ?_⟩, hs.drew⟩
                          obtain ⟨i, x, h3, h4, h5⟩ := B.out.2.1 trivial
                          exact ⟨fun _ => ⟨i, x, by omega, h4, h5⟩, fun _ => rfl⟩
                    | false =>
                      obtain ⟨x, hx⟩ : ∃ x, m[q]? = some x := ⟨m[q], by simp [hq2]⟩
                      haveI : At (bys m) q (.int .u8 x.toNat) := ⟨bys_at hx⟩
                      obtain ⟨i0, E⟩ := elemB
                      have hcut := at_cut (P := Try.prog) E (a := ba) (n := 768) (c := bc) (64 * y) (64 * y + 64) (by omega) (by omega)
                      simp only [Int.natCast_add, Int.natCast_mul, show ((64 : Nat) : Int) = 64 from rfl] at hcut
                      have hfull := full_any 64 x _ wr.drew (satI (w := wr.drew)) (by omega)
                      rw [show ((64 : Nat) : Int) = 64 from rfl] at hfull
                      have HX2 : Aside (m[q]? = some x) := hx
                      have hec : 64 * y + 64 - 64 * y = 64 := by omega
                      rw [hec] at hcut
                      clear hx hec
                      go_upto_region 40 with (fail)
                      have hwr1 : IntKind.i64.wrap (64 * (y : Int)) = 64 * (y : Int) := IntWalk.i64_in _ (by omega)
                      have hwr2 : IntKind.i64.wrap (64 * (y : Int) + 64) = 64 * (y : Int) + 64 := IntWalk.i64_in _ (by omega)
                      go_region_held3 (fun w' => w'.cell? ⟨w4.heap.size, y, none⟩ = some (.slice (some ⟨ug, uo, none⟩) m.length uc) ∧ w'.cell? ⟨ug, uo + q, none⟩ = some (.int .u8 x.toNat)) (first | exact ⟨cell_sat _ _ _, cell_sat _ _ _⟩) (first
                        | (go_at_call 31; (with_reducible refine hfull.mono ?_); rintro e w9 ⟨a9, c9, rfl, hs9⟩; haveI := hs9.i; have hb1 := (Reads.rw _ _ (hs9.take (rw TB 1 (.slice ba 768 bc) (bys b)))).cut (64 * y) (64 * y + 64) (by omega) (by omega); rw [show 64 * y + 64 - 64 * y = 64 by omega] at hb1; have hsame := same_any _ _ _ _ w9 hb1 (Reads.rw _ _ hs9))
                        | (go_at_call 37; (with_reducible refine hsame.mono ?_); rintro e w10 ⟨rfl, n10, rfl⟩))
                      all_goals
                        clear hwr1 hwr2 hcut
                        go_wp2_with fail
                        go_roundg (50 - (q + 1))
                        case measure => have := B.out.1; omega
                        case rel =>
                          refine ⟨q + 1, decide ((b.drop (64 * y)).take 64 = List.replicate 64 x), rfl, by go_num, by omega, ⟨rfl, ?_⟩, (hs9.drop (rw TB 1 (.slice a9 64 c9) (bys (List.replicate 64 x)))).drewN n10⟩
                          rw [decide_eq_true_iff]
                          constructor
                          · exact fun h => ⟨q, x, by omega, HX2.out, h⟩
                          · rintro ⟨i, x', h3, h4, h5⟩
                            by_cases hiq : i = q
                            · subst hiq
                              have h6 := HX2.out
                              rw [h4] at h6
                              cases h6
                              exact h5
                            · exact absurd (B.out.2.2 ⟨i, x', by omega, h4, h5⟩) (by simp)
                  · have hq3 : ¬ (q : Int) < m.length := by omega
                    obtain rfl : q = m.length := by omega
                    have hmt : mt = true := by
                      refine B.out.2.2 ?_
                      obtain ⟨x, h3, h4⟩ := HX.out.1
                      obtain ⟨i, h5⟩ := List.mem_iff_getElem?.1 h3
                      exact ⟨i, x, (List.getElem?_eq_some_iff.1 h5).1, h5, h4⟩
                    subst hmt
                    clear B
                    go_wp2_with fail
                    go_roundg (12 - (y + 1))
                    case measure => have := A.out; omega
                    case rel =>
                      refine ⟨y + 1, by go_num, by omega, rfl, ?_⟩
                      rw [HX.out.2]
                      exact hs
              · have hlt2 : ¬ (y : Int) < 12 := by omega
                clear A
                go_wp2
                go_ret
                exact ⟨rfl, (hs.take (old w)).old_below⟩

end Go.Proofs.Ytjhkmmpgjiciiaa
