/-
  Lemmas for TreeReads. No condition (part 55)
-/
import Derived.Test.YteecnkneceemjaaGreatRa52
import Derived.Test.YteecnkneceemjaaGreatRa53
import Derived.Test.YteecnkneceemjaaGreatRa11
import Derived.Test.YteecnkneceemjaaGreatRa54
import Derived.Deep.RegionHeld2
set_option linter.unusedSimpArgs false
set_option linter.unusedVariables false
namespace Go.Proofs.YteecnkneceemjaaGreat
set_option linter.unusedSimpArgs false
set_option linter.unusedVariables false
open Go.RowKit Go.Sl Go.Dk Go.Tr
attribute [local go_sem ↓] Go.wp_at_zero Go.wp_at_succ
attribute [local go_sem] Go.Sl.cell_sat Go.Sl.frozen_sat
theorem spliceR_codes {l put : List Ent} {at_ n : Int} (h : ¬ (at_ < 0 ∨ n < 0 ∨ eBytes l < at_ ∨ eBytes l - at_ < n)) : (spliceR l at_ n put).1 = 0 ∨ (spliceR l at_ n put).1 = 1 ∨ (spliceR l at_ n put).1 = 10 ∨ (spliceR l at_ n put).1 = 11 := by
 have key : spliceR l at_ n put = if mayList put = false then (1, []) else if 1048576 < eBytes l - n + eBytes put then (10, []) else if n = 0 ∧ put = [] then (0, l) else if 1024 < (spliceL l at_ n put).length then (11, []) else (0, spliceL l at_ n put) := by
  unfold spliceR
  rw [if_neg h]
 rw [key]
 split
 · exact .inr (.inl rfl)
 split
 · exact .inr (.inr (.inl rfl))
 split
 · exact .inl rfl
 split
 · exact .inr (.inr (.inr rfl))
 · exact .inl rfl
theorem below_of {A R : Assn} {w w' : World} [h : SatI A w'] [t : Take A (old w) R] : Below w.heap.size w w' := (h.out.take (old w)).old_below
theorem buildR_many (n : Nat) (hn : n < 700) : buildR (manyL n 0) = (0, manyL n 0) := by
 unfold buildR
 rw [many_list n 0 (by omega) (by omega), if_neg (by simp), join_joined (many_joined n 0), if_neg (by rw [manyL_len]; omega)]
set_option maxRecDepth 100000 in
set_option maxHeartbeats 6400000 in
theorem treeReads_walk (a0 a1 a2 : Int) (put : List Ent) (al : Option Addr) (cap : Nat) (w : World) (hE : ReadsE (old w) (.slice al put.length cap) put) :
 Calls Tryz.prog 4 #[.int .i64 a0, .int .i64 a1, .int .i64 a2, .slice al put.length cap] w fun e w' => e = .returned (.bool true) ∧ Below w.heap.size w w' := by
 obtain ⟨np, hnp⟩ : ∃ n, put.length = n := ⟨_, rfl⟩
 have HE : Aside (ReadsE (old w) (.slice al put.length cap) put ∧ put.length = np) := ⟨hE, hnp⟩
 rw [hnp] at hE ⊢
 clear hE hnp
 go_enter Tryz.func4, Tryz.ntmps4
 go_wp2_with fail
 with_reducible refine Calls.mono (set_any 1073741824 3 (old w) w (Sat.old_self w) (by omega) (by omega) (by omega) (by omega)) ?_
 rintro e w1 ⟨b, h, rfl, q1⟩
 have hI0 := ts0_inv 1073741824 3 (by omega) (by omega) (by omega) (by omega) true (fun _ => by omega)
 have hroom0 := ts0_room 1073741824 3
 obtain ⟨s0, hs0⟩ : ∃ s, ts0 1073741824 3 = s := ⟨_, rfl⟩
 have hl0 : leftOps s0 = 67108850 := by rw [← hs0]; rfl
 have hc0 : s0.ck.cap = 3 := by rw [← hs0]; rfl
 rw [hs0] at q1 hI0 hroom0
 haveI := q1.i
 clear hs0
 go_wp2_with fail
 with_reducible refine Calls.mono (awake_any _ _ q1) ?_
 rintro e w2 ⟨rfl, q2⟩
 haveI := q2.i
 clear q1
 by_cases hbig : 20 < np
 · have hbig' : (20 : Int) < np := by omega
   go_wp2_with fail
   with_reducible refine Calls.mono (awake_any _ _ q2) ?_
   rintro e w3 ⟨rfl, q3⟩
   haveI := q3.i
   go_wp2
   go_ret
   exact ⟨rfl, below_of⟩
 · have hbig' : ¬ (20 : Int) < np := by omega
   obtain ⟨n0, hn0, hn1⟩ : ∃ n0 : Nat, a0 % 700 = (n0 : Int) ∧ n0 < 700 := ⟨(a0 % 700).toNat, by omega, by omega⟩
   have hmy := fun F w q => many_any' n0 0 F w q (by omega) (by omega)
   rw [show ((0 : Nat) : Int) = 0 from rfl] at hmy
   obtain ⟨m1, m2, m3⟩ := many_may n0 0 (by omega) (by omega)
   have hbr := buildR_many n0 hn1
   have hln := manyL_len n0 0
   have hjo := many_joined n0 0
   obtain ⟨l, hl⟩ : ∃ l, manyL n0 0 = l := ⟨_, rfl⟩
   rw [hl] at hmy m1 m2 m3 hbr hln hjo
   obtain ⟨z, hz⟩ : ∃ z, eBytes l = z := ⟨_, rfl⟩
   have HL : Aside (l.length = n0 ∧ Joined l ∧ (∀ x ∈ l, mayEnt x = true) ∧ eBytes l = z) := ⟨hln, hjo, m1, hz⟩
   rw [hz] at m2 m3
   clear hl hln hjo m1 hz
   go_wp2_with fail
   refine Calls.mono (pick_any a0 700 w2 (by omega) (by omega)) ?_
   rintro e w3 ⟨rfl, rfl⟩
   rw [hn0]
   haveI := q2.i
   clear hn0
   go_wp2_with fail
   with_reducible refine Calls.mono (hmy _ _ q2) ?_
   rintro e w4 ⟨am, cm, rfl, q4⟩
   haveI := q4.i
   have q5 : Sat (treeP h s0 * (rw TEn 4 (.slice am n0 cm) (ecs l) * (Sl.block b TBe [.pointer (some ⟨h.D, 0, none⟩), .pointer (some ⟨h.C, 0, none⟩), .pointer (some ⟨h.S, 0, none⟩), .pointer (some ⟨h.t, 0, none⟩)] * old w))) w4 := satI_eq (by ac_rfl)
   have hJ : ReadsE (rw TEn 4 (.slice am n0 cm) (ecs l)) (.slice am n0 cm) l := by
    have := ReadsR.rw q4 ⟨am, cm, rfl⟩ (n := n0)
    rw [← HL.out.1] at this ⊢
    exact this
   have HJ : Aside (ReadsE (rw TEn 4 (.slice am n0 cm) (ecs l)) (.slice am n0 cm) l) := hJ
   have hbd := fun F w q => bld_any h s0 l _ _ F w HJ.out q hI0 (by rw [HL.out.1]; omega) (by omega) (by omega)
   haveI := q5.i
   clear q2 q4 hJ hmy
   go_wp2_with fail
   with_reducible refine Calls.mono (hbd _ _ q5) ?_
   rintro e w5 ⟨r, s1, rfl, q6, nx1, rt1, -⟩
   rw [hbr] at rt1 ⊢
   have RT1 : Aside (Rt (nodeAt s1) r l) := rt1 rfl
   unfold vi2
   simp only
   haveI := q6.i
   have g1 := nx1.left
   have g2 := nx1.room
   have g3 := nx1.cap
   have hops : s1.ops + 3 ≤ opsMax := by unfold leftOps opsMax at *; omega
   have hev := fun F w q => evict_tany h s1 3 F w q nx1.inv hops (by omega) (by omega)
   rw [show ((3 : Nat) : Int) = 3 from rfl] at hev
   obtain ⟨-, hI2, le2⟩ := evicted_ok nx1.inv 3 hops
   have hl2 : leftOps s1 ≤ leftOps (s1.evicted 3) + 2 := by unfold leftOps TS.evicted; simp only; omega
   have hr2 : roomOf s1.sp = roomOf (s1.evicted 3).sp := rfl
   obtain ⟨s2, hs2⟩ : ∃ x, s1.evicted 3 = x := ⟨_, rfl⟩
   rw [hs2] at hev hI2 le2 hl2 hr2
   have RT2 : Aside (Rt (nodeAt s2) r l) := RT1.out.le le2
   have hl3 : 67000000 ≤ leftOps s2 := by omega
   have hr3 : 1000000 ≤ roomOf s2.sp := by omega
   clear q5 hbd rt1 g1 g2 g3 hops hl2 hr2 hs2 le2 RT1 hl0 hroom0 hc0 hI0 nx1 hbr
   go_wp2_with fail
   with_reducible refine Calls.mono (hev _ _ (takeI (treeP h s1))) ?_
   rintro e w6 ⟨rfl, q7⟩
   haveI := q7.i
   have q8 : Sat (treeP h s2 * (rw TEn 4 (.slice am n0 cm) (ecs l) * (Sl.block b TBe [.pointer (some ⟨h.D, 0, none⟩), .pointer (some ⟨h.C, 0, none⟩), .pointer (some ⟨h.S, 0, none⟩), .pointer (some ⟨h.t, 0, none⟩)] * old w))) w6 := keep4 _ _ _ _
   haveI := q8.i
   clear q6 q7 hev
   go_wp2_with fail
   go_loopg [13, 14] 10 (fun g t13 t14 wr => ∃ j : Nat, t13 = .int .i64 (1 + (j : Int)) ∧ t14 = .int .i64 ((n0 / 4 ^ j : Nat) : Int) ∧ Aside (g = 10 - j ∧ (j = 0 ∨ 4 ^ j ≤ n0)) ∧
    Sat (treeP h s2 * (rw TEn 4 (.slice am n0 cm) (ecs l) * (Sl.block b TBe [.pointer (some ⟨h.D, 0, none⟩), .pointer (some ⟨h.C, 0, none⟩), .pointer (some ⟨h.S, 0, none⟩), .pointer (some ⟨h.t, 0, none⟩)] * old w))) wr)
   case atStart => exact ⟨0, rfl, by simp, ⟨rfl, .inl rfl⟩, q8⟩
   case round =>
    obtain ⟨j, rfl, rfl, A, q9⟩ := hrel
    clear q8
    haveI := q9.i
    have hj4 := levels_low A.out.2 (by omega)
    by_cases hk : 4 ≤ n0 / 4 ^ j
    · have hk2 : n0 / 4 ^ (j + 1) = n0 / 4 ^ j / 4 := by rw [Nat.div_div_eq_div_mul, Nat.pow_succ]
      have hk3 : 4 ^ (j + 1) ≤ n0 := by
       rw [Nat.le_div_iff_mul_le (Nat.pow_pos (by omega))] at hk
       rw [Nat.pow_succ]
       omega
      have HK : Aside (n0 / 4 ^ (j + 1) = n0 / 4 ^ j / 4 ∧ 4 ^ (j + 1) ≤ n0) := ⟨hk2, hk3⟩
      obtain ⟨k, hkk⟩ : ∃ k, n0 / 4 ^ j = k := ⟨_, rfl⟩
      have HKK : Aside (n0 / 4 ^ j = k) := hkk
      have hkb : k ≤ n0 := by rw [← hkk]; exact Nat.div_le_self _ _
      rw [hkk] at hk ⊢
      have hk4 : ¬ (k : Int) < 4 := by omega
      have hk5 : (4 : Int) ≤ k := by omega
      have hq : (k : Int).tdiv 4 = ((k / 4 : Nat) : Int) := by rw [Int.tdiv_eq_ediv_of_nonneg (by omega)]; omega
      have hq3 : wrap64 ((k : Int) / 4) = ((k / 4 : Nat) : Int) := by unfold wrap64; omega
      have hw : IntKind.i64.wrap (1 + (j : Int) + 1) = 1 + (j : Int) + 1 := IntWalk.i64_in _ (by omega)
      clear hk2 hk3 hkk
      go_wp2
      go_roundg (10 - (j + 1))
      case measure => have := A.out.1; omega
      case rel => exact ⟨j + 1, by go_num, by rw [HK.out.1, HKK.out]; first | rfl | rw [hq3], ⟨rfl, .inr HK.out.2⟩, q9⟩
    · have HLV : Aside (∀ h : Nat, 2 * 4 ^ h ≤ l.length → h ≤ j) := levels_of (by
       rw [HL.out.1]
       have h1 : n0 / 4 ^ j < 4 := by omega
       rw [Nat.div_lt_iff_lt_mul (Nat.pow_pos (by omega))] at h1
       rw [Nat.pow_succ]
       omega)
      obtain ⟨k, hkk⟩ : ∃ k, n0 / 4 ^ j = k := ⟨_, rfl⟩
      rw [hkk] at hk ⊢
      have hk4 : (k : Int) < 4 := by omega
      have hk5 : ¬ (4 : Int) ≤ k := by omega
      clear hkk A
      have hsz := fun F w q => rsize_any l _ _ F w HJ.out q (by rw [HL.out.1]; omega) (fun x hx => by have := mayE_iff.1 (HL.out.2.2.1 x hx); omega)
      rw [HL.out.2.2.2] at hsz
      go_wp2_with fail
      with_reducible refine Calls.mono (hsz _ _ (takeI (rw TEn 4 (.slice am n0 cm) (ecs l)))) ?_
      rintro e w7 ⟨rfl, q10⟩
      haveI := q10.i
      have hw1 : IntKind.i64.wrap (z + 1) = z + 1 := IntWalk.i64_in _ (by omega)
      clear q9 hsz
      go_wp2_with fail
      refine Calls.mono (pick_any a1 (z + 1) w7 (by omega) (by omega)) ?_
      rintro e w8 ⟨rfl, rfl⟩
      obtain ⟨x, hx⟩ : ∃ x, a1 % (z + 1) = x := ⟨_, rfl⟩
      have hx1 : 0 ≤ x := by rw [← hx]; exact Int.emod_nonneg _ (by omega)
      have hx2 : x < z + 1 := by rw [← hx]; exact Int.emod_lt_of_pos _ (by omega)
      rw [hx]
      have q11 : Sat (treeP h s2 * (rw TEn 4 (.slice am n0 cm) (ecs l) * (Sl.block b TBe [.pointer (some ⟨h.D, 0, none⟩), .pointer (some ⟨h.C, 0, none⟩), .pointer (some ⟨h.S, 0, none⟩), .pointer (some ⟨h.t, 0, none⟩)] * old w))) w7 := satI_eq (by ac_rfl)
      haveI := q11.i
      clear q10 hx
      go_wp2_with fail
      with_reducible refine Calls.mono (reads_tany h s2 _ w7 q11) ?_
      rintro e w9 ⟨rfl, rfl⟩
      haveI := q11.i
      obtain ⟨rd2, hrd2⟩ : ∃ x, s2.ck.reads = x := ⟨_, rfl⟩
      have HRD2 : Aside (s2.ck.reads = rd2 ∧ s2.ck.reads = (s2.ck.reads.toNat : Int)) := ⟨hrd2, (reads_nat hI2.ts).1⟩
      obtain ⟨-, n22, n23⟩ := reads_nat hI2.ts
      rw [hrd2] at n22 n23 ⊢
      clear hrd2
      go_wp2_with fail
      with_reducible refine Calls.mono (seek_call h s2 r x l _ w7 q11 hI2 RT2.out j HLV.out (by omega)) ?_
      rintro e w10 ⟨xe, xa, er, s3, rfl, q12, nx3, hk3⟩
      unfold seekV
      haveI := q12.i
      have HX : Aside (SeekOk l x xe xa er) := hk3
      obtain ⟨bb, hb1, hb2⟩ : ∃ bb, ((er : Int) == 0) = bb ∧ decide (x < z) = bb := by
       refine ⟨_, rfl, ?_⟩
       have h3 := hk3
       unfold SeekOk at h3
       rw [HL.out.2.2.2] at h3
       by_cases hc : x < 0 ∨ z ≤ x
       · rw [if_pos hc] at h3
         rw [h3.2.2]
         simp
         omega
       · rw [if_neg hc] at h3
         rw [h3.1]
         simp
         omega
      obtain ⟨rd3, hrd3⟩ : ∃ x, s3.ck.reads = x := ⟨_, rfl⟩
      have HRD3 : Aside (s3.ck.reads = rd3 ∧ s3.ck.reads = (s3.ck.reads.toNat : Int)) := ⟨hrd3, (reads_nat nx3.inv.ts).1⟩
      obtain ⟨-, n32, n33⟩ := reads_nat nx3.inv.ts
      rw [hrd3] at n32 n33
      have hdf : rd3 - rd2 ≤ (j : Int) + 2 := by
       have h1 := HRD2.out
       have h2 := HRD3.out
       have h3 := nx3.reads
       omega
      have hdf2 : ¬ 2 * (1 + (j : Int) + 1) < rd3 - rd2 := by omega
      have hw2 : IntKind.i64.wrap (rd3 - rd2) = rd3 - rd2 := IntWalk.i64_in _ (by omega)
      have hw3 : IntKind.i64.wrap (1 + (j : Int) + 1) = 1 + (j : Int) + 1 := IntWalk.i64_in _ (by omega)
      have hw4 : IntKind.i64.wrap (2 * (1 + (j : Int) + 1)) = 2 * (1 + (j : Int) + 1) := IntWalk.i64_in _ (by omega)
      have hl4 : 66000000 ≤ leftOps s3 := by have := nx3.left; omega
      have hr4 : 1000000 ≤ roomOf s3.sp := by have := nx3.room; omega
      have hI3 := nx3.inv
      have RT3 : Aside (Rt (nodeAt s3) r l) := RT2.out.le nx3.le
      obtain ⟨e1, e2, e3, e4⟩ := xe
      simp only
      clear hk3 hrd3 q11 nx3
      go_wp2_with fail
      with_reducible refine Calls.mono (reads_tany h s3 _ _ (takeI (treeP h s3))) ?_
      rintro e w11 ⟨rfl, hw11⟩
      subst hw11
      rw [HRD3.out.1]
      have q13 : Sat (treeP h s3 * (old w * (Sl.block b TBe [.pointer (some ⟨h.D, 0, none⟩), .pointer (some ⟨h.C, 0, none⟩), .pointer (some ⟨h.S, 0, none⟩), .pointer (some ⟨h.t, 0, none⟩)] * 1))) (w10.alloc (.cells #[.int .i64 e1, .int .i64 e2, .int .i64 e3, .int .i64 e4] TEn)) := by
       have := keep3 (w := w10.alloc (.cells #[.int .i64 e1, .int .i64 e2, .int .i64 e3, .int .i64 e4] TEn)) (treeP h s3) (old w) (Sl.block b TBe [.pointer (some ⟨h.D, 0, none⟩), .pointer (some ⟨h.C, 0, none⟩), .pointer (some ⟨h.S, 0, none⟩), .pointer (some ⟨h.t, 0, none⟩)])
       rw [sep_comm (Sl.block b TBe _) 1, one_sep]
       exact this
      generalize w10.alloc (.cells #[.int .i64 e1, .int .i64 e2, .int .i64 e3, .int .i64 e4] TEn) = w12 at q13 ⊢
      haveI := q13.i
      clear q12
      go_wp2_with fail
      with_reducible refine Calls.mono (reads_tany h s3 _ _ q13) ?_
      rintro e w13 ⟨rfl, hw13⟩
      subst hw13
      rw [HRD3.out.1]
      haveI := q13.i
      have hv1 : IntKind.i64.wrap (z - x) = z - x := IntWalk.i64_in _ (by omega)
      have hv2 : IntKind.i64.wrap (z - x + 1) = z - x + 1 := IntWalk.i64_in _ (by omega)
      obtain ⟨c, hc⟩ : ∃ c, a2 % (z - x + 1) = c := ⟨_, rfl⟩
      have hc1 : 0 ≤ c := by rw [← hc]; exact Int.emod_nonneg _ (by omega)
      have hc2 : c < z - x + 1 := by rw [← hc]; exact Int.emod_lt_of_pos _ (by omega)
      have hpk := fun w => pick_any a2 (z - x + 1) w (by omega) (by omega)
      rw [hc] at hpk
      have hE2 : ReadsE (old w) (.slice al np cap) put := by have := HE.out.1; rw [HE.out.2] at this; exact this
      have hsp := fun F w' q => splice_call h s3 r x c l put _ (old w) F w' hE2 q (by have := HE.out.2; omega) hI3 RT3.out HL.out.2.1 j hj4 HLV.out (by omega) (by omega)
      have hcodes : (spliceR l x c put).1 = 0 ∨ (spliceR l x c put).1 = 1 ∨ (spliceR l x c put).1 = 10 ∨ (spliceR l x c put).1 = 11 := spliceR_codes (by rw [HL.out.2.2.2]; omega)
      clear hc
      go_upto_region 20 with (fail)
      go_region_held2 (fun w' => w'.cell? ⟨b, 3, none⟩ = some (.pointer (some ⟨h.t, 0, none⟩))) (first | exact cell_sat _ _ _) (first
       | (go_at_call 10
          refine Calls.mono (hpk _) ?_
          rintro e w14 ⟨rfl, hw14⟩
          subst hw14)
       | (go_at_call 21
          with_reducible refine Calls.mono (hsp _ _ (takeI2 (treeP h s3) (old w))) ?_
          rintro e w15 ⟨r2, s4, rfl, q14, nx4, -, -, -⟩
          unfold vi2
          haveI := q14.i))
      all_goals
       obtain ⟨rd4, hrd4⟩ : ∃ x, s4.ck.reads = x := ⟨_, rfl⟩
       have HRD4 : Aside (s4.ck.reads = rd4 ∧ s4.ck.reads = (s4.ck.reads.toNat : Int)) := ⟨hrd4, (reads_nat nx4.inv.ts).1⟩
       obtain ⟨-, n42, n43⟩ := reads_nat nx4.inv.ts
       rw [hrd4] at n42 n43
       have hdf3 : rd4 - rd3 ≤ 24 * (1 + (j : Int) + 1) := by
        have h1 := HRD4.out
        have h2 := HRD3.out
        have h3 := nx4.reads
        have h4 : 2 * (j * j) + 17 * j + 20 ≤ 24 * (1 + j + 1) := by
         have : j * j ≤ 4 * j := Nat.mul_le_mul_right j hj4
         omega
        omega
       have hw5 : IntKind.i64.wrap (rd4 - rd3) = rd4 - rd3 := IntWalk.i64_in _ (by omega)
       have hw6 : IntKind.i64.wrap (24 * (1 + (j : Int) + 1)) = 24 * (1 + (j : Int) + 1) := IntWalk.i64_in _ (by omega)
       clear hrd4 nx4 q13 hsp hpk
       rcases hcodes with hcd | hcd | hcd | hcd <;>
       · rw [hcd]
         go_wp2_with fail
         with_reducible refine Calls.mono (reads_tany h s4 _ _ (takeI (treeP h s4))) ?_
         rintro e w16 ⟨rfl, hw16⟩
         subst hw16
         rw [HRD4.out.1]
         go_wp2
         go_ret
         exact ⟨rfl, below_of⟩
end Go.Proofs.YteecnkneceemjaaGreat
