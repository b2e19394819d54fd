/-
  Of all versions the pages that are told are just those of their trees in the file in the form of the document, and a root that is none is refused. No condition. (part 26)
-/
import Derived.Test.YtfhbmblbidcmmaaGreatVa24
import Derived.Handy
set_option linter.unusedSimpArgs false
set_option linter.unusedVariables false
namespace Go.Proofs.YtfhbmblbidcmmaaGreat
set_option linter.unusedSimpArgs false
set_option linter.unusedVariables false
open Go.RowKit Go.Sl Go.Dk Go.Tr
attribute [local go_sem ↓] Go.wp_at_zero Go.wp_at_succ
attribute [local go_sem] Go.Sl.cell_sat Go.Sl.frozen_sat
set_option maxRecDepth 100000 in
set_option maxHeartbeats 1600000 in
theorem ndOpen_leaf (x : UInt8) (rest : List UInt8) (v : Value) (B F : Assn) (w : World) (hB : Reads B v (x :: rest)) (hs : Sat (B * F) w) (hlen : rest.length = x.toNat * 13) :
 Calls Tryz.prog 160 #[.int .i64 1, v] w fun e w' => ∃ v' G, e = .returned (.tuple #[v', .int .i64 (if may ⟨true, ues x.toNat rest, []⟩ then 0 else 4)]) ∧ ReadsN G v' (if may ⟨true, ues x.toNat rest, []⟩ then ⟨true, ues x.toNat rest, []⟩ else nd0) ∧ Sat (G * (B * F)) w' := by
 obtain ⟨i0, E⟩ := elemEn
 obtain ⟨va, vc, rfl, hvc, hvm⟩ := (hB F w hs).len
 have hx := x.toNat_lt
 obtain ⟨m, hm⟩ : ∃ m, x.toNat = m := ⟨_, rfl⟩
 rw [hm] at hx hlen ⊢
 obtain ⟨nd, hnd⟩ : ∃ nd, (⟨true, ues m rest, []⟩ : Nd) = nd := ⟨_, rfl⟩
 rw [hnd]
 obtain ⟨mr, hmr⟩ : ∃ mr, may nd = mr := ⟨_, rfl⟩
 rw [hmr]
 have HND : Aside ((⟨true, ues m rest, []⟩ : Nd) = nd) := hnd
 have HMR : Aside (may nd = mr) := hmr
 clear hnd hmr
 obtain ⟨l, hl⟩ : ∃ l, x :: rest = l := ⟨_, rfl⟩
 have hll : l.length = 1 + m * 13 := by rw [← hl, List.length_cons]; omega
 have h0 : lei ((l.drop 0).take 1) = m := by rw [← hl]; simp [lei, hm]
 rw [hl] at hB ⊢
 have HL : Aside (x :: rest = l) := hl
 have HB : Aside (Reads B (.slice va l.length vc) l) := hB
 have HLL : Aside (l.length = 1 + m * 13) := hll
 have hmod : (m : Int) * 13 ≤ 3315 := by omega
 have hll2 : l.length ≤ 1099511627776 := by omega
 haveI := hs.i
 have hon := fun F w h => leOn_any (.slice va l.length vc) l B F w hB h hll2
 have hint := fun R a c F w h => rdInt_go R a c l 0 1 F w h hll2 (by omega) (by omega) (by omega)
 rw [h0] at hint
 have hleft := fun R a c F w h => rdLeft_any R a c l 1 F w h (by omega) hll2
 have e13 : ((l.length - 1 : Nat) : Int) = (m : Int) * 13 := by omega
 rw [e13] at hleft
 clear hl hB hll h0 hlen hm e13
 go_enter Tryz.func160, Tryz.ntmps160
 go_wp2_with fail
 refine (hon _ _ (takeI B)).mono ?_
 rintro e w1 ⟨R, a, c, rfl, hs1⟩
 haveI := hs1.i
 clear hs hon
 go_wp2_with fail
 refine (hint R a c _ _ (takeI (rdA R a c l 0))).mono ?_
 rintro e w2 ⟨rfl, hs2⟩
 haveI := hs2.i
 clear hs1 hint
 have h1 : Sat (rdA R a c l 1 * (B * (Sl.block w.heap.size TNd [.bool false, .slice none 0 0, .slice none 0 0] * F))) w2 := hs2
 clear hs2 this
 haveI := h1.i
 go_wp2_with fail
 refine (hleft R a c _ _ (takeI (rdA R a c l 1))).mono ?_
 rintro e w3 ⟨rfl, hs3⟩
 clear hleft
 obtain ⟨N, hN⟩ : ∃ N, w2.heap.size = N := ⟨_, rfl⟩
 rw [hN] at hs3 ⊢
 clear hN h1 this
 haveI := hs3.i
 go_wp2_with fail
 go_loopg [49] m (fun g t49 wr => ∃ (i : Nat) (aE : Option Addr) (cE : Nat), t49 = .int .i64 i ∧ i ≤ m ∧ Aside (g = m - i) ∧
  Sat (rw TEn 4 (.slice aE i cE) (ecs (ues i rest)) * (rdA R a c l (1 + 13 * i) * (B * (Sl.block N TNd [.bool true, .slice aE i cE, .slice none 0 0] * (Sl.block w.heap.size TNd [.bool false, .slice none 0 0, .slice none 0 0] * F))))) wr)
 case atStart => exact ⟨0, none, 0, rfl, by omega, rfl, Sat.rw_nil (satI_eq (by ac_rfl))⟩
 case round =>
  obtain ⟨i, aE, cE, rfl, hi, A, hsr⟩ := hrel
  haveI := hsr.i
  clear hs3
  by_cases hlt : i < m
  · have hlt' : (i : Int) < m := by omega
    obtain ⟨p, hp⟩ : ∃ p, 1 + 13 * i = p := ⟨_, rfl⟩
    have hu := ue_at x rest i
    rw [HL.out, hp] at hu
    have HU : Aside (ecs (ues (i + 1) rest) = ecs (ues i rest) ++ erow (ue ((rest.drop (13 * i)).take 13))) := (by rw [ues_snoc]; simp [ecs] : _ = _)
    obtain ⟨y, hy⟩ : ∃ y, ue ((rest.drop (13 * i)).take 13) = y := ⟨_, rfl⟩
    rw [hy] at hu
    have HY : Aside (ecs (ues (i + 1) rest) = ecs (ues i rest) ++ erow y) := (by rw [HU.out, hy] : _ = _)
    rw [hp] at hsr
    have q1 := rdInt_go R a c l p 1 _ wr (hsr.take (rdA R a c l p)) hll2 (by have := HLL.out; omega) (by omega) (by omega)
    have q2 := fun F w h => four_any R a c l (p + 1) F w h hll2 (by have := HLL.out; omega)
    have q3 := fun F w h => four_any R a c l (p + 1 + 4) F w h hll2 (by have := HLL.out; omega)
    have q4 := fun F w h => four_any R a c l (p + 1 + 4 + 4) F w h hll2 (by have := HLL.out; omega)
    obtain ⟨y1, y2, y3, y4⟩ := y
    simp only [Ent.mk.injEq] at hu
    obtain ⟨u1, u2, u3, u4⟩ := hu
    rw [← u1] at q1
    rw [← u2] at q2
    rw [← u3] at q3
    rw [← u4] at q4
    have hpl : p + 13 = 1 + 13 * (i + 1) := by omega
    have HP : Aside (p + 1 + 4 + 4 + 4 = 1 + 13 * (i + 1)) := (by omega : _ = _)
    clear hy HU u1 u2 u3 u4 hp hpl
    go_wp2_with fail
    refine q1.mono ?_
    rintro e w4 ⟨rfl, hs4⟩
    haveI := hs4.i
    clear q1 hsr
    go_wp2_with fail
    refine (q2 _ _ (takeI (rdA R a c l (p + 1)))).mono ?_
    rintro e w5 ⟨rfl, hs5⟩
    haveI := hs5.i
    clear q2 hs4
    go_wp2_with fail
    refine (q3 _ _ (takeI (rdA R a c l (p + 1 + 4)))).mono ?_
    rintro e w6 ⟨rfl, hs6⟩
    have hs6' : Sat (rw TEn 4 (.slice aE i cE) (ecs (ues i rest)) * (rdA R a c l (p + 1 + 4 + 4) * (B * (Sl.block N TNd [.bool true, .slice aE i cE, .slice none 0 0] * (Sl.block w.heap.size TNd [.bool false, .slice none 0 0, .slice none 0 0] * F))))) w6 := hs6.eq (by ac_rfl)
    clear q3 hs5 hs6
    haveI := hs6'.i
    have HQ : Aside (∀ F w, Sat (rdA R a c l (p + 1 + 4 + 4) * F) w → Calls Tryz.prog 189 #[.pointer (some ⟨R, 0, none⟩)] w fun e w' => e = .returned (.int .i64 y4) ∧ Sat (rdA R a c l (p + 1 + 4 + 4 + 4) * F) w') := q4
    clear q4
    go_upto_region 17 with (fail)
    go_region_law first
     | (go_simp; go_at_call 189; refine (HQ.out _ _ (takeI (rdA R a c l (p + 1 + 4 + 4)))).mono ?_; rintro e w7 ⟨rfl, hs7⟩; haveI := hs7.i)
     | (refine step_append_sl E rfl (.tmp 63) (.tmp 71) rfl rfl rfl (takeI (rw TEn 4 (.slice aE i cE) (ecs (ues i rest)))) (Src.new (b := w7.heap.size) (e := TEn) (s := 4) (vs := [.int .i64 y1, .int .i64 y2, .int .i64 y3, .int .i64 y4]) (takeI _) rfl (by intro u hu; simp at hu; rcases hu with rfl | rfl | rfl | rfl <;> rfl)) (by unfold maxLen; omega) (by omega) ?_; intro a9 c9 w9 hs9 hnil; clear hnil; haveI := hs9.i)
    all_goals
     go_wp2_with fail
     go_roundg (m - (i + 1))
     case measure => have := A.out; omega
     case rel =>
      refine ⟨i + 1, a9, c9, by go_num, by omega, rfl, ?_⟩
      rw [HY.out, ← HP.out]
      exact satI_weak (C := Sl.block w7.heap.size TEn [.int .i64 y1, .int .i64 y2, .int .i64 y3, .int .i64 y4]) (by unfold erow; ac_rfl)
  · have hlt' : ¬ (i : Int) < m := by omega
    obtain rfl : i = m := by omega
    have hue := ues_len rest i
    have hN : ReadsN (rw TEn 4 (.slice aE i cE) (ecs (ues i rest))) (.agg #[.bool true, .slice aE i cE, .slice none 0 0]) ⟨true, ues i rest, []⟩ :=
     ⟨_, _, rfl, by have := ReadsR.rw (hsr.take (rw TEn 4 (.slice aE i cE) (ecs (ues i rest)))) ⟨aE, cE, rfl⟩ (n := i); show ReadsR 4 _ _ (ues i rest).length _; rw [hue]; exact this, ReadsR.nil 4 _⟩
    rw [HND.out] at hN
    have HN : Aside (ReadsN (rw TEn 4 (.slice aE i cE) (ecs (ues i rest))) (.agg #[.bool true, .slice aE i cE, .slice none 0 0]) nd) := hN
    have hmay := fun F w h => may_any nd _ _ F w hN h (by rw [← HND.out]; simp only; omega) (by rw [← HND.out]; simp)
    rw [HMR.out] at hmay
    clear hue hN
    go_wp2_with fail
    refine (hmay _ _ (takeI (rw TEn 4 (.slice aE i cE) (ecs (ues i rest))))).mono ?_
    rintro e w4 ⟨rfl, hs4⟩
    haveI := hs4.i
    clear hmay hsr
    cases mr with
    | true =>
      go_wp2
      go_returns
      exact ⟨_, rfl, _, HN.out, keep3 (rw TEn 4 (.slice aE i cE) (ecs (ues i rest))) B F⟩
    | false =>
      go_wp2
      go_returns
      exact ⟨_, rfl, 1, ⟨_, _, rfl, ReadsR.nil 4 _, ReadsR.nil 4 _⟩, by rw [one_sep]; exact keep2 B F⟩
end Go.Proofs.YtfhbmblbidcmmaaGreat
namespace Go.Proofs.YtfhbmblbidcmmaaGreat
set_option linter.unusedSimpArgs false
set_option linter.unusedVariables false
open Go.RowKit Go.Sl Go.Dk Go.Tr
attribute [local go_sem ↓] Go.wp_at_zero Go.wp_at_succ
attribute [local go_sem] Go.Sl.cell_sat Go.Sl.frozen_sat
set_option maxRecDepth 100000 in
set_option maxHeartbeats 1600000 in
theorem ndOpen_inner (x : UInt8) (rest : List UInt8) (v : Value) (B F : Assn) (w : World) (hB : Reads B v (x :: rest)) (hs : Sat (B * F) w) (hlen : rest.length = x.toNat * 16) :
 Calls Tryz.prog 160 #[.int .i64 2, v] w fun e w' => ∃ v' G, e = .returned (.tuple #[v', .int .i64 (if may ⟨false, [], uks x.toNat rest⟩ then 0 else 4)]) ∧ ReadsN G v' (if may ⟨false, [], uks x.toNat rest⟩ then ⟨false, [], uks x.toNat rest⟩ else nd0) ∧ Sat (G * (B * F)) w' := by
 obtain ⟨i0, E⟩ := elemKd
 obtain ⟨va, vc, rfl, hvc, hvm⟩ := (hB F w hs).len
 have hx := x.toNat_lt
 obtain ⟨m, hm⟩ : ∃ m, x.toNat = m := ⟨_, rfl⟩
 rw [hm] at hx hlen ⊢
 obtain ⟨nd, hnd⟩ : ∃ nd, (⟨false, [], uks m rest⟩ : Nd) = nd := ⟨_, rfl⟩
 rw [hnd]
 obtain ⟨mr, hmr⟩ : ∃ mr, may nd = mr := ⟨_, rfl⟩
 rw [hmr]
 have HND : Aside ((⟨false, [], uks m rest⟩ : Nd) = nd) := hnd
 have HMR : Aside (may nd = mr) := hmr
 clear hnd hmr
 obtain ⟨l, hl⟩ : ∃ l, x :: rest = l := ⟨_, rfl⟩
 have hll : l.length = 1 + m * 16 := by rw [← hl, List.length_cons]; omega
 have h0 : lei ((l.drop 0).take 1) = m := by rw [← hl]; simp [lei, hm]
 rw [hl] at hB ⊢
 have HL : Aside (x :: rest = l) := hl
 have HB : Aside (Reads B (.slice va l.length vc) l) := hB
 have HLL : Aside (l.length = 1 + m * 16) := hll
 have hmod : (m : Int) * 16 ≤ 4080 := by omega
 have hll2 : l.length ≤ 1099511627776 := by omega
 haveI := hs.i
 have hon := fun F w h => leOn_any (.slice va l.length vc) l B F w hB h hll2
 have hint := fun R a c F w h => rdInt_go R a c l 0 1 F w h hll2 (by omega) (by omega) (by omega)
 rw [h0] at hint
 have hleft := fun R a c F w h => rdLeft_any R a c l 1 F w h (by omega) hll2
 have e16 : ((l.length - 1 : Nat) : Int) = (m : Int) * 16 := by omega
 rw [e16] at hleft
 clear hl hB hll h0 hlen hm e16
 go_enter Tryz.func160, Tryz.ntmps160
 go_wp2_with fail
 refine (hon _ _ (takeI B)).mono ?_
 rintro e w1 ⟨R, a, c, rfl, hs1⟩
 haveI := hs1.i
 clear hs hon
 go_wp2_with fail
 refine (hint R a c _ _ (takeI (rdA R a c l 0))).mono ?_
 rintro e w2 ⟨rfl, hs2⟩
 haveI := hs2.i
 clear hs1 hint
 have h1 : Sat (rdA R a c l 1 * (B * (Sl.block w.heap.size TNd [.bool false, .slice none 0 0, .slice none 0 0] * F))) w2 := hs2
 clear hs2 this
 haveI := h1.i
 go_wp2_with fail
 refine (hleft R a c _ _ (takeI (rdA R a c l 1))).mono ?_
 rintro e w3 ⟨rfl, hs3⟩
 clear hleft
 obtain ⟨N, hN⟩ : ∃ N, w2.heap.size = N := ⟨_, rfl⟩
 rw [hN] at hs3 ⊢
 clear hN h1 this
 haveI := hs3.i
 go_wp2_with fail
 go_loopg [49] m (fun g t49 wr => ∃ (i : Nat) (aE : Option Addr) (cE : Nat), t49 = .int .i64 i ∧ i ≤ m ∧ Aside (g = m - i) ∧
  Sat (rw TKd 4 (.slice aE i cE) (kcs (uks i rest)) * (rdA R a c l (1 + 16 * i) * (B * (Sl.block N TNd [.bool false, .slice none 0 0, .slice aE i cE] * (Sl.block w.heap.size TNd [.bool false, .slice none 0 0, .slice none 0 0] * F))))) wr)
 case atStart => exact ⟨0, none, 0, rfl, by omega, rfl, Sat.rw_nil (satI_eq (by ac_rfl))⟩
 case round =>
  obtain ⟨i, aE, cE, rfl, hi, A, hsr⟩ := hrel
  haveI := hsr.i
  clear hs3
  by_cases hlt : i < m
  · have hlt' : (i : Int) < m := by omega
    obtain ⟨p, hp⟩ : ∃ p, 1 + 16 * i = p := ⟨_, rfl⟩
    have hu := uk_at x rest i
    rw [HL.out, hp] at hu
    have HU : Aside (kcs (uks (i + 1) rest) = kcs (uks i rest) ++ krow (uk ((rest.drop (16 * i)).take 16))) := (by rw [uks_snoc]; simp [kcs] : _ = _)
    obtain ⟨y, hy⟩ : ∃ y, uk ((rest.drop (16 * i)).take 16) = y := ⟨_, rfl⟩
    rw [hy] at hu
    have HY : Aside (kcs (uks (i + 1) rest) = kcs (uks i rest) ++ krow y) := (by rw [HU.out, hy] : _ = _)
    rw [hp] at hsr
    have q1 := four_any R a c l p _ wr (hsr.take (rdA R a c l p)) hll2 (by have := HLL.out; omega)
    have q2 := fun F w h => four_any R a c l (p + 4) F w h hll2 (by have := HLL.out; omega)
    have q3 := fun F w h => four_any R a c l (p + 4 + 4) F w h hll2 (by have := HLL.out; omega)
    have q4 := fun F w h => four_any R a c l (p + 4 + 4 + 4) F w h hll2 (by have := HLL.out; omega)
    obtain ⟨y1, y2, y3, y4⟩ := y
    simp only [Kd.mk.injEq] at hu
    obtain ⟨u1, u2, u3, u4⟩ := hu
    rw [← u1] at q1
    rw [← u2] at q2
    rw [← u3] at q3
    rw [← u4] at q4
    have hpl : p + 16 = 1 + 16 * (i + 1) := by omega
    have HP : Aside (p + 4 + 4 + 4 + 4 = 1 + 16 * (i + 1)) := (by omega : _ = _)
    clear hy HU u1 u2 u3 u4 hp hpl
    go_wp2_with fail
    refine q1.mono ?_
    rintro e w4 ⟨rfl, hs4⟩
    haveI := hs4.i
    clear q1 hsr
    go_wp2_with fail
    refine (q2 _ _ (takeI (rdA R a c l (p + 4)))).mono ?_
    rintro e w5 ⟨rfl, hs5⟩
    haveI := hs5.i
    clear q2 hs4
    go_wp2_with fail
    refine (q3 _ _ (takeI (rdA R a c l (p + 4 + 4)))).mono ?_
    rintro e w6 ⟨rfl, hs6⟩
    have hs6' : Sat (rw TKd 4 (.slice aE i cE) (kcs (uks i rest)) * (rdA R a c l (p + 4 + 4 + 4) * (B * (Sl.block N TNd [.bool false, .slice none 0 0, .slice aE i cE] * (Sl.block w.heap.size TNd [.bool false, .slice none 0 0, .slice none 0 0] * F))))) w6 := hs6.eq (by ac_rfl)
    clear q3 hs5 hs6
    haveI := hs6'.i
    have HQ : Aside (∀ F w, Sat (rdA R a c l (p + 4 + 4 + 4) * F) w → Calls Tryz.prog 189 #[.pointer (some ⟨R, 0, none⟩)] w fun e w' => e = .returned (.int .i64 y4) ∧ Sat (rdA R a c l (p + 4 + 4 + 4 + 4) * F) w') := q4
    clear q4
    go_upto_region 21 with (fail)
    go_region_law first
     | (go_simp; go_at_call 189; refine (HQ.out _ _ (takeI (rdA R a c l (p + 4 + 4 + 4)))).mono ?_; rintro e w7 ⟨rfl, hs7⟩; haveI := hs7.i)
     | (refine step_append_sl E rfl (.tmp 81) (.tmp 88) rfl rfl rfl (takeI (rw TKd 4 (.slice aE i cE) (kcs (uks i rest)))) (Src.new (b := w7.heap.size) (e := TKd) (s := 4) (vs := [.int .i64 y1, .int .i64 y2, .int .i64 y3, .int .i64 y4]) (takeI _) rfl (by intro u hu; simp at hu; rcases hu with rfl | rfl | rfl | rfl <;> rfl)) (by unfold maxLen; omega) (by omega) ?_; intro a9 c9 w9 hs9 hnil; clear hnil; haveI := hs9.i)
    all_goals
     go_wp2_with fail
     go_roundg (m - (i + 1))
     case measure => have := A.out; omega
     case rel =>
      refine ⟨i + 1, a9, c9, by go_num, by omega, rfl, ?_⟩
      rw [HY.out, ← HP.out]
      exact satI_weak (C := Sl.block w7.heap.size TKd [.int .i64 y1, .int .i64 y2, .int .i64 y3, .int .i64 y4]) (by unfold krow; ac_rfl)
  · have hlt' : ¬ (i : Int) < m := by omega
    obtain rfl : i = m := by omega
    have hue := uks_len rest i
    have hN : ReadsN (rw TKd 4 (.slice aE i cE) (kcs (uks i rest))) (.agg #[.bool false, .slice none 0 0, .slice aE i cE]) ⟨false, [], uks i rest⟩ :=
     ⟨_, _, rfl, ReadsR.nil 4 _, by have := ReadsR.rw (hsr.take (rw TKd 4 (.slice aE i cE) (kcs (uks i rest)))) ⟨aE, cE, rfl⟩ (n := i); show ReadsR 4 _ _ (uks i rest).length _; rw [hue]; exact this⟩
    rw [HND.out] at hN
    have HN : Aside (ReadsN (rw TKd 4 (.slice aE i cE) (kcs (uks i rest))) (.agg #[.bool false, .slice none 0 0, .slice aE i cE]) nd) := hN
    have hmay := fun F w h => may_any nd _ _ F w hN h (by rw [← HND.out]; simp) (by rw [← HND.out]; simp only; omega)
    rw [HMR.out] at hmay
    clear hue hN
    go_wp2_with fail
    refine (hmay _ _ (takeI (rw TKd 4 (.slice aE i cE) (kcs (uks i rest))))).mono ?_
    rintro e w4 ⟨rfl, hs4⟩
    haveI := hs4.i
    clear hmay hsr
    cases mr with
    | true =>
      go_wp2
      go_returns
      exact ⟨_, rfl, _, HN.out, keep3 (rw TKd 4 (.slice aE i cE) (kcs (uks i rest))) B F⟩
    | false =>
      go_wp2
      go_returns
      exact ⟨_, rfl, 1, ⟨_, _, rfl, ReadsR.nil 4 _, ReadsR.nil 4 _⟩, by rw [one_sep]; exact keep2 B F⟩
end Go.Proofs.YtfhbmblbidcmmaaGreat
namespace Go.Proofs.YtfhbmblbidcmmaaGreat
set_option linter.unusedSimpArgs false
set_option linter.unusedVariables false
open Go.RowKit Go.Sl Go.Dk Go.Tr
attribute [local go_sem ↓] Go.wp_at_zero Go.wp_at_succ
attribute [local go_sem] Go.Sl.cell_sat Go.Sl.frozen_sat
def NoOut (B F : Assn) (r : Nd × Int) (e : Ending) (w' : World) : Prop := ∃ v' G, e = .returned (.tuple #[v', .int .i64 r.2]) ∧ ReadsN G v' r.1 ∧ Sat (G * (B * F)) w'
theorem no_zero {B F : Assn} {w : World} (hs : Sat (B * F) w) : NoOut B F (nd0, 4) (.returned (.tuple #[.agg #[.bool false, .slice none 0 0, .slice none 0 0], .int .i64 4])) w :=
 ⟨_, 1, rfl, ⟨_, _, rfl, ReadsR.nil 4 _, ReadsR.nil 4 _⟩, by rw [one_sep]; exact hs⟩
set_option maxHeartbeats 800000 in
theorem ndOpen_none (kind : Int) (v : Value) (B F : Assn) (w : World) (hB : Reads B v []) (hs : Sat (B * F) w) :
 Calls Tryz.prog 160 #[.int .i64 kind, v] w (NoOut B F (nd0, 4)) := by
 obtain ⟨va, vc, rfl, hvc, hvm⟩ := (hB F w hs).len
 haveI := hs.i
 have hon := fun F w h => leOn_any (.slice va ([] : List UInt8).length vc) [] B F w hB h (by simp)
 have hint := fun R a c F w h => rdInt_no R a c [] 0 1 F w h (by simp) (by simp) (by simp) (by omega) (by omega)
 go_enter Tryz.func160, Tryz.ntmps160
 go_wp2_with fail
 refine (hon _ _ (takeI B)).mono ?_
 rintro e w1 ⟨R, a, c, rfl, hs1⟩
 haveI := hs1.i
 clear hs hon
 go_wp2_with fail
 refine (hint R a c _ _ (takeI (rdA R a c [] 0))).mono ?_
 rintro e w2 ⟨rfl, hs2⟩
 haveI := hs2.i
 clear hs1 hint
 go_wp2
 go_returns
 exact no_zero (keep2 B F)
set_option maxHeartbeats 800000 in
theorem ndOpen_kind (kind : Int) (x : UInt8) (rest : List UInt8) (v : Value) (B F : Assn) (w : World) (hB : Reads B v (x :: rest)) (hs : Sat (B * F) w) (hl : (x :: rest).length ≤ 1099511627776) (h1 : kind ≠ 1) (h2 : kind ≠ 2) :
 Calls Tryz.prog 160 #[.int .i64 kind, v] w (NoOut B F (nd0, 4)) := by
 obtain ⟨va, vc, rfl, hvc, hvm⟩ := (hB F w hs).len
 haveI := hs.i
 have hon := fun F w h => leOn_any (.slice va (x :: rest).length vc) (x :: rest) B F w hB h hl
 have hint := fun R a c F w h => rdInt_go R a c (x :: rest) 0 1 F w h hl (by simp) (by omega) (by omega)
 obtain ⟨m, hm⟩ : ∃ m, lei (((x :: rest).drop 0).take 1) = m := ⟨_, rfl⟩
 rw [hm] at hint
 have g1 : (kind != 1) = true := by simp [h1]
 have g2 : (kind != 2) = true := by simp [h2]
 clear hm
 go_enter Tryz.func160, Tryz.ntmps160
 go_wp2_with fail
 refine (hon _ _ (takeI B)).mono ?_
 rintro e w1 ⟨R, a, c, rfl, hs1⟩
 haveI := hs1.i
 clear hs hon
 go_wp2_with fail
 refine (hint R a c _ _ (takeI (rdA R a c (x :: rest) 0))).mono ?_
 rintro e w2 ⟨rfl, hs2⟩
 haveI := hs2.i
 clear hs1 hint
 go_wp2
 go_returns
 exact no_zero (keep2 B F)
set_option maxHeartbeats 1600000 in
theorem ndOpen_len (kind each : Int) (x : UInt8) (rest : List UInt8) (v : Value) (B F : Assn) (w : World) (hB : Reads B v (x :: rest)) (hs : Sat (B * F) w) (hl : (x :: rest).length ≤ 1099511627776) (hk : kind = 1 ∧ each = 13 ∨ kind = 2 ∧ each = 16) (h : (rest.length : Int) ≠ x.toNat * each) :
 Calls Tryz.prog 160 #[.int .i64 kind, v] w (NoOut B F (nd0, 4)) := by
 obtain ⟨va, vc, rfl, hvc, hvm⟩ := (hB F w hs).len
 haveI := hs.i
 have hon := fun F w h => leOn_any (.slice va (x :: rest).length vc) (x :: rest) B F w hB h hl
 have hint := fun R a c F w h => rdInt_go R a c (x :: rest) 0 1 F w h hl (by simp) (by omega) (by omega)
 have hleft := fun R a c F w h => rdLeft_any R a c (x :: rest) 1 F w h (by simp) hl
 have hm : lei (((x :: rest).drop 0).take 1) = x.toNat := by simp [lei]
 have hx := x.toNat_lt
 rw [hm] at hint
 have e1 : (x :: rest).length - 1 = rest.length := by simp
 rw [e1] at hleft
 obtain ⟨l, hll⟩ : ∃ l, x :: rest = l := ⟨_, rfl⟩
 obtain ⟨m, hmm⟩ : ∃ m, x.toNat = m := ⟨_, rfl⟩
 obtain ⟨n, hn⟩ : ∃ n, rest.length = n := ⟨_, rfl⟩
 rw [hll] at hon hint hleft hB hl ⊢
 rw [hmm] at hint h hx
 rw [hn] at hleft h
 clear hm e1 hll hmm hn
 rcases hk with ⟨rfl, rfl⟩ | ⟨rfl, rfl⟩
 · have g : ((n : Int) != (m : Int) * 13) = true := by simp only [bne_iff_ne, ne_eq]; exact h
   have hmod : (m : Int) * 13 ≤ 3315 := by omega
   go_enter Tryz.func160, Tryz.ntmps160
   go_wp2_with fail
   refine (hon _ _ (takeI B)).mono ?_
   rintro e w1 ⟨R, a, c, rfl, hs1⟩
   haveI := hs1.i
   clear hs hon
   go_wp2_with fail
   refine (hint R a c _ _ (takeI (rdA R a c l 0))).mono ?_
   rintro e w2 ⟨rfl, hs2⟩
   have hs2' : Sat (rdA R a c l 1 * (B * (Sl.block w.heap.size TNd [.bool false, .slice none 0 0, .slice none 0 0] * F))) w2 := hs2
   clear hs1 hint hs2
   haveI := hs2'.i
   go_wp2_with fail
   refine (hleft R a c _ _ (takeI (rdA R a c l 1))).mono ?_
   rintro e w3 ⟨rfl, hs3⟩
   haveI := hs3.i
   clear hs2' hleft
   go_wp2
   go_returns
   exact no_zero (keep2 B F)
 · have g : ((n : Int) != (m : Int) * 16) = true := by simp only [bne_iff_ne, ne_eq]; exact h
   have hmod : (m : Int) * 16 ≤ 4080 := by omega
   go_enter Tryz.func160, Tryz.ntmps160
   go_wp2_with fail
   refine (hon _ _ (takeI B)).mono ?_
   rintro e w1 ⟨R, a, c, rfl, hs1⟩
   haveI := hs1.i
   clear hs hon
   go_wp2_with fail
   refine (hint R a c _ _ (takeI (rdA R a c l 0))).mono ?_
   rintro e w2 ⟨rfl, hs2⟩
   have hs2' : Sat (rdA R a c l 1 * (B * (Sl.block w.heap.size TNd [.bool false, .slice none 0 0, .slice none 0 0] * F))) w2 := hs2
   clear hs1 hint hs2
   haveI := hs2'.i
   go_wp2_with fail
   refine (hleft R a c _ _ (takeI (rdA R a c l 1))).mono ?_
   rintro e w3 ⟨rfl, hs3⟩
   haveI := hs3.i
   clear hs2' hleft
   go_wp2
   go_returns
   exact no_zero (keep2 B F)
theorem ndOpen_any (kind : Int) (b : List UInt8) (v : Value) (B F : Assn) (w : World) (hB : Reads B v b) (hs : Sat (B * F) w) (hl : b.length ≤ 1099511627776) :
 Calls Tryz.prog 160 #[.int .i64 kind, v] w (NoOut B F (ndOpen kind b)) := by
 cases b with
 | nil => exact ndOpen_none kind v B F w hB hs
 | cons x rest =>
   unfold ndOpen
   simp only
   by_cases hk : kind ≠ 1 ∧ kind ≠ 2
   · rw [if_pos hk]
     exact ndOpen_kind kind x rest v B F w hB hs hl hk.1 hk.2
   · rw [if_neg hk]
     by_cases h1 : kind = 1
     · subst h1
       simp only [if_true]
       by_cases hn : rest.length ≠ x.toNat * 13
       · rw [if_pos hn]
         exact ndOpen_len 1 13 x rest v B F w hB hs hl (.inl ⟨rfl, rfl⟩) (by omega)
       · rw [if_neg hn]
         refine (ndOpen_leaf x rest v B F w hB hs (by omega)).mono ?_
         rintro e w' ⟨v', G, rfl, h1, h2⟩
         cases hm : may ⟨true, ues x.toNat rest, []⟩ with
         | true => rw [hm] at h1; rw [if_pos rfl] at h1 ⊢; exact ⟨v', G, by simp, h1, h2⟩
         | false => rw [hm] at h1; rw [if_neg (by simp)] at h1 ⊢; exact ⟨v', G, by simp, h1, h2⟩
     · have h2 : kind = 2 := by omega
       subst h2
       simp only [show ¬ (2 : Int) = 1 by omega, if_false]
       by_cases hn : rest.length ≠ x.toNat * 16
       · rw [if_pos hn]
         exact ndOpen_len 2 16 x rest v B F w hB hs hl (.inr ⟨rfl, rfl⟩) (by omega)
       · rw [if_neg hn]
         refine (ndOpen_inner x rest v B F w hB hs (by omega)).mono ?_
         rintro e w' ⟨v', G, rfl, h1, h2⟩
         cases hm : may ⟨false, [], uks x.toNat rest⟩ with
         | true => rw [hm] at h1; rw [if_pos rfl] at h1 ⊢; exact ⟨v', G, by simp, h1, h2⟩
         | false => rw [hm] at h1; rw [if_neg (by simp)] at h1 ⊢; exact ⟨v', G, by simp, h1, h2⟩
end Go.Proofs.YtfhbmblbidcmmaaGreat
