/-
  Versions are found sound just if they are in the words of the document. No condition. (part 19)
-/
import Derived.Test.YtfhbmblbidcmmaaGreatWa18
import Derived.Test.YtfhbmblbidcmmaaGreatWa8
import Derived.Deep.RegionLaw
import Derived.Test.YtfhbmblbidcmmaaGreatWa14
import Derived.BigQuiet
set_option linter.unusedSimpArgs false
set_option linter.unusedVariables false
namespace Go.Proofs.YtfhbmblbidcmmaaGreat
set_option linter.unusedSimpArgs false
set_option linter.unusedVariables false
open Go.RowKit Go.Sl Go.Dk Go.Tr
attribute [local go_sem ↓] Go.wp_at_zero Go.wp_at_succ
attribute [local go_sem] Go.Sl.cell_sat Go.Sl.frozen_sat
theorem parts2 {g e : Nat} {v1 v2 : Value} {l1 l2 : List UInt8} {B F : Assn} {w : World} (h1 : Reads B v1 l1) (h2 : Reads B v2 l2) (hs : Sat (block g e [v1, v2] * (B * F)) w) : PartsAt w (.slice (some ⟨g, 0, none⟩) 2 2) [l1, l2] := by
 refine ⟨some ⟨g, 0, none⟩, 2, rfl, by simp, fun i l hl => ?_⟩
 have hb := hs.take B
 have hs2 := hs
 simp only [block, Sl.cells, sep_one] at hs2
 match i, hl with
 | 0, hl => cases hl; exact ⟨g, 0, v1, rfl, hs2.c g 0, h1 _ _ hb⟩
 | 1, hl => cases hl; exact ⟨g, 0, v2, rfl, hs2.c g 1, h2 _ _ hb⟩
 | i + 2, hl => cases hl
set_option maxRecDepth 100000 in
set_option maxHeartbeats 3200000 in
theorem pageOpen_any (no : Int) (v : Value) (b : List UInt8) (B F : Assn) (w : World) (hB : Reads B v b) (hs : Sat (B * F) w) (hbl : b.length ≤ 1099511627776) :
 Calls Tryz.prog 159 #[.int .i64 no, v] w fun e w' => ∃ a c, e = .returned (.tuple #[.int .i64 (pageOpen no b).1, .slice a (pageOpen no b).2.1.length c, .int .i64 (pageOpen no b).2.2]) ∧ Sat (rw TB 1 (.slice a (pageOpen no b).2.1.length c) (bys (pageOpen no b).2.1) * (B * F)) w' := by
 obtain ⟨i0, E⟩ := elemB
 obtain ⟨va, vc, rfl, hvc, hvm⟩ := (hB F w hs).len
 obtain ⟨⟨zk, zb, ze⟩, hz⟩ : ∃ r, pageOpen no b = r := ⟨_, rfl⟩
 rw [hz]
 unfold pageOpen at hz
 by_cases hno : no < 0 ∨ 1048576 ≤ no
 · rw [if_pos hno] at hz
   obtain ⟨rfl, rfl, rfl⟩ : zk = 0 ∧ zb = [] ∧ ze = 1 := by simpa [eq_comm] using hz
   clear hz
   by_cases g1 : no < 0
   · have g1' : decide (no < 0) = true := by simpa using g1
     go_enter Tryz.func159, Tryz.ntmps159
     go_wp2
     go_ret3
     exact ⟨none, 0, rfl, by simpa [bys] using hs.rw_nil⟩
   · have g1' : decide (no < 0) = false := by simpa using g1
     have g2 : 1048576 ≤ no := by omega
     go_enter Tryz.func159, Tryz.ntmps159
     go_wp2
     go_ret3
     exact ⟨none, 0, rfl, by simpa [bys] using hs.rw_nil⟩
 · rw [if_neg hno] at hz
   obtain ⟨no, rfl⟩ := Int.eq_ofNat_of_zero_le (show 0 ≤ no by omega)
   have g2 : ¬ (1048576 : Int) ≤ no := by omega
   by_cases hlen : b.length ≠ 256
   · rw [if_pos hlen] at hz
     obtain ⟨rfl, rfl, rfl⟩ : zk = 0 ∧ zb = [] ∧ ze = 3 := by simpa [eq_comm] using hz
     have hl' : ((b.length : Int) != 256) = true := by simp; omega
     clear hz hno
     go_enter Tryz.func159, Tryz.ntmps159
     go_wp2
     go_ret3
     exact ⟨none, 0, rfl, by simpa [bys] using hs.rw_nil⟩
   · have hlen' : b.length = 256 := by omega
     rw [if_neg hlen] at hz
     rw [hlen'] at hB hvc ⊢
     have HB : Aside (Reads B (.slice va 256 vc) b) := hB
     have HLN : Aside (b.length = 256) := hlen'
     have r1 : Reads B (.slice (cutA va vc 8 1) 4 (vc - 8)) ((b.drop 8).take 4) := fun F w h => (hB F w h).cut 8 12 (by omega) (by omega)
     have r2 : Reads B (.slice (cutA va vc 0 1) 8 vc) (b.take 8) := Reads.to hB 8 (by omega)
     have r3 : Reads B (.slice (cutA va vc 12 1) 244 (vc - 12)) (b.drop 12) := Reads.from hB 12 (by omega)
     have hli := leInt_any _ _ w (r1 F w hs) (by simp; omega) (by simp; omega)
     have hc1 : ∀ w, (Instr.sliceAt 26 (.slice va 256 vc) (some (.int .i64 8)) (some (.int .i64 12)) none).run Tryz.prog w = .ok (.slice (cutA va vc 8 1) 4 (vc - 8)) w := fun w => at_cut E 8 12 (by omega) (by omega) w
     have hc2 : ∀ w, (Instr.sliceAt 26 (.slice va 256 vc) none (some (.int .i64 8)) none).run Tryz.prog w = .ok (.slice (cutA va vc 0 1) 8 vc) w := fun w => at_to E 8 (by omega) w
     have hc3 : ∀ w, (Instr.sliceAt 26 (.slice va 256 vc) (some (.int .i64 12)) none none).run Tryz.prog w = .ok (.slice (cutA va vc 12 1) 244 (vc - 12)) w := fun w => at_from E 12 (by omega) w
     have hcr := crc_lt (b.take 8 ++ b.drop 12)
     have HCR : Aside (∀ (g e : Nat) (F : Assn) (w : World), Sat (block g e [.slice (cutA va vc 0 1) 8 vc, .slice (cutA va vc 12 1) 244 (vc - 12)] * (B * F)) w → Calls Tryz.prog 183 #[.slice (some ⟨g, 0, none⟩) 2 2] w fun e w' => e = .returned (.int .u32 (crc (b.take 8 ++ b.drop 12) : Nat)) ∧ w = w') := fun g e F w h => by
      have := crcOf_any _ _ w (parts2 r2 r3 h)
      simpa using this
     obtain ⟨cr, hcre⟩ : ∃ z, crc (b.take 8 ++ b.drop 12) = z := ⟨_, rfl⟩
     obtain ⟨su, hsue⟩ : ∃ z, lei ((b.drop 8).take 4) = z := ⟨_, rfl⟩
     rw [hcre] at hcr HCR hz
     rw [hsue] at hli hz
     have HZ : Aside _ := hz
     clear hz r1 r2 r3 hcre hsue hno hlen hlen' hB
     haveI := hs.i
     go_enter Tryz.func159, Tryz.ntmps159
     go_wp2_with fail
     refine hli.mono ?_
     rintro e w1 ⟨rfl, rfl⟩
     clear hli
     go_upto_region 6 with (fail)
     have hw1 : IntKind.i64.wrap (cr : Int) = cr := IntWalk.i64_in _ (by omega)
     obtain ⟨bz, hbz⟩ : ∃ q : Bool, ((su : Int) != (cr : Int)) = q := ⟨_, rfl⟩
     have HBZ : Aside (((su : Int) != (cr : Int)) = bz) := hbz
     clear hbz
     go_cut [38] (fun t38 wx => t38 = .bool bz ∧ Sat (B * F) wx)
     case first =>
      go_region_law first
       | (go_simp; go_at_call 183; refine (HCR.out w.heap.size _ _ _ (satI : Sat (block w.heap.size _ _ * (B * F)) _)).mono ?_; rintro e w3 ⟨rfl, rfl⟩)
      all_goals
       go_wp2_with fail
       go_meet
       exact ⟨by rw [HBZ.out], satI_weak (C := block w.heap.size _ _) (sep_comm _ _)⟩
     case rest =>
      obtain ⟨rfl, hs1⟩ := hcut
      clear hs hw1 HCR hc1 hc2 hc3 this
      have hz := HZ.out
      by_cases hsc : su ≠ cr
      · rw [if_pos hsc] at hz
        obtain ⟨rfl, rfl, rfl⟩ : zk = 0 ∧ zb = [] ∧ ze = 5 := by simpa [eq_comm] using hz
        obtain rfl : bz = true := by rw [← HBZ.out]; simp; omega
        clear hz HZ hsc hcr HBZ
        go_wp2
        go_ret3
        exact ⟨none, 0, rfl, by simpa [bys] using hs1.rw_nil⟩
      · rw [if_neg hsc] at hz
        obtain rfl : bz = false := by rw [← HBZ.out]; simp; omega
        have hl2 := HLN.out
        have hon := leOn_any _ b B F _ HB.out hs1 (by omega)
        have HZ2 : Aside _ := hz
        clear hz HZ hsc hl2 hcr HBZ
        go_wp2_with fail
        refine hon.mono ?_
        rintro e w2 ⟨R, ra, rc, rfl, hs2⟩
        clear hon hs1
        have hl2 := HLN.out
        have h3 := rdInt_go R ra rc b 0 1 _ w2 hs2 (by omega) (by omega) (by omega) (by omega)
        have h4 := fun w h => rdZeros_go R ra rc b 1 1 (B * F) w h (by omega) (by omega)
        clear hl2
        rw [List.drop_zero, Nat.zero_add] at h3
        go_wp2_with fail
        refine h3.mono ?_
        rintro e w3 ⟨rfl, hs3⟩
        clear h3 hs2
        have hl3 := HLN.out
        have hk8 := lei_lt (b.take 1)
        have hk9 : lei (b.take 1) < 256 := by
         have : (b.take 1).length = 1 := by simp; omega
         rw [this] at hk8; omega
        obtain ⟨kk, hkk⟩ : ∃ q, lei (b.take 1) = q := ⟨_, rfl⟩
        rw [hkk] at hk9 ⊢
        have hz := HZ2.out
        rw [hkk] at hz
        obtain ⟨bq, hbq⟩ : ∃ q : Bool, ((b.drop 1).take 1).any (· != 0) = q := ⟨_, rfl⟩
        rw [hbq] at h4
        have hbq2 : (b.drop 1).take 1 ≠ [0] ↔ bq = true := by
         have hl1 : ((b.drop 1).take 1).length = 1 := by simp; omega
         obtain ⟨y, hy⟩ : ∃ y, (b.drop 1).take 1 = [y] := List.length_eq_one_iff.1 hl1
         rw [← hbq, hy]
         simp
        clear HZ2 hk8 hkk hbq
        cases bq with
        | true =>
          rw [if_pos (.inl (hbq2.2 rfl))] at hz
          obtain ⟨rfl, rfl, rfl⟩ : zk = 0 ∧ zb = [] ∧ ze = 4 := by simpa [eq_comm] using hz
          have h5 := fun w h => rdInt_go R ra rc b 1 2 (B * F) w h (by omega) (by omega) (by omega) (by omega)
          have h6 := fun w h => rdInt_go R ra rc b (1 + 2) 4 (B * F) w h (by omega) (by omega) (by omega) (by omega)
          obtain ⟨n5, hn5⟩ : ∃ q, lei ((b.drop 1).take 2) = q := ⟨_, rfl⟩
          obtain ⟨n6, hn6⟩ : ∃ q, lei ((b.drop (1 + 2)).take 4) = q := ⟨_, rfl⟩
          rw [hn5] at h5
          rw [hn6] at h6
          clear hz hbq2 hn5 hn6 hl3
          have H4 := h4 w3 hs3
          simp only [if_true] at H4
          clear h4
          go_wp2_with fail
          refine H4.mono ?_
          rintro e w4 ⟨rfl, hs4⟩
          have H5 := h5 w4 hs4
          clear H4 hs3 h5
          go_wp2_with fail
          refine H5.mono ?_
          rintro e w5 ⟨rfl, hs5⟩
          have H6 := h6 w5 hs5
          clear H5 hs4 h6
          go_wp2_with fail
          refine H6.mono ?_
          rintro e w6 ⟨rfl, hs6⟩
          go_wp2
          go_ret3
          exact ⟨none, 0, rfl, by simpa [bys] using (Sat.right hs6).rw_nil⟩
        | false =>
          have hne : ¬ ((b.drop 1).take 1 ≠ [0]) := fun h => by have := hbq2.1 h; cases this
          have h5 := fun w h => rdInt_go R ra rc b 2 2 (B * F) w h (by omega) (by omega) (by omega) (by omega)
          have h6 := fun w h => rdInt_go R ra rc b (2 + 2) 4 (B * F) w h (by omega) (by omega) (by omega) (by omega)
          obtain ⟨nn, hnn⟩ : ∃ q, lei ((b.drop 2).take 2) = q := ⟨_, rfl⟩
          obtain ⟨ow, how⟩ : ∃ q, lei ((b.drop 4).take 4) = q := ⟨_, rfl⟩
          rw [hnn] at h5 hz
          rw [show 2 + 2 = 4 from rfl, how] at h6
          rw [how] at hz
          have H4 := h4 w3 hs3
          simp only [Bool.false_eq_true, if_false] at H4
          obtain ⟨bd, hbd⟩ : ∃ q : Bool, decide (kk < 1 ∨ 9 < kk ∨ 244 < nn ∨ ow ≠ no) = q := ⟨_, rfl⟩
          have HBD : Aside (decide (kk < 1 ∨ 9 < kk ∨ 244 < nn ∨ ow ≠ no) = bd) := hbd
          have HZ3 : Aside ((if kk < 1 ∨ 9 < kk ∨ 244 < nn ∨ ow ≠ no then (0, [], 4) else if (b.drop (12 + nn)).any (· != 0) then (0, [], 4) else ((kk : Int), (b.drop 12).take nn, 0)) = (zk, zb, ze)) := (by
           rw [← hz]
           by_cases hbad : kk < 1 ∨ 9 < kk ∨ 244 < nn ∨ ow ≠ no
           · rw [if_pos hbad, if_pos (.inr (by omega))]
           · have hb2 : ¬ ((b.drop 1).take 1 ≠ [0] ∨ kk < 1 ∨ 9 < kk ∨ 244 < nn ∨ (ow : Int) ≠ (no : Int)) := by
              rintro (h | h)
              · exact hne h
              · omega
             rw [if_neg hbad, if_neg hb2] : _ = _)
          clear hz hbq2 hnn how hl3 h4 hbd hne
          go_wp2_with fail
          refine H4.mono ?_
          rintro e w4 ⟨rfl, hs4⟩
          have H5 := h5 w4 hs4
          clear H4 hs3 h5
          go_wp2_with fail
          refine H5.mono ?_
          rintro e w5 ⟨rfl, hs5⟩
          have H6 := h6 w5 hs5
          clear H5 hs4 h6
          go_wp2_with fail
          refine H6.mono ?_
          rintro e w6 ⟨rfl, hs6⟩
          clear H6 hs5
          go_upto_region 13 with (fail)
          go_cut [76] (fun t76 wx => t76 = .bool bd ∧ w6 = wx)
          case first =>
           by_cases c1 : kk < 1
           · have HB1 : Aside (bd = true) := (by rw [← HBD.out]; simp [c1] : _ = _)
             have c1' : decide ((kk : Int) < 1) = true := by simp; omega
             clear c1
             go_wp2_with fail
             go_meet
             exact ⟨by rw [HB1.out], rfl⟩
           · have c1' : decide ((kk : Int) < 1) = false := by simp; omega
             by_cases c2 : 9 < kk
             · have HB1 : Aside (bd = true) := (by rw [← HBD.out]; simp [c2] : _ = _)
               have c2' : decide ((9 : Int) < kk) = true := by simp; omega
               clear c1 c2
               go_wp2_with fail
               go_meet
               exact ⟨by rw [HB1.out], rfl⟩
             · have c2' : decide ((9 : Int) < kk) = false := by simp; omega
               by_cases c3 : 244 < nn
               · have HB1 : Aside (bd = true) := (by rw [← HBD.out]; simp [c3] : _ = _)
                 have c3' : decide ((244 : Int) < nn) = true := by simp; omega
                 clear c1 c2 c3
                 go_wp2_with fail
                 go_meet
                 exact ⟨by rw [HB1.out], rfl⟩
               · have c3' : decide ((244 : Int) < nn) = false := by simp; omega
                 by_cases c4 : ow ≠ no
                 · have HB1 : Aside (bd = true) := (by rw [← HBD.out]; simp [c4] : _ = _)
                   have c4' : ((ow : Int) != (no : Int)) = true := by simp; omega
                   clear c1 c2 c3 c4
                   go_wp2_with fail
                   go_meet
                   exact ⟨by rw [HB1.out], rfl⟩
                 · have HB1 : Aside (bd = false) := (by rw [← HBD.out]; simp; omega : _ = _)
                   have c4' : ((ow : Int) != (no : Int)) = false := by simp; omega
                   clear c1 c2 c3 c4
                   go_wp2_with fail
                   go_meet
                   exact ⟨by rw [HB1.out], rfl⟩
          case rest =>
           obtain ⟨rfl, rfl⟩ := hcut
           have hz := HZ3.out
           cases bd with
           | true =>
             rw [if_pos (of_decide_eq_true HBD.out)] at hz
             obtain ⟨rfl, rfl, rfl⟩ : zk = 0 ∧ zb = [] ∧ ze = 4 := by simpa [eq_comm] using hz
             clear hz HZ3
             go_wp2
             go_ret3
             exact ⟨none, 0, rfl, by simpa [bys] using (Sat.right hs6).rw_nil⟩
           | false =>
             have hbad := of_decide_eq_false HBD.out
             rw [if_neg hbad] at hz
             have hl3 := HLN.out
             have hnn : nn ≤ 244 := by omega
             have h7 := rdTake_go R ra rc b 8 4 (B * F) w6 hs6 (by omega) (by omega)
             have h8 := fun F w h => rdTake_go R ra rc b 12 nn F w h (by omega) (by omega)
             have h9 := fun F w h => rdLeft_any R ra rc b (12 + nn) F w h (by omega) (by omega)
             have h10 := fun F w h => rdZeros_go R ra rc b (12 + nn) (256 - (12 + nn)) F w h (by omega) (by omega)
             rw [hl3] at h9
             have e10 : (b.drop (12 + nn)).take (256 - (12 + nn)) = b.drop (12 + nn) := List.take_of_length_le (by simp; omega)
             rw [e10] at h10
             have HLT : Aside (((b.drop 12).take nn).length = nn) := (by simp; omega : _ = _)
             obtain ⟨az, haz⟩ : ∃ q : Bool, (b.drop (12 + nn)).any (· != 0) = q := ⟨_, rfl⟩
             rw [haz] at h10 hz
             have HZ4 : Aside ((if az then (0, [], 4) else ((kk : Int), (b.drop 12).take nn, 0)) = (zk, zb, ze)) := hz
             clear hz HZ3 hbad hl3 e10 haz
             go_wp2_with fail
             refine h7.mono ?_
             rintro e w7 ⟨b7, d7, rfl, hs7⟩
             clear h7 hs6
             have H8 := h8 (rw TB 1 (.slice b7 4 d7) (bys ((b.drop 8).take 4)) * (B * F)) w7 (hs7.eq (by ac_rfl))
             clear h8 hs7
             go_wp2_with fail
             refine H8.mono ?_
             rintro e w8 ⟨b8, d8, rfl, hs8⟩
             clear H8
             have hs9 : Sat (rdA R ra rc b (12 + nn) * (rw TB 1 (.slice b8 nn d8) (bys ((b.drop 12).take nn)) * (rw TB 1 (.slice b7 4 d7) (bys ((b.drop 8).take 4)) * (B * F)))) w8 := hs8.eq (by ac_rfl)
             clear hs8
             have H9 := h9 _ w8 hs9
             clear h9
             go_wp2_with fail
             refine H9.mono ?_
             rintro e w9 ⟨rfl, hs10⟩
             clear H9 hs9
             have H10 := h10 _ w9 hs10
             clear h10
             go_wp2_with fail
             refine H10.mono ?_
             rintro e w10 ⟨rfl, hs11⟩
             clear H10 hs10
             have hz := HZ4.out
             cases az with
             | true =>
               obtain ⟨rfl, rfl, rfl⟩ : zk = 0 ∧ zb = [] ∧ ze = 4 := by simpa [eq_comm] using hz
               clear hz HZ4
               go_wp2
               go_ret3
               exact ⟨none, 0, rfl, by simpa [bys] using (Sat.weak (A := B * F) (B := rdA R ra rc b (12 + nn) * (rw TB 1 (.slice b8 nn d8) (bys ((b.drop 12).take nn)) * rw TB 1 (.slice b7 4 d7) (bys ((b.drop 8).take 4)))) (hs11.eq (by show rdA R ra rc b (12 + nn) * _ = _; ac_rfl))).rw_nil⟩
             | false =>
               obtain ⟨rfl, rfl, rfl⟩ : zk = kk ∧ zb = (b.drop 12).take nn ∧ ze = 0 := by simpa [eq_comm] using hz
               clear hz HZ4
               go_wp2
               go_ret3
               refine ⟨b8, d8, by rw [HLT.out]; rfl, ?_⟩
               rw [HLT.out]
               exact Sat.weak (B := rdA R ra rc b (12 + nn + (256 - (12 + nn))) * rw TB 1 (.slice b7 4 d7) (bys ((b.drop 8).take 4))) (hs11.eq (by show rdA R ra rc b (12 + nn + (256 - (12 + nn))) * _ = _; ac_rfl))
end Go.Proofs.YtfhbmblbidcmmaaGreat
namespace Go.Proofs.YtfhbmblbidcmmaaGreat
set_option linter.unusedSimpArgs false
set_option linter.unusedVariables false
open Go.RowKit Go.Sl Go.Dk Go.Tr
attribute [local go_sem ↓] Go.wp_at_zero Go.wp_at_succ
attribute [local go_sem] Go.Sl.cell_sat Go.Sl.frozen_sat
def erow (x : Ent) : List Value := [.int .i64 x.src, .int .i64 x.pos, .int .i64 x.len, .int .i64 x.lines]
def krow (k : Kd) : List Value := [.int .i64 k.page, .int .i64 k.bytes, .int .i64 k.lines, .int .i64 k.scraps]
abbrev entV (x : Ent) : Value := .agg #[.int .i64 x.src, .int .i64 x.pos, .int .i64 x.len, .int .i64 x.lines]
abbrev kidV (k : Kd) : Value := .agg #[.int .i64 k.page, .int .i64 k.bytes, .int .i64 k.lines, .int .i64 k.scraps]
theorem counted_any (a b : Int) (w : World) : Calls Tryz.prog 190 #[.int .i64 a, .int .i64 b] w fun e w' => e = .returned (.bool (decide (-1 ≤ a ∧ a ≤ b))) ∧ w = w' := by
 by_cases h1 : -1 ≤ a
 · have h1' : decide (-1 ≤ a) = true := by simpa using h1
   by_cases h2 : a ≤ b
   · have h2' : decide (a ≤ b) = true := by simpa using h2
     have HR : Aside (decide (-1 ≤ a ∧ a ≤ b) = true) := (by simp [h1, h2] : _ = _)
     go_enter Tryz.func190, Tryz.ntmps190
     go_wp2
     go_ret
     first | exact ⟨by rw [HR.out]; rfl, rfl⟩ | exact ⟨rfl, rfl⟩
   · have h2' : decide (a ≤ b) = false := by simpa using h2
     have HR : Aside (decide (-1 ≤ a ∧ a ≤ b) = false) := (by simp [h1, h2] : _ = _)
     go_enter Tryz.func190, Tryz.ntmps190
     go_wp2
     go_ret
     first | exact ⟨by rw [HR.out]; rfl, rfl⟩ | exact ⟨rfl, rfl⟩
 · have h1' : decide (-1 ≤ a) = false := by simpa using h1
   have HR : Aside (decide (-1 ≤ a ∧ a ≤ b) = false) := (by simp [h1] : _ = _)
   go_enter Tryz.func190, Tryz.ntmps190
   go_wp2
   go_ret
   first | exact ⟨by rw [HR.out]; rfl, rfl⟩ | exact ⟨rfl, rfl⟩
set_option maxHeartbeats 1600000 in
theorem mayEnt_any (s o l n : Int) (F : Assn) (w : World) (hs : Sat F w) :
 Calls Tryz.prog 162 #[entV ⟨s, o, l, n⟩] w fun e w' => e = .returned (.bool (mayEnt ⟨s, o, l, n⟩)) ∧ Sat F w' := by
 by_cases h0 : s = 0
 · subst h0
   by_cases c0 : 0 ≤ o
   · have d0 : decide (0 ≤ o) = true := by simpa using c0
     by_cases c1 : o ≤ 16777216
     · have d1 : decide (o ≤ 16777216) = true := by simpa using c1
       by_cases c2 : 1 ≤ l
       · have d2 : decide (1 ≤ l) = true := by simpa using c2
         by_cases c3 : l ≤ 16777216 - o
         · have d3 : decide (l ≤ 16777216 - o) = true := by simpa using c3
           by_cases c4 : l ≤ 1048576
           · have d4 : decide (l ≤ 1048576) = true := by simpa using c4
             have hco := fun w => counted_any n l w
             by_cases c5 : -1 ≤ n ∧ n ≤ l
             · rw [decide_eq_true c5] at hco
               have hco := fun w => hco w
               by_cases c6 : n = -1
               · subst c6
                 have HR : Aside (mayEnt ⟨0, o, l, -1⟩ = true) := (by unfold mayEnt; simp; omega : _ = _)
                 haveI := hs.i
                 go_enter Tryz.func162, Tryz.ntmps162
                 go_wp2_with (go_at_call 190; refine (hco _).mono ?_; rintro e w' ⟨rfl, rfl⟩)
                 go_ret
                 exact ⟨by rw [HR.out]; rfl, (hs.alloc #[.int .i64 0, .int .i64 o, .int .i64 l, .int .i64 (-1)] 77 |>.alloc #[.int .i64 0, .int .i64 o, .int .i64 l] 75).right.right⟩
               · have d6 : (n == -1) = false := by simpa using c6
                 have HR : Aside (mayEnt ⟨0, o, l, n⟩ = false) := (by unfold mayEnt; simp; omega : _ = _)
                 haveI := hs.i
                 go_enter Tryz.func162, Tryz.ntmps162
                 go_wp2_with (go_at_call 190; refine (hco _).mono ?_; rintro e w' ⟨rfl, rfl⟩)
                 go_ret
                 exact ⟨by rw [HR.out]; rfl, (hs.alloc #[.int .i64 0, .int .i64 o, .int .i64 l, .int .i64 n] 77 |>.alloc #[.int .i64 0, .int .i64 o, .int .i64 l] 75).right.right⟩
             · rw [decide_eq_false c5] at hco
               have HR : Aside (mayEnt ⟨0, o, l, n⟩ = false) := (by unfold mayEnt; simp; omega : _ = _)
               haveI := hs.i
               go_enter Tryz.func162, Tryz.ntmps162
               go_wp2_with (go_at_call 190; refine (hco _).mono ?_; rintro e w' ⟨rfl, rfl⟩)
               go_ret
               exact ⟨by rw [HR.out]; rfl, (hs.alloc #[.int .i64 0, .int .i64 o, .int .i64 l, .int .i64 n] 77 |>.alloc #[.int .i64 0, .int .i64 o, .int .i64 l] 75).right.right⟩
           · have d4 : decide (l ≤ 1048576) = false := by simpa using c4
             have HR : Aside (mayEnt ⟨0, o, l, n⟩ = false) := (by unfold mayEnt; simp; omega : _ = _)
             haveI := hs.i
             go_enter Tryz.func162, Tryz.ntmps162
             go_wp2
             go_ret
             exact ⟨by rw [HR.out]; rfl, (hs.alloc #[.int .i64 0, .int .i64 o, .int .i64 l, .int .i64 n] 77 |>.alloc #[.int .i64 0, .int .i64 o, .int .i64 l] 75).right.right⟩
         · have d3 : decide (l ≤ 16777216 - o) = false := by simpa using c3
           have HR : Aside (mayEnt ⟨0, o, l, n⟩ = false) := (by unfold mayEnt; simp; omega : _ = _)
           haveI := hs.i
           go_enter Tryz.func162, Tryz.ntmps162
           go_wp2
           go_ret
           exact ⟨by rw [HR.out]; rfl, (hs.alloc #[.int .i64 0, .int .i64 o, .int .i64 l, .int .i64 n] 77 |>.alloc #[.int .i64 0, .int .i64 o, .int .i64 l] 75).right.right⟩
       · have d2 : decide (1 ≤ l) = false := by simpa using c2
         have HR : Aside (mayEnt ⟨0, o, l, n⟩ = false) := (by unfold mayEnt; simp; omega : _ = _)
         haveI := hs.i
         go_enter Tryz.func162, Tryz.ntmps162
         go_wp2
         go_ret
         exact ⟨by rw [HR.out]; rfl, (hs.alloc #[.int .i64 0, .int .i64 o, .int .i64 l, .int .i64 n] 77 |>.alloc #[.int .i64 0, .int .i64 o, .int .i64 l] 75).right.right⟩
     · have d1 : decide (o ≤ 16777216) = false := by simpa using c1
       have HR : Aside (mayEnt ⟨0, o, l, n⟩ = false) := (by unfold mayEnt; simp; omega : _ = _)
       haveI := hs.i
       go_enter Tryz.func162, Tryz.ntmps162
       go_wp2
       go_ret
       exact ⟨by rw [HR.out]; rfl, (hs.alloc #[.int .i64 0, .int .i64 o, .int .i64 l, .int .i64 n] 77 |>.alloc #[.int .i64 0, .int .i64 o, .int .i64 l] 75).right.right⟩
   · have d0 : decide (0 ≤ o) = false := by simpa using c0
     have HR : Aside (mayEnt ⟨0, o, l, n⟩ = false) := (by unfold mayEnt; simp; omega : _ = _)
     haveI := hs.i
     go_enter Tryz.func162, Tryz.ntmps162
     go_wp2
     go_ret
     exact ⟨by rw [HR.out]; rfl, (hs.alloc #[.int .i64 0, .int .i64 o, .int .i64 l, .int .i64 n] 77 |>.alloc #[.int .i64 0, .int .i64 o, .int .i64 l] 75).right.right⟩
 · have e0 : (s == 0) = false := by simpa using h0
   by_cases h1 : s = 1
   · subst h1
     by_cases c0 : 0 ≤ o
     · have d0 : decide (0 ≤ o) = true := by simpa using c0
       by_cases c1 : o ≤ 16777216
       · have d1 : decide (o ≤ 16777216) = true := by simpa using c1
         by_cases c2 : 1 ≤ l
         · have d2 : decide (1 ≤ l) = true := by simpa using c2
           by_cases c3 : l ≤ 16777216 - o
           · have d3 : decide (l ≤ 16777216 - o) = true := by simpa using c3
             by_cases c4 : l ≤ 1048576
             · have d4 : decide (l ≤ 1048576) = true := by simpa using c4
               have hco := fun w => counted_any n l w
               by_cases c5 : -1 ≤ n ∧ n ≤ l
               · rw [decide_eq_true c5] at hco
                 have hco := fun w => hco w
                 have HR : Aside (mayEnt ⟨1, o, l, n⟩ = true) := (by unfold mayEnt; simp; omega : _ = _)
                 haveI := hs.i
                 go_enter Tryz.func162, Tryz.ntmps162
                 go_wp2_with (go_at_call 190; refine (hco _).mono ?_; rintro e w' ⟨rfl, rfl⟩)
                 go_ret
                 exact ⟨by rw [HR.out]; rfl, (hs.alloc #[.int .i64 1, .int .i64 o, .int .i64 l, .int .i64 n] 77 |>.alloc #[.int .i64 1, .int .i64 o, .int .i64 l] 75).right.right⟩
               · rw [decide_eq_false c5] at hco
                 have HR : Aside (mayEnt ⟨1, o, l, n⟩ = false) := (by unfold mayEnt; simp; omega : _ = _)
                 haveI := hs.i
                 go_enter Tryz.func162, Tryz.ntmps162
                 go_wp2_with (go_at_call 190; refine (hco _).mono ?_; rintro e w' ⟨rfl, rfl⟩)
                 go_ret
                 exact ⟨by rw [HR.out]; rfl, (hs.alloc #[.int .i64 1, .int .i64 o, .int .i64 l, .int .i64 n] 77 |>.alloc #[.int .i64 1, .int .i64 o, .int .i64 l] 75).right.right⟩
             · have d4 : decide (l ≤ 1048576) = false := by simpa using c4
               have HR : Aside (mayEnt ⟨1, o, l, n⟩ = false) := (by unfold mayEnt; simp; omega : _ = _)
               haveI := hs.i
               go_enter Tryz.func162, Tryz.ntmps162
               go_wp2
               go_ret
               exact ⟨by rw [HR.out]; rfl, (hs.alloc #[.int .i64 1, .int .i64 o, .int .i64 l, .int .i64 n] 77 |>.alloc #[.int .i64 1, .int .i64 o, .int .i64 l] 75).right.right⟩
           · have d3 : decide (l ≤ 16777216 - o) = false := by simpa using c3
             have HR : Aside (mayEnt ⟨1, o, l, n⟩ = false) := (by unfold mayEnt; simp; omega : _ = _)
             haveI := hs.i
             go_enter Tryz.func162, Tryz.ntmps162
             go_wp2
             go_ret
             exact ⟨by rw [HR.out]; rfl, (hs.alloc #[.int .i64 1, .int .i64 o, .int .i64 l, .int .i64 n] 77 |>.alloc #[.int .i64 1, .int .i64 o, .int .i64 l] 75).right.right⟩
         · have d2 : decide (1 ≤ l) = false := by simpa using c2
           have HR : Aside (mayEnt ⟨1, o, l, n⟩ = false) := (by unfold mayEnt; simp; omega : _ = _)
           haveI := hs.i
           go_enter Tryz.func162, Tryz.ntmps162
           go_wp2
           go_ret
           exact ⟨by rw [HR.out]; rfl, (hs.alloc #[.int .i64 1, .int .i64 o, .int .i64 l, .int .i64 n] 77 |>.alloc #[.int .i64 1, .int .i64 o, .int .i64 l] 75).right.right⟩
       · have d1 : decide (o ≤ 16777216) = false := by simpa using c1
         have HR : Aside (mayEnt ⟨1, o, l, n⟩ = false) := (by unfold mayEnt; simp; omega : _ = _)
         haveI := hs.i
         go_enter Tryz.func162, Tryz.ntmps162
         go_wp2
         go_ret
         exact ⟨by rw [HR.out]; rfl, (hs.alloc #[.int .i64 1, .int .i64 o, .int .i64 l, .int .i64 n] 77 |>.alloc #[.int .i64 1, .int .i64 o, .int .i64 l] 75).right.right⟩
     · have d0 : decide (0 ≤ o) = false := by simpa using c0
       have HR : Aside (mayEnt ⟨1, o, l, n⟩ = false) := (by unfold mayEnt; simp; omega : _ = _)
       haveI := hs.i
       go_enter Tryz.func162, Tryz.ntmps162
       go_wp2
       go_ret
       exact ⟨by rw [HR.out]; rfl, (hs.alloc #[.int .i64 1, .int .i64 o, .int .i64 l, .int .i64 n] 77 |>.alloc #[.int .i64 1, .int .i64 o, .int .i64 l] 75).right.right⟩
   · have e1 : (s == 1) = false := by simpa using h1
     have HR : Aside (mayEnt ⟨s, o, l, n⟩ = false) := (by unfold mayEnt; simp; omega : _ = _)
     haveI := hs.i
     go_enter Tryz.func162, Tryz.ntmps162
     go_wp2
     go_ret
     exact ⟨by rw [HR.out]; rfl, (hs.alloc #[.int .i64 s, .int .i64 o, .int .i64 l, .int .i64 n] 77 |>.alloc #[.int .i64 s, .int .i64 o, .int .i64 l] 75).right.right⟩
end Go.Proofs.YtfhbmblbidcmmaaGreat
namespace Go.Proofs.YtfhbmblbidcmmaaGreat
set_option linter.unusedSimpArgs false
set_option linter.unusedVariables false
open Go.RowKit Go.Sl Go.Dk Go.Tr
attribute [local go_sem ↓] Go.wp_at_zero Go.wp_at_succ
attribute [local go_sem] Go.Sl.cell_sat Go.Sl.frozen_sat
set_option maxHeartbeats 1600000 in
theorem mayKid_any (p b l s : Int) (F : Assn) (w : World) (hs : Sat F w) :
 Calls Tryz.prog 163 #[kidV ⟨p, b, l, s⟩] w fun e w' => e = .returned (.bool (mayKid ⟨p, b, l, s⟩)) ∧ Sat F w' := by
 have hco := fun w => counted_any l b w
 by_cases c0 : 1 ≤ p
 · have d0 : decide (1 ≤ p) = true := by simpa using c0
   by_cases c1 : p < 1048576
   · have d1 : decide (p < 1048576) = true := by simpa using c1
     by_cases c2 : 1 ≤ b
     · have d2 : decide (1 ≤ b) = true := by simpa using c2
       by_cases c3 : b ≤ 1048576
       · have d3 : decide (b ≤ 1048576) = true := by simpa using c3
         by_cases c5 : -1 ≤ l ∧ l ≤ b
         · rw [decide_eq_true c5] at hco
           by_cases c6 : 1 ≤ s
           · have d6 : decide (1 ≤ s) = true := by simpa using c6
             by_cases c7 : s ≤ b
             · have d7 : decide (s ≤ b) = true := by simpa using c7
               have HR : Aside (mayKid ⟨p, b, l, s⟩ = true) := (by unfold mayKid; simp; omega : _ = _)
               haveI := hs.i
               go_enter Tryz.func163, Tryz.ntmps163
               go_wp2_with (go_at_call 190; refine (hco _).mono ?_; rintro e w' ⟨rfl, rfl⟩)
               go_ret
               exact ⟨by rw [HR.out]; rfl, (hs.alloc #[.int .i64 p, .int .i64 b, .int .i64 l, .int .i64 s] 141).right⟩
             · have d7 : decide (s ≤ b) = false := by simpa using c7
               have HR : Aside (mayKid ⟨p, b, l, s⟩ = false) := (by unfold mayKid; simp; omega : _ = _)
               haveI := hs.i
               go_enter Tryz.func163, Tryz.ntmps163
               go_wp2_with (go_at_call 190; refine (hco _).mono ?_; rintro e w' ⟨rfl, rfl⟩)
               go_ret
               exact ⟨by rw [HR.out]; rfl, (hs.alloc #[.int .i64 p, .int .i64 b, .int .i64 l, .int .i64 s] 141).right⟩
           · have d6 : decide (1 ≤ s) = false := by simpa using c6
             have HR : Aside (mayKid ⟨p, b, l, s⟩ = false) := (by unfold mayKid; simp; omega : _ = _)
             haveI := hs.i
             go_enter Tryz.func163, Tryz.ntmps163
             go_wp2_with (go_at_call 190; refine (hco _).mono ?_; rintro e w' ⟨rfl, rfl⟩)
             go_ret
             exact ⟨by rw [HR.out]; rfl, (hs.alloc #[.int .i64 p, .int .i64 b, .int .i64 l, .int .i64 s] 141).right⟩
         · rw [decide_eq_false c5] at hco
           have HR : Aside (mayKid ⟨p, b, l, s⟩ = false) := (by unfold mayKid; simp; omega : _ = _)
           haveI := hs.i
           go_enter Tryz.func163, Tryz.ntmps163
           go_wp2_with (go_at_call 190; refine (hco _).mono ?_; rintro e w' ⟨rfl, rfl⟩)
           go_ret
           exact ⟨by rw [HR.out]; rfl, (hs.alloc #[.int .i64 p, .int .i64 b, .int .i64 l, .int .i64 s] 141).right⟩
       · have d3 : decide (b ≤ 1048576) = false := by simpa using c3
         have HR : Aside (mayKid ⟨p, b, l, s⟩ = false) := (by unfold mayKid; simp; omega : _ = _)
         haveI := hs.i
         go_enter Tryz.func163, Tryz.ntmps163
         go_wp2
         go_ret
         exact ⟨by rw [HR.out]; rfl, (hs.alloc #[.int .i64 p, .int .i64 b, .int .i64 l, .int .i64 s] 141).right⟩
     · have d2 : decide (1 ≤ b) = false := by simpa using c2
       have HR : Aside (mayKid ⟨p, b, l, s⟩ = false) := (by unfold mayKid; simp; omega : _ = _)
       haveI := hs.i
       go_enter Tryz.func163, Tryz.ntmps163
       go_wp2
       go_ret
       exact ⟨by rw [HR.out]; rfl, (hs.alloc #[.int .i64 p, .int .i64 b, .int .i64 l, .int .i64 s] 141).right⟩
   · have d1 : decide (p < 1048576) = false := by simpa using c1
     have HR : Aside (mayKid ⟨p, b, l, s⟩ = false) := (by unfold mayKid; simp; omega : _ = _)
     haveI := hs.i
     go_enter Tryz.func163, Tryz.ntmps163
     go_wp2
     go_ret
     exact ⟨by rw [HR.out]; rfl, (hs.alloc #[.int .i64 p, .int .i64 b, .int .i64 l, .int .i64 s] 141).right⟩
 · have d0 : decide (1 ≤ p) = false := by simpa using c0
   have HR : Aside (mayKid ⟨p, b, l, s⟩ = false) := (by unfold mayKid; simp; omega : _ = _)
   haveI := hs.i
   go_enter Tryz.func163, Tryz.ntmps163
   go_wp2
   go_ret
   exact ⟨by rw [HR.out]; rfl, (hs.alloc #[.int .i64 p, .int .i64 b, .int .i64 l, .int .i64 s] 141).right⟩
end Go.Proofs.YtfhbmblbidcmmaaGreat
namespace Go.Proofs.YtfhbmblbidcmmaaGreat
set_option linter.unusedSimpArgs false
set_option linter.unusedVariables false
open Go.RowKit Go.Sl Go.Dk Go.Tr
attribute [local go_sem ↓] Go.wp_at_zero Go.wp_at_succ
attribute [local go_sem] Go.Sl.cell_sat Go.Sl.frozen_sat
abbrev TEn : TypeId := 77
abbrev TKd : TypeId := 141
abbrev TNd : TypeId := 32
def ecs (l : List Ent) : List Value := l.flatMap erow
def kcs (l : List Kd) : List Value := l.flatMap krow
abbrev ReadsE (B : Assn) (v : Value) (l : List Ent) : Prop := ReadsR 4 B v l.length (ecs l)
abbrev ReadsK (B : Assn) (v : Value) (l : List Kd) : Prop := ReadsR 4 B v l.length (kcs l)
def ReadsN (B : Assn) (v : Value) (n : Nd) : Prop := ∃ vE vK, v = .agg #[.bool n.leaf, vE, vK] ∧ ReadsE B vE n.ents ∧ ReadsK B vK n.kids
theorem readsE_at {B : Assn} {a : Option Addr} {c : Nat} {l : List Ent} (h : ReadsE B (.slice a l.length c) l) {i : Nat} {x : Ent} (hi : l[i]? = some x) :
 ∃ b o, a = some ⟨b, o, none⟩ ∧ RdC B b (o + i * 4) (.int .i64 x.src) ∧ RdC B b (o + i * 4 + 1) (.int .i64 x.pos) ∧ RdC B b (o + i * 4 + 2) (.int .i64 x.len) ∧ RdC B b (o + i * 4 + 3) (.int .i64 x.lines) := by
 obtain ⟨b, o, e, r⟩ := ReadsR.row (f := erow) (fun _ => rfl) (by omega) h hi
 exact ⟨b, o, e, r 0 _ rfl, r 1 _ rfl, r 2 _ rfl, r 3 _ rfl⟩
theorem readsK_at {B : Assn} {a : Option Addr} {c : Nat} {l : List Kd} (h : ReadsK B (.slice a l.length c) l) {i : Nat} {x : Kd} (hi : l[i]? = some x) :
 ∃ b o, a = some ⟨b, o, none⟩ ∧ RdC B b (o + i * 4) (.int .i64 x.page) ∧ RdC B b (o + i * 4 + 1) (.int .i64 x.bytes) ∧ RdC B b (o + i * 4 + 2) (.int .i64 x.lines) ∧ RdC B b (o + i * 4 + 3) (.int .i64 x.scraps) := by
 obtain ⟨b, o, e, r⟩ := ReadsR.row (f := krow) (fun _ => rfl) (by omega) h hi
 exact ⟨b, o, e, r 0 _ rfl, r 1 _ rfl, r 2 _ rfl, r 3 _ rfl⟩
theorem eBytes_snoc {l : List Ent} {i : Nat} {x : Ent} (h : l[i]? = some x) : eBytes (l.take (i + 1)) = eBytes (l.take i) + x.len := by
 rw [take_snoc' h]; simp [eBytes]
theorem kBytes_snoc {l : List Kd} {i : Nat} {x : Kd} (h : l[i]? = some x) : kBytes (l.take (i + 1)) = kBytes (l.take i) + x.bytes := by
 rw [take_snoc' h]; simp [kBytes]
theorem kScraps_snoc {l : List Kd} {i : Nat} {x : Kd} (h : l[i]? = some x) : kScraps (l.take (i + 1)) = kScraps (l.take i) + x.scraps := by
 rw [take_snoc' h]; simp [kScraps]
theorem mayE_bounds {x : Ent} (h : mayEnt x = true) : 1 ≤ x.len ∧ x.len ≤ 1048576 := by
 unfold mayEnt at h
 simp only [decide_eq_true_eq] at h
 exact ⟨h.2.2.2.1, h.2.2.2.2.2.1⟩
theorem mayK_bounds {x : Kd} (h : mayKid x = true) : 1 ≤ x.bytes ∧ x.bytes ≤ 1048576 ∧ 1 ≤ x.scraps ∧ x.scraps ≤ x.bytes := by
 unfold mayKid at h
 simp only [decide_eq_true_eq] at h
 exact ⟨h.2.2.1, h.2.2.2.1, h.2.2.2.2.2.1, h.2.2.2.2.2.2⟩
theorem may_badE {n : Nd} {x : Ent} (hx : x ∈ n.ents) (h : n.leaf = false ∨ mayEnt x = false) : may n = false := by
 unfold may
 rw [if_pos (List.any_eq_true.2 ⟨x, hx, by rcases h with h | h <;> simp [h]⟩)]
theorem may_badK {n : Nd} {x : Kd} (hx : x ∈ n.kids) (h : n.leaf = true ∨ mayKid x = false) : may n = false := by
 unfold may
 split
 · rfl
 · rw [if_pos (List.any_eq_true.2 ⟨x, hx, by rcases h with h | h <;> simp [h]⟩)]
theorem may_good {n : Nd} (h1 : ∀ x ∈ n.ents, n.leaf = true ∧ mayEnt x = true) (h2 : ∀ x ∈ n.kids, n.leaf = false ∧ mayKid x = true) :
 may n = decide ((if n.leaf then 1 else 2) ≤ (if n.leaf then n.ents.length else n.kids.length) ∧ (if n.leaf then n.ents.length else n.kids.length) ≤ 12 ∧ eBytes n.ents + kBytes n.kids ≤ 1048576 ∧ kScraps n.kids ≤ 1024) := by
 unfold may
 rw [if_neg (by simp only [List.any_eq_true]; rintro ⟨x, hx, h⟩; have := h1 x hx; simp [this.1, this.2] at h), if_neg (by simp only [List.any_eq_true]; rintro ⟨x, hx, h⟩; have := h2 x hx; simp [this.1, this.2] at h)]
set_option maxRecDepth 100000 in
set_option maxHeartbeats 1600000 in
theorem may_any (n : Nd) (v : Value) (B F : Assn) (w : World) (hN : ReadsN B v n) (hs : Sat (B * F) w) (hle : n.ents.length ≤ 4294967296) (hlk : n.kids.length ≤ 4294967296) :
 Calls Tryz.prog 133 #[v] w fun e w' => e = .returned (.bool (may n)) ∧ Sat (B * F) w' := by
 obtain ⟨vE, vK, rfl, hE, hK⟩ := hN
 obtain ⟨aE, cE, rfl, hE1, hE2⟩ := hE.v
 obtain ⟨aK, cK, rfl, hK1, hK2⟩ := hK.v
 have HE : Aside (ReadsE B (.slice aE n.ents.length cE) n.ents) := hE
 have HK : Aside (ReadsK B (.slice aK n.kids.length cK) n.kids) := hK
 obtain ⟨mr, hmr⟩ : ∃ r, may n = r := ⟨_, rfl⟩
 have HR : Aside (may n = mr) := hmr
 rw [hmr]
 obtain ⟨lf, hlf⟩ : ∃ r, n.leaf = r := ⟨_, rfl⟩
 have HL : Aside (n.leaf = lf) := hlf
 rw [hlf]
 clear hE hK hmr hlf
 haveI := hs.i
 go_enter Tryz.func133, Tryz.ntmps133
 go_wp2
 go_loopg [3, 14] n.ents.length (fun g t3 t14 wr => ∃ (i : Nat) (su : Int), t14 = .int .i64 i ∧ t3 = .int .i64 su ∧ i ≤ n.ents.length ∧ 0 ≤ su ∧ su ≤ i * 1048576 ∧ Aside (g = n.ents.length - i ∧ su = eBytes (n.ents.take i) ∧ (∀ x ∈ n.ents.take i, lf = true ∧ mayEnt x = true)) ∧
  Sat (Sl.block w.heap.size TNd [.bool lf, .slice aE n.ents.length cE, .slice aK n.kids.length cK] * (B * F)) wr)
 case atStart => exact ⟨0, 0, rfl, rfl, by omega, by omega, by omega, ⟨rfl, by simp [eBytes], by simp⟩, satI⟩
 case round =>
  obtain ⟨i, su, rfl, rfl, hi, hsu0, hsu, A, hsr⟩ := hrel
  haveI := hsr.i
  by_cases hlt : i < n.ents.length
  · have hlt' : (i : Int) < n.ents.length := by omega
    obtain ⟨x, hx⟩ : ∃ x, n.ents[i]? = some x := ⟨_, List.getElem?_eq_getElem hlt⟩
    obtain ⟨b, o, rfl, r1, r2, r3, r4⟩ := readsE_at HE.out hx
    have HX : Aside (n.ents[i]? = some x) := hx
    obtain ⟨x1, x2, x3, x4⟩ := x
    clear hs hx
    cases lf with
    | false =>
      have HF : Aside (mr = false) := (by rw [← HR.out]; exact may_badE (List.mem_of_getElem? HX.out) (.inl HL.out) : _ = _)
      go_wp2
      go_ret
      exact ⟨by rw [HF.out]; rfl, keep2 B F⟩
    | true =>
      cases hm : mayEnt ⟨x1, x2, x3, x4⟩ with
      | false =>
        have HF : Aside (mr = false) := (by rw [← HR.out]; exact may_badE (List.mem_of_getElem? HX.out) (.inr hm) : _ = _)
        have hc := fun F w h => mayEnt_any x1 x2 x3 x4 F w h
        rw [hm] at hc
        clear hm
        go_wp2_with (go_at_call 162; refine (hc _ _ satI).mono ?_; rintro e w' ⟨rfl, hs2⟩; haveI := hs2.i)
        go_ret
        exact ⟨by rw [HF.out]; rfl, keep2 B F⟩
      | true =>
        have HM : Aside (mayEnt ⟨x1, x2, x3, x4⟩ = true) := hm
        have hc := fun F w h => mayEnt_any x1 x2 x3 x4 F w h
        rw [hm] at hc
        have hb := mayE_bounds hm
        simp only at hb
        clear hm
        go_wp2_with (go_at_call 162; refine (hc _ _ satI).mono ?_; rintro e w' ⟨rfl, hs2⟩; haveI := hs2.i)
        go_roundg (n.ents.length - (i + 1))
        case measure => have := A.out.1; omega
        case rel =>
         refine ⟨i + 1, su + x3, by go_num, rfl, by omega, by omega, by omega, ⟨rfl, ?_, ?_⟩, ?_⟩
         · rw [eBytes_snoc HX.out, A.out.2.1]
         · rw [take_snoc' HX.out]
           intro y hy
           rcases List.mem_append.1 hy with hy | hy
           · exact A.out.2.2 y hy
           · simp at hy; subst hy; exact ⟨trivial, HM.out⟩
         · exact keep3 _ B F
  · have hlt' : ¬ (i : Int) < n.ents.length := by omega
    have hE3 : n.ents.take i = n.ents := List.take_of_length_le (by omega)
    have HE3 : Aside (su = eBytes n.ents ∧ ∀ x ∈ n.ents, lf = true ∧ mayEnt x = true) := (by have := A.out.2; rw [hE3] at this; exact this : _ ∧ _)
    clear A hE3 hs HE
    go_wp2
    go_loopg [3, 4, 35] n.kids.length (fun g t3 t4 t35 wq => ∃ (j : Nat) (sk ss : Int), t35 = .int .i64 j ∧ t3 = .int .i64 (su + sk) ∧ t4 = .int .i64 ss ∧ j ≤ n.kids.length ∧ 0 ≤ sk ∧ sk ≤ j * 1048576 ∧ 0 ≤ ss ∧ ss ≤ j * 1048576 ∧ Aside (g = n.kids.length - j ∧ sk = kBytes (n.kids.take j) ∧ ss = kScraps (n.kids.take j) ∧ (∀ x ∈ n.kids.take j, lf = false ∧ mayKid x = true)) ∧
     Sat (Sl.block w.heap.size TNd [.bool lf, .slice aE n.ents.length cE, .slice aK n.kids.length cK] * (B * F)) wq)
    case atStart => exact ⟨0, 0, 0, rfl, by simp, rfl, by omega, by omega, by omega, by omega, by omega, ⟨rfl, by simp [kBytes], by simp [kScraps], by simp⟩, satI⟩
    case round =>
     obtain ⟨j, sk, ss, rfl, rfl, rfl, hj, hk0, hk, hs0, hs1, A, hsq⟩ := hrel
     clear hsr
     haveI := hsq.i
     by_cases hlt : j < n.kids.length
     · have hlt' : (j : Int) < n.kids.length := by omega
       obtain ⟨x, hx⟩ : ∃ x, n.kids[j]? = some x := ⟨_, List.getElem?_eq_getElem hlt⟩
       obtain ⟨b, o, rfl, r1, r2, r3, r4⟩ := readsK_at HK.out hx
       have HX : Aside (n.kids[j]? = some x) := hx
       obtain ⟨x1, x2, x3, x4⟩ := x
       clear hx
       cases lf with
       | true =>
         have HF : Aside (mr = false) := (by rw [← HR.out]; exact may_badK (List.mem_of_getElem? HX.out) (.inl HL.out) : _ = _)
         go_wp2
         go_ret
         exact ⟨by rw [HF.out]; rfl, keep2 B F⟩
       | false =>
         cases hm : mayKid ⟨x1, x2, x3, x4⟩ with
         | false =>
           have HF : Aside (mr = false) := (by rw [← HR.out]; exact may_badK (List.mem_of_getElem? HX.out) (.inr hm) : _ = _)
           have hc := fun F w h => mayKid_any x1 x2 x3 x4 F w h
           rw [hm] at hc
           clear hm
           go_wp2_with (go_at_call 163; refine (hc _ _ satI).mono ?_; rintro e w' ⟨rfl, hs2⟩; haveI := hs2.i)
           go_ret
           exact ⟨by rw [HF.out]; rfl, keep2 B F⟩
         | true =>
           have HM : Aside (mayKid ⟨x1, x2, x3, x4⟩ = true) := hm
           have hc := fun F w h => mayKid_any x1 x2 x3 x4 F w h
           rw [hm] at hc
           have hb := mayK_bounds hm
           simp only at hb
           clear hm
           go_wp2_with (go_at_call 163; refine (hc _ _ satI).mono ?_; rintro e w' ⟨rfl, hs2⟩; haveI := hs2.i)
           go_roundg (n.kids.length - (j + 1))
           case measure => have := A.out.1; omega
           case rel =>
            refine ⟨j + 1, sk + x2, ss + x4, by go_num, by go_num, rfl, by omega, by omega, by omega, by omega, by omega, ⟨rfl, ?_, ?_, ?_⟩, ?_⟩
            · rw [kBytes_snoc HX.out, A.out.2.1]
            · rw [kScraps_snoc HX.out, A.out.2.2.1]
            · rw [take_snoc' HX.out]
              intro y hy
              rcases List.mem_append.1 hy with hy | hy
              · exact A.out.2.2.2 y hy
              · simp at hy; subst hy; exact ⟨trivial, HM.out⟩
            · exact keep3 _ B F
     · have hlt' : ¬ (j : Int) < n.kids.length := by omega
       have hK3 : n.kids.take j = n.kids := List.take_of_length_le (by omega)
       have HF : Aside (mr = decide ((if lf then 1 else 2) ≤ (if lf then n.ents.length else n.kids.length) ∧ (if lf then n.ents.length else n.kids.length) ≤ 12 ∧ su + sk ≤ 1048576 ∧ ss ≤ 1024)) := (by
        have h1 := A.out.2
        rw [hK3] at h1
        rw [← HR.out, HE3.out.1, h1.1, h1.2.1, ← HL.out]
        exact may_good (by rw [HL.out]; exact HE3.out.2) (by rw [HL.out]; exact h1.2.2) : _ = _)
       clear A hK3 HK HE3
       cases lf with
       | true =>
         simp only [if_true, Bool.false_eq_true, if_false] at HF
         by_cases c0 : 1 ≤ n.ents.length
         · have d0 : decide ((1 : Int) ≤ n.ents.length) = true := by simpa using (by omega : (1 : Int) ≤ n.ents.length)
           by_cases c1 : n.ents.length ≤ 12
           · have d1 : decide ((n.ents.length : Int) ≤ 12) = true := by simpa using (by omega : (n.ents.length : Int) ≤ 12)
             by_cases c2 : su + sk ≤ 1048576
             · have d2 : decide (su + sk ≤ 1048576) = true := by simpa using (by omega : su + sk ≤ 1048576)
               by_cases c3 : ss ≤ 1024
               · have d3 : decide (ss ≤ 1024) = true := by simpa using (by omega : ss ≤ 1024)
                 have HF2 : Aside (mr = true) := (by rw [HF.out]; exact decide_eq_true ⟨c0, c1, c2, c3⟩ : _ = _)
                 clear HF c0 c1 c2 c3
                 go_wp2_with fail
                 go_quiet (fail)
                 go_wp2_with fail
                 go_quiet (fail)
                 go_wp2
                 go_ret
                 exact ⟨by rw [HF2.out]; rfl, keep2 B F⟩
               · have d3 : decide (ss ≤ 1024) = false := by simpa using (by omega : ¬ ss ≤ 1024)
                 have HF2 : Aside (mr = false) := (by rw [HF.out]; exact decide_eq_false (fun h => c3 h.2.2.2) : _ = _)
                 clear HF c0 c1 c2 c3
                 go_wp2_with fail
                 go_quiet (fail)
                 go_wp2_with fail
                 go_quiet (fail)
                 go_wp2
                 go_ret
                 exact ⟨by rw [HF2.out]; rfl, keep2 B F⟩
             · have d2 : decide (su + sk ≤ 1048576) = false := by simpa using (by omega : ¬ su + sk ≤ 1048576)
               have HF2 : Aside (mr = false) := (by rw [HF.out]; exact decide_eq_false (fun h => c2 h.2.2.1) : _ = _)
               clear HF c0 c1 c2
               go_wp2_with fail
               go_quiet (fail)
               go_wp2_with fail
               go_quiet (fail)
               go_wp2
               go_ret
               exact ⟨by rw [HF2.out]; rfl, keep2 B F⟩
           · have d1 : decide ((n.ents.length : Int) ≤ 12) = false := by simpa using (by omega : ¬ (n.ents.length : Int) ≤ 12)
             have HF2 : Aside (mr = false) := (by rw [HF.out]; exact decide_eq_false (fun h => c1 h.2.1) : _ = _)
             clear HF c0 c1
             go_wp2_with fail
             go_quiet (fail)
             go_wp2_with fail
             go_quiet (fail)
             go_wp2
             go_ret
             exact ⟨by rw [HF2.out]; rfl, keep2 B F⟩
         · have d0 : decide ((1 : Int) ≤ n.ents.length) = false := by simpa using (by omega : ¬ (1 : Int) ≤ n.ents.length)
           have HF2 : Aside (mr = false) := (by rw [HF.out]; exact decide_eq_false (fun h => c0 h.1) : _ = _)
           clear HF c0
           go_wp2_with fail
           go_quiet (fail)
           go_wp2_with fail
           go_quiet (fail)
           go_wp2
           go_ret
           exact ⟨by rw [HF2.out]; rfl, keep2 B F⟩
       | false =>
         simp only [if_true, Bool.false_eq_true, if_false] at HF
         by_cases c0 : 2 ≤ n.kids.length
         · have d0 : decide ((2 : Int) ≤ n.kids.length) = true := by simpa using (by omega : (2 : Int) ≤ n.kids.length)
           by_cases c1 : n.kids.length ≤ 12
           · have d1 : decide ((n.kids.length : Int) ≤ 12) = true := by simpa using (by omega : (n.kids.length : Int) ≤ 12)
             by_cases c2 : su + sk ≤ 1048576
             · have d2 : decide (su + sk ≤ 1048576) = true := by simpa using (by omega : su + sk ≤ 1048576)
               by_cases c3 : ss ≤ 1024
               · have d3 : decide (ss ≤ 1024) = true := by simpa using (by omega : ss ≤ 1024)
                 have HF2 : Aside (mr = true) := (by rw [HF.out]; exact decide_eq_true ⟨c0, c1, c2, c3⟩ : _ = _)
                 clear HF c0 c1 c2 c3
                 go_wp2_with fail
                 go_quiet (fail)
                 go_wp2
                 go_ret
                 exact ⟨by rw [HF2.out]; rfl, keep2 B F⟩
               · have d3 : decide (ss ≤ 1024) = false := by simpa using (by omega : ¬ ss ≤ 1024)
                 have HF2 : Aside (mr = false) := (by rw [HF.out]; exact decide_eq_false (fun h => c3 h.2.2.2) : _ = _)
                 clear HF c0 c1 c2 c3
                 go_wp2_with fail
                 go_quiet (fail)
                 go_wp2
                 go_ret
                 exact ⟨by rw [HF2.out]; rfl, keep2 B F⟩
             · have d2 : decide (su + sk ≤ 1048576) = false := by simpa using (by omega : ¬ su + sk ≤ 1048576)
               have HF2 : Aside (mr = false) := (by rw [HF.out]; exact decide_eq_false (fun h => c2 h.2.2.1) : _ = _)
               clear HF c0 c1 c2
               go_wp2_with fail
               go_quiet (fail)
               go_wp2
               go_ret
               exact ⟨by rw [HF2.out]; rfl, keep2 B F⟩
           · have d1 : decide ((n.kids.length : Int) ≤ 12) = false := by simpa using (by omega : ¬ (n.kids.length : Int) ≤ 12)
             have HF2 : Aside (mr = false) := (by rw [HF.out]; exact decide_eq_false (fun h => c1 h.2.1) : _ = _)
             clear HF c0 c1
             go_wp2_with fail
             go_quiet (fail)
             go_wp2
             go_ret
             exact ⟨by rw [HF2.out]; rfl, keep2 B F⟩
         · have d0 : decide ((2 : Int) ≤ n.kids.length) = false := by simpa using (by omega : ¬ (2 : Int) ≤ n.kids.length)
           have HF2 : Aside (mr = false) := (by rw [HF.out]; exact decide_eq_false (fun h => c0 h.1) : _ = _)
           clear HF c0
           go_wp2_with fail
           go_quiet (fail)
           go_wp2
           go_ret
           exact ⟨by rw [HF2.out]; rfl, keep2 B F⟩
end Go.Proofs.YtfhbmblbidcmmaaGreat
