/-
  Of all versions the pages that are told are just those of their trees in the file in the form of the document, and a root that is none is refused. No condition. (part 49)
-/
import Derived.Test.YtfhbmblbidcmmaaGreatVa47
import Derived.Test.YtfhbmblbidcmmaaGreatVa48
import Derived.Test.YtfhbmblbidcmmaaGreatVa8
import Derived.Deep.RegionLaw
import Derived.Test.YtfhbmblbidcmmaaGreatVa26
set_option linter.unusedSimpArgs false
set_option linter.unusedVariables false
namespace Go.Proofs.YtfhbmblbidcmmaaGreat
set_option linter.unusedSimpArgs false
set_option linter.unusedVariables false
open Go.RowKit Go.Sl Go.Tr Go.Dk
attribute [local go_sem ↓] Go.wp_at_zero Go.wp_at_succ
set_option maxHeartbeats 400000 in
theorem sameQ0 (v1 v2 : Value) (z1 z2 : List UInt8) (w : World) (h1 : Byt w v1 z1) (h2 : Byt w v2 z2) :
 Calls Tryz.prog 178 #[v1, v2] w fun e w' => e = .returned (.bool (decide (z1 = z2))) ∧ ∃ n, w' = w.drewN n := by
 obtain ⟨a1, c1, rfl, hc1, hm1⟩ := h1.len
 obtain ⟨a2, c2, rfl, hc2, hm2⟩ := h2.len
 have hz1 : z1.length ≤ 9223372036854775807 := by have : c1 ≤ 9223372036854775807 := by simpa [maxLen] using hm1
                                                  omega
 have hz2 : z2.length ≤ 9223372036854775807 := by have : c2 ≤ 9223372036854775807 := by simpa [maxLen] using hm2
                                                  omega
 by_cases hl : z1.length = z2.length
 · have hne2 : ((z1.length : Int) != (z2.length : Int)) = false := by simp; omega
   have HL : Aside (z1.length = z2.length) := hl
   clear hl
   go_enter Tryz.func178, Tryz.ntmps178
   go_wp2
   go_loopg [5] z1.length (fun k i wr => ∃ j : Nat, i = .int .i64 j ∧ j ≤ z1.length ∧ Aside (k = z1.length - j ∧ z1.take j = z2.take j) ∧ ∃ n, w.drewN n = wr)
   case atStart => exact ⟨0, rfl, by omega, ⟨rfl, rfl⟩, 0, rfl⟩
   case round =>
    obtain ⟨j, rfl, hj, A, nn, rfl⟩ := hrel
    by_cases hlt : j < z1.length
    · have hlt2 : j < z2.length := by have := HL.out; omega
      obtain ⟨y1, hy1⟩ : ∃ y, z1[j]? = some y := ⟨z1[j], by simp [hlt]⟩
      obtain ⟨y2, hy2⟩ : ∃ y, z2[j]? = some y := ⟨z2[j], by simp [hlt2]⟩
      obtain ⟨b1, o1, rfl, x1⟩ := h1.at hy1
      obtain ⟨b2, o2, rfl, x2⟩ := h2.at hy2
      have HY : Aside (z1[j]? = some y1 ∧ z2[j]? = some y2) := ⟨hy1, hy2⟩
      clear h1 h2 hne2 hy1 hy2
      have hlt3 : (j : Int) < z1.length := by omega
      have hlt4 : (j : Int) < z2.length := by omega
      by_cases he : y1 = y2
      · subst he
        go_wp2
        go_quiet (fail)
        go_wp2
        go_roundg (z1.length - (j + 1))
        case measure => have := A.out.1; omega
        case rel =>
         refine ⟨j + 1, by go_num, by omega, ⟨rfl, ?_⟩, nn + nq, rfl⟩
         rw [take_snoc' HY.out.1, take_snoc' HY.out.2, A.out.2]
      · have he0 : y1.toNat ≠ y2.toNat := fun e => he (UInt8.toNat_inj.1 e)
        have he1 : ((y1.toNat : Int) != (y2.toNat : Int)) = true := by rw [bne_iff_ne]; omega
        have he2 : (y1.toNat != y2.toNat) = true := by simpa using he0
        have HE : Aside (y1 ≠ y2) := he
        clear he
        go_wp2
        go_quiet (fail)
        go_wp2
        go_ret
        have : z1 ≠ z2 := fun e => HE.out (by have h3 := HY.out.1; rw [e, HY.out.2] at h3; exact (Option.some.inj h3).symm)
        exact ⟨by simp [this], nn + nq, by rw [World.drewN_drewN]⟩
    · have : j = z1.length := by omega
      subst this
      clear hlt hne2 h1 h2
      go_wp2
      go_ret
      have e : z1 = z2 := by
       have := A.out.2
       rw [List.take_of_length_le (Nat.le_refl _), List.take_of_length_le (by have := HL.out; omega)] at this
       exact this
      exact ⟨by simp [e], nn, rfl⟩
 · have hne : z1 ≠ z2 := fun e => hl (by rw [e])
   have hne2 : ((z1.length : Int) != (z2.length : Int)) = true := by simp; omega
   have e : decide (z1 = z2) = false := by simpa using hne
   rw [e]
   clear e hne h1 h2 hl
   go_enter Tryz.func178, Tryz.ntmps178
   go_wp2
   go_ret
   exact ⟨rfl, 0, rfl⟩
theorem sameQ (v1 v2 : Value) (z1 z2 : List UInt8) (A1 F : Assn) (w : World) (h1 : Byt w v1 z1) (h2 : Byt w v2 z2) (hs : Sat F w) :
 Calls Tryz.prog 178 #[v1, v2] w fun e w' => e = .returned (.bool (decide (z1 = z2))) ∧ Sat F w' := by
 refine (sameQ0 v1 v2 z1 z2 w h1 h2).mono ?_
 rintro e w' ⟨h, n, rfl⟩
 exact ⟨h, hs.drewN n⟩
attribute [local go_sem] Go.Sl.cell_sat Go.Sl.frozen_sat
def RoOut (B F : Assn) (r : Int × List UInt8 × Int) (e : Ending) (w' : World) : Prop := ∃ a c, e = .returned (.tuple #[.int .i64 r.1, .slice a r.2.1.length c, .int .i64 r.2.2]) ∧ Sat (rw TB 1 (.slice a r.2.1.length c) (bys r.2.1) * (B * F)) w'
set_option maxRecDepth 100000 in
set_option maxHeartbeats 6400000 in
theorem ropen05_any (no : Int) (v : Value) (b : List UInt8) (B F : Assn) (w : World) (hB : Reads B v b) (hs : Sat (B * F) w) :
 Calls Tryz.prog 155 #[.int .i64 no, v] w (RoOut B F (pageOpen no b)) := by
 unfold RoOut
 rw [← refOpen_is]
 obtain ⟨i0, E⟩ := elemB
 obtain ⟨va, vc, rfl, hvc, hvm⟩ := (hB F w hs).len
 obtain ⟨⟨zk, zb, ze⟩, hz⟩ : ∃ r, refOpen no b = r := ⟨_, rfl⟩
 rw [hz]
 unfold refOpen at hz
 by_cases hno : no < 0 ∨ 1048576 ≤ no
 · rw [if_pos hno] at hz
   obtain ⟨rfl, rfl, rfl⟩ : zk = 0 ∧ zb = [] ∧ ze = 1 := by simpa [eq_comm] using hz
   clear hz
   by_cases g1 : no < 0
   · go_enter Tryz.func155, Tryz.ntmps155
     go_wp2
     go_ret3
     exact ⟨none, 0, rfl, by simpa [bys] using hs.rw_nil⟩
   · have g2 : 1048576 ≤ no := by omega
     go_enter Tryz.func155, Tryz.ntmps155
     go_wp2
     go_ret3
     exact ⟨none, 0, rfl, by simpa [bys] using hs.rw_nil⟩
 · rw [if_neg hno] at hz
   have g1 : ¬ no < 0 := by omega
   have g2 : ¬ (1048576 : Int) ≤ no := by omega
   by_cases hlen : b.length ≠ 256
   · rw [if_pos hlen] at hz
     obtain ⟨rfl, rfl, rfl⟩ : zk = 0 ∧ zb = [] ∧ ze = 3 := by simpa [eq_comm] using hz
     have hl' : ((b.length : Int) != 256) = true := by simp; omega
     clear hz hno
     go_enter Tryz.func155, Tryz.ntmps155
     go_wp2
     go_ret3
     exact ⟨none, 0, rfl, by simpa [bys] using hs.rw_nil⟩
   · have hlen' : b.length = 256 := by omega
     rw [if_neg hlen] at hz
     rw [hlen'] at hB hvc ⊢
     have HB : Aside (Reads B (.slice va 256 vc) b ∧ b.length = 256) := ⟨hB, hlen'⟩
     have r1 : Reads B (.slice (cutA va vc 8 1) 4 (vc - 8)) ((b.drop 8).take 4) := fun F w h => (hB F w h).cut 8 12 (by omega) (by omega)
     have r2 : Reads B (.slice (cutA va vc 0 1) 8 vc) (b.take 8) := Reads.to hB 8 (by omega)
     have r3 : Reads B (.slice (cutA va vc 12 1) 244 (vc - 12)) (b.drop 12) := Reads.from hB 12 (by omega)
     have r4 : Reads B (.slice (cutA va vc 2 1) 2 (vc - 2)) ((b.drop 2).take 2) := fun F w h => (hB F w h).cut 2 4 (by omega) (by omega)
     have hli := rint_any _ _ B F w r1 hs (by simp; omega) (by simp; omega)
     have hl2 := fun F w q => rint_any _ _ B F w r4 q (by simp; omega) (by simp; omega)
     have hcp := fun F w q => copyQ _ _ B F w r2 q (by simp; omega)
     rw [show (b.take 8).length = 8 by rw [List.length_take]; omega] at hcp
     have hc1 : ∀ w, (Instr.sliceAt 26 (.slice va 256 vc) (some (.int .i64 8)) (some (.int .i64 12)) none).run Tryz.prog w = .ok (.slice (cutA va vc 8 1) 4 (vc - 8)) w := fun w => at_cut E 8 12 (by omega) (by omega) w
     have hc2 : ∀ w, (Instr.sliceAt 26 (.slice va 256 vc) none (some (.int .i64 8)) none).run Tryz.prog w = .ok (.slice (cutA va vc 0 1) 8 vc) w := fun w => at_to E 8 (by omega) w
     have hc3 : ∀ w, (Instr.sliceAt 26 (.slice va 256 vc) (some (.int .i64 12)) none none).run Tryz.prog w = .ok (.slice (cutA va vc 12 1) 244 (vc - 12)) w := fun w => at_from E 12 (by omega) w
     have hc4 : ∀ w, (Instr.sliceAt 26 (.slice va 256 vc) (some (.int .i64 2)) (some (.int .i64 4)) none).run Tryz.prog w = .ok (.slice (cutA va vc 2 1) 2 (vc - 2)) w := fun w => at_cut E 2 4 (by omega) (by omega) w
     have hcr := crc_lt (b.take 8 ++ b.drop 12)
     have hof := fun a c F w q => rof_any (.slice a 252 c) (b.take 8 ++ b.drop 12) (rw TB 1 (.slice a 252 c) (bys (b.take 8 ++ b.drop 12))) F w Reads.rw q
     have hsu := lei_lt ((b.drop 8).take 4)
     obtain ⟨cr, hcre⟩ : ∃ z, crc (b.take 8 ++ b.drop 12) = z := ⟨_, rfl⟩
     obtain ⟨su, hsue⟩ : ∃ z, lei ((b.drop 8).take 4) = z := ⟨_, rfl⟩
     obtain ⟨n, hne⟩ : ∃ z, lei ((b.drop 2).take 2) = z := ⟨_, rfl⟩
     rw [hcre] at hcr hof hz
     rw [hsue] at hli hz
     rw [hne] at hl2 hz
     have HR : Aside (Reads B (.slice (cutA va vc 12 1) 244 (vc - 12)) (b.drop 12) ∧ (b.drop 12).length = 244 ∧ (b.take 8).length = 8) := ⟨r3, by rw [List.length_drop]; omega, by rw [List.length_take]; omega⟩
     have HZ : Aside _ := hz
     have hcr2 : (cr : Int) < 4294967296 := by omega
     clear hz r1 r2 r3 r4 hcre hsue hno hlen hlen' hB hne hsu
     haveI := hs.i
     go_enter Tryz.func155, Tryz.ntmps155
     go_wp2_with fail
     refine hli.mono ?_
     rintro e w1 ⟨rfl, rfl⟩
     clear hli
     go_wp2_with fail
     go_region_law first
      | (go_simp; go_at_call 34; refine (hcp _ _ (takeI B)).mono ?_; rintro e w10 ⟨a1, e1, rfl, q12⟩; haveI := q12.i)
      | (refine step_append_sl E rfl (.tmp 32) (.tmp 34) rfl rfl rfl (takeI (rw TB 1 (.slice a1 8 e1) (bys (b.take 8)))) (Reads.srcI HR.out.1 HR.out.2.1) (by unfold maxLen; omega) (by omega) ?_; intro a2 e2 w11 q13 z13; clear z13; rw [← bys_append] at q13; haveI := q13.i)
     all_goals
      clear hcp hc1 hc2 hc3 q12
      have q14 : Sat (rw TB 1 (.slice a2 252 e2) (bys (b.take 8 ++ b.drop 12)) * (B * F)) w11 := keep3 _ _ _
      haveI := q14.i
      go_wp2_with fail
      refine (hof _ _ _ _ q14).mono ?_
      rintro e w12 ⟨rfl, rfl⟩
      have q15 : Sat (B * F) w11 := keep2 _ _
      haveI := q15.i
      clear hof q13 q14
      have hz := HZ.out
      by_cases hsc : su ≠ cr
      · rw [if_pos hsc] at hz
        obtain ⟨rfl, rfl, rfl⟩ : zk = 0 ∧ zb = [] ∧ ze = 5 := by simpa [eq_comm] using hz
        have hbz : ((su : Int) != (cr : Int)) = true := by simp; omega
        clear hz HZ hsc
        go_wp2
        go_ret3
        exact ⟨none, 0, rfl, by simpa [bys] using q15.rw_nil⟩
      · rw [if_neg hsc] at hz
        have hbz : ((su : Int) != (cr : Int)) = false := by simp; omega
        have hse : su = cr := by omega
        subst hse
        have HZ2 : Aside _ := hz
        clear hz HZ hsc hbz
        have hbz2 : ((su : Int) != (su : Int)) = false := by simp
        go_wp2_with fail
        refine (hl2 _ _ q15).mono ?_
        rintro e w13 ⟨rfl, rfl⟩
        clear hl2 hc4
        have hz := HZ2.out
        by_cases hn2 : 244 < n
        · rw [if_pos hn2] at hz
          obtain ⟨rfl, rfl, rfl⟩ : zk = 0 ∧ zb = [] ∧ ze = 4 := by simpa [eq_comm] using hz
          have hn3 : (244 : Int) < n := by omega
          clear hz HZ2
          go_wp2
          go_ret3
          exact ⟨none, 0, rfl, by simpa [bys] using q15.rw_nil⟩
        · rw [if_neg hn2] at hz
          obtain ⟨m, hm⟩ : ∃ m, 12 + n = m := ⟨_, rfl⟩
          have hn3 : ¬ (244 : Int) < n := by omega
          have hw1 : IntKind.i64.wrap (12 + (n : Int)) = (m : Int) := (IntWalk.i64_in _ (by omega)).trans (by omega)
          have hc5 : ∀ w, (Instr.sliceAt 26 (.slice va 256 vc) (some (.int .i64 12)) (some (.int .i64 m)) none).run Tryz.prog w = .ok (.slice (cutA va vc 12 1) n (vc - 12)) w := fun w => by
           have h9 := at_cut (P := Tryz.prog) E (a := va) (n := 256) (c := vc) 12 m (by omega) (by omega) w
           rw [show m - 12 = n by omega] at h9
           exact h9
          have r5 : Reads B (.slice (cutA va vc 12 1) n (vc - 12)) ((b.drop 12).take n) := fun F w h => by
           have h9 := (HB.out.1 F w h).cut 12 m (by omega) (by omega)
           rw [show m - 12 = n by omega] at h9
           exact h9
          obtain ⟨bd, hbd⟩ : ∃ bd, (b.drop 12).take n = bd := ⟨_, rfl⟩
          have hbl : bd.length = n := by rw [← hbd, List.length_take, HR.out.2.1]; omega
          rw [hbd] at r5 hz
          obtain ⟨x0, hx0⟩ : ∃ x0, b[0]? = some x0 := ⟨b[0]'(by have := HB.out.2; omega), by simp⟩
          have hl0 : lei (b.take 1) = x0.toNat := by
           have h9 : b.take 1 = [x0] := by
            cases b with
            | nil => simp at hx0
            | cons y l => simp at hx0; subst hx0; rfl
           rw [h9, lei1]
          rw [hl0] at hz
          have hcq := fun F w q => copyQ _ _ B F w r5 q (by omega)
          rw [hbl] at hcq
          have hpk := fun a c F w q => rpack05_any no (x0.toNat : Int) (.slice a n c) bd (rw TB 1 (.slice a n c) (bys bd)) F w Reads.rw q
          obtain ⟨⟨pl, pe⟩, hpp⟩ : ∃ p, pagePack no (x0.toNat : Int) bd = p := ⟨_, rfl⟩
          rw [hpp] at hpk hz
          have HZ3 : Aside _ := hz
          have HX0 : Aside (b[0]? = some x0 ∧ bd.length = n) := ⟨hx0, hbl⟩
          have hx8 := x0.toNat_lt
          have hn4 : decide ((244 : Int) < (n : Int)) = false := decide_eq_false hn3
          clear hz HZ2 hpp hbd hx0 hl0 r5 hm hn2 hbl
          go_wp2_with fail
          refine (hcq _ _ q15).mono ?_
          rintro e w14 ⟨a3, e3, rfl, q16⟩
          haveI := q16.i
          clear hcq hc5 hw1 hn3
          obtain ⟨b2, o2, rfl, hc0⟩ := (HB.out.1 _ _ (q16.take B)).at HX0.out.1
          rw [Nat.add_zero] at hc0
          go_wp2_with fail
          refine (hpk _ _ _ _ q16).mono ?_
          rintro e w15 ⟨a4, e4, rfl, q17⟩
          try dsimp only at q17
          have q18 : Sat (rw TB 1 (.slice a4 pl.length e4) (bys pl) * (rw TB 1 (.slice a3 n e3) (bys bd) * (B * F))) w15 := by
           haveI := q17.i
           exact keep4 _ _ _ _
          haveI := q18.i
          clear hpk hc0 q17 q16 q15
          have hz := HZ3.out
          try dsimp only at hz
          have q19 : Sat (B * F) w15 := keep2 _ _
          by_cases hpe : pe = 0
          · subst hpe
            have hsm := sameQ (.slice a4 pl.length e4) (.slice (some ⟨b2, o2, none⟩) 256 vc) pl b 1 _ w15 ((Reads.rw (e := TB) (v := .slice a4 pl.length e4) (l := pl)) _ _ q18) (HB.out.1 _ _ q19) q18
            by_cases hpb : pl = b
            · rw [if_neg (by simp [hpb])] at hz
              obtain ⟨rfl, rfl, rfl⟩ : zk = (x0.toNat : Int) ∧ zb = bd ∧ ze = 0 := by simpa [eq_comm] using hz
              have hd : decide (pl = b) = true := decide_eq_true hpb
              rw [hd] at hsm
              clear hz HZ3 hpb hd
              go_wp2_with fail
              refine hsm.mono ?_
              rintro e w16 ⟨rfl, q20⟩
              haveI := q20.i
              obtain ⟨b3, o3, e5, hc0⟩ := (HB.out.1 _ _ (q20.take B)).at HX0.out.1
              rw [Nat.add_zero] at hc0
              cases e5
              clear hsm q18 q19
              go_wp2
              go_ret3
              have e7 := HX0.out.2
              refine ⟨a3, e3, by first | (simp [e7]; done) | (subst e7; rfl), ?_⟩
              rw [HX0.out.2]
              exact keep3 _ _ _
            · rw [if_pos (.inr hpb)] at hz
              obtain ⟨rfl, rfl, rfl⟩ : zk = 0 ∧ zb = [] ∧ ze = 4 := by simpa [eq_comm] using hz
              have hd : decide (pl = b) = false := decide_eq_false hpb
              rw [hd] at hsm
              clear hz HZ3 hpb hd
              go_wp2_with fail
              refine hsm.mono ?_
              rintro e w16 ⟨rfl, q20⟩
              haveI := q20.i
              have q21 : Sat (B * F) w16 := keep2 _ _
              clear hsm q18 q19
              go_wp2
              go_ret3
              exact ⟨none, 0, rfl, by simpa [bys] using q21.rw_nil⟩
          · rw [if_pos (.inl hpe)] at hz
            obtain ⟨rfl, rfl, rfl⟩ : zk = 0 ∧ zb = [] ∧ ze = 4 := by simpa [eq_comm] using hz
            have hbz : (pe != 0) = true := by simpa using hpe
            clear hz HZ3 hpe
            go_wp2
            go_ret3
            exact ⟨none, 0, rfl, by simpa [bys] using q19.rw_nil⟩
end Go.Proofs.YtfhbmblbidcmmaaGreat
namespace Go.Proofs.YtfhbmblbidcmmaaGreat
set_option linter.unusedSimpArgs false
set_option linter.unusedVariables false
open Go.RowKit Go.Sl Go.Tr Go.Dk
attribute [local go_sem ↓] Go.wp_at_zero Go.wp_at_succ
attribute [local go_sem] Go.Sl.cell_sat Go.Sl.frozen_sat
theorem rnumber_any (v : Value) (l : List UInt8) (B F : Assn) (w : World) (hB : Reads B v l) (hs : Sat (B * F) w) (h : l.length = 4) :
 Calls Tryz.prog 179 #[v] w fun e w' => e = .returned (.int .i64 (i4 (lei l))) ∧ w = w' := by
 have hi := rint_any v l B F w hB hs (by omega) (by omega)
 have hlt := lei_lt l
 rw [h] at hlt
 have hlt2 : lei l < 4294967296 := hlt
 obtain ⟨n, hn⟩ : ∃ n, lei l = n := ⟨_, rfl⟩
 rw [hn] at hi hlt2 ⊢
 clear hn hlt hB hs h
 by_cases h4 : n = 4294967295
 · subst h4
   have hz : i4 4294967295 = -1 := rfl
   rw [hz]
   clear hz
   go_enter Tryz.func179, Tryz.ntmps179
   go_wp2_with fail
   refine hi.mono ?_
   rintro e w1 ⟨rfl, rfl⟩
   go_wp2
   go_ret
   exact ⟨rfl, rfl⟩
 · have hz : i4 n = (n : Int) := by unfold i4; rw [if_neg h4]
   rw [hz]
   have h5 : ((n : Int) == 4294967295) = false := by simp; omega
   have h6 : (n == 4294967295) = false := by simpa using h4
   clear hz
   go_enter Tryz.func179, Tryz.ntmps179
   go_wp2_with fail
   refine hi.mono ?_
   rintro e w1 ⟨rfl, rfl⟩
   go_wp2
   go_ret
   exact ⟨rfl, rfl⟩
end Go.Proofs.YtfhbmblbidcmmaaGreat
