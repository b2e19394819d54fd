/-
  The reference disk: Write.
-/
import Derived.Test.YtjhkmmpgjiciiaaRf12
import Derived.Deep.DeepCutAuto
import Derived.Deep.RegionLaw
namespace Go.Proofs.Ytjhkmmpgjiciiaa
set_option linter.unusedSimpArgs false
set_option linter.unusedVariables false
open Go.RowKit Go.Sl Go.Dk
attribute [local go_sem ↓] Go.wp_at_zero Go.wp_at_succ
attribute [local go_sem] Go.Sl.cell_sat Go.Sl.frozen_sat

theorem part_next {k n j i : Nat} (h1 : j < i) (h2 : i ≤ n) (h3 : ∀ q, j < q → q < i → (k + q) % 64 ≠ 0) (h4 : i = n ∨ (k + i) % 64 = 0) : Dk.part (k + j) (n - j) = i - j := by
  unfold Dk.part
  by_cases h : 64 - (k + j) % 64 < i - j
  · exact absurd (by omega) (h3 (j + (64 - (k + j) % 64)) (by omega) (by omega))
  · omega

/-- the pieces so far, those still to come, and all -/
def SectR (nm : ByteArray) (k : Nat) (b : List UInt8) (j : Nat) (L0 L : List Rp) : Prop := L.map (·.p) ++ sect nm (k + j) (b.drop j) = L0.map (·.p) ++ sect nm k b
theorem SectR.step {nm : ByteArray} {k : Nat} {b : List UInt8} {j i : Nat} {L0 L : List Rp} (h : SectR nm k b j L0 L) (hj : j < b.length) (hp : Dk.part (k + j) (b.length - j) = i - j) (hi : j ≤ i) (a : Option Addr) (c : Nat) :
    SectR nm k b i L0 (L ++ [⟨⟨nm, k + j, some ((b.drop j).take (i - j))⟩, a, c⟩]) := by
  unfold SectR at *
  rw [← h, sect_cons nm (k + j) (b.drop j) (by simp; omega)]
  simp [List.drop_drop, hp, Nat.add_assoc, show j + (i - j) = i by omega]
theorem SectR.done {nm : ByteArray} {k : Nat} {b : List UInt8} {j : Nat} {L0 L : List Rp} (h : SectR nm k b j L0 L) (hj : b.length ≤ j) : L.map (·.p) = L0.map (·.p) ++ sect nm k b := by
  unfold SectR at h
  rw [← h, List.drop_of_length_le hj, sect_nil, List.append_nil]

theorem frows_set1' {l1 : List Rf} {x : Rf} {l2 : List Rf} (j : Nat) (hj : l1.length = j) (a : Option Addr) (c : Nat) (b : List UInt8) :
    (frows (l1 ++ x :: l2)).set (j * 4 + 1) (.slice a b.length c) = frows (l1 ++ { x with f := { x.f with now := b }, na := a, nc := c } :: l2) := frows_set1 j hj a c b

set_option maxRecDepth 100000 in
set_option maxHeartbeats 40000000 in
theorem write_ref (W : Nat) (d : Dk) (m : Nat) (nm : ByteArray) (k : Int) (v : Value) (b : List UInt8) (B F : Assn) (hB : Reads B v b) (w : World) (hs : Sat (refP W d * (B * F)) w) (hsz : nm.size ≤ 9223372036854775807) (hbl : b.length ≤ 1099511627776) (ok : Ok m d) (hm : m ≤ 1099511627776) :
    Calls Try.prog 78 #[.pointer (some ⟨W, 0, none⟩), .string nm, .int .i64 k, v] w fun e w' => e = .returned (.int .i64 (d.write nm k b).1) ∧ Sat (refP W (d.write nm k b).2 * (B * F)) w' := by
  have hna := named_ref nm w hsz
  have HS : Aside (Sat (refP W d * (B * F)) w) := hs
  obtain ⟨h, fa, fc, fs, pa, pc, ps, hr, hs1⟩ := ref_open hs
  obtain ⟨va, vc, rfl, hvc, hvm⟩ := (hB _ _ (hs.take B)).len
  clear hs
  cases hn : named nm with
  | false =>
    have e1 : d.write nm k b = (1, d) := by unfold Dk.write; rw [may_1 hn, if_pos (by omega)]
    rw [hn] at hna
    rw [e1]
    clear e1 hr hs1 hn
    go_enter Try.func78, Try.ntmps78
    go_wp2_with (refine hna.mono ?_; rintro e w' ⟨rfl, rfl⟩)
    go_ret
    exact ⟨rfl, HS.out⟩
  | true =>
    rw [hn] at hna
    have hs2 : Sat (coreR W h (.slice fa fs.length fc) (.slice pa ps.length pc) * (rw TRF 4 (.slice fa fs.length fc) (frows fs) * (rfsA fs * ((rw TRP 4 (.slice pa ps.length pc) (qrows ps) * rpsA ps) * (B * F))))) w := hs1.eq (by unfold refA; ac_rfl)
    cases hd : h.down with
    | true =>
      have e1 : d.write nm k b = (8, d) := by unfold Dk.write; rw [may_8 hn (by rw [← hr.down]; exact hd), if_pos (by omega)]
      rw [e1]
      obtain ⟨room, changes, left, armed, down⟩ := h
      simp only at hd
      subst hd
      haveI := hs2.i
      clear e1 hr hs1 hn
      go_enter Try.func78, Try.ntmps78
      go_wp2_with (refine hna.mono ?_; rintro e w' ⟨rfl, rfl⟩)
      go_ret
      exact ⟨rfl, HS.out⟩
    | false =>
      have hfi := find_ref W h fa fc (.slice pa ps.length pc) fs nm _ w hs2
      have hdd : d.down = false := by rw [← hr.down]; exact hd
      have hmay : d.may nm false = 0 := may_00 hn hdd
      have hmax : fs.length ≤ 16 := hr.len ok
      obtain ⟨sz, hhad⟩ : ∃ z, had (d.get nm) = z := ⟨_, rfl⟩
      have hszb : sz ≤ 1099511627776 := by
        rcases hr.find ok nm with ⟨h1, h2, h3⟩ | ⟨l1, x, l2, hfs, hx, h3, h1, h2, hb1, hb2⟩
        · rw [h2] at hhad; subst hhad; simp [had]
        · rw [h2] at hhad; subst hhad; exact hb1
      have hwr : d.write nm k b = if k < 0 ∨ (sz : Int) < k then (2, d) else
          if b.length = 0 then (0, d) else
          if d.fits (d.get nm) (max (sz : Int) (k + b.length)) ≠ 0 then (d.fits (d.get nm) (max (sz : Int) (k + b.length)), d) else
          if d.stop then (8, { d with down := true }) else (0, d.written nm k.toNat b) := by
        unfold Dk.write; rw [if_neg (by simp [hmay]), hhad]
      obtain ⟨⟨zr, dr⟩, hzr⟩ : ∃ r, d.write nm k b = r := ⟨_, rfl⟩
      rw [hzr]
      have HW : Aside ((zr, dr) = if k < 0 ∨ (sz : Int) < k then (2, d) else
          if b.length = 0 then (0, d) else
          if d.fits (d.get nm) (max (sz : Int) (k + b.length)) ≠ 0 then (d.fits (d.get nm) (max (sz : Int) (k + b.length)), d) else
          if d.stop then (8, { d with down := true }) else (0, d.written nm k.toNat b)) := (by rw [← hzr, hwr] : _ = _)
      have hfind := hr.find ok nm
      have hch := change_ref_any W h (.slice fa fs.length fc) (.slice pa ps.length pc) fs ps d m
      have HR : Aside (RefOf h fs ps d) := hr
      have hro := ok.room
      have hbig : big = 1099511627776 := rfl
      rw [hbig, ← hr.room] at hro
      have hlb := hr.sum_le ok
      have HFI : Aside (∀ (z : Int), 0 ≤ z → z ≤ 4611686018427387903 → Calls Try.prog 99 #[.pointer (some ⟨W, 0, none⟩), .string nm, .int .i64 z] w fun e w' => e = .returned (.int .i64 (d.fits (d.get nm) z)) ∧ Sat (coreR W h (.slice fa fs.length fc) (.slice pa ps.length pc) * (rw TRF 4 (.slice fa fs.length fc) (frows fs) * (rfsA fs * ((rw TRP 4 (.slice pa ps.length pc) (qrows ps) * rpsA ps) * (B * F))))) w') := by
        intro z z1 z2
        have hfit := fits_ref W h fa fc (.slice pa ps.length pc) fs nm z _ w hs2 (by omega) (hr.len ok) z1 z2 (by omega) (by omega)
        have hfe : fitR h.room (rents fs) (fget nm (rents fs)) z = d.fits (d.get nm) z := by
          rw [fits_fitR, hr.get ok nm, hr.room]
          unfold fitR
          rw [sum_perm hr.files, hr.files.length_eq]
        rw [hfe] at hfit
        exact hfit
      have HFN : Aside ((findI nm fs = -1 ∧ d.get nm = none ∧ ∀ y ∈ fs, y.nm ≠ nm) ∨ ∃ l1 x l2, fs = l1 ++ x :: l2 ∧ x.nm = nm ∧ (∀ y ∈ l1, y.nm ≠ nm) ∧ findI nm fs = (l1.length : Nat) ∧ d.get nm = some x.f ∧ x.f.now.length ≤ 1099511627776 ∧ x.f.safe.length ≤ 1099511627776) := hfind
      have HH : Aside (had (d.get nm) = sz) := hhad
      obtain ⟨room, changes, left, armed, down⟩ := h
      simp only at hd
      subst hd
      haveI := hs2.i
      clear hwr hfind hbig hr hs1 hn hdd hmay hhad hzr
      go_enter Try.func78, Try.ntmps78
      go_wp2_with fail
      refine hna.mono ?_
      rintro e w' ⟨rfl, rfl⟩
      go_wp2_with fail
      refine hfi.mono ?_
      rintro e w' ⟨rfl, rfl⟩
      clear hna hfi
      go_upto_if 27 with (fail)
      go_cut [9, 10] (fun t9 t10 wx => t9 = .int .i64 (sz : Int) ∧ w = wx)
      case first =>
        as_aux_lemma =>
          rcases HFN.out with ⟨h1, h2, h3⟩ | ⟨l1, x, l2, hfs, hx, h3, h1, h2, hb1, hb2⟩
          · have hz : sz = 0 := by rw [← HH.out, h2]; rfl
            subst hz
            rw [h1]
            clear h1 h2 h3
            go_wp2_with fail
            go_meet
            exact ⟨rfl, rfl⟩
          · have hz : sz = x.f.now.length := by rw [← HH.out, h2]; rfl
            have hxj : fs[l1.length]? = some x := by rw [hfs]; simp
            have hj : l1.length < fs.length := by rw [hfs]; simp
            obtain ⟨j, hjj⟩ : ∃ q : Nat, l1.length = q := ⟨_, rfl⟩
            obtain ⟨g, rfl⟩ := row_some (hs2.take (rw TRF 4 (.slice fa fs.length fc) (frows fs))) (by omega)
            obtain ⟨_, i1, _, _⟩ := frows_at hxj
            rw [hjj] at h1 hj i1
            rw [h1]
            have hj' : (j : Int) < fs.length := by omega
            subst hz
            haveI := hs2.i
            clear h1 h2 h3 hxj hjj hfs
            go_wp2_with fail
            go_meet
            exact ⟨rfl, rfl⟩
      case rest =>
        obtain ⟨rfl, rfl⟩ := hcut
        have hW := HW.out
        by_cases hq : k < 0 ∨ (sz : Int) < k
        · rw [if_pos hq] at hW
          obtain ⟨rfl, rfl⟩ := Prod.mk.inj hW
          clear hW HW
          by_cases g1 : k < 0
          · have g1' : decide (k < 0) = true := by simpa using g1
            go_wp2
            go_ret
            exact ⟨rfl, HS.out⟩
          · have g1' : decide (k < 0) = false := by simpa using g1
            have g2' : decide ((sz : Int) < k) = true := by simp; omega
            go_wp2
            go_ret
            exact ⟨rfl, HS.out⟩
        · rw [if_neg hq] at hW
          obtain ⟨k, rfl⟩ := Int.eq_ofNat_of_zero_le (show 0 ≤ k by omega)
          have g2' : decide ((sz : Int) < k) = false := by simp; omega
          have hksz : k ≤ sz := by omega
          clear hq HW
          by_cases hb0 : b.length = 0
          · rw [if_pos hb0] at hW
            obtain ⟨rfl, rfl⟩ := Prod.mk.inj hW
            have hb0' : ((b.length : Int) == 0) = true := by simp [hb0]
            clear hW
            go_wp2
            go_ret
            exact ⟨rfl, HS.out⟩
          · rw [if_neg hb0] at hW
            have hb0' : ((b.length : Int) == 0) = false := by rw [beq_eq_false_iff_ne]; omega
            obtain ⟨z, hz⟩ : ∃ z, d.fits (d.get nm) (max (sz : Int) ((k : Int) + b.length)) = z := ⟨_, rfl⟩
            rw [hz] at hW
            have HZ : Aside (d.fits (d.get nm) (max (sz : Int) ((k : Int) + b.length)) = z) := hz
            have HW2 : Aside ((zr, dr) = if z ≠ 0 then (z, d) else if d.stop then (8, { d with down := true }) else (0, d.written nm (k : Int).toNat b)) := hW
            clear hz hW
            go_upto_region 13 with (fail)
            go_cut [11] (fun t11 wx => t11 = .int .i64 z ∧ Sat (coreR W ⟨room, changes, left, armed, false⟩ (.slice fa fs.length fc) (.slice pa ps.length pc) * (rw TRF 4 (.slice fa fs.length fc) (frows fs) * (rfsA fs * ((rw TRP 4 (.slice pa ps.length pc) (qrows ps) * rpsA ps) * (B * F))))) wx)
            case first =>
              as_aux_lemma =>
                go_wp2_with (go_at_call 99; refine (HFI.out _ ?_ ?_).mono ?_; omega; omega; rintro e w1 ⟨rfl, hs3⟩)
                all_goals
                  go_meet
                  refine ⟨?_, hs3⟩
                  rw [← HZ.out]
                  try (congr 2; omega)
            case rest =>
              obtain ⟨rfl, hs3⟩ := hcut
              clear hs2
              have hW := HW2.out
              by_cases h0 : z = 0
              · subst h0
                rw [if_neg (by simp)] at hW
                have HW3 : Aside ((zr, dr) = if d.stop then (8, { d with down := true }) else (0, d.written nm k b)) := hW
                clear hW HW2
                have hch2 := hch _ _ hs3 HR.out ok hm
                clear hs3 hch
                go_wp2_with fail
                refine hch2.mono ?_
                rintro e w5 ⟨h', rfl, hr', _, hs5⟩
                clear hch2
                cases hst : d.stop with
                | true =>
                  have hW := HW3.out
                  rw [if_pos hst] at hW
                  obtain ⟨rfl, rfl⟩ := Prod.mk.inj hW
                  rw [if_pos hst] at hr'
                  clear hW HW3
                  go_wp2
                  go_ret
                  exact ⟨rfl, ref_shut (fa := fa) (fc := fc) (pa := pa) (pc := pc) hr' (hs5.eq (by unfold refA; ac_rfl))⟩
                | false =>
                  have hW := HW3.out
                  rw [if_neg (by simp [hst])] at hW
                  obtain ⟨rfl, rfl⟩ := Prod.mk.inj hW
                  rw [if_neg (by simp [hst])] at hr'
                  have hma := made_any W h' fa fc (.slice pa ps.length pc) fs ps d.ticked (m + 1) nm (rw TRP 4 (.slice pa ps.length pc) (qrows ps) * (rpsA ps * (B * F))) w5 hr' (ok_ticked ok) (hs5.eq (by ac_rfl))
                  have HR5 : Aside (RefOf h' fs ps d.ticked) := hr'
                  have hpl : ps.length ≤ 1099511627776 := by
                    have a1 := ok.pend
                    have a2 := congrArg List.length HR.out.pend
                    rw [List.length_map] at a2
                    omega
                  clear hW HW3 hst hs5 hr'
                  go_wp2_with fail
                  refine hma.mono ?_
                  rintro e w7 ⟨g, c7, l1, x, l2, rfl, M, hs7⟩
                  clear hma
                  obtain ⟨fs7, hf7⟩ : ∃ l, l1 ++ x :: l2 = l := ⟨_, rfl⟩
                  have hxj : fs7[l1.length]? = some x := by rw [← hf7]; simp
                  have hj : l1.length < fs7.length := by rw [← hf7]; simp
                  obtain ⟨j, hjj⟩ : ∃ q : Nat, l1.length = q := ⟨_, rfl⟩
                  obtain ⟨i0, i1, i2, i3⟩ := frows_at hxj
                  rw [hjj] at hj i0 i1 i2 i3
                  have hj' : (j : Int) < fs7.length := by omega
                  have hxl : x.f.now.length ≤ 1099511627776 := by
                    have e1 : x.f.now.length = sz := by
                      rw [M.f, ← HH.out]
                      show ((d.get nm).getD Dk.fl0).now.length = _
                      cases d.get nm <;> rfl
                    omega
                  have HM : Aside (Made d.ticked nm l1 x l2 ∧ l1 ++ x :: l2 = fs7 ∧ l1.length = j) := ⟨M, hf7, hjj⟩
                  obtain ⟨nl, hnl⟩ : ∃ z, (laid x.f.now k b).length = z := ⟨_, rfl⟩
                  have hs8 : Sat (rw TB 1 (.slice x.na x.f.now.length x.nc) (bys x.f.now) * (B * (coreR W h' (.slice (some ⟨g, 0, none⟩) fs7.length c7) (.slice pa ps.length pc) * (rw TRF 4 (.slice (some ⟨g, 0, none⟩) fs7.length c7) (frows fs7) * (rw TB 1 (.slice x.sa x.f.safe.length x.sc) (bys x.f.safe) * (rfsA l1 * (rfsA l2 * (rw TRP 4 (.slice pa ps.length pc) (qrows ps) * (rpsA ps * F))))))))) w7 := by
                    rw [hf7] at hs7
                    refine hs7.eq ?_
                    rw [← hf7, rfsA_mid]
                    unfold rfA
                    ac_rfl
                  have hlay := fun (F : Assn) (w : World) (h : Sat (rw TB 1 (.slice x.na x.f.now.length x.nc) (bys x.f.now) * (B * F)) w) => lay_ref _ (.slice va b.length vc) x.f.now b k _ F w (Reads.left (B := B) Reads.rw) (Reads.right hB) (h.eq (sep_assoc _ _ _).symm) (by omega) (by omega)
                  rw [hnl] at hlay
                  have HLAY : Aside (∀ (F : Assn) (w : World), Sat (rw TB 1 (.slice x.na x.f.now.length x.nc) (bys x.f.now) * (B * F)) w → Calls Try.prog 102 #[.slice x.na x.f.now.length x.nc, .int .i64 k, .slice va b.length vc] w fun e w' => ∃ a c, e = .returned (.slice a nl c) ∧ Sat (rw TB 1 (.slice a nl c) (bys (laid x.f.now k b)) * (rw TB 1 (.slice x.na x.f.now.length x.nc) (bys x.f.now) * (B * F))) w') := fun F w h => (hlay F w h).mono fun e w' ⟨a, c, h1, h2⟩ => ⟨a, c, h1, h2.eq (by ac_rfl)⟩
                  have HNL : Aside ((laid x.f.now k b).length = nl) := hnl
                  haveI := hs8.i
                  rw [hjj]
                  clear hs7 M hf7 hjj hxj hnl hlay
                  go_upto_region 20 with (fail)
                  go_cut [13] (fun t13 wx => ∃ a9 c9, Sat (coreR W h' (.slice (some ⟨g, 0, none⟩) fs7.length c7) (.slice pa ps.length pc) * (rw TRP 4 (.slice pa ps.length pc) (qrows ps) * (rpsA ps * (B * (rw TRF 4 (.slice (some ⟨g, 0, none⟩) fs7.length c7) ((frows fs7).set (j * 4 + 1) (.slice a9 nl c9)) * (rw TB 1 (.slice a9 nl c9) (bys (laid x.f.now k b)) * (rw TB 1 (.slice x.sa x.f.safe.length x.sc) (bys x.f.safe) * (rfsA l1 * (rfsA l2 * F))))))))) wx)
                  case first =>
                    go_region_law first
                      | (go_simp; go_at_call 102; refine (HLAY.out _ _ (satI.take2 (rw TB 1 (.slice x.na x.f.now.length x.nc) (bys x.f.now)) B)).mono ?_; rintro e w9 ⟨a9, c9, rfl, hs9⟩; haveI := hs9.i)
                    all_goals
                      go_wp2_with fail
                      go_meet
                      exact ⟨a9, c9, satI_weak (C := rw TB 1 (.slice x.na x.f.now.length x.nc) (bys x.f.now)) (by ac_rfl)⟩
                  case rest =>
                    obtain ⟨a9, c9, hs9⟩ := hcut
                    clear hs8 HLAY this
                    obtain ⟨R, HRR⟩ : ∃ R, Aside (rw TRF 4 (.slice (some ⟨g, 0, none⟩) fs7.length c7) ((frows fs7).set (j * 4 + 1) (.slice a9 nl c9)) * (rw TB 1 (.slice a9 nl c9) (bys (laid x.f.now k b)) * (rw TB 1 (.slice x.sa x.f.safe.length x.sc) (bys x.f.safe) * (rfsA l1 * (rfsA l2 * F)))) = R) := ⟨_, rfl⟩
                    rw [HRR.out] at hs9
                    obtain ⟨iB, E⟩ := elemB
                    obtain ⟨iP, EP⟩ := elemRP
                    go_wp2_with fail
                    go_loopg [14, 15] b.length (fun gk t14 t15 wr => ∃ (y i : Nat) (L : List Rp) (pa' : Option Addr) (pc' : Nat), t14 = .int .i64 y ∧ t15 = .int .i64 i ∧ y < i ∧ i ≤ b.length + 1 ∧ y ≤ b.length ∧ L.length ≤ ps.length + y ∧
                      Aside (gk = b.length + 1 - i ∧ (∀ q, y < q → q < i → (k + q) % 64 ≠ 0 ∧ q ≠ b.length) ∧ SectR nm k b y ps L) ∧
                      Sat (coreR W h' (.slice (some ⟨g, 0, none⟩) fs7.length c7) (.slice pa' L.length pc') * (rw TRP 4 (.slice pa' L.length pc') (qrows L) * (rpsA L * (B * R)))) wr)
                    case atStart => exact ⟨0, 1, ps, pa, pc, rfl, rfl, by omega, by omega, by omega, by omega, ⟨by omega, fun q h1 h2 => by omega, by simp [SectR]⟩, hs9⟩
                    case round =>
                      clear hs9
                      obtain ⟨y, i, L, pa', pc', rfl, rfl, hyi, hib, hyb, hLl, A, hs⟩ := hrel
                      by_cases hil : i ≤ b.length
                      · have hil' : (i : Int) ≤ b.length := by omega
                        obtain ⟨bd, hbd⟩ : ∃ bd : Bool, bd = decide (i = b.length ∨ (k + i) % 64 = 0) := ⟨_, rfl⟩
                        have HB : Aside (bd = decide (i = b.length ∨ (k + i) % 64 = 0)) := hbd
                        clear hbd
                        haveI := hs.i
                        go_upto_region 25 with (fail)
                        go_cut [101] (fun t101 wx => t101 = .bool bd ∧ wr = wx)
                        case first =>
                          by_cases q1 : i = b.length
                          · have hb1 : ((i : Int) == (b.length : Int)) = true := by rw [beq_iff_eq]; omega
                            have HB2 : Aside (bd = true) := (by rw [HB.out]; simp [q1] : _ = _)
                            clear q1
                            go_wp2_with fail
                            go_meet
                            exact ⟨by rw [HB2.out], rfl⟩
                          · have hb1 : ((i : Int) == (b.length : Int)) = false := by rw [beq_eq_false_iff_ne]; omega
                            by_cases q2 : (k + i) % 64 = 0
                            · have hb2 : (((k : Int) + (i : Int)) % 64 == 0) = true := by rw [beq_iff_eq]; omega
                              have HB2 : Aside (bd = true) := (by rw [HB.out]; simp [q2] : _ = _)
                              clear q1 q2
                              go_wp2_with fail
                              go_meet
                              exact ⟨by rw [HB2.out], rfl⟩
                            · have hb2 : (((k : Int) + (i : Int)) % 64 == 0) = false := by rw [beq_eq_false_iff_ne]; omega
                              have HB2 : Aside (bd = false) := (by rw [HB.out]; simp [q1, q2] : _ = _)
                              clear q1 q2
                              go_wp2_with fail
                              go_meet
                              exact ⟨by rw [HB2.out], rfl⟩
                        case rest =>
                          obtain ⟨rfl, rfl⟩ := hcut
                          cases bd with
                          | false =>
                            have HQ : Aside (¬ (i = b.length ∨ (k + i) % 64 = 0)) := of_decide_eq_false HB.out.symm
                            go_wp2
                            go_roundg (b.length + 1 - (i + 1))
                            case measure => have := A.out.1; omega
                            case rel =>
                              refine ⟨y, i + 1, L, pa', pc', rfl, by go_num, by omega, by omega, by omega, hLl, ⟨rfl, fun q h1 h2 => ?_, A.out.2.2⟩, hs⟩
                              by_cases hqi : q = i
                              · subst hqi
                                have := HQ.out
                                exact ⟨fun e => this (.inr e), fun e => this (.inl e)⟩
                              · exact A.out.2.1 q h1 (by omega)
                          | true =>
                            have hq : i = b.length ∨ (k + i) % 64 = 0 := of_decide_eq_true HB.out.symm
                            have hpart := part_next (k := k) (n := b.length) hyi hil (fun q h1 h2 => (A.out.2.1 q h1 h2).1) hq
                            have hylt : y < b.length := by omega
                            have HST : Aside (∀ a c, SectR nm k b i ps (L ++ [⟨⟨nm, k + y, some ((b.drop y).take (i - y))⟩, a, c⟩])) := fun a c => A.out.2.2.step hylt hpart (by omega) a c
                            have hcut0 := at_cut (P := Try.prog) E (a := va) (n := b.length) (c := vc) y i (by omega) (by omega)
                            have hrd : Reads B (.slice (cutA va vc y 1) (i - y) (vc - y)) ((b.drop y).take (i - y)) := fun F w h => (hB F w h).cut y i (by omega) (by omega)
                            have hln : ((b.drop y).take (i - y)).length = i - y := by simp; omega
                            have hco := fun (F : Assn) (w : World) (h : Sat (B * F) w) => copy_ref _ _ B F w hrd h (by omega)
                            rw [hln] at hco
                            obtain ⟨n, hn⟩ : ∃ n, i - y = n := ⟨_, rfl⟩
                            have HN : Aside (i - y = n ∧ ((b.drop y).take (i - y)).length = i - y) := ⟨hn, hln⟩
                            rw [hn] at hco hcut0
                            have HCO : Aside (∀ (F : Assn) (w : World), Sat (B * F) w → Calls Try.prog 97 #[.slice (cutA va vc y 1) n (vc - y)] w fun e w' => ∃ a c, e = .returned (.slice a n c) ∧ Sat (rw TB 1 (.slice a n c) (bys ((b.drop y).take n)) * (B * F)) w') := hco
                            have hyi' : (y : Int) ≤ i := by omega
                            have hiv : (i : Int) ≤ vc := by omega
                            clear hq hpart hrd hln hco hn
                            go_upto_region 26 with (fail)
                            have hw1 : IntKind.i64.wrap ((k : Int) + (y : Int)) = (k : Int) + (y : Int) := IntWalk.i64_in _ (by omega)
                            go_region_law first
                              | (go_simp; go_at_call 97; refine (HCO.out _ _ (takeI B)).mono ?_; rintro e w8 ⟨a8, c8, rfl, hs8⟩; haveI := hs8.i)
                              | (refine step_append_sl EP rfl (.tmp 106) (.tmp 117) rfl rfl rfl (takeI (rw TRP 4 (.slice pa' L.length pc') (qrows L))) (Src.new (b := w8.heap.size) (e := TRP) (s := 4) (vs := [.string nm, .int .i64 ((k : Int) + (y : Int)), .slice a8 n c8, .bool false]) (takeI _) rfl (by intro u hu; simp at hu; rcases hu with rfl | rfl | rfl | rfl <;> rfl)) (by unfold maxLen; omega) (by omega) ?_; intro a10 c10 w10 hs10 hnil; clear hnil; haveI := hs10.i)
                            all_goals
                              clear hw1
                              go_wp2
                              go_roundg (b.length + 1 - (i + 1))
                              case measure => have := A.out.1; omega
                              case rel =>
                                refine ⟨i, i + 1, L ++ [⟨⟨nm, k + y, some ((b.drop y).take (i - y))⟩, a8, c8⟩], a10, c10, rfl, by go_num, by omega, by omega, by omega, by simp; omega, ⟨rfl, fun q h1 h2 => by omega, HST.out a8 c8⟩, ?_⟩
                                have e1 : qrows (L ++ [⟨⟨nm, k + y, some ((b.drop y).take (i - y))⟩, a8, c8⟩]) = qrows L ++ [.string nm, .int .i64 ((k : Int) + (y : Int)), .slice a8 n c8, .bool false] := by
                                  rw [qrows_append]
                                  show _ ++ [Value.string nm, .int .i64 ((k + y : Nat) : Int), .slice a8 ((b.drop y).take (i - y)).length c8, .bool false] = _
                                  rw [HN.out.2, HN.out.1, Int.natCast_add]
                                have e2 : rpsA (L ++ [⟨⟨nm, k + y, some ((b.drop y).take (i - y))⟩, a8, c8⟩]) = rpsA L * rw TB 1 (.slice a8 n c8) (bys ((b.drop y).take n)) := by
                                  rw [rpsA_append]
                                  show _ * (rw TB 1 (.slice a8 ((b.drop y).take (i - y)).length c8) (bys ((b.drop y).take (i - y))) * 1) = _
                                  rw [sep_one, HN.out.2, HN.out.1]
                                have e3 : (L ++ [(⟨⟨nm, k + y, some ((b.drop y).take (i - y))⟩, a8, c8⟩ : Rp)]).length = L.length + 1 := by simp
                                rw [e1, e2, e3]
                                exact satI_weak (C := block w8.heap.size TRP [.string nm, .int .i64 ((k : Int) + (y : Int)), .slice a8 n c8, .bool false]) (by ac_rfl)
                      · have hil' : ¬ (i : Int) ≤ b.length := by omega
                        have hyb2 : y = b.length := by
                          by_cases h : y = b.length
                          · exact h
                          · exact absurd rfl (A.out.2.1 b.length (by omega) (by omega)).2
                        have HD : Aside (L.map (·.p) = ps.map (·.p) ++ sect nm k b) := A.out.2.2.done (by omega)
                        clear hyb2
                        go_wp2
                        go_ret
                        obtain ⟨hM, hf7, hjj⟩ := HM.out
                        obtain ⟨x', hx'⟩ : ∃ z : Rf, z = { x with f := { x.f with now := laid x.f.now k b }, na := a9, nc := c9 } := ⟨_, rfl⟩
                        have hxn : x'.nm = nm := by rw [hx']; exact hM.name
                        have hxf : x'.f = { x.f with now := laid x.f.now k b } := by rw [hx']
                        have hlen : (l1 ++ x' :: l2).length = fs7.length := by rw [← hf7]; simp
                        have hrow : (frows fs7).set (j * 4 + 1) (.slice a9 nl c9) = frows (l1 ++ x' :: l2) := by rw [← hf7, ← HNL.out, frows_set1 j hjj, hx']
                        have hr5 := HR5.out
                        have hfx : (d.get nm).getD Dk.fl0 = x.f := hM.f.symm
                        refine ⟨rfl, ref_shut (h := h') (fa := some ⟨g, 0, none⟩) (fc := c7) (fs := l1 ++ x' :: l2) (pa := pa') (pc := pc') (ps := L) ?_ (hs.eq ?_)⟩
                        · refine ⟨hr5.room, hr5.changes, hr5.armed, hr5.down, hr5.left, ?_, hM.rising x' hxn, ?_⟩
                          · have := hM.perm x' hxn
                            rw [hxf] at this
                            show List.Perm _ (fput nm { (d.get nm).getD Dk.fl0 with now := laid ((d.get nm).getD Dk.fl0).now k b } d.files)
                            rw [hfx]
                            exact this
                          · rw [HD.out]
                            show _ = d.pend ++ sect nm k b
                            rw [HR.out.pend]
                        · have hA : rfA x' = rw TB 1 (.slice a9 nl c9) (bys (laid x.f.now k b)) * rw TB 1 (.slice x.sa x.f.safe.length x.sc) (bys x.f.safe) := by rw [hx', ← HNL.out]; rfl
                          rw [← HRR.out]
                          unfold refA
                          rw [hrow, hlen, rfsA_mid, hA]
                          ac_rfl
              · rw [if_pos h0] at hW
                obtain ⟨rfl, rfl⟩ := Prod.mk.inj hW
                have h0' : (zr != 0) = true := by simpa using h0
                clear hW HW2
                go_wp2
                go_ret
                exact ⟨rfl, ref_shut (fa := fa) (fc := fc) (pa := pa) (pc := pc) HR.out (hs3.eq (by unfold refA; ac_rfl))⟩

end Go.Proofs.Ytjhkmmpgjiciiaa
