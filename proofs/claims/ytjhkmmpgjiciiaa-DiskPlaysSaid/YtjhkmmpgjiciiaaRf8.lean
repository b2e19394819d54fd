/-
  The reference disk: Sync.
-/
import Derived.Test.YtjhkmmpgjiciiaaRf7
namespace Go.Proofs.Ytjhkmmpgjiciiaa
set_option linter.unusedSimpArgs false
set_option linter.unusedVariables false
open Go.RowKit Go.Sl Go.Dk
attribute [local go_sem ↓] Go.wp_at_zero Go.wp_at_succ
attribute [local go_sem] Go.Sl.cell_sat Go.Sl.frozen_sat

set_option maxRecDepth 100000 in
set_option maxHeartbeats 1600000 in
theorem sync_ref (W : Nat) (d : Dk) (m : Nat) (nm : ByteArray) (F : Assn) (w : World) (hs : Sat (refP W d * F) w) (hsz : nm.size ≤ 9223372036854775807) (ok : Ok m d) (hm : m ≤ 1099511627776) :
    Calls Try.prog 80 #[.pointer (some ⟨W, 0, none⟩), .string nm] w fun e w' => e = .returned (.int .i64 (d.sync nm).1) ∧ Sat (refP W (d.sync nm).2 * F) w' := by
  have hna := named_ref nm w hsz
  have HS : Aside (Sat (refP W d * F) w) := hs
  obtain ⟨h, fa, fc, fs, pa, pc, ps, hr, hs1⟩ := ref_open hs
  clear hs
  cases hn : named nm with
  | false =>
    have e1 : d.sync nm = (1, d) := by unfold Dk.sync; rw [may_1 hn, if_pos (by omega)]
    rw [hn] at hna
    rw [e1]
    clear e1 hr hs1 hn
    go_enter Try.func80, Try.ntmps80
    go_wp2_with (refine hna.mono ?_; rintro e w' ⟨rfl, rfl⟩)
    go_ret
    exact ⟨rfl, HS.out⟩
  | true =>
    rw [hn] at hna
    have hs2 : Sat (coreR W h (.slice fa fs.length fc) (.slice pa ps.length pc) * (rw TRF 4 (.slice fa fs.length fc) (frows fs) * (rfsA fs * ((rw TRP 4 (.slice pa ps.length pc) (qrows ps) * rpsA ps) * F)))) w := hs1.eq (by unfold refA; ac_rfl)
    cases hd : h.down with
    | true =>
      have e1 : d.sync nm = (8, d) := by unfold Dk.sync; rw [may_8 hn (by rw [← hr.down]; exact hd), if_pos (by omega)]
      rw [e1]
      obtain ⟨room, changes, left, armed, down⟩ := h
      simp only at hd
      subst hd
      haveI := hs2.i
      clear e1 hr hs1 hn
      go_enter Try.func80, Try.ntmps80
      go_wp2_with (refine hna.mono ?_; rintro e w' ⟨rfl, rfl⟩)
      go_ret
      exact ⟨rfl, HS.out⟩
    | false =>
      have hfi := find_ref W h fa fc (.slice pa ps.length pc) fs nm _ w hs2
      have hdd : d.down = false := by rw [← hr.down]; exact hd
      rcases hr.find ok nm with ⟨h1, h2, h3⟩ | ⟨l1, x, l2, hfs, hx, h3, h1, h2, hb1, hb2⟩
      · have e1 : d.sync nm = (6, d) := by unfold Dk.sync; rw [may_6 hn hdd h2, if_pos (by omega)]
        rw [e1]
        rw [h1] at hfi
        obtain ⟨room, changes, left, armed, down⟩ := h
        simp only at hd
        subst hd
        haveI := hs2.i
        clear e1 hr hs1 hn h1 h2 h3 hdd
        go_enter Try.func80, Try.ntmps80
        go_wp2_with (first | (refine hna.mono ?_; rintro e w' ⟨rfl, rfl⟩) | (refine hfi.mono ?_; rintro e w' ⟨rfl, rfl⟩))
        go_ret
        exact ⟨rfl, HS.out⟩
      · have hmay : d.may nm true = 0 := may_0 hn hdd h2
        have hch := change_ref_any W h (.slice fa fs.length fc) (.slice pa ps.length pc) fs ps d m _ w hs2 hr ok hm
        rw [h1] at hfi
        obtain ⟨j, hjj⟩ : ∃ q : Nat, l1.length = q := ⟨_, rfl⟩
        rw [hjj] at hfi
        have HC : Aside (h.down = false) := hd
        cases hst : d.stop with
        | true =>
          have e1 : d.sync nm = (8, { d with down := true }) := by unfold Dk.sync; rw [if_neg (by simp [hmay]), if_pos hst]
          rw [e1]
          simp only [hst, if_true] at hch
          obtain ⟨room, changes, left, armed, down⟩ := h
          simp only at hd
          subst hd
          haveI := hs2.i
          clear e1 hr hs1 hn h1 h2 h3 hdd hmay hjj hfs hx HC
          go_enter Try.func80, Try.ntmps80
          go_wp2_with (first | (refine hna.mono ?_; rintro e w' ⟨rfl, rfl⟩) | (refine hfi.mono ?_; rintro e w' ⟨rfl, rfl⟩) | (refine hch.mono ?_; rintro e w5 ⟨h', rfl, hr', _, hs5⟩))
          go_ret
          exact ⟨rfl, ref_shut (fa := fa) (fc := fc) (pa := pa) (pc := pc) hr' (hs5.eq (by unfold refA; ac_rfl))⟩
        | false =>
          have e1 : d.sync nm = (0, (d.ticked.put nm { x.f with safe := x.f.now, sure := true }).settled nm) := by unfold Dk.sync; rw [if_neg (by simp [hmay]), if_neg (by simp [hst]), h2]; rfl
          rw [e1]
          simp only [hst, Bool.false_eq_true, if_false] at hch
          subst hx
          have hxj : fs[l1.length]? = some x := by rw [hfs]; simp
          have hj : l1.length < fs.length := by rw [hfs]; simp
          obtain ⟨g, rfl⟩ := row_some (hs2.take (rw TRF 4 (.slice fa fs.length fc) (frows fs))) (by omega)
          obtain ⟨i0, i1, i2, i3⟩ := frows_at hxj
          rw [hjj] at hj i0 i1 i2 i3
          have hj' : (j : Int) < fs.length := by omega
          haveI k1 : ∀ v, At ((frows fs).set (j * 4 + 2) v) (j * 4 + 3) (.bool x.f.sure) := fun v => ⟨by rw [List.getElem?_set_ne (by omega)]; exact i3.out⟩
          haveI k2 : ∀ v, At ((frows fs).set (j * 4 + 2) v) (j * 4 + 1) (.slice x.na x.f.now.length x.nc) := fun v => ⟨by rw [List.getElem?_set_ne (by omega)]; exact i1.out⟩
          haveI k3 : ∀ v u, At (((frows fs).set (j * 4 + 2) v).set (j * 4 + 3) u) (j * 4 + 1) (.slice x.na x.f.now.length x.nc) := fun v u => ⟨by rw [List.getElem?_set_ne (by omega), List.getElem?_set_ne (by omega)]; exact i1.out⟩
          have hco := fun (F : Assn) (w : World) (h : Sat (rw TB 1 (.slice x.na x.f.now.length x.nc) (bys x.f.now) * F) w) => copy_ref _ x.f.now _ F w Reads.rw h (by omega)
          have HCO : Aside (∀ (F : Assn) (w : World), Sat (rw TB 1 (.slice x.na x.f.now.length x.nc) (bys x.f.now) * F) w → Calls Try.prog 97 #[.slice x.na x.f.now.length x.nc] w fun e w' => ∃ a c, e = .returned (.slice a x.f.now.length c) ∧ Sat (rw TB 1 (.slice a x.f.now.length c) (bys x.f.now) * (rw TB 1 (.slice x.na x.f.now.length x.nc) (bys x.f.now) * F)) w') := hco
          have HF : Aside (fs = l1 ++ x :: l2 ∧ rfsA fs = rfA x * (rfsA l1 * rfsA l2)) := ⟨hfs, by rw [hfs, rfsA_mid]⟩
          have HL : Aside (l1.length = j ∧ ∀ y ∈ l1, y.nm ≠ x.nm) := ⟨hjj, h3⟩
          have hpl : ps.length ≤ 1099511627776 := by
            have a1 := ok.pend
            have a2 := congrArg List.length hr.pend
            rw [List.length_map] at a2
            omega
          obtain ⟨room, changes, left, armed, down⟩ := h
          simp only at hd
          subst hd
          haveI := hs2.i
          have HR0 : Aside (RefOf ⟨room, changes, left, armed, false⟩ fs ps d) := hr
          clear e1 hr hs1 hn h1 h2 h3 hdd hmay hjj hfs HC hco hxj
          go_enter Try.func80, Try.ntmps80
          go_wp2_with fail
          refine hna.mono ?_
          rintro e w' ⟨rfl, rfl⟩
          go_wp2_with fail
          refine hfi.mono ?_
          rintro e w' ⟨rfl, rfl⟩
          go_wp2_with fail
          refine hch.mono ?_
          rintro e w5 ⟨h', rfl, hr', _, hs5⟩
          clear hs2 hna hfi hch
          go_upto_region 11 with (fail)
          have hs6 : Sat (rw TB 1 (.slice x.na x.f.now.length x.nc) (bys x.f.now) * (rw TB 1 (.slice x.sa x.f.safe.length x.sc) (bys x.f.safe) * (rfsA l1 * (rfsA l2 * (coreR W h' (.slice (some ⟨g, 0, none⟩) fs.length fc) (.slice pa ps.length pc) * (rw TRF 4 (.slice (some ⟨g, 0, none⟩) fs.length fc) (frows fs) * (rw TRP 4 (.slice pa ps.length pc) (qrows ps) * (rpsA ps * F)))))))) w5 := hs5.eq (by rw [HF.out.2]; unfold rfA; ac_rfl)
          haveI := hs6.i
          have HR1 : Aside (RefOf h' fs ps d.ticked) := hr'
          clear hs5 hr'
          go_region_held3 (fun w' => w'.cell? ⟨W, 5, none⟩ = some (.slice (some ⟨g, 0, none⟩) fs.length fc) ∧ w'.cell? ⟨g, j * 4 + 1, none⟩ = some (.slice x.na x.f.now.length x.nc)) (first | exact ⟨cell_sat _ _ _, cell_sat _ _ _⟩) (first
            | (go_at_call 97; refine (HCO.out _ _ (takeI (rw TB 1 (.slice x.na x.f.now.length x.nc) (bys x.f.now)))).mono ?_; rintro e w7 ⟨a7, c7, rfl, hs7⟩; haveI := hs7.i))
          all_goals
            go_wp2_with fail
            refine (settled_ref W h' (.slice (some ⟨g, 0, none⟩) fs.length fc) pa pc ps x.nm _ _ (satI.take2 (coreR W h' (.slice (some ⟨g, 0, none⟩) fs.length fc) (.slice pa ps.length pc)) (rw TRP 4 (.slice pa ps.length pc) (qrows ps))) hpl).mono ?_
            rintro e w9 ⟨a9, c9, rfl, hs9⟩
            go_wp2
            go_ret
            obtain ⟨x', hx'⟩ : ∃ y : Rf, y = { x with f := { x.f with safe := x.f.now, sure := true }, sa := a7, sc := c7 } := ⟨_, rfl⟩
            have hxn : x'.nm = x.nm := by rw [hx']
            have hxf : x'.f = { x.f with safe := x.f.now, sure := true } := by rw [hx']
            have hr2 := HR1.out
            have hlen : (l1 ++ x' :: l2).length = fs.length := by rw [HF.out.1]; simp
            have hrow : ((frows fs).set (j * 4 + 2) (.slice a7 x.f.now.length c7)).set (j * 4 + 3) (.bool true) = frows (l1 ++ x' :: l2) := by rw [HF.out.1, frows_set2 j HL.out.1, hx']
            have hpl2 : rpsA ps = rpsA (othersR x.nm ps) * rpsA (ps.filter fun y => !(y.p.nm != x.nm)) := rpsA_filter _ ps
            refine ⟨rfl, ref_shut (h := h') (fa := some ⟨g, 0, none⟩) (fc := fc) (fs := l1 ++ x' :: l2) (pa := a9) (pc := c9) (ps := othersR x.nm ps) ?_ (Sat.weak (B := rw TB 1 (.slice x.sa x.f.safe.length x.sc) (bys x.f.safe) * rpsA (ps.filter fun y => !(y.p.nm != x.nm))) (hs9.eq ?_))⟩
            · have hfs := HF.out.1
              have hr3 := HR0.out
              rw [hfs] at hr2 hr3
              refine ⟨hr2.room, hr2.changes, hr2.armed, hr2.down, hr2.left, ?_, rising_put hxn hr2.rising, ?_⟩
              · have := hr3.put_perm ok HL.out.2 x' hxn
                rw [hxf] at this
                exact this
              · rw [othersR_pents, hr2.pend]; rfl
            · unfold refA
              have hA : rfA x' = rw TB 1 (.slice x.na x.f.now.length x.nc) (bys x.f.now) * rw TB 1 (.slice a7 x.f.now.length c7) (bys x.f.now) := by rw [hx']; rfl
              rw [hrow, hlen, rfsA_mid, hpl2, hA]
              ac_rfl

end Go.Proofs.Ytjhkmmpgjiciiaa
