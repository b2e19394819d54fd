/-
  The reference disk: Cut.
-/
import Derived.Test.YtjhkmmpgjiciiaaRf8
import Derived.Deep.RegionLaw
namespace Go.Proofs.Ytjhkmmpgjiciiaa
set_option linter.unusedSimpArgs false
set_option linter.unusedVariables false
open Go.RowKit Go.Sl Go.Dk
attribute [local go_sem ↓] Go.wp_at_zero Go.wp_at_succ
attribute [local go_sem] Go.Sl.cell_sat Go.Sl.frozen_sat

set_option maxRecDepth 100000 in
set_option maxHeartbeats 1600000 in
theorem cut_ref (W : Nat) (d : Dk) (m : Nat) (nm : ByteArray) (n : Int) (F : Assn) (w : World) (hs : Sat (refP W d * F) w) (hsz : nm.size ≤ 9223372036854775807) (ok : Ok m d) (hm : m ≤ 1099511627776) :
    Calls Try.prog 79 #[.pointer (some ⟨W, 0, none⟩), .string nm, .int .i64 n] w fun e w' => e = .returned (.int .i64 (d.cut nm n).1) ∧ Sat (refP W (d.cut nm n).2 * F) w' := by
  have hna := named_ref nm w hsz
  have HS : Aside (Sat (refP W d * F) w) := hs
  obtain ⟨h, fa, fc, fs, pa, pc, ps, hr, hs1⟩ := ref_open hs
  clear hs
  cases hn : named nm with
  | false =>
    have e1 : d.cut nm n = (1, d) := by unfold Dk.cut; rw [may_1 hn, if_pos (by omega)]
    rw [hn] at hna
    rw [e1]
    clear e1 hr hs1 hn
    go_enter Try.func79, Try.ntmps79
    go_wp2_with (refine hna.mono ?_; rintro e w' ⟨rfl, rfl⟩)
    go_ret
    exact ⟨rfl, HS.out⟩
  | true =>
    rw [hn] at hna
    have hs2 : Sat (coreR W h (.slice fa fs.length fc) (.slice pa ps.length pc) * (rw TRF 4 (.slice fa fs.length fc) (frows fs) * (rfsA fs * ((rw TRP 4 (.slice pa ps.length pc) (qrows ps) * rpsA ps) * F)))) w := hs1.eq (by unfold refA; ac_rfl)
    cases hd : h.down with
    | true =>
      have e1 : d.cut nm n = (8, d) := by unfold Dk.cut; rw [may_8 hn (by rw [← hr.down]; exact hd), if_pos (by omega)]
      rw [e1]
      obtain ⟨room, changes, left, armed, down⟩ := h
      simp only at hd
      subst hd
      haveI := hs2.i
      clear e1 hr hs1 hn
      go_enter Try.func79, Try.ntmps79
      go_wp2_with (refine hna.mono ?_; rintro e w' ⟨rfl, rfl⟩)
      go_ret
      exact ⟨rfl, HS.out⟩
    | false =>
      have hfi := find_ref W h fa fc (.slice pa ps.length pc) fs nm _ w hs2
      have hdd : d.down = false := by rw [← hr.down]; exact hd
      rcases hr.find ok nm with ⟨h1, h2, h3⟩ | ⟨l1, x, l2, hfs, hx, h3, h1, h2, hb1, hb2⟩
      · have e1 : d.cut nm n = (6, d) := by unfold Dk.cut; rw [may_6 hn hdd h2, if_pos (by omega)]
        rw [e1]
        rw [h1] at hfi
        obtain ⟨room, changes, left, armed, down⟩ := h
        simp only at hd
        subst hd
        haveI := hs2.i
        clear e1 hr hs1 hn h1 h2 h3 hdd
        go_enter Try.func79, Try.ntmps79
        go_wp2_with (first | (refine hna.mono ?_; rintro e w' ⟨rfl, rfl⟩) | (refine hfi.mono ?_; rintro e w' ⟨rfl, rfl⟩))
        go_ret
        exact ⟨rfl, HS.out⟩
      · have hmay : d.may nm true = 0 := may_0 hn hdd h2
        have hch := change_ref_any W h (.slice fa fs.length fc) (.slice pa ps.length pc) fs ps d m _ w hs2 hr ok hm
        rw [h1] at hfi
        obtain ⟨j, hjj⟩ : ∃ q : Nat, l1.length = q := ⟨_, rfl⟩
        rw [hjj] at hfi
        subst hx
        have hxj : fs[l1.length]? = some x := by rw [hfs]; simp
        have hj : l1.length < fs.length := by rw [hfs]; simp
        obtain ⟨g, rfl⟩ := row_some (hs2.take (rw TRF 4 (.slice fa fs.length fc) (frows fs))) (by omega)
        obtain ⟨i0, i1, i2, i3⟩ := frows_at hxj
        rw [hjj] at hj i0 i1 i2 i3
        have hj' : (j : Int) < fs.length := by omega
        have hhad : had (d.get x.nm) = x.f.now.length := by rw [h2]; rfl
        by_cases hq : n < 0 ∨ (x.f.now.length : Int) < n
        · have e1 : d.cut x.nm n = (2, d) := by unfold Dk.cut; rw [if_neg (by simp [hmay]), if_pos (by rw [hhad]; exact hq)]
          rw [e1]
          obtain ⟨room, changes, left, armed, down⟩ := h
          simp only at hd
          subst hd
          haveI := hs2.i
          clear e1 hr hs1 hn h1 h2 h3 hdd hmay hjj hfs hch hhad hxj
          by_cases g1 : n < 0
          · have g1' : decide (n < 0) = true := by simpa using g1
            go_enter Try.func79, Try.ntmps79
            go_wp2_with (first | (refine hna.mono ?_; rintro e w' ⟨rfl, rfl⟩) | (refine hfi.mono ?_; rintro e w' ⟨rfl, rfl⟩))
            go_ret
            exact ⟨rfl, HS.out⟩
          · have g1' : decide (n < 0) = false := by simpa using g1
            have g2' : decide ((x.f.now.length : Int) < n) = true := by simp; omega
            go_enter Try.func79, Try.ntmps79
            go_wp2_with (first | (refine hna.mono ?_; rintro e w' ⟨rfl, rfl⟩) | (refine hfi.mono ?_; rintro e w' ⟨rfl, rfl⟩))
            go_ret
            exact ⟨rfl, HS.out⟩
        · obtain ⟨k, rfl⟩ := Int.eq_ofNat_of_zero_le (show 0 ≤ n by omega)
          have g2' : decide ((x.f.now.length : Int) < k) = false := by simp; omega
          cases hst : d.stop with
          | true =>
            have e1 : d.cut x.nm k = (8, { d with down := true }) := by unfold Dk.cut; rw [if_neg (by simp [hmay]), if_neg (by rw [hhad]; exact hq), if_pos hst]
            rw [e1]
            simp only [hst, if_true] at hch
            obtain ⟨room, changes, left, armed, down⟩ := h
            simp only at hd
            subst hd
            haveI := hs2.i
            clear e1 hr hs1 hn h1 h2 h3 hdd hmay hjj hfs hhad hxj
            go_enter Try.func79, Try.ntmps79
            go_wp2_with (first | (refine hna.mono ?_; rintro e w' ⟨rfl, rfl⟩) | (refine hfi.mono ?_; rintro e w' ⟨rfl, rfl⟩) | (refine hch.mono ?_; rintro e w5 ⟨h', rfl, hr', _, hs5⟩))
            go_ret
            exact ⟨rfl, ref_shut (fa := some ⟨g, 0, none⟩) (fc := fc) (pa := pa) (pc := pc) hr' (hs5.eq (by unfold refA; ac_rfl))⟩
          | false =>
            have e1 : d.cut x.nm k = (0, { d.ticked.put x.nm { x.f with now := x.f.now.take k } with pend := d.pend ++ [⟨x.nm, k, none⟩] }) := by unfold Dk.cut; rw [if_neg (by simp [hmay]), if_neg (by rw [hhad]; exact hq), if_neg (by simp [hst]), h2]; rfl
            rw [e1]
            simp only [hst, Bool.false_eq_true, if_false] at hch
            obtain ⟨ie, E⟩ := elemB
            obtain ⟨ip, EP⟩ := elemRP
            have hs3 : Sat (rw TB 1 (.slice x.na x.f.now.length x.nc) (bys x.f.now) * (rw TB 1 (.slice x.sa x.f.safe.length x.sc) (bys x.f.safe) * (rfsA l1 * rfsA l2) * (coreR W h (.slice (some ⟨g, 0, none⟩) fs.length fc) (.slice pa ps.length pc) * (rw TRF 4 (.slice (some ⟨g, 0, none⟩) fs.length fc) (frows fs) * ((rw TRP 4 (.slice pa ps.length pc) (qrows ps) * rpsA ps) * F))))) w := hs2.eq (by rw [show rfsA fs = rfA x * (rfsA l1 * rfsA l2) by rw [hfs, rfsA_mid]]; unfold rfA; ac_rfl)
            obtain ⟨_, hxc, hxm⟩ := (Reads.rw _ _ hs3).n
            have hcut := at_to (P := Try.prog) E (a := x.na) (n := x.f.now.length) (c := x.nc) k (by omega)
            have hrd : Reads (rw TB 1 (.slice x.na x.f.now.length x.nc) (bys x.f.now)) (.slice (cutA x.na x.nc 0 1) k x.nc) (x.f.now.take k) := by
              intro F w hs
              have := (Reads.rw F w hs).cut 0 k (by omega) (by omega)
              simpa using this
            have hln : (x.f.now.take k).length = k := by simp; omega
            have hco := fun (F : Assn) (w : World) (h : Sat (rw TB 1 (.slice x.na x.f.now.length x.nc) (bys x.f.now) * F) w) => copy_ref _ (x.f.now.take k) _ F w hrd h (by omega)
            rw [hln] at hco
            have HCO : Aside (∀ (F : Assn) (w : World), Sat (rw TB 1 (.slice x.na x.f.now.length x.nc) (bys x.f.now) * F) w → Calls Try.prog 97 #[.slice (cutA x.na x.nc 0 1) k x.nc] w fun e w' => ∃ a c, e = .returned (.slice a k c) ∧ Sat (rw TB 1 (.slice a k c) (bys (x.f.now.take k)) * (rw TB 1 (.slice x.na x.f.now.length x.nc) (bys x.f.now) * F)) w') := hco
            have HF : Aside (fs = l1 ++ x :: l2 ∧ rfsA fs = rfA x * (rfsA l1 * rfsA l2)) := ⟨hfs, by rw [hfs, rfsA_mid]⟩
            have HL : Aside (l1.length = j ∧ ∀ y ∈ l1, y.nm ≠ x.nm) := ⟨hjj, h3⟩
            have HK : Aside ((x.f.now.take k).length = k) := hln
            have hpl : ps.length ≤ 1099511627776 := by
              have a1 := ok.pend
              have a2 := congrArg List.length hr.pend
              rw [List.length_map] at a2
              omega
            have HR0 : Aside (RefOf h fs ps d) := hr
            obtain ⟨room, changes, left, armed, down⟩ := h
            simp only at hd
            subst hd
            haveI := hs2.i
            clear e1 hr hs1 hn h1 h2 h3 hdd hmay hjj hfs hco hxj hs3 hrd hln hhad
            go_enter Try.func79, Try.ntmps79
            go_wp2_with fail
            refine hna.mono ?_
            rintro e w' ⟨rfl, rfl⟩
            go_wp2_with fail
            refine hfi.mono ?_
            rintro e w' ⟨rfl, rfl⟩
            go_wp2_with fail
            refine hch.mono ?_
            rintro e w5 ⟨h', rfl, hr', _, hs5⟩
            clear hs2 hna hfi hch
            go_upto_region 13 with (fail)
            have hs6 : Sat (rw TB 1 (.slice x.na x.f.now.length x.nc) (bys x.f.now) * (rw TB 1 (.slice x.sa x.f.safe.length x.sc) (bys x.f.safe) * (rfsA l1 * (rfsA l2 * (coreR W h' (.slice (some ⟨g, 0, none⟩) fs.length fc) (.slice pa ps.length pc) * (rw TRF 4 (.slice (some ⟨g, 0, none⟩) fs.length fc) (frows fs) * (rw TRP 4 (.slice pa ps.length pc) (qrows ps) * (rpsA ps * F)))))))) w5 := hs5.eq (by rw [HF.out.2]; unfold rfA; ac_rfl)
            haveI := hs6.i
            have HR1 : Aside (RefOf h' fs ps d.ticked) := hr'
            clear hs5 hr'
            go_region_law first
              | (go_simp; go_at_call 97; refine (HCO.out _ _ (takeI (rw TB 1 (.slice x.na x.f.now.length x.nc) (bys x.f.now)))).mono ?_; rintro e w7 ⟨a7, c7, rfl, hs7⟩; haveI := hs7.i)
            all_goals
              go_wp2_with (at_builtin; go_loud (refine wpl_append_same EP rfl (.tmp 63) (.tmp 67) rfl rfl rfl (takeI (rw TRP 4 (.slice pa ps.length pc) (qrows ps))) (Src.new (b := w7.heap.size) (e := TRP) (s := 4) (vs := [.string x.nm, .int .i64 k, .slice none 0 0, .bool true]) (by rw [← show (w7.setCell ⟨g, j * 4 + 1, none⟩ (.slice a7 k c7)).heap.size = w7.heap.size by simp]; exact takeI _) rfl (by intro u hu; simp at hu; rcases hu with rfl | rfl | rfl | rfl <;> rfl)) (by unfold maxLen; omega) (by omega) ?_; intro a9 c9 w9 hs9 hnil; clear hnil; haveI := hs9.i))
              go_ret
              obtain ⟨x', hx'⟩ : ∃ y : Rf, y = { x with f := { x.f with now := x.f.now.take k }, na := a7, nc := c7 } := ⟨_, rfl⟩
              have hxn : x'.nm = x.nm := by rw [hx']
              have hxf : x'.f = { x.f with now := x.f.now.take k } := by rw [hx']
              have hr2 := HR1.out
              have hlen : (l1 ++ x' :: l2).length = fs.length := by rw [HF.out.1]; simp
              have hrow : (frows fs).set (j * 4 + 1) (.slice a7 k c7) = frows (l1 ++ x' :: l2) := by
                have := frows_set1 (l1 := l1) (x := x) (l2 := l2) j HL.out.1 a7 c7 (x.f.now.take k)
                rw [HK.out] at this
                rw [HF.out.1, this, hx']
              refine ⟨rfl, ref_shut (h := h') (fa := some ⟨g, 0, none⟩) (fc := fc) (fs := l1 ++ x' :: l2) (pa := a9) (pc := c9) (ps := ps ++ [⟨⟨x.nm, k, none⟩, none, 0⟩]) ?_ (Sat.weak (B := rw TB 1 (.slice x.na x.f.now.length x.nc) (bys x.f.now) * block (w7.setCell ⟨g, j * 4 + 1, none⟩ (.slice a7 k c7)).heap.size TRP [.string x.nm, .int .i64 k, .slice none 0 0, .bool true]) ((satI.rw_nil (e := TB) (s := 1)).eq ?_))⟩
              · have hfs := HF.out.1
                have hr3 := HR0.out
                rw [hfs] at hr2 hr3
                refine ⟨hr2.room, hr2.changes, hr2.armed, hr2.down, hr2.left, ?_, rising_put hxn hr2.rising, ?_⟩
                · have := hr3.put_perm ok HL.out.2 x' hxn
                  rw [hxf] at this
                  exact this
                · rw [List.map_append, hr2.pend]; rfl
              · unfold refA
                have hA : rfA x' = rw TB 1 (.slice a7 k c7) (bys (x.f.now.take k)) * rw TB 1 (.slice x.sa x.f.safe.length x.sc) (bys x.f.safe) := by rw [hx']; show rw TB 1 (.slice a7 (x.f.now.take k).length c7) _ * _ = _; rw [HK.out]
                have hB : rpsA (ps ++ [⟨⟨x.nm, k, none⟩, none, 0⟩]) = rpsA ps * rw TB 1 (.slice none 0 0) [] := by rw [rpsA_append]; show _ * (rpA _ * 1) = _; rw [sep_one]; rfl
                have hC : qrows (ps ++ [⟨⟨x.nm, k, none⟩, none, 0⟩]) = qrows ps ++ [.string x.nm, .int .i64 k, .slice none 0 0, .bool true] := by rw [qrows_append]; rfl
                have hD : (ps ++ [(⟨⟨x.nm, k, none⟩, none, 0⟩ : Rp)]).length = ps.length + 1 := by simp
                rw [hrow, hlen, rfsA_mid, hA, hB, hC, hD]
                ac_rfl

end Go.Proofs.Ytjhkmmpgjiciiaa
