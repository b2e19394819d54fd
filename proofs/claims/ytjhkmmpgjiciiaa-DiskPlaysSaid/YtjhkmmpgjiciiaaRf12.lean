/-
  The reference disk: Load.
-/
import Derived.Test.YtjhkmmpgjiciiaaRf11
namespace Go.Proofs.Ytjhkmmpgjiciiaa
set_option linter.unusedSimpArgs false
set_option linter.unusedVariables false
open Go.RowKit Go.Sl Go.Dk
attribute [local go_sem ↓] Go.wp_at_zero Go.wp_at_succ
attribute [local go_sem] Go.Sl.cell_sat Go.Sl.frozen_sat

theorem frows_setrow {l1 : List Rf} {x : Rf} {l2 : List Rf} (j : Nat) (hj : l1.length = j) (a a' : Option Addr) (c c' : Nat) (b : List UInt8) (nm : ByteArray) :
    ((((frows (l1 ++ x :: l2)).set (j * 4) (.string nm)).set (j * 4 + 1) (.slice a b.length c)).set (j * 4 + 2) (.slice a' b.length c')).set (j * 4 + 3) (.bool true) = frows (l1 ++ ⟨nm, ⟨b, b, true⟩, a, c, a', c'⟩ :: l2) := by
  have e : ∀ y : Rf, frows (l1 ++ y :: l2) = frows l1 ++ (frow y ++ frows l2) := fun y => by simp [frows]
  rw [e, e]
  have hl : (frows l1).length = j * 4 := by rw [frows_len, hj]
  rw [List.set_append_right _ _ (by omega), List.set_append_right _ _ (by omega), List.set_append_right _ _ (by omega), List.set_append_right _ _ (by omega), hl, show j * 4 - j * 4 = 0 by omega, show j * 4 + 1 - j * 4 = 1 by omega, show j * 4 + 2 - j * 4 = 2 by omega, show j * 4 + 3 - j * 4 = 3 by omega]
  rfl

set_option maxRecDepth 100000 in
set_option maxHeartbeats 1600000 in
theorem load_ref (W : Nat) (d : Dk) (m : Nat) (nm : ByteArray) (v : Value) (b : List UInt8) (B F : Assn) (hB : Reads B v b) (w : World) (hs : Sat (refP W d * (B * F)) w) (hsz : nm.size ≤ 9223372036854775807) (hbl : b.length ≤ 1099511627776) (ok : Ok m d) (hm : m ≤ 1099511627776) :
    Calls Try.prog 82 #[.pointer (some ⟨W, 0, none⟩), .string nm, v] w fun e w' => e = .returned (.int .i64 (d.load nm b).1) ∧ Sat (refP W (d.load nm b).2 * (B * F)) w' := by
  have hna := named_ref nm w hsz
  have HS : Aside (Sat (refP W d * (B * F)) w) := hs
  obtain ⟨h, fa, fc, fs, pa, pc, ps, hr, hs1⟩ := ref_open hs
  obtain ⟨va, vc, rfl, _, _⟩ := (hB _ _ (hs.take B)).len
  clear hs
  cases hn : named nm with
  | false =>
    have e1 : d.load nm b = (1, d) := by unfold Dk.load; rw [if_pos hn]
    rw [hn] at hna
    rw [e1]
    clear e1 hr hs1 hn
    go_enter Try.func82, Try.ntmps82
    go_wp2_with (refine hna.mono ?_; rintro e w' ⟨rfl, rfl⟩)
    go_ret
    exact ⟨rfl, HS.out⟩
  | true =>
    rw [hn] at hna
    have hs2 : Sat (coreR W h (.slice fa fs.length fc) (.slice pa ps.length pc) * (rw TRF 4 (.slice fa fs.length fc) (frows fs) * (rfsA fs * ((rw TRP 4 (.slice pa ps.length pc) (qrows ps) * rpsA ps) * (B * F))))) w := hs1.eq (by unfold refA; ac_rfl)
    have hro := ok.room
    have hbig : big = 1099511627776 := rfl
    rw [hbig, ← hr.room] at hro
    have hlb := hr.sum_le ok
    have hfit := fits_ref W h fa fc (.slice pa ps.length pc) fs nm (b.length : Int) _ w hs2 (by omega) (hr.len ok) (by omega) (by omega) (by omega) (by omega)
    have hfe : fitR h.room (rents fs) (fget nm (rents fs)) (b.length : Int) = d.fits (d.get nm) b.length := by
      rw [fits_fitR, hr.get ok nm, hr.room]
      unfold fitR
      rw [sum_perm hr.files, hr.files.length_eq]
    rw [hfe] at hfit
    obtain ⟨z, hz⟩ : ∃ z, d.fits (d.get nm) b.length = z := ⟨_, rfl⟩
    rw [hz] at hfit
    clear hbig hfe
    by_cases h0 : z = 0
    · subst h0
      have e1 : d.load nm b = (0, (d.settled nm).put nm ⟨b, b, true⟩) := by unfold Dk.load; rw [if_neg (by simp [hn]), if_neg (by rw [hz]; omega)]
      rw [e1]
      have hpl : ps.length ≤ 1099511627776 := by
        have a1 := ok.pend
        have a2 := congrArg List.length hr.pend
        rw [List.length_map] at a2
        omega
      have HR : Aside (RefOf h fs ps d) := hr
      have hco := fun (F : Assn) (w : World) (h : Sat (B * F) w) => copy_ref _ b B F w hB h (by omega)
      have HCO : Aside (∀ (F : Assn) (w : World), Sat (B * F) w → Calls Try.prog 97 #[.slice va b.length vc] w fun e w' => ∃ a c, e = .returned (.slice a b.length c) ∧ Sat (rw TB 1 (.slice a b.length c) (bys b) * (B * F)) w') := hco
      clear e1 hr hs1 hn hz hco
      go_enter Try.func82, Try.ntmps82
      go_wp2_with fail
      refine hna.mono ?_
      rintro e w' ⟨rfl, rfl⟩
      go_wp2_with fail
      refine hfit.mono ?_
      rintro e w5 ⟨rfl, hs5⟩
      clear hna hfit hs2
      go_wp2_with fail
      refine (settled_ref W h (.slice fa fs.length fc) pa pc ps nm (rw TRF 4 (.slice fa fs.length fc) (frows fs) * (rfsA fs * (rpsA ps * (B * F)))) _ (hs5.eq (by ac_rfl)) hpl).mono ?_
      rintro e w6 ⟨a6, c6, rfl, hs6⟩
      clear hs5
      have hr6 : RefOf h fs (othersR nm ps) (d.settled nm) := ⟨HR.out.room, HR.out.changes, HR.out.armed, HR.out.down, HR.out.left, HR.out.files, HR.out.rising, by rw [othersR_pents, HR.out.pend]; rfl⟩
      have HR6 : Aside (RefOf h fs (othersR nm ps) (d.settled nm)) := hr6
      have hma := made_any W h fa fc (.slice a6 (othersR nm ps).length c6) fs (othersR nm ps) (d.settled nm) m nm (rw TRP 4 (.slice a6 (othersR nm ps).length c6) (qrows (othersR nm ps)) * (rpsA ps * (B * F))) w6 hr6 (ok_settled ok nm) (hs6.eq (by ac_rfl))
      clear hr6 hs6
      go_wp2_with fail
      refine hma.mono ?_
      rintro e w7 ⟨g, c7, l1, x, l2, rfl, M, hs7⟩
      clear hma
      obtain ⟨fs7, hf7⟩ : ∃ l, l1 ++ x :: l2 = l := ⟨_, rfl⟩
      have hxj : fs7[l1.length]? = some x := by rw [← hf7]; simp
      have hj : l1.length < fs7.length := by rw [← hf7]; simp
      obtain ⟨j, hjj⟩ : ∃ q : Nat, l1.length = q := ⟨_, rfl⟩
      obtain ⟨i0, i1, i2, i3⟩ := frows_at hxj
      rw [hjj] at hj i0 i1 i2 i3
      have hj' : (j : Int) < fs7.length := by omega
      haveI k1 : ∀ v, At ((frows fs7).set (j * 4) v) (j * 4 + 1) _ := fun v => ⟨by rw [List.getElem?_set_ne (by omega)]; exact i1.out⟩
      haveI k2 : ∀ v u, At (((frows fs7).set (j * 4) v).set (j * 4 + 1) u) (j * 4 + 2) _ := fun v u => ⟨by rw [List.getElem?_set_ne (by omega), List.getElem?_set_ne (by omega)]; exact i2.out⟩
      haveI k3 : ∀ v u t, At ((((frows fs7).set (j * 4) v).set (j * 4 + 1) u).set (j * 4 + 2) t) (j * 4 + 3) _ := fun v u t => ⟨by rw [List.getElem?_set_ne (by omega), List.getElem?_set_ne (by omega), List.getElem?_set_ne (by omega)]; exact i3.out⟩
      have HM : Aside (Made (d.settled nm) nm l1 x l2 ∧ l1 ++ x :: l2 = fs7 ∧ l1.length = j) := ⟨M, hf7, hjj⟩
      have hs8 : Sat (B * (coreR W h (.slice (some ⟨g, 0, none⟩) fs7.length c7) (.slice a6 (othersR nm ps).length c6) * (rw TRF 4 (.slice (some ⟨g, 0, none⟩) fs7.length c7) (frows fs7) * (rfA x * (rfsA l1 * (rfsA l2 * (rw TRP 4 (.slice a6 (othersR nm ps).length c6) (qrows (othersR nm ps)) * (rpsA ps * F)))))))) w7 := by
        rw [hf7] at hs7
        refine hs7.eq ?_
        rw [← hf7, rfsA_mid]
        ac_rfl
      haveI := hs8.i
      rw [hjj]
      clear hs7 M hf7 hjj hxj
      go_upto_region 8 with (fail)
      go_region_held3 (fun w' => w'.cell? ⟨W, 5, none⟩ = some (.slice (some ⟨g, 0, none⟩) fs7.length c7)) (first | exact cell_sat _ _ _) (first
        | (go_at_call 97; refine (HCO.out _ _ (satI : Sat (B * (coreR W h _ _ * _)) _)).mono ?_; rintro e w9 ⟨a9, c9, rfl, hs9⟩; haveI := hs9.i)
        | (go_at_call 97; refine (HCO.out _ _ (takeI B)).mono ?_; rintro e w10 ⟨a10, c10, rfl, hs10⟩; haveI := hs10.i))
      all_goals
        go_wp2
        go_ret
        obtain ⟨hM, hf7, hjj⟩ := HM.out
        obtain ⟨x', hx'⟩ : ∃ y : Rf, y = ⟨nm, ⟨b, b, true⟩, a9, c9, a10, c10⟩ := ⟨_, rfl⟩
        have hxn : x'.nm = nm := by rw [hx']
        have hxf : x'.f = ⟨b, b, true⟩ := by rw [hx']
        have hlen : (l1 ++ x' :: l2).length = fs7.length := by rw [← hf7]; simp
        have hrow : ((((frows fs7).set (j * 4) (.string nm)).set (j * 4 + 1) (.slice a9 b.length c9)).set (j * 4 + 2) (.slice a10 b.length c10)).set (j * 4 + 3) (.bool true) = frows (l1 ++ x' :: l2) := by rw [← hf7, frows_setrow j hjj, hx']
        have hpl2 : rpsA ps = rpsA (othersR nm ps) * rpsA (ps.filter fun y => !(y.p.nm != nm)) := rpsA_filter _ ps
        have hr6 := HR6.out
        refine ⟨rfl, ref_shut (h := h) (fa := some ⟨g, 0, none⟩) (fc := c7) (fs := l1 ++ x' :: l2) (pa := a6) (pc := c6) (ps := othersR nm ps) ⟨hr6.room, hr6.changes, hr6.armed, hr6.down, hr6.left, (by have := hM.perm x' hxn; rw [hxf] at this; exact this), hM.rising x' hxn, hr6.pend⟩ (satI_weak (C := rfA x * rpsA (ps.filter fun y => !(y.p.nm != nm))) ?_)⟩
        have hA : rfA x' = rw TB 1 (.slice a9 b.length c9) (bys b) * rw TB 1 (.slice a10 b.length c10) (bys b) := by rw [hx']; rfl
        unfold refA
        rw [hrow, hlen, rfsA_mid, hA, hpl2]
        ac_rfl
    · have e1 : d.load nm b = (z, d) := by unfold Dk.load; rw [if_neg (by simp [hn]), if_pos (by rw [hz]; exact h0), hz]
      rw [e1]
      have h0' : (z != 0) = true := by simpa using h0
      have HR : Aside (RefOf h fs ps d) := hr
      clear e1 hr hs1 hn hz
      go_enter Try.func82, Try.ntmps82
      go_wp2_with fail
      refine hna.mono ?_
      rintro e w' ⟨rfl, rfl⟩
      go_wp2_with fail
      refine hfit.mono ?_
      rintro e w5 ⟨rfl, hs5⟩
      go_wp2
      go_ret
      exact ⟨rfl, ref_shut (fa := fa) (fc := fc) (pa := pa) (pc := pc) HR.out (hs5.eq (by unfold refA; ac_rfl))⟩

end Go.Proofs.Ytjhkmmpgjiciiaa
