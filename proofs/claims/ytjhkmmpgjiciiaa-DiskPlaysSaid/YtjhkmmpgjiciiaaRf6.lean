/-
  The reference disk: Read.
-/
import Derived.Test.YtjhkmmpgjiciiaaRf5
namespace Go.Proofs.Ytjhkmmpgjiciiaa
set_option linter.unusedSimpArgs false
set_option linter.unusedVariables false
open Go.RowKit Go.Sl Go.Dk
attribute [local go_sem ↓] Go.wp_at_zero Go.wp_at_succ
attribute [local go_sem] Go.Sl.cell_sat Go.Sl.frozen_sat

/-- what find answers, and what it means on the plain disk -/
theorem RefOf.find {h : Rh} {fs : List Rf} {ps : List Rp} {d : Dk} (r : RefOf h fs ps d) {m : Nat} (ok : Ok m d) (nm : ByteArray) :
    (findI nm fs = -1 ∧ d.get nm = none ∧ ∀ y ∈ fs, y.nm ≠ nm) ∨ ∃ l1 x l2, fs = l1 ++ x :: l2 ∧ x.nm = nm ∧ (∀ y ∈ l1, y.nm ≠ nm) ∧ findI nm fs = (l1.length : Nat) ∧ d.get nm = some x.f ∧ x.f.now.length ≤ 1099511627776 ∧ x.f.safe.length ≤ 1099511627776 := by
  rcases find_cases nm fs with ⟨h1, h2, h3⟩ | ⟨l1, x, l2, hfs, hx, h3, h1, h2⟩
  · exact .inl ⟨h1, by rw [← r.get ok nm, h2], h3⟩
  · have hm : (x.nm, x.f) ∈ d.files := r.files.mem_iff.1 (by rw [hfs]; simp [rents])
    exact .inr ⟨l1, x, l2, hfs, hx, h3, h1, by rw [← r.get ok nm, h2], ok.sz _ hm⟩
theorem rfsA_mid (l1 : List Rf) (x : Rf) (l2 : List Rf) : rfsA (l1 ++ x :: l2) = rfA x * (rfsA l1 * rfsA l2) := by rw [rfsA_append, rfsA]; ac_rfl

theorem may_1 {d : Dk} {nm : ByteArray} {t : Bool} (hn : named nm = false) : d.may nm t = 1 := by unfold Dk.may; rw [if_pos hn]
theorem may_8 {d : Dk} {nm : ByteArray} {t : Bool} (hn : named nm = true) (hd : d.down = true) : d.may nm t = 8 := by unfold Dk.may; rw [if_neg (by simp [hn]), if_pos hd]
theorem may_6 {d : Dk} {nm : ByteArray} (hn : named nm = true) (hd : d.down = false) (h : d.get nm = none) : d.may nm true = 6 := by unfold Dk.may; rw [if_neg (by simp [hn]), if_neg (by simp [hd]), h]; rfl
theorem may_0 {d : Dk} {nm : ByteArray} {f : Fl} (hn : named nm = true) (hd : d.down = false) (h : d.get nm = some f) : d.may nm true = 0 := by unfold Dk.may; rw [if_neg (by simp [hn]), if_neg (by simp [hd]), h]; rfl
theorem may_00 {d : Dk} {nm : ByteArray} (hn : named nm = true) (hd : d.down = false) : d.may nm false = 0 := by unfold Dk.may; rw [if_neg (by simp [hn]), if_neg (by simp [hd])]; rfl

set_option maxRecDepth 100000 in
set_option maxHeartbeats 1600000 in
theorem read_ref (W : Nat) (d : Dk) (m : Nat) (nm : ByteArray) (k n : Int) (F : Assn) (w : World) (hs : Sat (refP W d * F) w) (hsz : nm.size ≤ 9223372036854775807) (ok : Ok m d) :
    Calls Try.prog 81 #[.pointer (some ⟨W, 0, none⟩), .string nm, .int .i64 k, .int .i64 n] w fun e w' => ∃ v, e = .returned (.tuple #[v, .int .i64 (d.read nm k n).1]) ∧ Sat (rw TB 1 v (bys (d.read nm k n).2) * (refP W d * F)) w' := by
  have hna := named_ref nm w hsz
  have HS : Aside (Sat (refP W d * F) w) := hs
  obtain ⟨h, fa, fc, fs, pa, pc, ps, hr, hs1⟩ := ref_open hs
  clear hs
  cases hn : named nm with
  | false =>
    have e1 : d.read nm k n = (1, []) := by unfold Dk.read; rw [may_1 hn, if_pos (by omega)]
    rw [hn] at hna
    rw [e1]
    clear e1 hr hs1 hn
    go_enter Try.func81, Try.ntmps81
    go_wp2_with (refine hna.mono ?_; rintro e w' ⟨rfl, rfl⟩)
    go_ret2
    exact ⟨_, rfl, by simpa [bys] using HS.out.rw_nil⟩
  | true =>
    rw [hn] at hna
    have hs2 : Sat (coreR W h (.slice fa fs.length fc) (.slice pa ps.length pc) * (rw TRF 4 (.slice fa fs.length fc) (frows fs) * (rfsA fs * ((rw TRP 4 (.slice pa ps.length pc) (qrows ps) * rpsA ps) * F)))) w := hs1.eq (by unfold refA; ac_rfl)
    cases hd : h.down with
    | true =>
      have e1 : d.read nm k n = (8, []) := by unfold Dk.read; rw [may_8 hn (by rw [← hr.down]; exact hd), if_pos (by omega)]
      rw [e1]
      obtain ⟨room, changes, left, armed, down⟩ := h
      simp only at hd
      subst hd
      haveI := hs2.i
      clear e1 hr hs1 hn
      go_enter Try.func81, Try.ntmps81
      go_wp2_with (refine hna.mono ?_; rintro e w' ⟨rfl, rfl⟩)
      go_ret2
      exact ⟨_, rfl, by simpa [bys] using HS.out.rw_nil⟩
    | false =>
      have hfi := find_ref W h fa fc (.slice pa ps.length pc) fs nm _ w hs2
      have hdd : d.down = false := by rw [← hr.down]; exact hd
      rcases hr.find ok nm with ⟨h1, h2, h3⟩ | ⟨l1, x, l2, hfs, hx, h3, h1, h2, hb1, hb2⟩
      · have e1 : d.read nm k n = (6, []) := by unfold Dk.read; rw [may_6 hn hdd h2, if_pos (by omega)]
        rw [e1]
        rw [h1] at hfi
        obtain ⟨room, changes, left, armed, down⟩ := h
        simp only at hd
        subst hd
        haveI := hs2.i
        clear e1 hr hs1 hn h1 h2 h3 hdd
        go_enter Try.func81, Try.ntmps81
        go_wp2_with (first | (refine hna.mono ?_; rintro e w' ⟨rfl, rfl⟩) | (refine hfi.mono ?_; rintro e w' ⟨rfl, rfl⟩))
        go_ret2
        exact ⟨_, rfl, by simpa [bys] using HS.out.rw_nil⟩
      · have hmay : d.may nm true = 0 := may_0 hn hdd h2
        have hread : d.read nm k n = if k < 0 ∨ n < 0 ∨ (x.f.now.length : Int) < k ∨ (x.f.now.length : Int) - k < n then (2, []) else (0, (x.f.now.drop k.toNat).take n.toNat) := by
          unfold Dk.read; rw [if_neg (by simp [hmay]), h2]; rfl
        rw [hread]
        rw [h1] at hfi
        have hxj : fs[l1.length]? = some x := by rw [hfs]; simp
        have hj : l1.length < fs.length := by rw [hfs]; simp
        obtain ⟨j, hjj⟩ : ∃ q : Nat, l1.length = q := ⟨_, rfl⟩
        obtain ⟨g, rfl⟩ := row_some (hs2.take (rw TRF 4 (.slice fa fs.length fc) (frows fs))) (by omega)
        obtain ⟨_, i1, _, _⟩ := frows_at hxj
        rw [hjj] at hfi hj i1
        have hj' : (j : Int) < fs.length := by omega
        have hs3 : Sat (rw TB 1 (.slice x.na x.f.now.length x.nc) (bys x.f.now) * (rw TB 1 (.slice x.sa x.f.safe.length x.sc) (bys x.f.safe) * (rfsA l1 * rfsA l2) * (coreR W h (.slice (some ⟨g, 0, none⟩) fs.length fc) (.slice pa ps.length pc) * (rw TRF 4 (.slice (some ⟨g, 0, none⟩) fs.length fc) (frows fs) * ((rw TRP 4 (.slice pa ps.length pc) (qrows ps) * rpsA ps) * F))))) w := hs2.eq (by rw [show rfsA fs = rfA x * (rfsA l1 * rfsA l2) by rw [hfs, rfsA_mid]]; unfold rfA; ac_rfl)
        have HF : Aside (rfsA fs = rfA x * (rfsA l1 * rfsA l2)) := (by rw [hfs, rfsA_mid] : _ = _)
        have HR : Aside (RefOf h fs ps d) := hr
        have hbyt := Reads.rw _ _ hs3
        obtain ⟨_, hxc, hxm⟩ := hbyt.n
        obtain ⟨room, changes, left, armed, down⟩ := h
        simp only at hd
        subst hd
        haveI := hs2.i
        have HC : Aside (Sat (refP W d * F) w) := HS
        clear hread hmay hr hs1 hn h1 h2 h3 hdd hxj hjj hfs hx
        by_cases hq : k < 0 ∨ n < 0 ∨ (x.f.now.length : Int) < k ∨ (x.f.now.length : Int) - k < n
        · rw [if_pos hq]
          clear hbyt hs2 hs3
          by_cases g1 : k < 0
          · have g1' : decide (k < 0) = true := by simpa using g1
            go_enter Try.func81, Try.ntmps81
            go_wp2_with (first | (refine hna.mono ?_; rintro e w' ⟨rfl, rfl⟩) | (refine hfi.mono ?_; rintro e w' ⟨rfl, rfl⟩))
            go_ret2
            exact ⟨_, rfl, by simpa [bys] using HS.out.rw_nil⟩
          · have g1' : decide (k < 0) = false := by simpa using g1
            by_cases g2 : n < 0
            · have g2' : decide (n < 0) = true := by simpa using g2
              go_enter Try.func81, Try.ntmps81
              go_wp2_with (first | (refine hna.mono ?_; rintro e w' ⟨rfl, rfl⟩) | (refine hfi.mono ?_; rintro e w' ⟨rfl, rfl⟩))
              go_ret2
              exact ⟨_, rfl, by simpa [bys] using HS.out.rw_nil⟩
            · have g2' : decide (n < 0) = false := by simpa using g2
              by_cases g3 : (x.f.now.length : Int) < k
              · have g3' : decide ((x.f.now.length : Int) < k) = true := by simpa using g3
                go_enter Try.func81, Try.ntmps81
                go_wp2_with (first | (refine hna.mono ?_; rintro e w' ⟨rfl, rfl⟩) | (refine hfi.mono ?_; rintro e w' ⟨rfl, rfl⟩))
                go_ret2
                exact ⟨_, rfl, by simpa [bys] using HS.out.rw_nil⟩
              · have g3' : decide ((x.f.now.length : Int) < k) = false := by simpa using g3
                have g4 : (x.f.now.length : Int) - k < n := by omega
                go_enter Try.func81, Try.ntmps81
                go_wp2_with (first | (refine hna.mono ?_; rintro e w' ⟨rfl, rfl⟩) | (refine hfi.mono ?_; rintro e w' ⟨rfl, rfl⟩))
                go_ret2
                exact ⟨_, rfl, by simpa [bys] using HS.out.rw_nil⟩
        · rw [if_neg hq]
          obtain ⟨k, rfl⟩ := Int.eq_ofNat_of_zero_le (show 0 ≤ k by omega)
          obtain ⟨n, rfl⟩ := Int.eq_ofNat_of_zero_le (show 0 ≤ n by omega)
          have g3' : decide ((x.f.now.length : Int) < k) = false := by simp; omega
          have g4' : decide ((x.f.now.length : Int) - k < n) = false := by simp; omega
          obtain ⟨i0, E⟩ := elemB
          have hcut := at_cut (P := Try.prog) E (a := x.na) (n := x.f.now.length) (c := x.nc) k (k + n) (by omega) (by omega)
          have e2 : k + n - k = n := by omega
          rw [Int.natCast_add, e2] at hcut
          have hrd : Reads (rw TB 1 (.slice x.na x.f.now.length x.nc) (bys x.f.now)) (.slice (cutA x.na x.nc k 1) n (x.nc - k)) ((x.f.now.drop k).take n) := by
            intro F w hs
            have := (Reads.rw F w hs).cut k (k + n) (by omega) (by omega)
            rw [e2] at this
            exact this
          have hln : ((x.f.now.drop k).take n).length = n := by simp; omega
          have hco := copy_ref _ _ _ _ w hrd hs3 (by omega)
          rw [hln] at hco
          have hj2 : (k : Int) + n ≤ 9223372036854775807 := by omega
          clear hrd hln hbyt hs2 hs3 e2
          go_enter Try.func81, Try.ntmps81
          go_wp2_with (first | (refine hna.mono ?_; rintro e w' ⟨rfl, rfl⟩) | (refine hfi.mono ?_; rintro e w' ⟨rfl, rfl⟩) | (refine hco.mono ?_; rintro e w5 ⟨a5, c5, rfl, hs5⟩))
          go_ret2
          refine ⟨_, rfl, ?_⟩
          refine (ref_shut (fa := some ⟨g, 0, none⟩) (fc := fc) (pa := pa) (pc := pc) (F := rw TB 1 (.slice a5 n c5) (bys ((x.f.now.drop k).take n)) * F) HR.out (hs5.eq ?_)).eq (by show _ = rw TB 1 (.slice a5 n c5) (bys ((x.f.now.drop k).take n)) * (refP W d * F); ac_rfl)
          unfold refA
          rw [HF.out]
          unfold rfA
          ac_rfl

end Go.Proofs.Ytjhkmmpgjiciiaa
