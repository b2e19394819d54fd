/-
  The disk's laws: the disk and the reference are found alike.
-/
import Derived.Test.YtjhkmmpgjiciiaaLaw04i
import Derived.Deep.RegionHeld3
namespace Go.Proofs.Ytjhkmmpgjiciiaa
set_option linter.unusedSimpArgs false
set_option linter.unusedVariables false
open Go.RowKit Go.Sl Go.Dk
attribute [local go_sem ↓] Go.wp_at_zero Go.wp_at_succ
attribute [local go_sem] Go.Sl.cell_sat Go.Sl.frozen_sat

theorem bl_lt : ∀ {a b : List UInt8}, Op.bytesLess a b = true → a < b
  | _, [], h => by simp [Op.bytesLess] at h
  | [], _ :: _, _ => List.nil_lt_cons _ _
  | x :: a, y :: b, h => by
    simp only [Op.bytesLess, Bool.or_eq_true, Bool.and_eq_true, beq_iff_eq, decide_eq_true_eq] at h
    rw [List.cons_lt_cons_iff]
    rcases h with h | ⟨h1, h2⟩
    · exact .inl h
    · exact .inr ⟨h1, bl_lt h2⟩

theorem names_eq {h : Rh} {fs : List Rf} {ps : List Rp} {d : Dk} (r : RefOf h fs ps d) {ks : List (List UInt8)} (hk : ks.Perm (nmL d)) : sortS ks = fs.map fun x => x.nm.data.toList := by
  refine List.Perm.eq_of_pairwise (le := fun x y : List UInt8 => x ≤ y) (fun a b _ _ => List.le_antisymm) ?_ ?_ ?_
  · have := List.pairwise_mergeSort (le := fun x y : List UInt8 => decide (x ≤ y)) (fun a b c h1 h2 => by simp only [decide_eq_true_eq] at *; exact List.le_trans h1 h2) (fun a b => by simp only [Bool.or_eq_true, decide_eq_true_eq]; exact List.le_total a b) ks
    exact this.imp fun h => by simpa using h
  · rw [List.pairwise_map]
    refine r.rising.imp fun {x y} h => ?_
    unfold less at h
    rw [Lib.toList_data, Lib.toList_data] at h
    exact List.le_of_lt (bl_lt h)
  · refine (List.mergeSort_perm ks _).trans (hk.trans ?_)
    have := (r.files.map fun p : ByteArray × Fl => p.1.data.toList).symm
    unfold nmL
    refine this.trans (.of_eq ?_)
    unfold rents
    rw [List.map_map]
    rfl

/-- all files bear names -/
def NmOk (d : Dk) : Prop := ∀ p ∈ d.files, named p.1 = true
theorem NmOk.put {d : Dk} (h : NmOk d) {nm : ByteArray} (hn : named nm = true) (f : Fl) : NmOk (d.put nm f) := by
  intro p hp
  rcases fput_mem hp with rfl | hp
  · exact hn
  · exact h p hp
theorem may_named {d : Dk} {nm : ByteArray} {t : Bool} (h : d.may nm t = 0) : named nm = true := by
  cases hn : named nm with
  | true => rfl
  | false => rw [may_1 hn] at h; cases h
theorem NmOk.step {d : Dk} (h : NmOk d) (c : CallD) (zs : List Int) : NmOk (stepD c zs d) := by
  have ht : NmOk d.ticked := h
  unfold stepD
  split
  · unfold Dk.write
    split
    · exact h
    split
    · exact h
    split
    · exact h
    split
    · exact h
    split
    · exact h
    · rename_i h1 _ _ _ _
      exact ht.put (may_named (t := false) (by simpa using h1)) _
  split
  · unfold Dk.cut
    split
    · exact h
    split
    · exact h
    split
    · exact h
    · rename_i h1 _ _
      exact ht.put (may_named (t := true) (by simpa using h1)) _
  split
  · unfold Dk.sync
    split
    · exact h
    split
    · exact h
    · rename_i h1 _
      exact ht.put (may_named (t := true) (by simpa using h1)) _
  split
  · unfold Dk.load
    split
    · exact h
    split
    · exact h
    · rename_i h1 _
      exact NmOk.put (d := d.settled c.nm) h (by simpa using h1) _
  split
  · unfold Dk.arm
    split
    · exact h
    · exact h
  split
  · intro p hp
    have h1 := (crashed_names (keep zs 0 d.pend) d.files).subset (List.mem_map.2 ⟨p, hp, rfl⟩)
    obtain ⟨q, hq, e⟩ := List.mem_map.1 h1
    rw [← e]
    exact h q hq
  · exact h

theorem changes_any (D : Nat) (d : Dk) (F : Assn) (w : World) (hs : Sat (diskP D d * F) w) :
    Calls Try.prog 50 #[.pointer (some ⟨D, 0, none⟩)] w fun e w' => e = .returned (.int .i64 d.changes) ∧ w = w' := by
  obtain ⟨M, ns, pv, ps, h1, h2, hs1⟩ := Sat.disk_open hs
  have hs2 : Sat (coreD D M pv d * ((mp skey M (ns.map kvF) * (filesA ns * pendA pv ps)) * F)) w := hs1.eq (by unfold diskA; rw [sep_assoc])
  haveI := hs2.i
  clear h1 h2 hs hs1
  go_enter Try.func50, Try.ntmps50
  go_wp2
  go_ret
  exact ⟨rfl, rfl⟩
theorem down_any (D : Nat) (d : Dk) (F : Assn) (w : World) (hs : Sat (diskP D d * F) w) :
    Calls Try.prog 52 #[.pointer (some ⟨D, 0, none⟩)] w fun e w' => e = .returned (.bool d.down) ∧ w = w' := by
  obtain ⟨M, ns, pv, ps, h1, h2, hs1⟩ := Sat.disk_open hs
  have hs2 : Sat (coreD D M pv d * ((mp skey M (ns.map kvF) * (filesA ns * pendA pv ps)) * F)) w := hs1.eq (by unfold diskA; rw [sep_assoc])
  haveI := hs2.i
  clear h1 h2 hs hs1
  go_enter Try.func52, Try.ntmps52
  go_wp2
  go_ret
  exact ⟨rfl, rfl⟩

instance refP_changes (W : Nat) (d : Dk) : RdC (refP W d) W 1 (.int .i64 d.changes) := ⟨fun F w hs => by
  obtain ⟨h, fa, fc, fs, pa, pc, ps, hr, hs1⟩ := ref_open hs
  unfold refA at hs1
  rw [← hr.changes]
  exact hs1.c W 1⟩
instance refP_down (W : Nat) (d : Dk) : RdC (refP W d) W 4 (.bool d.down) := ⟨fun F w hs => by
  obtain ⟨h, fa, fc, fs, pa, pc, ps, hr, hs1⟩ := ref_open hs
  unfold refA at hs1
  rw [← hr.down]
  exact hs1.c W 4⟩

theorem file_read {h : Rh} {fs : List Rf} {ps : List Rp} {d : Dk} (r : RefOf h fs ps d) {m : Nat} (ok : Ok m d) (nk : NmOk d) (hd : d.down = false) {x : Rf} (hx : x ∈ fs) :
    d.size x.nm = x.f.now.length ∧ d.read x.nm 0 x.f.now.length = (0, x.f.now) ∧ x.nm.size ≤ 9223372036854775807 ∧ x.f.now.length ≤ 1099511627776 := by
  have hm : (x.nm, x.f) ∈ d.files := r.files.mem_iff.1 (List.mem_map.2 ⟨x, hx, rfl⟩)
  have hn := nk _ hm
  have hg : d.get x.nm = some x.f := (fget_iff ok.nd x.nm x.f).2 hm
  have h0 := may_0 hn hd hg
  refine ⟨?_, ?_, ?_, (ok.sz _ hm).1⟩
  · unfold Dk.size
    rw [if_neg (by simp [h0]), hg]; rfl
  · unfold Dk.read
    rw [if_neg (by simp [h0]), hg]
    show (if _ then _ else _) = _
    rw [if_neg (by simp)]
    simp
  · unfold named at hn
    simp only [Bool.and_eq_true, decide_eq_true_eq] at hn
    have h2 : x.nm.size ≤ 16 := hn.1.2
    omega

set_option maxRecDepth 100000 in
set_option maxHeartbeats 8000000 in
theorem alike_any (D W : Nat) (d : Dk) (m : Nat) (F : Assn) (w : World) (hs : Sat (diskP D d * (refP W d * F)) w) (ok : Ok m d) (nk : NmOk d) :
    Calls Try.prog 49 #[.pointer (some ⟨D, 0, none⟩), .pointer (some ⟨W, 0, none⟩)] w fun e w' => e = .returned (.bool true) ∧ Sat (diskP D d * (refP W d * F)) w' := by
  have H1 : Aside (∀ (F : Assn) (w : World), Sat (diskP D d * F) w → Calls Try.prog 45 #[.pointer (some ⟨D, 0, none⟩)] w fun e w' => e = .returned (.int .i64 d.free) ∧ Sat (diskP D d * F) w') := fun F w h => free_any D d m F w h ok
  have H2 : Aside (∀ (F : Assn) (w : World), Sat (refP W d * F) w → Calls Try.prog 92 #[.pointer (some ⟨W, 0, none⟩)] w fun e w' => e = .returned (.int .i64 d.free) ∧ Sat (refP W d * F) w') := fun F w h => free_ref W d m F w h ok
  haveI := hs.i
  obtain ⟨fr, hfr⟩ : ∃ z, d.free = z := ⟨_, rfl⟩
  rw [hfr] at H1 H2
  clear hfr
  go_enter Try.func49, Try.ntmps49
  go_upto_region 1 with (fail)
  go_cut [31] (fun t31 wx => t31 = .bool false ∧ Sat (diskP D d * (refP W d * F)) wx)
  case first =>
    go_region_held3 (fun w' => w'.cell? ⟨W, 1, none⟩ = some (.int .i64 d.changes) ∧ w'.cell? ⟨W, 4, none⟩ = some (.bool d.down)) (first | exact ⟨cell_sat _ _ _, cell_sat _ _ _⟩) (first
      | (go_at_call 45; refine (H1.out _ _ (takeI (diskP D d))).mono ?_; rintro e w3 ⟨rfl, hs3⟩; haveI := hs3.i)
      | (go_at_call 92; refine (H2.out _ _ (takeI (refP W d))).mono ?_; rintro e w4 ⟨rfl, hs4⟩; haveI := hs4.i)
      | (go_at_call 50; refine (changes_any D d _ _ (takeI (diskP D d))).mono ?_; rintro e w5 ⟨rfl, rfl⟩)
      | (go_at_call 52; refine (down_any D d _ _ (takeI (diskP D d))).mono ?_; rintro e w6 ⟨rfl, rfl⟩))
    all_goals
      go_wp2_with fail
      go_meet
      exact ⟨rfl, satI_eq (by ac_rfl)⟩
  case rest =>
    obtain ⟨rfl, hs2⟩ := hcut
    clear hs
    cases hdn : d.down with
    | true =>
      have hna := names_down D d _ wc hs2 hdn
      haveI := hs2.i
      go_wp2_with fail
      refine hna.mono ?_
      rintro e w3 ⟨rfl, rfl⟩
      go_wp2
      go_ret
      exact ⟨rfl, hs2⟩
    | false =>
      obtain ⟨h, fa, fc, fs, pa, pc, ps, hr, hs3⟩ := ref_open (hs2.take (refP W d))
      have hna := names_any D d m _ wc (hs3.take (diskP D d)) ok hdn
      have hfl : fs.length ≤ 16 := hr.len ok
      have HF : Aside (∀ x ∈ fs, d.size x.nm = x.f.now.length ∧ d.read x.nm 0 x.f.now.length = (0, x.f.now) ∧ x.nm.size ≤ 9223372036854775807 ∧ x.f.now.length ≤ 1099511627776) := fun x hx => file_read hr ok nk hdn hx
      have HR : Aside (RefOf h fs ps d) := hr
      have HSZ0 : Aside (∀ p ∈ d.files, p.2.now.length ≤ big) := fun p hp => (ok.sz p hp).1
      have hhd : h.down = false := by rw [hr.down]; exact hdn
      clear hs2 hdn H1 H2 this
      go_wp2_with fail
      refine hna.mono ?_
      rintro e w4 ⟨na, nn, nc, ks, rfl, hks, hs4⟩
      rw [names_eq hr hks] at hs4
      have e1 : (fs.map fun x => x.nm.data.toList).map Go.Proofs.encStr = fs.map fun x => Value.string x.nm := by
        rw [List.map_map]
        refine List.map_congr_left fun x _ => encStr_nm x.nm
      rw [e1] at hs4
      have hnn : nn = fs.length := by have := hs4.rw_len; simpa using this
      subst hnn
      obtain ⟨room, changes, left, armed, down⟩ := h
      simp only at hhd
      subst hhd
      have hs5 : Sat (rw TS 1 (.slice na fs.length nc) (fs.map fun x => Value.string x.nm) * (coreR W ⟨room, changes, left, armed, false⟩ (.slice fa fs.length fc) (.slice pa ps.length pc) * (rw TRF 4 (.slice fa fs.length fc) (frows fs) * (rfsA fs * (rw TRP 4 (.slice pa ps.length pc) (qrows ps) * (rpsA ps * (diskP D d * F))))))) w4 := hs4.eq (by unfold refA; ac_rfl)
      clear hna hs3 hs4 hks e1 hr ok nk
      haveI := hs5.i
      go_wp2_with fail
      go_loopg [6, 7, 8] fs.length (fun g t6 t7 t8 wr => ∃ j : Nat, t6 = .int .i64 j ∧ j ≤ fs.length ∧ Aside (g = fs.length - j) ∧ Sat (rw TS 1 (.slice na fs.length nc) (fs.map fun x => Value.string x.nm) * (coreR W ⟨room, changes, left, armed, false⟩ (.slice fa fs.length fc) (.slice pa ps.length pc) * (rw TRF 4 (.slice fa fs.length fc) (frows fs) * (rfsA fs * (rw TRP 4 (.slice pa ps.length pc) (qrows ps) * (rpsA ps * (diskP D d * F))))))) wr)
      case atStart => exact ⟨0, rfl, by omega, rfl, hs5⟩
      case round =>
        clear hs5 this
        obtain ⟨j, rfl, hj, A, hs⟩ := hrel
        by_cases hlt : j < fs.length
        · have hlt' : (j : Int) < fs.length := by omega
          obtain ⟨x, hx⟩ : ∃ x, fs[j]? = some x := ⟨fs[j], by simp [hlt]⟩
          obtain ⟨gn, rfl⟩ := row_some hs (by omega)
          obtain ⟨gf, rfl⟩ := row_some (hs.take (rw TRF 4 (.slice fa fs.length fc) (frows fs))) (by omega)
          obtain ⟨i0, i1, i2, i3⟩ := frows_at hx
          obtain ⟨f1, f2, f3, f4⟩ := HF.out x (List.mem_of_getElem? hx)
          have hsz := fun (F : Assn) (w : World) (h : Sat (diskP D d * F) w) => size_any D d x.nm F w h f3
          rw [f1] at hsz
          have hrd := fun (F : Assn) (w : World) (h : Sat (diskP D d * F) w) => read_any D d x.nm 0 x.f.now.length F w h f3 HSZ0.out
          rw [f2] at hrd
          have HSZ : Aside (∀ (F : Assn) (w : World), Sat (diskP D d * F) w → Calls Try.prog 36 #[.pointer (some ⟨D, 0, none⟩), .string x.nm] w fun e w' => e = .returned (.int .i64 x.f.now.length) ∧ w = w') := hsz
          have HRD : Aside (∀ (F : Assn) (w : World), Sat (diskP D d * F) w → Calls Try.prog 35 #[.pointer (some ⟨D, 0, none⟩), .string x.nm, .int .i64 0, .int .i64 x.f.now.length] w fun e w' => ∃ v, e = .returned (.tuple #[v, .int .i64 0]) ∧ Sat (rw TB 1 v (bys x.f.now) * (diskP D d * F)) w') := hrd
          have HSM : Aside (∀ (a : Option Addr) (c : Nat) (F : Assn) (w : World), Sat (rw TB 1 (.slice a x.f.now.length c) (bys x.f.now) * (rw TB 1 (.slice x.na x.f.now.length x.nc) (bys x.f.now) * F)) w → Calls Try.prog 37 #[.slice a x.f.now.length c, .slice x.na x.f.now.length x.nc] w fun e w' => e = .returned (.bool true) ∧ Sat (rw TB 1 (.slice a x.f.now.length c) (bys x.f.now) * (rw TB 1 (.slice x.na x.f.now.length x.nc) (bys x.f.now) * F)) w') := by
            intro a c F w h
            have h1 := same_any (.slice a x.f.now.length c) (.slice x.na x.f.now.length x.nc) x.f.now x.f.now w (Reads.rw _ _ h) (Reads.rw _ _ (h.take (rw TB 1 (.slice x.na x.f.now.length x.nc) (bys x.f.now))))
            rw [decide_eq_true (rfl : x.f.now = x.f.now)] at h1
            exact h1.mono fun e w' ⟨e1, n, e2⟩ => ⟨e1, by rw [e2]; exact h.drewN n⟩
          haveI : At (fs.map fun x => Value.string x.nm) j (.string x.nm) := ⟨by rw [List.getElem?_map, hx]; rfl⟩
          obtain ⟨R, hR⟩ : ∃ R, rfsA (fs.take j) * rfsA (fs.drop (j + 1)) = R := ⟨_, rfl⟩
          have hra := rfsA_at hx
          rw [hR] at hra
          have HRA : Aside (rfsA fs = rfA x * R) := hra
          have hs6 : Sat (rw TB 1 (.slice x.na x.f.now.length x.nc) (bys x.f.now) * (rw TB 1 (.slice x.sa x.f.safe.length x.sc) (bys x.f.safe) * (R * (rw TS 1 (.slice (some ⟨gn, 0, none⟩) fs.length nc) (fs.map fun x => Value.string x.nm) * (coreR W ⟨room, changes, left, armed, false⟩ (.slice (some ⟨gf, 0, none⟩) fs.length fc) (.slice pa ps.length pc) * (rw TRF 4 (.slice (some ⟨gf, 0, none⟩) fs.length fc) (frows fs) * (rw TRP 4 (.slice pa ps.length pc) (qrows ps) * (rpsA ps * (diskP D d * F))))))))) wr := hs.eq (by rw [hra]; unfold rfA; ac_rfl)
          haveI := hs6.i
          clear hs hx hsz hrd f1 f2 f3 hra hR
          go_upto_region 11 with (fail)
          go_cut [7, 8] (fun t7 t8 wx => ∃ a8 c8, t7 = .slice a8 x.f.now.length c8 ∧ t8 = .int .i64 0 ∧ Sat (rw TB 1 (.slice a8 x.f.now.length c8) (bys x.f.now) * (rw TB 1 (.slice x.na x.f.now.length x.nc) (bys x.f.now) * (rw TB 1 (.slice x.sa x.f.safe.length x.sc) (bys x.f.safe) * (R * (rw TS 1 (.slice (some ⟨gn, 0, none⟩) fs.length nc) (fs.map fun x => Value.string x.nm) * (coreR W ⟨room, changes, left, armed, false⟩ (.slice (some ⟨gf, 0, none⟩) fs.length fc) (.slice pa ps.length pc) * (rw TRF 4 (.slice (some ⟨gf, 0, none⟩) fs.length fc) (frows fs) * (rw TRP 4 (.slice pa ps.length pc) (qrows ps) * (rpsA ps * (diskP D d * F)))))))))) wx)
          case first =>
            go_region_held3 (fun w' => w'.cell? ⟨gn, j, none⟩ = some (.string x.nm)) (first | exact cell_sat _ _ _) (first
              | (go_at_call 36; refine (HSZ.out _ _ (takeI (diskP D d))).mono ?_; rintro e w7 ⟨rfl, rfl⟩)
              | (go_at_call 35; refine (HRD.out _ _ (takeI (diskP D d))).mono ?_; rintro e w8 ⟨v8, rfl, hs8⟩; obtain ⟨a8, c8, rfl, _, _⟩ := rw_vb hs8; haveI := hs8.i))
            all_goals
              go_wp2_with fail
              go_meet
              exact ⟨a8, c8, rfl, rfl, satI_eq (by ac_rfl)⟩
          case rest =>
            obtain ⟨a8, c8, rfl, rfl, hs8⟩ := hcut
            haveI := hs8.i
            clear hs6
            go_upto_region 12 with (fail)
            go_region_held3 (fun w' => w'.cell? ⟨gn, j, none⟩ = some (.string x.nm) ∧ w'.cell? ⟨W, 5, none⟩ = some (.slice (some ⟨gf, 0, none⟩) fs.length fc) ∧ w'.cell? ⟨gf, j * 4, none⟩ = some (.string x.nm) ∧ w'.cell? ⟨gf, j * 4 + 1, none⟩ = some (.slice x.na x.f.now.length x.nc)) (first | exact ⟨cell_sat _ _ _, cell_sat _ _ _, cell_sat _ _ _, cell_sat _ _ _⟩) (first
              | (go_at_call 37; refine (HSM.out a8 c8 _ _ (satI : Sat (rw TB 1 (.slice a8 x.f.now.length c8) (bys x.f.now) * (rw TB 1 _ _ * _)) _)).mono ?_; rintro e w9 ⟨rfl, hs9⟩; haveI := hs9.i))
            all_goals
              go_wp2
              go_roundg (fs.length - (j + 1))
              case measure => have := A.out; omega
              case rel =>
                refine ⟨j + 1, by go_num, by omega, rfl, satI_weak (C := rw TB 1 (.slice a8 x.f.now.length c8) (bys x.f.now)) ?_⟩
                rw [HRA.out]
                unfold rfA
                ac_rfl
        · have hlt' : ¬ (j : Int) < fs.length := by omega
          go_wp2
          go_ret
          refine ⟨rfl, (ref_shut (F := diskP D d * F) (fa := fa) (fc := fc) (pa := pa) (pc := pc) HR.out (Sat.weak (B := rw TS 1 (.slice na fs.length nc) (fs.map fun x => Value.string x.nm)) (hs.eq ?_))).eq (by ac_rfl)⟩
          unfold refA
          ac_rfl

end Go.Proofs.Ytjhkmmpgjiciiaa
