/-
  Walks of package disk: Size, Read, Sync, Cut.
-/
import Derived.Test.YtjhkmmpgjiciiaaDk4
namespace Go.Proofs.Ytjhkmmpgjiciiaa
set_option linter.unusedSimpArgs false
set_option linter.unusedVariables false
open Go.RowKit Go.Sl Go.Dk

/-- a new slice without elements -/
theorem rw_new0 {e s : Nat} {F : Assn} {w : World} (hs : Sat F w) : Sat (rw e s (.slice (some ⟨w.heap.size, 0, none⟩) 0 0) [] * F) (w.alloc (.cells #[] e)) := by
  have := hs.alloc #[] e
  exact Sat.rw_shut (sp := []) (by simp) (by simp) (by omega) (by simp) this

theorem file_there {D : Nat} {d : Dk} {nm : ByteArray} {t : Bool} {F : Assn} {w : World} (hs : Sat (diskP D d * F) w) (hm : d.may nm t = 0) (hg : (d.get nm).isSome = true) :
    ∃ M l1 n l2 pv ps, n.nm = nm ∧ (∀ m ∈ l1, m.nm ≠ n.nm) ∧ fents (l1 ++ n :: l2) = d.files ∧ pents ps = d.pend ∧ named nm = true ∧ d.down = false ∧ d.get nm = some n.f ∧ Sat (diskA D M (l1 ++ n :: l2) pv ps d * F) w := by
  obtain ⟨M, ns, pv, ps, h1, h2, h3⟩ := Sat.disk_open hs
  rcases nf_cases ns nm with ⟨l1, n, l2, rfl, h4, h5⟩ | h
  · rcases may_ways d nm t with ⟨h, _⟩ | ⟨h, _⟩ | ⟨h, _⟩ | ⟨h, h6, h7, _⟩
    · rw [h] at hm; cases hm
    · rw [h] at hm; cases hm
    · rw [h] at hm; cases hm
    · subst h4
      exact ⟨M, l1, n, l2, pv, ps, rfl, h5, h1, h2, h6, h7, by unfold Dk.get; rw [← h1, fget_found h5], h3⟩
  · unfold Dk.get at hg
    rw [← h1, fget_none h] at hg
    cases hg

theorem may_some {d : Dk} {nm : ByteArray} (h : d.may nm true = 0) : (d.get nm).isSome = true := by
  rcases may_ways d nm true with ⟨h', _⟩ | ⟨h', _⟩ | ⟨h', _⟩ | ⟨_, _, _, h'⟩
  · rw [h'] at h; cases h
  · rw [h'] at h; cases h
  · rw [h'] at h; cases h
  · exact h' rfl

set_option maxHeartbeats 400000 in
theorem size_any (D : Nat) (d : Dk) (nm : ByteArray) (F : Assn) (w : World) (hs : Sat (diskP D d * F) w) (hsz : nm.size ≤ 9223372036854775807) :
    Calls Try.prog 36 #[.pointer (some ⟨D, 0, none⟩), .string nm] w fun e w' => e = .returned (.int .i64 (d.size nm)) ∧ w = w' := by
  by_cases hm : d.may nm true = 0
  · obtain ⟨M, l1, n, l2, pv, ps, rfl, h1, h2, h3, h4, h5, h6, hs1⟩ := file_there hs hm (may_some hm)
    have e1 : d.size n.nm = n.f.now.length := by unfold Dk.size; rw [if_neg (by simp [hm]), h6]; rfl
    rw [e1]
    have hmay := may_found D M l1 n l2 pv ps d true F w hs1 h1 hsz h4 h5
    rw [disk_file] at hs1
    unfold fileA at hs1
    have c0 := hs1.c n.b 0
    obtain ⟨va, vc, hv, _⟩ := rw_vb (hs1.take (rw TB 1 n.nv (bys n.f.now)))
    rw [hv] at c0
    clear hs hs1 hm h2 h3 h4 h5 h6 e1 hv
    go_enter Try.func36, Try.ntmps36
    go_wp2_with (refine hmay.mono ?_; rintro e w' ⟨rfl, rfl⟩)
    go_ret
    exact ⟨rfl, rfl⟩
  · have e1 : d.size nm = -1 := by unfold Dk.size; rw [if_pos hm]
    rw [e1]
    obtain ⟨M, ns, pv, ps, h1, h2, h3⟩ := Sat.disk_open hs
    have hmay := may_bad D M ns pv ps d nm true F w h3 h1 hsz hm
    have hb : (d.may nm true != 0) = true := by simpa using hm
    clear hs h3 h1 h2 e1 hm
    generalize d.may nm true = q at *
    go_enter Try.func36, Try.ntmps36
    go_wp2_with (refine hmay.mono ?_; rintro e w' ⟨rfl, rfl⟩)
    go_ret
    exact ⟨rfl, rfl⟩

set_option maxRecDepth 100000 in
set_option maxHeartbeats 800000 in
theorem read_any (D : Nat) (d : Dk) (nm : ByteArray) (k n : Int) (F : Assn) (w : World) (hs : Sat (diskP D d * F) w) (hsz : nm.size ≤ 9223372036854775807) (hbig : ∀ p ∈ d.files, p.2.now.length ≤ big) :
    Calls Try.prog 35 #[.pointer (some ⟨D, 0, none⟩), .string nm, .int .i64 k, .int .i64 n] w fun e w' => ∃ v, e = .returned (.tuple #[v, .int .i64 (d.read nm k n).1]) ∧ Sat (rw TB 1 v (bys (d.read nm k n).2) * (diskP D d * F)) w' := by
  by_cases hm : d.may nm true = 0
  · obtain ⟨M, l1, x, l2, pv, ps, rfl, h1, h2, h3, h4, h5, h6, hs1⟩ := file_there hs hm (may_some hm)
    have hmay := may_found D M l1 x l2 pv ps d true F w hs1 h1 hsz h4 h5
    have hfb : x.f.now.length ≤ 1099511627776 := hbig (x.nm, x.f) (by rw [← h2]; simp [fents])
    rw [disk_file] at hs1
    unfold fileA at hs1
    have c0 := hs1.c x.b 0
    obtain ⟨va, vc, hv, hv1, hv2⟩ := rw_vb (hs1.take (rw TB 1 x.nv (bys x.f.now)))
    have hbyt := Reads.rw _ _ (hs1.take (rw TB 1 x.nv (bys x.f.now)))
    rw [hv] at c0 hbyt
    by_cases hr : k < 0 ∨ n < 0 ∨ (x.f.now.length : Int) < k ∨ (x.f.now.length : Int) - k < n
    · have e1 : d.read x.nm k n = (2, []) := by
        unfold Dk.read; rw [if_neg (by simp [hm]), h6]; simp only [Option.getD_some]; rw [if_pos hr]
      rw [e1]
      clear hs1 hm h2 h3 h4 h5 h6 e1 hv hbyt
      by_cases g1 : k < 0
      · have g1' : decide (k < 0) = true := by simpa using g1
        go_enter Try.func35, Try.ntmps35
        go_wp2_with (refine hmay.mono ?_; rintro e w' ⟨rfl, rfl⟩)
        go_ret2
        exact ⟨_, rfl, by simpa [bys] using hs.rw_nil⟩
      · have g1' : decide (k < 0) = false := by simpa using g1
        by_cases g2 : n < 0
        · have g2' : decide (n < 0) = true := by simpa using g2
          go_enter Try.func35, Try.ntmps35
          go_wp2_with (refine hmay.mono ?_; rintro e w' ⟨rfl, rfl⟩)
          go_ret2
          exact ⟨_, rfl, by simpa [bys] using hs.rw_nil⟩
        · have g2' : decide (n < 0) = false := by simpa using g2
          by_cases g3 : (x.f.now.length : Int) < k
          · have g3' : decide ((x.f.now.length : Int) < k) = true := by simpa using g3
            go_enter Try.func35, Try.ntmps35
            go_wp2_with (refine hmay.mono ?_; rintro e w' ⟨rfl, rfl⟩)
            go_ret2
            exact ⟨_, rfl, by simpa [bys] using hs.rw_nil⟩
          · have g3' : decide ((x.f.now.length : Int) < k) = false := by simpa using g3
            have g4 : (x.f.now.length : Int) - k < n := by omega
            go_enter Try.func35, Try.ntmps35
            go_wp2_with (refine hmay.mono ?_; rintro e w' ⟨rfl, rfl⟩)
            go_ret2
            exact ⟨_, rfl, by simpa [bys] using hs.rw_nil⟩
    · obtain ⟨k, rfl⟩ := Int.eq_ofNat_of_zero_le (show 0 ≤ k by omega)
      obtain ⟨n, rfl⟩ := Int.eq_ofNat_of_zero_le (show 0 ≤ n by omega)
      have e1 : d.read x.nm k n = (0, (x.f.now.drop k).take n) := by
        unfold Dk.read; rw [if_neg (by simp [hm]), h6]; simp only [Option.getD_some]; rw [if_neg hr]; rfl
      rw [e1]
      have g1 : ¬ (x.f.now.length : Int) < k := by omega
      have g2 : ¬ (x.f.now.length : Int) - k < n := by omega
      obtain ⟨i0, E⟩ := elemB
      have hcut := at_cut (P := Try.prog) E (a := va) (n := x.f.now.length) (c := vc) k (k + n) (by omega) (by omega)
      have e2 : k + n - k = n := by omega
      rw [Int.natCast_add, e2] at hcut
      have hs2 := rw_new0 (e := TB) (s := 1) hs1
      have hbyt2 := Reads.rw _ _ (hs2.take (rw TB 1 x.nv (bys x.f.now)))
      rw [hv] at hbyt2
      have hsub := hbyt2.cut k (k + n) (by omega) (by omega)
      rw [e2] at hsub
      have hsrc := hsub.src (P := Try.prog)
      have hln : ((x.f.now.drop k).take n).length = n := by simp; omega
      rw [hln] at hsrc
      have hlt : x.b < w.heap.size := World.block_lt_of_cell? w _ c0
      have HH : Aside (fents (l1 ++ x :: l2) = d.files ∧ pents ps = d.pend ∧ x.nv = .slice va x.f.now.length vc) := ⟨h2, h3, hv⟩
      clear hs hm h2 h3 h4 h5 h6 e1 hv hbyt hbyt2 hsub hs1 hln e2
      go_enter Try.func35, Try.ntmps35
      go_wp2_with first | (at_builtin; refine wpl_append_same E rfl (.tmp 47) (.tmp 56) rfl rfl rfl hs2 hsrc (by unfold maxLen; omega) (by omega) ?_; intro a' c' w'' hs6 hnil; clear hnil hs2 hsrc) | (refine hmay.mono ?_; rintro e w' ⟨rfl, rfl⟩)
      simp only [Nat.zero_add, List.nil_append] at hs6
      go_ret2
      refine ⟨_, rfl, ?_⟩
      show Sat (rw TB 1 (.slice a' n c') _ * _) w''
      have hs7 : Sat (diskA D M (l1 ++ x :: l2) pv ps d * (rw TB 1 (.slice a' n c') (bys ((x.f.now.drop k).take n)) * F)) w'' := hs6.eq (by rw [disk_file]; unfold fileA; ac_rfl)
      exact (Sat.disk_shut HH.out.1 HH.out.2.1 hs7).eq (by ac_rfl)
  · have e1 : d.read nm k n = (d.may nm true, []) := by unfold Dk.read; rw [if_pos hm]
    rw [e1]
    obtain ⟨M, ns, pv, ps, h1, h2, h3⟩ := Sat.disk_open hs
    have hmay := may_bad D M ns pv ps d nm true F w h3 h1 hsz hm
    have hb : (d.may nm true != 0) = true := by simpa using hm
    clear h3 h1 h2 e1 hm hbig
    generalize d.may nm true = q at *
    go_enter Try.func35, Try.ntmps35
    go_wp2_with (refine hmay.mono ?_; rintro e w' ⟨rfl, rfl⟩)
    go_ret2
    exact ⟨_, rfl, by simpa [bys] using hs.rw_nil⟩

/-- the disk's own cells apart from the rest -/
theorem disk_core (D M : Nat) (ns : List Nf) (pv : Value) (ps : List Np) (d : Dk) : diskA D M ns pv ps d = coreD D M pv d * (mp skey M (ns.map kvF) * (filesA ns * pendA pv ps)) := rfl

set_option maxRecDepth 100000 in
set_option maxHeartbeats 800000 in
theorem sync_any (D : Nat) (d : Dk) (m : Nat) (nm : ByteArray) (F : Assn) (w : World) (hs : Sat (diskP D d * F) w) (hsz : nm.size ≤ 9223372036854775807) (ok : Ok m d) (hm' : m ≤ big) :
    Calls Try.prog 33 #[.pointer (some ⟨D, 0, none⟩), .string nm] w fun e w' => e = .returned (.int .i64 (d.sync nm).1) ∧ Sat (diskP D (d.sync nm).2 * F) w' := by
  have hbig : m ≤ 1099511627776 := hm'
  by_cases hm : d.may nm true = 0
  · obtain ⟨M, l1, x, l2, pv, ps, rfl, h1, h2, h3, h4, h5, h6, hs1⟩ := file_there hs hm (may_some hm)
    have hmay := may_found D M l1 x l2 pv ps d true F w hs1 h1 hsz h4 h5
    cases hst : d.stop with
    | true =>
      have e1 : d.sync x.nm = (8, { d with down := true }) := by unfold Dk.sync; rw [if_neg (by simp [hm]), if_pos hst]
      rw [e1]
      have hch := change_stop D M pv d _ w (hs1.eq (by rw [disk_core, sep_assoc])) hst
      have HH : Aside (fents (l1 ++ x :: l2) = d.files ∧ pents ps = d.pend) := ⟨h2, h3⟩
      clear hs hm h2 h3 h4 h5 h6 e1 hs1 hst ok
      go_enter Try.func33, Try.ntmps33
      go_wp2_with fail
      refine hmay.mono ?_
      rintro e w' ⟨rfl, rfl⟩
      go_wp2_with fail
      refine hch.mono ?_
      rintro e w1 ⟨rfl, hs1⟩
      go_wp2
      go_ret
      refine ⟨rfl, Sat.disk_shut (M := M) (pv := pv) (d := { d with down := true }) HH.out.1 HH.out.2 (hs1.eq ?_)⟩
      rw [disk_core]
      ac_rfl
    | false =>
      have e1 : d.sync x.nm = (0, (d.ticked.put x.nm { x.f with safe := x.f.now, sure := true }).settled x.nm) := by
        unfold Dk.sync; rw [if_neg (by simp [hm]), if_neg (by simp [hst]), h6]; rfl
      rw [e1]
      have hfb := (ok.sz (x.nm, x.f) (by rw [← h2]; simp [fents])).1
      have hfb' : x.f.now.length ≤ 1099511627776 := hfb
      have hpl : ps.length ≤ 1099511627776 := by have := ok.pend; rw [← h3] at this; simp [pents] at this; omega
      have hch := change_go D M pv d _ w (hs1.eq (by rw [disk_core, sep_assoc])) hst (by have := ok.left; omega) ok.left.2 ok.changes.1 (by have := ok.changes; omega)
      have HH : Aside (fents (l1 ++ x :: l2) = d.files ∧ pents ps = d.pend ∧ (∀ m ∈ l1, m.nm ≠ x.nm)) := ⟨h2, h3, h1⟩
      obtain ⟨i0, E⟩ := elemB
      clear hs hm h2 h3 h4 h5 h6 e1 hs1 hst ok hfb
      go_enter Try.func33, Try.ntmps33
      go_wp2_with fail
      refine hmay.mono ?_
      rintro e w' ⟨rfl, rfl⟩
      go_wp2_with fail
      refine hch.mono ?_
      rintro e w1 ⟨rfl, hs1⟩
      clear hmay hch
      have hs2 : Sat (fileA x * (restD D M l1 x l2 pv ps d.ticked * F)) w1 := hs1.eq (by rw [← sep_assoc (fileA x), ← disk_file, disk_core]; ac_rfl)
      unfold fileA at hs2
      have c0 := hs2.c x.b 0
      have hlt : x.b < w1.heap.size := World.block_lt_of_cell? w1 _ c0
      obtain ⟨va, vc, hv, hv1, hv2⟩ := rw_vb (hs2.take (rw TB 1 x.nv (bys x.f.now)))
      have hs3 := rw_new0 (e := TB) (s := 1) hs2
      have hbyt := Reads.rw _ _ (hs3.take (rw TB 1 x.nv (bys x.f.now)))
      rw [hv] at c0 hbyt
      have hsrc := hbyt.src (P := Try.prog)
      clear hs1 hs2 hbyt
      go_wp2_with (at_builtin; refine wpl_append_same E rfl (.tmp 22) (.tmp 26) rfl rfl rfl hs3 hsrc (by unfold maxLen; omega) (by omega) ?_; intro a' c' w2 hs4 hnil; simp only [Nat.zero_add, List.nil_append] at hs4; have k1 := hs4.c x.b 1; have f1 := hs4.f x.b 1; have hs5 := hs4.upd x.b 1 (.slice a' x.f.now.length c'); have k2 := hs5.c x.b 2; have f2 := hs5.f x.b 2; have hs6 := hs5.upd x.b 2 (.bool true); clear hs3 hsrc hnil hs4 hs5)
      have hset := settled_any D M pv ps d.ticked x.nm (fileA { x with f := { x.f with safe := x.f.now, sure := true }, sv := .slice a' x.f.now.length c' } * (mp skey M ((l1 ++ x :: l2).map kvF) * (filesA l1 * (filesA l2 * F)))) _ (Sat.weak (B := rw TB 1 x.sv (bys x.f.safe)) (hs6.eq (by unfold restD fileA; ac_rfl))) hpl
      refine hset.mono ?_
      rintro e w3 ⟨rv, rfl, hs7⟩
      go_wp2
      go_ret
      refine ⟨rfl, ?_⟩
      obtain ⟨g1, g2, g3⟩ := HH.out
      have e5 : fents (l1 ++ { x with f := { x.f with safe := x.f.now, sure := true }, sv := .slice a' x.f.now.length c' } :: l2) = fput x.nm { x.f with safe := x.f.now, sure := true } d.files := by
        rw [← g1, fput_found _ g3]
        simp [fents]
      refine Sat.disk_shut (M := M) (ns := l1 ++ { x with f := { x.f with safe := x.f.now, sure := true }, sv := .slice a' x.f.now.length c' } :: l2) (pv := rv) (ps := others x.nm ps) e5 (by rw [others_pents, g2]; rfl) (hs7.eq ?_)
      rw [disk_file]
      have e6 : ∀ (x' : Nf) (dd : Dk), x'.b = x.b → x'.nm = x.nm → restD D M l1 x' l2 rv (others x.nm ps) dd = restD D M l1 x l2 rv (others x.nm ps) dd := fun x' dd hb hn => restD_at hb.symm hn.symm
      rw [e6]
      · unfold restD
        show coreD D M rv d.ticked * _ = _ * (coreD D M rv d.ticked * _) * _
        ac_rfl
      · rfl
      · rfl
  · have e1 : d.sync nm = (d.may nm true, d) := by unfold Dk.sync; rw [if_pos hm]
    rw [e1]
    obtain ⟨M, ns, pv, ps, h1, h2, h3⟩ := Sat.disk_open hs
    have hmay := may_bad D M ns pv ps d nm true F w h3 h1 hsz hm
    have hb : (d.may nm true != 0) = true := by simpa using hm
    have hb2 : (d.may nm true == 0) = false := by simpa using hm
    clear h3 h1 h2 e1 hm ok
    generalize d.may nm true = q at *
    go_enter Try.func33, Try.ntmps33
    go_wp2_with (refine hmay.mono ?_; rintro e w' ⟨rfl, rfl⟩)
    go_ret
    exact ⟨rfl, hs⟩

end Go.Proofs.Ytjhkmmpgjiciiaa
