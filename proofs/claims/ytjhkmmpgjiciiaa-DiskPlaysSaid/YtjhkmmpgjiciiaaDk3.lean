/-
  Walks of package disk: sum, fits, settled.
-/
import Derived.Test.YtjhkmmpgjiciiaaDk2
import Derived.Deep.RegionWith
import Derived.Deep.RegionHeld3
import Derived.Deep.DrawnRows
import Derived.IntWalk
namespace Go.Proofs.Ytjhkmmpgjiciiaa
set_option linter.unusedSimpArgs false
set_option linter.unusedVariables false
open Go.RowKit Go.Sl Go.Dk
attribute [local go_sem ↓] Go.wp_at_zero Go.wp_at_succ

def lens (ns : List Nf) : Nat := (ns.map fun n => n.f.now.length).sum
theorem lens_sum (ns : List Nf) : sum (fents ns) = lens ns := by simp [sum, fents, lens, Function.comp_def]
theorem lens_perm {ns ns' : List Nf} (h : ns.Perm ns') : lens ns = lens ns' := (h.map _).sum_nat
theorem lens_cons (n : Nf) (l : List Nf) : lens (n :: l) = n.f.now.length + lens l := by simp [lens]

theorem file_in {D M : Nat} {ns : List Nf} {pv : Value} {ps : List Np} {d : Dk} {n : Nf} (h : n ∈ ns) : ∃ R, filesA ns = fileA n * R := by
  obtain ⟨l1, l2, rfl⟩ := List.append_of_mem h
  exact ⟨filesA l1 * filesA l2, by rw [filesA_append, filesA]; ac_rfl⟩

theorem rw_v {e s : Nat} {v : Value} {xs : List Value} {F : Assn} {w : World} (hs : Sat (rw e s v xs * F) w) : ∃ a n c, v = .slice a n c ∧ xs.length = n * s ∧ n ≤ c ∧ c ≤ 9223372036854775807 := by
  rcases hs.rw_open with ⟨h1, h2, h3⟩ | ⟨g, n', cap', sp, h1, h2, h3, h4, h5, h6⟩
  · subst h2; exact ⟨_, _, _, h1, by simp, by omega, by omega⟩
  · exact ⟨_, _, _, h1, h2, h4, by simpa [maxLen] using h5⟩
theorem rw_vb {v : Value} {l : List UInt8} {F : Assn} {w : World} (hs : Sat (rw TB 1 v (bys l) * F) w) : ∃ a c, v = .slice a l.length c ∧ l.length ≤ c ∧ c ≤ 9223372036854775807 := by
  obtain ⟨a, n, c, h1, h2, h3, h4⟩ := rw_v hs
  rw [bys_len, Nat.mul_one] at h2
  subst h2
  exact ⟨a, c, h1, h3, h4⟩

set_option maxHeartbeats 400000 in
theorem sum_any (D M : Nat) (ns : List Nf) (pv : Value) (ps : List Np) (d : Dk) (F : Assn) (w : World) (hs : Sat (diskA D M ns pv ps d * F) w) (hb : lens ns ≤ 4611686018427387904) :
    Calls Try.prog 90 #[.pointer (some ⟨D, 0, none⟩)] w fun e w' => e = .returned (.int .i64 (lens ns : Nat)) ∧ Sat (diskA D M ns pv ps d * F) w' := by
  have hs0 : Sat (coreD D M pv d * (mp skey M (ns.map kvF) * (filesA ns * pendA pv ps)) * F) w := hs
  unfold coreD at hs0
  have c5 := hs0.c D 5
  obtain ⟨o, ho, hs1⟩ := (hs0.take (mp skey M (ns.map kvF))).mp_open
  obtain ⟨oi, hI, hrange⟩ := run_range_mp (P := Try.prog) Try.underlying113 hs1.obj ho
  have hs2 := hs1.alloc_raw oi
  have hs3 : Sat (raw M o * (raw w.heap.size oi * (coreD D M pv d * (filesA ns * pendA pv ps) * F))) (w.alloc oi) := hs2.eq (by unfold coreD; ac_rfl)
  have HO : Aside (MapIs skey o (ns.map kvF)) := ho
  clear hs2 hs1 hs0 hs ho
  go_enter Try.func90, Try.ntmps90
  go_wp2
  go_loopg [3] ns.length (fun k out wr => ∃ (acc : Nat) (oi' : Obj) (rem : List (ByteArray × Value)) (ns1 : List Nf), out = .int .i64 acc ∧ Aside (k = rem.length ∧ Iter skey M o oi' (ns.map kvF) rem ∧ rem.Perm (ns1.map kvF) ∧ (∀ n ∈ ns1, n ∈ ns) ∧ acc + lens ns1 = lens ns) ∧
    Sat (raw M o * (raw w.heap.size oi' * (coreD D M pv d * (filesA ns * pendA pv ps) * F))) wr)
  case atStart => exact ⟨0, oi, ns.map kvF, ns, rfl, ⟨by simp, hI, .refl _, fun _ h => h, by omega⟩, hs3⟩
  case round =>
    obtain ⟨acc, oi', rem, ns1, rfl, A, hsr⟩ := hrel
    obtain ⟨hgk, hI', hp, hsub, hacc⟩ := A.out
    clear hI hs3 hrange c5
    rcases run_next_sl (P := Try.prog) hsr hI' with ⟨hrem, hnext⟩ | ⟨i, k, v, oi2, w2, hi, hnext, hI2, hs4, hentry⟩
    · subst hrem
      have hns1 : ns1 = [] := by have := hp.length_eq; simpa using this.symm
      subst hns1
      have HA : Aside (acc = lens ns) := (by simpa [lens] using hacc : acc = lens ns)
      have HI : Aside (Iter skey M o oi' (ns.map kvF) []) := hI'
      clear hI' A hp hsub hacc
      go_wp2
      go_ret
      refine ⟨by rw [← HA.out]; rfl, ?_⟩
      have hs5 := Sat.mp_shut HI.out.mapIs hsr
      refine Sat.weak (B := raw w.heap.size oi') (hs5.eq ?_)
      unfold diskA
      ac_rfl
    · obtain ⟨n, ns2, hp1, hx, hp2⟩ := perm_map_step hp hi
      have hn : n ∈ ns := hsub n (hp1.mem_iff.2 (by simp))
      cases hx
      obtain ⟨R, hR⟩ := file_in (D := D) (M := M) (pv := pv) (ps := ps) (d := d) hn
      have hs5 : Sat (fileA n * (R * (raw M o * (raw w.heap.size oi2 * (coreD D M pv d * pendA pv ps * F))))) w2 := hs4.eq (by rw [hR]; ac_rfl)
      unfold fileA at hs5
      have c0 := hs5.c n.b 0
      obtain ⟨va, vc, hv, _⟩ := rw_vb (hs5.take (rw TB 1 n.nv (bys n.f.now)))
      rw [hv] at c0
      have hlt : (rem.eraseIdx i).length < rem.length := by
        have := (List.getElem?_eq_some_iff.1 hi).1
        rw [List.length_eraseIdx]; split <;> omega
      have hl1 : acc + n.f.now.length ≤ 4611686018427387904 := by rw [lens_perm hp1, lens_cons] at hacc; omega
      have HL : Aside ((rem.eraseIdx i).length < rem.length ∧ gk = rem.length) := ⟨hlt, hgk⟩
      have HI : Aside (Iter skey M o oi2 (ns.map kvF) (rem.eraseIdx i) ∧ (rem.eraseIdx i).Perm (ns2.map kvF) ∧ (∀ m ∈ ns2, m ∈ ns) ∧ acc + n.f.now.length + lens ns2 = lens ns) := by
        refine ⟨hI2, hp2, fun m hm => hsub m (hp1.mem_iff.2 (by simp [hm])), ?_⟩
        rw [lens_perm hp1, lens_cons] at hacc; omega
      clear hI' A hlt hgk hI2 hi hp hp1 hp2 hsub hacc hs5 hR hn hv hsr
      go_wp2
      go_roundg (rem.eraseIdx i).length
      case measure => have := HL.out; omega
      case rel => exact ⟨acc + n.f.now.length, oi2, _, ns2, by go_num, ⟨rfl, HI.out⟩, hs4⟩

def fptr (fo : Option Nf) : Value := match fo with
  | none => .pointer none
  | some n => .pointer (some ⟨n.b, 0, none⟩)

set_option maxHeartbeats 800000 in
theorem fits_none (D M : Nat) (ns : List Nf) (pv : Value) (ps : List Np) (d : Dk) (size : Int) (F : Assn) (w : World) (hs : Sat (diskA D M ns pv ps d * F) w) (hf : fents ns = d.files) (hb : lens ns ≤ 4611686018427387904) (h0 : 0 ≤ size) (h1 : size ≤ 1152921504606846976) :
    Calls Try.prog 71 #[.pointer (some ⟨D, 0, none⟩), .pointer none, .int .i64 size] w fun e w' => e = .returned (.int .i64 (d.fits none size)) ∧ Sat (diskA D M ns pv ps d * F) w' := by
  have hs0 : Sat (coreD D M pv d * (mp skey M (ns.map kvF) * (filesA ns * pendA pv ps)) * F) w := hs
  unfold coreD at hs0
  have c5 := hs0.c D 5
  obtain ⟨o, ho, hs1⟩ := (hs0.take (mp skey M (ns.map kvF))).mp_open
  have hlen := fun ty => run_len_mp (P := Try.prog) Try.underlying113 hs1.obj ho ty
  rw [List.length_map] at hlen
  have hfl : d.files.length = ns.length := by rw [← hf]; simp [fents]
  have hsm : sum d.files = lens ns := by rw [← hf, lens_sum]
  obtain ⟨r, HR⟩ : ∃ r, Aside (d.fits none size = r) := ⟨_, rfl⟩
  rw [HR.out]
  have hr := HR.out
  unfold Dk.fits at hr
  rw [hfl, hsm] at hr
  clear hs0 hs1 ho hf hfl hsm
  by_cases h16 : 16 ≤ ns.length
  · have HF : Aside (r = 11) := (by rw [← hr]; simp [h16] : r = 11)
    have h16' : (16 : Int) ≤ ns.length := by omega
    clear hr
    go_enter Try.func71, Try.ntmps71
    go_wp2
    go_ret
    exact ⟨by rw [HF.out]; rfl, hs⟩
  · have h16' : ¬ (16 : Int) ≤ ns.length := by omega
    by_cases hsz : 0 < size
    · have hsum := sum_any D M ns pv ps d F w.drew hs.drew hb
      have W1 : IntKind.i64.wrap (lens ns : Nat) = (lens ns : Nat) := IntWalk.i64_in _ (by omega)
      have W2 : IntKind.i64.wrap ((lens ns : Nat) + size) = (lens ns : Nat) + size := IntWalk.i64_in _ (by omega)
      have c0 : w.cell? ⟨D, 0, none⟩ = some (.int .i64 d.room) := by unfold diskA coreD at hs; exact hs.c D 0
      by_cases hroom : d.room < lens ns + size
      · have HF : Aside (r = 7) := by
          show r = 7
          rw [← hr, if_neg (by simp [h16]), if_pos]
          simp only [Bool.and_eq_true, decide_eq_true_eq]; have h00 : had none = 0 := rfl; omega
        clear hr hs
        go_enter Try.func71, Try.ntmps71
        go_wp2_with fail
        go_region_held3 (fun w' => w'.cell? ⟨D, 0, none⟩ = some (.int .i64 d.room)) (first | exact c0' | exact c0 | (simpa using c0)) (first | (go_at_call 90; refine hsum.mono ?_; rintro e w1 ⟨rfl, hs1⟩; have c0' : w1.cell? ⟨D, 0, none⟩ = some (.int .i64 d.room) := (by unfold diskA coreD at hs1; exact hs1.c D 0)))
        all_goals
          go_wp2
          go_ret
          exact ⟨by rw [HF.out]; rfl, hs1⟩
      · have HF : Aside (r = 0) := by
          show r = 0
          rw [← hr, if_neg (by simp [h16]), if_neg]
          simp only [Bool.and_eq_true, decide_eq_true_eq]; have h00 : had none = 0 := rfl; omega
        clear hr hs
        go_enter Try.func71, Try.ntmps71
        go_wp2_with fail
        go_region_held3 (fun w' => w'.cell? ⟨D, 0, none⟩ = some (.int .i64 d.room)) (first | exact c0' | exact c0 | (simpa using c0)) (first | (go_at_call 90; refine hsum.mono ?_; rintro e w1 ⟨rfl, hs1⟩; have c0' : w1.cell? ⟨D, 0, none⟩ = some (.int .i64 d.room) := (by unfold diskA coreD at hs1; exact hs1.c D 0)))
        all_goals
          go_wp2
          go_ret
          exact ⟨by rw [HF.out]; rfl, hs1⟩
    · have hz : size = 0 := by omega
      subst hz
      have HF : Aside (r = 0) := by
        show r = 0
        rw [← hr, if_neg (by simp [h16]), if_neg]
        simp [had]
      clear hr
      go_enter Try.func71, Try.ntmps71
      go_wp2_with fail
      go_quiet (fail)
      go_wp2
      go_ret
      exact ⟨by rw [HF.out]; rfl, hs.drewN _⟩

set_option maxHeartbeats 800000 in
theorem fits_some (D M : Nat) (l1 : List Nf) (n : Nf) (l2 : List Nf) (pv : Value) (ps : List Np) (d : Dk) (size : Int) (F : Assn) (w : World) (hs : Sat (diskA D M (l1 ++ n :: l2) pv ps d * F) w) (hf : fents (l1 ++ n :: l2) = d.files) (hb : lens (l1 ++ n :: l2) ≤ 4611686018427387904) (h0 : 0 ≤ size) (h1 : size ≤ 1152921504606846976) :
    Calls Try.prog 71 #[.pointer (some ⟨D, 0, none⟩), .pointer (some ⟨n.b, 0, none⟩), .int .i64 size] w fun e w' => e = .returned (.int .i64 (d.fits (some n.f) size)) ∧ Sat (diskA D M (l1 ++ n :: l2) pv ps d * F) w' := by
  have hs0 := hs
  rw [disk_file] at hs0
  unfold fileA at hs0
  have c1 := hs0.c n.b 0
  obtain ⟨va, vc, hv, _⟩ := rw_vb (hs0.take (rw TB 1 n.nv (bys n.f.now)))
  rw [hv] at c1
  have hsm : sum d.files = lens (l1 ++ n :: l2) := by rw [← hf, lens_sum]
  have hle : n.f.now.length ≤ lens (l1 ++ n :: l2) := by
    have : lens (l1 ++ n :: l2) = lens (n :: (l1 ++ l2)) := lens_perm List.perm_middle
    rw [this, lens_cons]; omega
  obtain ⟨r, HR⟩ : ∃ r, Aside (d.fits (some n.f) size = r) := ⟨_, rfl⟩
  rw [HR.out]
  have hr := HR.out
  unfold Dk.fits at hr
  rw [hsm] at hr
  have h00 : had (some n.f) = n.f.now.length := rfl
  rw [h00] at hr
  clear hs0 hf hsm hv h00
  generalize l1 ++ n :: l2 = ns at *
  by_cases hsz : (n.f.now.length : Int) < size
  · have hsum := sum_any D M ns pv ps d F w.drew hs.drew hb
    have W1 : IntKind.i64.wrap ((lens ns : Nat) - (n.f.now.length : Nat)) = (lens ns : Nat) - (n.f.now.length : Nat) := IntWalk.i64_in _ (by omega)
    have W2 : IntKind.i64.wrap ((lens ns : Nat) - (n.f.now.length : Nat) + size) = (lens ns : Nat) - (n.f.now.length : Nat) + size := IntWalk.i64_in _ (by omega)
    have c0 : w.cell? ⟨D, 0, none⟩ = some (.int .i64 d.room) := by unfold diskA coreD at hs; exact hs.c D 0
    by_cases hroom : d.room < (lens ns : Nat) - (n.f.now.length : Nat) + size
    · have HF : Aside (r = 7) := by
        show r = 7
        rw [← hr, if_neg (by simp), if_pos]
        simp only [Bool.and_eq_true, decide_eq_true_eq]; omega
      clear hr hs
      go_enter Try.func71, Try.ntmps71
      go_wp2_with fail
      go_region_held3 (fun w' => w'.cell? ⟨D, 0, none⟩ = some (.int .i64 d.room)) (first | exact c0' | exact c0 | (simpa using c0)) (first | (go_at_call 90; refine hsum.mono ?_; rintro e w1 ⟨rfl, hs1⟩; have c0' : w1.cell? ⟨D, 0, none⟩ = some (.int .i64 d.room) := (by unfold diskA coreD at hs1; exact hs1.c D 0)))
      all_goals
        go_wp2
        go_ret
        exact ⟨by rw [HF.out]; rfl, hs1⟩
    · have HF : Aside (r = 0) := by
        show r = 0
        rw [← hr, if_neg (by simp), if_neg]
        simp only [Bool.and_eq_true, decide_eq_true_eq]; omega
      clear hr hs
      go_enter Try.func71, Try.ntmps71
      go_wp2_with fail
      go_region_held3 (fun w' => w'.cell? ⟨D, 0, none⟩ = some (.int .i64 d.room)) (first | exact c0' | exact c0 | (simpa using c0)) (first | (go_at_call 90; refine hsum.mono ?_; rintro e w1 ⟨rfl, hs1⟩; have c0' : w1.cell? ⟨D, 0, none⟩ = some (.int .i64 d.room) := (by unfold diskA coreD at hs1; exact hs1.c D 0)))
      all_goals
        go_wp2
        go_ret
        exact ⟨by rw [HF.out]; rfl, hs1⟩
  · have hsd : decide ((n.f.now.length : Int) < size) = false := by simpa using hsz
    have HF : Aside (r = 0) := by
      show r = 0
      rw [← hr, if_neg (by simp), if_neg]
      simp [hsd]
    clear hr
    go_enter Try.func71, Try.ntmps71
    go_wp2_with fail
    go_quiet (fail)
    go_wp2
    go_ret
    exact ⟨by rw [HF.out]; rfl, hs.drewN _⟩

end Go.Proofs.Ytjhkmmpgjiciiaa
