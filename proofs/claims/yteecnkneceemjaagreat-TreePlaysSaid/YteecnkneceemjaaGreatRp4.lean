/-
  TreePlays: what its proof leans on (part 4)
-/
import Derived.Test.YteecnkneceemjaaGreatRp3
import Derived.Deep.RegionWith
import Derived.Deep.RegionHeld3
import Derived.Deep.DrawnRows
import Derived.IntWalk
import Derived.Test.YteecnkneceemjaaGreatRp1
set_option linter.unusedSimpArgs false
set_option linter.unusedVariables false
namespace Go.Proofs.YteecnkneceemjaaGreat
set_option linter.unusedSimpArgs false
set_option linter.unusedVariables false
open Go.RowKit Go.Sl Go.Dk
attribute [local go_sem ↓] Go.wp_at_zero Go.wp_at_succ
def lens (ns : List Nf) : Nat := (ns.map fun n => n.f.now.length).sum
theorem lens_sum (ns : List Nf) : sum (fents ns) = lens ns := by simp [sum, fents, lens, Function.comp_def]
theorem lens_perm {ns ns' : List Nf} (h : ns.Perm ns') : lens ns = lens ns' := (h.map _).sum_nat
theorem lens_cons (n : Nf) (l : List Nf) : lens (n :: l) = n.f.now.length + lens l := by simp [lens]
theorem file_in {D M : Nat} {ns : List Nf} {pv : Value} {ps : List Np} {d : Dk} {n : Nf} (h : n ∈ ns) : ∃ R, filesA ns = fileA n * R := by
 obtain ⟨l1, l2, rfl⟩ := List.append_of_mem h
 exact ⟨filesA l1 * filesA l2, by rw [filesA_append, filesA]; ac_rfl⟩
theorem rw_v {e s : Nat} {v : Value} {xs : List Value} {F : Assn} {w : World} (hs : Sat (rw e s v xs * F) w) : ∃ a n c, v = .slice a n c ∧ xs.length = n * s ∧ n ≤ c ∧ c ≤ 9223372036854775807 := by
 rcases hs.rw_open with ⟨h1, h2, h3⟩ | ⟨g, n', cap', sp, h1, h2, h3, h4, h5, h6⟩
 · subst h2; exact ⟨_, _, _, h1, by simp, by omega, by omega⟩
 · exact ⟨_, _, _, h1, h2, h4, by simpa [maxLen] using h5⟩
theorem rw_vb {v : Value} {l : List UInt8} {F : Assn} {w : World} (hs : Sat (rw TB 1 v (bys l) * F) w) : ∃ a c, v = .slice a l.length c ∧ l.length ≤ c ∧ c ≤ 9223372036854775807 := by
 obtain ⟨a, n, c, h1, h2, h3, h4⟩ := rw_v hs
 rw [bys_len, Nat.mul_one] at h2
 subst h2
 exact ⟨a, c, h1, h3, h4⟩
set_option maxHeartbeats 400000 in
theorem sum_any (D M : Nat) (ns : List Nf) (pv : Value) (ps : List Np) (d : Dk) (F : Assn) (w : World) (hs : Sat (diskA D M ns pv ps d * F) w) (hb : lens ns ≤ 4611686018427387904) :
 Calls Tryz.prog 84 #[.pointer (some ⟨D, 0, none⟩)] w fun e w' => e = .returned (.int .i64 (lens ns : Nat)) ∧ Sat (diskA D M ns pv ps d * F) w' := by
 have hs0 : Sat (coreD D M pv d * (mp skey M (ns.map kvF) * (filesA ns * pendA pv ps)) * F) w := hs
 unfold coreD at hs0
 have c5 := hs0.c D 5
 obtain ⟨o, ho, hs1⟩ := (hs0.take (mp skey M (ns.map kvF))).mp_open
 obtain ⟨oi, hI, hrange⟩ := run_range_mp (P := Tryz.prog) Tryz.underlying145 hs1.obj ho
 have hs2 := hs1.alloc_raw oi
 have hs3 : Sat (raw M o * (raw w.heap.size oi * (coreD D M pv d * (filesA ns * pendA pv ps) * F))) (w.alloc oi) := hs2.eq (by unfold coreD; ac_rfl)
 have HO : Aside (MapIs skey o (ns.map kvF)) := ho
 clear hs2 hs1 hs0 hs ho
 go_enter Tryz.func84, Tryz.ntmps84
 go_wp2
 go_loopg [3] ns.length (fun k out wr => ∃ (acc : Nat) (oi' : Obj) (rem : List (ByteArray × Value)) (ns1 : List Nf), out = .int .i64 acc ∧ Aside (k = rem.length ∧ Iter skey M o oi' (ns.map kvF) rem ∧ rem.Perm (ns1.map kvF) ∧ (∀ n ∈ ns1, n ∈ ns) ∧ acc + lens ns1 = lens ns) ∧
  Sat (raw M o * (raw w.heap.size oi' * (coreD D M pv d * (filesA ns * pendA pv ps) * F))) wr)
 case atStart => exact ⟨0, oi, ns.map kvF, ns, rfl, ⟨by simp, hI, .refl _, fun _ h => h, by omega⟩, hs3⟩
 case round =>
  obtain ⟨acc, oi', rem, ns1, rfl, A, hsr⟩ := hrel
  obtain ⟨hgk, hI', hp, hsub, hacc⟩ := A.out
  clear hI hs3 hrange c5
  rcases run_next_sl (P := Tryz.prog) hsr hI' with ⟨hrem, hnext⟩ | ⟨i, k, v, oi2, w2, hi, hnext, hI2, hs4, hentry⟩
  · subst hrem
    have hns1 : ns1 = [] := by have := hp.length_eq; simpa using this.symm
    subst hns1
    have HA : Aside (acc = lens ns) := (by simpa [lens] using hacc : acc = lens ns)
    have HI : Aside (Iter skey M o oi' (ns.map kvF) []) := hI'
    clear hI' A hp hsub hacc
    go_wp2
    go_ret
    refine ⟨by rw [← HA.out]; rfl, ?_⟩
    have hs5 := Sat.mp_shut HI.out.mapIs hsr
    refine Sat.weak (B := raw w.heap.size oi') (hs5.eq ?_)
    unfold diskA
    ac_rfl
  · obtain ⟨n, ns2, hp1, hx, hp2⟩ := perm_map_step hp hi
    have hn : n ∈ ns := hsub n (hp1.mem_iff.2 (by simp))
    cases hx
    obtain ⟨R, hR⟩ := file_in (D := D) (M := M) (pv := pv) (ps := ps) (d := d) hn
    have hs5 : Sat (fileA n * (R * (raw M o * (raw w.heap.size oi2 * (coreD D M pv d * pendA pv ps * F))))) w2 := hs4.eq (by rw [hR]; ac_rfl)
    unfold fileA at hs5
    have c0 := hs5.c n.b 0
    obtain ⟨va, vc, hv, _⟩ := rw_vb (hs5.take (rw TB 1 n.nv (bys n.f.now)))
    rw [hv] at c0
    have hlt : (rem.eraseIdx i).length < rem.length := by
     have := (List.getElem?_eq_some_iff.1 hi).1
     rw [List.length_eraseIdx]; split <;> omega
    have hl1 : acc + n.f.now.length ≤ 4611686018427387904 := by rw [lens_perm hp1, lens_cons] at hacc; omega
    have HL : Aside ((rem.eraseIdx i).length < rem.length ∧ gk = rem.length) := ⟨hlt, hgk⟩
    have HI : Aside (Iter skey M o oi2 (ns.map kvF) (rem.eraseIdx i) ∧ (rem.eraseIdx i).Perm (ns2.map kvF) ∧ (∀ m ∈ ns2, m ∈ ns) ∧ acc + n.f.now.length + lens ns2 = lens ns) := by
     refine ⟨hI2, hp2, fun m hm => hsub m (hp1.mem_iff.2 (by simp [hm])), ?_⟩
     rw [lens_perm hp1, lens_cons] at hacc; omega
    clear hI' A hlt hgk hI2 hi hp hp1 hp2 hsub hacc hs5 hR hn hv hsr
    go_wp2
    go_roundg (rem.eraseIdx i).length
    case measure => have := HL.out; omega
    case rel => exact ⟨acc + n.f.now.length, oi2, _, ns2, by go_num, ⟨rfl, HI.out⟩, hs4⟩
set_option maxHeartbeats 800000 in
theorem fits_none (D M : Nat) (ns : List Nf) (pv : Value) (ps : List Np) (d : Dk) (size : Int) (F : Assn) (w : World) (hs : Sat (diskA D M ns pv ps d * F) w) (hf : fents ns = d.files) (hb : lens ns ≤ 4611686018427387904) (h0 : 0 ≤ size) (h1 : size ≤ 1152921504606846976) :
 Calls Tryz.prog 75 #[.pointer (some ⟨D, 0, none⟩), .pointer none, .int .i64 size] w fun e w' => e = .returned (.int .i64 (d.fits none size)) ∧ Sat (diskA D M ns pv ps d * F) w' := by
 have hs0 : Sat (coreD D M pv d * (mp skey M (ns.map kvF) * (filesA ns * pendA pv ps)) * F) w := hs
 unfold coreD at hs0
 have c5 := hs0.c D 5
 obtain ⟨o, ho, hs1⟩ := (hs0.take (mp skey M (ns.map kvF))).mp_open
 have hlen := fun ty => run_len_mp (P := Tryz.prog) Tryz.underlying145 hs1.obj ho ty
 rw [List.length_map] at hlen
 have hfl : d.files.length = ns.length := by rw [← hf]; simp [fents]
 have hsm : sum d.files = lens ns := by rw [← hf, lens_sum]
 obtain ⟨r, HR⟩ : ∃ r, Aside (d.fits none size = r) := ⟨_, rfl⟩
 rw [HR.out]
 have hr := HR.out
 unfold Dk.fits at hr
 rw [hfl, hsm] at hr
 clear hs0 hs1 ho hf hfl hsm
 by_cases h16 : 16 ≤ ns.length
 · have HF : Aside (r = 11) := (by rw [← hr]; simp [h16] : r = 11)
   have h16' : (16 : Int) ≤ ns.length := by omega
   clear hr
   go_enter Tryz.func75, Tryz.ntmps75
   go_wp2
   go_ret
   exact ⟨by rw [HF.out]; rfl, hs⟩
 · have h16' : ¬ (16 : Int) ≤ ns.length := by omega
   by_cases hsz : 0 < size
   · have hsum := sum_any D M ns pv ps d F w.drew hs.drew hb
     have W1 : IntKind.i64.wrap (lens ns : Nat) = (lens ns : Nat) := IntWalk.i64_in _ (by omega)
     have W2 : IntKind.i64.wrap ((lens ns : Nat) + size) = (lens ns : Nat) + size := IntWalk.i64_in _ (by omega)
     have c0 : w.cell? ⟨D, 0, none⟩ = some (.int .i64 d.room) := by unfold diskA coreD at hs; exact hs.c D 0
     by_cases hroom : d.room < lens ns + size
     · have HF : Aside (r = 7) := by
        show r = 7
        rw [← hr, if_neg (by simp [h16]), if_pos]
        simp only [Bool.and_eq_true, decide_eq_true_eq]; have h00 : had none = 0 := rfl; omega
       clear hr hs
       go_enter Tryz.func75, Tryz.ntmps75
       go_wp2_with fail
       go_region_held3 (fun w' => w'.cell? ⟨D, 0, none⟩ = some (.int .i64 d.room)) (first | exact c0' | exact c0 | (simpa using c0)) (first | (go_at_call 84; refine hsum.mono ?_; rintro e w1 ⟨rfl, hs1⟩; have c0' : w1.cell? ⟨D, 0, none⟩ = some (.int .i64 d.room) := (by unfold diskA coreD at hs1; exact hs1.c D 0)))
       all_goals
        go_wp2
        go_ret
        exact ⟨by rw [HF.out]; rfl, hs1⟩
     · have HF : Aside (r = 0) := by
        show r = 0
        rw [← hr, if_neg (by simp [h16]), if_neg]
        simp only [Bool.and_eq_true, decide_eq_true_eq]; have h00 : had none = 0 := rfl; omega
       clear hr hs
       go_enter Tryz.func75, Tryz.ntmps75
       go_wp2_with fail
       go_region_held3 (fun w' => w'.cell? ⟨D, 0, none⟩ = some (.int .i64 d.room)) (first | exact c0' | exact c0 | (simpa using c0)) (first | (go_at_call 84; refine hsum.mono ?_; rintro e w1 ⟨rfl, hs1⟩; have c0' : w1.cell? ⟨D, 0, none⟩ = some (.int .i64 d.room) := (by unfold diskA coreD at hs1; exact hs1.c D 0)))
       all_goals
        go_wp2
        go_ret
        exact ⟨by rw [HF.out]; rfl, hs1⟩
   · have hz : size = 0 := by omega
     subst hz
     have HF : Aside (r = 0) := by
      show r = 0
      rw [← hr, if_neg (by simp [h16]), if_neg]
      simp [had]
     clear hr
     go_enter Tryz.func75, Tryz.ntmps75
     go_wp2_with fail
     go_quiet (fail)
     go_wp2
     go_ret
     exact ⟨by rw [HF.out]; rfl, hs.drewN _⟩
set_option maxHeartbeats 800000 in
theorem fits_some (D M : Nat) (l1 : List Nf) (n : Nf) (l2 : List Nf) (pv : Value) (ps : List Np) (d : Dk) (size : Int) (F : Assn) (w : World) (hs : Sat (diskA D M (l1 ++ n :: l2) pv ps d * F) w) (hf : fents (l1 ++ n :: l2) = d.files) (hb : lens (l1 ++ n :: l2) ≤ 4611686018427387904) (h0 : 0 ≤ size) (h1 : size ≤ 1152921504606846976) :
 Calls Tryz.prog 75 #[.pointer (some ⟨D, 0, none⟩), .pointer (some ⟨n.b, 0, none⟩), .int .i64 size] w fun e w' => e = .returned (.int .i64 (d.fits (some n.f) size)) ∧ Sat (diskA D M (l1 ++ n :: l2) pv ps d * F) w' := by
 have hs0 := hs
 rw [disk_file] at hs0
 unfold fileA at hs0
 have c1 := hs0.c n.b 0
 obtain ⟨va, vc, hv, _⟩ := rw_vb (hs0.take (rw TB 1 n.nv (bys n.f.now)))
 rw [hv] at c1
 have hsm : sum d.files = lens (l1 ++ n :: l2) := by rw [← hf, lens_sum]
 have hle : n.f.now.length ≤ lens (l1 ++ n :: l2) := by
  have : lens (l1 ++ n :: l2) = lens (n :: (l1 ++ l2)) := lens_perm List.perm_middle
  rw [this, lens_cons]; omega
 obtain ⟨r, HR⟩ : ∃ r, Aside (d.fits (some n.f) size = r) := ⟨_, rfl⟩
 rw [HR.out]
 have hr := HR.out
 unfold Dk.fits at hr
 rw [hsm] at hr
 have h00 : had (some n.f) = n.f.now.length := rfl
 rw [h00] at hr
 clear hs0 hf hsm hv h00
 generalize l1 ++ n :: l2 = ns at *
 by_cases hsz : (n.f.now.length : Int) < size
 · have hsum := sum_any D M ns pv ps d F w.drew hs.drew hb
   have W1 : IntKind.i64.wrap ((lens ns : Nat) - (n.f.now.length : Nat)) = (lens ns : Nat) - (n.f.now.length : Nat) := IntWalk.i64_in _ (by omega)
   have W2 : IntKind.i64.wrap ((lens ns : Nat) - (n.f.now.length : Nat) + size) = (lens ns : Nat) - (n.f.now.length : Nat) + size := IntWalk.i64_in _ (by omega)
   have c0 : w.cell? ⟨D, 0, none⟩ = some (.int .i64 d.room) := by unfold diskA coreD at hs; exact hs.c D 0
   by_cases hroom : d.room < (lens ns : Nat) - (n.f.now.length : Nat) + size
   · have HF : Aside (r = 7) := by
      show r = 7
      rw [← hr, if_neg (by simp), if_pos]
      simp only [Bool.and_eq_true, decide_eq_true_eq]; omega
     clear hr hs
     go_enter Tryz.func75, Tryz.ntmps75
     go_wp2_with fail
     go_region_held3 (fun w' => w'.cell? ⟨D, 0, none⟩ = some (.int .i64 d.room)) (first | exact c0' | exact c0 | (simpa using c0)) (first | (go_at_call 84; refine hsum.mono ?_; rintro e w1 ⟨rfl, hs1⟩; have c0' : w1.cell? ⟨D, 0, none⟩ = some (.int .i64 d.room) := (by unfold diskA coreD at hs1; exact hs1.c D 0)))
     all_goals
      go_wp2
      go_ret
      exact ⟨by rw [HF.out]; rfl, hs1⟩
   · have HF : Aside (r = 0) := by
      show r = 0
      rw [← hr, if_neg (by simp), if_neg]
      simp only [Bool.and_eq_true, decide_eq_true_eq]; omega
     clear hr hs
     go_enter Tryz.func75, Tryz.ntmps75
     go_wp2_with fail
     go_region_held3 (fun w' => w'.cell? ⟨D, 0, none⟩ = some (.int .i64 d.room)) (first | exact c0' | exact c0 | (simpa using c0)) (first | (go_at_call 84; refine hsum.mono ?_; rintro e w1 ⟨rfl, hs1⟩; have c0' : w1.cell? ⟨D, 0, none⟩ = some (.int .i64 d.room) := (by unfold diskA coreD at hs1; exact hs1.c D 0)))
     all_goals
      go_wp2
      go_ret
      exact ⟨by rw [HF.out]; rfl, hs1⟩
 · have hsd : decide ((n.f.now.length : Int) < size) = false := by simpa using hsz
   have HF : Aside (r = 0) := by
    show r = 0
    rw [← hr, if_neg (by simp), if_neg]
    simp [hsd]
   clear hr
   go_enter Tryz.func75, Tryz.ntmps75
   go_wp2_with fail
   go_quiet (fail)
   go_wp2
   go_ret
   exact ⟨by rw [HF.out]; rfl, hs.drewN _⟩
end Go.Proofs.YteecnkneceemjaaGreat
namespace Go.Proofs.YteecnkneceemjaaGreat
set_option linter.unusedSimpArgs false
set_option linter.unusedVariables false
open Go.RowKit Go.Sl Go.Dk
def others (nm : ByteArray) (ps : List Np) : List Np := ps.filter fun x => x.p.nm != nm
theorem take_snoc' {α : Type} {l : List α} {i : Nat} {x : α} (h : l[i]? = some x) : l.take (i + 1) = l.take i ++ [x] := by
 obtain ⟨hi, rfl⟩ := List.getElem?_eq_some_iff.1 h
 rw [List.take_succ_eq_append_getElem hi]
theorem laid_pad (into : List UInt8) (k : Nat) (b : List UInt8) : laid into k b = (into ++ List.replicate (k + b.length - into.length) 0).take k ++ b ++ (into ++ List.replicate (k + b.length - into.length) 0).drop (k + b.length) := by
 unfold laid
 congr 1
 by_cases h : k + b.length ≤ into.length
 · have : k + b.length - into.length = 0 := by omega
   simp [this]
 · rw [List.drop_of_length_le (by omega), List.drop_of_length_le (by simp; omega)]
set_option maxHeartbeats 800000 in
theorem lay_any (v : Value) (into : List UInt8) (k : Nat) (x : Value) (b : List UInt8) (B F : Assn) (hB : Reads B x b) (w : World) (hs : Sat (rw TB 1 v (bys into) * (B * F)) w) (h1 : into.length ≤ 35184372088832) (h2 : k + b.length ≤ 35184372088832) :
 Calls Tryz.prog 88 #[v, .int .i64 k, x] w fun e w' => ∃ v', e = .returned v' ∧ Sat (rw TB 1 v' (bys (laid into k b)) * (B * F)) w' := by
 obtain ⟨i0, E⟩ := elemB
 obtain ⟨va, vc, rfl, hvc, _⟩ := rw_vb hs
 obtain ⟨xa, xc, rfl, hxc, hxm⟩ := (hB _ _ (hs.take B)).len
 have hxm' : xc ≤ 9223372036854775807 := by simpa [maxLen] using hxm
 clear hxm
 go_enter Tryz.func88, Tryz.ntmps88
 go_wp2
 go_loopg [0] (k + b.length - into.length) (fun g t wr => ∃ (m : Nat) (a : Option Addr) (c : Nat), t = .slice a (into.length + m) c ∧ m ≤ k + b.length - into.length ∧ Aside (g = k + b.length - into.length - m) ∧
  Sat (rw TB 1 (.slice a (into.length + m) c) (bys (into ++ List.replicate m 0)) * (B * F)) wr)
 case atStart => exact ⟨0, va, vc, rfl, by omega, rfl, by simpa using hs⟩
 case round =>
  obtain ⟨m, a, c, rfl, hm, A, hsr⟩ := hrel
  clear hs
  by_cases hlt : into.length + m < k + b.length
  · have hs4 := hsr.alloc #[.int .u8 0] TB
    have hs5 := hs4.take (rw TB 1 (.slice a (into.length + m) c) (bys (into ++ List.replicate m 0)))
    have hsrc := Src.one_new (P := Tryz.prog) hs4 rfl
    clear hs4
    go_wp2_with (at_builtin; refine wpl_append_same E rfl (.tmp 14) (.tmp 15) rfl rfl rfl hs5 hsrc (by unfold maxLen; omega) (by omega) ?_; intro a' c' w' hs6 hnil; clear hnil hs5 hsrc)
    go_roundg (k + b.length - into.length - (m + 1))
    case measure => have := A.out; omega
    case rel =>
     refine ⟨m + 1, a', c', rfl, by omega, rfl, ?_⟩
     rw [List.replicate_succ', ← List.append_assoc, bys_append]
     refine Sat.weak (B := block wr.heap.size TB [.int .u8 0]) (hs6.eq ?_)
     show rw TB 1 _ (_ ++ [Value.int .u8 0]) * _ = _
     rw [show bys [(0 : UInt8)] = [Value.int .u8 0] from rfl]
     ac_rfl
  · have hge : ¬ ((into.length : Int) + m < k + b.length) := by omega
    obtain ⟨hac1, hac2⟩ : into.length + m ≤ c ∧ c ≤ 9223372036854775807 := by
     obtain ⟨_, _, _, h5, _, h7, h8⟩ := rw_v hsr
     cases h5
     exact ⟨h7, h8⟩
    have hm1 : m = k + b.length - into.length := by omega
    have HM : Aside (m = k + b.length - into.length) := hm1
    have hkm : k ≤ into.length + m := by omega
    have hx := hB _ _ (hsr.take B)
    clear hm1
    have hcut := at_from (P := Tryz.prog) E (a := a) (n := into.length + m) (c := c) k hkm
    obtain ⟨w6, hrun, hs6⟩ := run_copy_any (P := Tryz.prog) E 62 3 (lo := k) hsr hx (by omega)
    clear hsr hx
    go_wp2
    go_ret
    refine ⟨_, rfl, ?_⟩
    rw [laid_pad, ← HM.out, bys_append, bys_append, bys_take, bys_drop]
    exact hs6
end Go.Proofs.YteecnkneceemjaaGreat
namespace Go.Proofs.YteecnkneceemjaaGreat
set_option linter.unusedSimpArgs false
set_option linter.unusedVariables false
open Go.RowKit Go.Sl Go.Dk
theorem rw_new0 {e s : Nat} {F : Assn} {w : World} (hs : Sat F w) : Sat (rw e s (.slice (some ⟨w.heap.size, 0, none⟩) 0 0) [] * F) (w.alloc (.cells #[] e)) := by
 have := hs.alloc #[] e
 exact Sat.rw_shut (sp := []) (by simp) (by simp) (by omega) (by simp) this
theorem file_there {D : Nat} {d : Dk} {nm : ByteArray} {t : Bool} {F : Assn} {w : World} (hs : Sat (diskP D d * F) w) (hm : d.may nm t = 0) (hg : (d.get nm).isSome = true) :
 ∃ M l1 n l2 pv ps, n.nm = nm ∧ (∀ m ∈ l1, m.nm ≠ n.nm) ∧ fents (l1 ++ n :: l2) = d.files ∧ pents ps = d.pend ∧ named nm = true ∧ d.down = false ∧ d.get nm = some n.f ∧ Sat (diskA D M (l1 ++ n :: l2) pv ps d * F) w := by
 obtain ⟨M, ns, pv, ps, h1, h2, h3⟩ := Sat.disk_open hs
 rcases nf_cases ns nm with ⟨l1, n, l2, rfl, h4, h5⟩ | h
 · rcases may_ways d nm t with ⟨h, _⟩ | ⟨h, _⟩ | ⟨h, _⟩ | ⟨h, h6, h7, _⟩
   · rw [h] at hm; cases hm
   · rw [h] at hm; cases hm
   · rw [h] at hm; cases hm
   · subst h4
     exact ⟨M, l1, n, l2, pv, ps, rfl, h5, h1, h2, h6, h7, by unfold Dk.get; rw [← h1, fget_found h5], h3⟩
 · unfold Dk.get at hg
   rw [← h1, fget_none h] at hg
   cases hg
theorem may_some {d : Dk} {nm : ByteArray} (h : d.may nm true = 0) : (d.get nm).isSome = true := by
 rcases may_ways d nm true with ⟨h', _⟩ | ⟨h', _⟩ | ⟨h', _⟩ | ⟨_, _, _, h'⟩
 · rw [h'] at h; cases h
 · rw [h'] at h; cases h
 · rw [h'] at h; cases h
 · exact h' rfl
set_option maxHeartbeats 400000 in
theorem size_any (D : Nat) (d : Dk) (nm : ByteArray) (F : Assn) (w : World) (hs : Sat (diskP D d * F) w) (hsz : nm.size ≤ 9223372036854775807) :
 Calls Tryz.prog 41 #[.pointer (some ⟨D, 0, none⟩), .string nm] w fun e w' => e = .returned (.int .i64 (d.size nm)) ∧ w = w' := by
 by_cases hm : d.may nm true = 0
 · obtain ⟨M, l1, n, l2, pv, ps, rfl, h1, h2, h3, h4, h5, h6, hs1⟩ := file_there hs hm (may_some hm)
   have e1 : d.size n.nm = n.f.now.length := by unfold Dk.size; rw [if_neg (by simp [hm]), h6]; rfl
   rw [e1]
   have hmay := may_found D M l1 n l2 pv ps d true F w hs1 h1 hsz h4 h5
   rw [disk_file] at hs1
   unfold fileA at hs1
   have c0 := hs1.c n.b 0
   obtain ⟨va, vc, hv, _⟩ := rw_vb (hs1.take (rw TB 1 n.nv (bys n.f.now)))
   rw [hv] at c0
   clear hs hs1 hm h2 h3 h4 h5 h6 e1 hv
   go_enter Tryz.func41, Tryz.ntmps41
   go_wp2_with (refine hmay.mono ?_; rintro e w' ⟨rfl, rfl⟩)
   go_ret
   exact ⟨rfl, rfl⟩
 · have e1 : d.size nm = -1 := by unfold Dk.size; rw [if_pos hm]
   rw [e1]
   obtain ⟨M, ns, pv, ps, h1, h2, h3⟩ := Sat.disk_open hs
   have hmay := may_bad D M ns pv ps d nm true F w h3 h1 hsz hm
   have hb : (d.may nm true != 0) = true := by simpa using hm
   clear hs h3 h1 h2 e1 hm
   generalize d.may nm true = q at *
   go_enter Tryz.func41, Tryz.ntmps41
   go_wp2_with (refine hmay.mono ?_; rintro e w' ⟨rfl, rfl⟩)
   go_ret
   exact ⟨rfl, rfl⟩
set_option maxRecDepth 100000 in
set_option maxHeartbeats 800000 in
theorem read_any (D : Nat) (d : Dk) (nm : ByteArray) (k n : Int) (F : Assn) (w : World) (hs : Sat (diskP D d * F) w) (hsz : nm.size ≤ 9223372036854775807) (hbig : ∀ p ∈ d.files, p.2.now.length ≤ big) :
 Calls Tryz.prog 40 #[.pointer (some ⟨D, 0, none⟩), .string nm, .int .i64 k, .int .i64 n] w fun e w' => ∃ v, e = .returned (.tuple #[v, .int .i64 (d.read nm k n).1]) ∧ Sat (rw TB 1 v (bys (d.read nm k n).2) * (diskP D d * F)) w' := by
 by_cases hm : d.may nm true = 0
 · obtain ⟨M, l1, x, l2, pv, ps, rfl, h1, h2, h3, h4, h5, h6, hs1⟩ := file_there hs hm (may_some hm)
   have hmay := may_found D M l1 x l2 pv ps d true F w hs1 h1 hsz h4 h5
   have hfb : x.f.now.length ≤ 1099511627776 := hbig (x.nm, x.f) (by rw [← h2]; simp [fents])
   rw [disk_file] at hs1
   unfold fileA at hs1
   have c0 := hs1.c x.b 0
   obtain ⟨va, vc, hv, hv1, hv2⟩ := rw_vb (hs1.take (rw TB 1 x.nv (bys x.f.now)))
   have hbyt := Reads.rw _ _ (hs1.take (rw TB 1 x.nv (bys x.f.now)))
   rw [hv] at c0 hbyt
   by_cases hr : k < 0 ∨ n < 0 ∨ (x.f.now.length : Int) < k ∨ (x.f.now.length : Int) - k < n
   · have e1 : d.read x.nm k n = (2, []) := by
      unfold Dk.read; rw [if_neg (by simp [hm]), h6]; simp only [Option.getD_some]; rw [if_pos hr]
     rw [e1]
     clear hs1 hm h2 h3 h4 h5 h6 e1 hv hbyt
     by_cases g1 : k < 0
     · have g1' : decide (k < 0) = true := by simpa using g1
       go_enter Tryz.func40, Tryz.ntmps40
       go_wp2_with (refine hmay.mono ?_; rintro e w' ⟨rfl, rfl⟩)
       go_ret2
       exact ⟨_, rfl, by simpa [bys] using hs.rw_nil⟩
     · have g1' : decide (k < 0) = false := by simpa using g1
       by_cases g2 : n < 0
       · have g2' : decide (n < 0) = true := by simpa using g2
         go_enter Tryz.func40, Tryz.ntmps40
         go_wp2_with (refine hmay.mono ?_; rintro e w' ⟨rfl, rfl⟩)
         go_ret2
         exact ⟨_, rfl, by simpa [bys] using hs.rw_nil⟩
       · have g2' : decide (n < 0) = false := by simpa using g2
         by_cases g3 : (x.f.now.length : Int) < k
         · have g3' : decide ((x.f.now.length : Int) < k) = true := by simpa using g3
           go_enter Tryz.func40, Tryz.ntmps40
           go_wp2_with (refine hmay.mono ?_; rintro e w' ⟨rfl, rfl⟩)
           go_ret2
           exact ⟨_, rfl, by simpa [bys] using hs.rw_nil⟩
         · have g3' : decide ((x.f.now.length : Int) < k) = false := by simpa using g3
           have g4 : (x.f.now.length : Int) - k < n := by omega
           go_enter Tryz.func40, Tryz.ntmps40
           go_wp2_with (refine hmay.mono ?_; rintro e w' ⟨rfl, rfl⟩)
           go_ret2
           exact ⟨_, rfl, by simpa [bys] using hs.rw_nil⟩
   · obtain ⟨k, rfl⟩ := Int.eq_ofNat_of_zero_le (show 0 ≤ k by omega)
     obtain ⟨n, rfl⟩ := Int.eq_ofNat_of_zero_le (show 0 ≤ n by omega)
     have e1 : d.read x.nm k n = (0, (x.f.now.drop k).take n) := by
      unfold Dk.read; rw [if_neg (by simp [hm]), h6]; simp only [Option.getD_some]; rw [if_neg hr]; rfl
     rw [e1]
     have g1 : ¬ (x.f.now.length : Int) < k := by omega
     have g2 : ¬ (x.f.now.length : Int) - k < n := by omega
     obtain ⟨i0, E⟩ := elemB
     have hcut := at_cut (P := Tryz.prog) E (a := va) (n := x.f.now.length) (c := vc) k (k + n) (by omega) (by omega)
     have e2 : k + n - k = n := by omega
     rw [Int.natCast_add, e2] at hcut
     have hs2 := rw_new0 (e := TB) (s := 1) hs1
     have hbyt2 := Reads.rw _ _ (hs2.take (rw TB 1 x.nv (bys x.f.now)))
     rw [hv] at hbyt2
     have hsub := hbyt2.cut k (k + n) (by omega) (by omega)
     rw [e2] at hsub
     have hsrc := hsub.src (P := Tryz.prog)
     have hln : ((x.f.now.drop k).take n).length = n := by simp; omega
     rw [hln] at hsrc
     have hlt : x.b < w.heap.size := World.block_lt_of_cell? w _ c0
     have HH : Aside (fents (l1 ++ x :: l2) = d.files ∧ pents ps = d.pend ∧ x.nv = .slice va x.f.now.length vc) := ⟨h2, h3, hv⟩
     clear hs hm h2 h3 h4 h5 h6 e1 hv hbyt hbyt2 hsub hs1 hln e2
     go_enter Tryz.func40, Tryz.ntmps40
     go_wp2_with first | (at_builtin; refine wpl_append_same E rfl (.tmp 47) (.tmp 56) rfl rfl rfl hs2 hsrc (by unfold maxLen; omega) (by omega) ?_; intro a' c' w'' hs6 hnil; clear hnil hs2 hsrc) | (refine hmay.mono ?_; rintro e w' ⟨rfl, rfl⟩)
     simp only [Nat.zero_add, List.nil_append] at hs6
     go_ret2
     refine ⟨_, rfl, ?_⟩
     show Sat (rw TB 1 (.slice a' n c') _ * _) w''
     have hs7 : Sat (diskA D M (l1 ++ x :: l2) pv ps d * (rw TB 1 (.slice a' n c') (bys ((x.f.now.drop k).take n)) * F)) w'' := hs6.eq (by rw [disk_file]; unfold fileA; ac_rfl)
     exact (Sat.disk_shut HH.out.1 HH.out.2.1 hs7).eq (by ac_rfl)
 · have e1 : d.read nm k n = (d.may nm true, []) := by unfold Dk.read; rw [if_pos hm]
   rw [e1]
   obtain ⟨M, ns, pv, ps, h1, h2, h3⟩ := Sat.disk_open hs
   have hmay := may_bad D M ns pv ps d nm true F w h3 h1 hsz hm
   have hb : (d.may nm true != 0) = true := by simpa using hm
   clear h3 h1 h2 e1 hm hbig
   generalize d.may nm true = q at *
   go_enter Tryz.func40, Tryz.ntmps40
   go_wp2_with (refine hmay.mono ?_; rintro e w' ⟨rfl, rfl⟩)
   go_ret2
   exact ⟨_, rfl, by simpa [bys] using hs.rw_nil⟩
theorem disk_core (D M : Nat) (ns : List Nf) (pv : Value) (ps : List Np) (d : Dk) : diskA D M ns pv ps d = coreD D M pv d * (mp skey M (ns.map kvF) * (filesA ns * pendA pv ps)) := rfl
end Go.Proofs.YteecnkneceemjaaGreat
namespace Go.Proofs.YteecnkneceemjaaGreat
set_option linter.unusedSimpArgs false
set_option linter.unusedVariables false
open Go.RowKit Go.Sl Go.Dk
attribute [local go_sem ↓] Go.wp_at_zero Go.wp_at_succ
theorem piecesA_snoc (ps : List Np) (x : Np) : piecesA (ps ++ [x]) = piecesA ps * pieceA x := by rw [piecesA_append]; simp [piecesA, sep_one]
def coreX (D M : Nat) (d : Dk) : Assn :=
 hdr D TD 7 * (Sl.cell D 0 (.int .i64 d.room) * (Sl.cell D 1 (.int .i64 d.changes) * (Sl.cell D 2 (.int .i64 d.left) * (Sl.cell D 3 (.bool d.armed) * (Sl.cell D 4 (.bool d.down) * Sl.cell D 5 (.map (some M)))))))
theorem coreD_x (D M : Nat) (pv : Value) (d : Dk) : coreD D M pv d = Sl.cell D 6 pv * coreX D M d := by unfold coreD coreX; ac_rfl
end Go.Proofs.YteecnkneceemjaaGreat
namespace Go.Proofs.YteecnkneceemjaaGreat
set_option linter.unusedSimpArgs false
set_option linter.unusedVariables false
open Go.RowKit Go.Sl Go.Dk
attribute [local go_sem ↓] Go.wp_at_zero Go.wp_at_succ
theorem mput_noneF {ns : List Nf} {n' : Nf} (h : ∀ m ∈ ns, m.nm ≠ n'.nm) : mput n'.nm (.pointer (some ⟨n'.b, 0, none⟩)) (ns.map kvF) = (ns ++ [n']).map kvF := by
 rw [mput_new (mget_noneF h)]; simp [kvF]
theorem lens_ok {m : Nat} {d : Dk} {ns : List Nf} (ok : Ok m d) (hf : fents ns = d.files) : lens ns ≤ 17592186044416 := by
 have h1 : ∀ l : List Nf, (∀ n ∈ l, n.f.now.length ≤ 1099511627776) → lens l ≤ l.length * 1099511627776 := by
  intro l
  induction l with
  | nil => intro _; simp [lens]
  | cons n l ih =>
    intro h
    have := ih fun m hm => h m (by simp [hm])
    have := h n (by simp)
    rw [lens_cons, List.length_cons]
    omega
 have h2 := h1 ns fun n hn => (ok.sz (n.nm, n.f) (by rw [← hf]; exact List.mem_map.2 ⟨n, hn, rfl⟩)).1
 have h3 : ns.length ≤ 16 := by have := ok.nf; rw [← hf] at this; simpa [fents] using this
 have h4 : ns.length * 1099511627776 ≤ 16 * 1099511627776 := Nat.mul_le_mul_right _ h3
 omega
end Go.Proofs.YteecnkneceemjaaGreat
