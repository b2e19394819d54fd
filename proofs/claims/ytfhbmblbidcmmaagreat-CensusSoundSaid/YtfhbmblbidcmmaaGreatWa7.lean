/-
  Versions are found sound just if they are in the words of the document. No condition. (part 7)
-/
import Derived.Test.YtfhbmblbidcmmaaGreatWa6
import Derived.Deep.RegionWith
import Derived.Deep.RegionHeld3
import Derived.Deep.DrawnRows
import Derived.IntWalk
import Derived.Test.YtfhbmblbidcmmaaGreatWa1
set_option linter.unusedSimpArgs false
set_option linter.unusedVariables false
namespace Go.Proofs.YtfhbmblbidcmmaaGreat
set_option linter.unusedSimpArgs false
set_option linter.unusedVariables false
open Go.RowKit Go.Sl Go.Dk
attribute [local go_sem ↓] Go.wp_at_zero Go.wp_at_succ
def lens (ns : List Nf) : Nat := (ns.map fun n => n.f.now.length).sum
theorem lens_sum (ns : List Nf) : sum (fents ns) = lens ns := by simp [sum, fents, lens, Function.comp_def]
theorem lens_perm {ns ns' : List Nf} (h : ns.Perm ns') : lens ns = lens ns' := (h.map _).sum_nat
theorem lens_cons (n : Nf) (l : List Nf) : lens (n :: l) = n.f.now.length + lens l := by simp [lens]
theorem file_in {D M : Nat} {ns : List Nf} {pv : Value} {ps : List Np} {d : Dk} {n : Nf} (h : n ∈ ns) : ∃ R, filesA ns = fileA n * R := by
 obtain ⟨l1, l2, rfl⟩ := List.append_of_mem h
 exact ⟨filesA l1 * filesA l2, by rw [filesA_append, filesA]; ac_rfl⟩
theorem rw_v {e s : Nat} {v : Value} {xs : List Value} {F : Assn} {w : World} (hs : Sat (rw e s v xs * F) w) : ∃ a n c, v = .slice a n c ∧ xs.length = n * s ∧ n ≤ c ∧ c ≤ 9223372036854775807 := by
 rcases hs.rw_open with ⟨h1, h2, h3⟩ | ⟨g, n', cap', sp, h1, h2, h3, h4, h5, h6⟩
 · subst h2; exact ⟨_, _, _, h1, by simp, by omega, by omega⟩
 · exact ⟨_, _, _, h1, h2, h4, by simpa [maxLen] using h5⟩
theorem rw_vb {v : Value} {l : List UInt8} {F : Assn} {w : World} (hs : Sat (rw TB 1 v (bys l) * F) w) : ∃ a c, v = .slice a l.length c ∧ l.length ≤ c ∧ c ≤ 9223372036854775807 := by
 obtain ⟨a, n, c, h1, h2, h3, h4⟩ := rw_v hs
 rw [bys_len, Nat.mul_one] at h2
 subst h2
 exact ⟨a, c, h1, h3, h4⟩
set_option maxHeartbeats 400000 in
theorem sum_any (D M : Nat) (ns : List Nf) (pv : Value) (ps : List Np) (d : Dk) (F : Assn) (w : World) (hs : Sat (diskA D M ns pv ps d * F) w) (hb : lens ns ≤ 4611686018427387904) :
 Calls Tryz.prog 103 #[.pointer (some ⟨D, 0, none⟩)] w fun e w' => e = .returned (.int .i64 (lens ns : Nat)) ∧ Sat (diskA D M ns pv ps d * F) w' := by
 have hs0 : Sat (coreD D M pv d * (mp skey M (ns.map kvF) * (filesA ns * pendA pv ps)) * F) w := hs
 unfold coreD at hs0
 have c5 := hs0.c D 5
 obtain ⟨o, ho, hs1⟩ := (hs0.take (mp skey M (ns.map kvF))).mp_open
 obtain ⟨oi, hI, hrange⟩ := run_range_mp (P := Tryz.prog) Tryz.underlying148 hs1.obj ho
 have hs2 := hs1.alloc_raw oi
 have hs3 : Sat (raw M o * (raw w.heap.size oi * (coreD D M pv d * (filesA ns * pendA pv ps) * F))) (w.alloc oi) := hs2.eq (by unfold coreD; ac_rfl)
 have HO : Aside (MapIs skey o (ns.map kvF)) := ho
 clear hs2 hs1 hs0 hs ho
 go_enter Tryz.func103, Tryz.ntmps103
 go_wp2
 go_loopg [3] ns.length (fun k out wr => ∃ (acc : Nat) (oi' : Obj) (rem : List (ByteArray × Value)) (ns1 : List Nf), out = .int .i64 acc ∧ Aside (k = rem.length ∧ Iter skey M o oi' (ns.map kvF) rem ∧ rem.Perm (ns1.map kvF) ∧ (∀ n ∈ ns1, n ∈ ns) ∧ acc + lens ns1 = lens ns) ∧
  Sat (raw M o * (raw w.heap.size oi' * (coreD D M pv d * (filesA ns * pendA pv ps) * F))) wr)
 case atStart => exact ⟨0, oi, ns.map kvF, ns, rfl, ⟨by simp, hI, .refl _, fun _ h => h, by omega⟩, hs3⟩
 case round =>
  obtain ⟨acc, oi', rem, ns1, rfl, A, hsr⟩ := hrel
  obtain ⟨hgk, hI', hp, hsub, hacc⟩ := A.out
  clear hI hs3 hrange c5
  rcases run_next_sl (P := Tryz.prog) hsr hI' with ⟨hrem, hnext⟩ | ⟨i, k, v, oi2, w2, hi, hnext, hI2, hs4, hentry⟩
  · subst hrem
    have hns1 : ns1 = [] := by have := hp.length_eq; simpa using this.symm
    subst hns1
    have HA : Aside (acc = lens ns) := (by simpa [lens] using hacc : acc = lens ns)
    have HI : Aside (Iter skey M o oi' (ns.map kvF) []) := hI'
    clear hI' A hp hsub hacc
    go_wp2
    go_ret
    refine ⟨by rw [← HA.out]; rfl, ?_⟩
    have hs5 := Sat.mp_shut HI.out.mapIs hsr
    refine Sat.weak (B := raw w.heap.size oi') (hs5.eq ?_)
    unfold diskA
    ac_rfl
  · obtain ⟨n, ns2, hp1, hx, hp2⟩ := perm_map_step hp hi
    have hn : n ∈ ns := hsub n (hp1.mem_iff.2 (by simp))
    cases hx
    obtain ⟨R, hR⟩ := file_in (D := D) (M := M) (pv := pv) (ps := ps) (d := d) hn
    have hs5 : Sat (fileA n * (R * (raw M o * (raw w.heap.size oi2 * (coreD D M pv d * pendA pv ps * F))))) w2 := hs4.eq (by rw [hR]; ac_rfl)
    unfold fileA at hs5
    have c0 := hs5.c n.b 0
    obtain ⟨va, vc, hv, _⟩ := rw_vb (hs5.take (rw TB 1 n.nv (bys n.f.now)))
    rw [hv] at c0
    have hlt : (rem.eraseIdx i).length < rem.length := by
     have := (List.getElem?_eq_some_iff.1 hi).1
     rw [List.length_eraseIdx]; split <;> omega
    have hl1 : acc + n.f.now.length ≤ 4611686018427387904 := by rw [lens_perm hp1, lens_cons] at hacc; omega
    have HL : Aside ((rem.eraseIdx i).length < rem.length ∧ gk = rem.length) := ⟨hlt, hgk⟩
    have HI : Aside (Iter skey M o oi2 (ns.map kvF) (rem.eraseIdx i) ∧ (rem.eraseIdx i).Perm (ns2.map kvF) ∧ (∀ m ∈ ns2, m ∈ ns) ∧ acc + n.f.now.length + lens ns2 = lens ns) := by
     refine ⟨hI2, hp2, fun m hm => hsub m (hp1.mem_iff.2 (by simp [hm])), ?_⟩
     rw [lens_perm hp1, lens_cons] at hacc; omega
    clear hI' A hlt hgk hI2 hi hp hp1 hp2 hsub hacc hs5 hR hn hv hsr
    go_wp2
    go_roundg (rem.eraseIdx i).length
    case measure => have := HL.out; omega
    case rel => exact ⟨acc + n.f.now.length, oi2, _, ns2, by go_num, ⟨rfl, HI.out⟩, hs4⟩
set_option maxHeartbeats 800000 in
theorem fits_none (D M : Nat) (ns : List Nf) (pv : Value) (ps : List Np) (d : Dk) (size : Int) (F : Assn) (w : World) (hs : Sat (diskA D M ns pv ps d * F) w) (hf : fents ns = d.files) (hb : lens ns ≤ 4611686018427387904) (h0 : 0 ≤ size) (h1 : size ≤ 1152921504606846976) :
 Calls Tryz.prog 69 #[.pointer (some ⟨D, 0, none⟩), .pointer none, .int .i64 size] w fun e w' => e = .returned (.int .i64 (d.fits none size)) ∧ Sat (diskA D M ns pv ps d * F) w' := by
 have hs0 : Sat (coreD D M pv d * (mp skey M (ns.map kvF) * (filesA ns * pendA pv ps)) * F) w := hs
 unfold coreD at hs0
 have c5 := hs0.c D 5
 obtain ⟨o, ho, hs1⟩ := (hs0.take (mp skey M (ns.map kvF))).mp_open
 have hlen := fun ty => run_len_mp (P := Tryz.prog) Tryz.underlying148 hs1.obj ho ty
 rw [List.length_map] at hlen
 have hfl : d.files.length = ns.length := by rw [← hf]; simp [fents]
 have hsm : sum d.files = lens ns := by rw [← hf, lens_sum]
 obtain ⟨r, HR⟩ : ∃ r, Aside (d.fits none size = r) := ⟨_, rfl⟩
 rw [HR.out]
 have hr := HR.out
 unfold Dk.fits at hr
 rw [hfl, hsm] at hr
 clear hs0 hs1 ho hf hfl hsm
 by_cases h16 : 16 ≤ ns.length
 · have HF : Aside (r = 11) := (by rw [← hr]; simp [h16] : r = 11)
   have h16' : (16 : Int) ≤ ns.length := by omega
   clear hr
   go_enter Tryz.func69, Tryz.ntmps69
   go_wp2
   go_ret
   exact ⟨by rw [HF.out]; rfl, hs⟩
 · have h16' : ¬ (16 : Int) ≤ ns.length := by omega
   by_cases hsz : 0 < size
   · have hsum := sum_any D M ns pv ps d F w.drew hs.drew hb
     have W1 : IntKind.i64.wrap (lens ns : Nat) = (lens ns : Nat) := IntWalk.i64_in _ (by omega)
     have W2 : IntKind.i64.wrap ((lens ns : Nat) + size) = (lens ns : Nat) + size := IntWalk.i64_in _ (by omega)
     have c0 : w.cell? ⟨D, 0, none⟩ = some (.int .i64 d.room) := by unfold diskA coreD at hs; exact hs.c D 0
     by_cases hroom : d.room < lens ns + size
     · have HF : Aside (r = 7) := by
        show r = 7
        rw [← hr, if_neg (by simp [h16]), if_pos]
        simp only [Bool.and_eq_true, decide_eq_true_eq]; have h00 : had none = 0 := rfl; omega
       clear hr hs
       go_enter Tryz.func69, Tryz.ntmps69
       go_wp2_with fail
       go_region_held3 (fun w' => w'.cell? ⟨D, 0, none⟩ = some (.int .i64 d.room)) (first | exact c0' | exact c0 | (simpa using c0)) (first | (go_at_call 103; refine hsum.mono ?_; rintro e w1 ⟨rfl, hs1⟩; have c0' : w1.cell? ⟨D, 0, none⟩ = some (.int .i64 d.room) := (by unfold diskA coreD at hs1; exact hs1.c D 0)))
       all_goals
        go_wp2
        go_ret
        exact ⟨by rw [HF.out]; rfl, hs1⟩
     · have HF : Aside (r = 0) := by
        show r = 0
        rw [← hr, if_neg (by simp [h16]), if_neg]
        simp only [Bool.and_eq_true, decide_eq_true_eq]; have h00 : had none = 0 := rfl; omega
       clear hr hs
       go_enter Tryz.func69, Tryz.ntmps69
       go_wp2_with fail
       go_region_held3 (fun w' => w'.cell? ⟨D, 0, none⟩ = some (.int .i64 d.room)) (first | exact c0' | exact c0 | (simpa using c0)) (first | (go_at_call 103; refine hsum.mono ?_; rintro e w1 ⟨rfl, hs1⟩; have c0' : w1.cell? ⟨D, 0, none⟩ = some (.int .i64 d.room) := (by unfold diskA coreD at hs1; exact hs1.c D 0)))
       all_goals
        go_wp2
        go_ret
        exact ⟨by rw [HF.out]; rfl, hs1⟩
   · have hz : size = 0 := by omega
     subst hz
     have HF : Aside (r = 0) := by
      show r = 0
      rw [← hr, if_neg (by simp [h16]), if_neg]
      simp [had]
     clear hr
     go_enter Tryz.func69, Tryz.ntmps69
     go_wp2_with fail
     go_quiet (fail)
     go_wp2
     go_ret
     exact ⟨by rw [HF.out]; rfl, hs.drewN _⟩
set_option maxHeartbeats 800000 in
theorem fits_some (D M : Nat) (l1 : List Nf) (n : Nf) (l2 : List Nf) (pv : Value) (ps : List Np) (d : Dk) (size : Int) (F : Assn) (w : World) (hs : Sat (diskA D M (l1 ++ n :: l2) pv ps d * F) w) (hf : fents (l1 ++ n :: l2) = d.files) (hb : lens (l1 ++ n :: l2) ≤ 4611686018427387904) (h0 : 0 ≤ size) (h1 : size ≤ 1152921504606846976) :
 Calls Tryz.prog 69 #[.pointer (some ⟨D, 0, none⟩), .pointer (some ⟨n.b, 0, none⟩), .int .i64 size] w fun e w' => e = .returned (.int .i64 (d.fits (some n.f) size)) ∧ Sat (diskA D M (l1 ++ n :: l2) pv ps d * F) w' := by
 have hs0 := hs
 rw [disk_file] at hs0
 unfold fileA at hs0
 have c1 := hs0.c n.b 0
 obtain ⟨va, vc, hv, _⟩ := rw_vb (hs0.take (rw TB 1 n.nv (bys n.f.now)))
 rw [hv] at c1
 have hsm : sum d.files = lens (l1 ++ n :: l2) := by rw [← hf, lens_sum]
 have hle : n.f.now.length ≤ lens (l1 ++ n :: l2) := by
  have : lens (l1 ++ n :: l2) = lens (n :: (l1 ++ l2)) := lens_perm List.perm_middle
  rw [this, lens_cons]; omega
 obtain ⟨r, HR⟩ : ∃ r, Aside (d.fits (some n.f) size = r) := ⟨_, rfl⟩
 rw [HR.out]
 have hr := HR.out
 unfold Dk.fits at hr
 rw [hsm] at hr
 have h00 : had (some n.f) = n.f.now.length := rfl
 rw [h00] at hr
 clear hs0 hf hsm hv h00
 generalize l1 ++ n :: l2 = ns at *
 by_cases hsz : (n.f.now.length : Int) < size
 · have hsum := sum_any D M ns pv ps d F w.drew hs.drew hb
   have W1 : IntKind.i64.wrap ((lens ns : Nat) - (n.f.now.length : Nat)) = (lens ns : Nat) - (n.f.now.length : Nat) := IntWalk.i64_in _ (by omega)
   have W2 : IntKind.i64.wrap ((lens ns : Nat) - (n.f.now.length : Nat) + size) = (lens ns : Nat) - (n.f.now.length : Nat) + size := IntWalk.i64_in _ (by omega)
   have c0 : w.cell? ⟨D, 0, none⟩ = some (.int .i64 d.room) := by unfold diskA coreD at hs; exact hs.c D 0
   by_cases hroom : d.room < (lens ns : Nat) - (n.f.now.length : Nat) + size
   · have HF : Aside (r = 7) := by
      show r = 7
      rw [← hr, if_neg (by simp), if_pos]
      simp only [Bool.and_eq_true, decide_eq_true_eq]; omega
     clear hr hs
     go_enter Tryz.func69, Tryz.ntmps69
     go_wp2_with fail
     go_region_held3 (fun w' => w'.cell? ⟨D, 0, none⟩ = some (.int .i64 d.room)) (first | exact c0' | exact c0 | (simpa using c0)) (first | (go_at_call 103; refine hsum.mono ?_; rintro e w1 ⟨rfl, hs1⟩; have c0' : w1.cell? ⟨D, 0, none⟩ = some (.int .i64 d.room) := (by unfold diskA coreD at hs1; exact hs1.c D 0)))
     all_goals
      go_wp2
      go_ret
      exact ⟨by rw [HF.out]; rfl, hs1⟩
   · have HF : Aside (r = 0) := by
      show r = 0
      rw [← hr, if_neg (by simp), if_neg]
      simp only [Bool.and_eq_true, decide_eq_true_eq]; omega
     clear hr hs
     go_enter Tryz.func69, Tryz.ntmps69
     go_wp2_with fail
     go_region_held3 (fun w' => w'.cell? ⟨D, 0, none⟩ = some (.int .i64 d.room)) (first | exact c0' | exact c0 | (simpa using c0)) (first | (go_at_call 103; refine hsum.mono ?_; rintro e w1 ⟨rfl, hs1⟩; have c0' : w1.cell? ⟨D, 0, none⟩ = some (.int .i64 d.room) := (by unfold diskA coreD at hs1; exact hs1.c D 0)))
     all_goals
      go_wp2
      go_ret
      exact ⟨by rw [HF.out]; rfl, hs1⟩
 · have hsd : decide ((n.f.now.length : Int) < size) = false := by simpa using hsz
   have HF : Aside (r = 0) := by
    show r = 0
    rw [← hr, if_neg (by simp), if_neg]
    simp [hsd]
   clear hr
   go_enter Tryz.func69, Tryz.ntmps69
   go_wp2_with fail
   go_quiet (fail)
   go_wp2
   go_ret
   exact ⟨by rw [HF.out]; rfl, hs.drewN _⟩
end Go.Proofs.YtfhbmblbidcmmaaGreat
namespace Go.Proofs.YtfhbmblbidcmmaaGreat
set_option linter.unusedSimpArgs false
set_option linter.unusedVariables false
open Go.RowKit Go.Sl Go.Dk
theorem piecesA_filter (q : Np → Bool) (ps : List Np) : piecesA ps = piecesA (ps.filter q) * piecesA (ps.filter fun x => !q x) := by
 induction ps with
 | nil => simp [piecesA, one_sep]
 | cons n l ih =>
   rw [piecesA, ih]
   cases h : q n
   · simp only [List.filter_cons, h, Bool.not_false, if_true, Bool.false_eq_true, if_false, piecesA]; ac_rfl
   · simp only [List.filter_cons, h, Bool.not_true, if_true, Bool.false_eq_true, if_false, piecesA]; ac_rfl
def others (nm : ByteArray) (ps : List Np) : List Np := ps.filter fun x => x.p.nm != nm
theorem others_pents (nm : ByteArray) (ps : List Np) : pents (others nm ps) = (pents ps).filter fun p => p.nm != nm := by
 simp [others, pents, List.filter_map, Function.comp_def]
theorem others_snoc (nm : ByteArray) (l : List Np) (x : Np) : others nm (l ++ [x]) = if x.p.nm != nm then others nm l ++ [x] else others nm l := by
 unfold others
 rw [List.filter_append]
 cases h : (x.p.nm != nm) <;> simp [List.filter_cons, h]
theorem others_len (nm : ByteArray) (l : List Np) : (others nm l).length ≤ l.length := List.length_filter_le _ _
theorem take_snoc' {α : Type} {l : List α} {i : Nat} {x : α} (h : l[i]? = some x) : l.take (i + 1) = l.take i ++ [x] := by
 obtain ⟨hi, rfl⟩ := List.getElem?_eq_some_iff.1 h
 rw [List.take_succ_eq_append_getElem hi]
theorem bne_bytes (a b : ByteArray) : (a != b) = !(decide (a = b)) := by
 simp only [bne, bytes_beq]
theorem piece_v {x : Np} {F : Assn} {w : World} (hs : Sat (pieceA x * F) w) : ∃ a n c, x.v = .slice a n c := by
 unfold pieceA at hs
 cases hb : x.p.b with
 | none => rw [hb] at hs; exact ⟨_, _, _, hs.pur_open.1⟩
 | some l =>
   rw [hb] at hs
   rw [sep_assoc] at hs
   obtain ⟨g, n, c, h⟩ := hs.pur_open.1
   exact ⟨_, _, _, h⟩
theorem pieces_in {ps : List Np} {x : Np} (h : x ∈ ps) : ∃ R, piecesA ps = pieceA x * R := by
 obtain ⟨l1, l2, rfl⟩ := List.append_of_mem h
 exact ⟨piecesA l1 * piecesA l2, by rw [piecesA_append, piecesA]; ac_rfl⟩
set_option maxHeartbeats 800000 in
theorem settled_any (D M : Nat) (pv : Value) (ps : List Np) (d : Dk) (nm : ByteArray) (F : Assn) (w : World) (hs : Sat (coreD D M pv d * (pendA pv ps * F)) w) (hn : ps.length ≤ 1099511627776) :
 Calls Tryz.prog 70 #[.pointer (some ⟨D, 0, none⟩), .string nm] w fun e w' => ∃ rv, e = .returned (.tuple #[]) ∧ Sat (coreD D M rv d * (pendA rv (others nm ps) * F)) w' := by
 obtain ⟨i0, E⟩ := elemP
 have hs0 := hs
 unfold coreD pendA at hs0
 have c6 := hs0.c D 6
 obtain ⟨pa, pn, pc, rfl, hpl, hpc, hpm⟩ := rw_v (hs0.take (rw TP 3 pv (prows ps)))
 rw [prows_len] at hpl
 obtain rfl : ps.length = pn := by omega
 have hs1 : Sat (coreD D M (.slice pa ps.length pc) d * (rw TP 3 (.slice pa ps.length pc) (prows ps) * (piecesA ps * F))) w := hs.eq (by unfold pendA; ac_rfl)
 clear hs0 hs hpl
 go_enter Tryz.func70, Tryz.ntmps70
 go_wp2
 go_loopg [4, 12] ps.length (fun k rest i wr => ∃ (j : Nat) (a : Option Addr) (c : Nat), i = .int .i64 j ∧ j ≤ ps.length ∧ Aside (k = ps.length - j) ∧ rest = .slice a (others nm (ps.take j)).length c ∧
  Sat (rw TP 3 (.slice a (others nm (ps.take j)).length c) (prows (others nm (ps.take j))) * (coreD D M (.slice pa ps.length pc) d * (rw TP 3 (.slice pa ps.length pc) (prows ps) * (piecesA ps * F)))) wr)
 case atStart => exact ⟨0, none, 0, rfl, by omega, rfl, rfl, by simpa [others, prows] using hs1.rw_nil⟩
 case round =>
  obtain ⟨j, a, c, rfl, hj, A, rfl, hsr⟩ := hrel
  clear hs1 c6
  by_cases hlt : j < ps.length
  · have hlt' : (j : Int) < ps.length := by omega
    obtain ⟨x, hx⟩ : ∃ x, ps[j]? = some x := ⟨ps[j], by simp [hlt]⟩
    obtain ⟨p0, p1, p2⟩ := prows_at hx
    obtain ⟨g, rfl, q0, _⟩ := (hsr.take (rw TP 3 (.slice pa ps.length pc) (prows ps))).rw_get p0
    obtain ⟨_, e1, q1, _⟩ := (hsr.take (rw TP 3 (.slice (some ⟨g, 0, none⟩) ps.length pc) (prows ps))).rw_get p1
    cases e1
    obtain ⟨_, e2, q2, _⟩ := (hsr.take (rw TP 3 (.slice (some ⟨g, 0, none⟩) ps.length pc) (prows ps))).rw_get p2
    cases e2
    obtain ⟨R, hR⟩ := pieces_in (List.mem_of_getElem? hx)
    obtain ⟨xa, xn, xc, hxv⟩ := piece_v (hsr.eq (B := pieceA x * (R * (rw TP 3 (.slice a (others nm (ps.take j)).length c) (prows (others nm (ps.take j))) * (coreD D M (.slice (some ⟨g, 0, none⟩) ps.length pc) d * (rw TP 3 (.slice (some ⟨g, 0, none⟩) ps.length pc) (prows ps) * F))))) (by rw [hR]; ac_rfl))
    rw [hxv] at q2
    have hs2 := hsr.alloc #[.string x.p.nm, .int .i64 x.p.pos, .slice xa xn xc] TP
    have hl := others_len nm (ps.take j)
    have hl2 : (ps.take j).length = j := by simp; omega
    have HS : Aside (others nm (ps.take (j + 1)) = if x.p.nm != nm then others nm (ps.take j) ++ [x] else others nm (ps.take j)) := (by rw [take_snoc' hx, others_snoc] : _ = _)
    have HV : Aside (x.v = .slice xa xn xc) := hxv
    clear hx p0 p1 p2 hR hxv
    by_cases he : x.p.nm = nm
    · have HS2 : Aside (others nm (ps.take (j + 1)) = others nm (ps.take j)) := (by rw [HS.out, bne_bytes, decide_eq_true he]; rfl : _ = _)
      have hd0 := str_eq he
      clear HS he
      go_wp2
      go_roundg (ps.length - (j + 1))
      case measure => have := A.out; omega
      case rel =>
       refine ⟨j + 1, a, c, by go_num, by omega, rfl, by rw [HS2.out], ?_⟩
       rw [HS2.out]
       exact hs2.right
    · have HS2 : Aside (others nm (ps.take (j + 1)) = others nm (ps.take j) ++ [x]) := (by rw [HS.out, bne_bytes, decide_eq_false he]; rfl : _ = _)
      have hd0 := str_ne he
      clear HS he
      have hs3 := hs2.alloc #[.string x.p.nm, .int .i64 x.p.pos, .slice xa xn xc] TP
      have e0 : (wr.alloc (.cells #[.string x.p.nm, .int .i64 x.p.pos, .slice xa xn xc] TP)).heap.size = wr.heap.size + 1 := by simp
      rw [e0] at hs3
      have hs5 := hs3.take (rw TP 3 (.slice a (others nm (ps.take j)).length c) (prows (others nm (ps.take j))))
      have hsrc := Src.new (P := Tryz.prog) (s := 3) hs3 rfl (by intro u hu; simp at hu; rcases hu with rfl | rfl | rfl <;> rfl)
      clear hs3 hs2 e0
      go_wp2_with (at_builtin; refine wpl_append_same E rfl (.tmp 20) (.tmp 22) rfl rfl rfl hs5 hsrc (by unfold maxLen; omega) (by omega) ?_; intro a' c' w' hs6 hnil; clear hnil hs5 hsrc)
      go_roundg (ps.length - (j + 1))
      case measure => have := A.out; omega
      case rel =>
       refine ⟨j + 1, a', c', by go_num, by omega, rfl, by rw [HS2.out]; simp, ?_⟩
       rw [HS2.out, prows_append]
       have e1 : prows [x] = [.string x.p.nm, .int .i64 x.p.pos, .slice xa xn xc] := by simp [prows, prow, HV.out]
       rw [e1]
       simp only [List.length_append, List.length_cons, List.length_nil, Nat.zero_add]
       refine Sat.weak (B := block (wr.heap.size + 1) TP [.string x.p.nm, .int .i64 x.p.pos, .slice xa xn xc] * block wr.heap.size TP [.string x.p.nm, .int .i64 x.p.pos, .slice xa xn xc]) (hs6.eq ?_)
       ac_rfl
  · have hlt' : ¬ (j : Int) < ps.length := by omega
    have hje : ps.take j = ps := List.take_of_length_le (by omega)
    rw [hje] at hsr
    have hc := hsr
    unfold coreD at hc
    have f6 := hc.f D 6
    have c6 := hc.c D 6
    have hs2 := hc.upd D 6 (.slice a (others nm ps).length c)
    have HJ : Aside (ps.take j = ps) := hje
    rw [HJ.out]
    clear hc hsr hje
    go_wp2
    go_end0
    refine ⟨rfl, .slice a (others nm ps).length c, ?_⟩
    refine Sat.weak (B := rw TP 3 (.slice pa ps.length pc) (prows ps) * piecesA (ps.filter fun x => !(x.p.nm != nm))) (hs2.eq ?_)
    unfold coreD pendA
    rw [piecesA_filter (fun x => x.p.nm != nm) ps]
    show _ = _ * (_ * piecesA (ps.filter fun x => x.p.nm != nm) * _) * _
    ac_rfl
theorem laid_pad (into : List UInt8) (k : Nat) (b : List UInt8) : laid into k b = (into ++ List.replicate (k + b.length - into.length) 0).take k ++ b ++ (into ++ List.replicate (k + b.length - into.length) 0).drop (k + b.length) := by
 unfold laid
 congr 1
 by_cases h : k + b.length ≤ into.length
 · have : k + b.length - into.length = 0 := by omega
   simp [this]
 · rw [List.drop_of_length_le (by omega), List.drop_of_length_le (by simp; omega)]
set_option maxHeartbeats 800000 in
theorem lay_any (v : Value) (into : List UInt8) (k : Nat) (x : Value) (b : List UInt8) (B F : Assn) (hB : Reads B x b) (w : World) (hs : Sat (rw TB 1 v (bys into) * (B * F)) w) (h1 : into.length ≤ 35184372088832) (h2 : k + b.length ≤ 35184372088832) :
 Calls Tryz.prog 107 #[v, .int .i64 k, x] w fun e w' => ∃ v', e = .returned v' ∧ Sat (rw TB 1 v' (bys (laid into k b)) * (B * F)) w' := by
 obtain ⟨i0, E⟩ := elemB
 obtain ⟨va, vc, rfl, hvc, _⟩ := rw_vb hs
 obtain ⟨xa, xc, rfl, hxc, hxm⟩ := (hB _ _ (hs.take B)).len
 have hxm' : xc ≤ 9223372036854775807 := by simpa [maxLen] using hxm
 clear hxm
 go_enter Tryz.func107, Tryz.ntmps107
 go_wp2
 go_loopg [0] (k + b.length - into.length) (fun g t wr => ∃ (m : Nat) (a : Option Addr) (c : Nat), t = .slice a (into.length + m) c ∧ m ≤ k + b.length - into.length ∧ Aside (g = k + b.length - into.length - m) ∧
  Sat (rw TB 1 (.slice a (into.length + m) c) (bys (into ++ List.replicate m 0)) * (B * F)) wr)
 case atStart => exact ⟨0, va, vc, rfl, by omega, rfl, by simpa using hs⟩
 case round =>
  obtain ⟨m, a, c, rfl, hm, A, hsr⟩ := hrel
  clear hs
  by_cases hlt : into.length + m < k + b.length
  · have hs4 := hsr.alloc #[.int .u8 0] TB
    have hs5 := hs4.take (rw TB 1 (.slice a (into.length + m) c) (bys (into ++ List.replicate m 0)))
    have hsrc := Src.one_new (P := Tryz.prog) hs4 rfl
    clear hs4
    go_wp2_with (at_builtin; refine wpl_append_same E rfl (.tmp 14) (.tmp 15) rfl rfl rfl hs5 hsrc (by unfold maxLen; omega) (by omega) ?_; intro a' c' w' hs6 hnil; clear hnil hs5 hsrc)
    go_roundg (k + b.length - into.length - (m + 1))
    case measure => have := A.out; omega
    case rel =>
     refine ⟨m + 1, a', c', rfl, by omega, rfl, ?_⟩
     rw [List.replicate_succ', ← List.append_assoc, bys_append]
     refine Sat.weak (B := block wr.heap.size TB [.int .u8 0]) (hs6.eq ?_)
     show rw TB 1 _ (_ ++ [Value.int .u8 0]) * _ = _
     rw [show bys [(0 : UInt8)] = [Value.int .u8 0] from rfl]
     ac_rfl
  · have hge : ¬ ((into.length : Int) + m < k + b.length) := by omega
    obtain ⟨hac1, hac2⟩ : into.length + m ≤ c ∧ c ≤ 9223372036854775807 := by
     obtain ⟨_, _, _, h5, _, h7, h8⟩ := rw_v hsr
     cases h5
     exact ⟨h7, h8⟩
    have hm1 : m = k + b.length - into.length := by omega
    have HM : Aside (m = k + b.length - into.length) := hm1
    have hkm : k ≤ into.length + m := by omega
    have hx := hB _ _ (hsr.take B)
    clear hm1
    have hcut := at_from (P := Tryz.prog) E (a := a) (n := into.length + m) (c := c) k hkm
    obtain ⟨w6, hrun, hs6⟩ := run_copy_any (P := Tryz.prog) E 26 3 (lo := k) hsr hx (by omega)
    clear hsr hx
    go_wp2
    go_ret
    refine ⟨_, rfl, ?_⟩
    rw [laid_pad, ← HM.out, bys_append, bys_append, bys_take, bys_drop]
    exact hs6
end Go.Proofs.YtfhbmblbidcmmaaGreat
namespace Go.Proofs.YtfhbmblbidcmmaaGreat
set_option linter.unusedSimpArgs false
set_option linter.unusedVariables false
open Go.RowKit Go.Sl Go.Dk
theorem rw_new0 {e s : Nat} {F : Assn} {w : World} (hs : Sat F w) : Sat (rw e s (.slice (some ⟨w.heap.size, 0, none⟩) 0 0) [] * F) (w.alloc (.cells #[] e)) := by
 have := hs.alloc #[] e
 exact Sat.rw_shut (sp := []) (by simp) (by simp) (by omega) (by simp) this
theorem file_there {D : Nat} {d : Dk} {nm : ByteArray} {t : Bool} {F : Assn} {w : World} (hs : Sat (diskP D d * F) w) (hm : d.may nm t = 0) (hg : (d.get nm).isSome = true) :
 ∃ M l1 n l2 pv ps, n.nm = nm ∧ (∀ m ∈ l1, m.nm ≠ n.nm) ∧ fents (l1 ++ n :: l2) = d.files ∧ pents ps = d.pend ∧ named nm = true ∧ d.down = false ∧ d.get nm = some n.f ∧ Sat (diskA D M (l1 ++ n :: l2) pv ps d * F) w := by
 obtain ⟨M, ns, pv, ps, h1, h2, h3⟩ := Sat.disk_open hs
 rcases nf_cases ns nm with ⟨l1, n, l2, rfl, h4, h5⟩ | h
 · rcases may_ways d nm t with ⟨h, _⟩ | ⟨h, _⟩ | ⟨h, _⟩ | ⟨h, h6, h7, _⟩
   · rw [h] at hm; cases hm
   · rw [h] at hm; cases hm
   · rw [h] at hm; cases hm
   · subst h4
     exact ⟨M, l1, n, l2, pv, ps, rfl, h5, h1, h2, h6, h7, by unfold Dk.get; rw [← h1, fget_found h5], h3⟩
 · unfold Dk.get at hg
   rw [← h1, fget_none h] at hg
   cases hg
theorem may_some {d : Dk} {nm : ByteArray} (h : d.may nm true = 0) : (d.get nm).isSome = true := by
 rcases may_ways d nm true with ⟨h', _⟩ | ⟨h', _⟩ | ⟨h', _⟩ | ⟨_, _, _, h'⟩
 · rw [h'] at h; cases h
 · rw [h'] at h; cases h
 · rw [h'] at h; cases h
 · exact h' rfl
set_option maxHeartbeats 400000 in
theorem size_any (D : Nat) (d : Dk) (nm : ByteArray) (F : Assn) (w : World) (hs : Sat (diskP D d * F) w) (hsz : nm.size ≤ 9223372036854775807) :
 Calls Tryz.prog 50 #[.pointer (some ⟨D, 0, none⟩), .string nm] w fun e w' => e = .returned (.int .i64 (d.size nm)) ∧ w = w' := by
 by_cases hm : d.may nm true = 0
 · obtain ⟨M, l1, n, l2, pv, ps, rfl, h1, h2, h3, h4, h5, h6, hs1⟩ := file_there hs hm (may_some hm)
   have e1 : d.size n.nm = n.f.now.length := by unfold Dk.size; rw [if_neg (by simp [hm]), h6]; rfl
   rw [e1]
   have hmay := may_found D M l1 n l2 pv ps d true F w hs1 h1 hsz h4 h5
   rw [disk_file] at hs1
   unfold fileA at hs1
   have c0 := hs1.c n.b 0
   obtain ⟨va, vc, hv, _⟩ := rw_vb (hs1.take (rw TB 1 n.nv (bys n.f.now)))
   rw [hv] at c0
   clear hs hs1 hm h2 h3 h4 h5 h6 e1 hv
   go_enter Tryz.func50, Tryz.ntmps50
   go_wp2_with (refine hmay.mono ?_; rintro e w' ⟨rfl, rfl⟩)
   go_ret
   exact ⟨rfl, rfl⟩
 · have e1 : d.size nm = -1 := by unfold Dk.size; rw [if_pos hm]
   rw [e1]
   obtain ⟨M, ns, pv, ps, h1, h2, h3⟩ := Sat.disk_open hs
   have hmay := may_bad D M ns pv ps d nm true F w h3 h1 hsz hm
   have hb : (d.may nm true != 0) = true := by simpa using hm
   clear hs h3 h1 h2 e1 hm
   generalize d.may nm true = q at *
   go_enter Tryz.func50, Tryz.ntmps50
   go_wp2_with (refine hmay.mono ?_; rintro e w' ⟨rfl, rfl⟩)
   go_ret
   exact ⟨rfl, rfl⟩
set_option maxRecDepth 100000 in
set_option maxHeartbeats 800000 in
theorem read_any (D : Nat) (d : Dk) (nm : ByteArray) (k n : Int) (F : Assn) (w : World) (hs : Sat (diskP D d * F) w) (hsz : nm.size ≤ 9223372036854775807) (hbig : ∀ p ∈ d.files, p.2.now.length ≤ big) :
 Calls Tryz.prog 49 #[.pointer (some ⟨D, 0, none⟩), .string nm, .int .i64 k, .int .i64 n] w fun e w' => ∃ v, e = .returned (.tuple #[v, .int .i64 (d.read nm k n).1]) ∧ Sat (rw TB 1 v (bys (d.read nm k n).2) * (diskP D d * F)) w' := by
 by_cases hm : d.may nm true = 0
 · obtain ⟨M, l1, x, l2, pv, ps, rfl, h1, h2, h3, h4, h5, h6, hs1⟩ := file_there hs hm (may_some hm)
   have hmay := may_found D M l1 x l2 pv ps d true F w hs1 h1 hsz h4 h5
   have hfb : x.f.now.length ≤ 1099511627776 := hbig (x.nm, x.f) (by rw [← h2]; simp [fents])
   rw [disk_file] at hs1
   unfold fileA at hs1
   have c0 := hs1.c x.b 0
   obtain ⟨va, vc, hv, hv1, hv2⟩ := rw_vb (hs1.take (rw TB 1 x.nv (bys x.f.now)))
   have hbyt := Reads.rw _ _ (hs1.take (rw TB 1 x.nv (bys x.f.now)))
   rw [hv] at c0 hbyt
   by_cases hr : k < 0 ∨ n < 0 ∨ (x.f.now.length : Int) < k ∨ (x.f.now.length : Int) - k < n
   · have e1 : d.read x.nm k n = (2, []) := by
      unfold Dk.read; rw [if_neg (by simp [hm]), h6]; simp only [Option.getD_some]; rw [if_pos hr]
     rw [e1]
     clear hs1 hm h2 h3 h4 h5 h6 e1 hv hbyt
     by_cases g1 : k < 0
     · have g1' : decide (k < 0) = true := by simpa using g1
       go_enter Tryz.func49, Tryz.ntmps49
       go_wp2_with (refine hmay.mono ?_; rintro e w' ⟨rfl, rfl⟩)
       go_ret2
       exact ⟨_, rfl, by simpa [bys] using hs.rw_nil⟩
     · have g1' : decide (k < 0) = false := by simpa using g1
       by_cases g2 : n < 0
       · have g2' : decide (n < 0) = true := by simpa using g2
         go_enter Tryz.func49, Tryz.ntmps49
         go_wp2_with (refine hmay.mono ?_; rintro e w' ⟨rfl, rfl⟩)
         go_ret2
         exact ⟨_, rfl, by simpa [bys] using hs.rw_nil⟩
       · have g2' : decide (n < 0) = false := by simpa using g2
         by_cases g3 : (x.f.now.length : Int) < k
         · have g3' : decide ((x.f.now.length : Int) < k) = true := by simpa using g3
           go_enter Tryz.func49, Tryz.ntmps49
           go_wp2_with (refine hmay.mono ?_; rintro e w' ⟨rfl, rfl⟩)
           go_ret2
           exact ⟨_, rfl, by simpa [bys] using hs.rw_nil⟩
         · have g3' : decide ((x.f.now.length : Int) < k) = false := by simpa using g3
           have g4 : (x.f.now.length : Int) - k < n := by omega
           go_enter Tryz.func49, Tryz.ntmps49
           go_wp2_with (refine hmay.mono ?_; rintro e w' ⟨rfl, rfl⟩)
           go_ret2
           exact ⟨_, rfl, by simpa [bys] using hs.rw_nil⟩
   · obtain ⟨k, rfl⟩ := Int.eq_ofNat_of_zero_le (show 0 ≤ k by omega)
     obtain ⟨n, rfl⟩ := Int.eq_ofNat_of_zero_le (show 0 ≤ n by omega)
     have e1 : d.read x.nm k n = (0, (x.f.now.drop k).take n) := by
      unfold Dk.read; rw [if_neg (by simp [hm]), h6]; simp only [Option.getD_some]; rw [if_neg hr]; rfl
     rw [e1]
     have g1 : ¬ (x.f.now.length : Int) < k := by omega
     have g2 : ¬ (x.f.now.length : Int) - k < n := by omega
     obtain ⟨i0, E⟩ := elemB
     have hcut := at_cut (P := Tryz.prog) E (a := va) (n := x.f.now.length) (c := vc) k (k + n) (by omega) (by omega)
     have e2 : k + n - k = n := by omega
     rw [Int.natCast_add, e2] at hcut
     have hs2 := rw_new0 (e := TB) (s := 1) hs1
     have hbyt2 := Reads.rw _ _ (hs2.take (rw TB 1 x.nv (bys x.f.now)))
     rw [hv] at hbyt2
     have hsub := hbyt2.cut k (k + n) (by omega) (by omega)
     rw [e2] at hsub
     have hsrc := hsub.src (P := Tryz.prog)
     have hln : ((x.f.now.drop k).take n).length = n := by simp; omega
     rw [hln] at hsrc
     have hlt : x.b < w.heap.size := World.block_lt_of_cell? w _ c0
     have HH : Aside (fents (l1 ++ x :: l2) = d.files ∧ pents ps = d.pend ∧ x.nv = .slice va x.f.now.length vc) := ⟨h2, h3, hv⟩
     clear hs hm h2 h3 h4 h5 h6 e1 hv hbyt hbyt2 hsub hs1 hln e2
     go_enter Tryz.func49, Tryz.ntmps49
     go_wp2_with first | (at_builtin; refine wpl_append_same E rfl (.tmp 47) (.tmp 56) rfl rfl rfl hs2 hsrc (by unfold maxLen; omega) (by omega) ?_; intro a' c' w'' hs6 hnil; clear hnil hs2 hsrc) | (refine hmay.mono ?_; rintro e w' ⟨rfl, rfl⟩)
     simp only [Nat.zero_add, List.nil_append] at hs6
     go_ret2
     refine ⟨_, rfl, ?_⟩
     show Sat (rw TB 1 (.slice a' n c') _ * _) w''
     have hs7 : Sat (diskA D M (l1 ++ x :: l2) pv ps d * (rw TB 1 (.slice a' n c') (bys ((x.f.now.drop k).take n)) * F)) w'' := hs6.eq (by rw [disk_file]; unfold fileA; ac_rfl)
     exact (Sat.disk_shut HH.out.1 HH.out.2.1 hs7).eq (by ac_rfl)
 · have e1 : d.read nm k n = (d.may nm true, []) := by unfold Dk.read; rw [if_pos hm]
   rw [e1]
   obtain ⟨M, ns, pv, ps, h1, h2, h3⟩ := Sat.disk_open hs
   have hmay := may_bad D M ns pv ps d nm true F w h3 h1 hsz hm
   have hb : (d.may nm true != 0) = true := by simpa using hm
   clear h3 h1 h2 e1 hm hbig
   generalize d.may nm true = q at *
   go_enter Tryz.func49, Tryz.ntmps49
   go_wp2_with (refine hmay.mono ?_; rintro e w' ⟨rfl, rfl⟩)
   go_ret2
   exact ⟨_, rfl, by simpa [bys] using hs.rw_nil⟩
theorem disk_core (D M : Nat) (ns : List Nf) (pv : Value) (ps : List Np) (d : Dk) : diskA D M ns pv ps d = coreD D M pv d * (mp skey M (ns.map kvF) * (filesA ns * pendA pv ps)) := rfl
set_option maxRecDepth 100000 in
set_option maxHeartbeats 800000 in
theorem sync_any (D : Nat) (d : Dk) (m : Nat) (nm : ByteArray) (F : Assn) (w : World) (hs : Sat (diskP D d * F) w) (hsz : nm.size ≤ 9223372036854775807) (ok : Ok m d) (hm' : m ≤ big) :
 Calls Tryz.prog 102 #[.pointer (some ⟨D, 0, none⟩), .string nm] w fun e w' => e = .returned (.int .i64 (d.sync nm).1) ∧ Sat (diskP D (d.sync nm).2 * F) w' := by
 have hbig : m ≤ 1099511627776 := hm'
 by_cases hm : d.may nm true = 0
 · obtain ⟨M, l1, x, l2, pv, ps, rfl, h1, h2, h3, h4, h5, h6, hs1⟩ := file_there hs hm (may_some hm)
   have hmay := may_found D M l1 x l2 pv ps d true F w hs1 h1 hsz h4 h5
   cases hst : d.stop with
   | true =>
     have e1 : d.sync x.nm = (8, { d with down := true }) := by unfold Dk.sync; rw [if_neg (by simp [hm]), if_pos hst]
     rw [e1]
     have hch := change_stop D M pv d _ w (hs1.eq (by rw [disk_core, sep_assoc])) hst
     have HH : Aside (fents (l1 ++ x :: l2) = d.files ∧ pents ps = d.pend) := ⟨h2, h3⟩
     clear hs hm h2 h3 h4 h5 h6 e1 hs1 hst ok
     go_enter Tryz.func102, Tryz.ntmps102
     go_wp2_with fail
     refine hmay.mono ?_
     rintro e w' ⟨rfl, rfl⟩
     go_wp2_with fail
     refine hch.mono ?_
     rintro e w1 ⟨rfl, hs1⟩
     go_wp2
     go_ret
     refine ⟨rfl, Sat.disk_shut (M := M) (pv := pv) (d := { d with down := true }) HH.out.1 HH.out.2 (hs1.eq ?_)⟩
     rw [disk_core]
     ac_rfl
   | false =>
     have e1 : d.sync x.nm = (0, (d.ticked.put x.nm { x.f with safe := x.f.now, sure := true }).settled x.nm) := by
      unfold Dk.sync; rw [if_neg (by simp [hm]), if_neg (by simp [hst]), h6]; rfl
     rw [e1]
     have hfb := (ok.sz (x.nm, x.f) (by rw [← h2]; simp [fents])).1
     have hfb' : x.f.now.length ≤ 1099511627776 := hfb
     have hpl : ps.length ≤ 1099511627776 := by have := ok.pend; rw [← h3] at this; simp [pents] at this; omega
     have hch := change_go D M pv d _ w (hs1.eq (by rw [disk_core, sep_assoc])) hst (by have := ok.left; omega) ok.left.2 ok.changes.1 (by have := ok.changes; omega)
     have HH : Aside (fents (l1 ++ x :: l2) = d.files ∧ pents ps = d.pend ∧ (∀ m ∈ l1, m.nm ≠ x.nm)) := ⟨h2, h3, h1⟩
     obtain ⟨i0, E⟩ := elemB
     clear hs hm h2 h3 h4 h5 h6 e1 hs1 hst ok hfb
     go_enter Tryz.func102, Tryz.ntmps102
     go_wp2_with fail
     refine hmay.mono ?_
     rintro e w' ⟨rfl, rfl⟩
     go_wp2_with fail
     refine hch.mono ?_
     rintro e w1 ⟨rfl, hs1⟩
     clear hmay hch
     have hs2 : Sat (fileA x * (restD D M l1 x l2 pv ps d.ticked * F)) w1 := hs1.eq (by rw [← sep_assoc (fileA x), ← disk_file, disk_core]; ac_rfl)
     unfold fileA at hs2
     have c0 := hs2.c x.b 0
     have hlt : x.b < w1.heap.size := World.block_lt_of_cell? w1 _ c0
     obtain ⟨va, vc, hv, hv1, hv2⟩ := rw_vb (hs2.take (rw TB 1 x.nv (bys x.f.now)))
     have hs3 := rw_new0 (e := TB) (s := 1) hs2
     have hbyt := Reads.rw _ _ (hs3.take (rw TB 1 x.nv (bys x.f.now)))
     rw [hv] at c0 hbyt
     have hsrc := hbyt.src (P := Tryz.prog)
     clear hs1 hs2 hbyt
     go_wp2_with (at_builtin; refine wpl_append_same E rfl (.tmp 22) (.tmp 26) rfl rfl rfl hs3 hsrc (by unfold maxLen; omega) (by omega) ?_; intro a' c' w2 hs4 hnil; simp only [Nat.zero_add, List.nil_append] at hs4; have k1 := hs4.c x.b 1; have f1 := hs4.f x.b 1; have hs5 := hs4.upd x.b 1 (.slice a' x.f.now.length c'); have k2 := hs5.c x.b 2; have f2 := hs5.f x.b 2; have hs6 := hs5.upd x.b 2 (.bool true); clear hs3 hsrc hnil hs4 hs5)
     have hset := settled_any D M pv ps d.ticked x.nm (fileA { x with f := { x.f with safe := x.f.now, sure := true }, sv := .slice a' x.f.now.length c' } * (mp skey M ((l1 ++ x :: l2).map kvF) * (filesA l1 * (filesA l2 * F)))) _ (Sat.weak (B := rw TB 1 x.sv (bys x.f.safe)) (hs6.eq (by unfold restD fileA; ac_rfl))) hpl
     refine hset.mono ?_
     rintro e w3 ⟨rv, rfl, hs7⟩
     go_wp2
     go_ret
     refine ⟨rfl, ?_⟩
     obtain ⟨g1, g2, g3⟩ := HH.out
     have e5 : fents (l1 ++ { x with f := { x.f with safe := x.f.now, sure := true }, sv := .slice a' x.f.now.length c' } :: l2) = fput x.nm { x.f with safe := x.f.now, sure := true } d.files := by
      rw [← g1, fput_found _ g3]
      simp [fents]
     refine Sat.disk_shut (M := M) (ns := l1 ++ { x with f := { x.f with safe := x.f.now, sure := true }, sv := .slice a' x.f.now.length c' } :: l2) (pv := rv) (ps := others x.nm ps) e5 (by rw [others_pents, g2]; rfl) (hs7.eq ?_)
     rw [disk_file]
     have e6 : ∀ (x' : Nf) (dd : Dk), x'.b = x.b → x'.nm = x.nm → restD D M l1 x' l2 rv (others x.nm ps) dd = restD D M l1 x l2 rv (others x.nm ps) dd := fun x' dd hb hn => restD_at hb.symm hn.symm
     rw [e6]
     · unfold restD
       show coreD D M rv d.ticked * _ = _ * (coreD D M rv d.ticked * _) * _
       ac_rfl
     · rfl
     · rfl
 · have e1 : d.sync nm = (d.may nm true, d) := by unfold Dk.sync; rw [if_pos hm]
   rw [e1]
   obtain ⟨M, ns, pv, ps, h1, h2, h3⟩ := Sat.disk_open hs
   have hmay := may_bad D M ns pv ps d nm true F w h3 h1 hsz hm
   have hb : (d.may nm true != 0) = true := by simpa using hm
   have hb2 : (d.may nm true == 0) = false := by simpa using hm
   clear h3 h1 h2 e1 hm ok
   generalize d.may nm true = q at *
   go_enter Tryz.func102, Tryz.ntmps102
   go_wp2_with (refine hmay.mono ?_; rintro e w' ⟨rfl, rfl⟩)
   go_ret
   exact ⟨rfl, hs⟩
end Go.Proofs.YtfhbmblbidcmmaaGreat
namespace Go.Proofs.YtfhbmblbidcmmaaGreat
set_option linter.unusedSimpArgs false
set_option linter.unusedVariables false
open Go.RowKit Go.Sl Go.Dk
attribute [local go_sem ↓] Go.wp_at_zero Go.wp_at_succ
theorem piecesA_snoc (ps : List Np) (x : Np) : piecesA (ps ++ [x]) = piecesA ps * pieceA x := by rw [piecesA_append]; simp [piecesA, sep_one]
def coreX (D M : Nat) (d : Dk) : Assn :=
 hdr D TD 7 * (Sl.cell D 0 (.int .i64 d.room) * (Sl.cell D 1 (.int .i64 d.changes) * (Sl.cell D 2 (.int .i64 d.left) * (Sl.cell D 3 (.bool d.armed) * (Sl.cell D 4 (.bool d.down) * Sl.cell D 5 (.map (some M)))))))
theorem coreD_x (D M : Nat) (pv : Value) (d : Dk) : coreD D M pv d = Sl.cell D 6 pv * coreX D M d := by unfold coreD coreX; ac_rfl
end Go.Proofs.YtfhbmblbidcmmaaGreat
namespace Go.Proofs.YtfhbmblbidcmmaaGreat
set_option linter.unusedSimpArgs false
set_option linter.unusedVariables false
open Go.RowKit Go.Sl Go.Dk
attribute [local go_sem ↓] Go.wp_at_zero Go.wp_at_succ
theorem load_put {M D : Nat} {ms : List (ByteArray × Value)} (nm : ByteArray) {ra sa : Option Addr} {rc sc : Nat} {l : List UInt8} {B G : Assn} {w : World}
 (hs : Sat (rw TB 1 (.slice ra l.length rc) (bys l) * (rw TB 1 (.slice sa l.length sc) (bys l) * (B * (Sl.cell D 5 (.map (some M)) * (mp skey M ms * G))))) w) :
 ∃ w', (Instr.mapUpdate TFM (.map (some M)) (.string nm) (.pointer (some ⟨w.heap.size, 0, none⟩))).run Tryz.prog (w.alloc (.cells #[.slice ra l.length rc, .slice sa l.length sc, .bool true] TF)) = .ok () w' ∧
  Sat (fileA ⟨w.heap.size, nm, ⟨l, l, true⟩, .slice ra l.length rc, .slice sa l.length sc⟩ * (mp skey M (mput nm (.pointer (some ⟨w.heap.size, 0, none⟩)) ms) * (B * (Sl.cell D 5 (.map (some M)) * G)))) w' := by
 have hs1 := hs.alloc #[.slice ra l.length rc, .slice sa l.length sc, .bool true] TF
 obtain ⟨o, ho, hs2⟩ := (hs1.take (mp skey M ms)).mp_open
 obtain ⟨o', ho', hup⟩ := run_mapUpdate_mp (P := Tryz.prog) keyOkS Tryz.underlying148 hs2.obj ho nm (.pointer (some ⟨w.heap.size, 0, none⟩))
 refine ⟨_, hup, ?_⟩
 have hs3 := Sat.mp_shut ho' (hs2.setRaw o')
 refine hs3.eq ?_
 unfold fileA
 simp only [block, Sl.cells, sep_one, List.length_cons, List.length_nil, Nat.zero_add, Nat.reduceAdd]
 ac_rfl
def core5 (D : Nat) (pv : Value) (d : Dk) : Assn :=
 hdr D TD 7 * (Sl.cell D 0 (.int .i64 d.room) * (Sl.cell D 1 (.int .i64 d.changes) * (Sl.cell D 2 (.int .i64 d.left) * (Sl.cell D 3 (.bool d.armed) * (Sl.cell D 4 (.bool d.down) * Sl.cell D 6 pv)))))
theorem coreD_5 (D M : Nat) (pv : Value) (d : Dk) : coreD D M pv d = Sl.cell D 5 (.map (some M)) * core5 D pv d := by unfold coreD core5; ac_rfl
set_option maxRecDepth 100000 in
set_option maxHeartbeats 4000000 in
theorem loaded_go (D M : Nat) (ns : List Nf) (pv : Value) (ps : List Np) (d : Dk) (nm : ByteArray) (fv : Value) (v : Value) (l : List UInt8) (B F : Assn) (w : World) (hB : Reads B v l) (hs : Sat (diskA D M ns pv ps d * (B * F)) w)
 (hsz : nm.size ≤ 9223372036854775807) (hn : named nm = true) (hl : l.length ≤ 35184372088832) (hp : ps.length ≤ 1099511627776)
 (hlook : (Instr.lookup TFM (.map (some M)) (.string nm) false).run Tryz.prog w = .ok fv w)
 (hfits : Calls Tryz.prog 69 #[.pointer (some ⟨D, 0, none⟩), fv, .int .i64 l.length] w fun e w' => e = .returned (.int .i64 0) ∧ Sat (diskA D M ns pv ps d * (B * F)) w') :
 Calls Tryz.prog 15 #[.pointer (some ⟨D, 0, none⟩), .string nm, v] w fun e w' => ∃ b rv nv sv, e = .returned (.int .i64 0) ∧
  Sat (coreD D M rv d * (pendA rv (others nm ps) * (fileA ⟨b, nm, ⟨l, l, true⟩, nv, sv⟩ * (mp skey M (mput nm (.pointer (some ⟨b, 0, none⟩)) (ns.map kvF)) * (filesA ns * (B * F)))))) w' := by
 have hna := named_any nm w hsz
 rw [hn] at hna
 obtain ⟨xa, xc, rfl, hxc, hxm⟩ := (hB _ _ (hs.take B)).len
 obtain ⟨i0, E⟩ := elemB
 have c5 : w.cell? ⟨D, 5, none⟩ = some (.map (some M)) := by unfold diskA coreD at hs; exact hs.c D 5
 clear hs hn
 go_enter Tryz.func15, Tryz.ntmps15
 go_wp2_with fail
 refine hna.mono ?_
 rintro e w' ⟨rfl, rfl⟩
 go_wp2_with fail
 refine hfits.mono ?_
 rintro e w1 ⟨rfl, hs1⟩
 have hset := settled_any D M pv ps d nm (mp skey M (ns.map kvF) * (filesA ns * (B * F))) w1 (hs1.eq (by unfold diskA; ac_rfl)) hp
 clear hna hlook hfits c5 hs1
 go_wp2_with fail
 refine hset.mono ?_
 rintro e w2' ⟨rv, rfl, hs2⟩
 clear hset
 go_wp2_with fail
 obtain ⟨G, HG⟩ : ∃ G, Aside (core5 D rv d * (pendA rv (others nm ps) * (filesA ns * F)) = G) := ⟨_, rfl⟩
 have hs4 : Sat (B * (Sl.cell D 5 (.map (some M)) * (mp skey M (ns.map kvF) * G))) w2' := hs2.eq (by rw [← HG.out, coreD_5]; ac_rfl)
 have g5 := hs4.c D 5
 have hD : D < w2'.heap.size := World.block_lt_of_cell? _ _ g5
 clear hs2
 have q1 := (rw_new0 (e := TB) (s := 1) hs4)
 have q2 := (rw_new0 (e := TB) (s := 1) q1).drew
 have q1 := q1.drew
 have e1 : (w2'.alloc (.cells #[] TB)).heap.size = w2'.heap.size + 1 := by simp
 rw [e1] at q2
 have j1 := q1.c D 5
 have j2 := q2.c D 5
 clear e1
 go_region_held3 (fun w' => w'.cell? ⟨D, 5, none⟩ = some (.map (some M))) (first | exact kz5 | exact kk5 | exact kb5 | exact k5 | exact k5n | exact j1 | exact j2 | exact g5) (first
  | (refine step_append_sl E rfl (.tmp 36) (.tmp 37) rfl rfl rfl (q1) ((hB _ _ (q1.take B)).src) (by unfold maxLen; omega) (by omega) ?_; intro ra rc w3 p1 hn3; simp only [Nat.zero_add, List.nil_append] at p1; have k5 := p1.c D 5; have k5n := (rw_new0 (e := TB) (s := 1) p1).c D 5; have hD3 : D < w3.heap.size := World.block_lt_of_cell? _ _ k5; clear hn3)
  | (refine step_append_sl E rfl (.tmp 36) (.tmp 37) rfl rfl rfl (q2.take (rw TB 1 (.slice (some ⟨w2'.heap.size, 0, none⟩) 0 0) [])) ((hB _ _ (q2.take B)).src) (by unfold maxLen; omega) (by omega) ?_; intro ra rc w3 p1 hn3; simp only [Nat.zero_add, List.nil_append] at p1; have k5 := p1.c D 5; have k5n := (rw_new0 (e := TB) (s := 1) p1).c D 5; have hD3 : D < w3.heap.size := World.block_lt_of_cell? _ _ k5; clear hn3)
  | (refine step_append_sl E rfl (.tmp 36) (.tmp 37) rfl rfl rfl (q2) ((hB _ _ (q2.take B)).src) (by unfold maxLen; omega) (by omega) ?_; intro ra rc w3 p1 hn3; simp only [Nat.zero_add, List.nil_append] at p1; have k5 := p1.c D 5; have k5n := (rw_new0 (e := TB) (s := 1) p1).c D 5; have hD3 : D < w3.heap.size := World.block_lt_of_cell? _ _ k5; clear hn3)
  | (refine step_append_sl E rfl (.tmp 39) (.tmp 40) rfl rfl rfl (q1) ((hB _ _ (q1.take B)).src) (by unfold maxLen; omega) (by omega) ?_; intro sa sc w3 p1 hn3; simp only [Nat.zero_add, List.nil_append] at p1; have k5 := p1.c D 5; have k5n := (rw_new0 (e := TB) (s := 1) p1).c D 5; have hD3 : D < w3.heap.size := World.block_lt_of_cell? _ _ k5; clear hn3)
  | (refine step_append_sl E rfl (.tmp 39) (.tmp 40) rfl rfl rfl (q2.take (rw TB 1 (.slice (some ⟨w2'.heap.size, 0, none⟩) 0 0) [])) ((hB _ _ (q2.take B)).src) (by unfold maxLen; omega) (by omega) ?_; intro sa sc w3 p1 hn3; simp only [Nat.zero_add, List.nil_append] at p1; have k5 := p1.c D 5; have k5n := (rw_new0 (e := TB) (s := 1) p1).c D 5; have hD3 : D < w3.heap.size := World.block_lt_of_cell? _ _ k5; clear hn3)
  | (refine step_append_sl E rfl (.tmp 39) (.tmp 40) rfl rfl rfl (q2) ((hB _ _ (q2.take B)).src) (by unfold maxLen; omega) (by omega) ?_; intro sa sc w3 p1 hn3; simp only [Nat.zero_add, List.nil_append] at p1; have k5 := p1.c D 5; have k5n := (rw_new0 (e := TB) (s := 1) p1).c D 5; have hD3 : D < w3.heap.size := World.block_lt_of_cell? _ _ k5; clear hn3)
  | (refine step_append_sl E rfl (.tmp 36) (.tmp 37) rfl rfl rfl (rw_new0 (e := TB) (s := 1) p1) ((hB _ _ ((rw_new0 (e := TB) (s := 1) p1).take B)).src) (by unfold maxLen; omega) (by omega) ?_; intro ra rc w4 p4 hn4; simp only [Nat.zero_add, List.nil_append] at p4; have p5 : Sat (rw TB 1 (.slice ra l.length rc) (bys l) * (rw TB 1 (.slice sa l.length sc) (bys l) * (B * (Sl.cell D 5 (.map (some M)) * (mp skey M (ns.map kvF) * G))))) w4 := p4.eq (by ac_rfl); clear hn4; obtain ⟨w5, hup, hs8⟩ := load_put nm p5; have kz5 := hs8.c D 5; have kk5 := p5.c D 5; have kb5 := (p5.alloc #[.slice ra l.length rc, .slice sa l.length sc, .bool true] TF).c D 5; have hD4 : D < w4.heap.size := World.block_lt_of_cell? _ _ kk5; clear p1 p4)
  | (refine step_append_sl E rfl (.tmp 36) (.tmp 37) rfl rfl rfl (p1.take (rw TB 1 (.slice (some ⟨w2'.heap.size, 0, none⟩) 0 0) [])) ((hB _ _ (p1.take B)).src) (by unfold maxLen; omega) (by omega) ?_; intro ra rc w4 p4 hn4; simp only [Nat.zero_add, List.nil_append] at p4; have p5 : Sat (rw TB 1 (.slice ra l.length rc) (bys l) * (rw TB 1 (.slice sa l.length sc) (bys l) * (B * (Sl.cell D 5 (.map (some M)) * (mp skey M (ns.map kvF) * G))))) w4 := p4.eq (by ac_rfl); clear hn4; obtain ⟨w5, hup, hs8⟩ := load_put nm p5; have kz5 := hs8.c D 5; have kk5 := p5.c D 5; have kb5 := (p5.alloc #[.slice ra l.length rc, .slice sa l.length sc, .bool true] TF).c D 5; have hD4 : D < w4.heap.size := World.block_lt_of_cell? _ _ kk5; clear p1 p4)
  | (refine step_append_sl E rfl (.tmp 36) (.tmp 37) rfl rfl rfl (p1.take (rw TB 1 (.slice (some ⟨w2'.heap.size + 1, 0, none⟩) 0 0) [])) ((hB _ _ (p1.take B)).src) (by unfold maxLen; omega) (by omega) ?_; intro ra rc w4 p4 hn4; simp only [Nat.zero_add, List.nil_append] at p4; have p5 : Sat (rw TB 1 (.slice ra l.length rc) (bys l) * (rw TB 1 (.slice sa l.length sc) (bys l) * (B * (Sl.cell D 5 (.map (some M)) * (mp skey M (ns.map kvF) * G))))) w4 := p4.eq (by ac_rfl); clear hn4; obtain ⟨w5, hup, hs8⟩ := load_put nm p5; have kz5 := hs8.c D 5; have kk5 := p5.c D 5; have kb5 := (p5.alloc #[.slice ra l.length rc, .slice sa l.length sc, .bool true] TF).c D 5; have hD4 : D < w4.heap.size := World.block_lt_of_cell? _ _ kk5; clear p1 p4)
  | (refine step_append_sl E rfl (.tmp 39) (.tmp 40) rfl rfl rfl (rw_new0 (e := TB) (s := 1) p1) ((hB _ _ ((rw_new0 (e := TB) (s := 1) p1).take B)).src) (by unfold maxLen; omega) (by omega) ?_; intro sa sc w4 p4 hn4; simp only [Nat.zero_add, List.nil_append] at p4; have p5 : Sat (rw TB 1 (.slice ra l.length rc) (bys l) * (rw TB 1 (.slice sa l.length sc) (bys l) * (B * (Sl.cell D 5 (.map (some M)) * (mp skey M (ns.map kvF) * G))))) w4 := p4.eq (by ac_rfl); clear hn4; obtain ⟨w5, hup, hs8⟩ := load_put nm p5; have kz5 := hs8.c D 5; have kk5 := p5.c D 5; have kb5 := (p5.alloc #[.slice ra l.length rc, .slice sa l.length sc, .bool true] TF).c D 5; have hD4 : D < w4.heap.size := World.block_lt_of_cell? _ _ kk5; clear p1 p4)
  | (refine step_append_sl E rfl (.tmp 39) (.tmp 40) rfl rfl rfl (p1.take (rw TB 1 (.slice (some ⟨w2'.heap.size, 0, none⟩) 0 0) [])) ((hB _ _ (p1.take B)).src) (by unfold maxLen; omega) (by omega) ?_; intro sa sc w4 p4 hn4; simp only [Nat.zero_add, List.nil_append] at p4; have p5 : Sat (rw TB 1 (.slice ra l.length rc) (bys l) * (rw TB 1 (.slice sa l.length sc) (bys l) * (B * (Sl.cell D 5 (.map (some M)) * (mp skey M (ns.map kvF) * G))))) w4 := p4.eq (by ac_rfl); clear hn4; obtain ⟨w5, hup, hs8⟩ := load_put nm p5; have kz5 := hs8.c D 5; have kk5 := p5.c D 5; have kb5 := (p5.alloc #[.slice ra l.length rc, .slice sa l.length sc, .bool true] TF).c D 5; have hD4 : D < w4.heap.size := World.block_lt_of_cell? _ _ kk5; clear p1 p4)
  | (refine step_append_sl E rfl (.tmp 39) (.tmp 40) rfl rfl rfl (p1.take (rw TB 1 (.slice (some ⟨w2'.heap.size + 1, 0, none⟩) 0 0) [])) ((hB _ _ (p1.take B)).src) (by unfold maxLen; omega) (by omega) ?_; intro sa sc w4 p4 hn4; simp only [Nat.zero_add, List.nil_append] at p4; have p5 : Sat (rw TB 1 (.slice ra l.length rc) (bys l) * (rw TB 1 (.slice sa l.length sc) (bys l) * (B * (Sl.cell D 5 (.map (some M)) * (mp skey M (ns.map kvF) * G))))) w4 := p4.eq (by ac_rfl); clear hn4; obtain ⟨w5, hup, hs8⟩ := load_put nm p5; have kz5 := hs8.c D 5; have kk5 := p5.c D 5; have kb5 := (p5.alloc #[.slice ra l.length rc, .slice sa l.length sc, .bool true] TF).c D 5; have hD4 : D < w4.heap.size := World.block_lt_of_cell? _ _ kk5; clear p1 p4))
 all_goals
  go_wp2
  go_ret
  exact ⟨w4.heap.size, rv, .slice ra l.length rc, .slice sa l.length sc, rfl, hs8.eq (by rw [← HG.out, coreD_5]; ac_rfl)⟩
theorem mput_foundF {l1 : List Nf} {n n' : Nf} {l2 : List Nf} (h : ∀ m ∈ l1, m.nm ≠ n.nm) (hn : n'.nm = n.nm) : mput n.nm (.pointer (some ⟨n'.b, 0, none⟩)) ((l1 ++ n :: l2).map kvF) = (l1 ++ n' :: l2).map kvF := by
 induction l1 with
 | nil => simp [kvF, mput, hn]
 | cons m l ih =>
   show (if n.nm = m.nm then _ else _) = _
   rw [if_neg (fun e => h m (by simp) e.symm)]
   have := ih fun m hm => h m (by simp [hm])
   simp only [List.map_cons, List.cons_append, this]
   exact congrArg _ this
theorem mput_noneF {ns : List Nf} {n' : Nf} (h : ∀ m ∈ ns, m.nm ≠ n'.nm) : mput n'.nm (.pointer (some ⟨n'.b, 0, none⟩)) (ns.map kvF) = (ns ++ [n']).map kvF := by
 rw [mput_new (mget_noneF h)]; simp [kvF]
theorem lens_ok {m : Nat} {d : Dk} {ns : List Nf} (ok : Ok m d) (hf : fents ns = d.files) : lens ns ≤ 17592186044416 := by
 have h1 : ∀ l : List Nf, (∀ n ∈ l, n.f.now.length ≤ 1099511627776) → lens l ≤ l.length * 1099511627776 := by
  intro l
  induction l with
  | nil => intro _; simp [lens]
  | cons n l ih =>
    intro h
    have := ih fun m hm => h m (by simp [hm])
    have := h n (by simp)
    rw [lens_cons, List.length_cons]
    omega
 have h2 := h1 ns fun n hn => (ok.sz (n.nm, n.f) (by rw [← hf]; exact List.mem_map.2 ⟨n, hn, rfl⟩)).1
 have h3 : ns.length ≤ 16 := by have := ok.nf; rw [← hf] at this; simpa [fents] using this
 have h4 : ns.length * 1099511627776 ≤ 16 * 1099511627776 := Nat.mul_le_mul_right _ h3
 omega
set_option maxRecDepth 100000 in
set_option maxHeartbeats 800000 in
theorem load_any (D : Nat) (d : Dk) (m : Nat) (nm : ByteArray) (v : Value) (l : List UInt8) (B F : Assn) (w : World) (hB : Reads B v l) (hs : Sat (diskP D d * (B * F)) w) (hsz : nm.size ≤ 9223372036854775807) (hl : l.length ≤ 35184372088832) (ok : Ok m d) (hm' : m ≤ big) :
 Calls Tryz.prog 15 #[.pointer (some ⟨D, 0, none⟩), .string nm, v] w fun e w' => e = .returned (.int .i64 (d.load nm l).1) ∧ Sat (diskP D (d.load nm l).2 * (B * F)) w' := by
 have hbig : m ≤ 1099511627776 := hm'
 obtain ⟨xa, xc, rfl, hxc, hxm⟩ := (hB _ _ (hs.take B)).len
 obtain ⟨M, ns, pv, ps, h1, h2, h3⟩ := Sat.disk_open hs
 have hlen := lens_ok ok h1
 have hpl : ps.length ≤ 1099511627776 := by have := ok.pend; rw [← h2] at this; simp [pents] at this; omega
 have c5 : w.cell? ⟨D, 5, none⟩ = some (.map (some M)) := by unfold diskA coreD at h3; exact h3.c D 5
 cases hn : named nm with
 | false =>
   have e1 : d.load nm l = (1, d) := by unfold Dk.load; rw [if_pos hn]
   rw [e1]
   have hna := named_any nm w hsz
   rw [hn] at hna
   clear h1 h2 h3 ok hn e1
   go_enter Tryz.func15, Tryz.ntmps15
   go_wp2_with fail
   refine hna.mono ?_
   rintro e w' ⟨rfl, rfl⟩
   go_wp2
   go_ret
   exact ⟨rfl, hs⟩
 | true =>
   have bad : ∀ (fv : Value) (q : Int), q ≠ 0 → (Instr.lookup TFM (.map (some M)) (.string nm) false).run Tryz.prog w = .ok fv w →
    (Calls Tryz.prog 69 #[.pointer (some ⟨D, 0, none⟩), fv, .int .i64 l.length] w fun e w' => e = .returned (.int .i64 q) ∧ Sat (diskA D M ns pv ps d * (B * F)) w') →
    Calls Tryz.prog 15 #[.pointer (some ⟨D, 0, none⟩), .string nm, .slice xa l.length xc] w fun e w' => e = .returned (.int .i64 q) ∧ Sat (diskA D M ns pv ps d * (B * F)) w' := by
    intro fv q hq hlook hfits
    have hna := named_any nm w hsz
    rw [hn] at hna
    have hb : (q != 0) = true := by simpa using hq
    clear h1 h2 h3 ok hn hs hq
    go_enter Tryz.func15, Tryz.ntmps15
    go_wp2_with fail
    refine hna.mono ?_
    rintro e w' ⟨rfl, rfl⟩
    go_wp2_with fail
    refine hfits.mono ?_
    rintro e w1 ⟨rfl, hs1⟩
    go_wp2
    go_ret
    exact ⟨rfl, hs1⟩
   rcases nf_cases ns nm with ⟨l1, x, l2, rfl, rfl, h5⟩ | h5
   · have hg : d.get x.nm = some x.f := by unfold Dk.get; rw [← h1, fget_found h5]
     have hlook := look_foundF (F := coreD D M pv d * (filesA (l1 ++ x :: l2) * (pendA pv ps * (B * F)))) (h3.eq (by unfold diskA; ac_rfl)) h5
     have hfits := fits_some D M l1 x l2 pv ps d l.length (B * F) w h3 h1 (by omega) (by omega) (by omega)
     by_cases hf : d.fits (some x.f) l.length = 0
     · rw [hf] at hfits
       have e1 : d.load x.nm l = (0, (d.settled x.nm).put x.nm ⟨l, l, true⟩) := by unfold Dk.load; rw [if_neg (by simp [hn]), hg, if_neg (by simp [hf])]
       rw [e1]
       refine (loaded_go D M _ pv ps d x.nm _ _ l B F w hB h3 hsz hn hl hpl hlook hfits).mono ?_
       rintro e w' ⟨b, rv, nv, sv, rfl, hs1⟩
       refine ⟨rfl, ?_⟩
       refine Sat.disk_shut (M := M) (ns := l1 ++ ⟨b, x.nm, ⟨l, l, true⟩, nv, sv⟩ :: l2) (pv := rv) (ps := others x.nm ps) ?_ (by rw [others_pents, h2]; rfl) ?_
       · show _ = fput x.nm ⟨l, l, true⟩ d.files
         rw [← h1, fput_found _ h5]; simp [fents]
       · have e2 := mput_foundF (n' := ⟨b, x.nm, ⟨l, l, true⟩, nv, sv⟩) (l2 := l2) h5 rfl
         rw [e2] at hs1
         refine Sat.weak (B := fileA x) (hs1.eq ?_)
         rw [disk_core, filesA_append, filesA_append, filesA, filesA]
         show coreD D M rv d * _ = coreD D M rv d * _ * _ * _
         ac_rfl
     · have e1 : d.load x.nm l = (d.fits (some x.f) l.length, d) := by unfold Dk.load; rw [if_neg (by simp [hn]), hg, if_pos hf]
       rw [e1]
       exact (bad _ _ hf hlook hfits).mono fun e w' ⟨h6, h7⟩ => ⟨h6, Sat.disk_shut h1 h2 h7⟩
   · have hg : d.get nm = none := by unfold Dk.get; rw [← h1, fget_none h5]
     have hlook := look_noneF (F := coreD D M pv d * (filesA ns * (pendA pv ps * (B * F)))) (h3.eq (by unfold diskA; ac_rfl)) h5
     have hfits := fits_none D M ns pv ps d l.length (B * F) w h3 h1 (by omega) (by omega) (by omega)
     by_cases hf : d.fits none l.length = 0
     · rw [hf] at hfits
       have e1 : d.load nm l = (0, (d.settled nm).put nm ⟨l, l, true⟩) := by unfold Dk.load; rw [if_neg (by simp [hn]), hg, if_neg (by simp [hf])]
       rw [e1]
       refine (loaded_go D M _ pv ps d nm _ _ l B F w hB h3 hsz hn hl hpl hlook hfits).mono ?_
       rintro e w' ⟨b, rv, nv, sv, rfl, hs1⟩
       refine ⟨rfl, ?_⟩
       refine Sat.disk_shut (M := M) (ns := ns ++ [⟨b, nm, ⟨l, l, true⟩, nv, sv⟩]) (pv := rv) (ps := others nm ps) ?_ (by rw [others_pents, h2]; rfl) ?_
       · show _ = fput nm ⟨l, l, true⟩ d.files
         rw [← h1, fput_none _ h5]; simp [fents]
       · have e2 := mput_noneF (n' := ⟨b, nm, ⟨l, l, true⟩, nv, sv⟩) h5
         rw [e2] at hs1
         refine hs1.eq ?_
         rw [disk_core, filesA_append, filesA, filesA, sep_one]
         show coreD D M rv d * _ = coreD D M rv d * _ * _
         ac_rfl
     · have e1 : d.load nm l = (d.fits none l.length, d) := by unfold Dk.load; rw [if_neg (by simp [hn]), hg, if_pos hf]
       rw [e1]
       exact (bad _ _ hf hlook hfits).mono fun e w' ⟨h6, h7⟩ => ⟨h6, Sat.disk_shut h1 h2 h7⟩
end Go.Proofs.YtfhbmblbidcmmaaGreat
