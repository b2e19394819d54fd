/-
  Of all roots that are made the pages are a tree in the form of the document, and just these are told, and each is in use. No condition. (part 5)
-/
import Derived.Test.YtfhbmblbidcmmaaGreatSk4
import Derived.Deep.RegionWith
import Derived.Deep.RegionHeld3
import Derived.Deep.DrawnRows
import Derived.IntWalk
import Derived.Test.YtfhbmblbidcmmaaGreatSk1
set_option linter.unusedSimpArgs false
set_option linter.unusedVariables false
namespace Go.Proofs.YtfhbmblbidcmmaaGreat
set_option linter.unusedSimpArgs false
set_option linter.unusedVariables false
open Go.RowKit Go.Sl Go.Dk
attribute [local go_sem ↓] Go.wp_at_zero Go.wp_at_succ
def lens (ns : List Nf) : Nat := (ns.map fun n => n.f.now.length).sum
theorem lens_sum (ns : List Nf) : sum (fents ns) = lens ns := by simp [sum, fents, lens, Function.comp_def]
theorem lens_perm {ns ns' : List Nf} (h : ns.Perm ns') : lens ns = lens ns' := (h.map _).sum_nat
theorem lens_cons (n : Nf) (l : List Nf) : lens (n :: l) = n.f.now.length + lens l := by simp [lens]
theorem file_in {D M : Nat} {ns : List Nf} {pv : Value} {ps : List Np} {d : Dk} {n : Nf} (h : n ∈ ns) : ∃ R, filesA ns = fileA n * R := by
 obtain ⟨l1, l2, rfl⟩ := List.append_of_mem h
 exact ⟨filesA l1 * filesA l2, by rw [filesA_append, filesA]; ac_rfl⟩
theorem rw_v {e s : Nat} {v : Value} {xs : List Value} {F : Assn} {w : World} (hs : Sat (rw e s v xs * F) w) : ∃ a n c, v = .slice a n c ∧ xs.length = n * s ∧ n ≤ c ∧ c ≤ 9223372036854775807 := by
 rcases hs.rw_open with ⟨h1, h2, h3⟩ | ⟨g, n', cap', sp, h1, h2, h3, h4, h5, h6⟩
 · subst h2; exact ⟨_, _, _, h1, by simp, by omega, by omega⟩
 · exact ⟨_, _, _, h1, h2, h4, by simpa [maxLen] using h5⟩
theorem rw_vb {v : Value} {l : List UInt8} {F : Assn} {w : World} (hs : Sat (rw TB 1 v (bys l) * F) w) : ∃ a c, v = .slice a l.length c ∧ l.length ≤ c ∧ c ≤ 9223372036854775807 := by
 obtain ⟨a, n, c, h1, h2, h3, h4⟩ := rw_v hs
 rw [bys_len, Nat.mul_one] at h2
 subst h2
 exact ⟨a, c, h1, h3, h4⟩
set_option maxHeartbeats 400000 in
theorem sum_any (D M : Nat) (ns : List Nf) (pv : Value) (ps : List Np) (d : Dk) (F : Assn) (w : World) (hs : Sat (diskA D M ns pv ps d * F) w) (hb : lens ns ≤ 4611686018427387904) :
 Calls Tryz.prog 103 #[.pointer (some ⟨D, 0, none⟩)] w fun e w' => e = .returned (.int .i64 (lens ns : Nat)) ∧ Sat (diskA D M ns pv ps d * F) w' := by
 have hs0 : Sat (coreD D M pv d * (mp skey M (ns.map kvF) * (filesA ns * pendA pv ps)) * F) w := hs
 unfold coreD at hs0
 have c5 := hs0.c D 5
 obtain ⟨o, ho, hs1⟩ := (hs0.take (mp skey M (ns.map kvF))).mp_open
 obtain ⟨oi, hI, hrange⟩ := run_range_mp (P := Tryz.prog) Tryz.underlying148 hs1.obj ho
 have hs2 := hs1.alloc_raw oi
 have hs3 : Sat (raw M o * (raw w.heap.size oi * (coreD D M pv d * (filesA ns * pendA pv ps) * F))) (w.alloc oi) := hs2.eq (by unfold coreD; ac_rfl)
 have HO : Aside (MapIs skey o (ns.map kvF)) := ho
 clear hs2 hs1 hs0 hs ho
 go_enter Tryz.func103, Tryz.ntmps103
 go_wp2
 go_loopg [3] ns.length (fun k out wr => ∃ (acc : Nat) (oi' : Obj) (rem : List (ByteArray × Value)) (ns1 : List Nf), out = .int .i64 acc ∧ Aside (k = rem.length ∧ Iter skey M o oi' (ns.map kvF) rem ∧ rem.Perm (ns1.map kvF) ∧ (∀ n ∈ ns1, n ∈ ns) ∧ acc + lens ns1 = lens ns) ∧
  Sat (raw M o * (raw w.heap.size oi' * (coreD D M pv d * (filesA ns * pendA pv ps) * F))) wr)
 case atStart => exact ⟨0, oi, ns.map kvF, ns, rfl, ⟨by simp, hI, .refl _, fun _ h => h, by omega⟩, hs3⟩
 case round =>
  obtain ⟨acc, oi', rem, ns1, rfl, A, hsr⟩ := hrel
  obtain ⟨hgk, hI', hp, hsub, hacc⟩ := A.out
  clear hI hs3 hrange c5
  rcases run_next_sl (P := Tryz.prog) hsr hI' with ⟨hrem, hnext⟩ | ⟨i, k, v, oi2, w2, hi, hnext, hI2, hs4, hentry⟩
  · subst hrem
    have hns1 : ns1 = [] := by have := hp.length_eq; simpa using this.symm
    subst hns1
    have HA : Aside (acc = lens ns) := (by simpa [lens] using hacc : acc = lens ns)
    have HI : Aside (Iter skey M o oi' (ns.map kvF) []) := hI'
    clear hI' A hp hsub hacc
    go_wp2
    go_ret
    refine ⟨by rw [← HA.out]; rfl, ?_⟩
    have hs5 := Sat.mp_shut HI.out.mapIs hsr
    refine Sat.weak (B := raw w.heap.size oi') (hs5.eq ?_)
    unfold diskA
    ac_rfl
  · obtain ⟨n, ns2, hp1, hx, hp2⟩ := perm_map_step hp hi
    have hn : n ∈ ns := hsub n (hp1.mem_iff.2 (by simp))
    cases hx
    obtain ⟨R, hR⟩ := file_in (D := D) (M := M) (pv := pv) (ps := ps) (d := d) hn
    have hs5 : Sat (fileA n * (R * (raw M o * (raw w.heap.size oi2 * (coreD D M pv d * pendA pv ps * F))))) w2 := hs4.eq (by rw [hR]; ac_rfl)
    unfold fileA at hs5
    have c0 := hs5.c n.b 0
    obtain ⟨va, vc, hv, _⟩ := rw_vb (hs5.take (rw TB 1 n.nv (bys n.f.now)))
    rw [hv] at c0
    have hlt : (rem.eraseIdx i).length < rem.length := by
     have := (List.getElem?_eq_some_iff.1 hi).1
     rw [List.length_eraseIdx]; split <;> omega
    have hl1 : acc + n.f.now.length ≤ 4611686018427387904 := by rw [lens_perm hp1, lens_cons] at hacc; omega
    have HL : Aside ((rem.eraseIdx i).length < rem.length ∧ gk = rem.length) := ⟨hlt, hgk⟩
    have HI : Aside (Iter skey M o oi2 (ns.map kvF) (rem.eraseIdx i) ∧ (rem.eraseIdx i).Perm (ns2.map kvF) ∧ (∀ m ∈ ns2, m ∈ ns) ∧ acc + n.f.now.length + lens ns2 = lens ns) := by
     refine ⟨hI2, hp2, fun m hm => hsub m (hp1.mem_iff.2 (by simp [hm])), ?_⟩
     rw [lens_perm hp1, lens_cons] at hacc; omega
    clear hI' A hlt hgk hI2 hi hp hp1 hp2 hsub hacc hs5 hR hn hv hsr
    go_wp2
    go_roundg (rem.eraseIdx i).length
    case measure => have := HL.out; omega
    case rel => exact ⟨acc + n.f.now.length, oi2, _, ns2, by go_num, ⟨rfl, HI.out⟩, hs4⟩
set_option maxHeartbeats 800000 in
theorem fits_none (D M : Nat) (ns : List Nf) (pv : Value) (ps : List Np) (d : Dk) (size : Int) (F : Assn) (w : World) (hs : Sat (diskA D M ns pv ps d * F) w) (hf : fents ns = d.files) (hb : lens ns ≤ 4611686018427387904) (h0 : 0 ≤ size) (h1 : size ≤ 1152921504606846976) :
 Calls Tryz.prog 69 #[.pointer (some ⟨D, 0, none⟩), .pointer none, .int .i64 size] w fun e w' => e = .returned (.int .i64 (d.fits none size)) ∧ Sat (diskA D M ns pv ps d * F) w' := by
 have hs0 : Sat (coreD D M pv d * (mp skey M (ns.map kvF) * (filesA ns * pendA pv ps)) * F) w := hs
 unfold coreD at hs0
 have c5 := hs0.c D 5
 obtain ⟨o, ho, hs1⟩ := (hs0.take (mp skey M (ns.map kvF))).mp_open
 have hlen := fun ty => run_len_mp (P := Tryz.prog) Tryz.underlying148 hs1.obj ho ty
 rw [List.length_map] at hlen
 have hfl : d.files.length = ns.length := by rw [← hf]; simp [fents]
 have hsm : sum d.files = lens ns := by rw [← hf, lens_sum]
 obtain ⟨r, HR⟩ : ∃ r, Aside (d.fits none size = r) := ⟨_, rfl⟩
 rw [HR.out]
 have hr := HR.out
 unfold Dk.fits at hr
 rw [hfl, hsm] at hr
 clear hs0 hs1 ho hf hfl hsm
 by_cases h16 : 16 ≤ ns.length
 · have HF : Aside (r = 11) := (by rw [← hr]; simp [h16] : r = 11)
   have h16' : (16 : Int) ≤ ns.length := by omega
   clear hr
   go_enter Tryz.func69, Tryz.ntmps69
   go_wp2
   go_ret
   exact ⟨by rw [HF.out]; rfl, hs⟩
 · have h16' : ¬ (16 : Int) ≤ ns.length := by omega
   by_cases hsz : 0 < size
   · have hsum := sum_any D M ns pv ps d F w.drew hs.drew hb
     have W1 : IntKind.i64.wrap (lens ns : Nat) = (lens ns : Nat) := IntWalk.i64_in _ (by omega)
     have W2 : IntKind.i64.wrap ((lens ns : Nat) + size) = (lens ns : Nat) + size := IntWalk.i64_in _ (by omega)
     have c0 : w.cell? ⟨D, 0, none⟩ = some (.int .i64 d.room) := by unfold diskA coreD at hs; exact hs.c D 0
     by_cases hroom : d.room < lens ns + size
     · have HF : Aside (r = 7) := by
        show r = 7
        rw [← hr, if_neg (by simp [h16]), if_pos]
        simp only [Bool.and_eq_true, decide_eq_true_eq]; have h00 : had none = 0 := rfl; omega
       clear hr hs
       go_enter Tryz.func69, Tryz.ntmps69
       go_wp2_with fail
       go_region_held3 (fun w' => w'.cell? ⟨D, 0, none⟩ = some (.int .i64 d.room)) (first | exact c0' | exact c0 | (simpa using c0)) (first | (go_at_call 103; refine hsum.mono ?_; rintro e w1 ⟨rfl, hs1⟩; have c0' : w1.cell? ⟨D, 0, none⟩ = some (.int .i64 d.room) := (by unfold diskA coreD at hs1; exact hs1.c D 0)))
       all_goals
        go_wp2
        go_ret
        exact ⟨by rw [HF.out]; rfl, hs1⟩
     · have HF : Aside (r = 0) := by
        show r = 0
        rw [← hr, if_neg (by simp [h16]), if_neg]
        simp only [Bool.and_eq_true, decide_eq_true_eq]; have h00 : had none = 0 := rfl; omega
       clear hr hs
       go_enter Tryz.func69, Tryz.ntmps69
       go_wp2_with fail
       go_region_held3 (fun w' => w'.cell? ⟨D, 0, none⟩ = some (.int .i64 d.room)) (first | exact c0' | exact c0 | (simpa using c0)) (first | (go_at_call 103; refine hsum.mono ?_; rintro e w1 ⟨rfl, hs1⟩; have c0' : w1.cell? ⟨D, 0, none⟩ = some (.int .i64 d.room) := (by unfold diskA coreD at hs1; exact hs1.c D 0)))
       all_goals
        go_wp2
        go_ret
        exact ⟨by rw [HF.out]; rfl, hs1⟩
   · have hz : size = 0 := by omega
     subst hz
     have HF : Aside (r = 0) := by
      show r = 0
      rw [← hr, if_neg (by simp [h16]), if_neg]
      simp [had]
     clear hr
     go_enter Tryz.func69, Tryz.ntmps69
     go_wp2_with fail
     go_quiet (fail)
     go_wp2
     go_ret
     exact ⟨by rw [HF.out]; rfl, hs.drewN _⟩
set_option maxHeartbeats 800000 in
theorem fits_some (D M : Nat) (l1 : List Nf) (n : Nf) (l2 : List Nf) (pv : Value) (ps : List Np) (d : Dk) (size : Int) (F : Assn) (w : World) (hs : Sat (diskA D M (l1 ++ n :: l2) pv ps d * F) w) (hf : fents (l1 ++ n :: l2) = d.files) (hb : lens (l1 ++ n :: l2) ≤ 4611686018427387904) (h0 : 0 ≤ size) (h1 : size ≤ 1152921504606846976) :
 Calls Tryz.prog 69 #[.pointer (some ⟨D, 0, none⟩), .pointer (some ⟨n.b, 0, none⟩), .int .i64 size] w fun e w' => e = .returned (.int .i64 (d.fits (some n.f) size)) ∧ Sat (diskA D M (l1 ++ n :: l2) pv ps d * F) w' := by
 have hs0 := hs
 rw [disk_file] at hs0
 unfold fileA at hs0
 have c1 := hs0.c n.b 0
 obtain ⟨va, vc, hv, _⟩ := rw_vb (hs0.take (rw TB 1 n.nv (bys n.f.now)))
 rw [hv] at c1
 have hsm : sum d.files = lens (l1 ++ n :: l2) := by rw [← hf, lens_sum]
 have hle : n.f.now.length ≤ lens (l1 ++ n :: l2) := by
  have : lens (l1 ++ n :: l2) = lens (n :: (l1 ++ l2)) := lens_perm List.perm_middle
  rw [this, lens_cons]; omega
 obtain ⟨r, HR⟩ : ∃ r, Aside (d.fits (some n.f) size = r) := ⟨_, rfl⟩
 rw [HR.out]
 have hr := HR.out
 unfold Dk.fits at hr
 rw [hsm] at hr
 have h00 : had (some n.f) = n.f.now.length := rfl
 rw [h00] at hr
 clear hs0 hf hsm hv h00
 generalize l1 ++ n :: l2 = ns at *
 by_cases hsz : (n.f.now.length : Int) < size
 · have hsum := sum_any D M ns pv ps d F w.drew hs.drew hb
   have W1 : IntKind.i64.wrap ((lens ns : Nat) - (n.f.now.length : Nat)) = (lens ns : Nat) - (n.f.now.length : Nat) := IntWalk.i64_in _ (by omega)
   have W2 : IntKind.i64.wrap ((lens ns : Nat) - (n.f.now.length : Nat) + size) = (lens ns : Nat) - (n.f.now.length : Nat) + size := IntWalk.i64_in _ (by omega)
   have c0 : w.cell? ⟨D, 0, none⟩ = some (.int .i64 d.room) := by unfold diskA coreD at hs; exact hs.c D 0
   by_cases hroom : d.room < (lens ns : Nat) - (n.f.now.length : Nat) + size
   · have HF : Aside (r = 7) := by
      show r = 7
      rw [← hr, if_neg (by simp), if_pos]
      simp only [Bool.and_eq_true, decide_eq_true_eq]; omega
     clear hr hs
     go_enter Tryz.func69, Tryz.ntmps69
     go_wp2_with fail
     go_region_held3 (fun w' => w'.cell? ⟨D, 0, none⟩ = some (.int .i64 d.room)) (first | exact c0' | exact c0 | (simpa using c0)) (first | (go_at_call 103; refine hsum.mono ?_; rintro e w1 ⟨rfl, hs1⟩; have c0' : w1.cell? ⟨D, 0, none⟩ = some (.int .i64 d.room) := (by unfold diskA coreD at hs1; exact hs1.c D 0)))
     all_goals
      go_wp2
      go_ret
      exact ⟨by rw [HF.out]; rfl, hs1⟩
   · have HF : Aside (r = 0) := by
      show r = 0
      rw [← hr, if_neg (by simp), if_neg]
      simp only [Bool.and_eq_true, decide_eq_true_eq]; omega
     clear hr hs
     go_enter Tryz.func69, Tryz.ntmps69
     go_wp2_with fail
     go_region_held3 (fun w' => w'.cell? ⟨D, 0, none⟩ = some (.int .i64 d.room)) (first | exact c0' | exact c0 | (simpa using c0)) (first | (go_at_call 103; refine hsum.mono ?_; rintro e w1 ⟨rfl, hs1⟩; have c0' : w1.cell? ⟨D, 0, none⟩ = some (.int .i64 d.room) := (by unfold diskA coreD at hs1; exact hs1.c D 0)))
     all_goals
      go_wp2
      go_ret
      exact ⟨by rw [HF.out]; rfl, hs1⟩
 · have hsd : decide ((n.f.now.length : Int) < size) = false := by simpa using hsz
   have HF : Aside (r = 0) := by
    show r = 0
    rw [← hr, if_neg (by simp), if_neg]
    simp [hsd]
   clear hr
   go_enter Tryz.func69, Tryz.ntmps69
   go_wp2_with fail
   go_quiet (fail)
   go_wp2
   go_ret
   exact ⟨by rw [HF.out]; rfl, hs.drewN _⟩
end Go.Proofs.YtfhbmblbidcmmaaGreat
namespace Go.Proofs.YtfhbmblbidcmmaaGreat
set_option linter.unusedSimpArgs false
set_option linter.unusedVariables false
open Go.RowKit Go.Sl Go.Dk
theorem piecesA_filter (q : Np → Bool) (ps : List Np) : piecesA ps = piecesA (ps.filter q) * piecesA (ps.filter fun x => !q x) := by
 induction ps with
 | nil => simp [piecesA, one_sep]
 | cons n l ih =>
   rw [piecesA, ih]
   cases h : q n
   · simp only [List.filter_cons, h, Bool.not_false, if_true, Bool.false_eq_true, if_false, piecesA]; ac_rfl
   · simp only [List.filter_cons, h, Bool.not_true, if_true, Bool.false_eq_true, if_false, piecesA]; ac_rfl
def others (nm : ByteArray) (ps : List Np) : List Np := ps.filter fun x => x.p.nm != nm
theorem others_pents (nm : ByteArray) (ps : List Np) : pents (others nm ps) = (pents ps).filter fun p => p.nm != nm := by
 simp [others, pents, List.filter_map, Function.comp_def]
theorem others_snoc (nm : ByteArray) (l : List Np) (x : Np) : others nm (l ++ [x]) = if x.p.nm != nm then others nm l ++ [x] else others nm l := by
 unfold others
 rw [List.filter_append]
 cases h : (x.p.nm != nm) <;> simp [List.filter_cons, h]
theorem others_len (nm : ByteArray) (l : List Np) : (others nm l).length ≤ l.length := List.length_filter_le _ _
theorem take_snoc' {α : Type} {l : List α} {i : Nat} {x : α} (h : l[i]? = some x) : l.take (i + 1) = l.take i ++ [x] := by
 obtain ⟨hi, rfl⟩ := List.getElem?_eq_some_iff.1 h
 rw [List.take_succ_eq_append_getElem hi]
theorem bne_bytes (a b : ByteArray) : (a != b) = !(decide (a = b)) := by
 simp only [bne, bytes_beq]
theorem piece_v {x : Np} {F : Assn} {w : World} (hs : Sat (pieceA x * F) w) : ∃ a n c, x.v = .slice a n c := by
 unfold pieceA at hs
 cases hb : x.p.b with
 | none => rw [hb] at hs; exact ⟨_, _, _, hs.pur_open.1⟩
 | some l =>
   rw [hb] at hs
   rw [sep_assoc] at hs
   obtain ⟨g, n, c, h⟩ := hs.pur_open.1
   exact ⟨_, _, _, h⟩
theorem pieces_in {ps : List Np} {x : Np} (h : x ∈ ps) : ∃ R, piecesA ps = pieceA x * R := by
 obtain ⟨l1, l2, rfl⟩ := List.append_of_mem h
 exact ⟨piecesA l1 * piecesA l2, by rw [piecesA_append, piecesA]; ac_rfl⟩
set_option maxHeartbeats 800000 in
theorem settled_any (D M : Nat) (pv : Value) (ps : List Np) (d : Dk) (nm : ByteArray) (F : Assn) (w : World) (hs : Sat (coreD D M pv d * (pendA pv ps * F)) w) (hn : ps.length ≤ 1099511627776) :
 Calls Tryz.prog 70 #[.pointer (some ⟨D, 0, none⟩), .string nm] w fun e w' => ∃ rv, e = .returned (.tuple #[]) ∧ Sat (coreD D M rv d * (pendA rv (others nm ps) * F)) w' := by
 obtain ⟨i0, E⟩ := elemP
 have hs0 := hs
 unfold coreD pendA at hs0
 have c6 := hs0.c D 6
 obtain ⟨pa, pn, pc, rfl, hpl, hpc, hpm⟩ := rw_v (hs0.take (rw TP 3 pv (prows ps)))
 rw [prows_len] at hpl
 obtain rfl : ps.length = pn := by omega
 have hs1 : Sat (coreD D M (.slice pa ps.length pc) d * (rw TP 3 (.slice pa ps.length pc) (prows ps) * (piecesA ps * F))) w := hs.eq (by unfold pendA; ac_rfl)
 clear hs0 hs hpl
 go_enter Tryz.func70, Tryz.ntmps70
 go_wp2
 go_loopg [4, 12] ps.length (fun k rest i wr => ∃ (j : Nat) (a : Option Addr) (c : Nat), i = .int .i64 j ∧ j ≤ ps.length ∧ Aside (k = ps.length - j) ∧ rest = .slice a (others nm (ps.take j)).length c ∧
  Sat (rw TP 3 (.slice a (others nm (ps.take j)).length c) (prows (others nm (ps.take j))) * (coreD D M (.slice pa ps.length pc) d * (rw TP 3 (.slice pa ps.length pc) (prows ps) * (piecesA ps * F)))) wr)
 case atStart => exact ⟨0, none, 0, rfl, by omega, rfl, rfl, by simpa [others, prows] using hs1.rw_nil⟩
 case round =>
  obtain ⟨j, a, c, rfl, hj, A, rfl, hsr⟩ := hrel
  clear hs1 c6
  by_cases hlt : j < ps.length
  · have hlt' : (j : Int) < ps.length := by omega
    obtain ⟨x, hx⟩ : ∃ x, ps[j]? = some x := ⟨ps[j], by simp [hlt]⟩
    obtain ⟨p0, p1, p2⟩ := prows_at hx
    obtain ⟨g, rfl, q0, _⟩ := (hsr.take (rw TP 3 (.slice pa ps.length pc) (prows ps))).rw_get p0
    obtain ⟨_, e1, q1, _⟩ := (hsr.take (rw TP 3 (.slice (some ⟨g, 0, none⟩) ps.length pc) (prows ps))).rw_get p1
    cases e1
    obtain ⟨_, e2, q2, _⟩ := (hsr.take (rw TP 3 (.slice (some ⟨g, 0, none⟩) ps.length pc) (prows ps))).rw_get p2
    cases e2
    obtain ⟨R, hR⟩ := pieces_in (List.mem_of_getElem? hx)
    obtain ⟨xa, xn, xc, hxv⟩ := piece_v (hsr.eq (B := pieceA x * (R * (rw TP 3 (.slice a (others nm (ps.take j)).length c) (prows (others nm (ps.take j))) * (coreD D M (.slice (some ⟨g, 0, none⟩) ps.length pc) d * (rw TP 3 (.slice (some ⟨g, 0, none⟩) ps.length pc) (prows ps) * F))))) (by rw [hR]; ac_rfl))
    rw [hxv] at q2
    have hs2 := hsr.alloc #[.string x.p.nm, .int .i64 x.p.pos, .slice xa xn xc] TP
    have hl := others_len nm (ps.take j)
    have hl2 : (ps.take j).length = j := by simp; omega
    have HS : Aside (others nm (ps.take (j + 1)) = if x.p.nm != nm then others nm (ps.take j) ++ [x] else others nm (ps.take j)) := (by rw [take_snoc' hx, others_snoc] : _ = _)
    have HV : Aside (x.v = .slice xa xn xc) := hxv
    clear hx p0 p1 p2 hR hxv
    by_cases he : x.p.nm = nm
    · have HS2 : Aside (others nm (ps.take (j + 1)) = others nm (ps.take j)) := (by rw [HS.out, bne_bytes, decide_eq_true he]; rfl : _ = _)
      have hd0 := str_eq he
      clear HS he
      go_wp2
      go_roundg (ps.length - (j + 1))
      case measure => have := A.out; omega
      case rel =>
       refine ⟨j + 1, a, c, by go_num, by omega, rfl, by rw [HS2.out], ?_⟩
       rw [HS2.out]
       exact hs2.right
    · have HS2 : Aside (others nm (ps.take (j + 1)) = others nm (ps.take j) ++ [x]) := (by rw [HS.out, bne_bytes, decide_eq_false he]; rfl : _ = _)
      have hd0 := str_ne he
      clear HS he
      have hs3 := hs2.alloc #[.string x.p.nm, .int .i64 x.p.pos, .slice xa xn xc] TP
      have e0 : (wr.alloc (.cells #[.string x.p.nm, .int .i64 x.p.pos, .slice xa xn xc] TP)).heap.size = wr.heap.size + 1 := by simp
      rw [e0] at hs3
      have hs5 := hs3.take (rw TP 3 (.slice a (others nm (ps.take j)).length c) (prows (others nm (ps.take j))))
      have hsrc := Src.new (P := Tryz.prog) (s := 3) hs3 rfl (by intro u hu; simp at hu; rcases hu with rfl | rfl | rfl <;> rfl)
      clear hs3 hs2 e0
      go_wp2_with (at_builtin; refine wpl_append_same E rfl (.tmp 20) (.tmp 22) rfl rfl rfl hs5 hsrc (by unfold maxLen; omega) (by omega) ?_; intro a' c' w' hs6 hnil; clear hnil hs5 hsrc)
      go_roundg (ps.length - (j + 1))
      case measure => have := A.out; omega
      case rel =>
       refine ⟨j + 1, a', c', by go_num, by omega, rfl, by rw [HS2.out]; simp, ?_⟩
       rw [HS2.out, prows_append]
       have e1 : prows [x] = [.string x.p.nm, .int .i64 x.p.pos, .slice xa xn xc] := by simp [prows, prow, HV.out]
       rw [e1]
       simp only [List.length_append, List.length_cons, List.length_nil, Nat.zero_add]
       refine Sat.weak (B := block (wr.heap.size + 1) TP [.string x.p.nm, .int .i64 x.p.pos, .slice xa xn xc] * block wr.heap.size TP [.string x.p.nm, .int .i64 x.p.pos, .slice xa xn xc]) (hs6.eq ?_)
       ac_rfl
  · have hlt' : ¬ (j : Int) < ps.length := by omega
    have hje : ps.take j = ps := List.take_of_length_le (by omega)
    rw [hje] at hsr
    have hc := hsr
    unfold coreD at hc
    have f6 := hc.f D 6
    have c6 := hc.c D 6
    have hs2 := hc.upd D 6 (.slice a (others nm ps).length c)
    have HJ : Aside (ps.take j = ps) := hje
    rw [HJ.out]
    clear hc hsr hje
    go_wp2
    go_end0
    refine ⟨rfl, .slice a (others nm ps).length c, ?_⟩
    refine Sat.weak (B := rw TP 3 (.slice pa ps.length pc) (prows ps) * piecesA (ps.filter fun x => !(x.p.nm != nm))) (hs2.eq ?_)
    unfold coreD pendA
    rw [piecesA_filter (fun x => x.p.nm != nm) ps]
    show _ = _ * (_ * piecesA (ps.filter fun x => x.p.nm != nm) * _) * _
    ac_rfl
theorem laid_pad (into : List UInt8) (k : Nat) (b : List UInt8) : laid into k b = (into ++ List.replicate (k + b.length - into.length) 0).take k ++ b ++ (into ++ List.replicate (k + b.length - into.length) 0).drop (k + b.length) := by
 unfold laid
 congr 1
 by_cases h : k + b.length ≤ into.length
 · have : k + b.length - into.length = 0 := by omega
   simp [this]
 · rw [List.drop_of_length_le (by omega), List.drop_of_length_le (by simp; omega)]
set_option maxHeartbeats 800000 in
theorem lay_any (v : Value) (into : List UInt8) (k : Nat) (x : Value) (b : List UInt8) (B F : Assn) (hB : Reads B x b) (w : World) (hs : Sat (rw TB 1 v (bys into) * (B * F)) w) (h1 : into.length ≤ 35184372088832) (h2 : k + b.length ≤ 35184372088832) :
 Calls Tryz.prog 107 #[v, .int .i64 k, x] w fun e w' => ∃ v', e = .returned v' ∧ Sat (rw TB 1 v' (bys (laid into k b)) * (B * F)) w' := by
 obtain ⟨i0, E⟩ := elemB
 obtain ⟨va, vc, rfl, hvc, _⟩ := rw_vb hs
 obtain ⟨xa, xc, rfl, hxc, hxm⟩ := (hB _ _ (hs.take B)).len
 have hxm' : xc ≤ 9223372036854775807 := by simpa [maxLen] using hxm
 clear hxm
 go_enter Tryz.func107, Tryz.ntmps107
 go_wp2
 go_loopg [0] (k + b.length - into.length) (fun g t wr => ∃ (m : Nat) (a : Option Addr) (c : Nat), t = .slice a (into.length + m) c ∧ m ≤ k + b.length - into.length ∧ Aside (g = k + b.length - into.length - m) ∧
  Sat (rw TB 1 (.slice a (into.length + m) c) (bys (into ++ List.replicate m 0)) * (B * F)) wr)
 case atStart => exact ⟨0, va, vc, rfl, by omega, rfl, by simpa using hs⟩
 case round =>
  obtain ⟨m, a, c, rfl, hm, A, hsr⟩ := hrel
  clear hs
  by_cases hlt : into.length + m < k + b.length
  · have hs4 := hsr.alloc #[.int .u8 0] TB
    have hs5 := hs4.take (rw TB 1 (.slice a (into.length + m) c) (bys (into ++ List.replicate m 0)))
    have hsrc := Src.one_new (P := Tryz.prog) hs4 rfl
    clear hs4
    go_wp2_with (at_builtin; refine wpl_append_same E rfl (.tmp 14) (.tmp 15) rfl rfl rfl hs5 hsrc (by unfold maxLen; omega) (by omega) ?_; intro a' c' w' hs6 hnil; clear hnil hs5 hsrc)
    go_roundg (k + b.length - into.length - (m + 1))
    case measure => have := A.out; omega
    case rel =>
     refine ⟨m + 1, a', c', rfl, by omega, rfl, ?_⟩
     rw [List.replicate_succ', ← List.append_assoc, bys_append]
     refine Sat.weak (B := block wr.heap.size TB [.int .u8 0]) (hs6.eq ?_)
     show rw TB 1 _ (_ ++ [Value.int .u8 0]) * _ = _
     rw [show bys [(0 : UInt8)] = [Value.int .u8 0] from rfl]
     ac_rfl
  · have hge : ¬ ((into.length : Int) + m < k + b.length) := by omega
    obtain ⟨hac1, hac2⟩ : into.length + m ≤ c ∧ c ≤ 9223372036854775807 := by
     obtain ⟨_, _, _, h5, _, h7, h8⟩ := rw_v hsr
     cases h5
     exact ⟨h7, h8⟩
    have hm1 : m = k + b.length - into.length := by omega
    have HM : Aside (m = k + b.length - into.length) := hm1
    have hkm : k ≤ into.length + m := by omega
    have hx := hB _ _ (hsr.take B)
    clear hm1
    have hcut := at_from (P := Tryz.prog) E (a := a) (n := into.length + m) (c := c) k hkm
    obtain ⟨w6, hrun, hs6⟩ := run_copy_any (P := Tryz.prog) E 26 3 (lo := k) hsr hx (by omega)
    clear hsr hx
    go_wp2
    go_ret
    refine ⟨_, rfl, ?_⟩
    rw [laid_pad, ← HM.out, bys_append, bys_append, bys_take, bys_drop]
    exact hs6
end Go.Proofs.YtfhbmblbidcmmaaGreat
namespace Go.Proofs.YtfhbmblbidcmmaaGreat
set_option linter.unusedSimpArgs false
set_option linter.unusedVariables false
open Go.RowKit Go.Sl Go.Dk
theorem rw_new0 {e s : Nat} {F : Assn} {w : World} (hs : Sat F w) : Sat (rw e s (.slice (some ⟨w.heap.size, 0, none⟩) 0 0) [] * F) (w.alloc (.cells #[] e)) := by
 have := hs.alloc #[] e
 exact Sat.rw_shut (sp := []) (by simp) (by simp) (by omega) (by simp) this
theorem file_there {D : Nat} {d : Dk} {nm : ByteArray} {t : Bool} {F : Assn} {w : World} (hs : Sat (diskP D d * F) w) (hm : d.may nm t = 0) (hg : (d.get nm).isSome = true) :
 ∃ M l1 n l2 pv ps, n.nm = nm ∧ (∀ m ∈ l1, m.nm ≠ n.nm) ∧ fents (l1 ++ n :: l2) = d.files ∧ pents ps = d.pend ∧ named nm = true ∧ d.down = false ∧ d.get nm = some n.f ∧ Sat (diskA D M (l1 ++ n :: l2) pv ps d * F) w := by
 obtain ⟨M, ns, pv, ps, h1, h2, h3⟩ := Sat.disk_open hs
 rcases nf_cases ns nm with ⟨l1, n, l2, rfl, h4, h5⟩ | h
 · rcases may_ways d nm t with ⟨h, _⟩ | ⟨h, _⟩ | ⟨h, _⟩ | ⟨h, h6, h7, _⟩
   · rw [h] at hm; cases hm
   · rw [h] at hm; cases hm
   · rw [h] at hm; cases hm
   · subst h4
     exact ⟨M, l1, n, l2, pv, ps, rfl, h5, h1, h2, h6, h7, by unfold Dk.get; rw [← h1, fget_found h5], h3⟩
 · unfold Dk.get at hg
   rw [← h1, fget_none h] at hg
   cases hg
theorem may_some {d : Dk} {nm : ByteArray} (h : d.may nm true = 0) : (d.get nm).isSome = true := by
 rcases may_ways d nm true with ⟨h', _⟩ | ⟨h', _⟩ | ⟨h', _⟩ | ⟨_, _, _, h'⟩
 · rw [h'] at h; cases h
 · rw [h'] at h; cases h
 · rw [h'] at h; cases h
 · exact h' rfl
set_option maxHeartbeats 400000 in
theorem size_any (D : Nat) (d : Dk) (nm : ByteArray) (F : Assn) (w : World) (hs : Sat (diskP D d * F) w) (hsz : nm.size ≤ 9223372036854775807) :
 Calls Tryz.prog 50 #[.pointer (some ⟨D, 0, none⟩), .string nm] w fun e w' => e = .returned (.int .i64 (d.size nm)) ∧ w = w' := by
 by_cases hm : d.may nm true = 0
 · obtain ⟨M, l1, n, l2, pv, ps, rfl, h1, h2, h3, h4, h5, h6, hs1⟩ := file_there hs hm (may_some hm)
   have e1 : d.size n.nm = n.f.now.length := by unfold Dk.size; rw [if_neg (by simp [hm]), h6]; rfl
   rw [e1]
   have hmay := may_found D M l1 n l2 pv ps d true F w hs1 h1 hsz h4 h5
   rw [disk_file] at hs1
   unfold fileA at hs1
   have c0 := hs1.c n.b 0
   obtain ⟨va, vc, hv, _⟩ := rw_vb (hs1.take (rw TB 1 n.nv (bys n.f.now)))
   rw [hv] at c0
   clear hs hs1 hm h2 h3 h4 h5 h6 e1 hv
   go_enter Tryz.func50, Tryz.ntmps50
   go_wp2_with (refine hmay.mono ?_; rintro e w' ⟨rfl, rfl⟩)
   go_ret
   exact ⟨rfl, rfl⟩
 · have e1 : d.size nm = -1 := by unfold Dk.size; rw [if_pos hm]
   rw [e1]
   obtain ⟨M, ns, pv, ps, h1, h2, h3⟩ := Sat.disk_open hs
   have hmay := may_bad D M ns pv ps d nm true F w h3 h1 hsz hm
   have hb : (d.may nm true != 0) = true := by simpa using hm
   clear hs h3 h1 h2 e1 hm
   generalize d.may nm true = q at *
   go_enter Tryz.func50, Tryz.ntmps50
   go_wp2_with (refine hmay.mono ?_; rintro e w' ⟨rfl, rfl⟩)
   go_ret
   exact ⟨rfl, rfl⟩
set_option maxRecDepth 100000 in
set_option maxHeartbeats 800000 in
theorem read_any (D : Nat) (d : Dk) (nm : ByteArray) (k n : Int) (F : Assn) (w : World) (hs : Sat (diskP D d * F) w) (hsz : nm.size ≤ 9223372036854775807) (hbig : ∀ p ∈ d.files, p.2.now.length ≤ big) :
 Calls Tryz.prog 49 #[.pointer (some ⟨D, 0, none⟩), .string nm, .int .i64 k, .int .i64 n] w fun e w' => ∃ v, e = .returned (.tuple #[v, .int .i64 (d.read nm k n).1]) ∧ Sat (rw TB 1 v (bys (d.read nm k n).2) * (diskP D d * F)) w' := by
 by_cases hm : d.may nm true = 0
 · obtain ⟨M, l1, x, l2, pv, ps, rfl, h1, h2, h3, h4, h5, h6, hs1⟩ := file_there hs hm (may_some hm)
   have hmay := may_found D M l1 x l2 pv ps d true F w hs1 h1 hsz h4 h5
   have hfb : x.f.now.length ≤ 1099511627776 := hbig (x.nm, x.f) (by rw [← h2]; simp [fents])
   rw [disk_file] at hs1
   unfold fileA at hs1
   have c0 := hs1.c x.b 0
   obtain ⟨va, vc, hv, hv1, hv2⟩ := rw_vb (hs1.take (rw TB 1 x.nv (bys x.f.now)))
   have hbyt := Reads.rw _ _ (hs1.take (rw TB 1 x.nv (bys x.f.now)))
   rw [hv] at c0 hbyt
   by_cases hr : k < 0 ∨ n < 0 ∨ (x.f.now.length : Int) < k ∨ (x.f.now.length : Int) - k < n
   · have e1 : d.read x.nm k n = (2, []) := by
      unfold Dk.read; rw [if_neg (by simp [hm]), h6]; simp only [Option.getD_some]; rw [if_pos hr]
     rw [e1]
     clear hs1 hm h2 h3 h4 h5 h6 e1 hv hbyt
     by_cases g1 : k < 0
     · have g1' : decide (k < 0) = true := by simpa using g1
       go_enter Tryz.func49, Tryz.ntmps49
       go_wp2_with (refine hmay.mono ?_; rintro e w' ⟨rfl, rfl⟩)
       go_ret2
       exact ⟨_, rfl, by simpa [bys] using hs.rw_nil⟩
     · have g1' : decide (k < 0) = false := by simpa using g1
       by_cases g2 : n < 0
       · have g2' : decide (n < 0) = true := by simpa using g2
         go_enter Tryz.func49, Tryz.ntmps49
         go_wp2_with (refine hmay.mono ?_; rintro e w' ⟨rfl, rfl⟩)
         go_ret2
         exact ⟨_, rfl, by simpa [bys] using hs.rw_nil⟩
       · have g2' : decide (n < 0) = false := by simpa using g2
         by_cases g3 : (x.f.now.length : Int) < k
         · have g3' : decide ((x.f.now.length : Int) < k) = true := by simpa using g3
           go_enter Tryz.func49, Tryz.ntmps49
           go_wp2_with (refine hmay.mono ?_; rintro e w' ⟨rfl, rfl⟩)
           go_ret2
           exact ⟨_, rfl, by simpa [bys] using hs.rw_nil⟩
         · have g3' : decide ((x.f.now.length : Int) < k) = false := by simpa using g3
           have g4 : (x.f.now.length : Int) - k < n := by omega
           go_enter Tryz.func49, Tryz.ntmps49
           go_wp2_with (refine hmay.mono ?_; rintro e w' ⟨rfl, rfl⟩)
           go_ret2
           exact ⟨_, rfl, by simpa [bys] using hs.rw_nil⟩
   · obtain ⟨k, rfl⟩ := Int.eq_ofNat_of_zero_le (show 0 ≤ k by omega)
     obtain ⟨n, rfl⟩ := Int.eq_ofNat_of_zero_le (show 0 ≤ n by omega)
     have e1 : d.read x.nm k n = (0, (x.f.now.drop k).take n) := by
      unfold Dk.read; rw [if_neg (by simp [hm]), h6]; simp only [Option.getD_some]; rw [if_neg hr]; rfl
     rw [e1]
     have g1 : ¬ (x.f.now.length : Int) < k := by omega
     have g2 : ¬ (x.f.now.length : Int) - k < n := by omega
     obtain ⟨i0, E⟩ := elemB
     have hcut := at_cut (P := Tryz.prog) E (a := va) (n := x.f.now.length) (c := vc) k (k + n) (by omega) (by omega)
     have e2 : k + n - k = n := by omega
     rw [Int.natCast_add, e2] at hcut
     have hs2 := rw_new0 (e := TB) (s := 1) hs1
     have hbyt2 := Reads.rw _ _ (hs2.take (rw TB 1 x.nv (bys x.f.now)))
     rw [hv] at hbyt2
     have hsub := hbyt2.cut k (k + n) (by omega) (by omega)
     rw [e2] at hsub
     have hsrc := hsub.src (P := Tryz.prog)
     have hln : ((x.f.now.drop k).take n).length = n := by simp; omega
     rw [hln] at hsrc
     have hlt : x.b < w.heap.size := World.block_lt_of_cell? w _ c0
     have HH : Aside (fents (l1 ++ x :: l2) = d.files ∧ pents ps = d.pend ∧ x.nv = .slice va x.f.now.length vc) := ⟨h2, h3, hv⟩
     clear hs hm h2 h3 h4 h5 h6 e1 hv hbyt hbyt2 hsub hs1 hln e2
     go_enter Tryz.func49, Tryz.ntmps49
     go_wp2_with first | (at_builtin; refine wpl_append_same E rfl (.tmp 47) (.tmp 56) rfl rfl rfl hs2 hsrc (by unfold maxLen; omega) (by omega) ?_; intro a' c' w'' hs6 hnil; clear hnil hs2 hsrc) | (refine hmay.mono ?_; rintro e w' ⟨rfl, rfl⟩)
     simp only [Nat.zero_add, List.nil_append] at hs6
     go_ret2
     refine ⟨_, rfl, ?_⟩
     show Sat (rw TB 1 (.slice a' n c') _ * _) w''
     have hs7 : Sat (diskA D M (l1 ++ x :: l2) pv ps d * (rw TB 1 (.slice a' n c') (bys ((x.f.now.drop k).take n)) * F)) w'' := hs6.eq (by rw [disk_file]; unfold fileA; ac_rfl)
     exact (Sat.disk_shut HH.out.1 HH.out.2.1 hs7).eq (by ac_rfl)
 · have e1 : d.read nm k n = (d.may nm true, []) := by unfold Dk.read; rw [if_pos hm]
   rw [e1]
   obtain ⟨M, ns, pv, ps, h1, h2, h3⟩ := Sat.disk_open hs
   have hmay := may_bad D M ns pv ps d nm true F w h3 h1 hsz hm
   have hb : (d.may nm true != 0) = true := by simpa using hm
   clear h3 h1 h2 e1 hm hbig
   generalize d.may nm true = q at *
   go_enter Tryz.func49, Tryz.ntmps49
   go_wp2_with (refine hmay.mono ?_; rintro e w' ⟨rfl, rfl⟩)
   go_ret2
   exact ⟨_, rfl, by simpa [bys] using hs.rw_nil⟩
theorem disk_core (D M : Nat) (ns : List Nf) (pv : Value) (ps : List Np) (d : Dk) : diskA D M ns pv ps d = coreD D M pv d * (mp skey M (ns.map kvF) * (filesA ns * pendA pv ps)) := rfl
set_option maxRecDepth 100000 in
set_option maxHeartbeats 800000 in
theorem sync_any (D : Nat) (d : Dk) (m : Nat) (nm : ByteArray) (F : Assn) (w : World) (hs : Sat (diskP D d * F) w) (hsz : nm.size ≤ 9223372036854775807) (ok : Ok m d) (hm' : m ≤ big) :
 Calls Tryz.prog 102 #[.pointer (some ⟨D, 0, none⟩), .string nm] w fun e w' => e = .returned (.int .i64 (d.sync nm).1) ∧ Sat (diskP D (d.sync nm).2 * F) w' := by
 have hbig : m ≤ 1099511627776 := hm'
 by_cases hm : d.may nm true = 0
 · obtain ⟨M, l1, x, l2, pv, ps, rfl, h1, h2, h3, h4, h5, h6, hs1⟩ := file_there hs hm (may_some hm)
   have hmay := may_found D M l1 x l2 pv ps d true F w hs1 h1 hsz h4 h5
   cases hst : d.stop with
   | true =>
     have e1 : d.sync x.nm = (8, { d with down := true }) := by unfold Dk.sync; rw [if_neg (by simp [hm]), if_pos hst]
     rw [e1]
     have hch := change_stop D M pv d _ w (hs1.eq (by rw [disk_core, sep_assoc])) hst
     have HH : Aside (fents (l1 ++ x :: l2) = d.files ∧ pents ps = d.pend) := ⟨h2, h3⟩
     clear hs hm h2 h3 h4 h5 h6 e1 hs1 hst ok
     go_enter Tryz.func102, Tryz.ntmps102
     go_wp2_with fail
     refine hmay.mono ?_
     rintro e w' ⟨rfl, rfl⟩
     go_wp2_with fail
     refine hch.mono ?_
     rintro e w1 ⟨rfl, hs1⟩
     go_wp2
     go_ret
     refine ⟨rfl, Sat.disk_shut (M := M) (pv := pv) (d := { d with down := true }) HH.out.1 HH.out.2 (hs1.eq ?_)⟩
     rw [disk_core]
     ac_rfl
   | false =>
     have e1 : d.sync x.nm = (0, (d.ticked.put x.nm { x.f with safe := x.f.now, sure := true }).settled x.nm) := by
      unfold Dk.sync; rw [if_neg (by simp [hm]), if_neg (by simp [hst]), h6]; rfl
     rw [e1]
     have hfb := (ok.sz (x.nm, x.f) (by rw [← h2]; simp [fents])).1
     have hfb' : x.f.now.length ≤ 1099511627776 := hfb
     have hpl : ps.length ≤ 1099511627776 := by have := ok.pend; rw [← h3] at this; simp [pents] at this; omega
     have hch := change_go D M pv d _ w (hs1.eq (by rw [disk_core, sep_assoc])) hst (by have := ok.left; omega) ok.left.2 ok.changes.1 (by have := ok.changes; omega)
     have HH : Aside (fents (l1 ++ x :: l2) = d.files ∧ pents ps = d.pend ∧ (∀ m ∈ l1, m.nm ≠ x.nm)) := ⟨h2, h3, h1⟩
     obtain ⟨i0, E⟩ := elemB
     clear hs hm h2 h3 h4 h5 h6 e1 hs1 hst ok hfb
     go_enter Tryz.func102, Tryz.ntmps102
     go_wp2_with fail
     refine hmay.mono ?_
     rintro e w' ⟨rfl, rfl⟩
     go_wp2_with fail
     refine hch.mono ?_
     rintro e w1 ⟨rfl, hs1⟩
     clear hmay hch
     have hs2 : Sat (fileA x * (restD D M l1 x l2 pv ps d.ticked * F)) w1 := hs1.eq (by rw [← sep_assoc (fileA x), ← disk_file, disk_core]; ac_rfl)
     unfold fileA at hs2
     have c0 := hs2.c x.b 0
     have hlt : x.b < w1.heap.size := World.block_lt_of_cell? w1 _ c0
     obtain ⟨va, vc, hv, hv1, hv2⟩ := rw_vb (hs2.take (rw TB 1 x.nv (bys x.f.now)))
     have hs3 := rw_new0 (e := TB) (s := 1) hs2
     have hbyt := Reads.rw _ _ (hs3.take (rw TB 1 x.nv (bys x.f.now)))
     rw [hv] at c0 hbyt
     have hsrc := hbyt.src (P := Tryz.prog)
     clear hs1 hs2 hbyt
     go_wp2_with (at_builtin; refine wpl_append_same E rfl (.tmp 22) (.tmp 26) rfl rfl rfl hs3 hsrc (by unfold maxLen; omega) (by omega) ?_; intro a' c' w2 hs4 hnil; simp only [Nat.zero_add, List.nil_append] at hs4; have k1 := hs4.c x.b 1; have f1 := hs4.f x.b 1; have hs5 := hs4.upd x.b 1 (.slice a' x.f.now.length c'); have k2 := hs5.c x.b 2; have f2 := hs5.f x.b 2; have hs6 := hs5.upd x.b 2 (.bool true); clear hs3 hsrc hnil hs4 hs5)
     have hset := settled_any D M pv ps d.ticked x.nm (fileA { x with f := { x.f with safe := x.f.now, sure := true }, sv := .slice a' x.f.now.length c' } * (mp skey M ((l1 ++ x :: l2).map kvF) * (filesA l1 * (filesA l2 * F)))) _ (Sat.weak (B := rw TB 1 x.sv (bys x.f.safe)) (hs6.eq (by unfold restD fileA; ac_rfl))) hpl
     refine hset.mono ?_
     rintro e w3 ⟨rv, rfl, hs7⟩
     go_wp2
     go_ret
     refine ⟨rfl, ?_⟩
     obtain ⟨g1, g2, g3⟩ := HH.out
     have e5 : fents (l1 ++ { x with f := { x.f with safe := x.f.now, sure := true }, sv := .slice a' x.f.now.length c' } :: l2) = fput x.nm { x.f with safe := x.f.now, sure := true } d.files := by
      rw [← g1, fput_found _ g3]
      simp [fents]
     refine Sat.disk_shut (M := M) (ns := l1 ++ { x with f := { x.f with safe := x.f.now, sure := true }, sv := .slice a' x.f.now.length c' } :: l2) (pv := rv) (ps := others x.nm ps) e5 (by rw [others_pents, g2]; rfl) (hs7.eq ?_)
     rw [disk_file]
     have e6 : ∀ (x' : Nf) (dd : Dk), x'.b = x.b → x'.nm = x.nm → restD D M l1 x' l2 rv (others x.nm ps) dd = restD D M l1 x l2 rv (others x.nm ps) dd := fun x' dd hb hn => restD_at hb.symm hn.symm
     rw [e6]
     · unfold restD
       show coreD D M rv d.ticked * _ = _ * (coreD D M rv d.ticked * _) * _
       ac_rfl
     · rfl
     · rfl
 · have e1 : d.sync nm = (d.may nm true, d) := by unfold Dk.sync; rw [if_pos hm]
   rw [e1]
   obtain ⟨M, ns, pv, ps, h1, h2, h3⟩ := Sat.disk_open hs
   have hmay := may_bad D M ns pv ps d nm true F w h3 h1 hsz hm
   have hb : (d.may nm true != 0) = true := by simpa using hm
   have hb2 : (d.may nm true == 0) = false := by simpa using hm
   clear h3 h1 h2 e1 hm ok
   generalize d.may nm true = q at *
   go_enter Tryz.func102, Tryz.ntmps102
   go_wp2_with (refine hmay.mono ?_; rintro e w' ⟨rfl, rfl⟩)
   go_ret
   exact ⟨rfl, hs⟩
end Go.Proofs.YtfhbmblbidcmmaaGreat
namespace Go.Proofs.YtfhbmblbidcmmaaGreat
set_option linter.unusedSimpArgs false
set_option linter.unusedVariables false
open Go.RowKit Go.Sl Go.Dk
attribute [local go_sem ↓] Go.wp_at_zero Go.wp_at_succ
theorem piecesA_snoc (ps : List Np) (x : Np) : piecesA (ps ++ [x]) = piecesA ps * pieceA x := by rw [piecesA_append]; simp [piecesA, sep_one]
def coreX (D M : Nat) (d : Dk) : Assn :=
 hdr D TD 7 * (Sl.cell D 0 (.int .i64 d.room) * (Sl.cell D 1 (.int .i64 d.changes) * (Sl.cell D 2 (.int .i64 d.left) * (Sl.cell D 3 (.bool d.armed) * (Sl.cell D 4 (.bool d.down) * Sl.cell D 5 (.map (some M)))))))
theorem coreD_x (D M : Nat) (pv : Value) (d : Dk) : coreD D M pv d = Sl.cell D 6 pv * coreX D M d := by unfold coreD coreX; ac_rfl
end Go.Proofs.YtfhbmblbidcmmaaGreat
namespace Go.Proofs.YtfhbmblbidcmmaaGreat
set_option linter.unusedSimpArgs false
set_option linter.unusedVariables false
open Go.RowKit Go.Sl Go.Dk
attribute [local go_sem ↓] Go.wp_at_zero Go.wp_at_succ
theorem mput_noneF {ns : List Nf} {n' : Nf} (h : ∀ m ∈ ns, m.nm ≠ n'.nm) : mput n'.nm (.pointer (some ⟨n'.b, 0, none⟩)) (ns.map kvF) = (ns ++ [n']).map kvF := by
 rw [mput_new (mget_noneF h)]; simp [kvF]
theorem lens_ok {m : Nat} {d : Dk} {ns : List Nf} (ok : Ok m d) (hf : fents ns = d.files) : lens ns ≤ 17592186044416 := by
 have h1 : ∀ l : List Nf, (∀ n ∈ l, n.f.now.length ≤ 1099511627776) → lens l ≤ l.length * 1099511627776 := by
  intro l
  induction l with
  | nil => intro _; simp [lens]
  | cons n l ih =>
    intro h
    have := ih fun m hm => h m (by simp [hm])
    have := h n (by simp)
    rw [lens_cons, List.length_cons]
    omega
 have h2 := h1 ns fun n hn => (ok.sz (n.nm, n.f) (by rw [← hf]; exact List.mem_map.2 ⟨n, hn, rfl⟩)).1
 have h3 : ns.length ≤ 16 := by have := ok.nf; rw [← hf] at this; simpa [fents] using this
 have h4 : ns.length * 1099511627776 ≤ 16 * 1099511627776 := Nat.mul_le_mul_right _ h3
 omega
end Go.Proofs.YtfhbmblbidcmmaaGreat
namespace Go.Proofs.YtfhbmblbidcmmaaGreat
set_option linter.unusedSimpArgs false
set_option linter.unusedVariables false
open Go.RowKit Go.Sl
theorem rw_ex (e s n c g : Nat) (xs : List Value) (L : Nat) (hL : xs.length = L) : rw e s (.slice (some ⟨g, 0, none⟩) n c) xs = ex fun sp : {sp : List Value // L = n * s ∧ L + sp.length = c * s ∧ n ≤ c ∧ c ≤ maxLen} => block g e (xs ++ sp.1) := by
 subst hL
 funext h
 apply propext
 constructor
 · rintro (⟨h1, _⟩ | ⟨g', n', c', sp, h1, h2, h3, h4, h5, h6⟩)
   · cases h1
   · cases h1
     exact ⟨⟨sp, h2, by simpa using h3, h4, h5⟩, h6⟩
 · rintro ⟨⟨sp, h2, h3, h4, h5⟩, h6⟩
   exact .inr ⟨g, n, c, sp, rfl, h2, by simpa using h3, h4, h5, h6⟩
theorem rw_split {e s n c g k : Nat} {xs : List Value} {v : Value} (h : xs[k]? = some v) : ∃ R, rw e s (.slice (some ⟨g, 0, none⟩) n c) xs = Sl.cell g k v * R ∧ ∀ v', rw e s (.slice (some ⟨g, 0, none⟩) n c) (xs.set k v') = Sl.cell g k v' * R := by
 have hk := (List.getElem?_eq_some_iff.1 h).1
 have hc : ∀ sp : List Value, ∃ F, cells g 0 (xs ++ sp) = Sl.cell g k v * F ∧ ∀ v', cells g 0 (xs.set k v' ++ sp) = Sl.cell g k v' * F := by
  intro sp
  obtain ⟨F, h1, h2⟩ := cells_at_split g (xs ++ sp) 0 k v (by rw [List.getElem?_append_left hk]; exact h)
  rw [Nat.zero_add] at h1
  refine ⟨F, h1, fun v' => ?_⟩
  have h3 := h2 v'
  rw [List.set_append_left _ _ hk, Nat.zero_add] at h3
  exact h3
 let F : List Value → Assn := fun sp => Classical.choose (hc sp)
 have hF : ∀ sp, cells g 0 (xs ++ sp) = Sl.cell g k v * F sp ∧ ∀ v', cells g 0 (xs.set k v' ++ sp) = Sl.cell g k v' * F sp := fun sp => Classical.choose_spec (hc sp)
 refine ⟨ex fun sp : {sp : List Value // xs.length = n * s ∧ xs.length + sp.length = c * s ∧ n ≤ c ∧ c ≤ maxLen} => hdr g e (xs.length + sp.1.length) * F sp.1, ?_, fun v' => ?_⟩
 · rw [rw_ex _ _ _ _ _ _ xs.length rfl, sep_comm, ex_sep]
   congr 1
   funext sp
   unfold block
   rw [(hF sp.1).1, List.length_append]
   ac_rfl
 · rw [rw_ex _ _ _ _ _ _ xs.length List.length_set, sep_comm, ex_sep]
   congr 1
   funext sp
   unfold block
   rw [(hF sp.1).2 v', List.length_append, List.length_set]
   ac_rfl
instance rws_has (e s n c g k : Nat) (xs : List Value) (v : Value) [h : At xs k v] : HasC (rw e s (.slice (some ⟨g, 0, none⟩) n c) xs) g k v :=
 let ⟨R, h1, _⟩ := rw_split (e := e) (s := s) (n := n) (c := c) (g := g) h.out; ⟨R, h1⟩
instance rws_upd (e s n c g k : Nat) (xs : List Value) (v v' : Value) [h : At xs k v] : Upd (rw e s (.slice (some ⟨g, 0, none⟩) n c) xs) g k v' (rw e s (.slice (some ⟨g, 0, none⟩) n c) (xs.set k v')) :=
 let ⟨R, h1, h2⟩ := rw_split (e := e) (s := s) (n := n) (c := c) (g := g) h.out; ⟨v, R, h1, h2 v'⟩
theorem row_some {e s : Nat} {a : Option Addr} {n c : Nat} {xs : List Value} {F : Assn} {w : World} (hs : Sat (rw e s (.slice a n c) xs * F) w) (hn : 0 < n) : ∃ g, a = some ⟨g, 0, none⟩ := by
 rcases hs.rw_open with ⟨h1, _⟩ | ⟨g', n', cap, sp, h1, _⟩
 · cases h1; omega
 · cases h1; exact ⟨_, rfl⟩
theorem rw_max {e s : Nat} {a : Option Addr} {n c : Nat} {xs : List Value} {F : Assn} {w : World} (hs : Sat (rw e s (.slice a n c) xs * F) w) : xs.length = n * s ∧ n ≤ c ∧ c ≤ 9223372036854775807 := by
 rcases hs.rw_open with ⟨h1, h2, _⟩ | ⟨g', n', cap, sp, h1, h2, h3, h4, h5, _⟩
 · cases h1; subst h2; simp
 · cases h1; exact ⟨h2, h4, by simpa [maxLen] using h5⟩
end Go.Proofs.YtfhbmblbidcmmaaGreat
namespace Go.Proofs.YtfhbmblbidcmmaaGreat
set_option linter.unusedSimpArgs false
set_option linter.unusedVariables false
open Go.RowKit Go.Sl Go.Dk
theorem bys_set (l : List UInt8) (k : Nat) (y : UInt8) : (bys l).set k (.int .u8 y.toNat) = bys (l.set k y) := by
 unfold bys; rw [List.map_set]; rfl
theorem row_made {n : Nat} {F : Assn} {w : World} (l : List UInt8) (hl : l.length = n) (hn : n ≤ 1099511627776) (hs : Sat F w) : Sat (rw TB 1 (.slice (some ⟨w.heap.size, 0, none⟩) n n) (bys l) * F) (w.alloc (.cells (bys l).toArray TB)) := by
 have h := hs.alloc (bys l).toArray TB
 refine Sat.rw_shut (sp := []) (n := n) (cap := n) (by simp [bys, hl]) (by simp [bys, hl]) (Nat.le_refl _) (by unfold maxLen; omega) ?_
 simpa using h
end Go.Proofs.YtfhbmblbidcmmaaGreat
namespace Go.Sl
set_option linter.unusedSimpArgs false
set_option linter.unusedVariables false
def ReadsR (s : Nat) (B : Assn) (v : Value) (n : Nat) (cs : List Value) : Prop :=
 cs.length = n * s ∧ ∃ a c, v = .slice a n c ∧ n ≤ c ∧ c ≤ 9223372036854775807 ∧ ∀ j u, cs[j]? = some u → ∃ b o, a = some ⟨b, o, none⟩ ∧ RdC B b (o + j) u
theorem ReadsR.left {s : Nat} {A B : Assn} {v : Value} {n : Nat} {cs : List Value} (h : ReadsR s A v n cs) : ReadsR s (A * B) v n cs := by
 obtain ⟨h1, a, c, h2, h3, h4, h5⟩ := h
 refine ⟨h1, a, c, h2, h3, h4, fun j u hj => ?_⟩
 obtain ⟨b, o, e, r⟩ := h5 j u hj
 exact ⟨b, o, e, inferInstance⟩
theorem ReadsR.right {s : Nat} {A B : Assn} {v : Value} {n : Nat} {cs : List Value} (h : ReadsR s B v n cs) : ReadsR s (A * B) v n cs := by
 obtain ⟨h1, a, c, h2, h3, h4, h5⟩ := h
 refine ⟨h1, a, c, h2, h3, h4, fun j u hj => ?_⟩
 obtain ⟨b, o, e, r⟩ := h5 j u hj
 exact ⟨b, o, e, inferInstance⟩
theorem ReadsR.eq {s : Nat} {A B : Assn} {v : Value} {n : Nat} {cs : List Value} (h : ReadsR s A v n cs) (e : A = B) : ReadsR s B v n cs := e ▸ h
theorem ReadsR.v {s : Nat} {B : Assn} {v : Value} {n : Nat} {cs : List Value} (h : ReadsR s B v n cs) : ∃ a c, v = .slice a n c ∧ n ≤ c ∧ c ≤ 9223372036854775807 := by
 obtain ⟨_, a, c, h2, h3, h4, _⟩ := h
 exact ⟨a, c, h2, h3, h4⟩
theorem ReadsR.nil (s : Nat) (B : Assn) : ReadsR s B (.slice none 0 0) 0 [] := ⟨by simp, none, 0, rfl, by omega, by omega, fun j u h => by simp at h⟩
theorem ReadsR.rw {e s : Nat} {v : Value} {n : Nat} {cs : List Value} {F : Assn} {w : World} (hs : Sat (rw e s v cs * F) w) (hv : ∃ a c, v = .slice a n c) : ReadsR s (rw e s v cs) v n cs := by
 obtain ⟨a, c, rfl⟩ := hv
 rcases hs.rw_open with ⟨h1, h2, _⟩ | ⟨g, n', cap, sp, h1, h2, h3, h4, h5, _⟩
 · cases h1; subst h2
   exact ReadsR.nil s _
 · cases h1
   refine ⟨h2, _, _, rfl, h4, by simpa [maxLen] using h5, fun j u hj => ⟨g, 0, rfl, ?_⟩⟩
   rw [Nat.zero_add]
   exact ⟨fun F w hs => by
    rcases hs.rw_open with ⟨h1, h2, _⟩ | ⟨g', n', cap, sp, h1, h2, h3, h4, h5, h6⟩
    · cases h1
    · cases h1
      have h7 : Sat (Sl.cells g 0 (cs ++ sp) * (Sl.hdr g e (cs ++ sp).length * F)) w := h6.eq (by unfold Sl.block; ac_rfl)
      simpa using h7.cells_at j u (by rw [List.getElem?_append_left (List.getElem?_eq_some_iff.1 hj).1]; exact hj)⟩
theorem ReadsR.at {s : Nat} {B : Assn} {a : Option Addr} {n c : Nat} {cs : List Value} (h : ReadsR s B (.slice a n c) n cs) (j : Nat) (u : Value) (hj : cs[j]? = some u) : ∃ b o, a = some ⟨b, o, none⟩ ∧ RdC B b (o + j) u := by
 obtain ⟨h1, a', c', e, h3, h4, h5⟩ := h
 cases e
 exact h5 j u hj
theorem ReadsR.cut {s : Nat} {B : Assn} {a : Option Addr} {n c : Nat} {cs : List Value} (h : ReadsR s B (.slice a n c) n cs) (lo hi : Nat) (h1 : lo ≤ hi) (h2 : hi ≤ n) :
 ReadsR s B (.slice (cutA a c lo s) (hi - lo) (c - lo)) (hi - lo) ((cs.drop (lo * s)).take ((hi - lo) * s)) := by
 obtain ⟨g1, a', c', e, g3, g4, g5⟩ := h
 cases e
 refine ⟨?_, _, _, rfl, by omega, by omega, fun j u hj => ?_⟩
 · rw [List.length_take, List.length_drop, g1, Nat.min_eq_left]
   rw [← Nat.sub_mul]
   exact Nat.mul_le_mul_right _ (by omega)
 · have hj2 := (List.getElem?_eq_some_iff.1 hj).1
   rw [List.getElem?_take] at hj
   split at hj
   · rw [List.getElem?_drop] at hj
     obtain ⟨b, o, rfl, r⟩ := g5 _ u hj
     have hlt : lo < hi := by
      rcases Nat.lt_or_ge lo hi with h | h
      · exact h
      · have : hi - lo = 0 := by omega
        rw [this] at hj2; simp at hj2
     refine ⟨b, o + lo * s, ?_, ?_⟩
     · unfold cutA
       rw [if_neg (by omega)]
       simp [Addr.add]
     · rw [Nat.add_assoc]; exact r
   · cases hj
theorem ReadsR.src {P : Program} {s : Nat} {B : Assn} {v : Value} {n : Nat} {cs : List Value} (h : ReadsR s B v n cs) (h1 : ∀ u ∈ cs, u.oneCell' = true) {F : Assn} {w : World} (hs : Sat (B * F) w) : Src P s w v n cs := by
 obtain ⟨g1, a, c, rfl, g3, g4, g5⟩ := h
 rcases Nat.eq_zero_or_pos cs.length with h0 | h0
 · have : cs = [] := List.length_eq_zero_iff.1 h0
   subst this
   refine ⟨fun _ => rfl, fun k => ?_, g1, by simp⟩
   rw [h0] at g1
   cases a with
   | none => rfl
   | some ad =>
     show (loadCells ad (n * s)).run P (w.drewN k) = _
     rw [← g1]
     rfl
 · obtain ⟨b, o, rfl, _⟩ := g5 0 _ (List.getElem?_eq_getElem h0)
   refine Src.slice g1 (fun j u hj => ?_) h1
   obtain ⟨b', o', e, r⟩ := g5 j u hj
   cases e
   exact r.out F w hs
theorem keep1 {A R : Assn} {w : World} [h : SatI A w] (X : Assn) [t : Take A X R] : Sat X w := Sat.weak (h.out.take X)
theorem keep2 {A R R' : Assn} {w : World} [h : SatI A w] (X Y : Assn) [t : Take A X R] [t' : Take R Y R'] : Sat (X * Y) w := Sat.weak (B := R') ((h.out.take2 X Y).eq (by ac_rfl))
theorem keep3 {A R R' R'' : Assn} {w : World} [h : SatI A w] (X Y Z : Assn) [t : Take A X R] [t' : Take R Y R'] [t'' : Take R' Z R''] : Sat (X * (Y * Z)) w := Sat.weak (B := R'') ((h.out.take3 X Y Z).eq (by ac_rfl))
theorem keep4 {A R R' R'' R3 : Assn} {w : World} [h : SatI A w] (X Y Z V : Assn) [t : Take A X R] [t' : Take R Y R'] [t'' : Take R' Z R''] [t3 : Take R'' V R3] : Sat (X * (Y * (Z * V))) w := Sat.weak (B := R3) ((h.out.take3 X Y Z).eq (by rw [t3.out]; ac_rfl))
theorem keep5 {A R R' R'' R3 R4 : Assn} {w : World} [h : SatI A w] (X Y Z V U : Assn) [t : Take A X R] [t' : Take R Y R'] [t'' : Take R' Z R''] [t3 : Take R'' V R3] [t4 : Take R3 U R4] : Sat (X * (Y * (Z * (V * U)))) w := Sat.weak (B := R4) ((h.out.take3 X Y Z).eq (by rw [t3.out, t4.out]; ac_rfl))
theorem keep6 {A R R' R'' R3 R4 R5 : Assn} {w : World} [h : SatI A w] (X Y Z V U T : Assn) [t : Take A X R] [t' : Take R Y R'] [t'' : Take R' Z R''] [t3 : Take R'' V R3] [t4 : Take R3 U R4] [t5 : Take R4 T R5] : Sat (X * (Y * (Z * (V * (U * T))))) w := Sat.weak (B := R5) ((h.out.take3 X Y Z).eq (by rw [t3.out, t4.out, t5.out]; ac_rfl))
theorem takeI3 {A R R' R'' : Assn} {w : World} [h : SatI A w] (X Y Z : Assn) [t : Take A X R] [t' : Take R Y R'] [t'' : Take R' Z R''] : Sat (X * (Y * (Z * R''))) w := h.out.take3 X Y Z
theorem takeI2 {A R R' : Assn} {w : World} [h : SatI A w] (X Y : Assn) [t : Take A X R] [t' : Take R Y R'] : Sat (X * (Y * R')) w := h.out.take2 X Y
theorem flat_at {α : Type} {f : α → List Value} {s : Nat} (hf : ∀ x, (f x).length = s) : ∀ (l : List α) (i k : Nat) (x : α), l[i]? = some x → k < s → (l.flatMap f)[i * s + k]? = (f x)[k]?
 | [], i, k, x, h, _ => by simp at h
 | y :: l, 0, k, x, h, hk => by
   simp at h; subst h
   rw [List.flatMap_cons, Nat.zero_mul, Nat.zero_add, List.getElem?_append_left (by rw [hf]; exact hk)]
 | y :: l, i + 1, k, x, h, hk => by
   simp at h
   rw [List.flatMap_cons, List.getElem?_append_right (by rw [hf, Nat.add_mul]; omega), hf, show (i + 1) * s + k - s = i * s + k by rw [Nat.add_mul]; omega]
   exact flat_at hf l i k x h hk
theorem flatV_len {α : Type} {f : α → List Value} {s : Nat} (hf : ∀ x, (f x).length = s) (l : List α) : (l.flatMap f).length = l.length * s := by
 induction l with
 | nil => simp
 | cons x l ih => rw [List.flatMap_cons, List.length_append, hf, ih, List.length_cons, Nat.add_mul]; omega
theorem ReadsR.row {α : Type} {f : α → List Value} {s : Nat} (hf : ∀ x, (f x).length = s) (hp : 0 < s) {B : Assn} {a : Option Addr} {n c : Nat} {l : List α} (h : ReadsR s B (.slice a n c) n (l.flatMap f)) {i : Nat} {x : α} (hi : l[i]? = some x) :
 ∃ b o, a = some ⟨b, o, none⟩ ∧ ∀ k u, (f x)[k]? = some u → RdC B b (o + i * s + k) u := by
 obtain ⟨g1, a', c', e, g3, g4, g5⟩ := h
 cases e
 obtain ⟨u, hu⟩ : ∃ u, (f x)[0]? = some u := ⟨_, List.getElem?_eq_getElem (by rw [hf]; exact hp)⟩
 obtain ⟨b, o, rfl, _⟩ := g5 (i * s + 0) u (by rw [flat_at hf l i 0 x hi hp]; exact hu)
 refine ⟨b, o, rfl, fun k u hk => ?_⟩
 have hk2 : k < s := by rw [← hf x]; exact (List.getElem?_eq_some_iff.1 hk).1
 obtain ⟨b', o', e, r⟩ := g5 (i * s + k) u (by rw [flat_at hf l i k x hi hk2]; exact hk)
 cases e
 rw [Nat.add_assoc]; exact r
end Go.Sl
