/-
  Of any pages in a file a root is found to be a tree just if it is one in the form of the document. No condition. (part 17)
-/
import Derived.Test.YtfhbmblbidcmmaaGreatRk8
set_option linter.unusedSimpArgs false
set_option linter.unusedVariables false
namespace Go.Proofs.YtfhbmblbidcmmaaGreat
set_option linter.unusedSimpArgs false
set_option linter.unusedVariables false
open Go.RowKit Go.Sl Go.Dk
attribute [local go_sem ↓] Go.wp_at_zero Go.wp_at_succ
set_option maxRecDepth 100000 in
set_option maxHeartbeats 800000 in
theorem write_range (D : Nat) (d : Dk) (nm : ByteArray) (k : Int) (xa : Option Addr) (n xc : Nat) (F : Assn) (w : World) (hs : Sat (diskP D d * F) w) (hsz : nm.size ≤ 9223372036854775807) (hm : d.may nm false = 0) (hr : k < 0 ∨ (had (d.get nm) : Int) < k) :
 Calls Tryz.prog 147 #[.pointer (some ⟨D, 0, none⟩), .string nm, .int .i64 k, .slice xa n xc] w fun e w' => e = .returned (.int .i64 2) ∧ w = w' := by
 obtain ⟨M, ns, pv, ps, h1, h2, h3⟩ := Sat.disk_open hs
 rcases may_ways d nm false with ⟨h, _⟩ | ⟨h, _⟩ | ⟨h, _⟩ | ⟨_, hn, hd, _⟩
 · rw [h] at hm; cases hm
 · rw [h] at hm; cases hm
 · rw [h] at hm; cases hm
 rcases nf_cases ns nm with ⟨l1, x, l2, rfl, rfl, h5⟩ | h5
 · have hg : had (d.get x.nm) = x.f.now.length := by unfold Dk.get; rw [← h1, fget_found h5]; rfl
   rw [hg] at hr
   have hmay := may_found D M l1 x l2 pv ps d false F w h3 h5 hsz hn hd
   rw [disk_file] at h3
   unfold fileA at h3
   have c0 := h3.c x.b 0
   obtain ⟨va, vc, hv, _, _⟩ := rw_vb (h3.take (rw TB 1 x.nv (bys x.f.now)))
   rw [hv] at c0
   clear hs h3 h1 h2 hg hv hm
   by_cases g1 : k < 0
   · have g1' : decide (k < 0) = true := by simpa using g1
     go_enter Tryz.func147, Tryz.ntmps147
     go_wp2_with (refine hmay.mono ?_; rintro e w' ⟨rfl, rfl⟩)
     go_ret
     exact ⟨rfl, rfl⟩
   · have g1' : decide (k < 0) = false := by simpa using g1
     have g3 : (x.f.now.length : Int) < k := by omega
     go_enter Tryz.func147, Tryz.ntmps147
     go_wp2_with (refine hmay.mono ?_; rintro e w' ⟨rfl, rfl⟩)
     go_ret
     exact ⟨rfl, rfl⟩
 · have hg : had (d.get nm) = 0 := by unfold Dk.get; rw [← h1, fget_none h5]; rfl
   rw [hg] at hr
   have hmay := may_none D M ns pv ps d nm F w h3 h5 hsz hn hd
   clear hs h3 h1 h2 hg hm
   by_cases g1 : k < 0
   · have g1' : decide (k < 0) = true := by simpa using g1
     go_enter Tryz.func147, Tryz.ntmps147
     go_wp2_with (refine hmay.mono ?_; rintro e w' ⟨rfl, rfl⟩)
     go_ret
     exact ⟨rfl, rfl⟩
   · have g1' : decide (k < 0) = false := by simpa using g1
     have g3 : (0 : Int) < k := by omega
     go_enter Tryz.func147, Tryz.ntmps147
     go_wp2_with (refine hmay.mono ?_; rintro e w' ⟨rfl, rfl⟩)
     go_ret
     exact ⟨rfl, rfl⟩
set_option maxRecDepth 100000 in
set_option maxHeartbeats 800000 in
theorem write_empty (D : Nat) (d : Dk) (nm : ByteArray) (k : Nat) (xa : Option Addr) (xc : Nat) (F : Assn) (w : World) (hs : Sat (diskP D d * F) w) (hsz : nm.size ≤ 9223372036854775807) (hm : d.may nm false = 0) (hr : k ≤ had (d.get nm)) :
 Calls Tryz.prog 147 #[.pointer (some ⟨D, 0, none⟩), .string nm, .int .i64 k, .slice xa 0 xc] w fun e w' => e = .returned (.int .i64 0) ∧ w = w' := by
 obtain ⟨M, ns, pv, ps, h1, h2, h3⟩ := Sat.disk_open hs
 rcases may_ways d nm false with ⟨h, _⟩ | ⟨h, _⟩ | ⟨h, _⟩ | ⟨_, hn, hd, _⟩
 · rw [h] at hm; cases hm
 · rw [h] at hm; cases hm
 · rw [h] at hm; cases hm
 rcases nf_cases ns nm with ⟨l1, x, l2, rfl, rfl, h5⟩ | h5
 · have hg : had (d.get x.nm) = x.f.now.length := by unfold Dk.get; rw [← h1, fget_found h5]; rfl
   rw [hg] at hr
   have hmay := may_found D M l1 x l2 pv ps d false F w h3 h5 hsz hn hd
   rw [disk_file] at h3
   unfold fileA at h3
   have c0 := h3.c x.b 0
   obtain ⟨va, vc, hv, _, _⟩ := rw_vb (h3.take (rw TB 1 x.nv (bys x.f.now)))
   rw [hv] at c0
   clear hs h3 h1 h2 hg hv hm
   have g3 : ¬ (x.f.now.length : Int) < k := by omega
   go_enter Tryz.func147, Tryz.ntmps147
   go_wp2_with (refine hmay.mono ?_; rintro e w' ⟨rfl, rfl⟩)
   go_ret
   exact ⟨rfl, rfl⟩
 · have hg : had (d.get nm) = 0 := by unfold Dk.get; rw [← h1, fget_none h5]; rfl
   rw [hg] at hr
   have hmay := may_none D M ns pv ps d nm F w h3 h5 hsz hn hd
   clear hs h3 h1 h2 hg hm
   have g3 : ¬ (0 : Int) < k := by omega
   go_enter Tryz.func147, Tryz.ntmps147
   go_wp2_with (refine hmay.mono ?_; rintro e w' ⟨rfl, rfl⟩)
   go_ret
   exact ⟨rfl, rfl⟩
set_option maxRecDepth 100000 in
set_option maxHeartbeats 1600000 in
theorem write_refused (D M : Nat) (ns : List Nf) (pv : Value) (ps : List Np) (d : Dk) (nm : ByteArray) (k : Nat) (xa : Option Addr) (n xc : Nat) (F : Assn) (w : World) (hs : Sat (diskA D M ns pv ps d * F) w) (hf : fents ns = d.files) (hlen : lens ns ≤ 17592186044416)
 (hsz : nm.size ≤ 9223372036854775807) (hn : named nm = true) (hd : d.down = false) (hr : k ≤ had (d.get nm)) (hb0 : 0 < n) (hb : n ≤ 1099511627776) (q : Int) (hq : d.fits (d.get nm) (max (had (d.get nm)) (k + n)) = q) :
 (q ≠ 0 → Calls Tryz.prog 147 #[.pointer (some ⟨D, 0, none⟩), .string nm, .int .i64 k, .slice xa n xc] w fun e w' => e = .returned (.int .i64 q) ∧ Sat (diskA D M ns pv ps d * F) w') ∧
 (q = 0 → d.stop = true → Calls Tryz.prog 147 #[.pointer (some ⟨D, 0, none⟩), .string nm, .int .i64 k, .slice xa n xc] w fun e w' => e = .returned (.int .i64 8) ∧ Sat (diskA D M ns pv ps { d with down := true } * F) w') := by
 have hb0' : ((n : Int) == 0) = false := by rw [beq_eq_false_iff_ne]; omega
 rcases nf_cases ns nm with ⟨l1, x, l2, rfl, rfl, h5⟩ | h5
 · have hg : d.get x.nm = some x.f := by unfold Dk.get; rw [← hf, fget_found h5]
   have hle : x.f.now.length ≤ 17592186044416 := by
    have : lens (l1 ++ x :: l2) = lens (x :: (l1 ++ l2)) := lens_perm List.perm_middle
    rw [this, lens_cons] at hlen; omega
   have hgh : had (d.get x.nm) = x.f.now.length := by rw [hg]; rfl
   rw [hgh] at hr hq
   rw [hg] at hq
   have HF : Aside (∀ z : Int, z = max (x.f.now.length : Int) ((k : Int) + (n : Int)) → Calls Tryz.prog 69 #[.pointer (some ⟨D, 0, none⟩), .pointer (some ⟨x.b, 0, none⟩), .int .i64 z] w fun e w' => e = .returned (.int .i64 q) ∧ Sat (diskA D M (l1 ++ x :: l2) pv ps d * F) w') := by
    rintro z rfl
    have := fits_some D M l1 x l2 pv ps d (max (x.f.now.length : Int) ((k : Int) + (n : Int))) F w hs hf (by omega) (by omega) (by omega)
    rw [hq] at this
    exact this
   have hmay := may_found D M l1 x l2 pv ps d false F w hs h5 hsz hn hd
   have c0 : w.cell? ⟨x.b, 0, none⟩ = some x.nv := by rw [disk_file] at hs; unfold fileA at hs; exact hs.c x.b 0
   obtain ⟨va, vc, hv, hv1, hv2⟩ : ∃ a c, x.nv = .slice a x.f.now.length c ∧ x.f.now.length ≤ c ∧ c ≤ 9223372036854775807 := by rw [disk_file] at hs; unfold fileA at hs; exact rw_vb (hs.take (rw TB 1 x.nv (bys x.f.now)))
   rw [hv] at c0
   have g3 : ¬ (x.f.now.length : Int) < k := by omega
   clear hs hf hlen hn hv hq hgh hg
   constructor
   · intro hqn
     have hqb : (q != 0) = true := by simpa using hqn
     clear hqn
     go_enter Tryz.func147, Tryz.ntmps147
     go_wp2_with fail
     refine hmay.mono ?_
     rintro e w' ⟨rfl, rfl⟩
     go_wp2_with (go_at_call 69; refine (HF.out _ ?_).mono ?_; omega; rintro e w1 ⟨rfl, hs1⟩)
     all_goals
      go_ret
      exact ⟨rfl, hs1⟩
   · rintro rfl hst
     go_enter Tryz.func147, Tryz.ntmps147
     go_wp2_with fail
     refine hmay.mono ?_
     rintro e w' ⟨rfl, rfl⟩
     go_wp2_with first
      | (go_at_call 69; refine (HF.out _ ?_).mono ?_; omega; rintro e w1 ⟨rfl, hs1⟩)
      | (go_at_call 149; refine (change_stop D M pv d _ _ (hs1.eq (by rw [disk_core, sep_assoc])) hst).mono ?_; rintro e w2 ⟨rfl, hs2⟩)
     all_goals
      go_ret
      exact ⟨rfl, hs2.eq (by rw [disk_core]; ac_rfl)⟩
 · have hg : d.get nm = none := by unfold Dk.get; rw [← hf, fget_none h5]
   have hgh : had (d.get nm) = 0 := by rw [hg]; rfl
   rw [hgh] at hr hq
   rw [hg] at hq
   have HF : Aside (∀ z : Int, z = max ((0 : Nat) : Int) ((k : Int) + (n : Int)) → Calls Tryz.prog 69 #[.pointer (some ⟨D, 0, none⟩), .pointer none, .int .i64 z] w fun e w' => e = .returned (.int .i64 q) ∧ Sat (diskA D M ns pv ps d * F) w') := by
    rintro z rfl
    have := fits_none D M ns pv ps d (max ((0 : Nat) : Int) ((k : Int) + (n : Int))) F w hs hf (by omega) (by omega) (by omega)
    rw [hq] at this
    exact this
   have hmay := may_none D M ns pv ps d nm F w hs h5 hsz hn hd
   have g3 : ¬ (0 : Int) < k := by omega
   clear hs hf hlen hn hq hgh hg
   constructor
   · intro hqn
     have hqb : (q != 0) = true := by simpa using hqn
     clear hqn
     go_enter Tryz.func147, Tryz.ntmps147
     go_wp2_with fail
     refine hmay.mono ?_
     rintro e w' ⟨rfl, rfl⟩
     go_wp2_with (go_at_call 69; refine (HF.out _ ?_).mono ?_; omega; rintro e w1 ⟨rfl, hs1⟩)
     all_goals
      go_ret
      exact ⟨rfl, hs1⟩
   · rintro rfl hst
     go_enter Tryz.func147, Tryz.ntmps147
     go_wp2_with fail
     refine hmay.mono ?_
     rintro e w' ⟨rfl, rfl⟩
     go_wp2_with first
      | (go_at_call 69; refine (HF.out _ ?_).mono ?_; omega; rintro e w1 ⟨rfl, hs1⟩)
      | (go_at_call 149; refine (change_stop D M pv d _ _ (hs1.eq (by rw [disk_core, sep_assoc])) hst).mono ?_; rintro e w2 ⟨rfl, hs2⟩)
     all_goals
      go_ret
      exact ⟨rfl, hs2.eq (by rw [disk_core]; ac_rfl)⟩
theorem write_any (D : Nat) (d : Dk) (m : Nat) (nm : ByteArray) (k : Int) (v : Value) (b : List UInt8) (B F : Assn) (w : World) (hB : Reads B v b) (hs : Sat (diskP D d * (B * F)) w) (hsz : nm.size ≤ 9223372036854775807) (hb : b.length ≤ 1099511627776) (ok : Ok m d) (hm' : m ≤ big) :
 Calls Tryz.prog 147 #[.pointer (some ⟨D, 0, none⟩), .string nm, .int .i64 k, v] w fun e w' => e = .returned (.int .i64 (d.write nm k b).1) ∧ Sat (diskP D (d.write nm k b).2 * (B * F)) w' := by
 have hbig : m ≤ 1099511627776 := hm'
 obtain ⟨xa, xc, rfl, hxc, hxm⟩ := (hB _ _ (hs.take B)).len
 by_cases hm : d.may nm false = 0
 · by_cases hr : k < 0 ∨ (had (d.get nm) : Int) < k
   · have e1 : d.write nm k b = (2, d) := by unfold Dk.write; rw [if_neg (by simp [hm]), if_pos hr]
     rw [e1]
     exact (write_range D d nm k xa b.length xc _ w hs hsz hm hr).mono fun e w' ⟨h1, h2⟩ => ⟨h1, h2 ▸ hs⟩
   obtain ⟨k, rfl⟩ := Int.eq_ofNat_of_zero_le (show 0 ≤ k by omega)
   have hr' : k ≤ had (d.get nm) := by omega
   by_cases hb0 : b.length = 0
   · have e1 : d.write nm k b = (0, d) := by unfold Dk.write; rw [if_neg (by simp [hm]), if_neg hr, if_pos hb0]
     rw [e1]
     have := write_empty D d nm k xa xc _ w hs hsz hm hr'
     rw [hb0]
     exact this.mono fun e w' ⟨h1, h2⟩ => ⟨h1, h2 ▸ hs⟩
   rcases may_ways d nm false with ⟨h, _⟩ | ⟨h, _⟩ | ⟨h, _⟩ | ⟨_, hn, hd, _⟩
   · rw [h] at hm; cases hm
   · rw [h] at hm; cases hm
   · rw [h] at hm; cases hm
   obtain ⟨M, ns, pv, ps, h1, h2, h3⟩ := Sat.disk_open hs
   have hlen := lens_ok ok h1
   have hpl : ps.length ≤ 1099511627776 := by have := ok.pend; rw [← h2] at this; simp [pents] at this; omega
   have href := write_refused D M ns pv ps d nm k xa b.length xc (B * F) w h3 h1 hlen hsz hn hd hr' (by omega) hb _ rfl
   by_cases hq : d.fits (d.get nm) (max (had (d.get nm)) ((k : Int) + b.length)) = 0
   · cases hst : d.stop with
     | true =>
       have e1 : d.write nm k b = (8, { d with down := true }) := by unfold Dk.write; rw [if_neg (by simp [hm]), if_neg hr, if_neg hb0, if_neg (by simp [hq]), if_pos hst]
       rw [e1]
       exact (href.2 hq hst).mono fun e w' ⟨h4, h5⟩ => ⟨h4, Sat.disk_shut (d := { d with down := true }) h1 h2 h5⟩
     | false =>
       have e1 : d.write nm k b = (0, d.written nm k b) := by unfold Dk.write; rw [if_neg (by simp [hm]), if_neg hr, if_neg hb0, if_neg (by simp [hq]), if_neg (by simp [hst])]; rfl
       rw [e1]
       rcases nf_cases ns nm with ⟨l1, x, l2, rfl, rfl, h5⟩ | h5
       · have hg : d.get x.nm = some x.f := by unfold Dk.get; rw [← h1, fget_found h5]
         have hgh : had (d.get x.nm) = x.f.now.length := by rw [hg]; rfl
         rw [hgh] at hr' hq
         rw [hg] at hq
         have hx : x.f.now.length ≤ 1099511627776 := (ok.sz (x.nm, x.f) (by rw [← h1]; simp [fents])).1
         refine (wrote_found D M l1 x l2 pv ps d k _ b B F w hB h3 h5 h1 (by omega) hsz hn hd hr' (by omega) hb hx hpl hq hst (by have := ok.left; omega) ok.left.2 ok.changes.1 (by have := ok.changes; omega)).mono ?_
         rintro e w' ⟨nv, pv', qs, rfl, h6, h7⟩
         refine ⟨rfl, ?_⟩
         have e2 : (d.written x.nm k b).files = fput x.nm { x.f with now := laid x.f.now k b } d.files := by unfold Dk.written; rw [hg]; rfl
         refine Sat.disk_shut (M := M) (ns := l1 ++ { x with f := { x.f with now := laid x.f.now k b }, nv := nv } :: l2) (pv := pv') (ps := ps ++ qs) ?_ ?_ ?_
         · rw [e2, ← h1, fput_found _ h5]; simp [fents]
         · show pents (ps ++ qs) = d.pend ++ sect x.nm k b
           rw [← h2, ← h6]; simp [pents]
         · refine h7.eq ?_
           have e3 : coreD D M pv' (d.written x.nm k b) = coreD D M pv' d.ticked := rfl
           rw [disk_core, e3, filesA_append, filesA]
           have e4 : (l1 ++ { x with f := { x.f with now := laid x.f.now k b }, nv := nv } :: l2).map kvF = (l1 ++ x :: l2).map kvF := by simp [kvF]
           rw [e4]
           ac_rfl
       · have hg : d.get nm = none := by unfold Dk.get; rw [← h1, fget_none h5]
         have hgh : had (d.get nm) = 0 := by rw [hg]; rfl
         rw [hgh] at hr' hq
         rw [hg] at hq
         refine (wrote_none D M ns nm pv ps d k _ b B F w hB h3 h5 h1 (by omega) hsz hn hd hr' (by omega) hb hpl hq hst (by have := ok.left; omega) ok.left.2 ok.changes.1 (by have := ok.changes; omega)).mono ?_
         rintro e w' ⟨xb, nv, pv', qs, rfl, h6, h7⟩
         refine ⟨rfl, ?_⟩
         have e2 : (d.written nm k b).files = fput nm ⟨laid [] k b, [], false⟩ d.files := by unfold Dk.written; rw [hg]; rfl
         refine Sat.disk_shut (M := M) (ns := ns ++ [⟨xb, nm, ⟨laid [] k b, [], false⟩, nv, .slice none 0 0⟩]) (pv := pv') (ps := ps ++ qs) ?_ ?_ ?_
         · rw [e2, ← h1, fput_none _ h5]; simp [fents]
         · show pents (ps ++ qs) = d.pend ++ sect nm k b
           rw [← h2, ← h6]; simp [pents]
         · have e5 := mput_noneF (n' := ⟨xb, nm, ⟨laid [] k b, [], false⟩, nv, .slice none 0 0⟩) h5
           rw [e5] at h7
           refine h7.eq ?_
           have e3 : coreD D M pv' (d.written nm k b) = coreD D M pv' d.ticked := rfl
           rw [disk_core, e3, filesA_append, filesA, filesA, sep_one]
           ac_rfl
   · have e1 : d.write nm k b = (d.fits (d.get nm) (max (had (d.get nm)) ((k : Int) + b.length)), d) := by unfold Dk.write; rw [if_neg (by simp [hm]), if_neg hr, if_neg hb0, if_pos hq]
     rw [e1]
     exact (href.1 hq).mono fun e w' ⟨h4, h5⟩ => ⟨h4, Sat.disk_shut h1 h2 h5⟩
 · have e1 : d.write nm k b = (d.may nm false, d) := by unfold Dk.write; rw [if_pos hm]
   rw [e1]
   obtain ⟨M, ns, pv, ps, h1, h2, h3⟩ := Sat.disk_open hs
   have hmay := may_bad D M ns pv ps d nm false (B * F) w h3 h1 hsz hm
   have hbb : (d.may nm false != 0) = true := by simpa using hm
   clear h3 h1 h2 e1 hm ok
   generalize d.may nm false = q at *
   go_enter Tryz.func147, Tryz.ntmps147
   go_wp2_with (refine hmay.mono ?_; rintro e w' ⟨rfl, rfl⟩)
   go_ret
   exact ⟨rfl, hs⟩
end Go.Proofs.YtfhbmblbidcmmaaGreat
