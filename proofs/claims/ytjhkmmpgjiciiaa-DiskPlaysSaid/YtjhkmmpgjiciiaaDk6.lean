/-
  Walks of package disk: Cut, Load.
-/
import Derived.Test.YtjhkmmpgjiciiaaDk5
namespace Go.Proofs.Ytjhkmmpgjiciiaa
set_option linter.unusedSimpArgs false
set_option linter.unusedVariables false
open Go.RowKit Go.Sl Go.Dk
attribute [local go_sem ↓] Go.wp_at_zero Go.wp_at_succ

theorem piecesA_snoc (ps : List Np) (x : Np) : piecesA (ps ++ [x]) = piecesA ps * pieceA x := by rw [piecesA_append]; simp [piecesA, sep_one]
theorem pieceA_cut (v : Value) (nm : ByteArray) (k : Nat) (hv : v = .slice none 0 0) : pieceA ⟨v, ⟨nm, k, none⟩⟩ = 1 := by
  subst hv
  funext h
  apply propext
  show (_ ∧ emp h) ↔ emp h
  exact ⟨fun h => h.2, fun h => ⟨rfl, h⟩⟩

/-- the struct but for its row of pieces -/
def coreX (D M : Nat) (d : Dk) : Assn :=
  hdr D TD 7 * (Sl.cell D 0 (.int .i64 d.room) * (Sl.cell D 1 (.int .i64 d.changes) * (Sl.cell D 2 (.int .i64 d.left) * (Sl.cell D 3 (.bool d.armed) * (Sl.cell D 4 (.bool d.down) * Sl.cell D 5 (.map (some M)))))))
theorem coreD_x (D M : Nat) (pv : Value) (d : Dk) : coreD D M pv d = Sl.cell D 6 pv * coreX D M d := by unfold coreD coreX; ac_rfl
theorem coreX_eq {D M : Nat} {d d' : Dk} (h1 : d'.room = d.room) (h2 : d'.changes = d.changes) (h3 : d'.left = d.left) (h4 : d'.armed = d.armed) (h5 : d'.down = d.down) : coreX D M d' = coreX D M d := by
  unfold coreX; rw [h1, h2, h3, h4, h5]

set_option maxRecDepth 100000 in
set_option maxHeartbeats 800000 in
theorem cut_any (D : Nat) (d : Dk) (m : Nat) (nm : ByteArray) (n : Int) (F : Assn) (w : World) (hs : Sat (diskP D d * F) w) (hsz : nm.size ≤ 9223372036854775807) (ok : Ok m d) (hm' : m ≤ big) :
    Calls Try.prog 47 #[.pointer (some ⟨D, 0, none⟩), .string nm, .int .i64 n] w fun e w' => e = .returned (.int .i64 (d.cut nm n).1) ∧ Sat (diskP D (d.cut nm n).2 * F) w' := by
  have hbig : m ≤ 1099511627776 := hm'
  by_cases hm : d.may nm true = 0
  · obtain ⟨M, l1, x, l2, pv, ps, rfl, h1, h2, h3, h4, h5, h6, hs1⟩ := file_there hs hm (may_some hm)
    have hmay := may_found D M l1 x l2 pv ps d true F w hs1 h1 hsz h4 h5
    have hhad : had (d.get x.nm) = x.f.now.length := by rw [h6]; rfl
    have hs0 := hs1
    rw [disk_file] at hs0
    unfold fileA at hs0
    have c0 := hs0.c x.b 0
    obtain ⟨va, vc, hv, hv1, hv2⟩ := rw_vb (hs0.take (rw TB 1 x.nv (bys x.f.now)))
    rw [hv] at c0
    clear hs0
    by_cases hr : n < 0 ∨ (x.f.now.length : Int) < n
    · have e1 : d.cut x.nm n = (2, d) := by unfold Dk.cut; rw [if_neg (by simp [hm]), hhad, if_pos hr]
      rw [e1]
      clear hs1 hm h2 h3 h4 h5 h6 e1 hv hhad ok
      by_cases g1 : n < 0
      · have g1' : decide (n < 0) = true := by simpa using g1
        go_enter Try.func47, Try.ntmps47
        go_wp2_with (refine hmay.mono ?_; rintro e w' ⟨rfl, rfl⟩)
        go_ret
        exact ⟨rfl, hs⟩
      · have g1' : decide (n < 0) = false := by simpa using g1
        have g3 : (x.f.now.length : Int) < n := by omega
        go_enter Try.func47, Try.ntmps47
        go_wp2_with (refine hmay.mono ?_; rintro e w' ⟨rfl, rfl⟩)
        go_ret
        exact ⟨rfl, hs⟩
    · obtain ⟨n, rfl⟩ := Int.eq_ofNat_of_zero_le (show 0 ≤ n by omega)
      have g1 : ¬ (x.f.now.length : Int) < n := by omega
      cases hst : d.stop with
      | true =>
        have e1 : d.cut x.nm n = (8, { d with down := true }) := by unfold Dk.cut; rw [if_neg (by simp [hm]), hhad, if_neg hr, if_pos hst]
        rw [e1]
        have hch := change_stop D M pv d _ w (hs1.eq (by rw [disk_core, sep_assoc])) hst
        have HH : Aside (fents (l1 ++ x :: l2) = d.files ∧ pents ps = d.pend) := ⟨h2, h3⟩
        clear hs hm h2 h3 h4 h5 h6 e1 hs1 hst ok hhad hv hr
        go_enter Try.func47, Try.ntmps47
        go_wp2_with fail
        refine hmay.mono ?_
        rintro e w' ⟨rfl, rfl⟩
        go_wp2_with fail
        refine hch.mono ?_
        rintro e w1 ⟨rfl, hs1⟩
        go_wp2
        go_ret
        refine ⟨rfl, Sat.disk_shut (M := M) (pv := pv) (d := { d with down := true }) HH.out.1 HH.out.2 (hs1.eq ?_)⟩
        rw [disk_core]
        ac_rfl
      | false =>
        have e1 : d.cut x.nm n = (0, { d.ticked.put x.nm { x.f with now := x.f.now.take n } with pend := d.pend ++ [⟨x.nm, n, none⟩] }) := by
          unfold Dk.cut; rw [if_neg (by simp [hm]), hhad, if_neg hr, if_neg (by simp [hst]), h6]; rfl
        rw [e1]
        have hpl : ps.length ≤ 1099511627776 := by have := ok.pend; rw [← h3] at this; simp [pents] at this; omega
        have hch := change_go D M pv d _ w (hs1.eq (by rw [disk_core, sep_assoc])) hst (by have := ok.left; omega) ok.left.2 ok.changes.1 (by have := ok.changes; omega)
        have HH : Aside (fents (l1 ++ x :: l2) = d.files ∧ pents ps = d.pend ∧ (∀ m ∈ l1, m.nm ≠ x.nm) ∧ x.nv = .slice va x.f.now.length vc) := ⟨h2, h3, h1, hv⟩
        obtain ⟨i0, E⟩ := elemB
        obtain ⟨i1, E1⟩ := elemP
        have hcut := at_to (P := Try.prog) E (a := va) (n := x.f.now.length) (c := vc) n (by omega)
        clear hs hm h2 h3 h4 h5 h6 e1 hs1 hst ok hhad hv hr
        go_enter Try.func47, Try.ntmps47
        go_wp2_with fail
        refine hmay.mono ?_
        rintro e w' ⟨rfl, rfl⟩
        go_wp2_with fail
        refine hch.mono ?_
        rintro e w1 ⟨rfl, hs1⟩
        clear hmay hch c0
        have hs2 : Sat (fileA x * (restD D M l1 x l2 pv ps d.ticked * F)) w1 := hs1.eq (by rw [← sep_assoc (fileA x), ← disk_file, disk_core]; ac_rfl)
        clear hs1
        have hs3 : Sat (rw TB 1 (.slice va x.f.now.length vc) (bys x.f.now) * (hdr x.b TF 3 * (Sl.cell x.b 0 (.slice va x.f.now.length vc) * (Sl.cell x.b 1 x.sv * (Sl.cell x.b 2 (.bool x.f.sure) * (rw TB 1 x.sv (bys x.f.safe) * (restD D M l1 x l2 pv ps d.ticked * F))))))) w1 := hs2.eq (by unfold fileA; rw [HH.out.2.2.2]; ac_rfl)
        have hs4 := (hs3.rw_cut n (by omega))
        rw [Nat.mul_one, ← bys_take] at hs4
        have c0 := hs3.c x.b 0
        have f0 := hs3.f x.b 0
        have hs5 := hs4.upd x.b 0 (.slice (cutA va vc 0 1) n vc)
        unfold restD pendA at hs5
        rw [coreD_x] at hs5
        have c6 := hs5.c D 6
        have f6 := hs5.f D 6
        obtain ⟨pa, pn, pc, hpv, hpl2, hpc, hpm⟩ := rw_v (hs5.take (rw TP 3 pv (prows ps)))
        rw [prows_len] at hpl2
        obtain rfl : ps.length = pn := by omega
        have HV : Aside (pv = .slice pa ps.length pc) := hpv
        rw [hpv] at c6
        have hs6 := hs5.alloc #[.string x.nm, .int .i64 n, .slice none 0 0] TP
        rw [hpv] at hs6
        have e0 : (w1.setCell ⟨x.b, 0, none⟩ (.slice (cutA va vc 0 1) n vc)).heap.size = w1.heap.size := by simp
        rw [e0] at hs6
        have hsrc := Src.new (P := Try.prog) (s := 3) hs6 rfl (by intro u hu; simp at hu; rcases hu with rfl | rfl | rfl <;> rfl)
        have hs7 := hs6.take (rw TP 3 (.slice pa ps.length pc) (prows ps))
        have hD : D < w1.heap.size := by rw [← e0]; exact World.block_lt_of_cell? _ _ c6
        clear e0 hs2 hs3 hs4 hs5 hs6 hpl2 hpv
        go_wp2_with (at_builtin; refine wpl_append_same E1 rfl (.tmp 47) (.tmp 51) rfl rfl rfl hs7 hsrc (by unfold maxLen; omega) (by omega) ?_; intro a' c' w2 hs8 hnil; have k6 := hs8.c D 6; have g6 := hs8.f D 6; have hs9 := hs8.upd D 6 (.slice a' (ps.length + 1) c'); clear hs7 hsrc hnil hs8)
        go_ret
        refine ⟨rfl, ?_⟩
        obtain ⟨g1, g2, g3, g4⟩ := HH.out
        have e5 : fents (l1 ++ { x with f := { x.f with now := x.f.now.take n }, nv := .slice (cutA va vc 0 1) n vc } :: l2) = fput x.nm { x.f with now := x.f.now.take n } d.files := by
          rw [← g1, fput_found _ g3]
          simp [fents]
        refine Sat.disk_shut (M := M) (ns := l1 ++ { x with f := { x.f with now := x.f.now.take n }, nv := .slice (cutA va vc 0 1) n vc } :: l2) (pv := .slice a' (ps.length + 1) c') (ps := ps ++ [⟨.slice none 0 0, ⟨x.nm, n, none⟩⟩]) e5 (by rw [← g2]; simp [pents]) ?_
        refine Sat.weak (B := block w1.heap.size TP [.string x.nm, .int .i64 n, .slice none 0 0]) (hs9.eq ?_)
        rw [disk_file]
        have e6 : ∀ (x' : Nf) (dd : Dk) (v : Value) (q : List Np), x'.b = x.b → x'.nm = x.nm → restD D M l1 x' l2 v q dd = restD D M l1 x l2 v q dd := fun x' dd v q hb hn => restD_at hb.symm hn.symm
        rw [e6]
        · unfold restD pendA fileA
          rw [piecesA_snoc, pieceA_cut _ _ _ rfl, sep_one, prows_append, coreD_x, coreX_eq (d := d.ticked) rfl rfl rfl rfl rfl]
          have e7 : prows [(⟨.slice none 0 0, ⟨x.nm, n, none⟩⟩ : Np)] = [.string x.nm, .int .i64 n, .slice none 0 0] := rfl
          rw [e7]
          dsimp only
          ac_rfl
        · rfl
        · rfl
  · have e1 : d.cut nm n = (d.may nm true, d) := by unfold Dk.cut; rw [if_pos hm]
    rw [e1]
    obtain ⟨M, ns, pv, ps, h1, h2, h3⟩ := Sat.disk_open hs
    have hmay := may_bad D M ns pv ps d nm true F w h3 h1 hsz hm
    have hb : (d.may nm true != 0) = true := by simpa using hm
    clear h3 h1 h2 e1 hm ok
    generalize d.may nm true = q at *
    go_enter Try.func47, Try.ntmps47
    go_wp2_with (refine hmay.mono ?_; rintro e w' ⟨rfl, rfl⟩)
    go_ret
    exact ⟨rfl, hs⟩

end Go.Proofs.Ytjhkmmpgjiciiaa
