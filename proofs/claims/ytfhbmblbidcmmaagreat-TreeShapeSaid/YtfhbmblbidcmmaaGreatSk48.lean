/-
  Of all roots that are made the pages are a tree in the form of the document, and just these are told, and each is in use. No condition. (part 48)
-/
import Derived.Test.YtfhbmblbidcmmaaGreatSk46
import Derived.Test.YtfhbmblbidcmmaaGreatSk47
set_option linter.unusedSimpArgs false
set_option linter.unusedVariables false
namespace Go.Proofs.YtfhbmblbidcmmaaGreat
set_option linter.unusedSimpArgs false
set_option linter.unusedVariables false
open Go.RowKit Go.Sl Go.Dk Go.Tr
attribute [local go_sem ↓] Go.wp_at_zero Go.wp_at_succ
attribute [local go_sem] Go.Sl.cell_sat Go.Sl.frozen_sat
theorem store2 {b T : Nat} {a0 a1 v0 v1 : Value} {F : Assn} {w : World} (hs : Sat (Sl.block b T [a0, a1] * F) w) : Sat (Sl.block b T [v0, v1] * F) ((w.setCell ⟨b, 0, none⟩ v0).setCell ⟨b, 1, none⟩ v1) := by
 haveI := hs.i
 exact satI_eq (by rfl)
instance (priority := 28000) store2I {A R : Assn} {b T : Nat} {a0 a1 v0 v1 : Value} {w : World} [h : SatI A w] [t : TakeB A b T [a0, a1] R] :
 SatI (Sl.block b T [v0, v1] * R) ((w.setCell ⟨b, 0, none⟩ v0).setCell ⟨b, 1, none⟩ v1) := ⟨store2 (h.out.eq t.out)⟩
theorem sep_swap (A B C : Assn) : A * (B * C) = B * (A * C) := by ac_rfl
theorem keep10 {A R1 R2 R3 R4 R5 R6 R7 R8 R9 R10 : Assn} {w : World} [h : SatI A w] (X1 X2 X3 X4 X5 X6 X7 X8 X9 X10 : Assn) [t1 : Take A X1 R1] [t2 : Take R1 X2 R2] [t3 : Take R2 X3 R3] [t4 : Take R3 X4 R4] [t5 : Take R4 X5 R5] [t6 : Take R5 X6 R6] [t7 : Take R6 X7 R7] [t8 : Take R7 X8 R8] [t9 : Take R8 X9 R9] [t10 : Take R9 X10 R10] : Sat (X1 * (X2 * (X3 * (X4 * (X5 * (X6 * (X7 * (X8 * (X9 * X10))))))))) w := Sat.weak (B := R10) ((h.out.take3 X1 X2 X3).eq (by rw [t4.out, t5.out, t6.out, t7.out, t8.out, t9.out, t10.out]; ac_rfl))
theorem keep11 {A R1 R2 R3 R4 R5 R6 R7 R8 R9 R10 R11 : Assn} {w : World} [h : SatI A w] (X1 X2 X3 X4 X5 X6 X7 X8 X9 X10 X11 : Assn) [t1 : Take A X1 R1] [t2 : Take R1 X2 R2] [t3 : Take R2 X3 R3] [t4 : Take R3 X4 R4] [t5 : Take R4 X5 R5] [t6 : Take R5 X6 R6] [t7 : Take R6 X7 R7] [t8 : Take R7 X8 R8] [t9 : Take R8 X9 R9] [t10 : Take R9 X10 R10] [t11 : Take R10 X11 R11] : Sat (X1 * (X2 * (X3 * (X4 * (X5 * (X6 * (X7 * (X8 * (X9 * (X10 * X11)))))))))) w := Sat.weak (B := R11) ((h.out.take3 X1 X2 X3).eq (by rw [t4.out, t5.out, t6.out, t7.out, t8.out, t9.out, t10.out, t11.out]; ac_rfl))
theorem buildR_bad {l : List Ent} (h : (buildR l).1 ≠ 0) : (buildR l).2 = [] := by
 unfold buildR at h ⊢
 by_cases hm : mayList l = false
 · rw [if_pos hm]
 · rw [if_neg hm] at h ⊢
   by_cases hj : 1024 < (join l).length
   · rw [if_pos hj]
   · rw [if_neg hj] at h; exact absurd rfl h
variable [TopN]
set_option maxRecDepth 100000 in
set_option maxHeartbeats 6400000 in
theorem does_build1 (h : Th) (s : TS) (mb b : Nat) (a1 : Option Addr) (c1 : Nat) (a2 : Option Addr) (c2 : Nat) (ms : List (Int × List Ent)) (vs : List Value) (G : Assn) (k f at_ n : Int) (put : List Ent) (v : Value) (Bp F : Assn) (w : World)
 (hk : k = 1) (hP : Played s ms vs G) (hn0 : 0 < ms.length) (hn1 : ms.length ≤ 64) (hI : TInv true s) (hf : 10000 ≤ leftOps s) (hrm : 10000 ≤ roomOf s.sp) (hE : ReadsE Bp v put) (hpl : put.length ≤ 60)
 (hs : Sat (treeP h s * (G * (madeA mb a1 c1 a2 c2 ms.length (rootC ms) vs * (benchA b h * (Bp * F))))) w) :
 Calls Tryz.prog 48 #[.pointer (some ⟨mb, 0, none⟩), .pointer (some ⟨b, 0, none⟩), .agg #[.int .i64 k, .int .i64 f, .int .i64 at_, .int .i64 n, v]] w (DoesOut h s mb b ms.length Bp F) := by
 obtain ⟨nm, hnm⟩ : ∃ m, ms.length = m := ⟨_, rfl⟩
 have HNM : Aside (ms.length = nm) := hnm
 obtain ⟨j, hj, hjn⟩ : ∃ j : Nat, f % (ms.length : Int) = (j : Int) ∧ j < ms.length := ⟨(f % (ms.length : Int)).toNat, by have := Int.emod_nonneg f (show (ms.length : Int) ≠ 0 by omega); omega, by have := Int.emod_lt_of_pos f (show 0 < (ms.length : Int) by omega); omega⟩
 obtain ⟨vj, r, l, hv, hr, hle, hrt, hg, -⟩ := hP.at hjn
 obtain ⟨al, cl, rfl, hl1, hl2⟩ := hle.v
 obtain ⟨rs, hrs⟩ : ∃ x, rootC ms = x := ⟨_, rfl⟩
 have HPL : Aside (Played s ms vs G) := hP
 have HL : Aside (ReadsE G (.slice al l.length cl) l ∧ Rt (nodeAt s) r l ∧ GoodL l) := ⟨hle, hrt, hg⟩
 have HRS : Aside (rootC ms = rs) := hrs
 have HE : Aside (ReadsE Bp v put ∧ put.length ≤ 60) := ⟨hE, hpl⟩
 have HLT : Aside (∀ (F : Assn) (w : World), Sat (Bp * F) w → Calls Tryz.prog 113 #[v] w fun e w' => ∃ g c, e = .returned (.slice (some ⟨g, 0, none⟩) put.length c) ∧ Sat (lentA g c put * (Bp * F)) w') := fun F w h => lent_any put v Bp F w hE h (by omega)
 rw [hrs, hnm] at hs
 rw [hrs] at hr
 rw [hnm] at hj hjn hn0 hn1 ⊢
 haveI : At rs j (.int .i64 r) := ⟨hr⟩
 haveI : At vs j (.slice al l.length cl) := ⟨hv⟩
 have hgl := hg.1.2.2
 obtain ⟨nl, hnl⟩ : ∃ z, l.length = z := ⟨_, rfl⟩
 have HZ : Aside (l.length = nl) := hnl
 rw [hnl] at hl1 hgl
 unfold madeA benchA at hs
 have q0 : Sat (treeP h s * (G * (Sl.block mb TMd [.slice a1 nm c1, .slice a2 nm c2] * (rw TIn 1 (.slice a1 nm c1) rs * (rw TLe 1 (.slice a2 nm c2) vs * (Sl.block b TBe [.pointer (some ⟨h.D, 0, none⟩), .pointer (some ⟨h.C, 0, none⟩), .pointer (some ⟨h.S, 0, none⟩), .pointer (some ⟨h.t, 0, none⟩)] * (Bp * F))))))) w := hs.eq (by ac_rfl)
 have hjlt : (j : Int) < nm := by omega
 have hj0 : (0 : Int) ≤ j := by omega
 obtain ⟨g1, rfl⟩ := row_some (hs := q0.take (rw TIn 1 (.slice a1 nm c1) rs)) (by omega)
 obtain ⟨g2, rfl⟩ := row_some (hs := q0.take (rw TLe 1 (.slice a2 nm c2) vs)) (by omega)
 have hqr : ∀ g w, (Sem.run Tryz.prog (Instr.indexAt 45 (Value.slice (some ⟨g, 0, none⟩) nm c1) (Value.int IntKind.i64 j)) w) = .ok (.pointer (some ⟨g, j, none⟩)) w := by
  intro g w
  simp [go_sem, *]
 have HFIN : Aside (∀ (w' : World) (s' : TS) (Gn : Assn) (a3 a4 a5 : Option Addr) (c3 c4 c5 : Nat) (r' : Int) (out : List Ent), Nxt s s' 3000 2600 → ReadsE (Gn * G) (.slice a5 out.length c5) out → Rt (nodeAt s') r' out → GoodL out →
  Sat (treeP h s' * (Gn * (G * (Sl.block mb TMd [.slice a3 (nm + 1) c3, .slice a4 (nm + 1) c4] * (rw TIn 1 (.slice a3 (nm + 1) c3) (rs ++ [.int .i64 r']) * (rw TLe 1 (.slice a4 (nm + 1) c4) (vs ++ [.slice a5 out.length c5]) * (Sl.block b TBe [.pointer (some ⟨h.D, 0, none⟩), .pointer (some ⟨h.C, 0, none⟩), .pointer (some ⟨h.S, 0, none⟩), .pointer (some ⟨h.t, 0, none⟩)] * (Bp * F)))))))) w' → DoesOut h s mb b nm Bp F (.returned (.bool true)) w') := fun w' s' Gn a3 a4 a5 c3 c4 c5 r' out nx k1 k2 k3 q => by
  refine ⟨s', a3, c3, a4, c4, ms ++ [(r', out)], vs ++ [.slice a5 out.length c5], Gn * G, rfl, ?_, HPL.out.more nx.le k1 k2 k3, ?_, ?_, nx⟩
  · have e1 : (ms ++ [(r', out)]).length = nm + 1 := by rw [List.length_append, HNM.out]; rfl
    have e2 : rootC (ms ++ [(r', out)]) = rs ++ [.int .i64 r'] := by rw [← HRS.out]; simp [rootC]
    rw [e1, e2]
    unfold madeA benchA
    exact q.eq (by ac_rfl)
  · rw [List.length_append, HNM.out]; omega
  · rw [List.length_append, HNM.out]; exact Nat.le_refl _
 have hbd := fun g c F w (h1 : Sat (treeP h s * (lentA g c put * F)) w) => bld_any h s put (.slice (some ⟨g, 0, none⟩) put.length c) (lentA g c put) F w (lent_reads (h1.eq (sep_swap _ _ _))).1 h1 hI (by omega) (by omega) (by omega)
 have hrb := fun g c F w (h1 : Sat (lentA g c put * F) w) => rbuild_any put (.slice (some ⟨g, 0, none⟩) put.length c) (lentA g c put) F w (lent_reads h1).1 h1 (by omega)
 have hkp := fun g c F w (h1 : Sat (lentA g c put * (Bp * F)) w) => kept_any put g c v Bp F w HE.out.1 h1 (by have := HE.out.2; omega)
 have e1 : (k == 1) = true := by simp [hk]
 have e2 : (k == 2) = false := by simp [hk]
 clear hk
 clear hle hrt hg hP hs hrs hnm hr hv hE hnl
 go_enter Tryz.func48, Tryz.ntmps48
 haveI := q0.i
 go_wp2_with fail
 obtain ⟨N, hN⟩ : ∃ N, w.heap.size = N := ⟨_, rfl⟩
 have q1 : Sat (treeP h s * (G * (Sl.block N TOp [.int .i64 k, .int .i64 f, .int .i64 at_, .int .i64 n, v] * (Sl.block mb TMd [.slice (some ⟨g1, 0, none⟩) nm c1, .slice (some ⟨g2, 0, none⟩) nm c2] * (rw TIn 1 (.slice (some ⟨g1, 0, none⟩) nm c1) rs * (rw TLe 1 (.slice (some ⟨g2, 0, none⟩) nm c2) vs * (Sl.block b TBe [.pointer (some ⟨h.D, 0, none⟩), .pointer (some ⟨h.C, 0, none⟩), .pointer (some ⟨h.S, 0, none⟩), .pointer (some ⟨h.t, 0, none⟩)] * (Bp * F)))))))) (w.alloc (.cells #[.int .i64 k, .int .i64 f, .int .i64 at_, .int .i64 n, v] TOp)) := by
  rw [← hN]
  show Sat (_ * (_ * (Sl.block w.heap.size TOp [.int .i64 k, .int .i64 f, .int .i64 at_, .int .i64 n, v] * _))) _
  exact satI_eq (by ac_rfl)
 try rw [hN]
 generalize w.alloc (.cells #[.int .i64 k, .int .i64 f, .int .i64 at_, .int .i64 n, v] TOp) = w0 at q1 ⊢
 clear hN q0 this
 haveI := q1.i
 go_region_held3 (fun w' => w'.cell? ⟨N, 1, none⟩ = some (.int .i64 f) ∧ w'.cell? ⟨mb, 0, none⟩ = some (.slice (some ⟨g1, 0, none⟩) nm c1)) (first | exact ⟨cell_sat _ _ _, cell_sat _ _ _⟩) (first | (go_at_call 21; refine (pick_any f nm _ (by omega) (by omega)).mono ?_; rintro e w9 ⟨rfl, rfl⟩))
 go_wp2_with fail
 go_region
 go_wp2_with fail
 with_reducible refine Calls.mono (HLT.out _ _ (takeI Bp)) ?_
 rintro e w2 ⟨gp, cp, rfl, q2⟩
 haveI := q2.i
 clear q1
 obtain ⟨lst, hlst⟩ : ∃ l, put = l := ⟨_, rfl⟩
 rw [hlst] at hbd hrb hkp q2 ⊢
 obtain ⟨g, hg'⟩ : ∃ x, gp = x := ⟨_, rfl⟩
 obtain ⟨c, hc'⟩ : ∃ x, cp = x := ⟨_, rfl⟩
 subst hg' hc'
 have hbd2 := hbd gp cp
 have hrb2 := hrb gp cp
 have hbad := @buildR_bad lst
 have hgood := @buildR_good lst
 obtain ⟨⟨cd, out⟩, hbr⟩ : ∃ x, buildR lst = x := ⟨_, rfl⟩
 rw [hbr] at hbd2 hrb2 hbad hgood
 simp only at hbd2 hbad hgood
 clear hbd hrb
 haveI := q2.i
 go_wp2_with fail
 with_reducible refine Calls.mono (hbd2 _ _ (takeI2 (treeP h s) (lentA gp cp lst))) ?_
 rintro e w3 ⟨r', s1, rfl, q3, nx1, hrt1, hr0⟩
 unfold vi2
 have hRG : Rt (nodeAt s1) r' out ∧ GoodL out := by
  by_cases hcd : cd = 0
  · exact ⟨hrt1 hcd, hgood hcd⟩
  · rw [hbad hcd, hr0 hcd]
    exact ⟨.inl ⟨rfl, rfl⟩, good_nil⟩
 have hz := rt_zero hRG.1
 obtain ⟨no, hno⟩ : ∃ x, out.length = x := ⟨_, rfl⟩
 have hz2 : r' = 0 ↔ no = 0 := by rw [hz, ← hno, List.length_eq_zero_iff]
 have HRG : Aside (Rt (nodeAt s1) r' out ∧ GoodL out ∧ Nxt s s1 0 2048 ∧ out.length = no) := ⟨hRG.1, hRG.2, nx1, hno⟩
 have hr1 : Aside (cd ≠ 0 → r' = 0) := hr0
 haveI := q3.i
 clear q2 hbd2 hbad hgood hrt1 hr0 hz hbr nx1 hRG
 go_wp2_with fail
 with_reducible refine Calls.mono (hrb2 _ _ (takeI (lentA gp cp lst))) ?_
 rintro e w4 hLC
 obtain ⟨a5, c5, Gn, rfl, hRd, q4⟩ := hLC
 have HRD : Aside (ReadsE (Gn * lentA gp cp lst) (.slice a5 out.length c5) out) := hRd
 simp only at q4 ⊢
 rw [hno]
 haveI := q4.i
 clear q3 hrb2 hRd hno
 have HFIN2 : Aside (∀ (w' : World) (a3 a4 : Option Addr) (c3 c4 : Nat), Sat (treeP h s1 * (Gn * (lentA gp cp lst * (G * (Sl.block mb TMd [.slice a3 (nm + 1) c3, .slice a4 (nm + 1) c4] * (rw TIn 1 (.slice a3 (nm + 1) c3) (rs ++ [.int .i64 r']) * (rw TLe 1 (.slice a4 (nm + 1) c4) (vs ++ [.slice a5 no c5]) * (Sl.block b TBe [.pointer (some ⟨h.D, 0, none⟩), .pointer (some ⟨h.C, 0, none⟩), .pointer (some ⟨h.S, 0, none⟩), .pointer (some ⟨h.t, 0, none⟩)] * (Bp * F))))))))) w' → DoesOut h s mb b nm Bp F (.returned (.bool true)) w') := fun w' a3 a4 c3 c4 q => by
  have hq := HFIN.out w' s1 (Gn * lentA gp cp lst) a3 a4 a5 c3 c4 c5 r' out (HRG.out.2.2.1.more (by omega) (by omega)) (ReadsR.left HRD.out) HRG.out.1 HRG.out.2.1
  rw [HRG.out.2.2.2] at hq
  exact hq (q.eq (by ac_rfl))
 obtain ⟨iR, ER⟩ := elemIS
 obtain ⟨iL, EL⟩ := elemEs
 clear HFIN
 go_upto_region 24 with (fail)
 go_cut [200] (fun t200 wx => t200 = .bool false ∧ Sat (treeP h s1 * (Gn * (lentA gp cp lst * (G * (Sl.block N TOp [.int .i64 k, .int .i64 f, .int .i64 at_, .int .i64 n, v] * (Sl.block mb TMd [.slice (some ⟨g1, 0, none⟩) nm c1, .slice (some ⟨g2, 0, none⟩) nm c2] * (rw TIn 1 (.slice (some ⟨g1, 0, none⟩) nm c1) rs * (rw TLe 1 (.slice (some ⟨g2, 0, none⟩) nm c2) vs * (Sl.block b TBe [.pointer (some ⟨h.D, 0, none⟩), .pointer (some ⟨h.C, 0, none⟩), .pointer (some ⟨h.S, 0, none⟩), .pointer (some ⟨h.t, 0, none⟩)] * (Bp * F)))))))))) wx)
 case first =>
  have hnn : (0 : Int) ≤ no := by omega
  by_cases hr2 : r' = 0
  · obtain rfl : no = 0 := hz2.1 hr2
    subst hr2
    by_cases hcd : cd = 0
    · subst hcd
      go_wp2_with fail
      with_reducible refine Calls.mono (hkp gp cp _ _ (takeI2 (lentA gp cp lst) Bp)) ?_
      rintro e w5 ⟨rfl, q5⟩
      haveI := q5.i
      go_wp2_with fail
      go_meet
      exact ⟨rfl, keep11 _ _ _ _ _ _ _ _ _ _ _⟩
    · have hcd1 : (cd != 0) = true := by simp [hcd]
      go_wp2_with fail
      with_reducible refine Calls.mono (hkp gp cp _ _ (takeI2 (lentA gp cp lst) Bp)) ?_
      rintro e w5 ⟨rfl, q5⟩
      haveI := q5.i
      go_wp2_with fail
      go_meet
      exact ⟨rfl, keep11 _ _ _ _ _ _ _ _ _ _ _⟩
  · have hcd : cd = 0 := Classical.not_not.1 fun hq => hr2 (hr1.out hq)
    subst hcd
    have hno1 : ((no : Int) == 0) = false := by
     have := mt hz2.2 hr2
     simp
     omega
    have hr3 : (r' == 0) = false := by simp [hr2]
    go_wp2_with fail
    with_reducible refine Calls.mono (hkp gp cp _ _ (takeI2 (lentA gp cp lst) Bp)) ?_
    rintro e w5 ⟨rfl, q5⟩
    haveI := q5.i
    go_wp2_with fail
    go_meet
    exact ⟨rfl, keep11 _ _ _ _ _ _ _ _ _ _ _⟩
 case rest =>
  obtain ⟨rfl, q5⟩ := hcut
  clear q4
  haveI := q5.i
  go_upto_region 26 with (fail)
  refine Dr.wpB_start (fun w' => w'.cell? ⟨mb, 0, none⟩ = some (.slice (some ⟨g1, 0, none⟩) nm c1) ∧ w'.cell? ⟨mb, 1, none⟩ = some (.slice (some ⟨g2, 0, none⟩) nm c2)) [16, 17, 18, 19, 20, 21] (by kernel_rfl) ⟨cell_sat _ _ _, cell_sat _ _ _⟩ (fun hHeld => ?_)
  refine Dr.wpB_pure 0 (v := ?v0) (by simp only [List.getElem?_toArray, List.getElem?_cons_succ, List.getElem?_cons_zero]; rfl) (by kernel_rfl) ?hQ0 (.inl ⟨?hw0, fun w' => ?hy0⟩) ?_
  case hy0 => go_simp; try (with_reducible rfl)
  case hQ0 => exact fun _ _ _ h => h
  case hw0 => rfl
  simp only [Act.put, List.setIfInBounds_toArray, List.set_cons_zero, List.set_cons_succ]
  refine Dr.wpB_pure 1 (v := ?v1) (by simp only [List.getElem?_toArray, List.getElem?_cons_succ, List.getElem?_cons_zero]; rfl) (by kernel_rfl) ?hQ1 (.inl ⟨?hw1, fun w' => ?hy1⟩) ?_
  case hy1 => go_simp; try (with_reducible rfl)
  case hQ1 => exact fun _ _ _ h => h
  case hw1 => rfl
  simp only [Act.put, List.setIfInBounds_toArray, List.set_cons_zero, List.set_cons_succ]
  refine Dr.wpB_pure 2 (v := ?v2) (by simp only [List.getElem?_toArray, List.getElem?_cons_succ, List.getElem?_cons_zero]; rfl) (by kernel_rfl) ?hQ2 (.inl ⟨?hw2, fun w' => ?hy2⟩) ?_
  case hy2 => go_simp; try (with_reducible rfl)
  case hQ2 => exact fun _ _ _ h => h
  case hw2 => rfl
  simp only [Act.put, List.setIfInBounds_toArray, List.set_cons_zero, List.set_cons_succ]
  refine Dr.wpB_pure 3 (v := ?v3) (by simp only [List.getElem?_toArray, List.getElem?_cons_succ, List.getElem?_cons_zero]; rfl) (by kernel_rfl) ?hQ3 (.inl ⟨?hw3, fun w' => ?hy3⟩) ?_
  case hy3 => go_simp; try (with_reducible rfl)
  case hQ3 => exact fun _ _ _ h => h
  case hw3 => rfl
  simp only [Act.put, List.setIfInBounds_toArray, List.set_cons_zero, List.set_cons_succ]
  refine Dr.wpB_pure 4 (v := ?v4) (by simp only [List.getElem?_toArray, List.getElem?_cons_succ, List.getElem?_cons_zero]; rfl) (by kernel_rfl) ?hQ4 (.inl ⟨?hw4, fun w' => ?hy4⟩) ?_
  case hy4 => go_simp; try (with_reducible rfl)
  case hQ4 => exact fun _ _ _ h => h
  case hw4 => rfl
  simp only [Act.put, List.setIfInBounds_toArray, List.set_cons_zero, List.set_cons_succ]
  refine Dr.wpB_take 5 (v := ?v5) (by simp only [List.getElem?_toArray, List.getElem?_cons_succ, List.getElem?_cons_zero]; rfl) (by kernel_rfl) ?hQ5 (.inl ⟨?hw5, fun w' hw => ?hy5⟩) hHeld ?_
  case hy5 => (try dsimp only at hw); go_simp; try (with_reducible rfl)
  case hQ5 => exact fun _ _ _ h => h
  case hw5 => rfl
  simp only [Act.put, List.setIfInBounds_toArray, List.set_cons_zero, List.set_cons_succ]
  refine Dr.wpB_pure 6 (v := ?v6) (by simp only [List.getElem?_toArray, List.getElem?_cons_succ, List.getElem?_cons_zero]; rfl) (by kernel_rfl) ?hQ6 (.inl ⟨?hw6, fun w' => ?hy6⟩) ?_
  case hy6 => go_simp; try (with_reducible rfl)
  case hQ6 => exact fun _ _ _ h => h
  case hw6 => rfl
  simp only [Act.put, List.setIfInBounds_toArray, List.set_cons_zero, List.set_cons_succ]
  refine Dr.wpB_pure 9 (v := ?v9) (by simp only [List.getElem?_toArray, List.getElem?_cons_succ, List.getElem?_cons_zero]; rfl) (by kernel_rfl) ?hQ9 (.inl ⟨?hw9, fun w' => ?hy9⟩) ?_
  case hy9 => go_simp; try (with_reducible rfl)
  case hQ9 => exact fun _ _ _ h => h
  case hw9 => rfl
  simp only [Act.put, List.setIfInBounds_toArray, List.set_cons_zero, List.set_cons_succ]
  refine Dr.wpB_pure 10 (v := ?v10) (by simp only [List.getElem?_toArray, List.getElem?_cons_succ, List.getElem?_cons_zero]; rfl) (by kernel_rfl) ?hQ10 (.inl ⟨?hw10, fun w' => ?hy10⟩) ?_
  case hy10 => go_simp; try (with_reducible rfl)
  case hQ10 => exact fun _ _ _ h => h
  case hw10 => rfl
  simp only [Act.put, List.setIfInBounds_toArray, List.set_cons_zero, List.set_cons_succ]
  refine Dr.wpB_pure 11 (v := ?v11) (by simp only [List.getElem?_toArray, List.getElem?_cons_succ, List.getElem?_cons_zero]; rfl) (by kernel_rfl) ?hQ11 (.inl ⟨?hw11, fun w' => ?hy11⟩) ?_
  case hy11 => go_simp; try (with_reducible rfl)
  case hQ11 => exact fun _ _ _ h => h
  case hw11 => rfl
  simp only [Act.put, List.setIfInBounds_toArray, List.set_cons_zero, List.set_cons_succ]
  refine Dr.wpB_take 12 (v := ?v12) (by simp only [List.getElem?_toArray, List.getElem?_cons_succ, List.getElem?_cons_zero]; rfl) (by kernel_rfl) ?hQ12 (.inl ⟨?hw12, fun w' hw => ?hy12⟩) hHeld ?_
  case hy12 => (try dsimp only at hw); go_simp; try (with_reducible rfl)
  case hQ12 => exact fun _ _ _ h => h
  case hw12 => rfl
  simp only [Act.put, List.setIfInBounds_toArray, List.set_cons_zero, List.set_cons_succ]
  refine Dr.wpB_pure 13 (v := ?v13) (by simp only [List.getElem?_toArray, List.getElem?_cons_succ, List.getElem?_cons_zero]; rfl) (by kernel_rfl) ?hQ13 (.inl ⟨?hw13, fun w' => ?hy13⟩) ?_
  case hy13 => go_simp; try (with_reducible rfl)
  case hQ13 => exact fun _ _ _ h => h
  case hw13 => rfl
  simp only [Act.put, List.setIfInBounds_toArray, List.set_cons_zero, List.set_cons_succ]
  refine Dr.wpB_two 7 14 (by simp only [List.getElem?_toArray, List.getElem?_cons_succ, List.getElem?_cons_zero]; rfl) (by simp only [List.getElem?_toArray, List.getElem?_cons_succ, List.getElem?_cons_zero]; rfl) (by kernel_rfl) ?_ ?_
  · go_wp2_with (fail)
    refine Dr.nextQ_n ⟨⟨cell_sat _ _ _, cell_sat _ _ _⟩, ?_⟩
    refine Dr.wpB_two 8 14 (by simp only [List.getElem?_toArray, List.getElem?_cons_succ, List.getElem?_cons_zero]; rfl) (by simp only [List.getElem?_toArray, List.getElem?_cons_succ, List.getElem?_cons_zero]; rfl) (by kernel_rfl) ?_ ?_
    · go_wp2_with (at_builtin; refine wpl_append_same ER rfl (.tmp 206) (.tmp 208) rfl rfl rfl (takeI (rw TIn 1 (.slice (some ⟨g1, 0, none⟩) nm c1) rs)) (Src.new (e := TIn) (s := 1) (vs := [.int .i64 r']) (takeI (Sl.block _ TIn [.int .i64 r'])) rfl (by intro u hu; simp at hu; rcases hu with rfl; rfl)) (by unfold maxLen; omega) (by omega) ?_; intro a7 c7 w7 q7 z7; clear z7; haveI := q7.i)
      refine Dr.nextQ_n ⟨⟨cell_sat _ _ _, cell_sat _ _ _⟩, ?_⟩
      refine Dr.wpB_one 14 (by simp only [List.getElem?_toArray, List.getElem?_cons_succ, List.getElem?_cons_zero]; rfl) (by kernel_rfl) ?_
      go_wp2_with (fail)
      refine Dr.nextQ_n ⟨⟨cell_sat _ _ _, cell_sat _ _ _⟩, ?_⟩
      refine Dr.wpB_one 15 (by simp only [List.getElem?_toArray, List.getElem?_cons_succ, List.getElem?_cons_zero]; rfl) (by kernel_rfl) ?_
      go_wp2_with (at_builtin; refine wpl_append_same EL rfl (.tmp 213) (.tmp 215) rfl rfl rfl (takeI (rw TLe 1 (.slice (some ⟨g2, 0, none⟩) nm c2) vs)) (Src.new (e := TLe) (s := 1) (vs := [.slice a5 no c5]) (takeI (Sl.block _ TLe [.slice a5 no c5])) rfl (by intro u hu; simp at hu; rcases hu with rfl; rfl)) (by unfold maxLen; omega) (by omega) ?_; intro a8 c8 w8 q8 z8; clear z8; haveI := q8.i)
      refine Dr.nextQ_n ⟨⟨cell_sat _ _ _, cell_sat _ _ _⟩, ?_⟩
      refine Dr.wpB_tail [16, 17, 18, 19, 20, 21] (os := [_, _, _, _, _, _]) (by decide) (by simp only [List.map_cons, List.map_nil, List.getElem?_toArray, List.getElem?_cons_succ, List.getElem?_cons_zero]; rfl) (by kernel_rfl) ?_
      go_wp2
      go_ret
      exact HFIN2.out _ a7 a8 c7 c8 (keep10 _ _ _ _ _ _ _ _ _ _)
    · go_wp2_with (fail)
      refine Dr.nextQ_n ⟨⟨cell_sat _ _ _, cell_sat _ _ _⟩, ?_⟩
      refine Dr.wpB_one 8 (by simp only [List.getElem?_toArray, List.getElem?_cons_succ, List.getElem?_cons_zero]; rfl) (by kernel_rfl) ?_
      go_wp2_with (at_builtin; refine wpl_append_same ER rfl (.tmp 206) (.tmp 208) rfl rfl rfl (takeI (rw TIn 1 (.slice (some ⟨g1, 0, none⟩) nm c1) rs)) (Src.new (e := TIn) (s := 1) (vs := [.int .i64 r']) (takeI (Sl.block _ TIn [.int .i64 r'])) rfl (by intro u hu; simp at hu; rcases hu with rfl; rfl)) (by unfold maxLen; omega) (by omega) ?_; intro a7 c7 w7 q7 z7; clear z7; haveI := q7.i)
      refine Dr.nextQ_n ⟨⟨cell_sat _ _ _, cell_sat _ _ _⟩, ?_⟩
      refine Dr.wpB_one 15 (by simp only [List.getElem?_toArray, List.getElem?_cons_succ, List.getElem?_cons_zero]; rfl) (by kernel_rfl) ?_
      go_wp2_with (at_builtin; refine wpl_append_same EL rfl (.tmp 213) (.tmp 215) rfl rfl rfl (takeI (rw TLe 1 (.slice (some ⟨g2, 0, none⟩) nm c2) vs)) (Src.new (e := TLe) (s := 1) (vs := [.slice a5 no c5]) (takeI (Sl.block _ TLe [.slice a5 no c5])) rfl (by intro u hu; simp at hu; rcases hu with rfl; rfl)) (by unfold maxLen; omega) (by omega) ?_; intro a8 c8 w8 q8 z8; clear z8; haveI := q8.i)
      refine Dr.nextQ_n ⟨⟨cell_sat _ _ _, cell_sat _ _ _⟩, ?_⟩
      refine Dr.wpB_tail [16, 17, 18, 19, 20, 21] (os := [_, _, _, _, _, _]) (by decide) (by simp only [List.map_cons, List.map_nil, List.getElem?_toArray, List.getElem?_cons_succ, List.getElem?_cons_zero]; rfl) (by kernel_rfl) ?_
      go_wp2
      go_ret
      exact HFIN2.out _ a7 a8 c7 c8 (keep10 _ _ _ _ _ _ _ _ _ _)
  · go_wp2_with (fail)
    refine Dr.nextQ_n ⟨⟨cell_sat _ _ _, cell_sat _ _ _⟩, ?_⟩
    refine Dr.wpB_one 7 (by simp only [List.getElem?_toArray, List.getElem?_cons_succ, List.getElem?_cons_zero]; rfl) (by kernel_rfl) ?_
    go_wp2_with (fail)
    refine Dr.nextQ_n ⟨⟨cell_sat _ _ _, cell_sat _ _ _⟩, ?_⟩
    refine Dr.wpB_one 8 (by simp only [List.getElem?_toArray, List.getElem?_cons_succ, List.getElem?_cons_zero]; rfl) (by kernel_rfl) ?_
    go_wp2_with (at_builtin; refine wpl_append_same ER rfl (.tmp 206) (.tmp 208) rfl rfl rfl (takeI (rw TIn 1 (.slice (some ⟨g1, 0, none⟩) nm c1) rs)) (Src.new (e := TIn) (s := 1) (vs := [.int .i64 r']) (takeI (Sl.block _ TIn [.int .i64 r'])) rfl (by intro u hu; simp at hu; rcases hu with rfl; rfl)) (by unfold maxLen; omega) (by omega) ?_; intro a7 c7 w7 q7 z7; clear z7; haveI := q7.i)
    refine Dr.nextQ_n ⟨⟨cell_sat _ _ _, cell_sat _ _ _⟩, ?_⟩
    refine Dr.wpB_one 15 (by simp only [List.getElem?_toArray, List.getElem?_cons_succ, List.getElem?_cons_zero]; rfl) (by kernel_rfl) ?_
    go_wp2_with (at_builtin; refine wpl_append_same EL rfl (.tmp 213) (.tmp 215) rfl rfl rfl (takeI (rw TLe 1 (.slice (some ⟨g2, 0, none⟩) nm c2) vs)) (Src.new (e := TLe) (s := 1) (vs := [.slice a5 no c5]) (takeI (Sl.block _ TLe [.slice a5 no c5])) rfl (by intro u hu; simp at hu; rcases hu with rfl; rfl)) (by unfold maxLen; omega) (by omega) ?_; intro a8 c8 w8 q8 z8; clear z8; haveI := q8.i)
    refine Dr.nextQ_n ⟨⟨cell_sat _ _ _, cell_sat _ _ _⟩, ?_⟩
    refine Dr.wpB_tail [16, 17, 18, 19, 20, 21] (os := [_, _, _, _, _, _]) (by decide) (by simp only [List.map_cons, List.map_nil, List.getElem?_toArray, List.getElem?_cons_succ, List.getElem?_cons_zero]; rfl) (by kernel_rfl) ?_
    go_wp2
    go_ret
    exact HFIN2.out _ a7 a8 c7 c8 (keep10 _ _ _ _ _ _ _ _ _ _)
end Go.Proofs.YtfhbmblbidcmmaaGreat
