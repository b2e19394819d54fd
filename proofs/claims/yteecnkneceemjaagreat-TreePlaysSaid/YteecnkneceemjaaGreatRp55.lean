/-
  TreePlays: what its proof leans on (part 55)
-/
import Derived.Test.YteecnkneceemjaaGreatRp53
import Derived.Test.YteecnkneceemjaaGreatRp54
import Derived.Test.YteecnkneceemjaaGreatRp52
import Derived.Test.YteecnkneceemjaaGreatRp49
import Derived.Test.YteecnkneceemjaaGreatRp51
import Derived.Test.YteecnkneceemjaaGreatRp31
import Derived.Test.YteecnkneceemjaaGreatRp12
set_option linter.unusedSimpArgs false
set_option linter.unusedVariables false
namespace Go.Proofs.YteecnkneceemjaaGreat
set_option linter.unusedSimpArgs false
set_option linter.unusedVariables false
open Go.RowKit Go.Sl Go.Dk Go.Tr
attribute [local go_sem ↓] Go.wp_at_zero Go.wp_at_succ
attribute [local go_sem] Go.Sl.cell_sat Go.Sl.frozen_sat
set_option maxRecDepth 100000 in
set_option maxHeartbeats 6400000 in
theorem does_build2 (h : Th) (s : TS) (mb b : Nat) (a1 : Option Addr) (c1 : Nat) (a2 : Option Addr) (c2 : Nat) (ms : List (Int × List Ent)) (vs : List Value) (G : Assn) (k f at_ n : Int) (put : List Ent) (v : Value) (Bp F : Assn) (w : World)
 (hk : k = 2) (hP : Played s ms vs G) (hn0 : 0 < ms.length) (hn1 : ms.length ≤ 64) (hI : TInv true s) (hf : 10000 ≤ leftOps s) (hrm : 10000 ≤ roomOf s.sp) (hE : ReadsE Bp v put) (hpl : put.length ≤ 60)
 (hs : Sat (treeP h s * (G * (madeA mb a1 c1 a2 c2 ms.length (rootC ms) vs * (benchA b h * (Bp * F))))) w) :
 Calls Tryz.prog 12 #[.pointer (some ⟨mb, 0, none⟩), .pointer (some ⟨b, 0, none⟩), .agg #[.int .i64 k, .int .i64 f, .int .i64 at_, .int .i64 n, v]] w (DoesOut h s mb b ms.length Bp F) := by
 obtain ⟨nm, hnm⟩ : ∃ m, ms.length = m := ⟨_, rfl⟩
 have HNM : Aside (ms.length = nm) := hnm
 obtain ⟨j, hj, hjn⟩ : ∃ j : Nat, f % (ms.length : Int) = (j : Int) ∧ j < ms.length := ⟨(f % (ms.length : Int)).toNat, by have := Int.emod_nonneg f (show (ms.length : Int) ≠ 0 by omega); omega, by have := Int.emod_lt_of_pos f (show 0 < (ms.length : Int) by omega); omega⟩
 obtain ⟨vj, r, l, hv, hr, hle, hrt, hg, -⟩ := hP.at hjn
 obtain ⟨al, cl, rfl, hl1, hl2⟩ := hle.v
 obtain ⟨rs, hrs⟩ : ∃ x, rootC ms = x := ⟨_, rfl⟩
 have HPL : Aside (Played s ms vs G) := hP
 have HL : Aside (ReadsE G (.slice al l.length cl) l ∧ Rt (nodeAt s) r l ∧ GoodL l) := ⟨hle, hrt, hg⟩
 have HRS : Aside (rootC ms = rs) := hrs
 have HE : Aside (ReadsE Bp v put ∧ put.length ≤ 60) := ⟨hE, hpl⟩
 have HLT : Aside (∀ (F : Assn) (w : World), Sat (Bp * F) w → Calls Tryz.prog 45 #[v] w fun e w' => ∃ g c, e = .returned (.slice (some ⟨g, 0, none⟩) put.length c) ∧ Sat (lentA g c put * (Bp * F)) w') := fun F w h => lent_any put v Bp F w hE h (by omega)
 rw [hrs, hnm] at hs
 rw [hrs] at hr
 rw [hnm] at hj hjn hn0 hn1 ⊢
 haveI : At rs j (.int .i64 r) := ⟨hr⟩
 haveI : At vs j (.slice al l.length cl) := ⟨hv⟩
 have hgl := hg.1.2.2
 obtain ⟨nl, hnl⟩ : ∃ z, l.length = z := ⟨_, rfl⟩
 have HZ : Aside (l.length = nl) := hnl
 rw [hnl] at hl1 hgl
 unfold madeA benchA at hs
 have q0 : Sat (treeP h s * (G * (Sl.block mb TMd [.slice a1 nm c1, .slice a2 nm c2] * (rw TIn 1 (.slice a1 nm c1) rs * (rw TLe 1 (.slice a2 nm c2) vs * (Sl.block b TBe [.pointer (some ⟨h.D, 0, none⟩), .pointer (some ⟨h.C, 0, none⟩), .pointer (some ⟨h.S, 0, none⟩), .pointer (some ⟨h.t, 0, none⟩)] * (Bp * F))))))) w := hs.eq (by ac_rfl)
 have hjlt : (j : Int) < nm := by omega
 have hj0 : (0 : Int) ≤ j := by omega
 obtain ⟨g1, rfl⟩ := row_some (hs := q0.take (rw TIn 1 (.slice a1 nm c1) rs)) (by omega)
 obtain ⟨g2, rfl⟩ := row_some (hs := q0.take (rw TLe 1 (.slice a2 nm c2) vs)) (by omega)
 have hqr : ∀ g w, (Sem.run Tryz.prog (Instr.indexAt 28 (Value.slice (some ⟨g, 0, none⟩) nm c1) (Value.int IntKind.i64 j)) w) = .ok (.pointer (some ⟨g, j, none⟩)) w := by
  intro g w
  simp [go_sem, *]
 have HFIN : Aside (∀ (w' : World) (s' : TS) (Gn : Assn) (a3 a4 a5 : Option Addr) (c3 c4 c5 : Nat) (r' : Int) (out : List Ent), Nxt s s' 3000 2600 → ReadsE (Gn * G) (.slice a5 out.length c5) out → Rt (nodeAt s') r' out → GoodL out →
  Sat (treeP h s' * (Gn * (G * (Sl.block mb TMd [.slice a3 (nm + 1) c3, .slice a4 (nm + 1) c4] * (rw TIn 1 (.slice a3 (nm + 1) c3) (rs ++ [.int .i64 r']) * (rw TLe 1 (.slice a4 (nm + 1) c4) (vs ++ [.slice a5 out.length c5]) * (Sl.block b TBe [.pointer (some ⟨h.D, 0, none⟩), .pointer (some ⟨h.C, 0, none⟩), .pointer (some ⟨h.S, 0, none⟩), .pointer (some ⟨h.t, 0, none⟩)] * (Bp * F)))))))) w' → DoesOut h s mb b nm Bp F (.returned (.bool true)) w') := fun w' s' Gn a3 a4 a5 c3 c4 c5 r' out nx k1 k2 k3 q => by
  refine ⟨s', a3, c3, a4, c4, ms ++ [(r', out)], vs ++ [.slice a5 out.length c5], Gn * G, rfl, ?_, HPL.out.more nx.le k1 k2 k3, ?_, ?_, nx⟩
  · have e1 : (ms ++ [(r', out)]).length = nm + 1 := by rw [List.length_append, HNM.out]; rfl
    have e2 : rootC (ms ++ [(r', out)]) = rs ++ [.int .i64 r'] := by rw [← HRS.out]; simp [rootC]
    rw [e1, e2]
    unfold madeA benchA
    exact q.eq (by ac_rfl)
  · rw [List.length_append, HNM.out]; omega
  · rw [List.length_append, HNM.out]; exact Nat.le_refl _
 obtain ⟨n0, hn0', hn0b⟩ : ∃ j : Nat, n % 200 = (j : Int) ∧ j < 200 := ⟨(n % 200).toNat, by omega, by omega⟩
 obtain ⟨sd, hsd', hsdb⟩ : ∃ j : Nat, at_ % 50 = (j : Int) ∧ j < 50 := ⟨(at_ % 50).toNat, by omega, by omega⟩
 have hmy := fun F w q => many_any' n0 sd F w q (by omega) (by omega)
 obtain ⟨lst, hlst⟩ : ∃ l, manyL n0 sd = l := ⟨_, rfl⟩
 have hln : lst.length = n0 := by rw [← hlst, manyL_len]
 have hbd := fun g c F w (h1 : Sat (treeP h s * (lentA g c lst * F)) w) => bld_any h s lst (.slice (some ⟨g, 0, none⟩) lst.length c) (lentA g c lst) F w (lent_reads (h1.eq (sep_swap _ _ _))).1 h1 hI (by omega) (by omega) (by omega)
 have hrb := fun g c F w (h1 : Sat (lentA g c lst * F) w) => rbuild_any lst (.slice (some ⟨g, 0, none⟩) lst.length c) (lentA g c lst) F w (lent_reads h1).1 h1 (by omega)
 have hl3 := fun a c F w (h1 : Sat (rw TEn 4 (.slice a lst.length c) (ecs lst) * F) w) => lent_any lst (.slice a lst.length c) (rw TEn 4 (.slice a lst.length c) (ecs lst)) F w (ReadsR.rw h1 ⟨a, c, rfl⟩) h1 (by omega)
 rw [hlst] at hmy
 have HLN : Aside (lst.length = n0) := hln
 rw [hln] at hbd hrb hl3
 have e1 : (k == 1) = false := by simp [hk]
 have e2 : (k == 2) = true := by simp [hk]
 clear hk hlst hln
 clear hle hrt hg hP hs hrs hnm hr hv hE hnl
 go_enter Tryz.func12, Tryz.ntmps12
 haveI := q0.i
 go_wp2_with fail
 obtain ⟨N, hN⟩ : ∃ N, w.heap.size = N := ⟨_, rfl⟩
 have q1 : Sat (treeP h s * (G * (Sl.block N TOp [.int .i64 k, .int .i64 f, .int .i64 at_, .int .i64 n, v] * (Sl.block mb TMd [.slice (some ⟨g1, 0, none⟩) nm c1, .slice (some ⟨g2, 0, none⟩) nm c2] * (rw TIn 1 (.slice (some ⟨g1, 0, none⟩) nm c1) rs * (rw TLe 1 (.slice (some ⟨g2, 0, none⟩) nm c2) vs * (Sl.block b TBe [.pointer (some ⟨h.D, 0, none⟩), .pointer (some ⟨h.C, 0, none⟩), .pointer (some ⟨h.S, 0, none⟩), .pointer (some ⟨h.t, 0, none⟩)] * (Bp * F)))))))) (w.alloc (.cells #[.int .i64 k, .int .i64 f, .int .i64 at_, .int .i64 n, v] TOp)) := by
  rw [← hN]
  show Sat (_ * (_ * (Sl.block w.heap.size TOp [.int .i64 k, .int .i64 f, .int .i64 at_, .int .i64 n, v] * _))) _
  exact satI_eq (by ac_rfl)
 try rw [hN]
 generalize w.alloc (.cells #[.int .i64 k, .int .i64 f, .int .i64 at_, .int .i64 n, v] TOp) = w0 at q1 ⊢
 clear hN q0 this
 haveI := q1.i
 go_region_held3 (fun w' => w'.cell? ⟨N, 1, none⟩ = some (.int .i64 f) ∧ w'.cell? ⟨mb, 0, none⟩ = some (.slice (some ⟨g1, 0, none⟩) nm c1)) (first | exact ⟨cell_sat _ _ _, cell_sat _ _ _⟩) (first | (go_at_call 10; refine (pick_any f nm _ (by omega) (by omega)).mono ?_; rintro e w9 ⟨rfl, rfl⟩))
 go_wp2_with fail
 go_region
 go_wp2_with fail
 with_reducible refine Calls.mono (HLT.out _ _ (takeI Bp)) ?_
 rintro e w2 ⟨gq, cq, rfl, q2⟩
 haveI := q2.i
 clear q1
 go_wp2_with fail
 have hp1 := fun w => pick_any n 200 w (by omega) (by omega)
 have hp2 := fun w => pick_any at_ 50 w (by omega) (by omega)
 rw [hn0'] at hp1
 rw [hsd'] at hp2
 clear hn0' hsd'
 go_cut [10] (fun t10 wx => ∃ (gp cp : Nat), t10 = .slice (some ⟨gp, 0, none⟩) n0 cp ∧ Sat (treeP h s * (lentA gp cp lst * (G * (Sl.block N TOp [.int .i64 k, .int .i64 f, .int .i64 at_, .int .i64 n, v] * (Sl.block mb TMd [.slice (some ⟨g1, 0, none⟩) nm c1, .slice (some ⟨g2, 0, none⟩) nm c2] * (rw TIn 1 (.slice (some ⟨g1, 0, none⟩) nm c1) rs * (rw TLe 1 (.slice (some ⟨g2, 0, none⟩) nm c2) vs * (Sl.block b TBe [.pointer (some ⟨h.D, 0, none⟩), .pointer (some ⟨h.C, 0, none⟩), .pointer (some ⟨h.S, 0, none⟩), .pointer (some ⟨h.t, 0, none⟩)] * (Bp * F))))))))) wx)
 case first => as_aux_lemma =>
  go_region_held3 (fun w' => w'.cell? ⟨N, 2, none⟩ = some (.int .i64 at_) ∧ w'.cell? ⟨N, 3, none⟩ = some (.int .i64 n)) (first | exact ⟨cell_sat _ _ _, cell_sat _ _ _⟩) (first
   | (go_at_call 10; with_reducible refine Calls.mono (hp1 _) ?_; rintro e w9 ⟨rfl, rfl⟩)
   | (go_at_call 10; with_reducible refine Calls.mono (hp2 _) ?_; rintro e w9 ⟨rfl, rfl⟩)
   | (go_at_call 15; with_reducible refine Calls.mono (hmy _ _ q2) ?_; rintro e w9 ⟨am, cm, rfl, q9⟩; haveI := q9.i)
   | (go_at_call 45; with_reducible refine Calls.mono (hl3 _ _ _ _ (takeI (rw TEn 4 (.slice am n0 cm) (ecs lst)))) ?_; rintro e w10 ⟨gp, cp, rfl, q10⟩; haveI := q10.i))
  all_goals
   go_wp2_with fail
   go_meet
   exact ⟨gp, cp, rfl, keep9 _ _ _ _ _ _ _ _ _⟩
 case rest =>
  obtain ⟨gp, cp, rfl, q3⟩ := hcut
  haveI := q3.i
  have hkp : True := trivial
  clear q2 hmy hl3 hp1 hp2
  have hbd2 := hbd gp cp
  have hrb2 := hrb gp cp
  have hbad := @buildR_bad lst
  have hgood := @buildR_good lst
  obtain ⟨⟨cd, out⟩, hbr⟩ : ∃ x, buildR lst = x := ⟨_, rfl⟩
  rw [hbr] at hbd2 hrb2 hbad hgood
  simp only at hbd2 hbad hgood
  clear hbd hrb
  go_wp2_with fail
  with_reducible refine Calls.mono (hbd2 _ _ (takeI2 (treeP h s) (lentA gp cp lst))) ?_
  rintro e w3 ⟨r', s1, rfl, q3, nx1, hrt1, hr0⟩
  unfold vi2
  have hRG : Rt (nodeAt s1) r' out ∧ GoodL out := by
   by_cases hcd : cd = 0
   · exact ⟨hrt1 hcd, hgood hcd⟩
   · rw [hbad hcd, hr0 hcd]
     exact ⟨.inl ⟨rfl, rfl⟩, good_nil⟩
  have hz := rt_zero hRG.1
  obtain ⟨no, hno⟩ : ∃ x, out.length = x := ⟨_, rfl⟩
  have hz2 : r' = 0 ↔ no = 0 := by rw [hz, ← hno, List.length_eq_zero_iff]
  have HRG : Aside (Rt (nodeAt s1) r' out ∧ GoodL out ∧ Nxt s s1 0 2048 ∧ out.length = no) := ⟨hRG.1, hRG.2, nx1, hno⟩
  have hr1 : Aside (cd ≠ 0 → r' = 0) := hr0
  haveI := q3.i
  clear hbd2 hbad hgood hrt1 hr0 hz hbr nx1 hRG
  go_wp2_with fail
  with_reducible refine Calls.mono (hrb2 _ _ (takeI (lentA gp cp lst))) ?_
  rintro e w4 hLC
  obtain ⟨a5, c5, Gn, rfl, hRd, q4⟩ := hLC
  have HRD : Aside (ReadsE (Gn * lentA gp cp lst) (.slice a5 out.length c5) out) := hRd
  simp only at q4 ⊢
  rw [hno]
  haveI := q4.i
  clear q3 hrb2 hRd hno
  have HFIN2 : Aside (∀ (w' : World) (a3 a4 : Option Addr) (c3 c4 : Nat), Sat (treeP h s1 * (Gn * (lentA gp cp lst * (G * (Sl.block mb TMd [.slice a3 (nm + 1) c3, .slice a4 (nm + 1) c4] * (rw TIn 1 (.slice a3 (nm + 1) c3) (rs ++ [.int .i64 r']) * (rw TLe 1 (.slice a4 (nm + 1) c4) (vs ++ [.slice a5 no c5]) * (Sl.block b TBe [.pointer (some ⟨h.D, 0, none⟩), .pointer (some ⟨h.C, 0, none⟩), .pointer (some ⟨h.S, 0, none⟩), .pointer (some ⟨h.t, 0, none⟩)] * (Bp * F))))))))) w' → DoesOut h s mb b nm Bp F (.returned (.bool true)) w') := fun w' a3 a4 c3 c4 q => by
   have hq := HFIN.out w' s1 (Gn * lentA gp cp lst) a3 a4 a5 c3 c4 c5 r' out (HRG.out.2.2.1.more (by omega) (by omega)) (ReadsR.left HRD.out) HRG.out.1 HRG.out.2.1
   rw [HRG.out.2.2.2] at hq
   exact hq (q.eq (by ac_rfl))
  obtain ⟨iR, ER⟩ := elemIS
  obtain ⟨iL, EL⟩ := elemEs
  clear HFIN
  go_upto_region 24 with (fail)
  go_cut [200] (fun t200 wx => t200 = .bool false ∧ Sat (treeP h s1 * (Gn * (lentA gp cp lst * (G * (Sl.block N TOp [.int .i64 k, .int .i64 f, .int .i64 at_, .int .i64 n, v] * (Sl.block mb TMd [.slice (some ⟨g1, 0, none⟩) nm c1, .slice (some ⟨g2, 0, none⟩) nm c2] * (rw TIn 1 (.slice (some ⟨g1, 0, none⟩) nm c1) rs * (rw TLe 1 (.slice (some ⟨g2, 0, none⟩) nm c2) vs * (Sl.block b TBe [.pointer (some ⟨h.D, 0, none⟩), .pointer (some ⟨h.C, 0, none⟩), .pointer (some ⟨h.S, 0, none⟩), .pointer (some ⟨h.t, 0, none⟩)] * (Bp * F)))))))))) wx)
  case first => as_aux_lemma =>
   have hnn : (0 : Int) ≤ no := by omega
   by_cases hr2 : r' = 0
   · obtain rfl : no = 0 := hz2.1 hr2
     subst hr2
     by_cases hcd : cd = 0
     · subst hcd
       go_wp2_with fail
       go_meet
       exact ⟨rfl, keep11 _ _ _ _ _ _ _ _ _ _ _⟩
     · have hcd1 : (cd != 0) = true := by simp [hcd]
       go_wp2_with fail
       go_meet
       exact ⟨rfl, keep11 _ _ _ _ _ _ _ _ _ _ _⟩
   · have hcd : cd = 0 := Classical.not_not.1 fun hq => hr2 (hr1.out hq)
     subst hcd
     have hno1 : ((no : Int) == 0) = false := by
      have := mt hz2.2 hr2
      simp
      omega
     have hr3 : (r' == 0) = false := by simp [hr2]
     go_wp2_with fail
     go_meet
     exact ⟨rfl, keep11 _ _ _ _ _ _ _ _ _ _ _⟩
  case rest => as_aux_lemma =>
   obtain ⟨rfl, q5⟩ := hcut
   clear q4
   haveI := q5.i
   go_upto_region 26 with (fail)
   refine Dr.wpB_start (fun w' => w'.cell? ⟨mb, 0, none⟩ = some (.slice (some ⟨g1, 0, none⟩) nm c1) ∧ w'.cell? ⟨mb, 1, none⟩ = some (.slice (some ⟨g2, 0, none⟩) nm c2)) [16, 17, 18, 19, 20, 21] (by kernel_rfl) ⟨cell_sat _ _ _, cell_sat _ _ _⟩ (fun hHeld => ?_)
   refine Dr.wpB_pure 0 (v := ?v0) (by simp only [List.getElem?_toArray, List.getElem?_cons_succ, List.getElem?_cons_zero]; rfl) (by kernel_rfl) ?hQ0 (.inl ⟨?hw0, fun w' => ?hy0⟩) ?_
   case hy0 => go_simp; try (with_reducible rfl)
   case hQ0 => exact fun _ _ _ h => h
   case hw0 => rfl
   simp only [Act.put, List.setIfInBounds_toArray, List.set_cons_zero, List.set_cons_succ]
   refine Dr.wpB_pure 1 (v := ?v1) (by simp only [List.getElem?_toArray, List.getElem?_cons_succ, List.getElem?_cons_zero]; rfl) (by kernel_rfl) ?hQ1 (.inl ⟨?hw1, fun w' => ?hy1⟩) ?_
   case hy1 => go_simp; try (with_reducible rfl)
   case hQ1 => exact fun _ _ _ h => h
   case hw1 => rfl
   simp only [Act.put, List.setIfInBounds_toArray, List.set_cons_zero, List.set_cons_succ]
   refine Dr.wpB_pure 2 (v := ?v2) (by simp only [List.getElem?_toArray, List.getElem?_cons_succ, List.getElem?_cons_zero]; rfl) (by kernel_rfl) ?hQ2 (.inl ⟨?hw2, fun w' => ?hy2⟩) ?_
   case hy2 => go_simp; try (with_reducible rfl)
   case hQ2 => exact fun _ _ _ h => h
   case hw2 => rfl
   simp only [Act.put, List.setIfInBounds_toArray, List.set_cons_zero, List.set_cons_succ]
   refine Dr.wpB_pure 3 (v := ?v3) (by simp only [List.getElem?_toArray, List.getElem?_cons_succ, List.getElem?_cons_zero]; rfl) (by kernel_rfl) ?hQ3 (.inl ⟨?hw3, fun w' => ?hy3⟩) ?_
   case hy3 => go_simp; try (with_reducible rfl)
   case hQ3 => exact fun _ _ _ h => h
   case hw3 => rfl
   simp only [Act.put, List.setIfInBounds_toArray, List.set_cons_zero, List.set_cons_succ]
   refine Dr.wpB_pure 4 (v := ?v4) (by simp only [List.getElem?_toArray, List.getElem?_cons_succ, List.getElem?_cons_zero]; rfl) (by kernel_rfl) ?hQ4 (.inl ⟨?hw4, fun w' => ?hy4⟩) ?_
   case hy4 => go_simp; try (with_reducible rfl)
   case hQ4 => exact fun _ _ _ h => h
   case hw4 => rfl
   simp only [Act.put, List.setIfInBounds_toArray, List.set_cons_zero, List.set_cons_succ]
   refine Dr.wpB_take 5 (v := ?v5) (by simp only [List.getElem?_toArray, List.getElem?_cons_succ, List.getElem?_cons_zero]; rfl) (by kernel_rfl) ?hQ5 (.inl ⟨?hw5, fun w' hw => ?hy5⟩) hHeld ?_
   case hy5 => (try dsimp only at hw); go_simp; try (with_reducible rfl)
   case hQ5 => exact fun _ _ _ h => h
   case hw5 => rfl
   simp only [Act.put, List.setIfInBounds_toArray, List.set_cons_zero, List.set_cons_succ]
   refine Dr.wpB_pure 6 (v := ?v6) (by simp only [List.getElem?_toArray, List.getElem?_cons_succ, List.getElem?_cons_zero]; rfl) (by kernel_rfl) ?hQ6 (.inl ⟨?hw6, fun w' => ?hy6⟩) ?_
   case hy6 => go_simp; try (with_reducible rfl)
   case hQ6 => exact fun _ _ _ h => h
   case hw6 => rfl
   simp only [Act.put, List.setIfInBounds_toArray, List.set_cons_zero, List.set_cons_succ]
   refine Dr.wpB_pure 9 (v := ?v9) (by simp only [List.getElem?_toArray, List.getElem?_cons_succ, List.getElem?_cons_zero]; rfl) (by kernel_rfl) ?hQ9 (.inl ⟨?hw9, fun w' => ?hy9⟩) ?_
   case hy9 => go_simp; try (with_reducible rfl)
   case hQ9 => exact fun _ _ _ h => h
   case hw9 => rfl
   simp only [Act.put, List.setIfInBounds_toArray, List.set_cons_zero, List.set_cons_succ]
   refine Dr.wpB_pure 10 (v := ?v10) (by simp only [List.getElem?_toArray, List.getElem?_cons_succ, List.getElem?_cons_zero]; rfl) (by kernel_rfl) ?hQ10 (.inl ⟨?hw10, fun w' => ?hy10⟩) ?_
   case hy10 => go_simp; try (with_reducible rfl)
   case hQ10 => exact fun _ _ _ h => h
   case hw10 => rfl
   simp only [Act.put, List.setIfInBounds_toArray, List.set_cons_zero, List.set_cons_succ]
   refine Dr.wpB_pure 11 (v := ?v11) (by simp only [List.getElem?_toArray, List.getElem?_cons_succ, List.getElem?_cons_zero]; rfl) (by kernel_rfl) ?hQ11 (.inl ⟨?hw11, fun w' => ?hy11⟩) ?_
   case hy11 => go_simp; try (with_reducible rfl)
   case hQ11 => exact fun _ _ _ h => h
   case hw11 => rfl
   simp only [Act.put, List.setIfInBounds_toArray, List.set_cons_zero, List.set_cons_succ]
   refine Dr.wpB_take 12 (v := ?v12) (by simp only [List.getElem?_toArray, List.getElem?_cons_succ, List.getElem?_cons_zero]; rfl) (by kernel_rfl) ?hQ12 (.inl ⟨?hw12, fun w' hw => ?hy12⟩) hHeld ?_
   case hy12 => (try dsimp only at hw); go_simp; try (with_reducible rfl)
   case hQ12 => exact fun _ _ _ h => h
   case hw12 => rfl
   simp only [Act.put, List.setIfInBounds_toArray, List.set_cons_zero, List.set_cons_succ]
   refine Dr.wpB_pure 13 (v := ?v13) (by simp only [List.getElem?_toArray, List.getElem?_cons_succ, List.getElem?_cons_zero]; rfl) (by kernel_rfl) ?hQ13 (.inl ⟨?hw13, fun w' => ?hy13⟩) ?_
   case hy13 => go_simp; try (with_reducible rfl)
   case hQ13 => exact fun _ _ _ h => h
   case hw13 => rfl
   simp only [Act.put, List.setIfInBounds_toArray, List.set_cons_zero, List.set_cons_succ]
   refine Dr.wpB_two 7 14 (by simp only [List.getElem?_toArray, List.getElem?_cons_succ, List.getElem?_cons_zero]; rfl) (by simp only [List.getElem?_toArray, List.getElem?_cons_succ, List.getElem?_cons_zero]; rfl) (by kernel_rfl) ?_ ?_
   · go_wp2_with (fail)
     refine Dr.nextQ_n ⟨⟨cell_sat _ _ _, cell_sat _ _ _⟩, ?_⟩
     refine Dr.wpB_two 8 14 (by simp only [List.getElem?_toArray, List.getElem?_cons_succ, List.getElem?_cons_zero]; rfl) (by simp only [List.getElem?_toArray, List.getElem?_cons_succ, List.getElem?_cons_zero]; rfl) (by kernel_rfl) ?_ ?_
     · go_wp2_with (at_builtin; refine wpl_append_same ER rfl (.tmp 206) (.tmp 208) rfl rfl rfl (takeI (rw TIn 1 (.slice (some ⟨g1, 0, none⟩) nm c1) rs)) (Src.new (e := TIn) (s := 1) (vs := [.int .i64 r']) (takeI (Sl.block _ TIn [.int .i64 r'])) rfl (by intro u hu; simp at hu; rcases hu with rfl; rfl)) (by unfold maxLen; omega) (by omega) ?_; intro a7 c7 w7 q7 z7; clear z7; haveI := q7.i)
       refine Dr.nextQ_n ⟨⟨cell_sat _ _ _, cell_sat _ _ _⟩, ?_⟩
       refine Dr.wpB_one 14 (by simp only [List.getElem?_toArray, List.getElem?_cons_succ, List.getElem?_cons_zero]; rfl) (by kernel_rfl) ?_
       go_wp2_with (fail)
       refine Dr.nextQ_n ⟨⟨cell_sat _ _ _, cell_sat _ _ _⟩, ?_⟩
       refine Dr.wpB_one 15 (by simp only [List.getElem?_toArray, List.getElem?_cons_succ, List.getElem?_cons_zero]; rfl) (by kernel_rfl) ?_
       go_wp2_with (at_builtin; refine wpl_append_same EL rfl (.tmp 213) (.tmp 215) rfl rfl rfl (takeI (rw TLe 1 (.slice (some ⟨g2, 0, none⟩) nm c2) vs)) (Src.new (e := TLe) (s := 1) (vs := [.slice a5 no c5]) (takeI (Sl.block _ TLe [.slice a5 no c5])) rfl (by intro u hu; simp at hu; rcases hu with rfl; rfl)) (by unfold maxLen; omega) (by omega) ?_; intro a8 c8 w8 q8 z8; clear z8; haveI := q8.i)
       refine Dr.nextQ_n ⟨⟨cell_sat _ _ _, cell_sat _ _ _⟩, ?_⟩
       refine Dr.wpB_tail [16, 17, 18, 19, 20, 21] (os := [_, _, _, _, _, _]) (by decide) (by simp only [List.map_cons, List.map_nil, List.getElem?_toArray, List.getElem?_cons_succ, List.getElem?_cons_zero]; rfl) (by kernel_rfl) ?_
       go_wp2
       go_ret
       exact HFIN2.out _ a7 a8 c7 c8 (keep10 _ _ _ _ _ _ _ _ _ _)
     · go_wp2_with (fail)
       refine Dr.nextQ_n ⟨⟨cell_sat _ _ _, cell_sat _ _ _⟩, ?_⟩
       refine Dr.wpB_one 8 (by simp only [List.getElem?_toArray, List.getElem?_cons_succ, List.getElem?_cons_zero]; rfl) (by kernel_rfl) ?_
       go_wp2_with (at_builtin; refine wpl_append_same ER rfl (.tmp 206) (.tmp 208) rfl rfl rfl (takeI (rw TIn 1 (.slice (some ⟨g1, 0, none⟩) nm c1) rs)) (Src.new (e := TIn) (s := 1) (vs := [.int .i64 r']) (takeI (Sl.block _ TIn [.int .i64 r'])) rfl (by intro u hu; simp at hu; rcases hu with rfl; rfl)) (by unfold maxLen; omega) (by omega) ?_; intro a7 c7 w7 q7 z7; clear z7; haveI := q7.i)
       refine Dr.nextQ_n ⟨⟨cell_sat _ _ _, cell_sat _ _ _⟩, ?_⟩
       refine Dr.wpB_one 15 (by simp only [List.getElem?_toArray, List.getElem?_cons_succ, List.getElem?_cons_zero]; rfl) (by kernel_rfl) ?_
       go_wp2_with (at_builtin; refine wpl_append_same EL rfl (.tmp 213) (.tmp 215) rfl rfl rfl (takeI (rw TLe 1 (.slice (some ⟨g2, 0, none⟩) nm c2) vs)) (Src.new (e := TLe) (s := 1) (vs := [.slice a5 no c5]) (takeI (Sl.block _ TLe [.slice a5 no c5])) rfl (by intro u hu; simp at hu; rcases hu with rfl; rfl)) (by unfold maxLen; omega) (by omega) ?_; intro a8 c8 w8 q8 z8; clear z8; haveI := q8.i)
       refine Dr.nextQ_n ⟨⟨cell_sat _ _ _, cell_sat _ _ _⟩, ?_⟩
       refine Dr.wpB_tail [16, 17, 18, 19, 20, 21] (os := [_, _, _, _, _, _]) (by decide) (by simp only [List.map_cons, List.map_nil, List.getElem?_toArray, List.getElem?_cons_succ, List.getElem?_cons_zero]; rfl) (by kernel_rfl) ?_
       go_wp2
       go_ret
       exact HFIN2.out _ a7 a8 c7 c8 (keep10 _ _ _ _ _ _ _ _ _ _)
   · go_wp2_with (fail)
     refine Dr.nextQ_n ⟨⟨cell_sat _ _ _, cell_sat _ _ _⟩, ?_⟩
     refine Dr.wpB_one 7 (by simp only [List.getElem?_toArray, List.getElem?_cons_succ, List.getElem?_cons_zero]; rfl) (by kernel_rfl) ?_
     go_wp2_with (fail)
     refine Dr.nextQ_n ⟨⟨cell_sat _ _ _, cell_sat _ _ _⟩, ?_⟩
     refine Dr.wpB_one 8 (by simp only [List.getElem?_toArray, List.getElem?_cons_succ, List.getElem?_cons_zero]; rfl) (by kernel_rfl) ?_
     go_wp2_with (at_builtin; refine wpl_append_same ER rfl (.tmp 206) (.tmp 208) rfl rfl rfl (takeI (rw TIn 1 (.slice (some ⟨g1, 0, none⟩) nm c1) rs)) (Src.new (e := TIn) (s := 1) (vs := [.int .i64 r']) (takeI (Sl.block _ TIn [.int .i64 r'])) rfl (by intro u hu; simp at hu; rcases hu with rfl; rfl)) (by unfold maxLen; omega) (by omega) ?_; intro a7 c7 w7 q7 z7; clear z7; haveI := q7.i)
     refine Dr.nextQ_n ⟨⟨cell_sat _ _ _, cell_sat _ _ _⟩, ?_⟩
     refine Dr.wpB_one 15 (by simp only [List.getElem?_toArray, List.getElem?_cons_succ, List.getElem?_cons_zero]; rfl) (by kernel_rfl) ?_
     go_wp2_with (at_builtin; refine wpl_append_same EL rfl (.tmp 213) (.tmp 215) rfl rfl rfl (takeI (rw TLe 1 (.slice (some ⟨g2, 0, none⟩) nm c2) vs)) (Src.new (e := TLe) (s := 1) (vs := [.slice a5 no c5]) (takeI (Sl.block _ TLe [.slice a5 no c5])) rfl (by intro u hu; simp at hu; rcases hu with rfl; rfl)) (by unfold maxLen; omega) (by omega) ?_; intro a8 c8 w8 q8 z8; clear z8; haveI := q8.i)
     refine Dr.nextQ_n ⟨⟨cell_sat _ _ _, cell_sat _ _ _⟩, ?_⟩
     refine Dr.wpB_tail [16, 17, 18, 19, 20, 21] (os := [_, _, _, _, _, _]) (by decide) (by simp only [List.map_cons, List.map_nil, List.getElem?_toArray, List.getElem?_cons_succ, List.getElem?_cons_zero]; rfl) (by kernel_rfl) ?_
     go_wp2
     go_ret
     exact HFIN2.out _ a7 a8 c7 c8 (keep10 _ _ _ _ _ _ _ _ _ _)
end Go.Proofs.YteecnkneceemjaaGreat
namespace Go.Proofs.YteecnkneceemjaaGreat
set_option linter.unusedSimpArgs false
set_option linter.unusedVariables false
open Go.RowKit Go.Sl Go.Dk Go.Tr
attribute [local go_sem ↓] Go.wp_at_zero Go.wp_at_succ
attribute [local go_sem] Go.Sl.cell_sat Go.Sl.frozen_sat
theorem spliceR_bad {l put : List Ent} {at_ n : Int} (h : (spliceR l at_ n put).1 ≠ 0) : (spliceR l at_ n put).2 = [] := by
 unfold spliceR at h ⊢
 split
 · rfl
 rename_i h1
 rw [if_neg h1] at h
 split
 · rfl
 rename_i h2
 rw [if_neg h2] at h
 split
 · rfl
 rename_i h3
 rw [if_neg h3] at h
 split
 · rename_i h4
   rw [if_pos h4] at h
   exact absurd rfl h
 rename_i h4
 rw [if_neg h4] at h
 split
 · rfl
 · rename_i h5
   rw [if_neg h5] at h
   exact absurd rfl h
theorem sep_swap2 (A B C : Assn) : A * (B * C) = A * B * C := by ac_rfl
set_option maxRecDepth 100000 in
set_option maxHeartbeats 6400000 in
theorem does_splice (h : Th) (s : TS) (mb b : Nat) (a1 : Option Addr) (c1 : Nat) (a2 : Option Addr) (c2 : Nat) (ms : List (Int × List Ent)) (vs : List Value) (G : Assn) (k f at_ n : Int) (put : List Ent) (v : Value) (Bp F : Assn) (w : World)
 (hk : k = 3) (hP : Played s ms vs G) (hn0 : 0 < ms.length) (hn1 : ms.length ≤ 64) (hI : TInv true s) (hf : 10000 ≤ leftOps s) (hrm : 10000 ≤ roomOf s.sp) (hE : ReadsE Bp v put) (hpl : put.length ≤ 60)
 (hs : Sat (treeP h s * (G * (madeA mb a1 c1 a2 c2 ms.length (rootC ms) vs * (benchA b h * (Bp * F))))) w) :
 Calls Tryz.prog 12 #[.pointer (some ⟨mb, 0, none⟩), .pointer (some ⟨b, 0, none⟩), .agg #[.int .i64 k, .int .i64 f, .int .i64 at_, .int .i64 n, v]] w (DoesOut h s mb b ms.length Bp F) := by
 obtain ⟨nm, hnm⟩ : ∃ m, ms.length = m := ⟨_, rfl⟩
 have HNM : Aside (ms.length = nm) := hnm
 obtain ⟨j, hj, hjn⟩ : ∃ j : Nat, f % (ms.length : Int) = (j : Int) ∧ j < ms.length := ⟨(f % (ms.length : Int)).toNat, by have := Int.emod_nonneg f (show (ms.length : Int) ≠ 0 by omega); omega, by have := Int.emod_lt_of_pos f (show 0 < (ms.length : Int) by omega); omega⟩
 obtain ⟨vj, r, l, hv, hr, hle, hrt, hg, -⟩ := hP.at hjn
 obtain ⟨al, cl, rfl, hl1, hl2⟩ := hle.v
 obtain ⟨rs, hrs⟩ : ∃ x, rootC ms = x := ⟨_, rfl⟩
 have HPL : Aside (Played s ms vs G) := hP
 have HL : Aside (ReadsE G (.slice al l.length cl) l ∧ Rt (nodeAt s) r l ∧ GoodL l) := ⟨hle, hrt, hg⟩
 have HRS : Aside (rootC ms = rs) := hrs
 have HE : Aside (ReadsE Bp v put ∧ put.length ≤ 60) := ⟨hE, hpl⟩
 have HLT : Aside (∀ (F : Assn) (w : World), Sat (Bp * F) w → Calls Tryz.prog 45 #[v] w fun e w' => ∃ g c, e = .returned (.slice (some ⟨g, 0, none⟩) put.length c) ∧ Sat (lentA g c put * (Bp * F)) w') := fun F w h => lent_any put v Bp F w hE h (by omega)
 rw [hrs, hnm] at hs
 rw [hrs] at hr
 rw [hnm] at hj hjn hn0 hn1 ⊢
 haveI : At rs j (.int .i64 r) := ⟨hr⟩
 haveI : At vs j (.slice al l.length cl) := ⟨hv⟩
 have hgl := hg.1.2.2
 obtain ⟨nl, hnl⟩ : ∃ z, l.length = z := ⟨_, rfl⟩
 have HZ : Aside (l.length = nl) := hnl
 rw [hnl] at hl1 hgl
 unfold madeA benchA at hs
 have q0 : Sat (treeP h s * (G * (Sl.block mb TMd [.slice a1 nm c1, .slice a2 nm c2] * (rw TIn 1 (.slice a1 nm c1) rs * (rw TLe 1 (.slice a2 nm c2) vs * (Sl.block b TBe [.pointer (some ⟨h.D, 0, none⟩), .pointer (some ⟨h.C, 0, none⟩), .pointer (some ⟨h.S, 0, none⟩), .pointer (some ⟨h.t, 0, none⟩)] * (Bp * F))))))) w := hs.eq (by ac_rfl)
 have hjlt : (j : Int) < nm := by omega
 have hj0 : (0 : Int) ≤ j := by omega
 obtain ⟨g1, rfl⟩ := row_some (hs := q0.take (rw TIn 1 (.slice a1 nm c1) rs)) (by omega)
 obtain ⟨g2, rfl⟩ := row_some (hs := q0.take (rw TLe 1 (.slice a2 nm c2) vs)) (by omega)
 have hqr : ∀ g w, (Sem.run Tryz.prog (Instr.indexAt 28 (Value.slice (some ⟨g, 0, none⟩) nm c1) (Value.int IntKind.i64 j)) w) = .ok (.pointer (some ⟨g, j, none⟩)) w := by
  intro g w
  simp [go_sem, *]
 have HFIN : Aside (∀ (w' : World) (s' : TS) (Gn : Assn) (a3 a4 a5 : Option Addr) (c3 c4 c5 : Nat) (r' : Int) (out : List Ent), Nxt s s' 3000 2600 → ReadsE (Gn * G) (.slice a5 out.length c5) out → Rt (nodeAt s') r' out → GoodL out →
  Sat (treeP h s' * (Gn * (G * (Sl.block mb TMd [.slice a3 (nm + 1) c3, .slice a4 (nm + 1) c4] * (rw TIn 1 (.slice a3 (nm + 1) c3) (rs ++ [.int .i64 r']) * (rw TLe 1 (.slice a4 (nm + 1) c4) (vs ++ [.slice a5 out.length c5]) * (Sl.block b TBe [.pointer (some ⟨h.D, 0, none⟩), .pointer (some ⟨h.C, 0, none⟩), .pointer (some ⟨h.S, 0, none⟩), .pointer (some ⟨h.t, 0, none⟩)] * (Bp * F)))))))) w' → DoesOut h s mb b nm Bp F (.returned (.bool true)) w') := fun w' s' Gn a3 a4 a5 c3 c4 c5 r' out nx k1 k2 k3 q => by
  refine ⟨s', a3, c3, a4, c4, ms ++ [(r', out)], vs ++ [.slice a5 out.length c5], Gn * G, rfl, ?_, HPL.out.more nx.le k1 k2 k3, ?_, ?_, nx⟩
  · have e1 : (ms ++ [(r', out)]).length = nm + 1 := by rw [List.length_append, HNM.out]; rfl
    have e2 : rootC (ms ++ [(r', out)]) = rs ++ [.int .i64 r'] := by rw [← HRS.out]; simp [rootC]
    rw [e1, e2]
    unfold madeA benchA
    exact q.eq (by ac_rfl)
  · rw [List.length_append, HNM.out]; omega
  · rw [List.length_append, HNM.out]; exact Nat.le_refl _
 have hL4 : ∀ h : Nat, 2 * 4 ^ h ≤ l.length → h ≤ 4 := fun q hq => by
  rcases Nat.lt_or_ge 4 q with h1 | h1
  · have : 4 ^ 5 ≤ 4 ^ q := Nat.pow_le_pow_right (by omega) h1
    omega
  · exact h1
 have hsp := fun g c F w (h1 : Sat (treeP h s * (lentA g c put * F)) w) => splice_call h s r at_ n l put (.slice (some ⟨g, 0, none⟩) put.length c) (lentA g c put) F w (lent_reads (h1.eq (sep_swap _ _ _))).1 h1 (by omega) hI hrt hg.2 4 (by omega) hL4 (by omega) (by omega)
 have hrb := fun F w (h1 : Sat (G * (Bp * F)) w) => rsplice_any l put at_ n (.slice al l.length cl) v G (G * Bp) F w hle (ReadsR.left hle) (ReadsR.right hE) (h1.eq (sep_swap2 _ _ _)) hg (by omega)
 have hkp := fun g c F w (h1 : Sat (lentA g c put * (Bp * F)) w) => kept_any put g c v Bp F w HE.out.1 h1 (by have := HE.out.2; omega)
 have hbad := @spliceR_bad l put at_ n
 have hgood := @spliceR_good l put at_ n hg
 obtain ⟨⟨cd, out⟩, hbr⟩ : ∃ x, spliceR l at_ n put = x := ⟨_, rfl⟩
 rw [hbr] at hsp hrb hbad hgood
 simp only at hsp hbad hgood
 have HGD : Aside ((cd ≠ 0 → out = []) ∧ (cd = 0 → GoodL out)) := ⟨hbad, hgood⟩
 obtain ⟨np, hnp'⟩ : ∃ x, put.length = x := ⟨_, rfl⟩
 have hpe : put = [] ↔ np = 0 := by rw [← hnp', List.length_eq_zero_iff]
 have HPE : Aside (put = [] ↔ np = 0) := hpe
 rw [hnp'] at hsp hkp HLT hpl
 rw [HZ.out] at hrb
 have e1 : (k == 1) = false := by simp [hk]
 have e2 : (k == 2) = false := by simp [hk]
 have e3 : (k == 3) = true := by simp [hk]
 clear hk hbad hgood hbr hL4 hpe hnp'
 clear hle hrt hg hP hs hrs hnm hr hv hE hnl
 go_enter Tryz.func12, Tryz.ntmps12
 haveI := q0.i
 go_wp2_with fail
 obtain ⟨N, hN⟩ : ∃ N, w.heap.size = N := ⟨_, rfl⟩
 have q1 : Sat (treeP h s * (G * (Sl.block N TOp [.int .i64 k, .int .i64 f, .int .i64 at_, .int .i64 n, v] * (Sl.block mb TMd [.slice (some ⟨g1, 0, none⟩) nm c1, .slice (some ⟨g2, 0, none⟩) nm c2] * (rw TIn 1 (.slice (some ⟨g1, 0, none⟩) nm c1) rs * (rw TLe 1 (.slice (some ⟨g2, 0, none⟩) nm c2) vs * (Sl.block b TBe [.pointer (some ⟨h.D, 0, none⟩), .pointer (some ⟨h.C, 0, none⟩), .pointer (some ⟨h.S, 0, none⟩), .pointer (some ⟨h.t, 0, none⟩)] * (Bp * F)))))))) (w.alloc (.cells #[.int .i64 k, .int .i64 f, .int .i64 at_, .int .i64 n, v] TOp)) := by
  rw [← hN]
  show Sat (_ * (_ * (Sl.block w.heap.size TOp [.int .i64 k, .int .i64 f, .int .i64 at_, .int .i64 n, v] * _))) _
  exact satI_eq (by ac_rfl)
 try rw [hN]
 generalize w.alloc (.cells #[.int .i64 k, .int .i64 f, .int .i64 at_, .int .i64 n, v] TOp) = w0 at q1 ⊢
 clear hN q0 this
 haveI := q1.i
 go_region_held3 (fun w' => w'.cell? ⟨N, 1, none⟩ = some (.int .i64 f) ∧ w'.cell? ⟨mb, 0, none⟩ = some (.slice (some ⟨g1, 0, none⟩) nm c1)) (first | exact ⟨cell_sat _ _ _, cell_sat _ _ _⟩) (first | (go_at_call 10; refine (pick_any f nm _ (by omega) (by omega)).mono ?_; rintro e w9 ⟨rfl, rfl⟩))
 go_wp2_with fail
 go_region
 go_wp2_with fail
 with_reducible refine Calls.mono (HLT.out _ _ (takeI Bp)) ?_
 rintro e w2 ⟨gp, cp, rfl, q2⟩
 haveI := q2.i
 clear q1
 go_wp2_with fail
 go_cut [15, 16] (fun t15 t16 wx => ∃ (r' : Int) (s1 : TS), t15 = .int .i64 r' ∧ t16 = .int .i64 cd ∧ Aside (Nxt s s1 200 2600 ∧ (cd = 0 → Rt (nodeAt s1) r' out) ∧ (cd ≠ 0 → r' = 0) ∧ (cd = 0 → n = 0 → put = [] → r' = r)) ∧ Sat (treeP h s1 * (lentA gp cp put * (G * (Sl.block N TOp [.int .i64 k, .int .i64 f, .int .i64 at_, .int .i64 n, v] * (Sl.block mb TMd [.slice (some ⟨g1, 0, none⟩) nm c1, .slice (some ⟨g2, 0, none⟩) nm c2] * (rw TIn 1 (.slice (some ⟨g1, 0, none⟩) nm c1) rs * (rw TLe 1 (.slice (some ⟨g2, 0, none⟩) nm c2) vs * (Sl.block b TBe [.pointer (some ⟨h.D, 0, none⟩), .pointer (some ⟨h.C, 0, none⟩), .pointer (some ⟨h.S, 0, none⟩), .pointer (some ⟨h.t, 0, none⟩)] * (Bp * F))))))))) wx)
 case first => as_aux_lemma =>
  go_region_held3 (fun w' => w'.cell? ⟨N, 2, none⟩ = some (.int .i64 at_) ∧ w'.cell? ⟨N, 3, none⟩ = some (.int .i64 n) ∧ w'.cell? ⟨b, 3, none⟩ = some (.pointer (some ⟨h.t, 0, none⟩))) (first | exact ⟨cell_sat _ _ _, cell_sat _ _ _, cell_sat _ _ _⟩) (first
   | (go_at_call 21; with_reducible refine Calls.mono (hsp gp cp _ _ (takeI2 (treeP h s) (lentA gp cp put))) ?_; rintro e w3 ⟨r', s1, rfl, q3, nx1, hrt1, hr0, hsm⟩; unfold vi2; haveI := q3.i))
  all_goals
   go_wp2_with fail
   go_meet
   exact ⟨r', s1, rfl, rfl, ⟨nx1.more (by omega) (by omega), hrt1, hr0, hsm⟩, keep9 _ _ _ _ _ _ _ _ _⟩
 case rest =>
  obtain ⟨r', s1, rfl, rfl, HS, q3⟩ := hcut
  haveI := q3.i
  clear q2 hsp
  have hRG : Rt (nodeAt s1) r' out ∧ GoodL out := by
   obtain ⟨-, hrt1, hr0, -⟩ := HS.out
   by_cases hcd : cd = 0
   · exact ⟨hrt1 hcd, HGD.out.2 hcd⟩
   · rw [HGD.out.1 hcd, hr0 hcd]
     exact ⟨.inl ⟨rfl, rfl⟩, good_nil⟩
  have hz := rt_zero hRG.1
  obtain ⟨no, hno⟩ : ∃ x, out.length = x := ⟨_, rfl⟩
  have hz2 : r' = 0 ↔ no = 0 := by rw [hz, ← hno, List.length_eq_zero_iff]
  have HRG : Aside (Rt (nodeAt s1) r' out ∧ GoodL out ∧ Nxt s s1 200 2600 ∧ out.length = no) := ⟨hRG.1, hRG.2, HS.out.1, hno⟩
  have hr1 : Aside (cd ≠ 0 → r' = 0) := HS.out.2.2.1
  have hsame : Aside (cd = 0 → n = 0 → np = 0 → r' = r) := fun x y z => HS.out.2.2.2 x y (HPE.out.2 z)
  rw [HZ.out]
  clear hz hRG
  go_wp2_with fail
  with_reducible refine Calls.mono (hrb _ _ (takeI2 G Bp)) ?_
  rintro e w4 hLC
  obtain ⟨a5, c5, Gn, rfl, hRd, q4⟩ := hLC
  have HRD : Aside (ReadsE (Gn * G) (.slice a5 out.length c5) out) := hRd
  simp only at q4 ⊢
  rw [hno]
  haveI := q4.i
  clear q3 hrb hRd hno
  have HFIN2 : Aside (∀ (w' : World) (a3 a4 : Option Addr) (c3 c4 : Nat), Sat (treeP h s1 * (Gn * (lentA gp cp put * (G * (Sl.block mb TMd [.slice a3 (nm + 1) c3, .slice a4 (nm + 1) c4] * (rw TIn 1 (.slice a3 (nm + 1) c3) (rs ++ [.int .i64 r']) * (rw TLe 1 (.slice a4 (nm + 1) c4) (vs ++ [.slice a5 no c5]) * (Sl.block b TBe [.pointer (some ⟨h.D, 0, none⟩), .pointer (some ⟨h.C, 0, none⟩), .pointer (some ⟨h.S, 0, none⟩), .pointer (some ⟨h.t, 0, none⟩)] * (Bp * F))))))))) w' → DoesOut h s mb b nm Bp F (.returned (.bool true)) w') := fun w' a3 a4 c3 c4 q => by
   have hq := HFIN.out w' s1 Gn a3 a4 a5 c3 c4 c5 r' out (HRG.out.2.2.1.more (by omega) (by omega)) HRD.out HRG.out.1 HRG.out.2.1
   rw [HRG.out.2.2.2] at hq
   haveI := q.i
   exact hq (keep8 _ _ _ _ _ _ _ _)
  obtain ⟨iR, ER⟩ := elemIS
  obtain ⟨iL, EL⟩ := elemEs
  clear HFIN
  go_upto_region 30 with (fail)
  go_cut [292] (fun t292 wx => t292 = .bool false ∧ Sat (treeP h s1 * (Gn * (lentA gp cp put * (G * (Sl.block N TOp [.int .i64 k, .int .i64 f, .int .i64 at_, .int .i64 n, v] * (Sl.block mb TMd [.slice (some ⟨g1, 0, none⟩) nm c1, .slice (some ⟨g2, 0, none⟩) nm c2] * (rw TIn 1 (.slice (some ⟨g1, 0, none⟩) nm c1) rs * (rw TLe 1 (.slice (some ⟨g2, 0, none⟩) nm c2) vs * (Sl.block b TBe [.pointer (some ⟨h.D, 0, none⟩), .pointer (some ⟨h.C, 0, none⟩), .pointer (some ⟨h.S, 0, none⟩), .pointer (some ⟨h.t, 0, none⟩)] * (Bp * F)))))))))) wx)
  case first =>
   have hnn : (0 : Int) ≤ no := by omega
   have hnp : (0 : Int) ≤ np := by omega
   by_cases hr2 : r' = 0
   · obtain rfl : no = 0 := hz2.1 hr2
     by_cases hcd : cd = 0
     · subst hcd
       have hr2z : r' = 0 := hr2
       clear hz2
       by_cases hn0' : n = 0
       · subst hn0'
         by_cases hp0 : np = 0
         · have hrr : r' = r := hsame.out rfl rfl hp0
           subst hp0 hrr hr2z
           as_aux_lemma =>
            go_wp2_with fail
            with_reducible refine Calls.mono (hkp gp cp _ _ (takeI2 (lentA gp cp put) Bp)) ?_
            rintro e w5 ⟨rfl, q5⟩
            haveI := q5.i
            go_wp2_with fail
            go_meet
            exact ⟨rfl, keep11 _ _ _ _ _ _ _ _ _ _ _⟩
         · have hp1 : ((np : Int) == 0) = false := by simp [hp0]
           subst hr2z
           as_aux_lemma =>
            go_wp2_with fail
            with_reducible refine Calls.mono (hkp gp cp _ _ (takeI2 (lentA gp cp put) Bp)) ?_
            rintro e w5 ⟨rfl, q5⟩
            haveI := q5.i
            go_wp2_with fail
            go_meet
            exact ⟨rfl, keep11 _ _ _ _ _ _ _ _ _ _ _⟩
       · have hn2 : (n == 0) = false := by simp [hn0']
         subst hr2z
         as_aux_lemma =>
          go_wp2_with fail
          with_reducible refine Calls.mono (hkp gp cp _ _ (takeI2 (lentA gp cp put) Bp)) ?_
          rintro e w5 ⟨rfl, q5⟩
          haveI := q5.i
          go_wp2_with fail
          go_meet
          exact ⟨rfl, keep11 _ _ _ _ _ _ _ _ _ _ _⟩
     · have hcd1 : (cd != 0) = true := by simp [hcd]
       have hcd2 : (cd == 0) = false := by simp [hcd]
       subst hr2
       as_aux_lemma =>
        go_wp2_with fail
        with_reducible refine Calls.mono (hkp gp cp _ _ (takeI2 (lentA gp cp put) Bp)) ?_
        rintro e w5 ⟨rfl, q5⟩
        haveI := q5.i
        go_wp2_with fail
        go_meet
        exact ⟨rfl, keep11 _ _ _ _ _ _ _ _ _ _ _⟩
   · have hcd : cd = 0 := Classical.not_not.1 fun hq => hr2 (hr1.out hq)
     subst hcd
     have hno1 : ((no : Int) == 0) = false := by
      have := mt hz2.2 hr2
      simp
      omega
     have hr3 : (r' == 0) = false := by simp [hr2]
     by_cases hn0' : n = 0
     · subst hn0'
       by_cases hp0 : np = 0
       · have hrr : r' = r := hsame.out rfl rfl hp0
         subst hp0 hrr
         as_aux_lemma =>
          go_wp2_with fail
          with_reducible refine Calls.mono (hkp gp cp _ _ (takeI2 (lentA gp cp put) Bp)) ?_
          rintro e w5 ⟨rfl, q5⟩
          haveI := q5.i
          go_wp2_with fail
          go_meet
          exact ⟨rfl, keep11 _ _ _ _ _ _ _ _ _ _ _⟩
       · have hp1 : ((np : Int) == 0) = false := by simp [hp0]
         as_aux_lemma =>
          go_wp2_with fail
          with_reducible refine Calls.mono (hkp gp cp _ _ (takeI2 (lentA gp cp put) Bp)) ?_
          rintro e w5 ⟨rfl, q5⟩
          haveI := q5.i
          go_wp2_with fail
          go_meet
          exact ⟨rfl, keep11 _ _ _ _ _ _ _ _ _ _ _⟩
     · have hn2 : (n == 0) = false := by simp [hn0']
       as_aux_lemma =>
        go_wp2_with fail
        with_reducible refine Calls.mono (hkp gp cp _ _ (takeI2 (lentA gp cp put) Bp)) ?_
        rintro e w5 ⟨rfl, q5⟩
        haveI := q5.i
        go_wp2_with fail
        go_meet
        exact ⟨rfl, keep11 _ _ _ _ _ _ _ _ _ _ _⟩
  case rest => as_aux_lemma =>
   obtain ⟨rfl, q5⟩ := hcut
   clear q4
   haveI := q5.i
   go_upto_region 32 with (fail)
   refine Dr.wpB_start (fun w' => w'.cell? ⟨mb, 0, none⟩ = some (.slice (some ⟨g1, 0, none⟩) nm c1) ∧ w'.cell? ⟨mb, 1, none⟩ = some (.slice (some ⟨g2, 0, none⟩) nm c2)) [16, 17, 18, 19, 20, 21] (by kernel_rfl) ⟨cell_sat _ _ _, cell_sat _ _ _⟩ (fun hHeld => ?_)
   refine Dr.wpB_pure 0 (v := ?v0) (by simp only [List.getElem?_toArray, List.getElem?_cons_succ, List.getElem?_cons_zero]; rfl) (by kernel_rfl) ?hQ0 (.inl ⟨?hw0, fun w' => ?hy0⟩) ?_
   case hy0 => go_simp; try (with_reducible rfl)
   case hQ0 => exact fun _ _ _ h => h
   case hw0 => rfl
   simp only [Act.put, List.setIfInBounds_toArray, List.set_cons_zero, List.set_cons_succ]
   refine Dr.wpB_pure 1 (v := ?v1) (by simp only [List.getElem?_toArray, List.getElem?_cons_succ, List.getElem?_cons_zero]; rfl) (by kernel_rfl) ?hQ1 (.inl ⟨?hw1, fun w' => ?hy1⟩) ?_
   case hy1 => go_simp; try (with_reducible rfl)
   case hQ1 => exact fun _ _ _ h => h
   case hw1 => rfl
   simp only [Act.put, List.setIfInBounds_toArray, List.set_cons_zero, List.set_cons_succ]
   refine Dr.wpB_pure 2 (v := ?v2) (by simp only [List.getElem?_toArray, List.getElem?_cons_succ, List.getElem?_cons_zero]; rfl) (by kernel_rfl) ?hQ2 (.inl ⟨?hw2, fun w' => ?hy2⟩) ?_
   case hy2 => go_simp; try (with_reducible rfl)
   case hQ2 => exact fun _ _ _ h => h
   case hw2 => rfl
   simp only [Act.put, List.setIfInBounds_toArray, List.set_cons_zero, List.set_cons_succ]
   refine Dr.wpB_pure 3 (v := ?v3) (by simp only [List.getElem?_toArray, List.getElem?_cons_succ, List.getElem?_cons_zero]; rfl) (by kernel_rfl) ?hQ3 (.inl ⟨?hw3, fun w' => ?hy3⟩) ?_
   case hy3 => go_simp; try (with_reducible rfl)
   case hQ3 => exact fun _ _ _ h => h
   case hw3 => rfl
   simp only [Act.put, List.setIfInBounds_toArray, List.set_cons_zero, List.set_cons_succ]
   refine Dr.wpB_pure 4 (v := ?v4) (by simp only [List.getElem?_toArray, List.getElem?_cons_succ, List.getElem?_cons_zero]; rfl) (by kernel_rfl) ?hQ4 (.inl ⟨?hw4, fun w' => ?hy4⟩) ?_
   case hy4 => go_simp; try (with_reducible rfl)
   case hQ4 => exact fun _ _ _ h => h
   case hw4 => rfl
   simp only [Act.put, List.setIfInBounds_toArray, List.set_cons_zero, List.set_cons_succ]
   refine Dr.wpB_take 5 (v := ?v5) (by simp only [List.getElem?_toArray, List.getElem?_cons_succ, List.getElem?_cons_zero]; rfl) (by kernel_rfl) ?hQ5 (.inl ⟨?hw5, fun w' hw => ?hy5⟩) hHeld ?_
   case hy5 => (try dsimp only at hw); go_simp; try (with_reducible rfl)
   case hQ5 => exact fun _ _ _ h => h
   case hw5 => rfl
   simp only [Act.put, List.setIfInBounds_toArray, List.set_cons_zero, List.set_cons_succ]
   refine Dr.wpB_pure 6 (v := ?v6) (by simp only [List.getElem?_toArray, List.getElem?_cons_succ, List.getElem?_cons_zero]; rfl) (by kernel_rfl) ?hQ6 (.inl ⟨?hw6, fun w' => ?hy6⟩) ?_
   case hy6 => go_simp; try (with_reducible rfl)
   case hQ6 => exact fun _ _ _ h => h
   case hw6 => rfl
   simp only [Act.put, List.setIfInBounds_toArray, List.set_cons_zero, List.set_cons_succ]
   refine Dr.wpB_pure 9 (v := ?v9) (by simp only [List.getElem?_toArray, List.getElem?_cons_succ, List.getElem?_cons_zero]; rfl) (by kernel_rfl) ?hQ9 (.inl ⟨?hw9, fun w' => ?hy9⟩) ?_
   case hy9 => go_simp; try (with_reducible rfl)
   case hQ9 => exact fun _ _ _ h => h
   case hw9 => rfl
   simp only [Act.put, List.setIfInBounds_toArray, List.set_cons_zero, List.set_cons_succ]
   refine Dr.wpB_pure 10 (v := ?v10) (by simp only [List.getElem?_toArray, List.getElem?_cons_succ, List.getElem?_cons_zero]; rfl) (by kernel_rfl) ?hQ10 (.inl ⟨?hw10, fun w' => ?hy10⟩) ?_
   case hy10 => go_simp; try (with_reducible rfl)
   case hQ10 => exact fun _ _ _ h => h
   case hw10 => rfl
   simp only [Act.put, List.setIfInBounds_toArray, List.set_cons_zero, List.set_cons_succ]
   refine Dr.wpB_pure 11 (v := ?v11) (by simp only [List.getElem?_toArray, List.getElem?_cons_succ, List.getElem?_cons_zero]; rfl) (by kernel_rfl) ?hQ11 (.inl ⟨?hw11, fun w' => ?hy11⟩) ?_
   case hy11 => go_simp; try (with_reducible rfl)
   case hQ11 => exact fun _ _ _ h => h
   case hw11 => rfl
   simp only [Act.put, List.setIfInBounds_toArray, List.set_cons_zero, List.set_cons_succ]
   refine Dr.wpB_take 12 (v := ?v12) (by simp only [List.getElem?_toArray, List.getElem?_cons_succ, List.getElem?_cons_zero]; rfl) (by kernel_rfl) ?hQ12 (.inl ⟨?hw12, fun w' hw => ?hy12⟩) hHeld ?_
   case hy12 => (try dsimp only at hw); go_simp; try (with_reducible rfl)
   case hQ12 => exact fun _ _ _ h => h
   case hw12 => rfl
   simp only [Act.put, List.setIfInBounds_toArray, List.set_cons_zero, List.set_cons_succ]
   refine Dr.wpB_pure 13 (v := ?v13) (by simp only [List.getElem?_toArray, List.getElem?_cons_succ, List.getElem?_cons_zero]; rfl) (by kernel_rfl) ?hQ13 (.inl ⟨?hw13, fun w' => ?hy13⟩) ?_
   case hy13 => go_simp; try (with_reducible rfl)
   case hQ13 => exact fun _ _ _ h => h
   case hw13 => rfl
   simp only [Act.put, List.setIfInBounds_toArray, List.set_cons_zero, List.set_cons_succ]
   refine Dr.wpB_two 7 14 (by simp only [List.getElem?_toArray, List.getElem?_cons_succ, List.getElem?_cons_zero]; rfl) (by simp only [List.getElem?_toArray, List.getElem?_cons_succ, List.getElem?_cons_zero]; rfl) (by kernel_rfl) ?_ ?_
   · go_wp2_with (fail)
     refine Dr.nextQ_n ⟨⟨cell_sat _ _ _, cell_sat _ _ _⟩, ?_⟩
     refine Dr.wpB_two 8 14 (by simp only [List.getElem?_toArray, List.getElem?_cons_succ, List.getElem?_cons_zero]; rfl) (by simp only [List.getElem?_toArray, List.getElem?_cons_succ, List.getElem?_cons_zero]; rfl) (by kernel_rfl) ?_ ?_
     · go_wp2_with (at_builtin; refine wpl_append_same ER rfl (.tmp 298) (.tmp 300) rfl rfl rfl (takeI (rw TIn 1 (.slice (some ⟨g1, 0, none⟩) nm c1) rs)) (Src.new (e := TIn) (s := 1) (vs := [.int .i64 r']) (takeI (Sl.block _ TIn [.int .i64 r'])) rfl (by intro u hu; simp at hu; rcases hu with rfl; rfl)) (by unfold maxLen; omega) (by omega) ?_; intro a7 c7 w7 q7 z7; clear z7; haveI := q7.i)
       refine Dr.nextQ_n ⟨⟨cell_sat _ _ _, cell_sat _ _ _⟩, ?_⟩
       refine Dr.wpB_one 14 (by simp only [List.getElem?_toArray, List.getElem?_cons_succ, List.getElem?_cons_zero]; rfl) (by kernel_rfl) ?_
       go_wp2_with (fail)
       refine Dr.nextQ_n ⟨⟨cell_sat _ _ _, cell_sat _ _ _⟩, ?_⟩
       refine Dr.wpB_one 15 (by simp only [List.getElem?_toArray, List.getElem?_cons_succ, List.getElem?_cons_zero]; rfl) (by kernel_rfl) ?_
       go_wp2_with (at_builtin; refine wpl_append_same EL rfl (.tmp 305) (.tmp 307) rfl rfl rfl (takeI (rw TLe 1 (.slice (some ⟨g2, 0, none⟩) nm c2) vs)) (Src.new (e := TLe) (s := 1) (vs := [.slice a5 no c5]) (takeI (Sl.block _ TLe [.slice a5 no c5])) rfl (by intro u hu; simp at hu; rcases hu with rfl; rfl)) (by unfold maxLen; omega) (by omega) ?_; intro a8 c8 w8 q8 z8; clear z8; haveI := q8.i)
       refine Dr.nextQ_n ⟨⟨cell_sat _ _ _, cell_sat _ _ _⟩, ?_⟩
       refine Dr.wpB_tail [16, 17, 18, 19, 20, 21] (os := [_, _, _, _, _, _]) (by decide) (by simp only [List.map_cons, List.map_nil, List.getElem?_toArray, List.getElem?_cons_succ, List.getElem?_cons_zero]; rfl) (by kernel_rfl) ?_
       go_wp2
       go_ret
       exact HFIN2.out _ a7 a8 c7 c8 (keep10 _ _ _ _ _ _ _ _ _ _)
     · go_wp2_with (fail)
       refine Dr.nextQ_n ⟨⟨cell_sat _ _ _, cell_sat _ _ _⟩, ?_⟩
       refine Dr.wpB_one 8 (by simp only [List.getElem?_toArray, List.getElem?_cons_succ, List.getElem?_cons_zero]; rfl) (by kernel_rfl) ?_
       go_wp2_with (at_builtin; refine wpl_append_same ER rfl (.tmp 298) (.tmp 300) rfl rfl rfl (takeI (rw TIn 1 (.slice (some ⟨g1, 0, none⟩) nm c1) rs)) (Src.new (e := TIn) (s := 1) (vs := [.int .i64 r']) (takeI (Sl.block _ TIn [.int .i64 r'])) rfl (by intro u hu; simp at hu; rcases hu with rfl; rfl)) (by unfold maxLen; omega) (by omega) ?_; intro a7 c7 w7 q7 z7; clear z7; haveI := q7.i)
       refine Dr.nextQ_n ⟨⟨cell_sat _ _ _, cell_sat _ _ _⟩, ?_⟩
       refine Dr.wpB_one 15 (by simp only [List.getElem?_toArray, List.getElem?_cons_succ, List.getElem?_cons_zero]; rfl) (by kernel_rfl) ?_
       go_wp2_with (at_builtin; refine wpl_append_same EL rfl (.tmp 305) (.tmp 307) rfl rfl rfl (takeI (rw TLe 1 (.slice (some ⟨g2, 0, none⟩) nm c2) vs)) (Src.new (e := TLe) (s := 1) (vs := [.slice a5 no c5]) (takeI (Sl.block _ TLe [.slice a5 no c5])) rfl (by intro u hu; simp at hu; rcases hu with rfl; rfl)) (by unfold maxLen; omega) (by omega) ?_; intro a8 c8 w8 q8 z8; clear z8; haveI := q8.i)
       refine Dr.nextQ_n ⟨⟨cell_sat _ _ _, cell_sat _ _ _⟩, ?_⟩
       refine Dr.wpB_tail [16, 17, 18, 19, 20, 21] (os := [_, _, _, _, _, _]) (by decide) (by simp only [List.map_cons, List.map_nil, List.getElem?_toArray, List.getElem?_cons_succ, List.getElem?_cons_zero]; rfl) (by kernel_rfl) ?_
       go_wp2
       go_ret
       exact HFIN2.out _ a7 a8 c7 c8 (keep10 _ _ _ _ _ _ _ _ _ _)
   · go_wp2_with (fail)
     refine Dr.nextQ_n ⟨⟨cell_sat _ _ _, cell_sat _ _ _⟩, ?_⟩
     refine Dr.wpB_one 7 (by simp only [List.getElem?_toArray, List.getElem?_cons_succ, List.getElem?_cons_zero]; rfl) (by kernel_rfl) ?_
     go_wp2_with (fail)
     refine Dr.nextQ_n ⟨⟨cell_sat _ _ _, cell_sat _ _ _⟩, ?_⟩
     refine Dr.wpB_one 8 (by simp only [List.getElem?_toArray, List.getElem?_cons_succ, List.getElem?_cons_zero]; rfl) (by kernel_rfl) ?_
     go_wp2_with (at_builtin; refine wpl_append_same ER rfl (.tmp 298) (.tmp 300) rfl rfl rfl (takeI (rw TIn 1 (.slice (some ⟨g1, 0, none⟩) nm c1) rs)) (Src.new (e := TIn) (s := 1) (vs := [.int .i64 r']) (takeI (Sl.block _ TIn [.int .i64 r'])) rfl (by intro u hu; simp at hu; rcases hu with rfl; rfl)) (by unfold maxLen; omega) (by omega) ?_; intro a7 c7 w7 q7 z7; clear z7; haveI := q7.i)
     refine Dr.nextQ_n ⟨⟨cell_sat _ _ _, cell_sat _ _ _⟩, ?_⟩
     refine Dr.wpB_one 15 (by simp only [List.getElem?_toArray, List.getElem?_cons_succ, List.getElem?_cons_zero]; rfl) (by kernel_rfl) ?_
     go_wp2_with (at_builtin; refine wpl_append_same EL rfl (.tmp 305) (.tmp 307) rfl rfl rfl (takeI (rw TLe 1 (.slice (some ⟨g2, 0, none⟩) nm c2) vs)) (Src.new (e := TLe) (s := 1) (vs := [.slice a5 no c5]) (takeI (Sl.block _ TLe [.slice a5 no c5])) rfl (by intro u hu; simp at hu; rcases hu with rfl; rfl)) (by unfold maxLen; omega) (by omega) ?_; intro a8 c8 w8 q8 z8; clear z8; haveI := q8.i)
     refine Dr.nextQ_n ⟨⟨cell_sat _ _ _, cell_sat _ _ _⟩, ?_⟩
     refine Dr.wpB_tail [16, 17, 18, 19, 20, 21] (os := [_, _, _, _, _, _]) (by decide) (by simp only [List.map_cons, List.map_nil, List.getElem?_toArray, List.getElem?_cons_succ, List.getElem?_cons_zero]; rfl) (by kernel_rfl) ?_
     go_wp2
     go_ret
     exact HFIN2.out _ a7 a8 c7 c8 (keep10 _ _ _ _ _ _ _ _ _ _)
end Go.Proofs.YteecnkneceemjaaGreat
namespace Go.Proofs.YteecnkneceemjaaGreat
open Go.RowKit Go.Sl Go.Dk Go.Tr
def okOf {α : Type} : Res TS α → Option α
 | .ok a _ => some a
 | _ => none
def awM : M TS (Int × Int × Int × List Ent) := M.bind (mBuild [⟨0, 0, 10, -1⟩]) fun r => M.bind (tSize tRead r) fun n => M.bind (tSplice tRead tWrite r 3 2 n [⟨1, 0, 1, 1⟩]) fun q => M.bind (tList tRead q) fun l => M.pure (r, n, q, l)
set_option maxRecDepth 1000000
theorem aw2 : (match okOf (awM (ts0 1048576 8)) with | some (r, n, q, l) => decide (r = 1 ∧ n = 10) && (l.map fun e => (e.src, e.pos, e.len, e.lines)) == [(0, 0, 3, -1), (1, 0, 1, 1), (0, 5, 5, -1)] | none => false) = true := by kernel_rfl
end Go.Proofs.YteecnkneceemjaaGreat
namespace Go.Proofs.YteecnkneceemjaaGreat
set_option linter.unusedSimpArgs false
set_option linter.unusedVariables false
open Go.RowKit Go.Sl Go.Dk Go.Tr
attribute [local go_sem ↓] Go.wp_at_zero Go.wp_at_succ
attribute [local go_sem] Go.Sl.cell_sat Go.Sl.frozen_sat
theorem okOf_bind {α β : Type} {m : M TS α} {f : α → M TS β} {s : TS} {x : β} (h : okOf (M.bind m f s) = some x) : ∃ a s1, m s = .ok a s1 ∧ okOf (f a s1) = some x := by
 unfold M.bind Res.bind at h
 cases hm : m s with
 | ok a s1 => rw [hm] at h; exact ⟨a, s1, rfl, h⟩
 | fault e s1 => rw [hm] at h; cases h
 | bad => rw [hm] at h; cases h
theorem aw_facts : ∃ (s1 s2 s3 s4 : TS) (q : Int), mBuild [⟨0, 0, 10, -1⟩] (ts0 1048576 8) = .ok 1 s1 ∧ tSize tRead 1 s1 = .ok 10 s2 ∧ tSplice tRead tWrite 1 3 2 10 [⟨1, 0, 1, 1⟩] s2 = .ok q s3 ∧ tList tRead q s3 = .ok [⟨0, 0, 3, -1⟩, ⟨1, 0, 1, 1⟩, ⟨0, 5, 5, -1⟩] s4 := by
 have h := aw2
 cases ho : okOf (awM (ts0 1048576 8)) with
 | none => rw [ho] at h; cases h
 | some x =>
   obtain ⟨r, n, q, l⟩ := x
   rw [ho] at h
   simp only [Bool.and_eq_true, decide_eq_true_eq] at h
   obtain ⟨⟨rfl, rfl⟩, h3⟩ := h
   have h4 := eq_of_beq h3
   have hl : l = [⟨0, 0, 3, -1⟩, ⟨1, 0, 1, 1⟩, ⟨0, 5, 5, -1⟩] := by
    have e : (l.map fun e : Ent => (e.src, e.pos, e.len, e.lines)).map (fun t : Int × Int × Int × Int => (⟨t.1, t.2.1, t.2.2.1, t.2.2.2⟩ : Ent)) = l := by
     rw [List.map_map]
     exact List.map_id'' (fun _ => rfl) l
    rw [h4] at e
    exact e.symm
   unfold awM at ho
   obtain ⟨a, s1, e1, ho⟩ := okOf_bind ho
   obtain ⟨b, s2, e2, ho⟩ := okOf_bind ho
   obtain ⟨c, s3, e3, ho⟩ := okOf_bind ho
   obtain ⟨d, s4, e4, ho⟩ := okOf_bind ho
   cases ho
   rw [hl] at e4
   exact ⟨s1, s2, s3, s4, _, e1, e2, e3, e4⟩
set_option maxRecDepth 100000 in
set_option maxHeartbeats 3200000 in
theorem awake_any (F : Assn) (w : World) (hs : Sat F w) : Calls Tryz.prog 11 #[] w fun e w' => e = .returned (.bool true) ∧ Sat F w' := by
 obtain ⟨s1, s2, s3, s4, qr, f1, f2, f3, f4⟩ := aw_facts
 obtain ⟨L, t1, g1, h1⟩ := bind_out f3
 obtain ⟨R, t2, g2, h1⟩ := bind_out h1
 obtain ⟨whole, t3, g3, h1⟩ := bind_out h1
 obtain ⟨r1, t4, g4, h1⟩ := bind_out h1
 obtain ⟨r0, t5, g5, h1⟩ := bind_out h1
 have hno : ¬ 1024 < whole.kid.scraps - r1 + r0 + ((join (L.1 ++ [⟨1, 0, 1, 1⟩] ++ R.1)).length : Int) := fun hc => by rw [if_pos hc] at h1; cases h1
 rw [if_neg hno] at h1
 obtain ⟨p, t6, g6, h1⟩ := bind_out h1
 obtain ⟨q, t7, g7, h1⟩ := bind_out h1
 obtain ⟨m, t8, g8, h1⟩ := bind_out h1
 obtain ⟨x, t9, g9, h1⟩ := bind_out h1
 obtain ⟨y, t10, g10, h1⟩ := bind_out h1
 cases h1
 have hbd := fun B F w hE q => build_any ⟨0, 0, 0, 0⟩ (ts0 1048576 8) [⟨0, 0, 10, -1⟩] (.slice none 0 0) B F w hE q
 have HB : Aside (∀ (h : Th) (v : Value) (B F : Assn) (w : World), ReadsE B v [⟨0, 0, 10, -1⟩] → Sat (treeP h (ts0 1048576 8) * (B * F)) w →
  Calls Tryz.prog 16 #[.pointer (some ⟨h.t, 0, none⟩), v] w fun e w' => e = .returned (.tuple #[.int .i64 1, .int .i64 0]) ∧ Sat (treeP h s1 * (B * F)) w') := fun h v B F w hE q => by
  have := build_any h (ts0 1048576 8) [⟨0, 0, 10, -1⟩] v B F w hE q (by simp) (by rw [f1]; simp)
  rw [f1] at this
  exact this
 have HS : Aside (∀ (h : Th) (v : Value) (B F : Assn) (w : World), ReadsE B v [⟨1, 0, 1, 1⟩] → Sat (treeP h s1 * (B * F)) w →
  Calls Tryz.prog 21 #[.pointer (some ⟨h.t, 0, none⟩), .int .i64 1, .int .i64 3, .int .i64 2, v] w fun e w' => e = .returned (.tuple #[.int .i64 y.kid.page, .int .i64 0]) ∧ Sat (treeP h s3 * (B * F)) w') := fun h v B F w hE hq =>
  splice_main h s1 1 3 2 [⟨1, 0, 1, 1⟩] v B F w hE hq (by simp) (by decide) 10 s2 f2 (by omega) (by omega) (by omega) (by omega) (by simp [eBytes]) (by omega) L R whole r1 r0 t1 t2 t3 t4 t5 ⟨g1, g2, g3, g4, g5⟩ (.ok y.kid.page s3) (fun hc => absurd hc hno) (fun _ => ⟨p, q, m, x, y, t6, t7, t8, t9, s3, ⟨g6, g7, g8, g9, g10⟩, rfl⟩)
 have HL : Aside (∀ (h : Th) (F : Assn) (w : World), Sat (treeP h s3 * F) w →
  Calls Tryz.prog 13 #[.pointer (some ⟨h.t, 0, none⟩), .int .i64 y.kid.page] w fun e w' => ∃ (a : Option Addr) (c : Nat), e = .returned (.tuple #[.slice a 3 c, .int .i64 0]) ∧ Sat (rw TEn 4 (.slice a 3 c) [.int .i64 0, .int .i64 0, .int .i64 3, .int .i64 (-1), .int .i64 1, .int .i64 0, .int .i64 1, .int .i64 1, .int .i64 0, .int .i64 5, .int .i64 5, .int .i64 (-1)] * (treeP h s4 * F)) w') := fun h F w hq => by
  have := list_tany h s3 y.kid.page F w hq (by rw [f4]; simp)
  rw [f4] at this
  exact this
 obtain ⟨pg, hpg⟩ : ∃ z, y.kid.page = z := ⟨_, rfl⟩
 rw [hpg] at HS HL
 clear hpg g1 g2 g3 g4 g5 g6 g7 g8 g9 g10 hno f1 f2 f3 f4 hbd
 go_enter Tryz.func11, Tryz.ntmps11
 go_wp2_with fail
 with_reducible refine Calls.mono (set_any 1048576 8 F w hs (by omega) (by omega) (by omega) (by omega)) ?_
 rintro e w1 ⟨b, h, rfl, q1⟩
 obtain ⟨s0, hs0⟩ : ∃ s, ts0 1048576 8 = s := ⟨_, rfl⟩
 rw [hs0] at q1 HB
 haveI := q1.i
 obtain ⟨N1, hN1⟩ : ∃ M, w1.heap.size = M := ⟨_, rfl⟩
 clear hs0
 go_wp2_with fail
 try rw [hN1]
 have q2 : Sat (treeP h s0 * (Sl.block N1 TEn (erow ⟨0, 0, 10, -1⟩) * (Sl.block b TBe [.pointer (some ⟨h.D, 0, none⟩), .pointer (some ⟨h.C, 0, none⟩), .pointer (some ⟨h.S, 0, none⟩), .pointer (some ⟨h.t, 0, none⟩)] * F))) (w1.alloc (.cells #[.int .i64 0, .int .i64 0, .int .i64 10, .int .i64 (-1)] TEn)) := by
  rw [← hN1]
  show Sat (treeP h s0 * (Sl.block w1.heap.size TEn [.int .i64 0, .int .i64 0, .int .i64 10, .int .i64 (-1)] * _)) _
  exact satI_eq (by ac_rfl)
 with_reducible refine Calls.mono (HB.out h _ _ _ _ (reads_one ⟨0, 0, 10, -1⟩ N1) q2) ?_
 rintro e w2 ⟨rfl, q3⟩
 haveI := q3.i
 obtain ⟨N2, hN2⟩ : ∃ M, w2.heap.size = M := ⟨_, rfl⟩
 clear hN1 q1 q2
 go_wp2_with fail
 try rw [hN2]
 have q4 : Sat (treeP h s1 * (Sl.block N2 TEn (erow ⟨1, 0, 1, 1⟩) * (Sl.block b TBe [.pointer (some ⟨h.D, 0, none⟩), .pointer (some ⟨h.C, 0, none⟩), .pointer (some ⟨h.S, 0, none⟩), .pointer (some ⟨h.t, 0, none⟩)] * F))) (w2.alloc (.cells #[.int .i64 1, .int .i64 0, .int .i64 1, .int .i64 1] TEn)) := by
  rw [← hN2]
  show Sat (treeP h s1 * (Sl.block w2.heap.size TEn [.int .i64 1, .int .i64 0, .int .i64 1, .int .i64 1] * _)) _
  exact satI_weak (C := Sl.block N1 TEn (erow ⟨0, 0, 10, -1⟩)) (by ac_rfl)
 with_reducible refine Calls.mono (HS.out h _ _ _ _ (reads_one ⟨1, 0, 1, 1⟩ N2) q4) ?_
 rintro e w3 ⟨rfl, q5⟩
 haveI := q5.i
 clear hN2 q3 q4
 go_wp2_with fail
 with_reducible refine Calls.mono (HL.out h _ _ (takeI (treeP h s3))) ?_
 rintro e w4 ⟨al, cl, rfl, q6⟩
 obtain ⟨g, rfl⟩ := row_some q6 (by omega)
 haveI := q6.i
 clear q5
 go_wp2
 go_ret
 exact ⟨rfl, keep1 F⟩
end Go.Proofs.YteecnkneceemjaaGreat
namespace Go.Proofs.YteecnkneceemjaaGreat
set_option linter.unusedSimpArgs false
set_option linter.unusedVariables false
open Go.RowKit Go.Sl Go.Dk Go.Tr
attribute [local go_sem ↓] Go.wp_at_zero Go.wp_at_succ
attribute [local go_sem] Go.Sl.cell_sat Go.Sl.frozen_sat
theorem does_any (h : Th) (s : TS) (mb b : Nat) (a1 : Option Addr) (c1 : Nat) (a2 : Option Addr) (c2 : Nat) (ms : List (Int × List Ent)) (vs : List Value) (G : Assn) (k f at_ n : Int) (put : List Ent) (v : Value) (Bp F : Assn) (w : World)
 (hP : Played s ms vs G) (hn0 : 0 < ms.length) (hn1 : ms.length ≤ 64) (hI : TInv true s) (hf : 10000 ≤ leftOps s) (hrm : 10000 ≤ roomOf s.sp) (hE : ReadsE Bp v put) (hpl : put.length ≤ 60)
 (hs : Sat (treeP h s * (G * (madeA mb a1 c1 a2 c2 ms.length (rootC ms) vs * (benchA b h * (Bp * F))))) w) :
 Calls Tryz.prog 12 #[.pointer (some ⟨mb, 0, none⟩), .pointer (some ⟨b, 0, none⟩), .agg #[.int .i64 k, .int .i64 f, .int .i64 at_, .int .i64 n, v]] w (DoesOut h s mb b ms.length Bp F) := by
 by_cases h1 : k = 1
 · exact does_build1 h s mb b a1 c1 a2 c2 ms vs G k f at_ n put v Bp F w h1 hP hn0 hn1 hI hf hrm hE hpl hs
 by_cases h2 : k = 2
 · exact does_build2 h s mb b a1 c1 a2 c2 ms vs G k f at_ n put v Bp F w h2 hP hn0 hn1 hI hf hrm hE hpl hs
 by_cases h3 : k = 3
 · exact does_splice h s mb b a1 c1 a2 c2 ms vs G k f at_ n put v Bp F w h3 hP hn0 hn1 hI hf hrm hE hpl hs
 · exact does_ask h s mb b a1 c1 a2 c2 ms vs G k f at_ n put v Bp F w h1 h2 h3 hP hn0 hn1 hI hf hE hpl hs
theorem block_rw {e s n g : Nat} {l : List Value} {F : Assn} {w : World} (hl : l.length = n * s) (hn : n ≤ 1099511627776) (hs : Sat (Sl.block g e l * F) w) : Sat (rw e s (.slice (some ⟨g, 0, none⟩) n n) l * F) w :=
 Sat.rw_shut (sp := []) hl (by simpa using hl) (Nat.le_refl _) (by unfold maxLen; omega) (by simpa using hs)
theorem ts0_left (r c : Int) : leftOps (ts0 r c) = 67108850 := by
 show (opsMax - 0) / 2 = 67108850
 unfold opsMax
 rfl
theorem below_is {A R : Assn} {w w' : World} [h : SatI A w'] [t : Take A (old w) R] : Below w.heap.size w w' := (h.out.take (old w)).old_below
structure CallT where
 k : Int
 f : Int
 pos : Int
 n : Int
 a : Option Addr
 c : Nat
 put : List Ent
def crowT (x : CallT) : List Value := [.int .i64 x.k, .int .i64 x.f, .int .i64 x.pos, .int .i64 x.n, .slice x.a x.put.length x.c]
structure PlayI (s : TS) (ms : List (Int × List Ent)) (vs : List Value) (G : Assn) (i : Nat) : Prop where
 pl : Played s ms vs G
 inv : TInv true s
 pos : 0 < ms.length
 len : ms.length ≤ i + 1
 ops : 100000 + (30 - i) * 5600 ≤ leftOps s
 room : 20000 + (30 - i) * 2600 ≤ roomOf s.sp
theorem played_zero (s : TS) (g : Nat) : Played s [(0, [])] [.slice none 0 0] 1 := ⟨rfl, fun i v p h1 h2 => by
 match i with
 | 0 => cases h1; cases h2; exact ⟨ReadsR.nil 4 _, .inl ⟨rfl, rfl⟩, good_nil⟩
 | i + 1 => simp at h1⟩
set_option maxRecDepth 100000 in
set_option maxHeartbeats 6400000 in
theorem treePlays_walk (a0 : Int) (va : Value) (cs : List CallT) (w : World) (hv : Rws w va 5 (cs.map crowT)) (hl : cs.length ≤ 9223372036854775807) (hcs : ∀ c ∈ cs, ReadsE (old w) (.slice c.a c.put.length c.c) c.put ∧ c.put.length ≤ 9223372036854775807) :
 Calls Tryz.prog 3 #[.int .i64 a0, va] w fun e w' => e = .returned (.bool true) ∧ Below w.heap.size w w' := by
 obtain ⟨va, vc, hvv⟩ := hv.len
 rw [List.length_map] at hvv
 subst hvv
 have HCS : Aside (∀ c ∈ cs, ReadsE (old w) (.slice c.a c.put.length c.c) c.put ∧ c.put.length ≤ 9223372036854775807) := hcs
 have HV : Aside (Rws w (.slice va cs.length vc) 5 (cs.map crowT)) := hv
 clear hcs hv
 obtain ⟨cap, hcap, hcb⟩ : ∃ j : Nat, a0 % 30 = (j : Int) ∧ j < 30 := ⟨(a0 % 30).toNat, by omega, by omega⟩
 have hpk := fun w => pick_any a0 30 w (by omega) (by omega)
 rw [hcap] at hpk
 have hw3 : IntKind.i64.wrap (3 + (cap : Int)) = 3 + (cap : Int) := IntWalk.i64_in _ (by omega)
 go_enter Tryz.func3, Tryz.ntmps3
 go_wp2_with fail
 with_reducible refine Calls.mono (hpk _) ?_
 rintro e w9 ⟨rfl, hw9⟩
 subst hw9
 go_wp2_with fail
 with_reducible refine Calls.mono (set_any 1073741824 (3 + (cap : Int)) (old w) w (Sat.old_self w) (by omega) (by omega) (by omega) (by omega)) ?_
 rintro e w1 ⟨b, h, rfl, q1⟩
 have hI0 := ts0_inv 1073741824 (3 + (cap : Int)) (by omega) (by omega) (by omega) (by omega) true (fun _ => by omega)
 have hroom0 := ts0_room 1073741824 (3 + (cap : Int))
 obtain ⟨s0, hs0⟩ : ∃ s, ts0 1073741824 (3 + (cap : Int)) = s := ⟨_, rfl⟩
 have hl0 : leftOps s0 = 67108850 := by rw [← hs0]; exact ts0_left _ _
 rw [hs0] at q1 hI0 hroom0
 have HS0 : Aside (PlayI s0 [(0, [])] [.slice none 0 0] 1 0) := ⟨played_zero s0 0, hI0, by simp, by simp, by omega, by omega⟩
 haveI := q1.i
 clear hs0 hpk hcap hI0 hroom0 hl0
 go_wp2_with fail
 with_reducible refine Calls.mono (awake_any _ _ q1) ?_
 rintro e w2 ⟨rfl, q2⟩
 haveI := q2.i
 clear q1
 obtain ⟨N, hN⟩ : ∃ N, w2.heap.size = N := ⟨_, rfl⟩
 go_wp2_with fail
 have q3 : Sat (Sl.block (N + 1) TLe [.slice none 0 0] * (Sl.block N TIn [.int .i64 0] * (Sl.block (N + 2) TMd [.slice (some ⟨N, 0, none⟩) 1 1, .slice (some ⟨N + 1, 0, none⟩) 1 1] * (treeP h s0 * (Sl.block b TBe [.pointer (some ⟨h.D, 0, none⟩), .pointer (some ⟨h.C, 0, none⟩), .pointer (some ⟨h.S, 0, none⟩), .pointer (some ⟨h.t, 0, none⟩)] * old w))))) (((w2.alloc (.cells #[.int .i64 0] TIn)).alloc (.cells #[.slice none 0 0] TLe)).alloc (.cells #[.slice (some ⟨N, 0, none⟩) 1 1, .slice (some ⟨N + 1, 0, none⟩) 1 1] TMd)) := by
  rw [← hN]
  exact satI_eq (by ac_rfl)
 try rw [hN]
 generalize (((w2.alloc (.cells #[.int .i64 0] TIn)).alloc (.cells #[.slice none 0 0] TLe)).alloc (.cells #[.slice (some ⟨N, 0, none⟩) 1 1, .slice (some ⟨N + 1, 0, none⟩) 1 1] TMd)) = w3 at q3 ⊢
 have q4 := block_rw (s := 1) (n := 1) rfl (by omega) q3
 have q5 := block_rw (s := 1) (n := 1) rfl (by omega) (q4.eq (sep_swap _ _ _))
 have q6 : Sat (treeP h s0 * (1 * (madeA (N + 2) (some ⟨N, 0, none⟩) 1 (some ⟨N + 1, 0, none⟩) 1 1 [.int .i64 0] [.slice none 0 0] * (benchA b h * (old w * 1))))) w3 := by
  rw [one_sep, sep_one]
  unfold madeA benchA
  exact q5.eq (by ac_rfl)
 obtain ⟨mb, hmb⟩ : ∃ m, N + 2 = m := ⟨_, rfl⟩
 rw [hmb] at q6 ⊢
 clear q2 q3 q4 q5 hN hmb this
 go_wp2_with fail
 go_loopg [7] 30 (fun g t7 wr => ∃ (i : Nat) (s : TS) (a1 : Option Addr) (c1 : Nat) (a2 : Option Addr) (c2 : Nat) (ms : List (Int × List Ent)) (vs : List Value) (G : Assn), t7 = .int .i64 i ∧ i ≤ 30 ∧ Aside (g = 30 - i) ∧ Aside (PlayI s ms vs G i) ∧
  Sat (treeP h s * (G * (madeA mb a1 c1 a2 c2 ms.length (rootC ms) vs * (benchA b h * (old w * 1))))) wr)
 case atStart => exact ⟨0, s0, some ⟨N, 0, none⟩, 1, some ⟨N + 1, 0, none⟩, 1, [(0, [])], [.slice none 0 0], 1, rfl, by omega, rfl, HS0, q6⟩
 case round =>
  clear q6 HS0
  obtain ⟨i, s, a1, c1, a2, c2, ms, vs, G, rfl, hi, A, P, hs⟩ := hrel
  by_cases hgo : i < cs.length ∧ i < 30
  · obtain ⟨hil, hi2⟩ := hgo
    have hi3 : (i : Int) < cs.length := by omega
    have hi4 : (i : Int) < 30 := by omega
    obtain ⟨⟨k, f, pos, n, ap, cp, put⟩, hx⟩ : ∃ x, cs[i]? = some x := ⟨cs[i], by simp [hil]⟩
    obtain ⟨rb, ro, e1, hcell⟩ := HV.out.at (show (cs.map crowT)[i]? = some (crowT ⟨k, f, pos, n, ap, cp, put⟩) by simp [hx])
    subst e1
    obtain ⟨hE, hpl⟩ := HCS.out _ (List.mem_of_getElem? hx)
    simp only at hE hpl
    haveI : OldAt w rb (ro + i * 5) (.int .i64 k) := ⟨by have := hcell 0 _ rfl; simpa using this⟩
    haveI : OldAt w rb (ro + i * 5 + 1) (.int .i64 f) := ⟨hcell 1 _ rfl⟩
    haveI : OldAt w rb (ro + i * 5 + 2) (.int .i64 pos) := ⟨hcell 2 _ rfl⟩
    haveI : OldAt w rb (ro + i * 5 + 3) (.int .i64 n) := ⟨hcell 3 _ rfl⟩
    haveI : OldAt w rb (ro + i * 5 + 4) (.slice ap put.length cp) := ⟨hcell 4 _ rfl⟩
    clear hcell hx
    by_cases hp : 60 < put.length
    · have hp' : (60 : Int) < put.length := by omega
      haveI := hs.i
      clear A P hE
      go_wp2
      go_ret
      exact ⟨rfl, below_is⟩
    · have hp' : ¬ (60 : Int) < put.length := by omega
      have hdo := does_any h s mb b a1 c1 a2 c2 ms vs G k f pos n put (.slice ap put.length cp) (old w) 1 wr P.out.pl P.out.pos (by have := P.out.len; omega) P.out.inv (by have := P.out.ops; omega) (by have := P.out.room; omega) hE (by omega) hs
      haveI := hs.i
      have HI : Aside (PlayI s ms vs G i) := P.out
      clear P hE
      go_wp2_with fail
      with_reducible refine Calls.mono hdo ?_
      rintro e w5 ⟨s', a3, c3, a4, c4, ms', vs', G', rfl, q7, hP', hm1, hm2, nx⟩
      clear hdo hs
      have HP' : Aside (PlayI s' ms' vs' G' (i + 1)) := by
       have p := HI.out
       have h1 := p.ops
       have h2 := p.room
       have h3 := p.pos
       have h4 := p.len
       have h5 := nx.left
       have h6 := nx.room
       exact ⟨hP', nx.inv, by omega, by omega, by omega, by omega⟩
      clear hP' nx
      go_wp2
      go_roundg (30 - (i + 1))
      case measure => have := A.out; omega
      case rel => exact ⟨i + 1, s', a3, c3, a4, c4, ms', vs', G', by go_num, by omega, rfl, HP', q7⟩
  · have hways : (¬ (i : Int) < cs.length) ∨ ((i : Int) < cs.length ∧ ¬ (i : Int) < 30) := by omega
    obtain ⟨nm, hnm⟩ : ∃ m, ms.length = m := ⟨_, rfl⟩
    obtain ⟨rs, hrs⟩ : ∃ x, rootC ms = x := ⟨_, rfl⟩
    have HF : Aside (Played s ms vs G ∧ TInv true s ∧ ms.length = nm ∧ rootC ms = rs ∧ 100000 ≤ leftOps s ∧ nm ≤ 31) := ⟨P.out.pl, P.out.inv, hnm, hrs, by have := P.out.ops; omega, by have := P.out.len; omega⟩
    have hnm0 : 0 < nm := by have := P.out.pos; omega
    have hnm1 : nm ≤ 31 := HF.out.2.2.2.2.2
    rw [hnm, hrs] at hs
    unfold madeA benchA at hs
    have q0 : Sat (treeP h s * (G * (Sl.block mb TMd [.slice a1 nm c1, .slice a2 nm c2] * (rw TIn 1 (.slice a1 nm c1) rs * (rw TLe 1 (.slice a2 nm c2) vs * (Sl.block b TBe [.pointer (some ⟨h.D, 0, none⟩), .pointer (some ⟨h.C, 0, none⟩), .pointer (some ⟨h.S, 0, none⟩), .pointer (some ⟨h.t, 0, none⟩)] * old w)))))) wr := hs.eq (by rw [sep_one]; ac_rfl)
    obtain ⟨g1, rfl⟩ := row_some (hs := q0.take (rw TIn 1 (.slice a1 nm c1) rs)) (by omega)
    obtain ⟨g2, rfl⟩ := row_some (hs := q0.take (rw TLe 1 (.slice a2 nm c2) vs)) (by omega)
    clear A P hnm hrs hs hgo
    haveI := q0.i
    have hqr : ∀ (j : Nat) w, (j : Int) < nm → (Sem.run Tryz.prog (Instr.indexAt 28 (Value.slice (some ⟨g1, 0, none⟩) nm c1) (Value.int IntKind.i64 j)) w) = .ok (.pointer (some ⟨g1, j, none⟩)) w := by
     intro j w hj
     have hj0 : (0 : Int) ≤ j := by omega
     simp [go_sem, *]
    have HQR : Aside (∀ (j : Nat) w, (j : Int) < nm → (Sem.run Tryz.prog (Instr.indexAt 28 (Value.slice (some ⟨g1, 0, none⟩) nm c1) (Value.int IntKind.i64 j)) w) = .ok (.pointer (some ⟨g1, j, none⟩)) w) := hqr
    clear hqr
    rcases hways with h1 | ⟨h1, h2⟩
    all_goals
     go_wp2_with fail
     go_loopg [8] nm (fun g t8 wr => ∃ (j : Nat) (s2 : TS), t8 = .int .i64 j ∧ j ≤ nm ∧ Aside (g = nm - j) ∧ Aside (Played s2 ms vs G ∧ TInv true s2 ∧ 2047 * (40 - j) ≤ leftOps s2) ∧ Sat (treeP h s2 * (G * (Sl.block mb TMd [.slice (some ⟨g1, 0, none⟩) nm c1, .slice (some ⟨g2, 0, none⟩) nm c2] * (rw TIn 1 (.slice (some ⟨g1, 0, none⟩) nm c1) rs * (rw TLe 1 (.slice (some ⟨g2, 0, none⟩) nm c2) vs * (Sl.block b TBe [.pointer (some ⟨h.D, 0, none⟩), .pointer (some ⟨h.C, 0, none⟩), .pointer (some ⟨h.S, 0, none⟩), .pointer (some ⟨h.t, 0, none⟩)] * old w)))))) wr)
     case atStart => exact ⟨0, s, rfl, by omega, rfl, ⟨HF.out.1, HF.out.2.1, by have := HF.out.2.2.2.2.1; omega⟩, q0⟩
     case round =>
      clear q0
      obtain ⟨j, s2, rfl, hj, A, P, q7⟩ := hrel
      haveI := q7.i
      by_cases hjn : j < nm
      · have hjn' : (j : Int) < nm := by omega
        obtain ⟨v, r, l, hv, hr, hle, hrt, hg, -⟩ := P.out.1.at (i := j) (by rw [HF.out.2.2.1]; exact hjn)
        rw [HF.out.2.2.2.1] at hr
        obtain ⟨al, cl, rfl, hl1, hl2⟩ := hle.v
        haveI : At rs j (.int .i64 r) := ⟨hr⟩
        have hlen := hg.1.2.2
        have hls := fun F w q => list_call h s2 r l F w q P.out.2.1 hrt (by have := P.out.2.2; omega)
        have hsm := fun a c F w (q : Sat (rw TEn 4 (.slice a l.length c) (ecs l) * (G * F)) w) => (rsame_any l l (.slice a l.length c) (.slice al l.length cl) (rw TEn 4 (.slice a l.length c) (ecs l) * G) F w (ReadsR.left (ReadsR.rw q ⟨a, c, rfl⟩)) (ReadsR.right hle) (q.eq (sep_swap2 _ _ _)) (by omega) (by omega)).mono fun e w' (hx : _ ∧ _) => show e = .returned (.bool true) ∧ Sat (rw TEn 4 (.slice a l.length c) (ecs l) * G * F) w' from ⟨by rw [hx.1]; simp, hx.2⟩
        obtain ⟨nl, hnl⟩ : ∃ x, l.length = x := ⟨_, rfl⟩
        rw [hnl] at hsm hl1 hlen hls hv
        haveI : At vs j (.slice al nl cl) := ⟨hv⟩
        have hqr := fun w => HQR.out j w hjn'
        have HP : Aside (Played s2 ms vs G ∧ 2047 * (40 - j) ≤ leftOps s2) := ⟨P.out.1, P.out.2.2⟩
        clear hv hr hle hrt hg hnl P
        go_wp2_with fail
        go_cut [9, 10] (fun t9 t10 wx => ∃ (a : Option Addr) (c : Nat) (s3 : TS), t9 = .slice a nl c ∧ t10 = .int .i64 0 ∧ Aside (Nxt s2 s3 2047 0) ∧ Sat (rw TEn 4 (.slice a nl c) (ecs l) * (treeP h s3 * (G * (Sl.block mb TMd [.slice (some ⟨g1, 0, none⟩) nm c1, .slice (some ⟨g2, 0, none⟩) nm c2] * (rw TIn 1 (.slice (some ⟨g1, 0, none⟩) nm c1) rs * (rw TLe 1 (.slice (some ⟨g2, 0, none⟩) nm c2) vs * (Sl.block b TBe [.pointer (some ⟨h.D, 0, none⟩), .pointer (some ⟨h.C, 0, none⟩), .pointer (some ⟨h.S, 0, none⟩), .pointer (some ⟨h.t, 0, none⟩)] * old w))))))) wx)
        case first =>
         go_region_held3 (fun w' => w'.cell? ⟨b, 3, none⟩ = some (.pointer (some ⟨h.t, 0, none⟩)) ∧ w'.cell? ⟨mb, 0, none⟩ = some (.slice (some ⟨g1, 0, none⟩) nm c1) ∧ w'.cell? ⟨g1, j, none⟩ = some (.int .i64 r)) (first | exact ⟨cell_sat _ _ _, cell_sat _ _ _, cell_sat _ _ _⟩) (first
          | (go_at_call 13; with_reducible refine Calls.mono (hls _ _ (takeI (treeP h s2))) ?_; rintro e w4 ⟨a, c, s3, rfl, q8, nx⟩; haveI := q8.i))
         all_goals
          go_wp2_with fail
          go_meet
          exact ⟨a, c, s3, rfl, rfl, nx, keep8 _ _ _ _ _ _ _ _⟩
        case rest =>
         obtain ⟨a, c, s3, rfl, rfl, NX, q8⟩ := hcut
         clear q7 hls hqr
         haveI := q8.i
         go_wp2_with fail
         with_reducible refine Calls.mono (hsm a c _ _ (takeI2 (rw TEn 4 (.slice a nl c) (ecs l)) G)) ?_
         rintro e w5 ⟨rfl, q9⟩
         haveI := q9.i
         clear hsm q8
         go_wp2
         go_roundg (nm - (j + 1))
         case measure => have := A.out; omega
         case rel => exact ⟨j + 1, s3, by go_num, by omega, rfl, ⟨HP.out.1.same NX.out.le, NX.out.inv, by have := NX.out.left; have := HP.out.2; omega⟩, keep7 _ _ _ _ _ _ _⟩
      · have hjn' : ¬ (j : Int) < nm := by omega
        clear A P
        go_wp2
        go_ret
        exact ⟨rfl, below_is⟩
end Go.Proofs.YteecnkneceemjaaGreat
namespace Go.Proofs.YteecnkneceemjaaGreat
set_option linter.unusedSimpArgs false
set_option linter.unusedVariables false
open Go.RowKit Go.Sl Go.Dk Go.Tr Go.ChangeShapes Go.WideShapes
theorem five_of {r : List Value} (h : r.length = 5) : ∃ a b c d e, r = [a, b, c, d, e] := by
 match r, h with
 | [a, b, c, d, e], _ => exact ⟨a, b, c, d, e, rfl⟩
theorem rowsP_map {α : Type} {f : α → List Value} {p : α → Prop} : ∀ l : List (List Value), (∀ r ∈ l, ∃ c, r = f c ∧ p c) → ∃ cs : List α, l = cs.map f ∧ ∀ c ∈ cs, p c
 | [], _ => ⟨[], rfl, fun _ h => by cases h⟩
 | r :: l, hl => by
   obtain ⟨c, rfl, hc⟩ := hl r (by simp)
   obtain ⟨cs, rfl, hcs⟩ := rowsP_map l fun r' hr' => hl r' (by simp [hr'])
   exact ⟨c :: cs, rfl, fun x hx => by
    rcases List.mem_cons.1 hx with h | h
    · rw [h]; exact hc
    · exact hcs x h⟩
theorem calls14_in {H : Type} {enc : TypeId × Value → H} {w : World} {base : Nat} {spare : Nat → Bool} {held : Bool} {a : Option Addr} {len cap : Nat}
 (h : ∃ fuel x, DataW.trod enc Tryz.prog w base spare held fuel 22 [.slice a len cap] = some x) :
 ∃ cs : List CallT, Rws w (.slice a len cap) 5 (cs.map crowT) ∧ cs.length = len ∧ len ≤ 9223372036854775807 ∧ ∀ c ∈ cs, ReadsE (old w) (.slice c.a c.put.length c.c) c.put ∧ c.put.length ≤ 9223372036854775807 := by
 obtain ⟨fuel, x, hx⟩ := h
 obtain ⟨rs, h1, h2, h3, h4⟩ := rows_of_trod (s := 5) Tryz.underlying22 (by kernel_rfl) (by omega) hx
 obtain ⟨cs, rfl, hcs⟩ := rowsP_map (f := crowT) (p := fun c => ReadsE (old w) (.slice c.a c.put.length c.c) c.put ∧ c.put.length ≤ 9223372036854775807) rs (by
  intro r hr
  obtain ⟨n, y, hy⟩ := h4 r hr
  obtain ⟨hl, n', hf⟩ := field_of_trod Tryz.underlying34 hy
  obtain ⟨v0, v1, v2, v3, v4, rfl⟩ := five_of (hl.trans (by kernel_rfl))
  have c0 : Tryz.prog.cellsOf 3 = 1 := by kernel_rfl
  have c3 : Tryz.prog.cellsOf 32 = 1 := by kernel_rfl
  obtain ⟨_, y0, e0⟩ := fieldE_at Tryz.underlying34 hy 0 3 0 1 rfl c0
  obtain ⟨_, y1, e1⟩ := fieldE_at Tryz.underlying34 hy 1 3 1 1 rfl c0
  obtain ⟨_, y2, e2⟩ := fieldE_at Tryz.underlying34 hy 2 3 2 1 rfl c0
  obtain ⟨_, y3, e3⟩ := fieldE_at Tryz.underlying34 hy 3 3 3 1 rfl c0
  obtain ⟨n4, y4, e4⟩ := fieldE_at Tryz.underlying34 hy 4 32 4 1 rfl c3
  obtain ⟨z0, rfl, w0⟩ := int_of_trod Tryz.underlying3 e0
  obtain ⟨z1, rfl, w1⟩ := int_of_trod Tryz.underlying3 e1
  obtain ⟨z2, rfl, w2⟩ := int_of_trod Tryz.underlying3 e2
  obtain ⟨z3, rfl, w3⟩ := int_of_trod Tryz.underlying3 e3
  have hs : ∃ a n c, v4 = .slice a n c := by
   rcases DataW.trod_slice Tryz.underlying32 e4 with ⟨h0, _⟩ | ⟨a, len, cap, elems, rest, n, _, h1, _⟩
   · exact ⟨none, 0, 0, by simpa using h0⟩
   · exact ⟨some a, len, cap, by simpa using h1⟩
  obtain ⟨pa, pn, pc, rfl⟩ := hs
  obtain ⟨l, hl, hE⟩ := entries_in ⟨n4, y4, e4⟩
  subst hl
  obtain ⟨_, _, q, q1, q2⟩ := hE.v
  cases q
  exact ⟨⟨z0, z1, z2, z3, pa, pc, l⟩, rfl, hE, by show l.length ≤ _; omega⟩)
 exact ⟨cs, h1, by simpa using h2, h3, hcs⟩
end Go.Proofs.YteecnkneceemjaaGreat
