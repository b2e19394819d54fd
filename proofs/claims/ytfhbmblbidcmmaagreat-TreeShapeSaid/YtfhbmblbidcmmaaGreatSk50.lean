/-
  Of all roots that are made the pages are a tree in the form of the document, and just these are told, and each is in use. No condition. (part 50)
-/
import Derived.Test.YtfhbmblbidcmmaaGreatSk48
import Derived.Test.YtfhbmblbidcmmaaGreatSk49
import Derived.Test.YtfhbmblbidcmmaaGreatSk47
import Derived.Test.YtfhbmblbidcmmaaGreatSk42
import Derived.Test.YtfhbmblbidcmmaaGreatSk36
import Derived.Test.YtfhbmblbidcmmaaGreatSk44
import Derived.Test.YtfhbmblbidcmmaaGreatSk23
import Derived.Test.YtfhbmblbidcmmaaGreatSk39
import Derived.Test.YtfhbmblbidcmmaaGreatSk34
import Derived.Handy
set_option linter.unusedSimpArgs false
set_option linter.unusedVariables false
namespace Go.Proofs.YtfhbmblbidcmmaaGreat
set_option linter.unusedSimpArgs false
set_option linter.unusedVariables false
open Go.RowKit Go.Sl Go.Dk Go.Tr
attribute [local go_sem ↓] Go.wp_at_zero Go.wp_at_succ
attribute [local go_sem] Go.Sl.cell_sat Go.Sl.frozen_sat
variable [TopN]
set_option maxRecDepth 100000 in
set_option maxHeartbeats 6400000 in
theorem does_build2 (h : Th) (s : TS) (mb b : Nat) (a1 : Option Addr) (c1 : Nat) (a2 : Option Addr) (c2 : Nat) (ms : List (Int × List Ent)) (vs : List Value) (G : Assn) (k f at_ n : Int) (put : List Ent) (v : Value) (Bp F : Assn) (w : World)
 (hk : k = 2) (hP : Played s ms vs G) (hn0 : 0 < ms.length) (hn1 : ms.length ≤ 64) (hI : TInv true s) (hf : 10000 ≤ leftOps s) (hrm : 10000 ≤ roomOf s.sp) (hE : ReadsE Bp v put) (hpl : put.length ≤ 60)
 (hs : Sat (treeP h s * (G * (madeA mb a1 c1 a2 c2 ms.length (rootC ms) vs * (benchA b h * (Bp * F))))) w) :
 Calls Tryz.prog 48 #[.pointer (some ⟨mb, 0, none⟩), .pointer (some ⟨b, 0, none⟩), .agg #[.int .i64 k, .int .i64 f, .int .i64 at_, .int .i64 n, v]] w (DoesOut h s mb b ms.length Bp F) := by
 obtain ⟨nm, hnm⟩ : ∃ m, ms.length = m := ⟨_, rfl⟩
 have HNM : Aside (ms.length = nm) := hnm
 obtain ⟨j, hj, hjn⟩ : ∃ j : Nat, f % (ms.length : Int) = (j : Int) ∧ j < ms.length := ⟨(f % (ms.length : Int)).toNat, by have := Int.emod_nonneg f (show (ms.length : Int) ≠ 0 by omega); omega, by have := Int.emod_lt_of_pos f (show 0 < (ms.length : Int) by omega); omega⟩
 obtain ⟨vj, r, l, hv, hr, hle, hrt, hg, -⟩ := hP.at hjn
 obtain ⟨al, cl, rfl, hl1, hl2⟩ := hle.v
 obtain ⟨rs, hrs⟩ : ∃ x, rootC ms = x := ⟨_, rfl⟩
 have HPL : Aside (Played s ms vs G) := hP
 have HL : Aside (ReadsE G (.slice al l.length cl) l ∧ Rt (nodeAt s) r l ∧ GoodL l) := ⟨hle, hrt, hg⟩
 have HRS : Aside (rootC ms = rs) := hrs
 have HE : Aside (ReadsE Bp v put ∧ put.length ≤ 60) := ⟨hE, hpl⟩
 have HLT : Aside (∀ (F : Assn) (w : World), Sat (Bp * F) w → Calls Tryz.prog 113 #[v] w fun e w' => ∃ g c, e = .returned (.slice (some ⟨g, 0, none⟩) put.length c) ∧ Sat (lentA g c put * (Bp * F)) w') := fun F w h => lent_any put v Bp F w hE h (by omega)
 rw [hrs, hnm] at hs
 rw [hrs] at hr
 rw [hnm] at hj hjn hn0 hn1 ⊢
 haveI : At rs j (.int .i64 r) := ⟨hr⟩
 haveI : At vs j (.slice al l.length cl) := ⟨hv⟩
 have hgl := hg.1.2.2
 obtain ⟨nl, hnl⟩ : ∃ z, l.length = z := ⟨_, rfl⟩
 have HZ : Aside (l.length = nl) := hnl
 rw [hnl] at hl1 hgl
 unfold madeA benchA at hs
 have q0 : Sat (treeP h s * (G * (Sl.block mb TMd [.slice a1 nm c1, .slice a2 nm c2] * (rw TIn 1 (.slice a1 nm c1) rs * (rw TLe 1 (.slice a2 nm c2) vs * (Sl.block b TBe [.pointer (some ⟨h.D, 0, none⟩), .pointer (some ⟨h.C, 0, none⟩), .pointer (some ⟨h.S, 0, none⟩), .pointer (some ⟨h.t, 0, none⟩)] * (Bp * F))))))) w := hs.eq (by ac_rfl)
 have hjlt : (j : Int) < nm := by omega
 have hj0 : (0 : Int) ≤ j := by omega
 obtain ⟨g1, rfl⟩ := row_some (hs := q0.take (rw TIn 1 (.slice a1 nm c1) rs)) (by omega)
 obtain ⟨g2, rfl⟩ := row_some (hs := q0.take (rw TLe 1 (.slice a2 nm c2) vs)) (by omega)
 have hqr : ∀ g w, (Sem.run Tryz.prog (Instr.indexAt 45 (Value.slice (some ⟨g, 0, none⟩) nm c1) (Value.int IntKind.i64 j)) w) = .ok (.pointer (some ⟨g, j, none⟩)) w := by
  intro g w
  simp [go_sem, *]
 have HFIN : Aside (∀ (w' : World) (s' : TS) (Gn : Assn) (a3 a4 a5 : Option Addr) (c3 c4 c5 : Nat) (r' : Int) (out : List Ent), Nxt s s' 3000 2600 → ReadsE (Gn * G) (.slice a5 out.length c5) out → Rt (nodeAt s') r' out → GoodL out →
  Sat (treeP h s' * (Gn * (G * (Sl.block mb TMd [.slice a3 (nm + 1) c3, .slice a4 (nm + 1) c4] * (rw TIn 1 (.slice a3 (nm + 1) c3) (rs ++ [.int .i64 r']) * (rw TLe 1 (.slice a4 (nm + 1) c4) (vs ++ [.slice a5 out.length c5]) * (Sl.block b TBe [.pointer (some ⟨h.D, 0, none⟩), .pointer (some ⟨h.C, 0, none⟩), .pointer (some ⟨h.S, 0, none⟩), .pointer (some ⟨h.t, 0, none⟩)] * (Bp * F)))))))) w' → DoesOut h s mb b nm Bp F (.returned (.bool true)) w') := fun w' s' Gn a3 a4 a5 c3 c4 c5 r' out nx k1 k2 k3 q => by
  refine ⟨s', a3, c3, a4, c4, ms ++ [(r', out)], vs ++ [.slice a5 out.length c5], Gn * G, rfl, ?_, HPL.out.more nx.le k1 k2 k3, ?_, ?_, nx⟩
  · have e1 : (ms ++ [(r', out)]).length = nm + 1 := by rw [List.length_append, HNM.out]; rfl
    have e2 : rootC (ms ++ [(r', out)]) = rs ++ [.int .i64 r'] := by rw [← HRS.out]; simp [rootC]
    rw [e1, e2]
    unfold madeA benchA
    exact q.eq (by ac_rfl)
  · rw [List.length_append, HNM.out]; omega
  · rw [List.length_append, HNM.out]; exact Nat.le_refl _
 obtain ⟨n0, hn0', hn0b⟩ : ∃ j : Nat, n % 200 = (j : Int) ∧ j < 200 := ⟨(n % 200).toNat, by omega, by omega⟩
 obtain ⟨sd, hsd', hsdb⟩ : ∃ j : Nat, at_ % 50 = (j : Int) ∧ j < 50 := ⟨(at_ % 50).toNat, by omega, by omega⟩
 have hmy := fun F w q => many_any' n0 sd F w q (by omega) (by omega)
 obtain ⟨lst, hlst⟩ : ∃ l, manyL n0 sd = l := ⟨_, rfl⟩
 have hln : lst.length = n0 := by rw [← hlst, manyL_len]
 have hbd := fun g c F w (h1 : Sat (treeP h s * (lentA g c lst * F)) w) => bld_any h s lst (.slice (some ⟨g, 0, none⟩) lst.length c) (lentA g c lst) F w (lent_reads (h1.eq (sep_swap _ _ _))).1 h1 hI (by omega) (by omega) (by omega)
 have hrb := fun g c F w (h1 : Sat (lentA g c lst * F) w) => rbuild_any lst (.slice (some ⟨g, 0, none⟩) lst.length c) (lentA g c lst) F w (lent_reads h1).1 h1 (by omega)
 have hl3 := fun a c F w (h1 : Sat (rw TEn 4 (.slice a lst.length c) (ecs lst) * F) w) => lent_any lst (.slice a lst.length c) (rw TEn 4 (.slice a lst.length c) (ecs lst)) F w (ReadsR.rw h1 ⟨a, c, rfl⟩) h1 (by omega)
 rw [hlst] at hmy
 have HLN : Aside (lst.length = n0) := hln
 rw [hln] at hbd hrb hl3
 have e1 : (k == 1) = false := by simp [hk]
 have e2 : (k == 2) = true := by simp [hk]
 clear hk hlst hln
 clear hle hrt hg hP hs hrs hnm hr hv hE hnl
 go_enter Tryz.func48, Tryz.ntmps48
 haveI := q0.i
 go_wp2_with fail
 obtain ⟨N, hN⟩ : ∃ N, w.heap.size = N := ⟨_, rfl⟩
 have q1 : Sat (treeP h s * (G * (Sl.block N TOp [.int .i64 k, .int .i64 f, .int .i64 at_, .int .i64 n, v] * (Sl.block mb TMd [.slice (some ⟨g1, 0, none⟩) nm c1, .slice (some ⟨g2, 0, none⟩) nm c2] * (rw TIn 1 (.slice (some ⟨g1, 0, none⟩) nm c1) rs * (rw TLe 1 (.slice (some ⟨g2, 0, none⟩) nm c2) vs * (Sl.block b TBe [.pointer (some ⟨h.D, 0, none⟩), .pointer (some ⟨h.C, 0, none⟩), .pointer (some ⟨h.S, 0, none⟩), .pointer (some ⟨h.t, 0, none⟩)] * (Bp * F)))))))) (w.alloc (.cells #[.int .i64 k, .int .i64 f, .int .i64 at_, .int .i64 n, v] TOp)) := by
  rw [← hN]
  show Sat (_ * (_ * (Sl.block w.heap.size TOp [.int .i64 k, .int .i64 f, .int .i64 at_, .int .i64 n, v] * _))) _
  exact satI_eq (by ac_rfl)
 try rw [hN]
 generalize w.alloc (.cells #[.int .i64 k, .int .i64 f, .int .i64 at_, .int .i64 n, v] TOp) = w0 at q1 ⊢
 clear hN q0 this
 haveI := q1.i
 go_region_held3 (fun w' => w'.cell? ⟨N, 1, none⟩ = some (.int .i64 f) ∧ w'.cell? ⟨mb, 0, none⟩ = some (.slice (some ⟨g1, 0, none⟩) nm c1)) (first | exact ⟨cell_sat _ _ _, cell_sat _ _ _⟩) (first | (go_at_call 21; refine (pick_any f nm _ (by omega) (by omega)).mono ?_; rintro e w9 ⟨rfl, rfl⟩))
 go_wp2_with fail
 go_region
 go_wp2_with fail
 with_reducible refine Calls.mono (HLT.out _ _ (takeI Bp)) ?_
 rintro e w2 ⟨gq, cq, rfl, q2⟩
 haveI := q2.i
 clear q1
 go_wp2_with fail
 have hp1 := fun w => pick_any n 200 w (by omega) (by omega)
 have hp2 := fun w => pick_any at_ 50 w (by omega) (by omega)
 rw [hn0'] at hp1
 rw [hsd'] at hp2
 clear hn0' hsd'
 go_cut [10] (fun t10 wx => ∃ (gp cp : Nat), t10 = .slice (some ⟨gp, 0, none⟩) n0 cp ∧ Sat (treeP h s * (lentA gp cp lst * (G * (Sl.block N TOp [.int .i64 k, .int .i64 f, .int .i64 at_, .int .i64 n, v] * (Sl.block mb TMd [.slice (some ⟨g1, 0, none⟩) nm c1, .slice (some ⟨g2, 0, none⟩) nm c2] * (rw TIn 1 (.slice (some ⟨g1, 0, none⟩) nm c1) rs * (rw TLe 1 (.slice (some ⟨g2, 0, none⟩) nm c2) vs * (Sl.block b TBe [.pointer (some ⟨h.D, 0, none⟩), .pointer (some ⟨h.C, 0, none⟩), .pointer (some ⟨h.S, 0, none⟩), .pointer (some ⟨h.t, 0, none⟩)] * (Bp * F))))))))) wx)
 case first => as_aux_lemma =>
  go_region_held3 (fun w' => w'.cell? ⟨N, 2, none⟩ = some (.int .i64 at_) ∧ w'.cell? ⟨N, 3, none⟩ = some (.int .i64 n)) (first | exact ⟨cell_sat _ _ _, cell_sat _ _ _⟩) (first
   | (go_at_call 21; with_reducible refine Calls.mono (hp1 _) ?_; rintro e w9 ⟨rfl, rfl⟩)
   | (go_at_call 21; with_reducible refine Calls.mono (hp2 _) ?_; rintro e w9 ⟨rfl, rfl⟩)
   | (go_at_call 35; with_reducible refine Calls.mono (hmy _ _ q2) ?_; rintro e w9 ⟨am, cm, rfl, q9⟩; haveI := q9.i)
   | (go_at_call 113; with_reducible refine Calls.mono (hl3 _ _ _ _ (takeI (rw TEn 4 (.slice am n0 cm) (ecs lst)))) ?_; rintro e w10 ⟨gp, cp, rfl, q10⟩; haveI := q10.i))
  all_goals
   go_wp2_with fail
   go_meet
   exact ⟨gp, cp, rfl, keep9 _ _ _ _ _ _ _ _ _⟩
 case rest =>
  obtain ⟨gp, cp, rfl, q3⟩ := hcut
  haveI := q3.i
  have hkp : True := trivial
  clear q2 hmy hl3 hp1 hp2
  have hbd2 := hbd gp cp
  have hrb2 := hrb gp cp
  have hbad := @buildR_bad lst
  have hgood := @buildR_good lst
  obtain ⟨⟨cd, out⟩, hbr⟩ : ∃ x, buildR lst = x := ⟨_, rfl⟩
  rw [hbr] at hbd2 hrb2 hbad hgood
  simp only at hbd2 hbad hgood
  clear hbd hrb
  go_wp2_with fail
  with_reducible refine Calls.mono (hbd2 _ _ (takeI2 (treeP h s) (lentA gp cp lst))) ?_
  rintro e w3 ⟨r', s1, rfl, q3, nx1, hrt1, hr0⟩
  unfold vi2
  have hRG : Rt (nodeAt s1) r' out ∧ GoodL out := by
   by_cases hcd : cd = 0
   · exact ⟨hrt1 hcd, hgood hcd⟩
   · rw [hbad hcd, hr0 hcd]
     exact ⟨.inl ⟨rfl, rfl⟩, good_nil⟩
  have hz := rt_zero hRG.1
  obtain ⟨no, hno⟩ : ∃ x, out.length = x := ⟨_, rfl⟩
  have hz2 : r' = 0 ↔ no = 0 := by rw [hz, ← hno, List.length_eq_zero_iff]
  have HRG : Aside (Rt (nodeAt s1) r' out ∧ GoodL out ∧ Nxt s s1 0 2048 ∧ out.length = no) := ⟨hRG.1, hRG.2, nx1, hno⟩
  have hr1 : Aside (cd ≠ 0 → r' = 0) := hr0
  haveI := q3.i
  clear hbd2 hbad hgood hrt1 hr0 hz hbr nx1 hRG
  go_wp2_with fail
  with_reducible refine Calls.mono (hrb2 _ _ (takeI (lentA gp cp lst))) ?_
  rintro e w4 hLC
  obtain ⟨a5, c5, Gn, rfl, hRd, q4⟩ := hLC
  have HRD : Aside (ReadsE (Gn * lentA gp cp lst) (.slice a5 out.length c5) out) := hRd
  simp only at q4 ⊢
  rw [hno]
  haveI := q4.i
  clear q3 hrb2 hRd hno
  have HFIN2 : Aside (∀ (w' : World) (a3 a4 : Option Addr) (c3 c4 : Nat), Sat (treeP h s1 * (Gn * (lentA gp cp lst * (G * (Sl.block mb TMd [.slice a3 (nm + 1) c3, .slice a4 (nm + 1) c4] * (rw TIn 1 (.slice a3 (nm + 1) c3) (rs ++ [.int .i64 r']) * (rw TLe 1 (.slice a4 (nm + 1) c4) (vs ++ [.slice a5 no c5]) * (Sl.block b TBe [.pointer (some ⟨h.D, 0, none⟩), .pointer (some ⟨h.C, 0, none⟩), .pointer (some ⟨h.S, 0, none⟩), .pointer (some ⟨h.t, 0, none⟩)] * (Bp * F))))))))) w' → DoesOut h s mb b nm Bp F (.returned (.bool true)) w') := fun w' a3 a4 c3 c4 q => by
   have hq := HFIN.out w' s1 (Gn * lentA gp cp lst) a3 a4 a5 c3 c4 c5 r' out (HRG.out.2.2.1.more (by omega) (by omega)) (ReadsR.left HRD.out) HRG.out.1 HRG.out.2.1
   rw [HRG.out.2.2.2] at hq
   exact hq (q.eq (by ac_rfl))
  obtain ⟨iR, ER⟩ := elemIS
  obtain ⟨iL, EL⟩ := elemEs
  clear HFIN
  go_upto_region 24 with (fail)
  go_cut [200] (fun t200 wx => t200 = .bool false ∧ Sat (treeP h s1 * (Gn * (lentA gp cp lst * (G * (Sl.block N TOp [.int .i64 k, .int .i64 f, .int .i64 at_, .int .i64 n, v] * (Sl.block mb TMd [.slice (some ⟨g1, 0, none⟩) nm c1, .slice (some ⟨g2, 0, none⟩) nm c2] * (rw TIn 1 (.slice (some ⟨g1, 0, none⟩) nm c1) rs * (rw TLe 1 (.slice (some ⟨g2, 0, none⟩) nm c2) vs * (Sl.block b TBe [.pointer (some ⟨h.D, 0, none⟩), .pointer (some ⟨h.C, 0, none⟩), .pointer (some ⟨h.S, 0, none⟩), .pointer (some ⟨h.t, 0, none⟩)] * (Bp * F)))))))))) wx)
  case first => as_aux_lemma =>
   have hnn : (0 : Int) ≤ no := by omega
   by_cases hr2 : r' = 0
   · obtain rfl : no = 0 := hz2.1 hr2
     subst hr2
     by_cases hcd : cd = 0
     · subst hcd
       go_wp2_with fail
       go_meet
       exact ⟨rfl, keep11 _ _ _ _ _ _ _ _ _ _ _⟩
     · have hcd1 : (cd != 0) = true := by simp [hcd]
       go_wp2_with fail
       go_meet
       exact ⟨rfl, keep11 _ _ _ _ _ _ _ _ _ _ _⟩
   · have hcd : cd = 0 := Classical.not_not.1 fun hq => hr2 (hr1.out hq)
     subst hcd
     have hno1 : ((no : Int) == 0) = false := by
      have := mt hz2.2 hr2
      simp
      omega
     have hr3 : (r' == 0) = false := by simp [hr2]
     go_wp2_with fail
     go_meet
     exact ⟨rfl, keep11 _ _ _ _ _ _ _ _ _ _ _⟩
  case rest => as_aux_lemma =>
   obtain ⟨rfl, q5⟩ := hcut
   clear q4
   haveI := q5.i
   go_upto_region 26 with (fail)
   refine Dr.wpB_start (fun w' => w'.cell? ⟨mb, 0, none⟩ = some (.slice (some ⟨g1, 0, none⟩) nm c1) ∧ w'.cell? ⟨mb, 1, none⟩ = some (.slice (some ⟨g2, 0, none⟩) nm c2)) [16, 17, 18, 19, 20, 21] (by kernel_rfl) ⟨cell_sat _ _ _, cell_sat _ _ _⟩ (fun hHeld => ?_)
   refine Dr.wpB_pure 0 (v := ?v0) (by simp only [List.getElem?_toArray, List.getElem?_cons_succ, List.getElem?_cons_zero]; rfl) (by kernel_rfl) ?hQ0 (.inl ⟨?hw0, fun w' => ?hy0⟩) ?_
   case hy0 => go_simp; try (with_reducible rfl)
   case hQ0 => exact fun _ _ _ h => h
   case hw0 => rfl
   simp only [Act.put, List.setIfInBounds_toArray, List.set_cons_zero, List.set_cons_succ]
   refine Dr.wpB_pure 1 (v := ?v1) (by simp only [List.getElem?_toArray, List.getElem?_cons_succ, List.getElem?_cons_zero]; rfl) (by kernel_rfl) ?hQ1 (.inl ⟨?hw1, fun w' => ?hy1⟩) ?_
   case hy1 => go_simp; try (with_reducible rfl)
   case hQ1 => exact fun _ _ _ h => h
   case hw1 => rfl
   simp only [Act.put, List.setIfInBounds_toArray, List.set_cons_zero, List.set_cons_succ]
   refine Dr.wpB_pure 2 (v := ?v2) (by simp only [List.getElem?_toArray, List.getElem?_cons_succ, List.getElem?_cons_zero]; rfl) (by kernel_rfl) ?hQ2 (.inl ⟨?hw2, fun w' => ?hy2⟩) ?_
   case hy2 => go_simp; try (with_reducible rfl)
   case hQ2 => exact fun _ _ _ h => h
   case hw2 => rfl
   simp only [Act.put, List.setIfInBounds_toArray, List.set_cons_zero, List.set_cons_succ]
   refine Dr.wpB_pure 3 (v := ?v3) (by simp only [List.getElem?_toArray, List.getElem?_cons_succ, List.getElem?_cons_zero]; rfl) (by kernel_rfl) ?hQ3 (.inl ⟨?hw3, fun w' => ?hy3⟩) ?_
   case hy3 => go_simp; try (with_reducible rfl)
   case hQ3 => exact fun _ _ _ h => h
   case hw3 => rfl
   simp only [Act.put, List.setIfInBounds_toArray, List.set_cons_zero, List.set_cons_succ]
   refine Dr.wpB_pure 4 (v := ?v4) (by simp only [List.getElem?_toArray, List.getElem?_cons_succ, List.getElem?_cons_zero]; rfl) (by kernel_rfl) ?hQ4 (.inl ⟨?hw4, fun w' => ?hy4⟩) ?_
   case hy4 => go_simp; try (with_reducible rfl)
   case hQ4 => exact fun _ _ _ h => h
   case hw4 => rfl
   simp only [Act.put, List.setIfInBounds_toArray, List.set_cons_zero, List.set_cons_succ]
   refine Dr.wpB_take 5 (v := ?v5) (by simp only [List.getElem?_toArray, List.getElem?_cons_succ, List.getElem?_cons_zero]; rfl) (by kernel_rfl) ?hQ5 (.inl ⟨?hw5, fun w' hw => ?hy5⟩) hHeld ?_
   case hy5 => (try dsimp only at hw); go_simp; try (with_reducible rfl)
   case hQ5 => exact fun _ _ _ h => h
   case hw5 => rfl
   simp only [Act.put, List.setIfInBounds_toArray, List.set_cons_zero, List.set_cons_succ]
   refine Dr.wpB_pure 6 (v := ?v6) (by simp only [List.getElem?_toArray, List.getElem?_cons_succ, List.getElem?_cons_zero]; rfl) (by kernel_rfl) ?hQ6 (.inl ⟨?hw6, fun w' => ?hy6⟩) ?_
   case hy6 => go_simp; try (with_reducible rfl)
   case hQ6 => exact fun _ _ _ h => h
   case hw6 => rfl
   simp only [Act.put, List.setIfInBounds_toArray, List.set_cons_zero, List.set_cons_succ]
   refine Dr.wpB_pure 9 (v := ?v9) (by simp only [List.getElem?_toArray, List.getElem?_cons_succ, List.getElem?_cons_zero]; rfl) (by kernel_rfl) ?hQ9 (.inl ⟨?hw9, fun w' => ?hy9⟩) ?_
   case hy9 => go_simp; try (with_reducible rfl)
   case hQ9 => exact fun _ _ _ h => h
   case hw9 => rfl
   simp only [Act.put, List.setIfInBounds_toArray, List.set_cons_zero, List.set_cons_succ]
   refine Dr.wpB_pure 10 (v := ?v10) (by simp only [List.getElem?_toArray, List.getElem?_cons_succ, List.getElem?_cons_zero]; rfl) (by kernel_rfl) ?hQ10 (.inl ⟨?hw10, fun w' => ?hy10⟩) ?_
   case hy10 => go_simp; try (with_reducible rfl)
   case hQ10 => exact fun _ _ _ h => h
   case hw10 => rfl
   simp only [Act.put, List.setIfInBounds_toArray, List.set_cons_zero, List.set_cons_succ]
   refine Dr.wpB_pure 11 (v := ?v11) (by simp only [List.getElem?_toArray, List.getElem?_cons_succ, List.getElem?_cons_zero]; rfl) (by kernel_rfl) ?hQ11 (.inl ⟨?hw11, fun w' => ?hy11⟩) ?_
   case hy11 => go_simp; try (with_reducible rfl)
   case hQ11 => exact fun _ _ _ h => h
   case hw11 => rfl
   simp only [Act.put, List.setIfInBounds_toArray, List.set_cons_zero, List.set_cons_succ]
   refine Dr.wpB_take 12 (v := ?v12) (by simp only [List.getElem?_toArray, List.getElem?_cons_succ, List.getElem?_cons_zero]; rfl) (by kernel_rfl) ?hQ12 (.inl ⟨?hw12, fun w' hw => ?hy12⟩) hHeld ?_
   case hy12 => (try dsimp only at hw); go_simp; try (with_reducible rfl)
   case hQ12 => exact fun _ _ _ h => h
   case hw12 => rfl
   simp only [Act.put, List.setIfInBounds_toArray, List.set_cons_zero, List.set_cons_succ]
   refine Dr.wpB_pure 13 (v := ?v13) (by simp only [List.getElem?_toArray, List.getElem?_cons_succ, List.getElem?_cons_zero]; rfl) (by kernel_rfl) ?hQ13 (.inl ⟨?hw13, fun w' => ?hy13⟩) ?_
   case hy13 => go_simp; try (with_reducible rfl)
   case hQ13 => exact fun _ _ _ h => h
   case hw13 => rfl
   simp only [Act.put, List.setIfInBounds_toArray, List.set_cons_zero, List.set_cons_succ]
   refine Dr.wpB_two 7 14 (by simp only [List.getElem?_toArray, List.getElem?_cons_succ, List.getElem?_cons_zero]; rfl) (by simp only [List.getElem?_toArray, List.getElem?_cons_succ, List.getElem?_cons_zero]; rfl) (by kernel_rfl) ?_ ?_
   · go_wp2_with (fail)
     refine Dr.nextQ_n ⟨⟨cell_sat _ _ _, cell_sat _ _ _⟩, ?_⟩
     refine Dr.wpB_two 8 14 (by simp only [List.getElem?_toArray, List.getElem?_cons_succ, List.getElem?_cons_zero]; rfl) (by simp only [List.getElem?_toArray, List.getElem?_cons_succ, List.getElem?_cons_zero]; rfl) (by kernel_rfl) ?_ ?_
     · go_wp2_with (at_builtin; refine wpl_append_same ER rfl (.tmp 206) (.tmp 208) rfl rfl rfl (takeI (rw TIn 1 (.slice (some ⟨g1, 0, none⟩) nm c1) rs)) (Src.new (e := TIn) (s := 1) (vs := [.int .i64 r']) (takeI (Sl.block _ TIn [.int .i64 r'])) rfl (by intro u hu; simp at hu; rcases hu with rfl; rfl)) (by unfold maxLen; omega) (by omega) ?_; intro a7 c7 w7 q7 z7; clear z7; haveI := q7.i)
       refine Dr.nextQ_n ⟨⟨cell_sat _ _ _, cell_sat _ _ _⟩, ?_⟩
       refine Dr.wpB_one 14 (by simp only [List.getElem?_toArray, List.getElem?_cons_succ, List.getElem?_cons_zero]; rfl) (by kernel_rfl) ?_
       go_wp2_with (fail)
       refine Dr.nextQ_n ⟨⟨cell_sat _ _ _, cell_sat _ _ _⟩, ?_⟩
       refine Dr.wpB_one 15 (by simp only [List.getElem?_toArray, List.getElem?_cons_succ, List.getElem?_cons_zero]; rfl) (by kernel_rfl) ?_
       go_wp2_with (at_builtin; refine wpl_append_same EL rfl (.tmp 213) (.tmp 215) rfl rfl rfl (takeI (rw TLe 1 (.slice (some ⟨g2, 0, none⟩) nm c2) vs)) (Src.new (e := TLe) (s := 1) (vs := [.slice a5 no c5]) (takeI (Sl.block _ TLe [.slice a5 no c5])) rfl (by intro u hu; simp at hu; rcases hu with rfl; rfl)) (by unfold maxLen; omega) (by omega) ?_; intro a8 c8 w8 q8 z8; clear z8; haveI := q8.i)
       refine Dr.nextQ_n ⟨⟨cell_sat _ _ _, cell_sat _ _ _⟩, ?_⟩
       refine Dr.wpB_tail [16, 17, 18, 19, 20, 21] (os := [_, _, _, _, _, _]) (by decide) (by simp only [List.map_cons, List.map_nil, List.getElem?_toArray, List.getElem?_cons_succ, List.getElem?_cons_zero]; rfl) (by kernel_rfl) ?_
       go_wp2
       go_ret
       exact HFIN2.out _ a7 a8 c7 c8 (keep10 _ _ _ _ _ _ _ _ _ _)
     · go_wp2_with (fail)
       refine Dr.nextQ_n ⟨⟨cell_sat _ _ _, cell_sat _ _ _⟩, ?_⟩
       refine Dr.wpB_one 8 (by simp only [List.getElem?_toArray, List.getElem?_cons_succ, List.getElem?_cons_zero]; rfl) (by kernel_rfl) ?_
       go_wp2_with (at_builtin; refine wpl_append_same ER rfl (.tmp 206) (.tmp 208) rfl rfl rfl (takeI (rw TIn 1 (.slice (some ⟨g1, 0, none⟩) nm c1) rs)) (Src.new (e := TIn) (s := 1) (vs := [.int .i64 r']) (takeI (Sl.block _ TIn [.int .i64 r'])) rfl (by intro u hu; simp at hu; rcases hu with rfl; rfl)) (by unfold maxLen; omega) (by omega) ?_; intro a7 c7 w7 q7 z7; clear z7; haveI := q7.i)
       refine Dr.nextQ_n ⟨⟨cell_sat _ _ _, cell_sat _ _ _⟩, ?_⟩
       refine Dr.wpB_one 15 (by simp only [List.getElem?_toArray, List.getElem?_cons_succ, List.getElem?_cons_zero]; rfl) (by kernel_rfl) ?_
       go_wp2_with (at_builtin; refine wpl_append_same EL rfl (.tmp 213) (.tmp 215) rfl rfl rfl (takeI (rw TLe 1 (.slice (some ⟨g2, 0, none⟩) nm c2) vs)) (Src.new (e := TLe) (s := 1) (vs := [.slice a5 no c5]) (takeI (Sl.block _ TLe [.slice a5 no c5])) rfl (by intro u hu; simp at hu; rcases hu with rfl; rfl)) (by unfold maxLen; omega) (by omega) ?_; intro a8 c8 w8 q8 z8; clear z8; haveI := q8.i)
       refine Dr.nextQ_n ⟨⟨cell_sat _ _ _, cell_sat _ _ _⟩, ?_⟩
       refine Dr.wpB_tail [16, 17, 18, 19, 20, 21] (os := [_, _, _, _, _, _]) (by decide) (by simp only [List.map_cons, List.map_nil, List.getElem?_toArray, List.getElem?_cons_succ, List.getElem?_cons_zero]; rfl) (by kernel_rfl) ?_
       go_wp2
       go_ret
       exact HFIN2.out _ a7 a8 c7 c8 (keep10 _ _ _ _ _ _ _ _ _ _)
   · go_wp2_with (fail)
     refine Dr.nextQ_n ⟨⟨cell_sat _ _ _, cell_sat _ _ _⟩, ?_⟩
     refine Dr.wpB_one 7 (by simp only [List.getElem?_toArray, List.getElem?_cons_succ, List.getElem?_cons_zero]; rfl) (by kernel_rfl) ?_
     go_wp2_with (fail)
     refine Dr.nextQ_n ⟨⟨cell_sat _ _ _, cell_sat _ _ _⟩, ?_⟩
     refine Dr.wpB_one 8 (by simp only [List.getElem?_toArray, List.getElem?_cons_succ, List.getElem?_cons_zero]; rfl) (by kernel_rfl) ?_
     go_wp2_with (at_builtin; refine wpl_append_same ER rfl (.tmp 206) (.tmp 208) rfl rfl rfl (takeI (rw TIn 1 (.slice (some ⟨g1, 0, none⟩) nm c1) rs)) (Src.new (e := TIn) (s := 1) (vs := [.int .i64 r']) (takeI (Sl.block _ TIn [.int .i64 r'])) rfl (by intro u hu; simp at hu; rcases hu with rfl; rfl)) (by unfold maxLen; omega) (by omega) ?_; intro a7 c7 w7 q7 z7; clear z7; haveI := q7.i)
     refine Dr.nextQ_n ⟨⟨cell_sat _ _ _, cell_sat _ _ _⟩, ?_⟩
     refine Dr.wpB_one 15 (by simp only [List.getElem?_toArray, List.getElem?_cons_succ, List.getElem?_cons_zero]; rfl) (by kernel_rfl) ?_
     go_wp2_with (at_builtin; refine wpl_append_same EL rfl (.tmp 213) (.tmp 215) rfl rfl rfl (takeI (rw TLe 1 (.slice (some ⟨g2, 0, none⟩) nm c2) vs)) (Src.new (e := TLe) (s := 1) (vs := [.slice a5 no c5]) (takeI (Sl.block _ TLe [.slice a5 no c5])) rfl (by intro u hu; simp at hu; rcases hu with rfl; rfl)) (by unfold maxLen; omega) (by omega) ?_; intro a8 c8 w8 q8 z8; clear z8; haveI := q8.i)
     refine Dr.nextQ_n ⟨⟨cell_sat _ _ _, cell_sat _ _ _⟩, ?_⟩
     refine Dr.wpB_tail [16, 17, 18, 19, 20, 21] (os := [_, _, _, _, _, _]) (by decide) (by simp only [List.map_cons, List.map_nil, List.getElem?_toArray, List.getElem?_cons_succ, List.getElem?_cons_zero]; rfl) (by kernel_rfl) ?_
     go_wp2
     go_ret
     exact HFIN2.out _ a7 a8 c7 c8 (keep10 _ _ _ _ _ _ _ _ _ _)
end Go.Proofs.YtfhbmblbidcmmaaGreat
namespace Go.Proofs.YtfhbmblbidcmmaaGreat
set_option linter.unusedSimpArgs false
set_option linter.unusedVariables false
open Go.RowKit Go.Sl Go.Dk Go.Tr
attribute [local go_sem ↓] Go.wp_at_zero Go.wp_at_succ
attribute [local go_sem] Go.Sl.cell_sat Go.Sl.frozen_sat
theorem spliceR_bad {l put : List Ent} {at_ n : Int} (h : (spliceR l at_ n put).1 ≠ 0) : (spliceR l at_ n put).2 = [] := by
 unfold spliceR at h ⊢
 split
 · rfl
 rename_i h1
 rw [if_neg h1] at h
 split
 · rfl
 rename_i h2
 rw [if_neg h2] at h
 split
 · rfl
 rename_i h3
 rw [if_neg h3] at h
 split
 · rename_i h4
   rw [if_pos h4] at h
   exact absurd rfl h
 rename_i h4
 rw [if_neg h4] at h
 split
 · rfl
 · rename_i h5
   rw [if_neg h5] at h
   exact absurd rfl h
theorem sep_swap2 (A B C : Assn) : A * (B * C) = A * B * C := by ac_rfl
variable [TopN]
set_option maxRecDepth 100000 in
set_option maxHeartbeats 6400000 in
theorem does_splice (h : Th) (s : TS) (mb b : Nat) (a1 : Option Addr) (c1 : Nat) (a2 : Option Addr) (c2 : Nat) (ms : List (Int × List Ent)) (vs : List Value) (G : Assn) (k f at_ n : Int) (put : List Ent) (v : Value) (Bp F : Assn) (w : World)
 (hk : k = 3) (hP : Played s ms vs G) (hn0 : 0 < ms.length) (hn1 : ms.length ≤ 64) (hI : TInv true s) (hf : 10000 ≤ leftOps s) (hrm : 10000 ≤ roomOf s.sp) (hE : ReadsE Bp v put) (hpl : put.length ≤ 60)
 (hs : Sat (treeP h s * (G * (madeA mb a1 c1 a2 c2 ms.length (rootC ms) vs * (benchA b h * (Bp * F))))) w) :
 Calls Tryz.prog 48 #[.pointer (some ⟨mb, 0, none⟩), .pointer (some ⟨b, 0, none⟩), .agg #[.int .i64 k, .int .i64 f, .int .i64 at_, .int .i64 n, v]] w (DoesOut h s mb b ms.length Bp F) := by
 obtain ⟨nm, hnm⟩ : ∃ m, ms.length = m := ⟨_, rfl⟩
 have HNM : Aside (ms.length = nm) := hnm
 obtain ⟨j, hj, hjn⟩ : ∃ j : Nat, f % (ms.length : Int) = (j : Int) ∧ j < ms.length := ⟨(f % (ms.length : Int)).toNat, by have := Int.emod_nonneg f (show (ms.length : Int) ≠ 0 by omega); omega, by have := Int.emod_lt_of_pos f (show 0 < (ms.length : Int) by omega); omega⟩
 obtain ⟨vj, r, l, hv, hr, hle, hrt, hg, -⟩ := hP.at hjn
 obtain ⟨al, cl, rfl, hl1, hl2⟩ := hle.v
 obtain ⟨rs, hrs⟩ : ∃ x, rootC ms = x := ⟨_, rfl⟩
 have HPL : Aside (Played s ms vs G) := hP
 have HL : Aside (ReadsE G (.slice al l.length cl) l ∧ Rt (nodeAt s) r l ∧ GoodL l) := ⟨hle, hrt, hg⟩
 have HRS : Aside (rootC ms = rs) := hrs
 have HE : Aside (ReadsE Bp v put ∧ put.length ≤ 60) := ⟨hE, hpl⟩
 have HLT : Aside (∀ (F : Assn) (w : World), Sat (Bp * F) w → Calls Tryz.prog 113 #[v] w fun e w' => ∃ g c, e = .returned (.slice (some ⟨g, 0, none⟩) put.length c) ∧ Sat (lentA g c put * (Bp * F)) w') := fun F w h => lent_any put v Bp F w hE h (by omega)
 rw [hrs, hnm] at hs
 rw [hrs] at hr
 rw [hnm] at hj hjn hn0 hn1 ⊢
 haveI : At rs j (.int .i64 r) := ⟨hr⟩
 haveI : At vs j (.slice al l.length cl) := ⟨hv⟩
 have hgl := hg.1.2.2
 obtain ⟨nl, hnl⟩ : ∃ z, l.length = z := ⟨_, rfl⟩
 have HZ : Aside (l.length = nl) := hnl
 rw [hnl] at hl1 hgl
 unfold madeA benchA at hs
 have q0 : Sat (treeP h s * (G * (Sl.block mb TMd [.slice a1 nm c1, .slice a2 nm c2] * (rw TIn 1 (.slice a1 nm c1) rs * (rw TLe 1 (.slice a2 nm c2) vs * (Sl.block b TBe [.pointer (some ⟨h.D, 0, none⟩), .pointer (some ⟨h.C, 0, none⟩), .pointer (some ⟨h.S, 0, none⟩), .pointer (some ⟨h.t, 0, none⟩)] * (Bp * F))))))) w := hs.eq (by ac_rfl)
 have hjlt : (j : Int) < nm := by omega
 have hj0 : (0 : Int) ≤ j := by omega
 obtain ⟨g1, rfl⟩ := row_some (hs := q0.take (rw TIn 1 (.slice a1 nm c1) rs)) (by omega)
 obtain ⟨g2, rfl⟩ := row_some (hs := q0.take (rw TLe 1 (.slice a2 nm c2) vs)) (by omega)
 have hqr : ∀ g w, (Sem.run Tryz.prog (Instr.indexAt 45 (Value.slice (some ⟨g, 0, none⟩) nm c1) (Value.int IntKind.i64 j)) w) = .ok (.pointer (some ⟨g, j, none⟩)) w := by
  intro g w
  simp [go_sem, *]
 have HFIN : Aside (∀ (w' : World) (s' : TS) (Gn : Assn) (a3 a4 a5 : Option Addr) (c3 c4 c5 : Nat) (r' : Int) (out : List Ent), Nxt s s' 3000 2600 → ReadsE (Gn * G) (.slice a5 out.length c5) out → Rt (nodeAt s') r' out → GoodL out →
  Sat (treeP h s' * (Gn * (G * (Sl.block mb TMd [.slice a3 (nm + 1) c3, .slice a4 (nm + 1) c4] * (rw TIn 1 (.slice a3 (nm + 1) c3) (rs ++ [.int .i64 r']) * (rw TLe 1 (.slice a4 (nm + 1) c4) (vs ++ [.slice a5 out.length c5]) * (Sl.block b TBe [.pointer (some ⟨h.D, 0, none⟩), .pointer (some ⟨h.C, 0, none⟩), .pointer (some ⟨h.S, 0, none⟩), .pointer (some ⟨h.t, 0, none⟩)] * (Bp * F)))))))) w' → DoesOut h s mb b nm Bp F (.returned (.bool true)) w') := fun w' s' Gn a3 a4 a5 c3 c4 c5 r' out nx k1 k2 k3 q => by
  refine ⟨s', a3, c3, a4, c4, ms ++ [(r', out)], vs ++ [.slice a5 out.length c5], Gn * G, rfl, ?_, HPL.out.more nx.le k1 k2 k3, ?_, ?_, nx⟩
  · have e1 : (ms ++ [(r', out)]).length = nm + 1 := by rw [List.length_append, HNM.out]; rfl
    have e2 : rootC (ms ++ [(r', out)]) = rs ++ [.int .i64 r'] := by rw [← HRS.out]; simp [rootC]
    rw [e1, e2]
    unfold madeA benchA
    exact q.eq (by ac_rfl)
  · rw [List.length_append, HNM.out]; omega
  · rw [List.length_append, HNM.out]; exact Nat.le_refl _
 have hL4 : ∀ h : Nat, 2 * 4 ^ h ≤ l.length → h ≤ 4 := fun q hq => by
  rcases Nat.lt_or_ge 4 q with h1 | h1
  · have : 4 ^ 5 ≤ 4 ^ q := Nat.pow_le_pow_right (by omega) h1
    omega
  · exact h1
 have hsp := fun g c F w (h1 : Sat (treeP h s * (lentA g c put * F)) w) => splice_call h s r at_ n l put (.slice (some ⟨g, 0, none⟩) put.length c) (lentA g c put) F w (lent_reads (h1.eq (sep_swap _ _ _))).1 h1 (by omega) hI hrt hg.2 4 (by omega) hL4 (by omega) (by omega)
 have hrb := fun F w (h1 : Sat (G * (Bp * F)) w) => rsplice_any l put at_ n (.slice al l.length cl) v G (G * Bp) F w hle (ReadsR.left hle) (ReadsR.right hE) (h1.eq (sep_swap2 _ _ _)) hg (by omega)
 have hkp := fun g c F w (h1 : Sat (lentA g c put * (Bp * F)) w) => kept_any put g c v Bp F w HE.out.1 h1 (by have := HE.out.2; omega)
 have hbad := @spliceR_bad l put at_ n
 have hgood := @spliceR_good l put at_ n hg
 obtain ⟨⟨cd, out⟩, hbr⟩ : ∃ x, spliceR l at_ n put = x := ⟨_, rfl⟩
 rw [hbr] at hsp hrb hbad hgood
 simp only at hsp hbad hgood
 have HGD : Aside ((cd ≠ 0 → out = []) ∧ (cd = 0 → GoodL out)) := ⟨hbad, hgood⟩
 obtain ⟨np, hnp'⟩ : ∃ x, put.length = x := ⟨_, rfl⟩
 have hpe : put = [] ↔ np = 0 := by rw [← hnp', List.length_eq_zero_iff]
 have HPE : Aside (put = [] ↔ np = 0) := hpe
 rw [hnp'] at hsp hkp HLT hpl
 rw [HZ.out] at hrb
 have e1 : (k == 1) = false := by simp [hk]
 have e2 : (k == 2) = false := by simp [hk]
 have e3 : (k == 3) = true := by simp [hk]
 clear hk hbad hgood hbr hL4 hpe hnp'
 clear hle hrt hg hP hs hrs hnm hr hv hE hnl
 go_enter Tryz.func48, Tryz.ntmps48
 haveI := q0.i
 go_wp2_with fail
 obtain ⟨N, hN⟩ : ∃ N, w.heap.size = N := ⟨_, rfl⟩
 have q1 : Sat (treeP h s * (G * (Sl.block N TOp [.int .i64 k, .int .i64 f, .int .i64 at_, .int .i64 n, v] * (Sl.block mb TMd [.slice (some ⟨g1, 0, none⟩) nm c1, .slice (some ⟨g2, 0, none⟩) nm c2] * (rw TIn 1 (.slice (some ⟨g1, 0, none⟩) nm c1) rs * (rw TLe 1 (.slice (some ⟨g2, 0, none⟩) nm c2) vs * (Sl.block b TBe [.pointer (some ⟨h.D, 0, none⟩), .pointer (some ⟨h.C, 0, none⟩), .pointer (some ⟨h.S, 0, none⟩), .pointer (some ⟨h.t, 0, none⟩)] * (Bp * F)))))))) (w.alloc (.cells #[.int .i64 k, .int .i64 f, .int .i64 at_, .int .i64 n, v] TOp)) := by
  rw [← hN]
  show Sat (_ * (_ * (Sl.block w.heap.size TOp [.int .i64 k, .int .i64 f, .int .i64 at_, .int .i64 n, v] * _))) _
  exact satI_eq (by ac_rfl)
 try rw [hN]
 generalize w.alloc (.cells #[.int .i64 k, .int .i64 f, .int .i64 at_, .int .i64 n, v] TOp) = w0 at q1 ⊢
 clear hN q0 this
 haveI := q1.i
 go_region_held3 (fun w' => w'.cell? ⟨N, 1, none⟩ = some (.int .i64 f) ∧ w'.cell? ⟨mb, 0, none⟩ = some (.slice (some ⟨g1, 0, none⟩) nm c1)) (first | exact ⟨cell_sat _ _ _, cell_sat _ _ _⟩) (first | (go_at_call 21; refine (pick_any f nm _ (by omega) (by omega)).mono ?_; rintro e w9 ⟨rfl, rfl⟩))
 go_wp2_with fail
 go_region
 go_wp2_with fail
 with_reducible refine Calls.mono (HLT.out _ _ (takeI Bp)) ?_
 rintro e w2 ⟨gp, cp, rfl, q2⟩
 haveI := q2.i
 clear q1
 go_wp2_with fail
 go_cut [15, 16] (fun t15 t16 wx => ∃ (r' : Int) (s1 : TS), t15 = .int .i64 r' ∧ t16 = .int .i64 cd ∧ Aside (Nxt s s1 200 2600 ∧ (cd = 0 → Rt (nodeAt s1) r' out) ∧ (cd ≠ 0 → r' = 0) ∧ (cd = 0 → n = 0 → put = [] → r' = r)) ∧ Sat (treeP h s1 * (lentA gp cp put * (G * (Sl.block N TOp [.int .i64 k, .int .i64 f, .int .i64 at_, .int .i64 n, v] * (Sl.block mb TMd [.slice (some ⟨g1, 0, none⟩) nm c1, .slice (some ⟨g2, 0, none⟩) nm c2] * (rw TIn 1 (.slice (some ⟨g1, 0, none⟩) nm c1) rs * (rw TLe 1 (.slice (some ⟨g2, 0, none⟩) nm c2) vs * (Sl.block b TBe [.pointer (some ⟨h.D, 0, none⟩), .pointer (some ⟨h.C, 0, none⟩), .pointer (some ⟨h.S, 0, none⟩), .pointer (some ⟨h.t, 0, none⟩)] * (Bp * F))))))))) wx)
 case first => as_aux_lemma =>
  go_region_held3 (fun w' => w'.cell? ⟨N, 2, none⟩ = some (.int .i64 at_) ∧ w'.cell? ⟨N, 3, none⟩ = some (.int .i64 n) ∧ w'.cell? ⟨b, 3, none⟩ = some (.pointer (some ⟨h.t, 0, none⟩))) (first | exact ⟨cell_sat _ _ _, cell_sat _ _ _, cell_sat _ _ _⟩) (first
   | (go_at_call 33; with_reducible refine Calls.mono (hsp gp cp _ _ (takeI2 (treeP h s) (lentA gp cp put))) ?_; rintro e w3 ⟨r', s1, rfl, q3, nx1, hrt1, hr0, hsm⟩; unfold vi2; haveI := q3.i))
  all_goals
   go_wp2_with fail
   go_meet
   exact ⟨r', s1, rfl, rfl, ⟨nx1.more (by omega) (by omega), hrt1, hr0, hsm⟩, keep9 _ _ _ _ _ _ _ _ _⟩
 case rest =>
  obtain ⟨r', s1, rfl, rfl, HS, q3⟩ := hcut
  haveI := q3.i
  clear q2 hsp
  have hRG : Rt (nodeAt s1) r' out ∧ GoodL out := by
   obtain ⟨-, hrt1, hr0, -⟩ := HS.out
   by_cases hcd : cd = 0
   · exact ⟨hrt1 hcd, HGD.out.2 hcd⟩
   · rw [HGD.out.1 hcd, hr0 hcd]
     exact ⟨.inl ⟨rfl, rfl⟩, good_nil⟩
  have hz := rt_zero hRG.1
  obtain ⟨no, hno⟩ : ∃ x, out.length = x := ⟨_, rfl⟩
  have hz2 : r' = 0 ↔ no = 0 := by rw [hz, ← hno, List.length_eq_zero_iff]
  have HRG : Aside (Rt (nodeAt s1) r' out ∧ GoodL out ∧ Nxt s s1 200 2600 ∧ out.length = no) := ⟨hRG.1, hRG.2, HS.out.1, hno⟩
  have hr1 : Aside (cd ≠ 0 → r' = 0) := HS.out.2.2.1
  have hsame : Aside (cd = 0 → n = 0 → np = 0 → r' = r) := fun x y z => HS.out.2.2.2 x y (HPE.out.2 z)
  rw [HZ.out]
  clear hz hRG
  go_wp2_with fail
  with_reducible refine Calls.mono (hrb _ _ (takeI2 G Bp)) ?_
  rintro e w4 hLC
  obtain ⟨a5, c5, Gn, rfl, hRd, q4⟩ := hLC
  have HRD : Aside (ReadsE (Gn * G) (.slice a5 out.length c5) out) := hRd
  simp only at q4 ⊢
  rw [hno]
  haveI := q4.i
  clear q3 hrb hRd hno
  have HFIN2 : Aside (∀ (w' : World) (a3 a4 : Option Addr) (c3 c4 : Nat), Sat (treeP h s1 * (Gn * (lentA gp cp put * (G * (Sl.block mb TMd [.slice a3 (nm + 1) c3, .slice a4 (nm + 1) c4] * (rw TIn 1 (.slice a3 (nm + 1) c3) (rs ++ [.int .i64 r']) * (rw TLe 1 (.slice a4 (nm + 1) c4) (vs ++ [.slice a5 no c5]) * (Sl.block b TBe [.pointer (some ⟨h.D, 0, none⟩), .pointer (some ⟨h.C, 0, none⟩), .pointer (some ⟨h.S, 0, none⟩), .pointer (some ⟨h.t, 0, none⟩)] * (Bp * F))))))))) w' → DoesOut h s mb b nm Bp F (.returned (.bool true)) w') := fun w' a3 a4 c3 c4 q => by
   have hq := HFIN.out w' s1 Gn a3 a4 a5 c3 c4 c5 r' out (HRG.out.2.2.1.more (by omega) (by omega)) HRD.out HRG.out.1 HRG.out.2.1
   rw [HRG.out.2.2.2] at hq
   haveI := q.i
   exact hq (keep8 _ _ _ _ _ _ _ _)
  obtain ⟨iR, ER⟩ := elemIS
  obtain ⟨iL, EL⟩ := elemEs
  clear HFIN
  go_upto_region 30 with (fail)
  go_cut [292] (fun t292 wx => t292 = .bool false ∧ Sat (treeP h s1 * (Gn * (lentA gp cp put * (G * (Sl.block N TOp [.int .i64 k, .int .i64 f, .int .i64 at_, .int .i64 n, v] * (Sl.block mb TMd [.slice (some ⟨g1, 0, none⟩) nm c1, .slice (some ⟨g2, 0, none⟩) nm c2] * (rw TIn 1 (.slice (some ⟨g1, 0, none⟩) nm c1) rs * (rw TLe 1 (.slice (some ⟨g2, 0, none⟩) nm c2) vs * (Sl.block b TBe [.pointer (some ⟨h.D, 0, none⟩), .pointer (some ⟨h.C, 0, none⟩), .pointer (some ⟨h.S, 0, none⟩), .pointer (some ⟨h.t, 0, none⟩)] * (Bp * F)))))))))) wx)
  case first =>
   have hnn : (0 : Int) ≤ no := by omega
   have hnp : (0 : Int) ≤ np := by omega
   by_cases hr2 : r' = 0
   · obtain rfl : no = 0 := hz2.1 hr2
     by_cases hcd : cd = 0
     · subst hcd
       have hr2z : r' = 0 := hr2
       clear hz2
       by_cases hn0' : n = 0
       · subst hn0'
         by_cases hp0 : np = 0
         · have hrr : r' = r := hsame.out rfl rfl hp0
           subst hp0 hrr hr2z
           as_aux_lemma =>
            go_wp2_with fail
            with_reducible refine Calls.mono (hkp gp cp _ _ (takeI2 (lentA gp cp put) Bp)) ?_
            rintro e w5 ⟨rfl, q5⟩
            haveI := q5.i
            go_wp2_with fail
            go_meet
            exact ⟨rfl, keep11 _ _ _ _ _ _ _ _ _ _ _⟩
         · have hp1 : ((np : Int) == 0) = false := by simp [hp0]
           subst hr2z
           as_aux_lemma =>
            go_wp2_with fail
            with_reducible refine Calls.mono (hkp gp cp _ _ (takeI2 (lentA gp cp put) Bp)) ?_
            rintro e w5 ⟨rfl, q5⟩
            haveI := q5.i
            go_wp2_with fail
            go_meet
            exact ⟨rfl, keep11 _ _ _ _ _ _ _ _ _ _ _⟩
       · have hn2 : (n == 0) = false := by simp [hn0']
         subst hr2z
         as_aux_lemma =>
          go_wp2_with fail
          with_reducible refine Calls.mono (hkp gp cp _ _ (takeI2 (lentA gp cp put) Bp)) ?_
          rintro e w5 ⟨rfl, q5⟩
          haveI := q5.i
          go_wp2_with fail
          go_meet
          exact ⟨rfl, keep11 _ _ _ _ _ _ _ _ _ _ _⟩
     · have hcd1 : (cd != 0) = true := by simp [hcd]
       have hcd2 : (cd == 0) = false := by simp [hcd]
       subst hr2
       as_aux_lemma =>
        go_wp2_with fail
        with_reducible refine Calls.mono (hkp gp cp _ _ (takeI2 (lentA gp cp put) Bp)) ?_
        rintro e w5 ⟨rfl, q5⟩
        haveI := q5.i
        go_wp2_with fail
        go_meet
        exact ⟨rfl, keep11 _ _ _ _ _ _ _ _ _ _ _⟩
   · have hcd : cd = 0 := Classical.not_not.1 fun hq => hr2 (hr1.out hq)
     subst hcd
     have hno1 : ((no : Int) == 0) = false := by
      have := mt hz2.2 hr2
      simp
      omega
     have hr3 : (r' == 0) = false := by simp [hr2]
     by_cases hn0' : n = 0
     · subst hn0'
       by_cases hp0 : np = 0
       · have hrr : r' = r := hsame.out rfl rfl hp0
         subst hp0 hrr
         as_aux_lemma =>
          go_wp2_with fail
          with_reducible refine Calls.mono (hkp gp cp _ _ (takeI2 (lentA gp cp put) Bp)) ?_
          rintro e w5 ⟨rfl, q5⟩
          haveI := q5.i
          go_wp2_with fail
          go_meet
          exact ⟨rfl, keep11 _ _ _ _ _ _ _ _ _ _ _⟩
       · have hp1 : ((np : Int) == 0) = false := by simp [hp0]
         as_aux_lemma =>
          go_wp2_with fail
          with_reducible refine Calls.mono (hkp gp cp _ _ (takeI2 (lentA gp cp put) Bp)) ?_
          rintro e w5 ⟨rfl, q5⟩
          haveI := q5.i
          go_wp2_with fail
          go_meet
          exact ⟨rfl, keep11 _ _ _ _ _ _ _ _ _ _ _⟩
     · have hn2 : (n == 0) = false := by simp [hn0']
       as_aux_lemma =>
        go_wp2_with fail
        with_reducible refine Calls.mono (hkp gp cp _ _ (takeI2 (lentA gp cp put) Bp)) ?_
        rintro e w5 ⟨rfl, q5⟩
        haveI := q5.i
        go_wp2_with fail
        go_meet
        exact ⟨rfl, keep11 _ _ _ _ _ _ _ _ _ _ _⟩
  case rest => as_aux_lemma =>
   obtain ⟨rfl, q5⟩ := hcut
   clear q4
   haveI := q5.i
   go_upto_region 32 with (fail)
   refine Dr.wpB_start (fun w' => w'.cell? ⟨mb, 0, none⟩ = some (.slice (some ⟨g1, 0, none⟩) nm c1) ∧ w'.cell? ⟨mb, 1, none⟩ = some (.slice (some ⟨g2, 0, none⟩) nm c2)) [16, 17, 18, 19, 20, 21] (by kernel_rfl) ⟨cell_sat _ _ _, cell_sat _ _ _⟩ (fun hHeld => ?_)
   refine Dr.wpB_pure 0 (v := ?v0) (by simp only [List.getElem?_toArray, List.getElem?_cons_succ, List.getElem?_cons_zero]; rfl) (by kernel_rfl) ?hQ0 (.inl ⟨?hw0, fun w' => ?hy0⟩) ?_
   case hy0 => go_simp; try (with_reducible rfl)
   case hQ0 => exact fun _ _ _ h => h
   case hw0 => rfl
   simp only [Act.put, List.setIfInBounds_toArray, List.set_cons_zero, List.set_cons_succ]
   refine Dr.wpB_pure 1 (v := ?v1) (by simp only [List.getElem?_toArray, List.getElem?_cons_succ, List.getElem?_cons_zero]; rfl) (by kernel_rfl) ?hQ1 (.inl ⟨?hw1, fun w' => ?hy1⟩) ?_
   case hy1 => go_simp; try (with_reducible rfl)
   case hQ1 => exact fun _ _ _ h => h
   case hw1 => rfl
   simp only [Act.put, List.setIfInBounds_toArray, List.set_cons_zero, List.set_cons_succ]
   refine Dr.wpB_pure 2 (v := ?v2) (by simp only [List.getElem?_toArray, List.getElem?_cons_succ, List.getElem?_cons_zero]; rfl) (by kernel_rfl) ?hQ2 (.inl ⟨?hw2, fun w' => ?hy2⟩) ?_
   case hy2 => go_simp; try (with_reducible rfl)
   case hQ2 => exact fun _ _ _ h => h
   case hw2 => rfl
   simp only [Act.put, List.setIfInBounds_toArray, List.set_cons_zero, List.set_cons_succ]
   refine Dr.wpB_pure 3 (v := ?v3) (by simp only [List.getElem?_toArray, List.getElem?_cons_succ, List.getElem?_cons_zero]; rfl) (by kernel_rfl) ?hQ3 (.inl ⟨?hw3, fun w' => ?hy3⟩) ?_
   case hy3 => go_simp; try (with_reducible rfl)
   case hQ3 => exact fun _ _ _ h => h
   case hw3 => rfl
   simp only [Act.put, List.setIfInBounds_toArray, List.set_cons_zero, List.set_cons_succ]
   refine Dr.wpB_pure 4 (v := ?v4) (by simp only [List.getElem?_toArray, List.getElem?_cons_succ, List.getElem?_cons_zero]; rfl) (by kernel_rfl) ?hQ4 (.inl ⟨?hw4, fun w' => ?hy4⟩) ?_
   case hy4 => go_simp; try (with_reducible rfl)
   case hQ4 => exact fun _ _ _ h => h
   case hw4 => rfl
   simp only [Act.put, List.setIfInBounds_toArray, List.set_cons_zero, List.set_cons_succ]
   refine Dr.wpB_take 5 (v := ?v5) (by simp only [List.getElem?_toArray, List.getElem?_cons_succ, List.getElem?_cons_zero]; rfl) (by kernel_rfl) ?hQ5 (.inl ⟨?hw5, fun w' hw => ?hy5⟩) hHeld ?_
   case hy5 => (try dsimp only at hw); go_simp; try (with_reducible rfl)
   case hQ5 => exact fun _ _ _ h => h
   case hw5 => rfl
   simp only [Act.put, List.setIfInBounds_toArray, List.set_cons_zero, List.set_cons_succ]
   refine Dr.wpB_pure 6 (v := ?v6) (by simp only [List.getElem?_toArray, List.getElem?_cons_succ, List.getElem?_cons_zero]; rfl) (by kernel_rfl) ?hQ6 (.inl ⟨?hw6, fun w' => ?hy6⟩) ?_
   case hy6 => go_simp; try (with_reducible rfl)
   case hQ6 => exact fun _ _ _ h => h
   case hw6 => rfl
   simp only [Act.put, List.setIfInBounds_toArray, List.set_cons_zero, List.set_cons_succ]
   refine Dr.wpB_pure 9 (v := ?v9) (by simp only [List.getElem?_toArray, List.getElem?_cons_succ, List.getElem?_cons_zero]; rfl) (by kernel_rfl) ?hQ9 (.inl ⟨?hw9, fun w' => ?hy9⟩) ?_
   case hy9 => go_simp; try (with_reducible rfl)
   case hQ9 => exact fun _ _ _ h => h
   case hw9 => rfl
   simp only [Act.put, List.setIfInBounds_toArray, List.set_cons_zero, List.set_cons_succ]
   refine Dr.wpB_pure 10 (v := ?v10) (by simp only [List.getElem?_toArray, List.getElem?_cons_succ, List.getElem?_cons_zero]; rfl) (by kernel_rfl) ?hQ10 (.inl ⟨?hw10, fun w' => ?hy10⟩) ?_
   case hy10 => go_simp; try (with_reducible rfl)
   case hQ10 => exact fun _ _ _ h => h
   case hw10 => rfl
   simp only [Act.put, List.setIfInBounds_toArray, List.set_cons_zero, List.set_cons_succ]
   refine Dr.wpB_pure 11 (v := ?v11) (by simp only [List.getElem?_toArray, List.getElem?_cons_succ, List.getElem?_cons_zero]; rfl) (by kernel_rfl) ?hQ11 (.inl ⟨?hw11, fun w' => ?hy11⟩) ?_
   case hy11 => go_simp; try (with_reducible rfl)
   case hQ11 => exact fun _ _ _ h => h
   case hw11 => rfl
   simp only [Act.put, List.setIfInBounds_toArray, List.set_cons_zero, List.set_cons_succ]
   refine Dr.wpB_take 12 (v := ?v12) (by simp only [List.getElem?_toArray, List.getElem?_cons_succ, List.getElem?_cons_zero]; rfl) (by kernel_rfl) ?hQ12 (.inl ⟨?hw12, fun w' hw => ?hy12⟩) hHeld ?_
   case hy12 => (try dsimp only at hw); go_simp; try (with_reducible rfl)
   case hQ12 => exact fun _ _ _ h => h
   case hw12 => rfl
   simp only [Act.put, List.setIfInBounds_toArray, List.set_cons_zero, List.set_cons_succ]
   refine Dr.wpB_pure 13 (v := ?v13) (by simp only [List.getElem?_toArray, List.getElem?_cons_succ, List.getElem?_cons_zero]; rfl) (by kernel_rfl) ?hQ13 (.inl ⟨?hw13, fun w' => ?hy13⟩) ?_
   case hy13 => go_simp; try (with_reducible rfl)
   case hQ13 => exact fun _ _ _ h => h
   case hw13 => rfl
   simp only [Act.put, List.setIfInBounds_toArray, List.set_cons_zero, List.set_cons_succ]
   refine Dr.wpB_two 7 14 (by simp only [List.getElem?_toArray, List.getElem?_cons_succ, List.getElem?_cons_zero]; rfl) (by simp only [List.getElem?_toArray, List.getElem?_cons_succ, List.getElem?_cons_zero]; rfl) (by kernel_rfl) ?_ ?_
   · go_wp2_with (fail)
     refine Dr.nextQ_n ⟨⟨cell_sat _ _ _, cell_sat _ _ _⟩, ?_⟩
     refine Dr.wpB_two 8 14 (by simp only [List.getElem?_toArray, List.getElem?_cons_succ, List.getElem?_cons_zero]; rfl) (by simp only [List.getElem?_toArray, List.getElem?_cons_succ, List.getElem?_cons_zero]; rfl) (by kernel_rfl) ?_ ?_
     · go_wp2_with (at_builtin; refine wpl_append_same ER rfl (.tmp 298) (.tmp 300) rfl rfl rfl (takeI (rw TIn 1 (.slice (some ⟨g1, 0, none⟩) nm c1) rs)) (Src.new (e := TIn) (s := 1) (vs := [.int .i64 r']) (takeI (Sl.block _ TIn [.int .i64 r'])) rfl (by intro u hu; simp at hu; rcases hu with rfl; rfl)) (by unfold maxLen; omega) (by omega) ?_; intro a7 c7 w7 q7 z7; clear z7; haveI := q7.i)
       refine Dr.nextQ_n ⟨⟨cell_sat _ _ _, cell_sat _ _ _⟩, ?_⟩
       refine Dr.wpB_one 14 (by simp only [List.getElem?_toArray, List.getElem?_cons_succ, List.getElem?_cons_zero]; rfl) (by kernel_rfl) ?_
       go_wp2_with (fail)
       refine Dr.nextQ_n ⟨⟨cell_sat _ _ _, cell_sat _ _ _⟩, ?_⟩
       refine Dr.wpB_one 15 (by simp only [List.getElem?_toArray, List.getElem?_cons_succ, List.getElem?_cons_zero]; rfl) (by kernel_rfl) ?_
       go_wp2_with (at_builtin; refine wpl_append_same EL rfl (.tmp 305) (.tmp 307) rfl rfl rfl (takeI (rw TLe 1 (.slice (some ⟨g2, 0, none⟩) nm c2) vs)) (Src.new (e := TLe) (s := 1) (vs := [.slice a5 no c5]) (takeI (Sl.block _ TLe [.slice a5 no c5])) rfl (by intro u hu; simp at hu; rcases hu with rfl; rfl)) (by unfold maxLen; omega) (by omega) ?_; intro a8 c8 w8 q8 z8; clear z8; haveI := q8.i)
       refine Dr.nextQ_n ⟨⟨cell_sat _ _ _, cell_sat _ _ _⟩, ?_⟩
       refine Dr.wpB_tail [16, 17, 18, 19, 20, 21] (os := [_, _, _, _, _, _]) (by decide) (by simp only [List.map_cons, List.map_nil, List.getElem?_toArray, List.getElem?_cons_succ, List.getElem?_cons_zero]; rfl) (by kernel_rfl) ?_
       go_wp2
       go_ret
       exact HFIN2.out _ a7 a8 c7 c8 (keep10 _ _ _ _ _ _ _ _ _ _)
     · go_wp2_with (fail)
       refine Dr.nextQ_n ⟨⟨cell_sat _ _ _, cell_sat _ _ _⟩, ?_⟩
       refine Dr.wpB_one 8 (by simp only [List.getElem?_toArray, List.getElem?_cons_succ, List.getElem?_cons_zero]; rfl) (by kernel_rfl) ?_
       go_wp2_with (at_builtin; refine wpl_append_same ER rfl (.tmp 298) (.tmp 300) rfl rfl rfl (takeI (rw TIn 1 (.slice (some ⟨g1, 0, none⟩) nm c1) rs)) (Src.new (e := TIn) (s := 1) (vs := [.int .i64 r']) (takeI (Sl.block _ TIn [.int .i64 r'])) rfl (by intro u hu; simp at hu; rcases hu with rfl; rfl)) (by unfold maxLen; omega) (by omega) ?_; intro a7 c7 w7 q7 z7; clear z7; haveI := q7.i)
       refine Dr.nextQ_n ⟨⟨cell_sat _ _ _, cell_sat _ _ _⟩, ?_⟩
       refine Dr.wpB_one 15 (by simp only [List.getElem?_toArray, List.getElem?_cons_succ, List.getElem?_cons_zero]; rfl) (by kernel_rfl) ?_
       go_wp2_with (at_builtin; refine wpl_append_same EL rfl (.tmp 305) (.tmp 307) rfl rfl rfl (takeI (rw TLe 1 (.slice (some ⟨g2, 0, none⟩) nm c2) vs)) (Src.new (e := TLe) (s := 1) (vs := [.slice a5 no c5]) (takeI (Sl.block _ TLe [.slice a5 no c5])) rfl (by intro u hu; simp at hu; rcases hu with rfl; rfl)) (by unfold maxLen; omega) (by omega) ?_; intro a8 c8 w8 q8 z8; clear z8; haveI := q8.i)
       refine Dr.nextQ_n ⟨⟨cell_sat _ _ _, cell_sat _ _ _⟩, ?_⟩
       refine Dr.wpB_tail [16, 17, 18, 19, 20, 21] (os := [_, _, _, _, _, _]) (by decide) (by simp only [List.map_cons, List.map_nil, List.getElem?_toArray, List.getElem?_cons_succ, List.getElem?_cons_zero]; rfl) (by kernel_rfl) ?_
       go_wp2
       go_ret
       exact HFIN2.out _ a7 a8 c7 c8 (keep10 _ _ _ _ _ _ _ _ _ _)
   · go_wp2_with (fail)
     refine Dr.nextQ_n ⟨⟨cell_sat _ _ _, cell_sat _ _ _⟩, ?_⟩
     refine Dr.wpB_one 7 (by simp only [List.getElem?_toArray, List.getElem?_cons_succ, List.getElem?_cons_zero]; rfl) (by kernel_rfl) ?_
     go_wp2_with (fail)
     refine Dr.nextQ_n ⟨⟨cell_sat _ _ _, cell_sat _ _ _⟩, ?_⟩
     refine Dr.wpB_one 8 (by simp only [List.getElem?_toArray, List.getElem?_cons_succ, List.getElem?_cons_zero]; rfl) (by kernel_rfl) ?_
     go_wp2_with (at_builtin; refine wpl_append_same ER rfl (.tmp 298) (.tmp 300) rfl rfl rfl (takeI (rw TIn 1 (.slice (some ⟨g1, 0, none⟩) nm c1) rs)) (Src.new (e := TIn) (s := 1) (vs := [.int .i64 r']) (takeI (Sl.block _ TIn [.int .i64 r'])) rfl (by intro u hu; simp at hu; rcases hu with rfl; rfl)) (by unfold maxLen; omega) (by omega) ?_; intro a7 c7 w7 q7 z7; clear z7; haveI := q7.i)
     refine Dr.nextQ_n ⟨⟨cell_sat _ _ _, cell_sat _ _ _⟩, ?_⟩
     refine Dr.wpB_one 15 (by simp only [List.getElem?_toArray, List.getElem?_cons_succ, List.getElem?_cons_zero]; rfl) (by kernel_rfl) ?_
     go_wp2_with (at_builtin; refine wpl_append_same EL rfl (.tmp 305) (.tmp 307) rfl rfl rfl (takeI (rw TLe 1 (.slice (some ⟨g2, 0, none⟩) nm c2) vs)) (Src.new (e := TLe) (s := 1) (vs := [.slice a5 no c5]) (takeI (Sl.block _ TLe [.slice a5 no c5])) rfl (by intro u hu; simp at hu; rcases hu with rfl; rfl)) (by unfold maxLen; omega) (by omega) ?_; intro a8 c8 w8 q8 z8; clear z8; haveI := q8.i)
     refine Dr.nextQ_n ⟨⟨cell_sat _ _ _, cell_sat _ _ _⟩, ?_⟩
     refine Dr.wpB_tail [16, 17, 18, 19, 20, 21] (os := [_, _, _, _, _, _]) (by decide) (by simp only [List.map_cons, List.map_nil, List.getElem?_toArray, List.getElem?_cons_succ, List.getElem?_cons_zero]; rfl) (by kernel_rfl) ?_
     go_wp2
     go_ret
     exact HFIN2.out _ a7 a8 c7 c8 (keep10 _ _ _ _ _ _ _ _ _ _)
end Go.Proofs.YtfhbmblbidcmmaaGreat
namespace Go.Proofs.YtfhbmblbidcmmaaGreat
open Go.RowKit Go.Sl Go.Dk Go.Tr
def okOf {α : Type} : Res TS α → Option α
 | .ok a _ => some a
 | _ => none
def awM : M TS (Int × Int × Int × List Ent) := M.bind (mBuild [⟨0, 0, 10, -1⟩]) fun r => M.bind (tSize tRead r) fun n => M.bind (tSplice tRead tWrite r 3 2 n [⟨1, 0, 1, 1⟩]) fun q => M.bind (tList tRead q) fun l => M.pure (r, n, q, l)
set_option maxRecDepth 1000000
theorem aw2 : (match okOf (awM (ts0 1048576 8)) with | some (r, n, q, l) => decide (r = 1 ∧ n = 10) && (l.map fun e => (e.src, e.pos, e.len, e.lines)) == [(0, 0, 3, -1), (1, 0, 1, 1), (0, 5, 5, -1)] | none => false) = true := by kernel_rfl
end Go.Proofs.YtfhbmblbidcmmaaGreat
namespace Go.Proofs.YtfhbmblbidcmmaaGreat
set_option linter.unusedSimpArgs false
set_option linter.unusedVariables false
open Go.RowKit Go.Sl Go.Dk Go.Tr
attribute [local go_sem ↓] Go.wp_at_zero Go.wp_at_succ
attribute [local go_sem] Go.Sl.cell_sat Go.Sl.frozen_sat
theorem okOf_bind {α β : Type} {m : M TS α} {f : α → M TS β} {s : TS} {x : β} (h : okOf (M.bind m f s) = some x) : ∃ a s1, m s = .ok a s1 ∧ okOf (f a s1) = some x := by
 unfold M.bind Res.bind at h
 cases hm : m s with
 | ok a s1 => rw [hm] at h; exact ⟨a, s1, rfl, h⟩
 | fault e s1 => rw [hm] at h; cases h
 | bad => rw [hm] at h; cases h
theorem aw_facts : ∃ (s1 s2 s3 s4 : TS) (q : Int), mBuild [⟨0, 0, 10, -1⟩] (ts0 1048576 8) = .ok 1 s1 ∧ tSize tRead 1 s1 = .ok 10 s2 ∧ tSplice tRead tWrite 1 3 2 10 [⟨1, 0, 1, 1⟩] s2 = .ok q s3 ∧ tList tRead q s3 = .ok [⟨0, 0, 3, -1⟩, ⟨1, 0, 1, 1⟩, ⟨0, 5, 5, -1⟩] s4 := by
 have h := aw2
 cases ho : okOf (awM (ts0 1048576 8)) with
 | none => rw [ho] at h; cases h
 | some x =>
   obtain ⟨r, n, q, l⟩ := x
   rw [ho] at h
   simp only [Bool.and_eq_true, decide_eq_true_eq] at h
   obtain ⟨⟨rfl, rfl⟩, h3⟩ := h
   have h4 := eq_of_beq h3
   have hl : l = [⟨0, 0, 3, -1⟩, ⟨1, 0, 1, 1⟩, ⟨0, 5, 5, -1⟩] := by
    have e : (l.map fun e : Ent => (e.src, e.pos, e.len, e.lines)).map (fun t : Int × Int × Int × Int => (⟨t.1, t.2.1, t.2.2.1, t.2.2.2⟩ : Ent)) = l := by
     rw [List.map_map]
     exact List.map_id'' (fun _ => rfl) l
    rw [h4] at e
    exact e.symm
   unfold awM at ho
   obtain ⟨a, s1, e1, ho⟩ := okOf_bind ho
   obtain ⟨b, s2, e2, ho⟩ := okOf_bind ho
   obtain ⟨c, s3, e3, ho⟩ := okOf_bind ho
   obtain ⟨d, s4, e4, ho⟩ := okOf_bind ho
   cases ho
   rw [hl] at e4
   exact ⟨s1, s2, s3, s4, _, e1, e2, e3, e4⟩
set_option maxRecDepth 100000 in
set_option maxHeartbeats 3200000 in
theorem awake_any (F : Assn) (w : World) (hs : Sat F w) : Calls Tryz.prog 12 #[] w fun e w' => e = .returned (.bool true) ∧ Sat F w' := by
 haveI : TopN := ⟨1048576, Nat.le_refl _⟩
 obtain ⟨s1, s2, s3, s4, qr, f1, f2, f3, f4⟩ := aw_facts
 obtain ⟨L, t1, g1, h1⟩ := bind_out f3
 obtain ⟨R, t2, g2, h1⟩ := bind_out h1
 obtain ⟨whole, t3, g3, h1⟩ := bind_out h1
 obtain ⟨r1, t4, g4, h1⟩ := bind_out h1
 obtain ⟨r0, t5, g5, h1⟩ := bind_out h1
 have hno : ¬ 1024 < whole.kid.scraps - r1 + r0 + ((join (L.1 ++ [⟨1, 0, 1, 1⟩] ++ R.1)).length : Int) := fun hc => by rw [if_pos hc] at h1; cases h1
 rw [if_neg hno] at h1
 obtain ⟨p, t6, g6, h1⟩ := bind_out h1
 obtain ⟨q, t7, g7, h1⟩ := bind_out h1
 obtain ⟨m, t8, g8, h1⟩ := bind_out h1
 obtain ⟨x, t9, g9, h1⟩ := bind_out h1
 obtain ⟨y, t10, g10, h1⟩ := bind_out h1
 cases h1
 have hbd := fun B F w hE q => build_any ⟨0, 0, 0, 0⟩ (ts0 1048576 8) [⟨0, 0, 10, -1⟩] (.slice none 0 0) B F w hE q
 have HB : Aside (∀ (h : Th) (v : Value) (B F : Assn) (w : World), ReadsE B v [⟨0, 0, 10, -1⟩] → Sat (treeP h (ts0 1048576 8) * (B * F)) w →
  Calls Tryz.prog 23 #[.pointer (some ⟨h.t, 0, none⟩), v] w fun e w' => e = .returned (.tuple #[.int .i64 1, .int .i64 0]) ∧ Sat (treeP h s1 * (B * F)) w') := fun h v B F w hE q => by
  have := build_any h (ts0 1048576 8) [⟨0, 0, 10, -1⟩] v B F w hE q (by simp) (by rw [f1]; simp)
  rw [f1] at this
  exact this
 have HS : Aside (∀ (h : Th) (v : Value) (B F : Assn) (w : World), ReadsE B v [⟨1, 0, 1, 1⟩] → Sat (treeP h s1 * (B * F)) w →
  Calls Tryz.prog 33 #[.pointer (some ⟨h.t, 0, none⟩), .int .i64 1, .int .i64 3, .int .i64 2, v] w fun e w' => e = .returned (.tuple #[.int .i64 y.kid.page, .int .i64 0]) ∧ Sat (treeP h s3 * (B * F)) w') := fun h v B F w hE hq =>
  splice_main h s1 1 3 2 [⟨1, 0, 1, 1⟩] v B F w hE hq (by simp) (by decide) 10 s2 f2 (by omega) (by omega) (by omega) (by omega) (by simp [eBytes]) (by omega) L R whole r1 r0 t1 t2 t3 t4 t5 ⟨g1, g2, g3, g4, g5⟩ (.ok y.kid.page s3) (fun hc => absurd hc hno) (fun _ => ⟨p, q, m, x, y, t6, t7, t8, t9, s3, ⟨g6, g7, g8, g9, g10⟩, rfl⟩)
 have HL : Aside (∀ (h : Th) (F : Assn) (w : World), Sat (treeP h s3 * F) w →
  Calls Tryz.prog 44 #[.pointer (some ⟨h.t, 0, none⟩), .int .i64 y.kid.page] w fun e w' => ∃ (a : Option Addr) (c : Nat), e = .returned (.tuple #[.slice a 3 c, .int .i64 0]) ∧ Sat (rw TEn 4 (.slice a 3 c) [.int .i64 0, .int .i64 0, .int .i64 3, .int .i64 (-1), .int .i64 1, .int .i64 0, .int .i64 1, .int .i64 1, .int .i64 0, .int .i64 5, .int .i64 5, .int .i64 (-1)] * (treeP h s4 * F)) w') := fun h F w hq => by
  have := list_tany h s3 y.kid.page F w hq (by rw [f4]; simp)
  rw [f4] at this
  exact this
 obtain ⟨pg, hpg⟩ : ∃ z, y.kid.page = z := ⟨_, rfl⟩
 rw [hpg] at HS HL
 clear hpg g1 g2 g3 g4 g5 g6 g7 g8 g9 g10 hno f1 f2 f3 f4 hbd
 go_enter Tryz.func12, Tryz.ntmps12
 go_wp2_with fail
 with_reducible refine Calls.mono (set_any 1048576 8 F w hs (by omega) (by omega) (by omega) (by omega)) ?_
 rintro e w1 ⟨b, h, rfl, q1⟩
 obtain ⟨s0, hs0⟩ : ∃ s, ts0 1048576 8 = s := ⟨_, rfl⟩
 rw [hs0] at q1 HB
 haveI := q1.i
 obtain ⟨N1, hN1⟩ : ∃ M, w1.heap.size = M := ⟨_, rfl⟩
 clear hs0
 go_wp2_with fail
 try rw [hN1]
 have q2 : Sat (treeP h s0 * (Sl.block N1 TEn (erow ⟨0, 0, 10, -1⟩) * (Sl.block b TBe [.pointer (some ⟨h.D, 0, none⟩), .pointer (some ⟨h.C, 0, none⟩), .pointer (some ⟨h.S, 0, none⟩), .pointer (some ⟨h.t, 0, none⟩)] * F))) (w1.alloc (.cells #[.int .i64 0, .int .i64 0, .int .i64 10, .int .i64 (-1)] TEn)) := by
  rw [← hN1]
  show Sat (treeP h s0 * (Sl.block w1.heap.size TEn [.int .i64 0, .int .i64 0, .int .i64 10, .int .i64 (-1)] * _)) _
  exact satI_eq (by ac_rfl)
 with_reducible refine Calls.mono (HB.out h _ _ _ _ (reads_one ⟨0, 0, 10, -1⟩ N1) q2) ?_
 rintro e w2 ⟨rfl, q3⟩
 haveI := q3.i
 obtain ⟨N2, hN2⟩ : ∃ M, w2.heap.size = M := ⟨_, rfl⟩
 clear hN1 q1 q2
 go_wp2_with fail
 try rw [hN2]
 have q4 : Sat (treeP h s1 * (Sl.block N2 TEn (erow ⟨1, 0, 1, 1⟩) * (Sl.block b TBe [.pointer (some ⟨h.D, 0, none⟩), .pointer (some ⟨h.C, 0, none⟩), .pointer (some ⟨h.S, 0, none⟩), .pointer (some ⟨h.t, 0, none⟩)] * F))) (w2.alloc (.cells #[.int .i64 1, .int .i64 0, .int .i64 1, .int .i64 1] TEn)) := by
  rw [← hN2]
  show Sat (treeP h s1 * (Sl.block w2.heap.size TEn [.int .i64 1, .int .i64 0, .int .i64 1, .int .i64 1] * _)) _
  exact satI_weak (C := Sl.block N1 TEn (erow ⟨0, 0, 10, -1⟩)) (by ac_rfl)
 with_reducible refine Calls.mono (HS.out h _ _ _ _ (reads_one ⟨1, 0, 1, 1⟩ N2) q4) ?_
 rintro e w3 ⟨rfl, q5⟩
 haveI := q5.i
 clear hN2 q3 q4
 go_wp2_with fail
 with_reducible refine Calls.mono (HL.out h _ _ (takeI (treeP h s3))) ?_
 rintro e w4 ⟨al, cl, rfl, q6⟩
 obtain ⟨g, rfl⟩ := row_some q6 (by omega)
 haveI := q6.i
 clear q5
 go_wp2
 go_ret
 exact ⟨rfl, keep1 F⟩
end Go.Proofs.YtfhbmblbidcmmaaGreat
namespace Go.Proofs.YtfhbmblbidcmmaaGreat
set_option linter.unusedSimpArgs false
set_option linter.unusedVariables false
open Go.RowKit Go.Sl Go.Dk Go.Tr
attribute [local go_sem ↓] Go.wp_at_zero Go.wp_at_succ
attribute [local go_sem] Go.Sl.cell_sat Go.Sl.frozen_sat
variable [TopN]
theorem does_any (h : Th) (s : TS) (mb b : Nat) (a1 : Option Addr) (c1 : Nat) (a2 : Option Addr) (c2 : Nat) (ms : List (Int × List Ent)) (vs : List Value) (G : Assn) (k f at_ n : Int) (put : List Ent) (v : Value) (Bp F : Assn) (w : World)
 (hP : Played s ms vs G) (hn0 : 0 < ms.length) (hn1 : ms.length ≤ 64) (hI : TInv true s) (hf : 10000 ≤ leftOps s) (hrm : 10000 ≤ roomOf s.sp) (hE : ReadsE Bp v put) (hpl : put.length ≤ 60)
 (hs : Sat (treeP h s * (G * (madeA mb a1 c1 a2 c2 ms.length (rootC ms) vs * (benchA b h * (Bp * F))))) w) :
 Calls Tryz.prog 48 #[.pointer (some ⟨mb, 0, none⟩), .pointer (some ⟨b, 0, none⟩), .agg #[.int .i64 k, .int .i64 f, .int .i64 at_, .int .i64 n, v]] w (DoesOut h s mb b ms.length Bp F) := by
 by_cases h1 : k = 1
 · exact does_build1 h s mb b a1 c1 a2 c2 ms vs G k f at_ n put v Bp F w h1 hP hn0 hn1 hI hf hrm hE hpl hs
 by_cases h2 : k = 2
 · exact does_build2 h s mb b a1 c1 a2 c2 ms vs G k f at_ n put v Bp F w h2 hP hn0 hn1 hI hf hrm hE hpl hs
 by_cases h3 : k = 3
 · exact does_splice h s mb b a1 c1 a2 c2 ms vs G k f at_ n put v Bp F w h3 hP hn0 hn1 hI hf hrm hE hpl hs
 · exact does_ask h s mb b a1 c1 a2 c2 ms vs G k f at_ n put v Bp F w h1 h2 h3 hP hn0 hn1 hI hf hE hpl hs
theorem block_rw {e s n g : Nat} {l : List Value} {F : Assn} {w : World} (hl : l.length = n * s) (hn : n ≤ 1099511627776) (hs : Sat (Sl.block g e l * F) w) : Sat (rw e s (.slice (some ⟨g, 0, none⟩) n n) l * F) w :=
 Sat.rw_shut (sp := []) hl (by simpa using hl) (Nat.le_refl _) (by unfold maxLen; omega) (by simpa using hs)
theorem ts0_left (r c : Int) : leftOps (ts0 r c) = 67108850 := by
 show (opsMax - 0) / 2 = 67108850
 unfold opsMax
 rfl
theorem below_is {A R : Assn} {w w' : World} [h : SatI A w'] [t : Take A (old w) R] : Below w.heap.size w w' := (h.out.take (old w)).old_below
structure CallT where
 k : Int
 f : Int
 pos : Int
 n : Int
 a : Option Addr
 c : Nat
 put : List Ent
def crowT (x : CallT) : List Value := [.int .i64 x.k, .int .i64 x.f, .int .i64 x.pos, .int .i64 x.n, .slice x.a x.put.length x.c]
theorem played_zero (s : TS) (g : Nat) : Played s [(0, [])] [.slice none 0 0] 1 := ⟨rfl, fun i v p h1 h2 => by
 match i with
 | 0 => cases h1; cases h2; exact ⟨ReadsR.nil 4 _, .inl ⟨rfl, rfl⟩, good_nil⟩
 | i + 1 => simp at h1⟩
end Go.Proofs.YtfhbmblbidcmmaaGreat
namespace Go.Tr
theorem cKid_unfit {y x : Sn} {s : Int × Int × Int} {first : Bool} {k : Kd} (h : s.1 ≠ k.bytes ∨ s.2.1 ≠ k.lines ∨ s.2.2 ≠ k.scraps ∨ (first = false ∧ (y.h + 1 ≠ x.h ∨ meets x.last y.first = true))) : cKid y s first k x = none := by
 unfold cKid
 rw [if_pos]
 rcases h with h | h | h | h
 · exact .inl fun e => h (by rw [e])
 · exact .inl fun e => h (by rw [e])
 · exact .inl fun e => h (by rw [e])
 · exact .inr h
theorem cKid_fit {y x : Sn} {s : Int × Int × Int} {first : Bool} {k : Kd} (h : ¬ (s.1 ≠ k.bytes ∨ s.2.1 ≠ k.lines ∨ s.2.2 ≠ k.scraps ∨ (first = false ∧ (y.h + 1 ≠ x.h ∨ meets x.last y.first = true)))) : (first = false → y.h + 1 = x.h) ∧ (1024 < x.count + y.count → cKid y s first k x = none) ∧ (¬ 1024 < x.count + y.count → cKid y s first k x = some ⟨y.h + 1, x.count + y.count, if first then y.first else x.first, y.last⟩) := by
 simp only [not_or, Decidable.not_not, not_and] at h
 obtain ⟨h1, h2, h3, h4⟩ := h
 have hs : s = (k.bytes, k.lines, k.scraps) := by
  rw [← h1, ← h2, ← h3]
 have h5 : first = false → y.h + 1 = x.h := fun e => (h4 e).1
 have h6 : first = false → ¬ meets x.last y.first = true := fun e => (h4 e).2
 refine ⟨h5, fun hc => ?_, fun hc => ?_⟩
 · unfold cKid
   rw [if_neg (by simp only [not_or, Decidable.not_not, not_and]; exact ⟨hs, fun e => ⟨h5 e, h6 e⟩⟩), if_pos hc]
 · unfold cKid
   rw [if_neg (by simp only [not_or, Decidable.not_not, not_and]; exact ⟨hs, fun e => ⟨h5 e, h6 e⟩⟩), if_neg hc]
   cases first with
   | true => rfl
   | false => rw [← h5 rfl]; rfl
end Go.Tr
namespace Go.Proofs.YtfhbmblbidcmmaaGreat
set_option linter.unusedSimpArgs false
set_option linter.unusedVariables false
open Go.RowKit Go.Sl Go.Dk Go.Tr
open Go.Lru (ikey)
attribute [local go_sem ↓] Go.wp_at_zero Go.wp_at_succ
attribute [local go_sem] Go.Sl.cell_sat Go.Sl.frozen_sat put_Kn
theorem store10 {A R : Assn} {w : World} {b e : Nat} {c0 c1 c2 c3 c4 c5 c6 c7 c8 c9 : Value} {v0 v1 v2 v3 v4 v5 v6 v7 v8 v9 : Value} [SatI A w] [Take A (Sl.block b e [c0, c1, c2, c3, c4, c5, c6, c7, c8, c9]) R] : Sat (Sl.block b e [v0, v1, v2, v3, v4, v5, v6, v7, v8, v9] * R) ((((((((((w.setCell ⟨b, 0, none⟩ v0).setCell ⟨b, 1, none⟩ v1).setCell ⟨b, 2, none⟩ v2).setCell ⟨b, 3, none⟩ v3).setCell ⟨b, 4, none⟩ v4).setCell ⟨b, 5, none⟩ v5).setCell ⟨b, 6, none⟩ v6).setCell ⟨b, 7, none⟩ v7).setCell ⟨b, 8, none⟩ v8).setCell ⟨b, 9, none⟩ v9) := by
 have h0 : Sat (Sl.block b e [c0, c1, c2, c3, c4, c5, c6, c7, c8, c9] * R) w := takeI (Sl.block b e [c0, c1, c2, c3, c4, c5, c6, c7, c8, c9])
 have h1 : Sat (Sl.block b e [v0, c1, c2, c3, c4, c5, c6, c7, c8, c9] * R) (w.setCell ⟨b, 0, none⟩ v0) := h0.upd b 0 v0
 have h2 : Sat (Sl.block b e [v0, v1, c2, c3, c4, c5, c6, c7, c8, c9] * R) ((w.setCell ⟨b, 0, none⟩ v0).setCell ⟨b, 1, none⟩ v1) := h1.upd b 1 v1
 have h3 : Sat (Sl.block b e [v0, v1, v2, c3, c4, c5, c6, c7, c8, c9] * R) (((w.setCell ⟨b, 0, none⟩ v0).setCell ⟨b, 1, none⟩ v1).setCell ⟨b, 2, none⟩ v2) := h2.upd b 2 v2
 have h4 : Sat (Sl.block b e [v0, v1, v2, v3, c4, c5, c6, c7, c8, c9] * R) ((((w.setCell ⟨b, 0, none⟩ v0).setCell ⟨b, 1, none⟩ v1).setCell ⟨b, 2, none⟩ v2).setCell ⟨b, 3, none⟩ v3) := h3.upd b 3 v3
 have h5 : Sat (Sl.block b e [v0, v1, v2, v3, v4, c5, c6, c7, c8, c9] * R) (((((w.setCell ⟨b, 0, none⟩ v0).setCell ⟨b, 1, none⟩ v1).setCell ⟨b, 2, none⟩ v2).setCell ⟨b, 3, none⟩ v3).setCell ⟨b, 4, none⟩ v4) := h4.upd b 4 v4
 have h6 : Sat (Sl.block b e [v0, v1, v2, v3, v4, v5, c6, c7, c8, c9] * R) ((((((w.setCell ⟨b, 0, none⟩ v0).setCell ⟨b, 1, none⟩ v1).setCell ⟨b, 2, none⟩ v2).setCell ⟨b, 3, none⟩ v3).setCell ⟨b, 4, none⟩ v4).setCell ⟨b, 5, none⟩ v5) := h5.upd b 5 v5
 have h7 : Sat (Sl.block b e [v0, v1, v2, v3, v4, v5, v6, c7, c8, c9] * R) (((((((w.setCell ⟨b, 0, none⟩ v0).setCell ⟨b, 1, none⟩ v1).setCell ⟨b, 2, none⟩ v2).setCell ⟨b, 3, none⟩ v3).setCell ⟨b, 4, none⟩ v4).setCell ⟨b, 5, none⟩ v5).setCell ⟨b, 6, none⟩ v6) := h6.upd b 6 v6
 have h8 : Sat (Sl.block b e [v0, v1, v2, v3, v4, v5, v6, v7, c8, c9] * R) ((((((((w.setCell ⟨b, 0, none⟩ v0).setCell ⟨b, 1, none⟩ v1).setCell ⟨b, 2, none⟩ v2).setCell ⟨b, 3, none⟩ v3).setCell ⟨b, 4, none⟩ v4).setCell ⟨b, 5, none⟩ v5).setCell ⟨b, 6, none⟩ v6).setCell ⟨b, 7, none⟩ v7) := h7.upd b 7 v7
 have h9 : Sat (Sl.block b e [v0, v1, v2, v3, v4, v5, v6, v7, v8, c9] * R) (((((((((w.setCell ⟨b, 0, none⟩ v0).setCell ⟨b, 1, none⟩ v1).setCell ⟨b, 2, none⟩ v2).setCell ⟨b, 3, none⟩ v3).setCell ⟨b, 4, none⟩ v4).setCell ⟨b, 5, none⟩ v5).setCell ⟨b, 6, none⟩ v6).setCell ⟨b, 7, none⟩ v7).setCell ⟨b, 8, none⟩ v8) := h8.upd b 8 v8
 have h10 : Sat (Sl.block b e [v0, v1, v2, v3, v4, v5, v6, v7, v8, v9] * R) ((((((((((w.setCell ⟨b, 0, none⟩ v0).setCell ⟨b, 1, none⟩ v1).setCell ⟨b, 2, none⟩ v2).setCell ⟨b, 3, none⟩ v3).setCell ⟨b, 4, none⟩ v4).setCell ⟨b, 5, none⟩ v5).setCell ⟨b, 6, none⟩ v6).setCell ⟨b, 7, none⟩ v7).setCell ⟨b, 8, none⟩ v8).setCell ⟨b, 9, none⟩ v9) := h9.upd b 9 v9
 exact h10
theorem join_pair (a b : Ent) : (join [a, b]).length = if meets a b then 1 else 2 := by
 cases h : meets a b <;> simp [join, joinTo, h]
theorem readsE_blk {b : Nat} (l : List Ent) (hl : l.length ≤ 1000) : ReadsE (Sl.block b TEn (ecs l)) (.slice (some ⟨b, 0, none⟩) l.length l.length) l := by
 refine ⟨ecs_len l, _, _, rfl, Nat.le_refl _, by omega, fun j u hj => ⟨b, 0, rfl, ?_⟩⟩
 haveI : At (ecs l) j u := ⟨hj⟩
 rw [Nat.zero_add]
 exact inferInstance
theorem join_two_call (x y : Ent) (b b2 : Nat) (F : Assn) (w : World) (hx : mayEnt x = true) (hy : mayEnt y = true) (hs : Sat (Sl.block b2 29 [.slice (some ⟨b, 0, none⟩) 2 2] * (Sl.block b TEn [.int .i64 x.src, .int .i64 x.pos, .int .i64 x.len, .int .i64 x.lines, .int .i64 y.src, .int .i64 y.pos, .int .i64 y.len, .int .i64 y.lines] * F)) w) :
 Calls Tryz.prog 80 #[.slice (some ⟨b2, 0, none⟩) 1 1] w fun e w' => ∃ a c G, e = .returned (.slice a (if meets x y then 1 else 2) c) ∧ Sat (G * F) w' := by
 have h1 : ReadsE (Sl.block b TEn (ecs [x, y])) (.slice (some ⟨b, 0, none⟩) 2 2) [x, y] := readsE_blk [x, y] (by simp)
 have h8 := mayE_iff.1 hx
 have h9 := mayE_iff.1 hy
 have h2 := join_any [[x, y]] _ _ F w (readsLL_one b2 h1) (hs.eq (by rw [show ecs [x, y] = [.int .i64 x.src, .int .i64 x.pos, .int .i64 x.len, .int .i64 x.lines, .int .i64 y.src, .int .i64 y.pos, .int .i64 y.len, .int .i64 y.lines] from rfl]; ac_rfl)) (by simp) (by simp) (by intro z hz; simp at hz; rcases hz with rfl | rfl <;> assumption) (by simp [eBytes]; omega)
 rw [List.flatten_singleton, join_pair] at h2
 exact h2.mono fun e w' ⟨a, c, g1, g2⟩ => ⟨a, c, _, g1, g2.eq (sep_assoc _ _ _).symm⟩
theorem look_open (h : Th) (s : TS) (bK bT bL M : Nat) (K : List (Int × Sn)) (F : Assn) : treeP h s * (lookA bK bT bL M h K * F) = treeP h s * (Sl.block bK TKn [.map (some M)] * (Sl.block bT TTp [.pointer (some ⟨h.t, 0, none⟩)] * (Sl.block bL TLf [.func (Fn.func 128) #[] #[.pointer (some ⟨bK, 0, none⟩), .pointer (some ⟨bT, 0, none⟩), .pointer (some ⟨bL, 0, none⟩)]] * (mp ikey M (kn K) * F)))) := by
 unfold lookA
 ac_rfl
theorem look_take {A R R1 R2 R3 R4 : Assn} {w : World} [q : SatI A w] (h : Th) (s : TS) (bK bT bL M : Nat) (K : List (Int × Sn)) [t : Take A (treeP h s) R] [t1 : Take R (Sl.block bK TKn [.map (some M)]) R1] [t2 : Take R1 (Sl.block bT TTp [.pointer (some ⟨h.t, 0, none⟩)]) R2] [t3 : Take R2 (Sl.block bL TLf [.func (Fn.func 128) #[] #[.pointer (some ⟨bK, 0, none⟩), .pointer (some ⟨bT, 0, none⟩), .pointer (some ⟨bL, 0, none⟩)]]) R3] [t4 : Take R3 (mp ikey M (kn K)) R4] : Sat (treeP h s * (lookA bK bT bL M h K * R4)) w :=
 q.out.eq (by rw [t.out, t1.out, t2.out, t3.out, t4.out]; unfold lookA; ac_rfl)
variable [TopN]
def LookL (f : Nat) (lf : Bool) : Prop := ∀ (V : Int → Option Nd) (N : Nat) (h : Th) (s : TS) (m : Nat) (K : List (Int × Sn)) (no : Int) (top : Bool) (bK bT bL M : Nat) (F : Assn) (w : World), (∀ n, V no = some n → n.leaf = lf) → f ≤ 13 → no ≠ 0 → KnOk V K → (∀ p n, V p = some n → may n = true ∧ p < N) → Rdy V m s → 13 * fr N K + 13 * (f + 1) ≤ m →
 Sat (treeP h s * (lookA bK bT bL M h K * F)) w → Calls Tryz.prog 128 #[.int .i64 no, .bool top, .int .i64 (13 - (f : Int)), .pointer (some ⟨bK, 0, none⟩), .pointer (some ⟨bT, 0, none⟩), .pointer (some ⟨bL, 0, none⟩)] w (LookOut V N h bK bT bL M f m s K no top F)
structure LkI (V : Int → Option Nd) (N f g : Nat) (n : Nd) (lf : Bool) (m1 : Nat) (s : TS) (K : List (Int × Sn)) (x0 : Sn) (gg lk j m3 : Nat) (s3 : TS) (K3 : List (Int × Sn)) (x : Sn) : Prop where
 meas : gg = lk - j
 rdy : Rdy V m3 s3
 sp : s3.sp = s.sp
 d : s3.ck.d = s.ck.d
 kn : KnOk V K3
 bud : m1 + 13 * fr N K3 ≤ m3 + j + 13 * fr N K
 run : lf = false → Run V g n j x
 k0 : j = 0 → K3 = K
 newk : ∀ q ∈ K3, q ∈ K ∨ q.2.h + 1 ≤ x.h
 zero : j = 0 → x = x0
 cnt : 0 ≤ x.count ∧ x.count ≤ 1036
 hgt : 0 ≤ x.h ∧ x.h ≤ 1036
 low : 0 < j → mayEnt x.last = true ∧ (K = [] → x.h < f)
end Go.Proofs.YtfhbmblbidcmmaaGreat
namespace Go.Proofs.YtfhbmblbidcmmaaGreat
set_option linter.unusedSimpArgs false
set_option linter.unusedVariables false
open Go.RowKit Go.Sl Go.Dk Go.Tr
open Go.Lru (ikey)
attribute [local go_sem ↓] Go.wp_at_zero Go.wp_at_succ
attribute [local go_sem] Go.Sl.cell_sat Go.Sl.frozen_sat put_Kn
variable [TopN]
set_option maxRecDepth 100000 in
set_option maxHeartbeats 12800000 in
theorem look_inner (f : Nat) (ih : ∀ g, f = g + 1 → LookC g) : LookL f false := by
 intro V N h s m K no top bK bT bL M F w hLV hf hno hK hV hR hm hs
 have HLV : Aside (∀ n, V no = some n → n.leaf = false) := hLV
 clear hLV
 by_cases hhit : top = false ∧ ∃ y, kget no K = some y
 · obtain ⟨rfl, y, hy⟩ := hhit
   exact look_hit f V N h s m K no bK bT bL M F w hK hR y hy hs
 have HK : Aside (KnOk V K) := hK
 have HV : Aside (∀ p n, V p = some n → may n = true ∧ p < N) := hV
 have HV1 : Aside (∀ p n, V p = some n → may n = true) := fun p n h => (hV p n h).1
 have HM : Aside (13 * fr N K + 13 * (f + 1) ≤ m ∧ no ≠ 0) := ⟨hm, hno⟩
 have HIH : Aside (∀ g, f = g + 1 → LookC g) := ih
 have HH : Aside (¬ (top = false ∧ ∃ y, kget no K = some y)) := hhit
 obtain ⟨m1, hm1⟩ : ∃ m1, m = m1 + 1 := ⟨m - 1, by omega⟩
 have HM1 : Aside (m = m1 + 1) := hm1
 have hrd := rd_call h V m1 s no
 have HRD : Aside (∀ F w, Sat (treeP h s * F) w → Calls Tryz.prog 129 #[.pointer (some ⟨h.t, 0, none⟩), .int .i64 no] w (RdEnds h V m1 s no F)) := fun F w q => hrd F w (by rw [← hm1]; exact hR) hno q
 obtain ⟨dp, hdp⟩ : ∃ d, (13 : Int) - (f : Int) = d := ⟨_, rfl⟩
 have HD : Aside (dp = 13 - (f : Int) ∧ f ≤ 13) := ⟨hdp.symm, hf⟩
 have hd0 : 0 ≤ dp ∧ dp ≤ 13 := by omega
 rw [hdp]
 obtain ⟨hd1, hd2⟩ := hd0
 have hwd : IntKind.i64.wrap (dp + 1) = dp + 1 := IntWalk.i64_in _ (by omega)
 unfold lookA at hs
 have hs1 : Sat (treeP h s * (Sl.block bK TKn [.map (some M)] * (Sl.block bT TTp [.pointer (some ⟨h.t, 0, none⟩)] * (Sl.block bL TLf [.func (Fn.func 128) #[] #[.pointer (some ⟨bK, 0, none⟩), .pointer (some ⟨bT, 0, none⟩), .pointer (some ⟨bL, 0, none⟩)]] * (mp ikey M (kn K) *  F))))) w := hs.eq (by ac_rfl)
 obtain ⟨z, ok, hz1, hz2, hz3⟩ : ∃ (z : Sn) (ok : Bool), (mget no (kn K)).getD zeroSn = snV z ∧ (mget no (kn K)).isSome = ok ∧ (ok = true → top = true) ∧ (top = false → kget no K = none) := by
  rw [mget_kn]
  cases hkg : kget no K with
  | none => exact ⟨sn0, false, rfl, rfl, fun e => Bool.noConfusion e, fun _ => rfl⟩
  | some y =>
    have ht : top = true := by
     cases top with
     | true => rfl
     | false => exact absurd ⟨rfl, y, hkg⟩ hhit
    exact ⟨y, true, rfl, rfl, fun _ => ht, fun e => by rw [ht] at e; cases e⟩
 have HZ : Aside (top = false → kget no K = none) := hz3.2
 have hz4 := hz3.1
 obtain ⟨yh, yc, ⟨a1, a2, a3, a4⟩, ⟨b1, b2, b3, b4⟩⟩ := z
 haveI := hs1.i
 have hlk : (Instr.lookup TKn (.map (some M)) (.int .i64 no) true).run Tryz.prog (w.alloc (.cells #[.int .i64 0, .int .i64 0, .int .i64 0, .int .i64 0, .int .i64 0, .int .i64 0, .int .i64 0, .int .i64 0, .int .i64 0, .int .i64 0] TSn)) = .ok (.tuple #[.agg #[.int .i64 yh, .int .i64 yc, .int .i64 a1, .int .i64 a2, .int .i64 a3, .int .i64 a4, .int .i64 b1, .int .i64 b2, .int .i64 b3, .int .i64 b4], .bool ok]) (w.alloc (.cells #[.int .i64 0, .int .i64 0, .int .i64 0, .int .i64 0, .int .i64 0, .int .i64 0, .int .i64 0, .int .i64 0, .int .i64 0, .int .i64 0] TSn)) := by
  rw [look_Kn, hz1, hz2]
  rfl
 clear hz1 hz2 hz3 hK hV hR hm hs hhit ih hrd hno hf hm1 hdp HH
 go_enter Tryz.func128, Tryz.ntmps128
 go_upto_region 2 with (fail)
 go_cut [30] (fun t30 wx => t30 = .bool false ∧ Sat (Sl.block w.heap.size TSn [.int .i64 0, .int .i64 0, .int .i64 0, .int .i64 0, .int .i64 0, .int .i64 0, .int .i64 0, .int .i64 0, .int .i64 0, .int .i64 0] * (treeP h s * (Sl.block bK TKn [.map (some M)] * (Sl.block bT TTp [.pointer (some ⟨h.t, 0, none⟩)] * (Sl.block bL TLf [.func (Fn.func 128) #[] #[.pointer (some ⟨bK, 0, none⟩), .pointer (some ⟨bT, 0, none⟩), .pointer (some ⟨bL, 0, none⟩)]] * (mp ikey M (kn K) *  F)))))) wx)
 case first =>
  cases ok with
  | false =>
    go_wp2_with fail
    go_meet
    exact ⟨rfl, satI_weak (C := Sl.block (w.heap.size + 1) TSn [.int .i64 yh, .int .i64 yc, .int .i64 a1, .int .i64 a2, .int .i64 a3, .int .i64 a4, .int .i64 b1, .int .i64 b2, .int .i64 b3, .int .i64 b4]) (by ac_rfl)⟩
  | true =>
    obtain rfl := hz4 rfl
    go_wp2_with fail
    go_meet
    exact ⟨rfl, satI_weak (C := Sl.block (w.heap.size + 1) TSn [.int .i64 yh, .int .i64 yc, .int .i64 a1, .int .i64 a2, .int .i64 a3, .int .i64 a4, .int .i64 b1, .int .i64 b2, .int .i64 b3, .int .i64 b4]) (by ac_rfl)⟩
 case rest =>
  obtain ⟨rfl, q2⟩ := hcut
  obtain ⟨N9, hN9⟩ : ∃ z, w.heap.size = z := ⟨_, rfl⟩
  rw [hN9] at q2 ⊢
  clear hs1 this hlk hN9 hz4
  haveI := q2.i
  go_wp2_with fail
  with_reducible refine Calls.mono (HRD.out _ _ (takeI (treeP h s))) ?_
  rintro e w1 ⟨s2, hR2, hsp2, hd2', hcase⟩
  have HS2 : Aside (Rdy V m1 s2 ∧ s2.sp = s.sp ∧ s2.ck.d = s.ck.d) := ⟨hR2, hsp2, hd2'⟩
  clear hR2 hsp2 hd2' q2
  rcases hcase with ⟨n, v1, B1, hvn, rfl, hN, q3⟩ | ⟨hvn, rfl, q3⟩
  rotate_left
  · haveI := q3.i
    exact ⟨rfl, s2, K, look_keep h s2 bK bT bL M K F, HS2.out.2.1, HS2.out.2.2, .inr ⟨rfl, chk_gone hvn, HS2.out.1.less (Nat.zero_le _)⟩⟩
  have hmn := HV1.out no n hvn
  have HVN : Aside (V no = some n) := hvn
  have HMN : Aside (may n = true) := hmn
  have hmany := fun F w q => many_any n v1 B1 F w hN q (by have := (SumOk.of hmn).e; omega) (by have := (SumOk.of hmn).k; omega)
  obtain ⟨vE, vK, rfl, hE, hKd⟩ := hN
  obtain ⟨aE, cE, rfl, hE1, hE2⟩ := hE.v
  obtain ⟨aK, cK, rfl, hK1, hK2⟩ := ReadsR.v hKd
  obtain ⟨le, hle⟩ : ∃ k, n.ents.length = k := ⟨_, rfl⟩
  obtain ⟨lk, hlk⟩ : ∃ k, n.kids.length = k := ⟨_, rfl⟩
  obtain ⟨lf, hlf⟩ : ∃ k, n.leaf = k := ⟨_, rfl⟩
  have HE : Aside (ReadsE B1 (.slice aE le cE) n.ents ∧ n.ents.length = le) := ⟨by rw [← hle]; exact hE, hle⟩
  have HKD : Aside (ReadsK B1 (.slice aK n.kids.length cK) n.kids ∧ n.kids.length = lk) := ⟨hKd, hlk⟩
  have HLF : Aside (n.leaf = lf) := hlf
  have hle1 : le ≤ 12 := by have := (SumOk.of hmn).e; omega
  have hlk1 : lk ≤ 12 := by have := (SumOk.of hmn).k; omega
  rw [hle, hlk, hlf] at hmany
  rw [hle] at hE1 ⊢
  rw [hlk] at hK1 ⊢
  rw [hlf]
  have HMA : Aside (∀ (F : Assn) (w : World), Sat (B1 * F) w → Calls Tryz.prog 130 #[.agg #[.bool lf, .slice aE le cE, .slice aK lk cK]] w fun e w' => e = .returned (.int .i64 (many n)) ∧ Sat (B1 * F) w') := hmany
  obtain ⟨mn, hmm⟩ : ∃ z : Nat, many n = z := ⟨_, rfl⟩
  rw [hmm] at HMA
  have HMM : Aside (many n = mn) := hmm
  haveI := q3.i
  clear hvn hmn hmany hE hKd hle hlk hlf hmm
  by_cases hf0 : f = 0
  · have hdp : dp = 13 := by have := HD.out.1; omega
    have HC0 : Aside (chk V f no top = none) := (by rw [hf0]; rfl : _ = _)
    have h12 : decide ((12 : Int) < dp) = true := decide_eq_true (by omega)
    have h12' : (12 : Int) < dp := by omega
    clear hdp hf0
    go_wp2
    exact ⟨rfl, s2, K, look_keep h s2 bK bT bL M K F, HS2.out.2.1, HS2.out.2.2, .inr ⟨rfl, HC0.out, HS2.out.1.less (Nat.zero_le _)⟩⟩
  obtain ⟨g, hg⟩ : ∃ g, f = g + 1 := ⟨f - 1, by omega⟩
  have HG : Aside (f = g + 1) := hg
  have h12 : decide ((12 : Int) < dp) = false := decide_eq_false (by have := HD.out.1; omega)
  have h12' : ¬ (12 : Int) < dp := by have := HD.out.1; omega
  obtain ⟨fw, hfw⟩ : ∃ b, decide (top = false ∧ mn < 4) = b := ⟨_, rfl⟩
  have HFW : Aside (decide (top = false ∧ mn < 4) = fw) := hfw
  clear hfw hg hf0
  go_upto_region 5 with (fail)
  go_cut [45] (fun t45 wx => t45 = .bool fw ∧ Sat (Sl.block w1.heap.size TNd [.bool lf, .slice aE le cE, .slice aK lk cK] * (B1 * (Sl.block N9 TSn [.int .i64 0, .int .i64 0, .int .i64 0, .int .i64 0, .int .i64 0, .int .i64 0, .int .i64 0, .int .i64 0, .int .i64 0, .int .i64 0] * (treeP h s2 * (Sl.block bK TKn [.map (some M)] * (Sl.block bT TTp [.pointer (some ⟨h.t, 0, none⟩)] * (Sl.block bL TLf [.func (Fn.func 128) #[] #[.pointer (some ⟨bK, 0, none⟩), .pointer (some ⟨bT, 0, none⟩), .pointer (some ⟨bL, 0, none⟩)]] * (mp ikey M (kn K) *  F)))))))) wx)
  case first =>
   cases top with
   | true =>
     have hz : fw = false := by rw [← HFW.out]; simp
     subst hz
     go_wp2_with fail
     go_meet
     exact ⟨rfl, satI_eq (by ac_rfl)⟩
   | false =>
     by_cases h4 : mn < 4
     · have hz : fw = true := by rw [← HFW.out]; simp [h4]
       subst hz
       have hf4 : (mn : Int) < 4 := by omega
       have hf4d : decide ((mn : Int) < 4) = true := decide_eq_true hf4
       go_wp2_with (go_at_call 130; with_reducible refine Calls.mono (HMA.out _ _ (takeI B1)) ?_; rintro e w4 ⟨rfl, q4⟩; haveI := q4.i)
       go_meet
       exact ⟨rfl, satI_eq (by ac_rfl)⟩
     · have hz : fw = false := by rw [← HFW.out]; simp [h4]
       subst hz
       have hf4 : ¬ (mn : Int) < 4 := by omega
       have hf4d : decide ((mn : Int) < 4) = false := decide_eq_false hf4
       go_wp2_with (go_at_call 130; with_reducible refine Calls.mono (HMA.out _ _ (takeI B1)) ?_; rintro e w4 ⟨rfl, q4⟩; haveI := q4.i)
       go_meet
       exact ⟨rfl, satI_eq (by ac_rfl)⟩
  case rest =>
   obtain ⟨rfl, q5⟩ := hcut
   obtain ⟨N12, hN12⟩ : ∃ z, w1.heap.size = z := ⟨_, rfl⟩
   rw [hN12] at q5 ⊢
   clear q3 this hN12
   haveI := q5.i
   cases fw with
   | true =>
     have HCN : Aside (chk V f no top = none) := (by
      have h9 := of_decide_eq_true HFW.out
      rw [HG.out]
      exact chk_few HVN.out ⟨h9.1, by rw [HMM.out]; exact h9.2⟩ : _ = _)
     go_wp2
     exact ⟨rfl, s2, K, look_keep h s2 bK bT bL M K F, HS2.out.2.1, HS2.out.2.2, .inr ⟨rfl, HCN.out, HS2.out.1.less (Nat.zero_le _)⟩⟩
   | false =>
     have H4 : Aside (¬ (top = false ∧ many n < 4)) := (by
      have h9 := of_decide_eq_false HFW.out
      rw [HMM.out]
      exact h9 : ¬ _)
     clear HMA HFW
     -- the leaf's own
     obtain ⟨x0, hx0⟩ : ∃ x, (if lf then (⟨0, n.ents.length, n.ents.headD e0, n.ents.getLastD e0⟩ : Sn) else sn0) = x := ⟨_, rfl⟩
     have HX0 : Aside ((if lf then (⟨0, n.ents.length, n.ents.headD e0, n.ents.getLastD e0⟩ : Sn) else sn0) = x0) := hx0
     clear hx0
     have HX1 : Aside (lf = true → Joined n.ents → Chk V no top x0) := (fun h1 h2 => by
      refine ⟨g + 1, ?_⟩
      rw [chk_leaf HVN.out (HLF.out.trans h1) H4.out, if_neg (by rw [join_len.2 h2]; simp), ← HX0.out, if_pos h1] : _ → _ → _)
     obtain ⟨N13, hN13⟩ : ∃ z, wc.heap.size = z := ⟨_, rfl⟩
     have HN13 : Aside (wc.heap.size = N13) := hN13
     clear hN13
     go_upto_if 49 with (fail)
     go_cut [49] (fun t49 wx => (lf = true → Joined n.ents) ∧ Sat (Sl.block wc.heap.size TSn (snC x0) * (Sl.block N12 TNd [.bool lf, .slice aE le cE, .slice aK lk cK] * (B1 * (Sl.block N9 TSn [.int .i64 0, .int .i64 0, .int .i64 0, .int .i64 0, .int .i64 0, .int .i64 0, .int .i64 0, .int .i64 0, .int .i64 0, .int .i64 0] * (treeP h s2 * (Sl.block bK TKn [.map (some M)] * (Sl.block bT TTp [.pointer (some ⟨h.t, 0, none⟩)] * (Sl.block bL TLf [.func (Fn.func 128) #[] #[.pointer (some ⟨bK, 0, none⟩), .pointer (some ⟨bT, 0, none⟩), .pointer (some ⟨bL, 0, none⟩)]] * (mp ikey M (kn K) *  F))))))))) wx)
     case first =>
      cases lf with
      | false =>
        have hx : x0 = sn0 := by rw [← HX0.out]; rfl
        subst hx
        go_wp2_with fail
        go_meet
        exact ⟨fun e => Bool.noConfusion e, satI_eq (by unfold snC; ac_rfl)⟩
      | true =>
        have h9 := HLV.out n HVN.out
        rw [HLF.out] at h9
        cases h9
     case rest =>
      obtain ⟨hjo, q6⟩ := hcut
      have HJO : Aside (lf = true → Joined n.ents) := hjo
      rw [HN13.out] at q6 ⊢
      clear q5 this hjo HN13
      obtain ⟨xh, xc, ⟨x1, x2, x3, x4⟩, ⟨x5, x6, x7, x8⟩⟩ := x0
      unfold snC erow at q6
      simp only [List.cons_append, List.nil_append] at q6
      haveI := q6.i
      go_wp2_with fail
      go_loopg [80] lk (fun gg t80 wr => ∃ (j m3 : Nat) (s3 : TS) (K3 : List (Int × Sn)) (x : Sn), t80 = .int .i64 j ∧ j ≤ lk ∧ Aside (LkI V N f g n lf m1 s K ⟨xh, xc, ⟨x1, x2, x3, x4⟩, ⟨x5, x6, x7, x8⟩⟩ gg lk j m3 s3 K3 x) ∧
       Sat (Sl.block N13 TSn (snC x) * (Sl.block N12 TNd [.bool lf, .slice aE le cE, .slice aK lk cK] * (B1 * (Sl.block N9 TSn [.int .i64 0, .int .i64 0, .int .i64 0, .int .i64 0, .int .i64 0, .int .i64 0, .int .i64 0, .int .i64 0, .int .i64 0, .int .i64 0] * (treeP h s3 * (Sl.block bK TKn [.map (some M)] * (Sl.block bT TTp [.pointer (some ⟨h.t, 0, none⟩)] * (Sl.block bL TLf [.func (Fn.func 128) #[] #[.pointer (some ⟨bK, 0, none⟩), .pointer (some ⟨bT, 0, none⟩), .pointer (some ⟨bL, 0, none⟩)]] * (mp ikey M (kn K3) *  F))))))))) wr)
      case atStart =>
       refine ⟨0, m1, s2, K, _, rfl, by omega, ⟨rfl, HS2.out.1, HS2.out.2.1, HS2.out.2.2, HK.out, by omega, fun e => ?_, fun _ => rfl, fun q hq => .inl hq, fun _ => rfl, ?_, ?_, fun e => by omega⟩, q6⟩
       · rw [← HX0.out, e]
         exact Run.zero g n
       · rw [← HX0.out]
         cases lf with
         | true => simp only [if_true]; have := HE.out.2; omega
         | false => exact ⟨by simp [sn0], by simp [sn0]⟩
       · rw [← HX0.out]
         cases lf with
         | true => exact ⟨by simp, by simp⟩
         | false => exact ⟨by simp [sn0], by simp [sn0]⟩
      case round =>
       obtain ⟨j, m3, s3, K3, x, rfl, hj, A, q7⟩ := hrel
       clear q6
       obtain ⟨zh, zc, ⟨z1, z2, z3, z4⟩, ⟨z5, z6, z7, z8⟩⟩ := x
       unfold snC erow at q7
       simp only [List.cons_append, List.nil_append] at q7
       haveI := q7.i
       by_cases hlt : j < lk
       · have hlt' : (j : Int) < lk := by omega
         have hlf : lf = false := by
          cases lf with
          | false => rfl
          | true =>
            have := (may_leaf HMN.out HLF.out).1
            have h9 := HKD.out.2
            rw [this] at h9
            simp at h9
            omega
         subst hlf
         obtain ⟨k, hk⟩ : ∃ k, n.kids[j]? = some k := ⟨_, List.getElem?_eq_getElem (by rw [HKD.out.2]; exact hlt)⟩
         obtain ⟨kb, ko, e9, r1, r2, r3, r4⟩ := readsK_at (a := aK) (c := cK) (by have := HKD.out.1; exact this) hk
         subst e9
         have HKJ : Aside (n.kids[j]? = some k) := hk
         have hmk := mayK_facts ((may_inner HMN.out HLF.out).2.1 k (List.mem_of_getElem? hk))
         have HMK : Aside (mayKid k = true) := (may_inner HMN.out HLF.out).2.1 k (List.mem_of_getElem? hk)
         have hbud := A.out.bud
         have hm0 := HM.out.1
         have hrec := HIH.out g HG.out V N h s3 m3 K3 k.page false bK bT bL M
         have HREC : Aside (∀ (F : Assn) (w : World), Sat (treeP h s3 * (lookA bK bT bL M h K3 * F)) w → Calls Tryz.prog 128 #[.int .i64 k.page, .bool false, .int .i64 (dp + 1), .pointer (some ⟨bK, 0, none⟩), .pointer (some ⟨bT, 0, none⟩), .pointer (some ⟨bL, 0, none⟩)] w (LookOut V N h bK bT bL M g m3 s3 K3 k.page false F)) := fun F w q => by
          have h9 := hrec F w (by have := HD.out.2; rw [HG.out] at this; omega) (by omega) A.out.kn HV.out A.out.rdy (by rw [HM1.out, HG.out] at hm0; omega) q
          have e8 : dp + 1 = 13 - (g : Int) := by have := HD.out.1; rw [HG.out] at this; omega
          rw [e8]
          exact h9
         have HBUD : Aside (m1 + 13 * fr N K3 ≤ m3 + j + 13 * fr N K ∧ 13 * fr N K + 13 * (f + 1) ≤ m) := ⟨hbud, hm0⟩
         obtain ⟨k1, k2, k3, k4⟩ := k
         simp only at r1 r2 r3 r4 HREC
         clear hk hmk hbud hm0 hrec
         go_wp2_with fail
         with_reducible refine Calls.mono (HREC.out _ _ (look_take h s3 bK bT bL M K3)) ?_
         rintro e w4 ⟨s4, K4, q8, hsp4, hd4, hcase⟩
         have HS4 : Aside (s4.sp = s.sp ∧ s4.ck.d = s.ck.d) := ⟨hsp4.trans A.out.sp, hd4.trans A.out.d⟩
         have q9 := q8.eq (look_open h s4 bK bT bL M K4 _)
         haveI := q9.i
         clear hsp4 hd4 q7
         rcases hcase with ⟨y, m4, rfl, hchk, hhy, hk4, hn4, hr4, hb4⟩ | ⟨rfl, hcn, hr4⟩
         rotate_left
         · have HCN : Aside (chk V f no top = none) := (by
            rw [HG.out]
            exact chk_none HVN.out HLF.out ((A.out.run rfl).fall HKJ.out hcn) : _ = _)
           exact ⟨rfl, s4, K4, look_keep h s4 bK bT bL M K4 F, HS4.out.1, HS4.out.2, .inr ⟨rfl, HCN.out, hr4⟩⟩
         have hlo := hchk.low HV1.out
         have HCH : Aside (Chk V k1 false y ∧ (K3 = [] → y.h < g) ∧ KnOk V K4 ∧ Rdy V m4 s4 ∧ m3 + 13 * fr N K4 ≤ m4 + 13 * fr N K3) := ⟨hchk, hhy, hk4, hr4, by simpa using hb4⟩
         have HNW : Aside (∀ q ∈ K4, q ∈ K3 ∨ q.2.h ≤ y.h) := hn4
         obtain ⟨nk, hnk⟩ := hchk.is
         obtain ⟨m5, hm5⟩ : ∃ m5, m4 = m5 + 1 := ⟨m4 - 1, by
          have := HBUD.out
          have h9 := HCH.out.2.2.2.2
          have hg9 := HG.out
          have h8 := HM1.out
          omega⟩
         have hk10 : k1 ≠ 0 := by have := mayK_facts HMK.out; simp only at this; omega
         have hrd5 := fun F w q => rd_call h V m5 s4 k1 F w (by rw [← hm5]; exact hr4) hk10 q
         have HRD5 : Aside (∀ F w, Sat (treeP h s4 * F) w → Calls Tryz.prog 129 #[.pointer (some ⟨h.t, 0, none⟩), .int .i64 k1] w (RdEnds h V m5 s4 k1 F)) := hrd5
         have HM5 : Aside (m4 = m5 + 1) := hm5
         have HNK : Aside (V k1 = some nk) := hnk
         have HLO : Aside (Low y) := hlo
         have hy1 := hlo.c1
         have hy2 := hlo.c2
         have hy3 := hlo.h1
         have hy0 := hlo.h0
         obtain ⟨yh, yc, ⟨y1, y2, y3, y4⟩, ⟨y5, y6, y7, y8⟩⟩ := y
         simp only at hy1 hy2 hy3 hy0
         have hwh : IntKind.i64.wrap (yh + 1) = yh + 1 := IntWalk.i64_in _ (by omega)
         have hcn := A.out.cnt
         have hgt := A.out.hgt
         simp only at hcn hgt
         have hwc : IntKind.i64.wrap (zc + yc) = zc + yc := IntWalk.i64_in _ (by omega)
         unfold snV
         simp only
         clear hchk hhy hk4 hn4 hr4 hb4 hnk hm5 hrd5 hlo hk10 q8
         go_wp2_with fail
         with_reducible refine Calls.mono (HRD5.out _ _ (takeI (treeP h s4))) ?_
         rintro e w5 ⟨s5, hR5, hsp5, hd5, hcase⟩
         rcases hcase with ⟨n5, v5, B5, hv5, rfl, hN5, q10⟩ | ⟨hv5, rfl, q10⟩
         rotate_left
         · rw [HNK.out] at hv5
           cases hv5
         have hn5 : n5 = nk := by rw [HNK.out] at hv5; cases hv5; rfl
         subst hn5
         have HS5 : Aside (Rdy V m5 s5 ∧ s5.sp = s.sp ∧ s5.ck.d = s.ck.d) := ⟨hR5, hsp5.trans HS4.out.1, hd5.trans HS4.out.2⟩
         have hmn5 := HV1.out k1 n5 HNK.out
         have hsm := fun F w q => ndSum_any n5 v5 B5 F w hN5 q (by have := (SumOk.of hmn5).e; omega) (by have := (SumOk.of hmn5).k; omega)
         obtain ⟨⟨t1, t2, t3⟩, hts⟩ : ∃ r, ndSum n5 = r := ⟨_, rfl⟩
         have HTS : Aside (ndSum (nodeOr V k1) = (t1, t2, t3)) := (by unfold nodeOr; rw [HNK.out]; exact hts : _ = _)
         rw [hts] at hsm
         simp only at hsm
         have HSM : Aside (∀ (F : Assn) (w : World), Sat (B5 * F) w → Calls Tryz.prog 131 #[v5] w fun e w' => e = .returned (.tuple #[.int .i64 t1, .int .i64 t2, .int .i64 t3]) ∧ Sat (B5 * F) w') := hsm
         haveI := q10.i
         clear hR5 hsp5 hd5 hv5 hN5 hmn5 hsm hts q9
         go_wp2_with fail
         with_reducible refine Calls.mono (HSM.out _ _ (takeI B5)) ?_
         rintro e w6 ⟨rfl, q11⟩
         haveI := q11.i
         clear q10 HSM
         have q12 : Sat (Sl.block N13 TSn [.int .i64 zh, .int .i64 zc, .int .i64 z1, .int .i64 z2, .int .i64 z3, .int .i64 z4, .int .i64 z5, .int .i64 z6, .int .i64 z7, .int .i64 z8] * (Sl.block w4.heap.size TSn [.int .i64 yh, .int .i64 yc, .int .i64 y1, .int .i64 y2, .int .i64 y3, .int .i64 y4, .int .i64 y5, .int .i64 y6, .int .i64 y7, .int .i64 y8] * (Sl.block N12 TNd [.bool false, .slice aE le cE, .slice (some ⟨kb, ko, none⟩) lk cK] * (B1 * (Sl.block N9 TSn [.int .i64 0, .int .i64 0, .int .i64 0, .int .i64 0, .int .i64 0, .int .i64 0, .int .i64 0, .int .i64 0, .int .i64 0, .int .i64 0] * (treeP h s5 * (Sl.block bK TKn [.map (some M)] * (Sl.block bT TTp [.pointer (some ⟨h.t, 0, none⟩)] * (Sl.block bL TLf [.func (Fn.func 128) #[] #[.pointer (some ⟨bK, 0, none⟩), .pointer (some ⟨bT, 0, none⟩), .pointer (some ⟨bL, 0, none⟩)]] * (mp ikey M (kn K4) *  F)))))))))) w6 := satI_weak (C := B5 * Sl.block wr.heap.size 141 [.int .i64 k1, .int .i64 k2, .int .i64 k3, .int .i64 k4]) (by ac_rfl)
         obtain ⟨ms, hms⟩ : ∃ b, meets ⟨z5, z6, z7, z8⟩ ⟨y1, y2, y3, y4⟩ = b := ⟨_, rfl⟩
         have HMS : Aside (meets ⟨z5, z6, z7, z8⟩ ⟨y1, y2, y3, y4⟩ = ms) := hms
         obtain ⟨bd, hbd⟩ : ∃ b, decide (t1 ≠ k2 ∨ t2 ≠ k3 ∨ t3 ≠ k4 ∨ ((j == 0) = false ∧ (yh + 1 ≠ zh ∨ ms = true))) = b := ⟨_, rfl⟩
         have HBD : Aside (decide (t1 ≠ k2 ∨ t2 ≠ k3 ∨ t3 ≠ k4 ∨ ((j == 0) = false ∧ (yh + 1 ≠ zh ∨ ms = true))) = bd) := hbd
         have HJ2 : Aside (0 < j → ∀ (b b2 : Nat) (F : Assn) (w : World), Sat (Sl.block b2 29 [.slice (some ⟨b, 0, none⟩) 2 2] * (Sl.block b TEn [.int .i64 z5, .int .i64 z6, .int .i64 z7, .int .i64 z8, .int .i64 y1, .int .i64 y2, .int .i64 y3, .int .i64 y4] * F)) w → Calls Tryz.prog 80 #[.slice (some ⟨b2, 0, none⟩) 1 1] w fun e w' => ∃ a c G, e = .returned (.slice a (if ms then 1 else 2) c) ∧ Sat (G * F) w') := fun hj0 b b2 F w q => by
          have h8 := (A.out.low hj0).1
          have h7 := HLO.out.first
          rw [← hms]
          exact join_two_call _ _ b b2 F w h8 h7 q
         clear hms hbd
         go_upto_region 17 with (fail)
         go_cut [138] (fun t138 wx => t138 = .bool bd ∧ Sat (Sl.block N13 TSn [.int .i64 zh, .int .i64 zc, .int .i64 z1, .int .i64 z2, .int .i64 z3, .int .i64 z4, .int .i64 z5, .int .i64 z6, .int .i64 z7, .int .i64 z8] * (Sl.block w4.heap.size TSn [.int .i64 yh, .int .i64 yc, .int .i64 y1, .int .i64 y2, .int .i64 y3, .int .i64 y4, .int .i64 y5, .int .i64 y6, .int .i64 y7, .int .i64 y8] * (Sl.block N12 TNd [.bool false, .slice aE le cE, .slice (some ⟨kb, ko, none⟩) lk cK] * (B1 * (Sl.block N9 TSn [.int .i64 0, .int .i64 0, .int .i64 0, .int .i64 0, .int .i64 0, .int .i64 0, .int .i64 0, .int .i64 0, .int .i64 0, .int .i64 0] * (treeP h s5 * (Sl.block bK TKn [.map (some M)] * (Sl.block bT TTp [.pointer (some ⟨h.t, 0, none⟩)] * (Sl.block bL TLf [.func (Fn.func 128) #[] #[.pointer (some ⟨bK, 0, none⟩), .pointer (some ⟨bT, 0, none⟩), .pointer (some ⟨bL, 0, none⟩)]] * (mp ikey M (kn K4) *  F)))))))))) wx)
         case first =>
          cases e2 : (t1 != k2) with
          | true =>
            have hz : bd = true := by
             have c2 : t1 ≠ k2 := by simpa using e2
             rw [← HBD.out]
             simp [*]
            subst hz
            go_wp2_with fail
            go_meet
            exact ⟨rfl, q12⟩
          | false =>
            cases e3 : (t2 != k3) with
            | true =>
              have hz : bd = true := by
               have c3 : t2 ≠ k3 := by simpa using e3
               rw [← HBD.out]
               simp [*]
              subst hz
              go_wp2_with fail
              go_meet
              exact ⟨rfl, q12⟩
            | false =>
              cases e4 : (t3 != k4) with
              | true =>
                have hz : bd = true := by
                 have c4 : t3 ≠ k4 := by simpa using e4
                 rw [← HBD.out]
                 simp [*]
                subst hz
                go_wp2_with fail
                go_meet
                exact ⟨rfl, q12⟩
              | false =>
                by_cases c5 : j = 0
                · have hj0 : (j : Int) = 0 := by omega
                  have hjd : decide ((0 : Int) < (j : Int)) = false := decide_eq_false (by omega)
                  have hz : bd = false := by
                   clear hj0 hjd
                   have c2 : t1 = k2 := by simpa using e2
                   have c3 : t2 = k3 := by simpa using e3
                   have c4 : t3 = k4 := by simpa using e4
                   rw [← HBD.out]
                   simp [*]
                  subst hz
                  go_wp2_with fail
                  go_meet
                  exact ⟨rfl, q12⟩
                · have hjp : (0 : Int) < j := by omega
                  have hj0 : 0 < j := by omega
                  have hjd : decide ((0 : Int) < (j : Int)) = true := decide_eq_true hjp
                  cases e6 : (yh + 1 != zh) with
                  | true =>
                    have hz : bd = true := by
                     clear hjp hjd
                     have c6 : yh + 1 ≠ zh := by simpa using e6
                     rw [← HBD.out]
                     simp [*]
                    subst hz
                    go_wp2_with fail
                    go_meet
                    exact ⟨rfl, q12⟩
                  | false =>
                    cases ms with
                    | true =>
                      simp only [if_true] at HJ2
                      have hz : bd = true := by
                       clear hjp hjd
                       have c6 : yh + 1 = zh := by simpa using e6
                       rw [← HBD.out]
                       simp [*]
                      subst hz
                      go_wp2_with (go_at_call 80; with_reducible refine Calls.mono (HJ2.out hj0 w6.heap.size (w6.heap.size + 1) _ _ (takeI2 (Sl.block (w6.heap.size + 1) 29 [.slice (some ⟨w6.heap.size, 0, none⟩) 2 2]) (Sl.block w6.heap.size TEn [.int .i64 z5, .int .i64 z6, .int .i64 z7, .int .i64 z8, .int .i64 y1, .int .i64 y2, .int .i64 y3, .int .i64 y4]))) ?_; rintro e w7 ⟨a7, c7, G7, rfl, q13⟩; haveI := q13.i)
                      go_meet
                      exact ⟨rfl, satI_weak (C := G7 * (B5 * Sl.block wr.heap.size 141 [.int .i64 k1, .int .i64 k2, .int .i64 k3, .int .i64 k4])) (by ac_rfl)⟩
                    | false =>
                      simp only [Bool.false_eq_true, if_false] at HJ2
                      have hz : bd = false := by
                       clear hjp hjd
                       have c2 : t1 = k2 := by simpa using e2
                       have c3 : t2 = k3 := by simpa using e3
                       have c4 : t3 = k4 := by simpa using e4
                       have c6 : yh + 1 = zh := by simpa using e6
                       rw [← HBD.out]
                       simp [*]
                      subst hz
                      go_wp2_with (go_at_call 80; with_reducible refine Calls.mono (HJ2.out hj0 w6.heap.size (w6.heap.size + 1) _ _ (takeI2 (Sl.block (w6.heap.size + 1) 29 [.slice (some ⟨w6.heap.size, 0, none⟩) 2 2]) (Sl.block w6.heap.size TEn [.int .i64 z5, .int .i64 z6, .int .i64 z7, .int .i64 z8, .int .i64 y1, .int .i64 y2, .int .i64 y3, .int .i64 y4]))) ?_; rintro e w7 ⟨a7, c7, G7, rfl, q13⟩; haveI := q13.i)
                      go_meet
                      exact ⟨rfl, satI_weak (C := G7 * (B5 * Sl.block wr.heap.size 141 [.int .i64 k1, .int .i64 k2, .int .i64 k3, .int .i64 k4])) (by ac_rfl)⟩
         case rest =>
          obtain ⟨rfl, q14⟩ := hcut
          obtain ⟨N16, hN16⟩ : ∃ z, w4.heap.size = z := ⟨_, rfl⟩
          rw [hN16] at q14 ⊢
          clear q11 q12 this hN16 HJ2
          haveI := q14.i
          cases bd with
          | true =>
            have HCN : Aside (chk V f no top = none) := (by
             rw [HG.out]
             refine chk_none HVN.out HLF.out ((A.out.run rfl).unfit HV1.out HKJ.out HCH.out.1 (cKid_unfit ?_))
             rw [HTS.out]
             simp only
             rw [HMS.out]
             exact of_decide_eq_true HBD.out : _ = _)
            go_wp2
            exact ⟨rfl, s5, K4, look_keep h s5 bK bT bL M K4 F, HS5.out.2.1, HS5.out.2.2, .inr ⟨rfl, HCN.out, HS5.out.1.less (Nat.zero_le _)⟩⟩
          | false =>
            have hfit := cKid_fit (y := ⟨yh, yc, ⟨y1, y2, y3, y4⟩, ⟨y5, y6, y7, y8⟩⟩) (x := ⟨zh, zc, ⟨z1, z2, z3, z4⟩, ⟨z5, z6, z7, z8⟩⟩) (s := ndSum (nodeOr V k1)) (first := j == 0) (k := ⟨k1, k2, k3, k4⟩) (by
             rw [HTS.out]
             simp only
             rw [HMS.out]
             exact of_decide_eq_false HBD.out)
            simp only at hfit
            obtain ⟨⟨f1, f2, f3, f4⟩, hff⟩ : ∃ e : Ent, (if (j == 0) = true then (⟨y1, y2, y3, y4⟩ : Ent) else ⟨z1, z2, z3, z4⟩) = e := ⟨_, rfl⟩
            rw [hff] at hfit
            have HFIT : Aside (((j == 0) = false → yh + 1 = zh) ∧ (1024 < zc + yc → cKid ⟨yh, yc, ⟨y1, y2, y3, y4⟩, ⟨y5, y6, y7, y8⟩⟩ (ndSum (nodeOr V k1)) (j == 0) ⟨k1, k2, k3, k4⟩ ⟨zh, zc, ⟨z1, z2, z3, z4⟩, ⟨z5, z6, z7, z8⟩⟩ = none) ∧ (¬ 1024 < zc + yc → cKid ⟨yh, yc, ⟨y1, y2, y3, y4⟩, ⟨y5, y6, y7, y8⟩⟩ (ndSum (nodeOr V k1)) (j == 0) ⟨k1, k2, k3, k4⟩ ⟨zh, zc, ⟨z1, z2, z3, z4⟩, ⟨z5, z6, z7, z8⟩⟩ = some ⟨yh + 1, zc + yc, ⟨f1, f2, f3, f4⟩, ⟨y5, y6, y7, y8⟩⟩)) := hfit
            have HFF : Aside ((if (j == 0) = true then (⟨y1, y2, y3, y4⟩ : Ent) else ⟨z1, z2, z3, z4⟩) = ⟨f1, f2, f3, f4⟩) := hff
            clear hfit hff
            go_upto_if 142 with (fail)
            go_cut [142] (fun t142 wx => Sat (Sl.block N13 TSn [.int .i64 (yh + 1), .int .i64 zc, .int .i64 f1, .int .i64 f2, .int .i64 f3, .int .i64 f4, .int .i64 z5, .int .i64 z6, .int .i64 z7, .int .i64 z8] * (Sl.block N16 TSn [.int .i64 yh, .int .i64 yc, .int .i64 y1, .int .i64 y2, .int .i64 y3, .int .i64 y4, .int .i64 y5, .int .i64 y6, .int .i64 y7, .int .i64 y8] * (Sl.block N12 TNd [.bool false, .slice aE le cE, .slice (some ⟨kb, ko, none⟩) lk cK] * (B1 * (Sl.block N9 TSn [.int .i64 0, .int .i64 0, .int .i64 0, .int .i64 0, .int .i64 0, .int .i64 0, .int .i64 0, .int .i64 0, .int .i64 0, .int .i64 0] * (treeP h s5 * (Sl.block bK TKn [.map (some M)] * (Sl.block bT TTp [.pointer (some ⟨h.t, 0, none⟩)] * (Sl.block bL TLf [.func (Fn.func 128) #[] #[.pointer (some ⟨bK, 0, none⟩), .pointer (some ⟨bT, 0, none⟩), .pointer (some ⟨bL, 0, none⟩)]] * (mp ikey M (kn K4) *  F)))))))))) wx)
            case first =>
             by_cases c5 : j = 0
             · have e5 : ((j : Int) == 0) = true := by simp [c5]
               have h9 : (⟨y1, y2, y3, y4⟩ : Ent) = ⟨f1, f2, f3, f4⟩ := by rw [← HFF.out, if_pos (by simp [c5])]
               cases h9
               clear c5
               go_upto_region 20 with (fail)
               go_region
               go_wp2_with fail
               go_meet
               exact satI_eq (by ac_rfl)
             · have e5 : ((j : Int) == 0) = false := by simp [c5]
               have h9 : (⟨z1, z2, z3, z4⟩ : Ent) = ⟨f1, f2, f3, f4⟩ := by rw [← HFF.out, if_neg (by simp [c5])]
               have h8 : yh + 1 = zh := HFIT.out.1 (by simp [c5])
               have H8 : Aside (yh + 1 = zh) := h8
               cases h9
               clear c5 h8
               go_wp2_with fail
               go_meet
               rw [H8.out]
               exact satI_eq (by ac_rfl)
            case rest =>
             have q15 := hcut
             clear q14 this
             haveI := q15.i
             by_cases hbig : 1024 < zc + yc
             · have HCN : Aside (chk V f no top = none) := (by
                rw [HG.out]
                exact chk_none HVN.out HLF.out ((A.out.run rfl).unfit HV1.out HKJ.out HCH.out.1 (HFIT.out.2.1 hbig)) : _ = _)
               have hb1 : decide ((1024 : Int) < zc + yc) = true := decide_eq_true hbig
               go_wp2
               exact ⟨rfl, s5, K4, look_keep h s5 bK bT bL M K4 F, HS5.out.2.1, HS5.out.2.2, .inr ⟨rfl, HCN.out, HS5.out.1.less (Nat.zero_le _)⟩⟩
             · have hb1 : decide ((1024 : Int) < zc + yc) = false := decide_eq_false hbig
               have HLI : Aside (LkI V N f g n false m1 s K ⟨xh, xc, ⟨x1, x2, x3, x4⟩, ⟨x5, x6, x7, x8⟩⟩ (lk - (j + 1)) lk (j + 1) m5 s5 K4 ⟨yh + 1, zc + yc, ⟨f1, f2, f3, f4⟩, ⟨y5, y6, y7, y8⟩⟩) := (by
                have hB := HBUD.out.1
                have hC := HCH.out.2.2.2.2
                have hM := HM5.out
                refine ⟨rfl, HS5.out.1, HS5.out.2.1, HS5.out.2.2, HCH.out.2.2.1, by omega, fun _ => (A.out.run rfl).next HV1.out HKJ.out HCH.out.1 (HFIT.out.2.2 hbig), fun e => by omega, fun q hq => ?_, fun e => by omega, ?_, ?_, fun _ => ⟨HLO.out.last, fun e => ?_⟩⟩
                · rcases HNW.out q hq with h9 | h9
                  · rcases A.out.newk q h9 with h8 | h8
                    · exact .inl h8
                    · by_cases c5 : j = 0
                      · rw [A.out.k0 c5] at h9
                        exact .inl h9
                      · have h7 := HFIT.out.1 (by simp [c5])
                        simp only at h8 ⊢
                        exact .inr (by omega)
                  · simp only at h9 ⊢
                    exact .inr (by omega)
                · simp only; omega
                · simp only; omega
                · by_cases c5 : j = 0
                  · have h9 := HCH.out.2.1 (by rw [A.out.k0 c5]; exact e)
                    have := HG.out
                    simp only at h9 ⊢
                    omega
                  · have h7 := HFIT.out.1 (by simp [c5])
                    have h9 := (A.out.low (by omega)).2 e
                    simp only at h9 ⊢
                    omega : LkI _ _ _ _ _ _ _ _ _ _ _ _ _ _ _ _ _)
               go_wp2_with fail
               go_roundg (lk - (j + 1))
               case measure => have := A.out.meas; omega
               case rel =>
                exact ⟨j + 1, m5, s5, K4, _, by go_num, by omega, HLI, satI_weak (C := Sl.block N16 TSn [.int .i64 yh, .int .i64 yc, .int .i64 y1, .int .i64 y2, .int .i64 y3, .int .i64 y4, .int .i64 y5, .int .i64 y6, .int .i64 y7, .int .i64 y8]) (by unfold snC erow; ac_rfl)⟩
       · have hlt' : ¬ (j : Int) < lk := by omega
         obtain rfl : j = lk := by omega
         have HC : Aside (Chk V no top ⟨zh, zc, ⟨z1, z2, z3, z4⟩, ⟨z5, z6, z7, z8⟩⟩) := (by
          cases lf with
          | true =>
            have h9 := (may_leaf HMN.out HLF.out).1
            have h8 := HKD.out.2
            rw [h9] at h8
            rw [A.out.zero h8.symm]
            exact HX1.out rfl (HJO.out rfl)
          | false =>
            have h9 := A.out.run rfl
            rw [← HKD.out.2] at h9
            exact h9.done HVN.out HLF.out H4.out : Chk _ _ _ _)
         have hno0 : 0 ≤ no ∧ no < N := ⟨by
          have h9 := (HV.out no n HVN.out).2
          rcases Int.lt_or_le no 0 with h8 | h8
          · have : V no = none := A.out.rdy.out (by omega)
            rw [HVN.out] at this
            cases this
          · exact h8, (HV.out no n HVN.out).2⟩
         have HNO : Aside (0 ≤ no ∧ no < N) := hno0
         clear hno0
         have HLH : Aside (K = [] → zh < f) := (fun e => by
          by_cases c5 : j = 0
          · have h9 := A.out.zero c5
            have hG := HG.out
            have h7 := HX0.out
            rw [← h9] at h7
            cases lf with
            | true =>
              simp only [if_true] at h7
              have h6 := congrArg Sn.h h7
              simp only at h6
              omega
            | false =>
              have h6 := congrArg Sn.h h7
              have : (if false = true then (⟨0, n.ents.length, n.ents.headD e0, n.ents.getLastD e0⟩ : Sn) else sn0).h = 0 := rfl
              rw [this] at h6
              simp only at h6
              omega
          · exact (A.out.low (by omega)).2 e : _ → _)
         have HNK2 : Aside (top = false → kget no K3 = none) := (fun e => by
          cases hq : kget no K3 with
          | none => rfl
          | some z =>
            exfalso
            have h9 := kget_mem hq
            rcases A.out.newk _ h9 with h8 | h8
            · have h7 := HZ.out e
              have : ∀ (K : List (Int × Sn)), (no, z) ∈ K → kget no K ≠ none := fun K hK h6 => by
               have h5 := hasK_get (i := no.toNat) h6 (by have := HNO.out.1; omega)
               unfold hasK at h5
               rw [List.any_eq_false] at h5
               have := h5 _ hK
               simp at this
               have := HNO.out.1
               omega
              exact this K h8 h7
            · have h6 := A.out.kn.get hq
              obtain ⟨q1, q2⟩ := id HC.out
              rw [e] at q2
              have h5 := h6.of HV1.out q2
              rw [← h5] at h8
              simp only at h8
              omega : _ → _)
         have HBJ : Aside (m1 + 13 * fr N K3 ≤ m3 + j + 13 * fr N K ∧ m = m1 + 1 ∧ j ≤ 12) := ⟨A.out.bud, HM1.out, hlk1⟩
         have HA : Aside (KnOk V K3 ∧ Rdy V m3 s3 ∧ s3.sp = s.sp ∧ s3.ck.d = s.ck.d ∧ ∀ q ∈ K3, q ∈ K ∨ q.2.h + 1 ≤ zh) := ⟨A.out.kn, A.out.rdy, A.out.sp, A.out.d, A.out.newk⟩
         clear A
         cases top with
         | true =>
           go_wp2
           go_returns
           have q8 := store10 (w := wr) (b := N9) (e := TSn) (c0 := .int .i64 0) (c1 := .int .i64 0) (c2 := .int .i64 0) (c3 := .int .i64 0) (c4 := .int .i64 0) (c5 := .int .i64 0) (c6 := .int .i64 0) (c7 := .int .i64 0) (c8 := .int .i64 0) (c9 := .int .i64 0) (v0 := .int .i64 zh) (v1 := .int .i64 zc) (v2 := .int .i64 z1) (v3 := .int .i64 z2) (v4 := .int .i64 z3) (v5 := .int .i64 z4) (v6 := .int .i64 z5) (v7 := .int .i64 z6) (v8 := .int .i64 z7) (v9 := .int .i64 z8)
           haveI := q8.i
           refine ⟨s3, K3, look_keep h s3 bK bT bL M K3 F, HA.out.2.2.1, HA.out.2.2.2.1, .inl ⟨⟨zh, zc, ⟨z1, z2, z3, z4⟩, ⟨z5, z6, z7, z8⟩⟩, m3, rfl, HC.out, HLH.out, HA.out.1, fun q hq => (HA.out.2.2.2.2 q hq).imp id fun h9 => ?_, HA.out.2.1, ?_⟩⟩
           · simp only; omega
           · have := HBJ.out; simp only [if_true]; omega
         | false =>
           go_wp2
           go_returns
           have q8 := store10 (w := putW Tryz.prog TKn M (ikey no) (.agg #[.int .i64 zh, .int .i64 zc, .int .i64 z1, .int .i64 z2, .int .i64 z3, .int .i64 z4, .int .i64 z5, .int .i64 z6, .int .i64 z7, .int .i64 z8]) wr) (b := N9) (e := TSn) (c0 := .int .i64 0) (c1 := .int .i64 0) (c2 := .int .i64 0) (c3 := .int .i64 0) (c4 := .int .i64 0) (c5 := .int .i64 0) (c6 := .int .i64 0) (c7 := .int .i64 0) (c8 := .int .i64 0) (c9 := .int .i64 0) (v0 := .int .i64 zh) (v1 := .int .i64 zc) (v2 := .int .i64 z1) (v3 := .int .i64 z2) (v4 := .int .i64 z3) (v5 := .int .i64 z4) (v6 := .int .i64 z5) (v7 := .int .i64 z6) (v8 := .int .i64 z7) (v9 := .int .i64 z8)
           haveI := q8.i
           have hfr := fr_put (y := ⟨zh, zc, ⟨z1, z2, z3, z4⟩, ⟨z5, z6, z7, z8⟩⟩) (HNK2.out (by simp)) HNO.out.1 HNO.out.2
           refine ⟨s3, kput no ⟨zh, zc, ⟨z1, z2, z3, z4⟩, ⟨z5, z6, z7, z8⟩⟩ K3, ?_, HA.out.2.2.1, HA.out.2.2.2.1, .inl ⟨⟨zh, zc, ⟨z1, z2, z3, z4⟩, ⟨z5, z6, z7, z8⟩⟩, m3, rfl, HC.out, HLH.out, HA.out.1.put HC.out, fun q hq => ?_, HA.out.2.1, ?_⟩⟩
           · exact (keep6 (treeP h s3) (Sl.block bK TKn [.map (some M)]) (Sl.block bT TTp [.pointer (some ⟨h.t, 0, none⟩)]) (Sl.block bL TLf [.func (Fn.func 128) #[] #[.pointer (some ⟨bK, 0, none⟩), .pointer (some ⟨bT, 0, none⟩), .pointer (some ⟨bL, 0, none⟩)]]) (mp ikey M (mput no (.agg #[.int .i64 zh, .int .i64 zc, .int .i64 z1, .int .i64 z2, .int .i64 z3, .int .i64 z4, .int .i64 z5, .int .i64 z6, .int .i64 z7, .int .i64 z8]) (kn K3))) F).eq (by rw [look_open, ← mput_kn]; rfl)
           · rcases kput_mem hq with e | e
             · rw [e]; simp only; exact .inr (Int.le_refl _)
             · exact (HA.out.2.2.2.2 q e).imp id fun h9 => by simp only; omega
           · have := HBJ.out; simp only [Bool.false_eq_true, if_false]; omega
end Go.Proofs.YtfhbmblbidcmmaaGreat
namespace Go.Proofs.YtfhbmblbidcmmaaGreat
set_option linter.unusedSimpArgs false
set_option linter.unusedVariables false
open Go.RowKit Go.Sl Go.Dk Go.Tr
open Go.Lru (ikey)
attribute [local go_sem ↓] Go.wp_at_zero Go.wp_at_succ
attribute [local go_sem] Go.Sl.cell_sat Go.Sl.frozen_sat put_Kn
variable [TopN]
set_option maxRecDepth 100000 in
set_option maxHeartbeats 12800000 in
theorem look_leaf (f : Nat) (ih : ∀ g, f = g + 1 → LookC g) : LookL f true := by
 intro V N h s m K no top bK bT bL M F w hLV hf hno hK hV hR hm hs
 have HLV : Aside (∀ n, V no = some n → n.leaf = true) := hLV
 clear hLV
 by_cases hhit : top = false ∧ ∃ y, kget no K = some y
 · obtain ⟨rfl, y, hy⟩ := hhit
   exact look_hit f V N h s m K no bK bT bL M F w hK hR y hy hs
 have HK : Aside (KnOk V K) := hK
 have HV : Aside (∀ p n, V p = some n → may n = true ∧ p < N) := hV
 have HV1 : Aside (∀ p n, V p = some n → may n = true) := fun p n h => (hV p n h).1
 have HM : Aside (13 * fr N K + 13 * (f + 1) ≤ m ∧ no ≠ 0) := ⟨hm, hno⟩
 have HIH : Aside (∀ g, f = g + 1 → LookC g) := ih
 have HH : Aside (¬ (top = false ∧ ∃ y, kget no K = some y)) := hhit
 obtain ⟨m1, hm1⟩ : ∃ m1, m = m1 + 1 := ⟨m - 1, by omega⟩
 have HM1 : Aside (m = m1 + 1) := hm1
 have hrd := rd_call h V m1 s no
 have HRD : Aside (∀ F w, Sat (treeP h s * F) w → Calls Tryz.prog 129 #[.pointer (some ⟨h.t, 0, none⟩), .int .i64 no] w (RdEnds h V m1 s no F)) := fun F w q => hrd F w (by rw [← hm1]; exact hR) hno q
 obtain ⟨dp, hdp⟩ : ∃ d, (13 : Int) - (f : Int) = d := ⟨_, rfl⟩
 have HD : Aside (dp = 13 - (f : Int) ∧ f ≤ 13) := ⟨hdp.symm, hf⟩
 have hd0 : 0 ≤ dp ∧ dp ≤ 13 := by omega
 rw [hdp]
 obtain ⟨hd1, hd2⟩ := hd0
 have hwd : IntKind.i64.wrap (dp + 1) = dp + 1 := IntWalk.i64_in _ (by omega)
 unfold lookA at hs
 have hs1 : Sat (treeP h s * (Sl.block bK TKn [.map (some M)] * (Sl.block bT TTp [.pointer (some ⟨h.t, 0, none⟩)] * (Sl.block bL TLf [.func (Fn.func 128) #[] #[.pointer (some ⟨bK, 0, none⟩), .pointer (some ⟨bT, 0, none⟩), .pointer (some ⟨bL, 0, none⟩)]] * (mp ikey M (kn K) *  F))))) w := hs.eq (by ac_rfl)
 obtain ⟨z, ok, hz1, hz2, hz3⟩ : ∃ (z : Sn) (ok : Bool), (mget no (kn K)).getD zeroSn = snV z ∧ (mget no (kn K)).isSome = ok ∧ (ok = true → top = true) ∧ (top = false → kget no K = none) := by
  rw [mget_kn]
  cases hkg : kget no K with
  | none => exact ⟨sn0, false, rfl, rfl, fun e => Bool.noConfusion e, fun _ => rfl⟩
  | some y =>
    have ht : top = true := by
     cases top with
     | true => rfl
     | false => exact absurd ⟨rfl, y, hkg⟩ hhit
    exact ⟨y, true, rfl, rfl, fun _ => ht, fun e => by rw [ht] at e; cases e⟩
 have HZ : Aside (top = false → kget no K = none) := hz3.2
 have hz4 := hz3.1
 obtain ⟨yh, yc, ⟨a1, a2, a3, a4⟩, ⟨b1, b2, b3, b4⟩⟩ := z
 haveI := hs1.i
 have hlk : (Instr.lookup TKn (.map (some M)) (.int .i64 no) true).run Tryz.prog (w.alloc (.cells #[.int .i64 0, .int .i64 0, .int .i64 0, .int .i64 0, .int .i64 0, .int .i64 0, .int .i64 0, .int .i64 0, .int .i64 0, .int .i64 0] TSn)) = .ok (.tuple #[.agg #[.int .i64 yh, .int .i64 yc, .int .i64 a1, .int .i64 a2, .int .i64 a3, .int .i64 a4, .int .i64 b1, .int .i64 b2, .int .i64 b3, .int .i64 b4], .bool ok]) (w.alloc (.cells #[.int .i64 0, .int .i64 0, .int .i64 0, .int .i64 0, .int .i64 0, .int .i64 0, .int .i64 0, .int .i64 0, .int .i64 0, .int .i64 0] TSn)) := by
  rw [look_Kn, hz1, hz2]
  rfl
 clear hz1 hz2 hz3 hK hV hR hm hs hhit ih hrd hno hf hm1 hdp HH
 go_enter Tryz.func128, Tryz.ntmps128
 go_upto_region 2 with (fail)
 go_cut [30] (fun t30 wx => t30 = .bool false ∧ Sat (Sl.block w.heap.size TSn [.int .i64 0, .int .i64 0, .int .i64 0, .int .i64 0, .int .i64 0, .int .i64 0, .int .i64 0, .int .i64 0, .int .i64 0, .int .i64 0] * (treeP h s * (Sl.block bK TKn [.map (some M)] * (Sl.block bT TTp [.pointer (some ⟨h.t, 0, none⟩)] * (Sl.block bL TLf [.func (Fn.func 128) #[] #[.pointer (some ⟨bK, 0, none⟩), .pointer (some ⟨bT, 0, none⟩), .pointer (some ⟨bL, 0, none⟩)]] * (mp ikey M (kn K) *  F)))))) wx)
 case first =>
  cases ok with
  | false =>
    go_wp2_with fail
    go_meet
    exact ⟨rfl, satI_weak (C := Sl.block (w.heap.size + 1) TSn [.int .i64 yh, .int .i64 yc, .int .i64 a1, .int .i64 a2, .int .i64 a3, .int .i64 a4, .int .i64 b1, .int .i64 b2, .int .i64 b3, .int .i64 b4]) (by ac_rfl)⟩
  | true =>
    obtain rfl := hz4 rfl
    go_wp2_with fail
    go_meet
    exact ⟨rfl, satI_weak (C := Sl.block (w.heap.size + 1) TSn [.int .i64 yh, .int .i64 yc, .int .i64 a1, .int .i64 a2, .int .i64 a3, .int .i64 a4, .int .i64 b1, .int .i64 b2, .int .i64 b3, .int .i64 b4]) (by ac_rfl)⟩
 case rest =>
  obtain ⟨rfl, q2⟩ := hcut
  obtain ⟨N9, hN9⟩ : ∃ z, w.heap.size = z := ⟨_, rfl⟩
  rw [hN9] at q2 ⊢
  clear hs1 this hlk hN9 hz4
  haveI := q2.i
  go_wp2_with fail
  with_reducible refine Calls.mono (HRD.out _ _ (takeI (treeP h s))) ?_
  rintro e w1 ⟨s2, hR2, hsp2, hd2', hcase⟩
  have HS2 : Aside (Rdy V m1 s2 ∧ s2.sp = s.sp ∧ s2.ck.d = s.ck.d) := ⟨hR2, hsp2, hd2'⟩
  clear hR2 hsp2 hd2' q2
  rcases hcase with ⟨n, v1, B1, hvn, rfl, hN, q3⟩ | ⟨hvn, rfl, q3⟩
  rotate_left
  · haveI := q3.i
    exact ⟨rfl, s2, K, look_keep h s2 bK bT bL M K F, HS2.out.2.1, HS2.out.2.2, .inr ⟨rfl, chk_gone hvn, HS2.out.1.less (Nat.zero_le _)⟩⟩
  have hmn := HV1.out no n hvn
  have HVN : Aside (V no = some n) := hvn
  have HMN : Aside (may n = true) := hmn
  have hmany := fun F w q => many_any n v1 B1 F w hN q (by have := (SumOk.of hmn).e; omega) (by have := (SumOk.of hmn).k; omega)
  obtain ⟨vE, vK, rfl, hE, hKd⟩ := hN
  obtain ⟨aE, cE, rfl, hE1, hE2⟩ := hE.v
  obtain ⟨aK, cK, rfl, hK1, hK2⟩ := ReadsR.v hKd
  obtain ⟨le, hle⟩ : ∃ k, n.ents.length = k := ⟨_, rfl⟩
  obtain ⟨lk, hlk⟩ : ∃ k, n.kids.length = k := ⟨_, rfl⟩
  obtain ⟨lf, hlf⟩ : ∃ k, n.leaf = k := ⟨_, rfl⟩
  have HE : Aside (ReadsE B1 (.slice aE le cE) n.ents ∧ n.ents.length = le) := ⟨by rw [← hle]; exact hE, hle⟩
  have HKD : Aside (ReadsK B1 (.slice aK n.kids.length cK) n.kids ∧ n.kids.length = lk) := ⟨hKd, hlk⟩
  have HLF : Aside (n.leaf = lf) := hlf
  have hle1 : le ≤ 12 := by have := (SumOk.of hmn).e; omega
  have hlk1 : lk ≤ 12 := by have := (SumOk.of hmn).k; omega
  rw [hle, hlk, hlf] at hmany
  rw [hle] at hE1 ⊢
  rw [hlk] at hK1 ⊢
  rw [hlf]
  have HMA : Aside (∀ (F : Assn) (w : World), Sat (B1 * F) w → Calls Tryz.prog 130 #[.agg #[.bool lf, .slice aE le cE, .slice aK lk cK]] w fun e w' => e = .returned (.int .i64 (many n)) ∧ Sat (B1 * F) w') := hmany
  obtain ⟨mn, hmm⟩ : ∃ z : Nat, many n = z := ⟨_, rfl⟩
  rw [hmm] at HMA
  have HMM : Aside (many n = mn) := hmm
  haveI := q3.i
  clear hvn hmn hmany hE hKd hle hlk hlf hmm
  by_cases hf0 : f = 0
  · have hdp : dp = 13 := by have := HD.out.1; omega
    have HC0 : Aside (chk V f no top = none) := (by rw [hf0]; rfl : _ = _)
    have h12 : decide ((12 : Int) < dp) = true := decide_eq_true (by omega)
    have h12' : (12 : Int) < dp := by omega
    clear hdp hf0
    go_wp2
    exact ⟨rfl, s2, K, look_keep h s2 bK bT bL M K F, HS2.out.2.1, HS2.out.2.2, .inr ⟨rfl, HC0.out, HS2.out.1.less (Nat.zero_le _)⟩⟩
  obtain ⟨g, hg⟩ : ∃ g, f = g + 1 := ⟨f - 1, by omega⟩
  have HG : Aside (f = g + 1) := hg
  have h12 : decide ((12 : Int) < dp) = false := decide_eq_false (by have := HD.out.1; omega)
  have h12' : ¬ (12 : Int) < dp := by have := HD.out.1; omega
  obtain ⟨fw, hfw⟩ : ∃ b, decide (top = false ∧ mn < 4) = b := ⟨_, rfl⟩
  have HFW : Aside (decide (top = false ∧ mn < 4) = fw) := hfw
  clear hfw hg hf0
  go_upto_region 5 with (fail)
  go_cut [45] (fun t45 wx => t45 = .bool fw ∧ Sat (Sl.block w1.heap.size TNd [.bool lf, .slice aE le cE, .slice aK lk cK] * (B1 * (Sl.block N9 TSn [.int .i64 0, .int .i64 0, .int .i64 0, .int .i64 0, .int .i64 0, .int .i64 0, .int .i64 0, .int .i64 0, .int .i64 0, .int .i64 0] * (treeP h s2 * (Sl.block bK TKn [.map (some M)] * (Sl.block bT TTp [.pointer (some ⟨h.t, 0, none⟩)] * (Sl.block bL TLf [.func (Fn.func 128) #[] #[.pointer (some ⟨bK, 0, none⟩), .pointer (some ⟨bT, 0, none⟩), .pointer (some ⟨bL, 0, none⟩)]] * (mp ikey M (kn K) *  F)))))))) wx)
  case first =>
   cases top with
   | true =>
     have hz : fw = false := by rw [← HFW.out]; simp
     subst hz
     go_wp2_with fail
     go_meet
     exact ⟨rfl, satI_eq (by ac_rfl)⟩
   | false =>
     by_cases h4 : mn < 4
     · have hz : fw = true := by rw [← HFW.out]; simp [h4]
       subst hz
       have hf4 : (mn : Int) < 4 := by omega
       have hf4d : decide ((mn : Int) < 4) = true := decide_eq_true hf4
       go_wp2_with (go_at_call 130; with_reducible refine Calls.mono (HMA.out _ _ (takeI B1)) ?_; rintro e w4 ⟨rfl, q4⟩; haveI := q4.i)
       go_meet
       exact ⟨rfl, satI_eq (by ac_rfl)⟩
     · have hz : fw = false := by rw [← HFW.out]; simp [h4]
       subst hz
       have hf4 : ¬ (mn : Int) < 4 := by omega
       have hf4d : decide ((mn : Int) < 4) = false := decide_eq_false hf4
       go_wp2_with (go_at_call 130; with_reducible refine Calls.mono (HMA.out _ _ (takeI B1)) ?_; rintro e w4 ⟨rfl, q4⟩; haveI := q4.i)
       go_meet
       exact ⟨rfl, satI_eq (by ac_rfl)⟩
  case rest =>
   obtain ⟨rfl, q5⟩ := hcut
   obtain ⟨N12, hN12⟩ : ∃ z, w1.heap.size = z := ⟨_, rfl⟩
   rw [hN12] at q5 ⊢
   clear q3 this hN12
   haveI := q5.i
   cases fw with
   | true =>
     have HCN : Aside (chk V f no top = none) := (by
      have h9 := of_decide_eq_true HFW.out
      rw [HG.out]
      exact chk_few HVN.out ⟨h9.1, by rw [HMM.out]; exact h9.2⟩ : _ = _)
     go_wp2
     exact ⟨rfl, s2, K, look_keep h s2 bK bT bL M K F, HS2.out.2.1, HS2.out.2.2, .inr ⟨rfl, HCN.out, HS2.out.1.less (Nat.zero_le _)⟩⟩
   | false =>
     have H4 : Aside (¬ (top = false ∧ many n < 4)) := (by
      have h9 := of_decide_eq_false HFW.out
      rw [HMM.out]
      exact h9 : ¬ _)
     clear HMA HFW
     -- the leaf's own
     obtain ⟨x0, hx0⟩ : ∃ x, (if lf then (⟨0, n.ents.length, n.ents.headD e0, n.ents.getLastD e0⟩ : Sn) else sn0) = x := ⟨_, rfl⟩
     have HX0 : Aside ((if lf then (⟨0, n.ents.length, n.ents.headD e0, n.ents.getLastD e0⟩ : Sn) else sn0) = x0) := hx0
     clear hx0
     have HX1 : Aside (lf = true → Joined n.ents → Chk V no top x0) := (fun h1 h2 => by
      refine ⟨g + 1, ?_⟩
      rw [chk_leaf HVN.out (HLF.out.trans h1) H4.out, if_neg (by rw [join_len.2 h2]; simp), ← HX0.out, if_pos h1] : _ → _ → _)
     obtain ⟨N13, hN13⟩ : ∃ z, wc.heap.size = z := ⟨_, rfl⟩
     have HN13 : Aside (wc.heap.size = N13) := hN13
     clear hN13
     go_upto_if 49 with (fail)
     go_cut [49] (fun t49 wx => (lf = true → Joined n.ents) ∧ Sat (Sl.block wc.heap.size TSn (snC x0) * (Sl.block N12 TNd [.bool lf, .slice aE le cE, .slice aK lk cK] * (B1 * (Sl.block N9 TSn [.int .i64 0, .int .i64 0, .int .i64 0, .int .i64 0, .int .i64 0, .int .i64 0, .int .i64 0, .int .i64 0, .int .i64 0, .int .i64 0] * (treeP h s2 * (Sl.block bK TKn [.map (some M)] * (Sl.block bT TTp [.pointer (some ⟨h.t, 0, none⟩)] * (Sl.block bL TLf [.func (Fn.func 128) #[] #[.pointer (some ⟨bK, 0, none⟩), .pointer (some ⟨bT, 0, none⟩), .pointer (some ⟨bL, 0, none⟩)]] * (mp ikey M (kn K) *  F))))))))) wx)
     case first =>
      cases lf with
      | false =>
        have h9 := HLV.out n HVN.out
        rw [HLF.out] at h9
        cases h9
      | true =>
        have hmf := may_leaf HMN.out HLF.out
        have hle0 : 1 ≤ le := by have := hmf.2.2.1; rw [HE.out.2] at this; exact this
        have HJ : Aside (∀ (b : Nat) (F : Assn) (w : World), Sat (Sl.block b 29 [.slice aE le cE] * (B1 * F)) w → Calls Tryz.prog 80 #[.slice (some ⟨b, 0, none⟩) 1 1] w fun e w' => ∃ a c, e = .returned (.slice a (join n.ents).length c) ∧ Sat (rw TEn 4 (.slice a (join n.ents).length c) (ecs (join n.ents)) * (Sl.block b 29 [.slice aE le cE] * (B1 * F))) w') := fun b F w q => by
         have h9 := join_any [n.ents] _ _ F w (readsLL_one b HE.out.1) (q.eq (sep_assoc _ _ _).symm) (by simp) (by simp; have := hmf.2.2.2.1; omega) (by simpa using hmf.2.1) (by have := hmf.2.2.2.2; simp; omega)
         rw [List.flatten_singleton] at h9
         exact h9.mono fun e w' ⟨a, c, h1, h2⟩ => ⟨a, c, h1, h2.eq (by ac_rfl)⟩
        obtain ⟨jl, hjl⟩ : ∃ z, (join n.ents).length = z := ⟨_, rfl⟩
        simp only [hjl] at HJ
        have HJL : Aside (jl = le → Joined n.ents) := (fun e => join_len.1 (by rw [hjl, e, HE.out.2]) : _ → _)
        have HJN : Aside (jl ≠ le → chk V f no top = none) := (fun e => by rw [HG.out, chk_leaf HVN.out HLF.out H4.out, if_pos (by rw [hjl, HE.out.2]; exact e)] : _ → _)
        have hle3 : IntKind.i64.wrap ((le : Int) - 1) = ((le - 1 : Nat) : Int) := (IntWalk.i64_in _ (by omega)).trans (by omega)
        obtain ⟨lm, hlm⟩ : ∃ z, le - 1 = z := ⟨_, rfl⟩
        rw [hlm] at hle3
        obtain ⟨x, hx⟩ : ∃ x, n.ents[0]? = some x := ⟨_, List.getElem?_eq_getElem (by rw [HE.out.2]; omega)⟩
        obtain ⟨y, hy⟩ : ∃ x, n.ents[lm]? = some x := ⟨_, List.getElem?_eq_getElem (by rw [HE.out.2]; omega)⟩
        have HXY : Aside (n.ents.headD e0 = x ∧ n.ents.getLastD e0 = y) := ⟨by cases hq : n.ents with | nil => rw [hq] at hx; simp at hx | cons a l => rw [hq] at hx; simpa using hx, by rw [List.getLastD_eq_getLast?, List.getLast?_eq_getElem?, HE.out.2, hlm, hy]; rfl⟩
        have hE9 : ReadsE B1 (.slice aE n.ents.length cE) n.ents := by rw [HE.out.2]; exact HE.out.1
        obtain ⟨eb, eo, e8, r1, r2, r3, r4⟩ := readsE_at hE9 hx
        obtain ⟨eb', eo', e7, p1, p2, p3, p4⟩ := readsE_at hE9 hy
        rw [e8] at e7
        cases e7
        subst e8
        have HX2 : Aside (x0 = ⟨0, le, x, y⟩) := (by rw [← HX0.out, if_pos rfl, HXY.out.1, HXY.out.2, HE.out.2] : _ = _)
        obtain ⟨x1, x2, x3, x4⟩ := x
        obtain ⟨y1, y2, y3, y4⟩ := y
        simp only at r1 r2 r3 r4 p1 p2 p3 p4
        have hlm0 : (lm : Int) < le := by omega
        have hle4 : (0 : Int) < le := by omega
        clear hmf hjl hx hy hE9 hlm
        go_upto_region 9 with (fail)
        go_region_held3 (fun w' => w'.cell? ⟨N12, 1, none⟩ = some (.slice (some ⟨eb, eo, none⟩) le cE)) (exact (cell_sat _ _ _)) (first
         | (go_at_call 80; with_reducible refine Calls.mono (HJ.out _ _ _ (takeI2 (Sl.block _ 29 [.slice (some ⟨eb, eo, none⟩) le cE]) B1)) ?_; rintro e w7 ⟨a7, c7, rfl, q7⟩; haveI := q7.i))
        all_goals
         haveI := q7.i
         cases e9 : ((jl : Int) != (le : Int)) with
         | true =>
           have HCN : Aside (chk V f no top = none) := (by
            refine HJN.out fun e => ?_
            rw [e] at e9
            simp at e9 : _ = _)
           go_wp2
           exact ⟨rfl, s2, K, look_keep h s2 bK bT bL M K F, HS2.out.2.1, HS2.out.2.2, .inr ⟨rfl, HCN.out, HS2.out.1.less (Nat.zero_le _)⟩⟩
         | false =>
           have HJO : Aside (Joined n.ents) := (by
            have c9 : (jl : Int) = le := by simpa using e9
            exact HJL.out (by omega) : Joined _)
           go_upto_region 11 with (fail)
           go_region
           go_wp2_with fail
           go_meet
           refine ⟨fun _ => HJO.out, ?_⟩
           rw [HX2.out]
           have q8 := store10 (w := w7) (b := wc.heap.size) (e := TSn) (c0 := .int .i64 0) (c1 := .int .i64 0) (c2 := .int .i64 0) (c3 := .int .i64 0) (c4 := .int .i64 0) (c5 := .int .i64 0) (c6 := .int .i64 0) (c7 := .int .i64 0) (c8 := .int .i64 0) (c9 := .int .i64 0) (v0 := .int .i64 0) (v1 := .int .i64 le) (v2 := .int .i64 x1) (v3 := .int .i64 x2) (v4 := .int .i64 x3) (v5 := .int .i64 x4) (v6 := .int .i64 y1) (v7 := .int .i64 y2) (v8 := .int .i64 y3) (v9 := .int .i64 y4)
           haveI := q8.drew.i
           exact satI_weak (C := rw TEn 4 (.slice a7 jl c7) (ecs (join n.ents)) * Sl.block (wc.heap.size + 1) 29 [.slice (some ⟨eb, eo, none⟩) le cE]) (by unfold snC erow; ac_rfl)
     case rest =>
      obtain ⟨hjo, q6⟩ := hcut
      have HJO : Aside (lf = true → Joined n.ents) := hjo
      rw [HN13.out] at q6 ⊢
      clear q5 this hjo HN13
      obtain ⟨xh, xc, ⟨x1, x2, x3, x4⟩, ⟨x5, x6, x7, x8⟩⟩ := x0
      unfold snC erow at q6
      simp only [List.cons_append, List.nil_append] at q6
      haveI := q6.i
      go_wp2_with fail
      go_loopg [80] lk (fun gg t80 wr => ∃ (j m3 : Nat) (s3 : TS) (K3 : List (Int × Sn)) (x : Sn), t80 = .int .i64 j ∧ j ≤ lk ∧ Aside (LkI V N f g n lf m1 s K ⟨xh, xc, ⟨x1, x2, x3, x4⟩, ⟨x5, x6, x7, x8⟩⟩ gg lk j m3 s3 K3 x) ∧
       Sat (Sl.block N13 TSn (snC x) * (Sl.block N12 TNd [.bool lf, .slice aE le cE, .slice aK lk cK] * (B1 * (Sl.block N9 TSn [.int .i64 0, .int .i64 0, .int .i64 0, .int .i64 0, .int .i64 0, .int .i64 0, .int .i64 0, .int .i64 0, .int .i64 0, .int .i64 0] * (treeP h s3 * (Sl.block bK TKn [.map (some M)] * (Sl.block bT TTp [.pointer (some ⟨h.t, 0, none⟩)] * (Sl.block bL TLf [.func (Fn.func 128) #[] #[.pointer (some ⟨bK, 0, none⟩), .pointer (some ⟨bT, 0, none⟩), .pointer (some ⟨bL, 0, none⟩)]] * (mp ikey M (kn K3) *  F))))))))) wr)
      case atStart =>
       refine ⟨0, m1, s2, K, _, rfl, by omega, ⟨rfl, HS2.out.1, HS2.out.2.1, HS2.out.2.2, HK.out, by omega, fun e => ?_, fun _ => rfl, fun q hq => .inl hq, fun _ => rfl, ?_, ?_, fun e => by omega⟩, q6⟩
       · rw [← HX0.out, e]
         exact Run.zero g n
       · rw [← HX0.out]
         cases lf with
         | true => simp only [if_true]; have := HE.out.2; omega
         | false => exact ⟨by simp [sn0], by simp [sn0]⟩
       · rw [← HX0.out]
         cases lf with
         | true => exact ⟨by simp, by simp⟩
         | false => exact ⟨by simp [sn0], by simp [sn0]⟩
      case round =>
       obtain ⟨j, m3, s3, K3, x, rfl, hj, A, q7⟩ := hrel
       clear q6
       obtain ⟨zh, zc, ⟨z1, z2, z3, z4⟩, ⟨z5, z6, z7, z8⟩⟩ := x
       unfold snC erow at q7
       simp only [List.cons_append, List.nil_append] at q7
       haveI := q7.i
       by_cases hlt : j < lk
       · exfalso
         have h7 := (may_leaf HMN.out (HLV.out n HVN.out)).1
         have h9 := HKD.out.2
         rw [h7] at h9
         simp at h9
         omega
       · have hlt' : ¬ (j : Int) < lk := by omega
         obtain rfl : j = lk := by omega
         have HC : Aside (Chk V no top ⟨zh, zc, ⟨z1, z2, z3, z4⟩, ⟨z5, z6, z7, z8⟩⟩) := (by
          cases lf with
          | true =>
            have h9 := (may_leaf HMN.out HLF.out).1
            have h8 := HKD.out.2
            rw [h9] at h8
            rw [A.out.zero h8.symm]
            exact HX1.out rfl (HJO.out rfl)
          | false =>
            have h9 := A.out.run rfl
            rw [← HKD.out.2] at h9
            exact h9.done HVN.out HLF.out H4.out : Chk _ _ _ _)
         have hno0 : 0 ≤ no ∧ no < N := ⟨by
          have h9 := (HV.out no n HVN.out).2
          rcases Int.lt_or_le no 0 with h8 | h8
          · have : V no = none := A.out.rdy.out (by omega)
            rw [HVN.out] at this
            cases this
          · exact h8, (HV.out no n HVN.out).2⟩
         have HNO : Aside (0 ≤ no ∧ no < N) := hno0
         clear hno0
         have HLH : Aside (K = [] → zh < f) := (fun e => by
          by_cases c5 : j = 0
          · have h9 := A.out.zero c5
            have hG := HG.out
            have h7 := HX0.out
            rw [← h9] at h7
            cases lf with
            | true =>
              simp only [if_true] at h7
              have h6 := congrArg Sn.h h7
              simp only at h6
              omega
            | false =>
              have h6 := congrArg Sn.h h7
              have : (if false = true then (⟨0, n.ents.length, n.ents.headD e0, n.ents.getLastD e0⟩ : Sn) else sn0).h = 0 := rfl
              rw [this] at h6
              simp only at h6
              omega
          · exact (A.out.low (by omega)).2 e : _ → _)
         have HNK2 : Aside (top = false → kget no K3 = none) := (fun e => by
          cases hq : kget no K3 with
          | none => rfl
          | some z =>
            exfalso
            have h9 := kget_mem hq
            rcases A.out.newk _ h9 with h8 | h8
            · have h7 := HZ.out e
              have : ∀ (K : List (Int × Sn)), (no, z) ∈ K → kget no K ≠ none := fun K hK h6 => by
               have h5 := hasK_get (i := no.toNat) h6 (by have := HNO.out.1; omega)
               unfold hasK at h5
               rw [List.any_eq_false] at h5
               have := h5 _ hK
               simp at this
               have := HNO.out.1
               omega
              exact this K h8 h7
            · have h6 := A.out.kn.get hq
              obtain ⟨q1, q2⟩ := id HC.out
              rw [e] at q2
              have h5 := h6.of HV1.out q2
              rw [← h5] at h8
              simp only at h8
              omega : _ → _)
         have HBJ : Aside (m1 + 13 * fr N K3 ≤ m3 + j + 13 * fr N K ∧ m = m1 + 1 ∧ j ≤ 12) := ⟨A.out.bud, HM1.out, hlk1⟩
         have HA : Aside (KnOk V K3 ∧ Rdy V m3 s3 ∧ s3.sp = s.sp ∧ s3.ck.d = s.ck.d ∧ ∀ q ∈ K3, q ∈ K ∨ q.2.h + 1 ≤ zh) := ⟨A.out.kn, A.out.rdy, A.out.sp, A.out.d, A.out.newk⟩
         clear A
         cases top with
         | true =>
           go_wp2
           go_returns
           have q8 := store10 (w := wr) (b := N9) (e := TSn) (c0 := .int .i64 0) (c1 := .int .i64 0) (c2 := .int .i64 0) (c3 := .int .i64 0) (c4 := .int .i64 0) (c5 := .int .i64 0) (c6 := .int .i64 0) (c7 := .int .i64 0) (c8 := .int .i64 0) (c9 := .int .i64 0) (v0 := .int .i64 zh) (v1 := .int .i64 zc) (v2 := .int .i64 z1) (v3 := .int .i64 z2) (v4 := .int .i64 z3) (v5 := .int .i64 z4) (v6 := .int .i64 z5) (v7 := .int .i64 z6) (v8 := .int .i64 z7) (v9 := .int .i64 z8)
           haveI := q8.i
           refine ⟨s3, K3, look_keep h s3 bK bT bL M K3 F, HA.out.2.2.1, HA.out.2.2.2.1, .inl ⟨⟨zh, zc, ⟨z1, z2, z3, z4⟩, ⟨z5, z6, z7, z8⟩⟩, m3, rfl, HC.out, HLH.out, HA.out.1, fun q hq => (HA.out.2.2.2.2 q hq).imp id fun h9 => ?_, HA.out.2.1, ?_⟩⟩
           · simp only; omega
           · have := HBJ.out; simp only [if_true]; omega
         | false =>
           go_wp2
           go_returns
           have q8 := store10 (w := putW Tryz.prog TKn M (ikey no) (.agg #[.int .i64 zh, .int .i64 zc, .int .i64 z1, .int .i64 z2, .int .i64 z3, .int .i64 z4, .int .i64 z5, .int .i64 z6, .int .i64 z7, .int .i64 z8]) wr) (b := N9) (e := TSn) (c0 := .int .i64 0) (c1 := .int .i64 0) (c2 := .int .i64 0) (c3 := .int .i64 0) (c4 := .int .i64 0) (c5 := .int .i64 0) (c6 := .int .i64 0) (c7 := .int .i64 0) (c8 := .int .i64 0) (c9 := .int .i64 0) (v0 := .int .i64 zh) (v1 := .int .i64 zc) (v2 := .int .i64 z1) (v3 := .int .i64 z2) (v4 := .int .i64 z3) (v5 := .int .i64 z4) (v6 := .int .i64 z5) (v7 := .int .i64 z6) (v8 := .int .i64 z7) (v9 := .int .i64 z8)
           haveI := q8.i
           have hfr := fr_put (y := ⟨zh, zc, ⟨z1, z2, z3, z4⟩, ⟨z5, z6, z7, z8⟩⟩) (HNK2.out (by simp)) HNO.out.1 HNO.out.2
           refine ⟨s3, kput no ⟨zh, zc, ⟨z1, z2, z3, z4⟩, ⟨z5, z6, z7, z8⟩⟩ K3, ?_, HA.out.2.2.1, HA.out.2.2.2.1, .inl ⟨⟨zh, zc, ⟨z1, z2, z3, z4⟩, ⟨z5, z6, z7, z8⟩⟩, m3, rfl, HC.out, HLH.out, HA.out.1.put HC.out, fun q hq => ?_, HA.out.2.1, ?_⟩⟩
           · exact (keep6 (treeP h s3) (Sl.block bK TKn [.map (some M)]) (Sl.block bT TTp [.pointer (some ⟨h.t, 0, none⟩)]) (Sl.block bL TLf [.func (Fn.func 128) #[] #[.pointer (some ⟨bK, 0, none⟩), .pointer (some ⟨bT, 0, none⟩), .pointer (some ⟨bL, 0, none⟩)]]) (mp ikey M (mput no (.agg #[.int .i64 zh, .int .i64 zc, .int .i64 z1, .int .i64 z2, .int .i64 z3, .int .i64 z4, .int .i64 z5, .int .i64 z6, .int .i64 z7, .int .i64 z8]) (kn K3))) F).eq (by rw [look_open, ← mput_kn]; rfl)
           · rcases kput_mem hq with e | e
             · rw [e]; simp only; exact .inr (Int.le_refl _)
             · exact (HA.out.2.2.2.2 q e).imp id fun h9 => by simp only; omega
           · have := HBJ.out; simp only [Bool.false_eq_true, if_false]; omega
end Go.Proofs.YtfhbmblbidcmmaaGreat
namespace Go.Proofs.YtfhbmblbidcmmaaGreat
set_option linter.unusedSimpArgs false
set_option linter.unusedVariables false
open Go.RowKit Go.Sl Go.Dk Go.Tr
open Go.Lru (ikey)
attribute [local go_sem ↓] Go.wp_at_zero Go.wp_at_succ
attribute [local go_sem] Go.Sl.cell_sat Go.Sl.frozen_sat put_Kn
variable [TopN]
theorem look_step (f : Nat) (ih : ∀ g, f = g + 1 → LookC g) : LookC f := by
 intro V N h s m K no top bK bT bL M F w hf hno hK hV hR hm hs
 cases hn : V no with
 | none => exact look_inner f ih V N h s m K no top bK bT bL M F w (fun n e => by rw [hn] at e; cases e) hf hno hK hV hR hm hs
 | some n =>
   cases hl : n.leaf with
   | true => exact look_leaf f ih V N h s m K no top bK bT bL M F w (fun n' e => by rw [hn] at e; cases e; exact hl) hf hno hK hV hR hm hs
   | false => exact look_inner f ih V N h s m K no top bK bT bL M F w (fun n' e => by rw [hn] at e; cases e; exact hl) hf hno hK hV hR hm hs
theorem look_all : ∀ f, LookC f
 | 0 => look_step 0 fun g h => by omega
 | f + 1 => look_step (f + 1) fun g h => by
   have : g = f := by omega
   subst this
   exact look_all g
end Go.Proofs.YtfhbmblbidcmmaaGreat
namespace Go.Proofs.YtfhbmblbidcmmaaGreat
set_option linter.unusedSimpArgs false
set_option linter.unusedVariables false
open Go.RowKit Go.Sl Go.Dk Go.Tr
open Go.Lru (ikey)
attribute [local go_sem ↓] Go.wp_at_zero Go.wp_at_succ
attribute [local go_sem] Go.Sl.cell_sat Go.Sl.frozen_sat
theorem run_store_func {P : Program} {w : World} {a : Addr} {m : Mode} (f : Fn) (x y : Array Value) : (store a (.func f x y) m).run P w = stored P w a (.func f x y) m := run_store P w a _ m rfl
attribute [local go_sem] run_store_func
theorem checkC_idle (E : Nat) (w : World) :
 CallsD Tryz.prog 73 #[.pointer (some ⟨E, 0, none⟩)] .returning w fun e u' w' => e = .returned (.tuple #[]) ∧ u' = .returning ∧ w' = w := by
 refine callsD_of_wpS Tryz.func73 rfl fun c₀ cs hu => ?_
 apply wpS_seq
 apply wpS_region
 simp [wpOpsS, go_sem, recoverD, hu, Tryz.ntmps73, Exit.thenS]
 apply wpS_seq
 apply wpS_region
 simp [wpOpsS, go_sem, Exit.thenS]
 refine wpS_cond (t := false) (by simp [Act.eval, Array.replicate]) ?_
 simp only [Bool.false_eq_true, if_false]
 refine wpS_of_wp (wp_skip ?_)
 cases c₀
 simp_all [bodyPostS, results, Tryz.results73, Exit.thenS]
theorem checkC_caught (E : Nat) (er : Int) (b : Value) (F : Assn) (w : World) (hs : Sat (Sl.block E TEr [b] * F) w) :
 CallsD Tryz.prog 73 #[.pointer (some ⟨E, 0, none⟩)] (.panicking (faultC er)) w fun e u' w' => e = .returned (.tuple #[]) ∧ u' = .panicking [{ v := .iface TFa (.agg #[.int .i64 er]), recovered := true }] ∧ Sat (Sl.block E TEr [.int .i64 er] * F) w' := by
 haveI := hs.i
 refine callsD_of_wpS Tryz.func73 rfl fun c₀ cs hu => ?_
 unfold faultC at hu
 apply wpS_seq
 apply wpS_region
 simp [wpOpsS, go_sem, recoverD, hu, Tryz.ntmps73, Exit.thenS]
 apply wpS_seq
 apply wpS_region
 simp [wpOpsS, go_sem, Exit.thenS]
 refine wpS_cond (t := true) (by simp [Act.eval, Array.replicate]) ?_
 simp only [if_true]
 refine wpS_of_wp ?_
 go_wp2_with fail
 refine Calls.mono (given_any er _ _ hs) ?_
 rintro en w2 ⟨rfl, q2⟩
 haveI := q2.i
 go_wp2
 simp [bodyPostS, results, Tryz.results73]
 exact satI_eq (by ac_rfl)
theorem field_Sn1 (yh yc a1 a2 a3 a4 b1 b2 b3 b4 : Int) (w : World) : (Instr.field TSn (.agg #[.int .i64 yh, .int .i64 yc, .int .i64 a1, .int .i64 a2, .int .i64 a3, .int .i64 a4, .int .i64 b1, .int .i64 b2, .int .i64 b3, .int .i64 b4]) 1).run Tryz.prog w = .ok (.int .i64 yc) w := by kernel_rfl
instance (priority := 20000) mapKn_alloc {A : Assn} {w : World} {n : Nat} [q : SatI A w] [z : Sz w n] : SatI (mp ikey n (kn []) * A) (w.alloc (.map #[] 0)) := ⟨by
 have h := q.out.alloc_raw (.map #[] 0)
 rw [z.out] at h
 exact Sat.mp_shut (kf := ikey) (ms := []) (b := n) (o := .map #[] 0) ⟨#[], 0, rfl, rfl, by simp, by simp⟩ h⟩
variable [TopN]
def SoundOut (V : Int → Option Nd) (N : Nat) (h : Th) (m : Nat) (s : TS) (no : Int) (F : Assn) (e : Ending) (w' : World) : Prop := ∃ s', Sat (treeP h s' * F) w' ∧ s'.sp = s.sp ∧ s'.ck.d = s.ck.d ∧
 ((∃ y m', e = .returned (snV y) ∧ chk V 13 no true = some y ∧ Rdy V m' s' ∧ m ≤ m' + 13 * N + 13) ∨ (e = .panicked (faultC 13) ∧ chk V 13 no true = none ∧ Rdy V 0 s'))
set_option maxRecDepth 100000 in
set_option maxHeartbeats 3200000 in
theorem sound_any (V : Int → Option Nd) (N : Nat) (h : Th) (m : Nat) (s : TS) (no : Int) (F : Assn) (w : World) (hno : no ≠ 0) (hV : ∀ p n, V p = some n → may n = true ∧ p < N) (hR : Rdy V m s) (hm : 13 * N + 182 ≤ m) (hs : Sat (treeP h s * F) w) :
 Calls Tryz.prog 75 #[.pointer (some ⟨h.t, 0, none⟩), .int .i64 no, .bool true] w (SoundOut V N h m s no F) := by
 have hmf : ∀ (fn : Fn) (first cap : Array Value) (w : World), (Instr.makeFunc fn first cap).run Tryz.prog w = .ok (.func fn first cap) w := fun _ _ _ _ => rfl
 have hmm := @run_makeMap Tryz.prog
 have hlook := fun bK bT bL M F w q => look_all 13 V N h s m [] no true bK bT bL M F w (by omega) hno (fun p hp => by cases hp) hV hR (by have := fr_le N []; omega) q
 have e13 : (13 : Int) - ((13 : Nat) : Int) = 0 := rfl
 rw [e13] at hlook
 have HLK : Aside (∀ (bK bT bL M : Nat) (F : Assn) (w : World), Sat (treeP h s * (lookA bK bT bL M h [] * F)) w → Calls Tryz.prog 128 #[.int .i64 no, .bool true, .int .i64 0, .pointer (some ⟨bK, 0, none⟩), .pointer (some ⟨bT, 0, none⟩), .pointer (some ⟨bL, 0, none⟩)] w (LookOut V N h bK bT bL M 13 m s [] no true F)) := hlook
 have HV1 : Aside (∀ p n, V p = some n → may n = true) := fun p n h => (hV p n h).1
 haveI := hs.i
 clear hlook hno hV hR hm
 go_enter Tryz.func75, Tryz.ntmps75
 go_wp2_with fail
 with_reducible refine Calls.mono (HLK.out (w.heap.size + 1 + 1 + 1) w.heap.size (w.heap.size + 1 + 1 + 1 + 1) (w.heap.size + 1 + 1) _ _ (look_take h s (w.heap.size + 1 + 1 + 1) w.heap.size (w.heap.size + 1 + 1 + 1 + 1) (w.heap.size + 1 + 1) [])) ?_
 rintro e w2 ⟨s2, K2, q2, hsp, hd, hcase⟩
 have q3 := q2.eq (look_open h s2 (w.heap.size + 1 + 1 + 1) w.heap.size (w.heap.size + 1 + 1 + 1 + 1) (w.heap.size + 1 + 1) K2 _)
 haveI := q3.i
 clear q2 hs
 rcases hcase with ⟨y, m2, rfl, hc, hh, _, _, hr, hb⟩ | ⟨rfl, hc, hr⟩
 · have HC : Aside (chk V 13 no true = some y ∧ Rdy V m2 s2 ∧ s2.sp = s.sp ∧ s2.ck.d = s.ck.d ∧ m ≤ m2 + 13 * N + 13) := ⟨hc.at HV1.out (by simpa using hh rfl), hr, hsp, hd, by
    have := fr_le N []
    simp only [if_true] at hb
    omega⟩
   obtain ⟨N6, hN6⟩ : ∃ z, w.heap.size + 1 = z := ⟨_, rfl⟩
   have HN6 : Aside (w.heap.size + 1 = N6) := hN6
   clear hc hh hr hb hsp hd hN6
   obtain ⟨yh, yc, ⟨a1, a2, a3, a4⟩, ⟨b1, b2, b3, b4⟩⟩ := y
   unfold snV
   simp only
   go_wp2
   go_returns
   have q8 := store10 (w := w2) (b := w.heap.size + 1) (e := TSn) (c0 := .int .i64 0) (c1 := .int .i64 0) (c2 := .int .i64 0) (c3 := .int .i64 0) (c4 := .int .i64 0) (c5 := .int .i64 0) (c6 := .int .i64 0) (c7 := .int .i64 0) (c8 := .int .i64 0) (c9 := .int .i64 0) (v0 := .int .i64 yh) (v1 := .int .i64 yc) (v2 := .int .i64 a1) (v3 := .int .i64 a2) (v4 := .int .i64 a3) (v5 := .int .i64 a4) (v6 := .int .i64 b1) (v7 := .int .i64 b2) (v8 := .int .i64 b3) (v9 := .int .i64 b4)
   haveI := q8.i
   exact ⟨s2, keep2 _ _, HC.out.2.2.1, HC.out.2.2.2.1, .inl ⟨⟨yh, yc, ⟨a1, a2, a3, a4⟩, ⟨b1, b2, b3, b4⟩⟩, m2, rfl, HC.out.1, HC.out.2.1, HC.out.2.2.2.2⟩⟩
 · exact ⟨rfl, s2, keep2 _ _, hsp, hd, .inr ⟨rfl, hc, hr⟩⟩
def CheckOut (V : Int → Option Nd) (N : Nat) (h : Th) (m : Nat) (s : TS) (root : Int) (F : Assn) (e : Ending) (w' : World) : Prop := ∃ s' m', Sat (treeP h s' * F) w' ∧ s'.sp = s.sp ∧ s'.ck.d = s.ck.d ∧ Rdy V m' s' ∧
 e = .returned (.int .i64 (if (rTree V root).ok then 0 else 13)) ∧ ((rTree V root).ok = true → m ≤ m' + 13 * N + 13)
set_option maxRecDepth 100000 in
set_option maxHeartbeats 3200000 in
theorem check_any (V : Int → Option Nd) (N : Nat) (h : Th) (m : Nat) (s : TS) (root : Int) (F : Assn) (w : World) (hV : ∀ p n, V p = some n → may n = true ∧ p < N) (hR : Rdy V m s) (hm : 13 * N + 182 ≤ m) (hs : Sat (treeP h s * F) w) :
 Calls Tryz.prog 17 #[.pointer (some ⟨h.t, 0, none⟩), .int .i64 root] w (CheckOut V N h m s root F) := by
 have hmf : ∀ (fn : Fn) (first cap : Array Value) (w : World), (Instr.makeFunc fn first cap).run Tryz.prog w = .ok (.func fn first cap) w := fun _ _ _ _ => rfl
 haveI := hs.i
 by_cases hz : root = 0
 · subst hz
   have HR : Aside (Rdy V m s) := hR
   clear hR hV hm hs
   go_enter_defers Tryz.func17, Tryz.ntmps17
   go_wp2
   refine leaves_cons (f := 73) (args := #[.pointer (some ⟨w.heap.size, 0, none⟩)]) (by simp) (by simp [go_sem]) ?_
   refine (checkC_idle _ _).mono ?_
   rintro e u' w'' ⟨rfl, rfl, rfl⟩
   simp [Leaves, settle, results, Tryz.results17, go_sem]
   exact ⟨s, m, keep2 _ _, rfl, rfl, HR.out, rfl, fun _ => by omega⟩
 · have hz' : ((root : Int) == 0) = false := by simpa using hz
   have HV1 : Aside (∀ p n, V p = some n → may n = true) := fun p n h => (hV p n h).1
   have hso := fun F w q => sound_any V N h m s root F w hz hV hR hm q
   have HSO : Aside (∀ F w, Sat (treeP h s * F) w → Calls Tryz.prog 75 #[.pointer (some ⟨h.t, 0, none⟩), .int .i64 root, .bool true] w (SoundOut V N h m s root F)) := hso
   have HT : Aside ((rTree V root).ok = true ↔ ∃ y, chk V 13 root true = some y) := chk_tree HV1.out hz
   obtain ⟨E, hE⟩ : ∃ N, w.heap.size = N := ⟨_, rfl⟩
   have HE : Aside (w.heap.size = E) := hE
   clear hso hV hR hm hs hz hE
   go_enter_defers Tryz.func17, Tryz.ntmps17
   go_wp2_with fail
   with_reducible refine Calls.mono (HSO.out _ _ (takeI (treeP h s))) ?_
   rintro e w2 ⟨s2, q2, hsp, hd, hcase⟩
   haveI := q2.i
   rcases hcase with ⟨y, m2, rfl, hc, hr, hb⟩ | ⟨rfl, hc, hr⟩
   · have hlo : Low y := Chk.low HV1.out ⟨13, hc⟩
     have hcc : y.count ≤ 1024 := chk_most HV1.out hc
     have HC : Aside ((rTree V root).ok = true ∧ Rdy V m2 s2 ∧ s2.sp = s.sp ∧ s2.ck.d = s.ck.d ∧ m ≤ m2 + 13 * N + 13) := ⟨HT.out.2 ⟨y, hc⟩, hr, hsp, hd, hb⟩
     clear hc hr hb hsp hd hlo HSO HT
     obtain ⟨yh, yc, ⟨a1, a2, a3, a4⟩, ⟨b1, b2, b3, b4⟩⟩ := y
     simp only at hcc
     unfold snV
     simp only
     have hb1 : decide ((1024 : Int) < yc) = false := decide_eq_false (by omega)
     have hfl := fun w => field_Sn1 yh yc a1 a2 a3 a4 b1 b2 b3 b4 w
     go_wp2
     refine leaves_cons (f := 73) (args := #[.pointer (some ⟨w.heap.size, 0, none⟩)]) (by simp) (by simp [go_sem]) ?_
     refine (checkC_idle _ _).mono ?_
     rintro e u' w'' ⟨rfl, rfl, rfl⟩
     simp [Leaves, settle, results, Tryz.results17, go_sem]
     exact ⟨s2, m2, keep2 _ _, HC.out.2.2.1, HC.out.2.2.2.1, HC.out.2.1, by rw [HC.out.1]; rfl, fun _ => HC.out.2.2.2.2⟩
   · have hno : (rTree V root).ok = false := by
      cases hq : (rTree V root).ok with
      | false => rfl
      | true =>
        obtain ⟨y, hy⟩ := HT.out.1 hq
        rw [hc] at hy
        cases hy
     show bodyPostD _ _ _ (.panic (faultC 13)) _ w2
     refine leaves_cons (f := 73) (args := #[.pointer (some ⟨w.heap.size, 0, none⟩)]) (by simp) (by simp [go_sem]) ?_
     refine (checkC_caught w.heap.size 13 (.int .i64 0) _ w2 (takeI (Sl.block w.heap.size TEr [.int .i64 0]))).mono ?_
     rintro e u' w3 ⟨rfl, rfl, q3⟩
     haveI := q3.i
     simp [Leaves, settle, results, Tryz.results17, go_sem]
     exact ⟨s2, 0, keep2 _ _, hsp, hd, hr, by rw [hno]; rfl, fun e => by rw [hno] at e; cases e⟩
end Go.Proofs.YtfhbmblbidcmmaaGreat
