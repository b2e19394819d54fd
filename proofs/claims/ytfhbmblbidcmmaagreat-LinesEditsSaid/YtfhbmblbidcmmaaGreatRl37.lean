/-
  Walks and plain laws that the lines of texts lean on. No condition (part 37)
-/
import Derived.Test.YtfhbmblbidcmmaaGreatRl34
import Derived.Test.YtfhbmblbidcmmaaGreatRl36
import Derived.Test.YtfhbmblbidcmmaaGreatRl35
set_option linter.unusedSimpArgs false
set_option linter.unusedVariables false
namespace Go.Proofs.YtfhbmblbidcmmaaGreat
set_option linter.unusedSimpArgs false
set_option linter.unusedVariables false
open Go.RowKit Go.Sl Go.Dk Go.Tr
def Grow (s s' : TS) : Prop := (∃ l, s'.sp.taken = s.sp.taken ++ l ∧ s'.sp.used = s.sp.used ++ l) ∧ s'.sp.reserved = s.sp.reserved ∧ s'.sp.waiting = s.sp.waiting ∧ s.ops ≤ s'.ops
theorem grow_goes : Goes Grow where
 same s := ⟨⟨[], by simp, by simp⟩, rfl, rfl, Nat.le_refl _⟩
 next := by
  rintro a b c ⟨⟨l, h1, h2⟩, h3, h4, h5⟩ ⟨⟨m, k1, k2⟩, k3, k4, k5⟩
  exact ⟨⟨l ++ m, by rw [k1, h1, List.append_assoc], by rw [k2, h2, List.append_assoc]⟩, k3.trans h3, k4.trans h4, by omega⟩
theorem Grow.len {s s' : TS} (h : Grow s s') : s.sp.taken.length ≤ s'.sp.taken.length := by
 obtain ⟨⟨l, h1, _⟩, _⟩ := h
 rw [h1, List.length_append]
 omega
theorem mFail_keeps (e : Int) : Keeps Grow (mFail e) := by
 unfold mFail
 split
 · exact Keeps.pure grow_goes _
 · exact Keeps.fail grow_goes _
theorem mGet_keeps (no : Int) : Keeps Grow (mGet no) := fun s => by
 unfold mGet
 by_cases h : s.ops < opsMax
 · rw [if_pos h]; exact ⟨⟨[], by simp, by simp⟩, rfl, rfl, by simp only; omega⟩
 · rw [if_neg h]; trivial
theorem mPut_keeps (no : Int) (b : List UInt8) : Keeps Grow (mPut no b) := fun s => ⟨⟨[], by simp, by simp⟩, rfl, rfl, by simp only; omega⟩
theorem mTake_keeps : Keeps Grow mTake := fun s => by
 unfold mTake
 by_cases h : s.ops < opsMax
 · rw [if_pos h]
   unfold Sp.take
   cases s.sp.free with
   | none => exact ⟨⟨[], by simp, by simp⟩, rfl, rfl, by simp only; omega⟩
   | some no => exact ⟨⟨[no], rfl, rfl⟩, rfl, rfl, by simp only; omega⟩
 · rw [if_neg h]; trivial
theorem tRead_keeps (p : Int) : Keeps Grow (tRead p) := by
 refine Keeps.bind grow_goes (mGet_keeps p) fun r => Keeps.bind grow_goes (mFail_keeps _) fun _ => ?_
 cases openNd p r.2 with
 | none => exact Keeps.fail grow_goes _
 | some n => exact Keeps.pure grow_goes _
theorem tWrite_keeps (n : Nd) : Keeps Grow (tWrite n) := by
 refine Keeps.ite (Keeps.fail grow_goes _) ?_
 exact Keeps.bind grow_goes mTake_keeps fun t => Keeps.bind grow_goes (mFail_keeps _) fun _ => Keeps.bind grow_goes (mFail_keeps _) fun _ => Keeps.bind grow_goes (mPut_keeps _ _) fun e => Keeps.bind grow_goes (mFail_keeps _) fun _ => Keeps.pure grow_goes _
def after (m : Nat) {α : Type} : Res TS α → Res TS α
 | .fault e s => .fault e (if e = 0 then s else s.undone m)
 | r => r
def mBuild (l : List Ent) : M TS Int := fun s => if mayList l = false then .fault 1 s else if 1024 < (join l).length then .fault 11 s else after s.sp.taken.length (tBuild tWrite (join l) s)
end Go.Proofs.YtfhbmblbidcmmaaGreat
namespace Go.Proofs.YtfhbmblbidcmmaaGreat
set_option linter.unusedSimpArgs false
set_option linter.unusedVariables false
open Go.RowKit Go.Sl Go.Dk Go.Tr
attribute [local go_sem ↓] Go.wp_at_zero Go.wp_at_succ
attribute [local go_sem] Go.Sl.cell_sat Go.Sl.frozen_sat
theorem field_kid (a b c d e : Int) (w : World) : Sem.run Tryz.prog (Instr.field TTl (.agg #[.int .i64 a, .int .i64 b, .int .i64 c, .int .i64 d, .int .i64 e]) 0) w = .ok (.agg #[.int .i64 a, .int .i64 b, .int .i64 c, .int .i64 d]) w := by kernel_rfl
theorem field_page (a b c d : Int) (w : World) : Sem.run Tryz.prog (Instr.field TKd (.agg #[.int .i64 a, .int .i64 b, .int .i64 c, .int .i64 d]) 0) w = .ok (.int .i64 a) w := by kernel_rfl
theorem foldJ_len : ∀ (l o : List Ent), (l.foldl joinTo o).length ≤ o.length + l.length
 | [], o => by simp
 | x :: l, o => by
   have h1 := foldJ_len l (joinTo o x)
   have h2 := joinTo_len o x
   simp only [List.foldl_cons, List.length_cons]
   omega
theorem join_short (l : List Ent) : (join l).length ≤ l.length := by
 have := foldJ_len l []
 unfold join
 rw [List.length_nil, Nat.zero_add] at this
 exact this
instance treeP_c {h : Th} {s : TS} : HasC (treeP h s) h.t 0 (.pointer (some ⟨h.C, 0, none⟩)) := ⟨by
 unfold treeP treeA
 exact HasC.out⟩
instance treeP_s {h : Th} {s : TS} : HasC (treeP h s) h.t 1 (.pointer (some ⟨h.S, 0, none⟩)) := ⟨by
 unfold treeP treeA
 exact HasC.out⟩
theorem mark_tany (h : Th) (s : TS) (F : Assn) (w : World) (hs : Sat (treeP h s * F) w) :
 Calls Tryz.prog 82 #[.pointer (some ⟨h.S, 0, none⟩)] w fun e w' => e = .returned (.int .i64 s.sp.taken.length) ∧ Sat (treeP h s * F) w' := by
 obtain ⟨hi, hp⟩ := tree_parts hs
 refine (spMark_any h.S s.sp _ w (hp.eq (by ac_rfl) : Sat (spaceP h.S s.sp * (cacheP h.C h.D s.ck * (Sl.block h.t TTr [.pointer (some ⟨h.C, 0, none⟩), .pointer (some ⟨h.S, 0, none⟩)] * F))) w)).mono ?_
 rintro e w' ⟨h1, h2⟩
 exact ⟨h1, tree_join hi (h2.eq (by ac_rfl))⟩
abbrev TEs : TypeId := 29
theorem readsLL_one {B : Assn} {v : Value} {l : List Ent} (b : Nat) (hE : ReadsE B v l) : ReadsLL (Sl.block b TEs [v] * B) (.slice (some ⟨b, 0, none⟩) 1 1) [l] := by
 refine ⟨[v], ⟨rfl, _, _, rfl, Nat.le_refl _, by omega, fun j u hj => ⟨b, 0, rfl, ?_⟩⟩, rfl, fun i x l' hx hl => ?_⟩
 · haveI : At [v] j u := ⟨hj⟩
   rw [Nat.zero_add]
   exact inferInstance
 · cases i with
   | zero => simp at hx hl; subst hx; subst hl; exact ReadsR.right hE
   | succ i => simp at hx
set_option maxRecDepth 100000 in
set_option maxHeartbeats 3200000 in
theorem build_no (h : Th) (s : TS) (l : List Ent) (v : Value) (B F : Assn) (w : World) (hE : ReadsE B v l) (hs : Sat (treeP h s * (B * F)) w) (hl : l.length ≤ 65536) (hm : mayList l = false) :
 Calls Tryz.prog 23 #[.pointer (some ⟨h.t, 0, none⟩), v] w (Back h (B * F) (mBuild l s) (fun z => vi2 z 0) (fun er => vi2 0 er)) := by
 obtain ⟨a0, c0, rfl, hE1, hE2⟩ := hE.v
 have hR : mBuild l s = .fault 1 s := by unfold mBuild; rw [if_pos hm]
 rw [hR]
 have hmy := fun F w q => tmay_any l _ B F w hE q (by omega)
 rw [hm] at hmy
 have h2 : Sat (B * (treeP h s * F)) w := hs.eq (by ac_rfl)
 haveI := h2.i
 clear hR hE hs h2
 go_enter_defers Tryz.func23, Tryz.ntmps23
 go_wp2_with fail
 with_reducible refine Calls.mono (hmy _ _ (takeI B)) ?_
 rintro e w2 ⟨rfl, q2⟩
 haveI := q2.i
 go_wp2
 simp [bodyPostD, Leaves, settle, results, Tryz.results23, go_sem]
 exact ⟨rfl, keep3 _ _ _⟩
set_option maxRecDepth 100000 in
set_option maxHeartbeats 3200000 in
theorem build_go (h : Th) (s : TS) (l : List Ent) (v : Value) (B F : Assn) (w : World) (hE : ReadsE B v l) (hs : Sat (treeP h s * (B * F)) w) (hl : l.length ≤ 65536) (hm : mayList l = true) (hb : mBuild l s ≠ .bad) :
 Calls Tryz.prog 23 #[.pointer (some ⟨h.t, 0, none⟩), v] w (Back h (B * F) (mBuild l s) (fun z => vi2 z 0) (fun er => vi2 0 er)) := by
 have hmf : ∀ (fn : Fn) (first cap : Array Value) (w : World), (Instr.makeFunc fn first cap).run Tryz.prog w = .ok (.func fn first cap) w := fun _ _ _ _ => rfl
 obtain ⟨a0, c0, rfl, hE1, hE2⟩ := hE.v
 obtain ⟨R, hR⟩ : ∃ R, mBuild l s = R := ⟨_, rfl⟩
 rw [hR] at hb ⊢
 have HB : Aside (R ≠ .bad) := hb
 unfold mBuild at hR
 rw [if_neg (by rw [hm]; simp)] at hR
 have hmy := fun F w q => tmay_any l _ B F w hE q (by omega)
 rw [hm] at hmy
 have HM : Aside ((∀ x ∈ l, mayEnt x = true) ∧ eBytes l ≤ 1048576) := by
  rw [mayList_eq] at hm
  simp only [Bool.and_eq_true, List.all_eq_true, decide_eq_true_eq] at hm
  exact hm
 have hjo := fun b F w q => join_any [l] (.slice (some ⟨b, 0, none⟩) 1 1) (Sl.block b TEs [.slice a0 l.length c0] * B) F w (readsLL_one b hE) q (by simp) (by simp; omega) (by simpa using HM.out.1) (by have := HM.out.2; simp; omega)
 have ef : ([l] : List (List Ent)).flatten = l := by simp
 rw [ef] at hjo
 have hjl := join_short l
 obtain ⟨js, hjs⟩ : ∃ js, join l = js := ⟨_, rfl⟩
 rw [hjs] at hjo hR hjl
 obtain ⟨nj, hnj⟩ : ∃ nj, js.length = nj := ⟨_, rfl⟩
 rw [hnj] at hjl hR
 have HNJ : Aside (js.length = nj) := hnj
 have HR : Aside ((if 1024 < nj then Res.fault 11 s else after s.sp.taken.length (tBuild tWrite js s)) = R) := hR
 have hmk := mark_tany h s
 have h2 : Sat (B * (treeP h s * F)) w := hs.eq (by ac_rfl)
 haveI := h2.i
 clear hE hs h2 hR hb hm hjs ef
 go_enter_defers Tryz.func23, Tryz.ntmps23
 go_wp2_with fail
 with_reducible refine Calls.mono (hmy _ _ (takeI B)) ?_
 rintro e w2 ⟨rfl, q2⟩
 haveI := q2.i
 go_wp2_with fail
 obtain ⟨N, hN⟩ : ∃ N, w.heap.size = N := ⟨_, rfl⟩
 obtain ⟨N2, hN2⟩ : ∃ N, w2.heap.size = N := ⟨_, rfl⟩
 have q3 : Sat ((Sl.block N2 TEs [.slice a0 l.length c0] * B) * (Sl.block (N + 1) TEr [.int .i64 0] * (Sl.block N TIt [.int .i64 0] * (treeP h s * F)))) (w2.alloc (.cells #[.slice a0 l.length c0] TEs)) := by
  rw [← hN, ← hN2]
  exact satI_eq (by ac_rfl)
 rw [hN2, hN]
 clear hN2 hN q2 this hmy
 with_reducible refine Calls.mono (hjo _ _ _ q3) ?_
 rintro e w3 ⟨aj, cj, rfl, q4⟩
 rw [HNJ.out] at q4 ⊢
 have q5 : Sat (treeP h s * (rw TEn 4 (.slice aj nj cj) (ecs js) * (Sl.block (N + 1) TEr [.int .i64 0] * (Sl.block N TIt [.int .i64 0] * (B * F))))) w3 := Sat.weak (B := Sl.block N2 TEs [.slice a0 l.length c0]) (q4.eq (by ac_rfl))
 haveI := q5.i
 clear hjo q3 q4
 by_cases hlt : 1024 < nj
 · have hRR : R = .fault 11 s := by have := HR.out; rw [if_pos hlt] at this; exact this.symm
   subst hRR
   have hlt' : (1024 : Int) < nj := by omega
   go_wp2
   simp [bodyPostD, Leaves, settle, results, Tryz.results23, go_sem]
   exact ⟨rfl, keep3 _ _ _⟩
 · have hlt' : ¬ (1024 : Int) < nj := by omega
   have hR2 : after s.sp.taken.length (tBuild tWrite js s) = R := by have := HR.out; rwa [if_neg hlt] at this
   have hE : ReadsE (rw TEn 4 (.slice aj nj cj) (ecs js)) (.slice aj nj cj) js := by
    have := ReadsR.rw (F := Sl.block (N + 1) TEr [.int .i64 0] * (Sl.block N TIt [.int .i64 0] * (B * F * treeP h s))) (q5.eq (by ac_rfl)) ⟨aj, cj, rfl⟩ (n := nj)
    rw [← HNJ.out] at this ⊢
    exact this
   obtain ⟨x, hx⟩ : ∃ x, tLeaves tWrite js s = x := ⟨_, rfl⟩
   have hnb : x ≠ .bad := fun e => HB.out (by
    rw [← hR2]
    unfold tBuild M.bind
    rw [hx, e]
    rfl)
   have hlv := fun F w q => leaves_any h s js _ (rw TEn 4 (.slice aj nj cj) (ecs js)) F w hE q (by rw [HNJ.out]; omega) (by rw [hx]; exact hnb)
   rw [hx] at hlv
   have hgr : ∀ er s3, x = .fault er s3 → s.sp.taken.length ≤ s3.sp.taken.length := fun er s3 e => (Keeps.fault (tLeaves_keeps grow_goes tWrite_keeps js) (hx.trans e)).len
   have HX : Aside (after s.sp.taken.length (M.bind (fun _ => x) (fun t => M.pure t.kid.page) s) = R) := (by rw [← hR2]; unfold tBuild M.bind; rw [hx] : _ = _)
   clear hE hR2 hx HR
   go_wp2_with fail
   with_reducible refine Calls.mono (hmk _ _ (takeI (treeP h s))) ?_
   rintro e w4 ⟨rfl, q6⟩
   haveI := q6.i
   clear q5
   go_wp2_with fail
   with_reducible refine Calls.mono (hlv _ _ (takeI2 (treeP h s) (rw TEn 4 (.slice aj nj cj) (ecs js)))) ?_
   rintro e w5 h5
   cases x with
   | bad => exact absurd rfl hnb
   | fault er s3 =>
     obtain ⟨rfl, q7⟩ := h5
     have hg := hgr er s3 rfl
     have hRR : R = .fault er (if er = 0 then s3 else s3.undone s.sp.taken.length) := HX.out.symm
     subst hRR
     show bodyPostD _ _ _ (.panic (faultC er)) _ w5
     haveI := q7.i
     refine leaves_cons (f := 83) (args := #[.pointer (some ⟨N, 0, none⟩), .pointer (some ⟨N + 1, 0, none⟩)]) (by simp) (by simp [go_sem]) ?_
     refine (buildC_caught N (N + 1) er _ _ _ w5 (takeI2 (Sl.block N TIt [.int .i64 0]) (Sl.block (N + 1) TEr [.int .i64 0]))).mono ?_
     rintro e u' w6 ⟨rfl, rfl, q8⟩
     haveI := q8.i
     show Leaves _ _ _ _ _ .returning w6
     refine leaves_cons (f := 81) (args := #[.pointer (some ⟨h.t, 0, none⟩), .int .i64 s.sp.taken.length, .pointer (some ⟨N + 1, 0, none⟩)]) (by simp) (by simp [go_sem]) ?_
     by_cases he : er = 0
     · subst he
       rw [if_pos rfl]
       refine (undoD_ok _ _ (N + 1) _ _ w6 (takeI (Sl.block (N + 1) TEr [.int .i64 0]))).mono ?_
       rintro e u' w7 ⟨rfl, rfl, q9⟩
       haveI := q9.i
       simp [Leaves, settle, results, Tryz.results23, go_sem]
       exact ⟨rfl, keep3 _ _ _⟩
     · rw [if_neg he]
       refine (undoD_er h s3 s.sp.taken.length (N + 1) er _ _ w6 he hg (takeI2 (treeP h s3) (Sl.block (N + 1) TEr [.int .i64 er]))).mono ?_
       rintro e u' w7 ⟨rfl, rfl, q9⟩
       haveI := q9.i
       simp [Leaves, settle, results, Tryz.results23, go_sem]
       exact ⟨rfl, keep3 _ _ _⟩
   | ok t s3 =>
     obtain ⟨v3, G3, rfl, ⟨rfl, rfl⟩, q7⟩ := h5
     rw [one_sep] at q7
     have hRR : R = .ok t.kid.page s3 := HX.out.symm
     subst hRR
     obtain ⟨⟨t1, t2, t3, t4⟩, th⟩ := t
     unfold tallV
     haveI := q7.i
     have hfk := field_kid t1 t2 t3 t4 th
     have hfp := field_page t1 t2 t3 t4
     go_wp2
     refine leaves_cons (f := 83) (args := #[.pointer (some ⟨N, 0, none⟩), .pointer (some ⟨N + 1, 0, none⟩)]) (by simp) (by simp [go_sem]) ?_
     refine (buildC_idle _ _ _).mono ?_
     rintro e u' w6 ⟨rfl, rfl, rfl⟩
     show Leaves _ _ _ _ _ .returning _
     refine leaves_cons (f := 81) (args := #[.pointer (some ⟨h.t, 0, none⟩), .int .i64 s.sp.taken.length, .pointer (some ⟨N + 1, 0, none⟩)]) (by simp) (by simp [go_sem]) ?_
     refine (undoD_ok _ _ (N + 1) _ _ _ (takeI (Sl.block (N + 1) TEr [.int .i64 0]))).mono ?_
     rintro e u' w7 ⟨rfl, rfl, q9⟩
     haveI := q9.i
     simp [Leaves, settle, results, Tryz.results23, go_sem]
     exact ⟨rfl, keep3 _ _ _⟩
end Go.Proofs.YtfhbmblbidcmmaaGreat
