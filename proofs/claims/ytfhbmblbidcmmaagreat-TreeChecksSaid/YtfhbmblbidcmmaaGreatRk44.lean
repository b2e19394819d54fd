/-
  Of any pages in a file a root is found to be a tree just if it is one in the form of the document. No condition. (part 44)
-/
import Derived.Test.YtfhbmblbidcmmaaGreatRk42
import Derived.Test.YtfhbmblbidcmmaaGreatRk43
import Derived.Test.YtfhbmblbidcmmaaGreatRk35
import Derived.Test.YtfhbmblbidcmmaaGreatRk36
set_option linter.unusedSimpArgs false
set_option linter.unusedVariables false
namespace Go.Proofs.YtfhbmblbidcmmaaGreat
set_option linter.unusedSimpArgs false
set_option linter.unusedVariables false
open Go.RowKit Go.Sl Go.Dk Go.Tr
def Grow (s s' : TS) : Prop := (∃ l, s'.sp.taken = s.sp.taken ++ l ∧ s'.sp.used = s.sp.used ++ l) ∧ s'.sp.reserved = s.sp.reserved ∧ s'.sp.waiting = s.sp.waiting ∧ s.ops ≤ s'.ops
theorem grow_goes : Goes Grow where
 same s := ⟨⟨[], by simp, by simp⟩, rfl, rfl, Nat.le_refl _⟩
 next := by
  rintro a b c ⟨⟨l, h1, h2⟩, h3, h4, h5⟩ ⟨⟨m, k1, k2⟩, k3, k4, k5⟩
  exact ⟨⟨l ++ m, by rw [k1, h1, List.append_assoc], by rw [k2, h2, List.append_assoc]⟩, k3.trans h3, k4.trans h4, by omega⟩
theorem Grow.len {s s' : TS} (h : Grow s s') : s.sp.taken.length ≤ s'.sp.taken.length := by
 obtain ⟨⟨l, h1, _⟩, _⟩ := h
 rw [h1, List.length_append]
 omega
theorem mFail_keeps (e : Int) : Keeps Grow (mFail e) := by
 unfold mFail
 split
 · exact Keeps.pure grow_goes _
 · exact Keeps.fail grow_goes _
theorem mGet_keeps (no : Int) : Keeps Grow (mGet no) := fun s => by
 unfold mGet
 by_cases h : s.ops < opsMax
 · rw [if_pos h]; exact ⟨⟨[], by simp, by simp⟩, rfl, rfl, by simp only; omega⟩
 · rw [if_neg h]; trivial
theorem mPut_keeps (no : Int) (b : List UInt8) : Keeps Grow (mPut no b) := fun s => ⟨⟨[], by simp, by simp⟩, rfl, rfl, by simp only; omega⟩
theorem mTake_keeps : Keeps Grow mTake := fun s => by
 unfold mTake
 by_cases h : s.ops < opsMax
 · rw [if_pos h]
   unfold Sp.take
   cases s.sp.free with
   | none => exact ⟨⟨[], by simp, by simp⟩, rfl, rfl, by simp only; omega⟩
   | some no => exact ⟨⟨[no], rfl, rfl⟩, rfl, rfl, by simp only; omega⟩
 · rw [if_neg h]; trivial
theorem tRead_keeps (p : Int) : Keeps Grow (tRead p) := by
 refine Keeps.bind grow_goes (mGet_keeps p) fun r => Keeps.bind grow_goes (mFail_keeps _) fun _ => ?_
 cases openNd p r.2 with
 | none => exact Keeps.fail grow_goes _
 | some n => exact Keeps.pure grow_goes _
theorem tWrite_keeps (n : Nd) : Keeps Grow (tWrite n) := by
 refine Keeps.ite (Keeps.fail grow_goes _) ?_
 exact Keeps.bind grow_goes mTake_keeps fun t => Keeps.bind grow_goes (mFail_keeps _) fun _ => Keeps.bind grow_goes (mFail_keeps _) fun _ => Keeps.bind grow_goes (mPut_keeps _ _) fun e => Keeps.bind grow_goes (mFail_keeps _) fun _ => Keeps.pure grow_goes _
def after (m : Nat) {α : Type} : Res TS α → Res TS α
 | .fault e s => .fault e (if e = 0 then s else s.undone m)
 | r => r
def mBuild (l : List Ent) : M TS Int := fun s => if mayList l = false then .fault 1 s else if 1024 < (join l).length then .fault 11 s else after s.sp.taken.length (tBuild tWrite (join l) s)
end Go.Proofs.YtfhbmblbidcmmaaGreat
namespace Go.Proofs.YtfhbmblbidcmmaaGreat
set_option linter.unusedSimpArgs false
set_option linter.unusedVariables false
open Go.RowKit Go.Sl Go.Dk Go.Tr
attribute [local go_sem ↓] Go.wp_at_zero Go.wp_at_succ
attribute [local go_sem] Go.Sl.cell_sat Go.Sl.frozen_sat
theorem field_kid (a b c d e : Int) (w : World) : Sem.run Tryz.prog (Instr.field TTl (.agg #[.int .i64 a, .int .i64 b, .int .i64 c, .int .i64 d, .int .i64 e]) 0) w = .ok (.agg #[.int .i64 a, .int .i64 b, .int .i64 c, .int .i64 d]) w := by kernel_rfl
theorem field_page (a b c d : Int) (w : World) : Sem.run Tryz.prog (Instr.field TKd (.agg #[.int .i64 a, .int .i64 b, .int .i64 c, .int .i64 d]) 0) w = .ok (.int .i64 a) w := by kernel_rfl
theorem foldJ_len : ∀ (l o : List Ent), (l.foldl joinTo o).length ≤ o.length + l.length
 | [], o => by simp
 | x :: l, o => by
   have h1 := foldJ_len l (joinTo o x)
   have h2 := joinTo_len o x
   simp only [List.foldl_cons, List.length_cons]
   omega
theorem join_short (l : List Ent) : (join l).length ≤ l.length := by
 have := foldJ_len l []
 unfold join
 rw [List.length_nil, Nat.zero_add] at this
 exact this
instance treeP_c {h : Th} {s : TS} : HasC (treeP h s) h.t 0 (.pointer (some ⟨h.C, 0, none⟩)) := ⟨by
 unfold treeP treeA
 exact HasC.out⟩
instance treeP_s {h : Th} {s : TS} : HasC (treeP h s) h.t 1 (.pointer (some ⟨h.S, 0, none⟩)) := ⟨by
 unfold treeP treeA
 exact HasC.out⟩
theorem mark_tany (h : Th) (s : TS) (F : Assn) (w : World) (hs : Sat (treeP h s * F) w) :
 Calls Tryz.prog 82 #[.pointer (some ⟨h.S, 0, none⟩)] w fun e w' => e = .returned (.int .i64 s.sp.taken.length) ∧ Sat (treeP h s * F) w' := by
 obtain ⟨hi, hp⟩ := tree_parts hs
 refine (spMark_any h.S s.sp _ w (hp.eq (by ac_rfl) : Sat (spaceP h.S s.sp * (cacheP h.C h.D s.ck * (Sl.block h.t TTr [.pointer (some ⟨h.C, 0, none⟩), .pointer (some ⟨h.S, 0, none⟩)] * F))) w)).mono ?_
 rintro e w' ⟨h1, h2⟩
 exact ⟨h1, tree_join hi (h2.eq (by ac_rfl))⟩
abbrev TEs : TypeId := 29
theorem readsLL_one {B : Assn} {v : Value} {l : List Ent} (b : Nat) (hE : ReadsE B v l) : ReadsLL (Sl.block b TEs [v] * B) (.slice (some ⟨b, 0, none⟩) 1 1) [l] := by
 refine ⟨[v], ⟨rfl, _, _, rfl, Nat.le_refl _, by omega, fun j u hj => ⟨b, 0, rfl, ?_⟩⟩, rfl, fun i x l' hx hl => ?_⟩
 · haveI : At [v] j u := ⟨hj⟩
   rw [Nat.zero_add]
   exact inferInstance
 · cases i with
   | zero => simp at hx hl; subst hx; subst hl; exact ReadsR.right hE
   | succ i => simp at hx
set_option maxRecDepth 100000 in
set_option maxHeartbeats 3200000 in
theorem build_no (h : Th) (s : TS) (l : List Ent) (v : Value) (B F : Assn) (w : World) (hE : ReadsE B v l) (hs : Sat (treeP h s * (B * F)) w) (hl : l.length ≤ 65536) (hm : mayList l = false) :
 Calls Tryz.prog 23 #[.pointer (some ⟨h.t, 0, none⟩), v] w (Back h (B * F) (mBuild l s) (fun z => vi2 z 0) (fun er => vi2 0 er)) := by
 obtain ⟨a0, c0, rfl, hE1, hE2⟩ := hE.v
 have hR : mBuild l s = .fault 1 s := by unfold mBuild; rw [if_pos hm]
 rw [hR]
 have hmy := fun F w q => tmay_any l _ B F w hE q (by omega)
 rw [hm] at hmy
 have h2 : Sat (B * (treeP h s * F)) w := hs.eq (by ac_rfl)
 haveI := h2.i
 clear hR hE hs h2
 go_enter_defers Tryz.func23, Tryz.ntmps23
 go_wp2_with fail
 with_reducible refine Calls.mono (hmy _ _ (takeI B)) ?_
 rintro e w2 ⟨rfl, q2⟩
 haveI := q2.i
 go_wp2
 simp [bodyPostD, Leaves, settle, results, Tryz.results23, go_sem]
 exact ⟨rfl, keep3 _ _ _⟩
set_option maxRecDepth 100000 in
set_option maxHeartbeats 3200000 in
theorem build_go (h : Th) (s : TS) (l : List Ent) (v : Value) (B F : Assn) (w : World) (hE : ReadsE B v l) (hs : Sat (treeP h s * (B * F)) w) (hl : l.length ≤ 65536) (hm : mayList l = true) (hb : mBuild l s ≠ .bad) :
 Calls Tryz.prog 23 #[.pointer (some ⟨h.t, 0, none⟩), v] w (Back h (B * F) (mBuild l s) (fun z => vi2 z 0) (fun er => vi2 0 er)) := by
 have hmf : ∀ (fn : Fn) (first cap : Array Value) (w : World), (Instr.makeFunc fn first cap).run Tryz.prog w = .ok (.func fn first cap) w := fun _ _ _ _ => rfl
 obtain ⟨a0, c0, rfl, hE1, hE2⟩ := hE.v
 obtain ⟨R, hR⟩ : ∃ R, mBuild l s = R := ⟨_, rfl⟩
 rw [hR] at hb ⊢
 have HB : Aside (R ≠ .bad) := hb
 unfold mBuild at hR
 rw [if_neg (by rw [hm]; simp)] at hR
 have hmy := fun F w q => tmay_any l _ B F w hE q (by omega)
 rw [hm] at hmy
 have HM : Aside ((∀ x ∈ l, mayEnt x = true) ∧ eBytes l ≤ 1048576) := by
  rw [mayList_eq] at hm
  simp only [Bool.and_eq_true, List.all_eq_true, decide_eq_true_eq] at hm
  exact hm
 have hjo := fun b F w q => join_any [l] (.slice (some ⟨b, 0, none⟩) 1 1) (Sl.block b TEs [.slice a0 l.length c0] * B) F w (readsLL_one b hE) q (by simp) (by simp; omega) (by simpa using HM.out.1) (by have := HM.out.2; simp; omega)
 have ef : ([l] : List (List Ent)).flatten = l := by simp
 rw [ef] at hjo
 have hjl := join_short l
 obtain ⟨js, hjs⟩ : ∃ js, join l = js := ⟨_, rfl⟩
 rw [hjs] at hjo hR hjl
 obtain ⟨nj, hnj⟩ : ∃ nj, js.length = nj := ⟨_, rfl⟩
 rw [hnj] at hjl hR
 have HNJ : Aside (js.length = nj) := hnj
 have HR : Aside ((if 1024 < nj then Res.fault 11 s else after s.sp.taken.length (tBuild tWrite js s)) = R) := hR
 have hmk := mark_tany h s
 have h2 : Sat (B * (treeP h s * F)) w := hs.eq (by ac_rfl)
 haveI := h2.i
 clear hE hs h2 hR hb hm hjs ef
 go_enter_defers Tryz.func23, Tryz.ntmps23
 go_wp2_with fail
 with_reducible refine Calls.mono (hmy _ _ (takeI B)) ?_
 rintro e w2 ⟨rfl, q2⟩
 haveI := q2.i
 go_wp2_with fail
 obtain ⟨N, hN⟩ : ∃ N, w.heap.size = N := ⟨_, rfl⟩
 obtain ⟨N2, hN2⟩ : ∃ N, w2.heap.size = N := ⟨_, rfl⟩
 have q3 : Sat ((Sl.block N2 TEs [.slice a0 l.length c0] * B) * (Sl.block (N + 1) TEr [.int .i64 0] * (Sl.block N TIt [.int .i64 0] * (treeP h s * F)))) (w2.alloc (.cells #[.slice a0 l.length c0] TEs)) := by
  rw [← hN, ← hN2]
  exact satI_eq (by ac_rfl)
 rw [hN2, hN]
 clear hN2 hN q2 this hmy
 with_reducible refine Calls.mono (hjo _ _ _ q3) ?_
 rintro e w3 ⟨aj, cj, rfl, q4⟩
 rw [HNJ.out] at q4 ⊢
 have q5 : Sat (treeP h s * (rw TEn 4 (.slice aj nj cj) (ecs js) * (Sl.block (N + 1) TEr [.int .i64 0] * (Sl.block N TIt [.int .i64 0] * (B * F))))) w3 := Sat.weak (B := Sl.block N2 TEs [.slice a0 l.length c0]) (q4.eq (by ac_rfl))
 haveI := q5.i
 clear hjo q3 q4
 by_cases hlt : 1024 < nj
 · have hRR : R = .fault 11 s := by have := HR.out; rw [if_pos hlt] at this; exact this.symm
   subst hRR
   have hlt' : (1024 : Int) < nj := by omega
   go_wp2
   simp [bodyPostD, Leaves, settle, results, Tryz.results23, go_sem]
   exact ⟨rfl, keep3 _ _ _⟩
 · have hlt' : ¬ (1024 : Int) < nj := by omega
   have hR2 : after s.sp.taken.length (tBuild tWrite js s) = R := by have := HR.out; rwa [if_neg hlt] at this
   have hE : ReadsE (rw TEn 4 (.slice aj nj cj) (ecs js)) (.slice aj nj cj) js := by
    have := ReadsR.rw (F := Sl.block (N + 1) TEr [.int .i64 0] * (Sl.block N TIt [.int .i64 0] * (B * F * treeP h s))) (q5.eq (by ac_rfl)) ⟨aj, cj, rfl⟩ (n := nj)
    rw [← HNJ.out] at this ⊢
    exact this
   obtain ⟨x, hx⟩ : ∃ x, tLeaves tWrite js s = x := ⟨_, rfl⟩
   have hnb : x ≠ .bad := fun e => HB.out (by
    rw [← hR2]
    unfold tBuild M.bind
    rw [hx, e]
    rfl)
   have hlv := fun F w q => leaves_any h s js _ (rw TEn 4 (.slice aj nj cj) (ecs js)) F w hE q (by rw [HNJ.out]; omega) (by rw [hx]; exact hnb)
   rw [hx] at hlv
   have hgr : ∀ er s3, x = .fault er s3 → s.sp.taken.length ≤ s3.sp.taken.length := fun er s3 e => (Keeps.fault (tLeaves_keeps grow_goes tWrite_keeps js) (hx.trans e)).len
   have HX : Aside (after s.sp.taken.length (M.bind (fun _ => x) (fun t => M.pure t.kid.page) s) = R) := (by rw [← hR2]; unfold tBuild M.bind; rw [hx] : _ = _)
   clear hE hR2 hx HR
   go_wp2_with fail
   with_reducible refine Calls.mono (hmk _ _ (takeI (treeP h s))) ?_
   rintro e w4 ⟨rfl, q6⟩
   haveI := q6.i
   clear q5
   go_wp2_with fail
   with_reducible refine Calls.mono (hlv _ _ (takeI2 (treeP h s) (rw TEn 4 (.slice aj nj cj) (ecs js)))) ?_
   rintro e w5 h5
   cases x with
   | bad => exact absurd rfl hnb
   | fault er s3 =>
     obtain ⟨rfl, q7⟩ := h5
     have hg := hgr er s3 rfl
     have hRR : R = .fault er (if er = 0 then s3 else s3.undone s.sp.taken.length) := HX.out.symm
     subst hRR
     show bodyPostD _ _ _ (.panic (faultC er)) _ w5
     haveI := q7.i
     refine leaves_cons (f := 83) (args := #[.pointer (some ⟨N, 0, none⟩), .pointer (some ⟨N + 1, 0, none⟩)]) (by simp) (by simp [go_sem]) ?_
     refine (buildC_caught N (N + 1) er _ _ _ w5 (takeI2 (Sl.block N TIt [.int .i64 0]) (Sl.block (N + 1) TEr [.int .i64 0]))).mono ?_
     rintro e u' w6 ⟨rfl, rfl, q8⟩
     haveI := q8.i
     show Leaves _ _ _ _ _ .returning w6
     refine leaves_cons (f := 81) (args := #[.pointer (some ⟨h.t, 0, none⟩), .int .i64 s.sp.taken.length, .pointer (some ⟨N + 1, 0, none⟩)]) (by simp) (by simp [go_sem]) ?_
     by_cases he : er = 0
     · subst he
       rw [if_pos rfl]
       refine (undoD_ok _ _ (N + 1) _ _ w6 (takeI (Sl.block (N + 1) TEr [.int .i64 0]))).mono ?_
       rintro e u' w7 ⟨rfl, rfl, q9⟩
       haveI := q9.i
       simp [Leaves, settle, results, Tryz.results23, go_sem]
       exact ⟨rfl, keep3 _ _ _⟩
     · rw [if_neg he]
       refine (undoD_er h s3 s.sp.taken.length (N + 1) er _ _ w6 he hg (takeI2 (treeP h s3) (Sl.block (N + 1) TEr [.int .i64 er]))).mono ?_
       rintro e u' w7 ⟨rfl, rfl, q9⟩
       haveI := q9.i
       simp [Leaves, settle, results, Tryz.results23, go_sem]
       exact ⟨rfl, keep3 _ _ _⟩
   | ok t s3 =>
     obtain ⟨v3, G3, rfl, ⟨rfl, rfl⟩, q7⟩ := h5
     rw [one_sep] at q7
     have hRR : R = .ok t.kid.page s3 := HX.out.symm
     subst hRR
     obtain ⟨⟨t1, t2, t3, t4⟩, th⟩ := t
     unfold tallV
     haveI := q7.i
     have hfk := field_kid t1 t2 t3 t4 th
     have hfp := field_page t1 t2 t3 t4
     go_wp2
     refine leaves_cons (f := 83) (args := #[.pointer (some ⟨N, 0, none⟩), .pointer (some ⟨N + 1, 0, none⟩)]) (by simp) (by simp [go_sem]) ?_
     refine (buildC_idle _ _ _).mono ?_
     rintro e u' w6 ⟨rfl, rfl, rfl⟩
     show Leaves _ _ _ _ _ .returning _
     refine leaves_cons (f := 81) (args := #[.pointer (some ⟨h.t, 0, none⟩), .int .i64 s.sp.taken.length, .pointer (some ⟨N + 1, 0, none⟩)]) (by simp) (by simp [go_sem]) ?_
     refine (undoD_ok _ _ (N + 1) _ _ _ (takeI (Sl.block (N + 1) TEr [.int .i64 0]))).mono ?_
     rintro e u' w7 ⟨rfl, rfl, q9⟩
     haveI := q9.i
     simp [Leaves, settle, results, Tryz.results23, go_sem]
     exact ⟨rfl, keep3 _ _ _⟩
theorem build_any (h : Th) (s : TS) (l : List Ent) (v : Value) (B F : Assn) (w : World) (hE : ReadsE B v l) (hs : Sat (treeP h s * (B * F)) w) (hl : l.length ≤ 65536) (hb : mBuild l s ≠ .bad) :
 Calls Tryz.prog 23 #[.pointer (some ⟨h.t, 0, none⟩), v] w (Back h (B * F) (mBuild l s) (fun z => vi2 z 0) (fun er => vi2 0 er)) := by
 cases hm : mayList l with
 | false => exact build_no h s l v B F w hE hs hl hm
 | true => exact build_go h s l v B F w hE hs hl hm hb
end Go.Proofs.YtfhbmblbidcmmaaGreat
namespace Go.Tr
theorem cKid_unfit {y x : Sn} {s : Int × Int × Int} {first : Bool} {k : Kd} (h : s.1 ≠ k.bytes ∨ s.2.1 ≠ k.lines ∨ s.2.2 ≠ k.scraps ∨ (first = false ∧ (y.h + 1 ≠ x.h ∨ meets x.last y.first = true))) : cKid y s first k x = none := by
 unfold cKid
 rw [if_pos]
 rcases h with h | h | h | h
 · exact .inl fun e => h (by rw [e])
 · exact .inl fun e => h (by rw [e])
 · exact .inl fun e => h (by rw [e])
 · exact .inr h
theorem cKid_fit {y x : Sn} {s : Int × Int × Int} {first : Bool} {k : Kd} (h : ¬ (s.1 ≠ k.bytes ∨ s.2.1 ≠ k.lines ∨ s.2.2 ≠ k.scraps ∨ (first = false ∧ (y.h + 1 ≠ x.h ∨ meets x.last y.first = true)))) : (first = false → y.h + 1 = x.h) ∧ (1024 < x.count + y.count → cKid y s first k x = none) ∧ (¬ 1024 < x.count + y.count → cKid y s first k x = some ⟨y.h + 1, x.count + y.count, if first then y.first else x.first, y.last⟩) := by
 simp only [not_or, Decidable.not_not, not_and] at h
 obtain ⟨h1, h2, h3, h4⟩ := h
 have hs : s = (k.bytes, k.lines, k.scraps) := by
  rw [← h1, ← h2, ← h3]
 have h5 : first = false → y.h + 1 = x.h := fun e => (h4 e).1
 have h6 : first = false → ¬ meets x.last y.first = true := fun e => (h4 e).2
 refine ⟨h5, fun hc => ?_, fun hc => ?_⟩
 · unfold cKid
   rw [if_neg (by simp only [not_or, Decidable.not_not, not_and]; exact ⟨hs, fun e => ⟨h5 e, h6 e⟩⟩), if_pos hc]
 · unfold cKid
   rw [if_neg (by simp only [not_or, Decidable.not_not, not_and]; exact ⟨hs, fun e => ⟨h5 e, h6 e⟩⟩), if_neg hc]
   cases first with
   | true => rfl
   | false => rw [← h5 rfl]; rfl
end Go.Tr
namespace Go.Proofs.YtfhbmblbidcmmaaGreat
set_option linter.unusedSimpArgs false
set_option linter.unusedVariables false
open Go.RowKit Go.Sl Go.Dk Go.Tr
open Go.Lru (ikey)
attribute [local go_sem ↓] Go.wp_at_zero Go.wp_at_succ
attribute [local go_sem] Go.Sl.cell_sat Go.Sl.frozen_sat put_Kn
theorem store10 {A R : Assn} {w : World} {b e : Nat} {c0 c1 c2 c3 c4 c5 c6 c7 c8 c9 : Value} {v0 v1 v2 v3 v4 v5 v6 v7 v8 v9 : Value} [SatI A w] [Take A (Sl.block b e [c0, c1, c2, c3, c4, c5, c6, c7, c8, c9]) R] : Sat (Sl.block b e [v0, v1, v2, v3, v4, v5, v6, v7, v8, v9] * R) ((((((((((w.setCell ⟨b, 0, none⟩ v0).setCell ⟨b, 1, none⟩ v1).setCell ⟨b, 2, none⟩ v2).setCell ⟨b, 3, none⟩ v3).setCell ⟨b, 4, none⟩ v4).setCell ⟨b, 5, none⟩ v5).setCell ⟨b, 6, none⟩ v6).setCell ⟨b, 7, none⟩ v7).setCell ⟨b, 8, none⟩ v8).setCell ⟨b, 9, none⟩ v9) := by
 have h0 : Sat (Sl.block b e [c0, c1, c2, c3, c4, c5, c6, c7, c8, c9] * R) w := takeI (Sl.block b e [c0, c1, c2, c3, c4, c5, c6, c7, c8, c9])
 have h1 : Sat (Sl.block b e [v0, c1, c2, c3, c4, c5, c6, c7, c8, c9] * R) (w.setCell ⟨b, 0, none⟩ v0) := h0.upd b 0 v0
 have h2 : Sat (Sl.block b e [v0, v1, c2, c3, c4, c5, c6, c7, c8, c9] * R) ((w.setCell ⟨b, 0, none⟩ v0).setCell ⟨b, 1, none⟩ v1) := h1.upd b 1 v1
 have h3 : Sat (Sl.block b e [v0, v1, v2, c3, c4, c5, c6, c7, c8, c9] * R) (((w.setCell ⟨b, 0, none⟩ v0).setCell ⟨b, 1, none⟩ v1).setCell ⟨b, 2, none⟩ v2) := h2.upd b 2 v2
 have h4 : Sat (Sl.block b e [v0, v1, v2, v3, c4, c5, c6, c7, c8, c9] * R) ((((w.setCell ⟨b, 0, none⟩ v0).setCell ⟨b, 1, none⟩ v1).setCell ⟨b, 2, none⟩ v2).setCell ⟨b, 3, none⟩ v3) := h3.upd b 3 v3
 have h5 : Sat (Sl.block b e [v0, v1, v2, v3, v4, c5, c6, c7, c8, c9] * R) (((((w.setCell ⟨b, 0, none⟩ v0).setCell ⟨b, 1, none⟩ v1).setCell ⟨b, 2, none⟩ v2).setCell ⟨b, 3, none⟩ v3).setCell ⟨b, 4, none⟩ v4) := h4.upd b 4 v4
 have h6 : Sat (Sl.block b e [v0, v1, v2, v3, v4, v5, c6, c7, c8, c9] * R) ((((((w.setCell ⟨b, 0, none⟩ v0).setCell ⟨b, 1, none⟩ v1).setCell ⟨b, 2, none⟩ v2).setCell ⟨b, 3, none⟩ v3).setCell ⟨b, 4, none⟩ v4).setCell ⟨b, 5, none⟩ v5) := h5.upd b 5 v5
 have h7 : Sat (Sl.block b e [v0, v1, v2, v3, v4, v5, v6, c7, c8, c9] * R) (((((((w.setCell ⟨b, 0, none⟩ v0).setCell ⟨b, 1, none⟩ v1).setCell ⟨b, 2, none⟩ v2).setCell ⟨b, 3, none⟩ v3).setCell ⟨b, 4, none⟩ v4).setCell ⟨b, 5, none⟩ v5).setCell ⟨b, 6, none⟩ v6) := h6.upd b 6 v6
 have h8 : Sat (Sl.block b e [v0, v1, v2, v3, v4, v5, v6, v7, c8, c9] * R) ((((((((w.setCell ⟨b, 0, none⟩ v0).setCell ⟨b, 1, none⟩ v1).setCell ⟨b, 2, none⟩ v2).setCell ⟨b, 3, none⟩ v3).setCell ⟨b, 4, none⟩ v4).setCell ⟨b, 5, none⟩ v5).setCell ⟨b, 6, none⟩ v6).setCell ⟨b, 7, none⟩ v7) := h7.upd b 7 v7
 have h9 : Sat (Sl.block b e [v0, v1, v2, v3, v4, v5, v6, v7, v8, c9] * R) (((((((((w.setCell ⟨b, 0, none⟩ v0).setCell ⟨b, 1, none⟩ v1).setCell ⟨b, 2, none⟩ v2).setCell ⟨b, 3, none⟩ v3).setCell ⟨b, 4, none⟩ v4).setCell ⟨b, 5, none⟩ v5).setCell ⟨b, 6, none⟩ v6).setCell ⟨b, 7, none⟩ v7).setCell ⟨b, 8, none⟩ v8) := h8.upd b 8 v8
 have h10 : Sat (Sl.block b e [v0, v1, v2, v3, v4, v5, v6, v7, v8, v9] * R) ((((((((((w.setCell ⟨b, 0, none⟩ v0).setCell ⟨b, 1, none⟩ v1).setCell ⟨b, 2, none⟩ v2).setCell ⟨b, 3, none⟩ v3).setCell ⟨b, 4, none⟩ v4).setCell ⟨b, 5, none⟩ v5).setCell ⟨b, 6, none⟩ v6).setCell ⟨b, 7, none⟩ v7).setCell ⟨b, 8, none⟩ v8).setCell ⟨b, 9, none⟩ v9) := h9.upd b 9 v9
 exact h10
theorem join_pair (a b : Ent) : (join [a, b]).length = if meets a b then 1 else 2 := by
 cases h : meets a b <;> simp [join, joinTo, h]
theorem readsE_blk {b : Nat} (l : List Ent) (hl : l.length ≤ 1000) : ReadsE (Sl.block b TEn (ecs l)) (.slice (some ⟨b, 0, none⟩) l.length l.length) l := by
 refine ⟨ecs_len l, _, _, rfl, Nat.le_refl _, by omega, fun j u hj => ⟨b, 0, rfl, ?_⟩⟩
 haveI : At (ecs l) j u := ⟨hj⟩
 rw [Nat.zero_add]
 exact inferInstance
theorem join_two_call (x y : Ent) (b b2 : Nat) (F : Assn) (w : World) (hx : mayEnt x = true) (hy : mayEnt y = true) (hs : Sat (Sl.block b2 29 [.slice (some ⟨b, 0, none⟩) 2 2] * (Sl.block b TEn [.int .i64 x.src, .int .i64 x.pos, .int .i64 x.len, .int .i64 x.lines, .int .i64 y.src, .int .i64 y.pos, .int .i64 y.len, .int .i64 y.lines] * F)) w) :
 Calls Tryz.prog 80 #[.slice (some ⟨b2, 0, none⟩) 1 1] w fun e w' => ∃ a c G, e = .returned (.slice a (if meets x y then 1 else 2) c) ∧ Sat (G * F) w' := by
 have h1 : ReadsE (Sl.block b TEn (ecs [x, y])) (.slice (some ⟨b, 0, none⟩) 2 2) [x, y] := readsE_blk [x, y] (by simp)
 have h8 := mayE_iff.1 hx
 have h9 := mayE_iff.1 hy
 have h2 := join_any [[x, y]] _ _ F w (readsLL_one b2 h1) (hs.eq (by rw [show ecs [x, y] = [.int .i64 x.src, .int .i64 x.pos, .int .i64 x.len, .int .i64 x.lines, .int .i64 y.src, .int .i64 y.pos, .int .i64 y.len, .int .i64 y.lines] from rfl]; ac_rfl)) (by simp) (by simp) (by intro z hz; simp at hz; rcases hz with rfl | rfl <;> assumption) (by simp [eBytes]; omega)
 rw [List.flatten_singleton, join_pair] at h2
 exact h2.mono fun e w' ⟨a, c, g1, g2⟩ => ⟨a, c, _, g1, g2.eq (sep_assoc _ _ _).symm⟩
theorem look_open (h : Th) (s : TS) (bK bT bL M : Nat) (K : List (Int × Sn)) (F : Assn) : treeP h s * (lookA bK bT bL M h K * F) = treeP h s * (Sl.block bK TKn [.map (some M)] * (Sl.block bT TTp [.pointer (some ⟨h.t, 0, none⟩)] * (Sl.block bL TLf [.func (Fn.func 128) #[] #[.pointer (some ⟨bK, 0, none⟩), .pointer (some ⟨bT, 0, none⟩), .pointer (some ⟨bL, 0, none⟩)]] * (mp ikey M (kn K) * F)))) := by
 unfold lookA
 ac_rfl
theorem look_take {A R R1 R2 R3 R4 : Assn} {w : World} [q : SatI A w] (h : Th) (s : TS) (bK bT bL M : Nat) (K : List (Int × Sn)) [t : Take A (treeP h s) R] [t1 : Take R (Sl.block bK TKn [.map (some M)]) R1] [t2 : Take R1 (Sl.block bT TTp [.pointer (some ⟨h.t, 0, none⟩)]) R2] [t3 : Take R2 (Sl.block bL TLf [.func (Fn.func 128) #[] #[.pointer (some ⟨bK, 0, none⟩), .pointer (some ⟨bT, 0, none⟩), .pointer (some ⟨bL, 0, none⟩)]]) R3] [t4 : Take R3 (mp ikey M (kn K)) R4] : Sat (treeP h s * (lookA bK bT bL M h K * R4)) w :=
 q.out.eq (by rw [t.out, t1.out, t2.out, t3.out, t4.out]; unfold lookA; ac_rfl)
variable [TopN]
def LookL (f : Nat) (lf : Bool) : Prop := ∀ (V : Int → Option Nd) (N : Nat) (h : Th) (s : TS) (m : Nat) (K : List (Int × Sn)) (no : Int) (top : Bool) (bK bT bL M : Nat) (F : Assn) (w : World), (∀ n, V no = some n → n.leaf = lf) → f ≤ 13 → no ≠ 0 → KnOk V K → (∀ p n, V p = some n → may n = true ∧ p < N) → Rdy V m s → 13 * fr N K + 13 * (f + 1) ≤ m →
 Sat (treeP h s * (lookA bK bT bL M h K * F)) w → Calls Tryz.prog 128 #[.int .i64 no, .bool top, .int .i64 (13 - (f : Int)), .pointer (some ⟨bK, 0, none⟩), .pointer (some ⟨bT, 0, none⟩), .pointer (some ⟨bL, 0, none⟩)] w (LookOut V N h bK bT bL M f m s K no top F)
structure LkI (V : Int → Option Nd) (N f g : Nat) (n : Nd) (lf : Bool) (m1 : Nat) (s : TS) (K : List (Int × Sn)) (x0 : Sn) (gg lk j m3 : Nat) (s3 : TS) (K3 : List (Int × Sn)) (x : Sn) : Prop where
 meas : gg = lk - j
 rdy : Rdy V m3 s3
 sp : s3.sp = s.sp
 d : s3.ck.d = s.ck.d
 kn : KnOk V K3
 bud : m1 + 13 * fr N K3 ≤ m3 + j + 13 * fr N K
 run : lf = false → Run V g n j x
 k0 : j = 0 → K3 = K
 newk : ∀ q ∈ K3, q ∈ K ∨ q.2.h + 1 ≤ x.h
 zero : j = 0 → x = x0
 cnt : 0 ≤ x.count ∧ x.count ≤ 1036
 hgt : 0 ≤ x.h ∧ x.h ≤ 1036
 low : 0 < j → mayEnt x.last = true ∧ (K = [] → x.h < f)
end Go.Proofs.YtfhbmblbidcmmaaGreat
namespace Go.Proofs.YtfhbmblbidcmmaaGreat
set_option linter.unusedSimpArgs false
set_option linter.unusedVariables false
open Go.RowKit Go.Sl Go.Dk Go.Tr
open Go.Lru (ikey)
attribute [local go_sem ↓] Go.wp_at_zero Go.wp_at_succ
attribute [local go_sem] Go.Sl.cell_sat Go.Sl.frozen_sat put_Kn
variable [TopN]
set_option maxRecDepth 100000 in
set_option maxHeartbeats 12800000 in
theorem look_inner (f : Nat) (ih : ∀ g, f = g + 1 → LookC g) : LookL f false := by
 intro V N h s m K no top bK bT bL M F w hLV hf hno hK hV hR hm hs
 have HLV : Aside (∀ n, V no = some n → n.leaf = false) := hLV
 clear hLV
 by_cases hhit : top = false ∧ ∃ y, kget no K = some y
 · obtain ⟨rfl, y, hy⟩ := hhit
   exact look_hit f V N h s m K no bK bT bL M F w hK hR y hy hs
 have HK : Aside (KnOk V K) := hK
 have HV : Aside (∀ p n, V p = some n → may n = true ∧ p < N) := hV
 have HV1 : Aside (∀ p n, V p = some n → may n = true) := fun p n h => (hV p n h).1
 have HM : Aside (13 * fr N K + 13 * (f + 1) ≤ m ∧ no ≠ 0) := ⟨hm, hno⟩
 have HIH : Aside (∀ g, f = g + 1 → LookC g) := ih
 have HH : Aside (¬ (top = false ∧ ∃ y, kget no K = some y)) := hhit
 obtain ⟨m1, hm1⟩ : ∃ m1, m = m1 + 1 := ⟨m - 1, by omega⟩
 have HM1 : Aside (m = m1 + 1) := hm1
 have hrd := rd_call h V m1 s no
 have HRD : Aside (∀ F w, Sat (treeP h s * F) w → Calls Tryz.prog 129 #[.pointer (some ⟨h.t, 0, none⟩), .int .i64 no] w (RdEnds h V m1 s no F)) := fun F w q => hrd F w (by rw [← hm1]; exact hR) hno q
 obtain ⟨dp, hdp⟩ : ∃ d, (13 : Int) - (f : Int) = d := ⟨_, rfl⟩
 have HD : Aside (dp = 13 - (f : Int) ∧ f ≤ 13) := ⟨hdp.symm, hf⟩
 have hd0 : 0 ≤ dp ∧ dp ≤ 13 := by omega
 rw [hdp]
 obtain ⟨hd1, hd2⟩ := hd0
 have hwd : IntKind.i64.wrap (dp + 1) = dp + 1 := IntWalk.i64_in _ (by omega)
 unfold lookA at hs
 have hs1 : Sat (treeP h s * (Sl.block bK TKn [.map (some M)] * (Sl.block bT TTp [.pointer (some ⟨h.t, 0, none⟩)] * (Sl.block bL TLf [.func (Fn.func 128) #[] #[.pointer (some ⟨bK, 0, none⟩), .pointer (some ⟨bT, 0, none⟩), .pointer (some ⟨bL, 0, none⟩)]] * (mp ikey M (kn K) *  F))))) w := hs.eq (by ac_rfl)
 obtain ⟨z, ok, hz1, hz2, hz3⟩ : ∃ (z : Sn) (ok : Bool), (mget no (kn K)).getD zeroSn = snV z ∧ (mget no (kn K)).isSome = ok ∧ (ok = true → top = true) ∧ (top = false → kget no K = none) := by
  rw [mget_kn]
  cases hkg : kget no K with
  | none => exact ⟨sn0, false, rfl, rfl, fun e => Bool.noConfusion e, fun _ => rfl⟩
  | some y =>
    have ht : top = true := by
     cases top with
     | true => rfl
     | false => exact absurd ⟨rfl, y, hkg⟩ hhit
    exact ⟨y, true, rfl, rfl, fun _ => ht, fun e => by rw [ht] at e; cases e⟩
 have HZ : Aside (top = false → kget no K = none) := hz3.2
 have hz4 := hz3.1
 obtain ⟨yh, yc, ⟨a1, a2, a3, a4⟩, ⟨b1, b2, b3, b4⟩⟩ := z
 haveI := hs1.i
 have hlk : (Instr.lookup TKn (.map (some M)) (.int .i64 no) true).run Tryz.prog (w.alloc (.cells #[.int .i64 0, .int .i64 0, .int .i64 0, .int .i64 0, .int .i64 0, .int .i64 0, .int .i64 0, .int .i64 0, .int .i64 0, .int .i64 0] TSn)) = .ok (.tuple #[.agg #[.int .i64 yh, .int .i64 yc, .int .i64 a1, .int .i64 a2, .int .i64 a3, .int .i64 a4, .int .i64 b1, .int .i64 b2, .int .i64 b3, .int .i64 b4], .bool ok]) (w.alloc (.cells #[.int .i64 0, .int .i64 0, .int .i64 0, .int .i64 0, .int .i64 0, .int .i64 0, .int .i64 0, .int .i64 0, .int .i64 0, .int .i64 0] TSn)) := by
  rw [look_Kn, hz1, hz2]
  rfl
 clear hz1 hz2 hz3 hK hV hR hm hs hhit ih hrd hno hf hm1 hdp HH
 go_enter Tryz.func128, Tryz.ntmps128
 go_upto_region 2 with (fail)
 go_cut [30] (fun t30 wx => t30 = .bool false ∧ Sat (Sl.block w.heap.size TSn [.int .i64 0, .int .i64 0, .int .i64 0, .int .i64 0, .int .i64 0, .int .i64 0, .int .i64 0, .int .i64 0, .int .i64 0, .int .i64 0] * (treeP h s * (Sl.block bK TKn [.map (some M)] * (Sl.block bT TTp [.pointer (some ⟨h.t, 0, none⟩)] * (Sl.block bL TLf [.func (Fn.func 128) #[] #[.pointer (some ⟨bK, 0, none⟩), .pointer (some ⟨bT, 0, none⟩), .pointer (some ⟨bL, 0, none⟩)]] * (mp ikey M (kn K) *  F)))))) wx)
 case first =>
  cases ok with
  | false =>
    go_wp2_with fail
    go_meet
    exact ⟨rfl, satI_weak (C := Sl.block (w.heap.size + 1) TSn [.int .i64 yh, .int .i64 yc, .int .i64 a1, .int .i64 a2, .int .i64 a3, .int .i64 a4, .int .i64 b1, .int .i64 b2, .int .i64 b3, .int .i64 b4]) (by ac_rfl)⟩
  | true =>
    obtain rfl := hz4 rfl
    go_wp2_with fail
    go_meet
    exact ⟨rfl, satI_weak (C := Sl.block (w.heap.size + 1) TSn [.int .i64 yh, .int .i64 yc, .int .i64 a1, .int .i64 a2, .int .i64 a3, .int .i64 a4, .int .i64 b1, .int .i64 b2, .int .i64 b3, .int .i64 b4]) (by ac_rfl)⟩
 case rest =>
  obtain ⟨rfl, q2⟩ := hcut
  obtain ⟨N9, hN9⟩ : ∃ z, w.heap.size = z := ⟨_, rfl⟩
  rw [hN9] at q2 ⊢
  clear hs1 this hlk hN9 hz4
  haveI := q2.i
  go_wp2_with fail
  with_reducible refine Calls.mono (HRD.out _ _ (takeI (treeP h s))) ?_
  rintro e w1 ⟨s2, hR2, hsp2, hd2', hcase⟩
  have HS2 : Aside (Rdy V m1 s2 ∧ s2.sp = s.sp ∧ s2.ck.d = s.ck.d) := ⟨hR2, hsp2, hd2'⟩
  clear hR2 hsp2 hd2' q2
  rcases hcase with ⟨n, v1, B1, hvn, rfl, hN, q3⟩ | ⟨hvn, rfl, q3⟩
  rotate_left
  · haveI := q3.i
    exact ⟨rfl, s2, K, look_keep h s2 bK bT bL M K F, HS2.out.2.1, HS2.out.2.2, .inr ⟨rfl, chk_gone hvn, HS2.out.1.less (Nat.zero_le _)⟩⟩
  have hmn := HV1.out no n hvn
  have HVN : Aside (V no = some n) := hvn
  have HMN : Aside (may n = true) := hmn
  have hmany := fun F w q => many_any n v1 B1 F w hN q (by have := (SumOk.of hmn).e; omega) (by have := (SumOk.of hmn).k; omega)
  obtain ⟨vE, vK, rfl, hE, hKd⟩ := hN
  obtain ⟨aE, cE, rfl, hE1, hE2⟩ := hE.v
  obtain ⟨aK, cK, rfl, hK1, hK2⟩ := ReadsR.v hKd
  obtain ⟨le, hle⟩ : ∃ k, n.ents.length = k := ⟨_, rfl⟩
  obtain ⟨lk, hlk⟩ : ∃ k, n.kids.length = k := ⟨_, rfl⟩
  obtain ⟨lf, hlf⟩ : ∃ k, n.leaf = k := ⟨_, rfl⟩
  have HE : Aside (ReadsE B1 (.slice aE le cE) n.ents ∧ n.ents.length = le) := ⟨by rw [← hle]; exact hE, hle⟩
  have HKD : Aside (ReadsK B1 (.slice aK n.kids.length cK) n.kids ∧ n.kids.length = lk) := ⟨hKd, hlk⟩
  have HLF : Aside (n.leaf = lf) := hlf
  have hle1 : le ≤ 12 := by have := (SumOk.of hmn).e; omega
  have hlk1 : lk ≤ 12 := by have := (SumOk.of hmn).k; omega
  rw [hle, hlk, hlf] at hmany
  rw [hle] at hE1 ⊢
  rw [hlk] at hK1 ⊢
  rw [hlf]
  have HMA : Aside (∀ (F : Assn) (w : World), Sat (B1 * F) w → Calls Tryz.prog 130 #[.agg #[.bool lf, .slice aE le cE, .slice aK lk cK]] w fun e w' => e = .returned (.int .i64 (many n)) ∧ Sat (B1 * F) w') := hmany
  obtain ⟨mn, hmm⟩ : ∃ z : Nat, many n = z := ⟨_, rfl⟩
  rw [hmm] at HMA
  have HMM : Aside (many n = mn) := hmm
  haveI := q3.i
  clear hvn hmn hmany hE hKd hle hlk hlf hmm
  by_cases hf0 : f = 0
  · have hdp : dp = 13 := by have := HD.out.1; omega
    have HC0 : Aside (chk V f no top = none) := (by rw [hf0]; rfl : _ = _)
    have h12 : decide ((12 : Int) < dp) = true := decide_eq_true (by omega)
    have h12' : (12 : Int) < dp := by omega
    clear hdp hf0
    go_wp2
    exact ⟨rfl, s2, K, look_keep h s2 bK bT bL M K F, HS2.out.2.1, HS2.out.2.2, .inr ⟨rfl, HC0.out, HS2.out.1.less (Nat.zero_le _)⟩⟩
  obtain ⟨g, hg⟩ : ∃ g, f = g + 1 := ⟨f - 1, by omega⟩
  have HG : Aside (f = g + 1) := hg
  have h12 : decide ((12 : Int) < dp) = false := decide_eq_false (by have := HD.out.1; omega)
  have h12' : ¬ (12 : Int) < dp := by have := HD.out.1; omega
  obtain ⟨fw, hfw⟩ : ∃ b, decide (top = false ∧ mn < 4) = b := ⟨_, rfl⟩
  have HFW : Aside (decide (top = false ∧ mn < 4) = fw) := hfw
  clear hfw hg hf0
  go_upto_region 5 with (fail)
  go_cut [45] (fun t45 wx => t45 = .bool fw ∧ Sat (Sl.block w1.heap.size TNd [.bool lf, .slice aE le cE, .slice aK lk cK] * (B1 * (Sl.block N9 TSn [.int .i64 0, .int .i64 0, .int .i64 0, .int .i64 0, .int .i64 0, .int .i64 0, .int .i64 0, .int .i64 0, .int .i64 0, .int .i64 0] * (treeP h s2 * (Sl.block bK TKn [.map (some M)] * (Sl.block bT TTp [.pointer (some ⟨h.t, 0, none⟩)] * (Sl.block bL TLf [.func (Fn.func 128) #[] #[.pointer (some ⟨bK, 0, none⟩), .pointer (some ⟨bT, 0, none⟩), .pointer (some ⟨bL, 0, none⟩)]] * (mp ikey M (kn K) *  F)))))))) wx)
  case first =>
   cases top with
   | true =>
     have hz : fw = false := by rw [← HFW.out]; simp
     subst hz
     go_wp2_with fail
     go_meet
     exact ⟨rfl, satI_eq (by ac_rfl)⟩
   | false =>
     by_cases h4 : mn < 4
     · have hz : fw = true := by rw [← HFW.out]; simp [h4]
       subst hz
       have hf4 : (mn : Int) < 4 := by omega
       have hf4d : decide ((mn : Int) < 4) = true := decide_eq_true hf4
       go_wp2_with (go_at_call 130; with_reducible refine Calls.mono (HMA.out _ _ (takeI B1)) ?_; rintro e w4 ⟨rfl, q4⟩; haveI := q4.i)
       go_meet
       exact ⟨rfl, satI_eq (by ac_rfl)⟩
     · have hz : fw = false := by rw [← HFW.out]; simp [h4]
       subst hz
       have hf4 : ¬ (mn : Int) < 4 := by omega
       have hf4d : decide ((mn : Int) < 4) = false := decide_eq_false hf4
       go_wp2_with (go_at_call 130; with_reducible refine Calls.mono (HMA.out _ _ (takeI B1)) ?_; rintro e w4 ⟨rfl, q4⟩; haveI := q4.i)
       go_meet
       exact ⟨rfl, satI_eq (by ac_rfl)⟩
  case rest =>
   obtain ⟨rfl, q5⟩ := hcut
   obtain ⟨N12, hN12⟩ : ∃ z, w1.heap.size = z := ⟨_, rfl⟩
   rw [hN12] at q5 ⊢
   clear q3 this hN12
   haveI := q5.i
   cases fw with
   | true =>
     have HCN : Aside (chk V f no top = none) := (by
      have h9 := of_decide_eq_true HFW.out
      rw [HG.out]
      exact chk_few HVN.out ⟨h9.1, by rw [HMM.out]; exact h9.2⟩ : _ = _)
     go_wp2
     exact ⟨rfl, s2, K, look_keep h s2 bK bT bL M K F, HS2.out.2.1, HS2.out.2.2, .inr ⟨rfl, HCN.out, HS2.out.1.less (Nat.zero_le _)⟩⟩
   | false =>
     have H4 : Aside (¬ (top = false ∧ many n < 4)) := (by
      have h9 := of_decide_eq_false HFW.out
      rw [HMM.out]
      exact h9 : ¬ _)
     clear HMA HFW
     -- the leaf's own
     obtain ⟨x0, hx0⟩ : ∃ x, (if lf then (⟨0, n.ents.length, n.ents.headD e0, n.ents.getLastD e0⟩ : Sn) else sn0) = x := ⟨_, rfl⟩
     have HX0 : Aside ((if lf then (⟨0, n.ents.length, n.ents.headD e0, n.ents.getLastD e0⟩ : Sn) else sn0) = x0) := hx0
     clear hx0
     have HX1 : Aside (lf = true → Joined n.ents → Chk V no top x0) := (fun h1 h2 => by
      refine ⟨g + 1, ?_⟩
      rw [chk_leaf HVN.out (HLF.out.trans h1) H4.out, if_neg (by rw [join_len.2 h2]; simp), ← HX0.out, if_pos h1] : _ → _ → _)
     obtain ⟨N13, hN13⟩ : ∃ z, wc.heap.size = z := ⟨_, rfl⟩
     have HN13 : Aside (wc.heap.size = N13) := hN13
     clear hN13
     go_upto_if 49 with (fail)
     go_cut [49] (fun t49 wx => (lf = true → Joined n.ents) ∧ Sat (Sl.block wc.heap.size TSn (snC x0) * (Sl.block N12 TNd [.bool lf, .slice aE le cE, .slice aK lk cK] * (B1 * (Sl.block N9 TSn [.int .i64 0, .int .i64 0, .int .i64 0, .int .i64 0, .int .i64 0, .int .i64 0, .int .i64 0, .int .i64 0, .int .i64 0, .int .i64 0] * (treeP h s2 * (Sl.block bK TKn [.map (some M)] * (Sl.block bT TTp [.pointer (some ⟨h.t, 0, none⟩)] * (Sl.block bL TLf [.func (Fn.func 128) #[] #[.pointer (some ⟨bK, 0, none⟩), .pointer (some ⟨bT, 0, none⟩), .pointer (some ⟨bL, 0, none⟩)]] * (mp ikey M (kn K) *  F))))))))) wx)
     case first =>
      cases lf with
      | false =>
        have hx : x0 = sn0 := by rw [← HX0.out]; rfl
        subst hx
        go_wp2_with fail
        go_meet
        exact ⟨fun e => Bool.noConfusion e, satI_eq (by unfold snC; ac_rfl)⟩
      | true =>
        have h9 := HLV.out n HVN.out
        rw [HLF.out] at h9
        cases h9
     case rest =>
      obtain ⟨hjo, q6⟩ := hcut
      have HJO : Aside (lf = true → Joined n.ents) := hjo
      rw [HN13.out] at q6 ⊢
      clear q5 this hjo HN13
      obtain ⟨xh, xc, ⟨x1, x2, x3, x4⟩, ⟨x5, x6, x7, x8⟩⟩ := x0
      unfold snC erow at q6
      simp only [List.cons_append, List.nil_append] at q6
      haveI := q6.i
      go_wp2_with fail
      go_loopg [80] lk (fun gg t80 wr => ∃ (j m3 : Nat) (s3 : TS) (K3 : List (Int × Sn)) (x : Sn), t80 = .int .i64 j ∧ j ≤ lk ∧ Aside (LkI V N f g n lf m1 s K ⟨xh, xc, ⟨x1, x2, x3, x4⟩, ⟨x5, x6, x7, x8⟩⟩ gg lk j m3 s3 K3 x) ∧
       Sat (Sl.block N13 TSn (snC x) * (Sl.block N12 TNd [.bool lf, .slice aE le cE, .slice aK lk cK] * (B1 * (Sl.block N9 TSn [.int .i64 0, .int .i64 0, .int .i64 0, .int .i64 0, .int .i64 0, .int .i64 0, .int .i64 0, .int .i64 0, .int .i64 0, .int .i64 0] * (treeP h s3 * (Sl.block bK TKn [.map (some M)] * (Sl.block bT TTp [.pointer (some ⟨h.t, 0, none⟩)] * (Sl.block bL TLf [.func (Fn.func 128) #[] #[.pointer (some ⟨bK, 0, none⟩), .pointer (some ⟨bT, 0, none⟩), .pointer (some ⟨bL, 0, none⟩)]] * (mp ikey M (kn K3) *  F))))))))) wr)
      case atStart =>
       refine ⟨0, m1, s2, K, _, rfl, by omega, ⟨rfl, HS2.out.1, HS2.out.2.1, HS2.out.2.2, HK.out, by omega, fun e => ?_, fun _ => rfl, fun q hq => .inl hq, fun _ => rfl, ?_, ?_, fun e => by omega⟩, q6⟩
       · rw [← HX0.out, e]
         exact Run.zero g n
       · rw [← HX0.out]
         cases lf with
         | true => simp only [if_true]; have := HE.out.2; omega
         | false => exact ⟨by simp [sn0], by simp [sn0]⟩
       · rw [← HX0.out]
         cases lf with
         | true => exact ⟨by simp, by simp⟩
         | false => exact ⟨by simp [sn0], by simp [sn0]⟩
      case round =>
       obtain ⟨j, m3, s3, K3, x, rfl, hj, A, q7⟩ := hrel
       clear q6
       obtain ⟨zh, zc, ⟨z1, z2, z3, z4⟩, ⟨z5, z6, z7, z8⟩⟩ := x
       unfold snC erow at q7
       simp only [List.cons_append, List.nil_append] at q7
       haveI := q7.i
       by_cases hlt : j < lk
       · have hlt' : (j : Int) < lk := by omega
         have hlf : lf = false := by
          cases lf with
          | false => rfl
          | true =>
            have := (may_leaf HMN.out HLF.out).1
            have h9 := HKD.out.2
            rw [this] at h9
            simp at h9
            omega
         subst hlf
         obtain ⟨k, hk⟩ : ∃ k, n.kids[j]? = some k := ⟨_, List.getElem?_eq_getElem (by rw [HKD.out.2]; exact hlt)⟩
         obtain ⟨kb, ko, e9, r1, r2, r3, r4⟩ := readsK_at (a := aK) (c := cK) (by have := HKD.out.1; exact this) hk
         subst e9
         have HKJ : Aside (n.kids[j]? = some k) := hk
         have hmk := mayK_facts ((may_inner HMN.out HLF.out).2.1 k (List.mem_of_getElem? hk))
         have HMK : Aside (mayKid k = true) := (may_inner HMN.out HLF.out).2.1 k (List.mem_of_getElem? hk)
         have hbud := A.out.bud
         have hm0 := HM.out.1
         have hrec := HIH.out g HG.out V N h s3 m3 K3 k.page false bK bT bL M
         have HREC : Aside (∀ (F : Assn) (w : World), Sat (treeP h s3 * (lookA bK bT bL M h K3 * F)) w → Calls Tryz.prog 128 #[.int .i64 k.page, .bool false, .int .i64 (dp + 1), .pointer (some ⟨bK, 0, none⟩), .pointer (some ⟨bT, 0, none⟩), .pointer (some ⟨bL, 0, none⟩)] w (LookOut V N h bK bT bL M g m3 s3 K3 k.page false F)) := fun F w q => by
          have h9 := hrec F w (by have := HD.out.2; rw [HG.out] at this; omega) (by omega) A.out.kn HV.out A.out.rdy (by rw [HM1.out, HG.out] at hm0; omega) q
          have e8 : dp + 1 = 13 - (g : Int) := by have := HD.out.1; rw [HG.out] at this; omega
          rw [e8]
          exact h9
         have HBUD : Aside (m1 + 13 * fr N K3 ≤ m3 + j + 13 * fr N K ∧ 13 * fr N K + 13 * (f + 1) ≤ m) := ⟨hbud, hm0⟩
         obtain ⟨k1, k2, k3, k4⟩ := k
         simp only at r1 r2 r3 r4 HREC
         clear hk hmk hbud hm0 hrec
         go_wp2_with fail
         with_reducible refine Calls.mono (HREC.out _ _ (look_take h s3 bK bT bL M K3)) ?_
         rintro e w4 ⟨s4, K4, q8, hsp4, hd4, hcase⟩
         have HS4 : Aside (s4.sp = s.sp ∧ s4.ck.d = s.ck.d) := ⟨hsp4.trans A.out.sp, hd4.trans A.out.d⟩
         have q9 := q8.eq (look_open h s4 bK bT bL M K4 _)
         haveI := q9.i
         clear hsp4 hd4 q7
         rcases hcase with ⟨y, m4, rfl, hchk, hhy, hk4, hn4, hr4, hb4⟩ | ⟨rfl, hcn, hr4⟩
         rotate_left
         · have HCN : Aside (chk V f no top = none) := (by
            rw [HG.out]
            exact chk_none HVN.out HLF.out ((A.out.run rfl).fall HKJ.out hcn) : _ = _)
           exact ⟨rfl, s4, K4, look_keep h s4 bK bT bL M K4 F, HS4.out.1, HS4.out.2, .inr ⟨rfl, HCN.out, hr4⟩⟩
         have hlo := hchk.low HV1.out
         have HCH : Aside (Chk V k1 false y ∧ (K3 = [] → y.h < g) ∧ KnOk V K4 ∧ Rdy V m4 s4 ∧ m3 + 13 * fr N K4 ≤ m4 + 13 * fr N K3) := ⟨hchk, hhy, hk4, hr4, by simpa using hb4⟩
         have HNW : Aside (∀ q ∈ K4, q ∈ K3 ∨ q.2.h ≤ y.h) := hn4
         obtain ⟨nk, hnk⟩ := hchk.is
         obtain ⟨m5, hm5⟩ : ∃ m5, m4 = m5 + 1 := ⟨m4 - 1, by
          have := HBUD.out
          have h9 := HCH.out.2.2.2.2
          have hg9 := HG.out
          have h8 := HM1.out
          omega⟩
         have hk10 : k1 ≠ 0 := by have := mayK_facts HMK.out; simp only at this; omega
         have hrd5 := fun F w q => rd_call h V m5 s4 k1 F w (by rw [← hm5]; exact hr4) hk10 q
         have HRD5 : Aside (∀ F w, Sat (treeP h s4 * F) w → Calls Tryz.prog 129 #[.pointer (some ⟨h.t, 0, none⟩), .int .i64 k1] w (RdEnds h V m5 s4 k1 F)) := hrd5
         have HM5 : Aside (m4 = m5 + 1) := hm5
         have HNK : Aside (V k1 = some nk) := hnk
         have HLO : Aside (Low y) := hlo
         have hy1 := hlo.c1
         have hy2 := hlo.c2
         have hy3 := hlo.h1
         have hy0 := hlo.h0
         obtain ⟨yh, yc, ⟨y1, y2, y3, y4⟩, ⟨y5, y6, y7, y8⟩⟩ := y
         simp only at hy1 hy2 hy3 hy0
         have hwh : IntKind.i64.wrap (yh + 1) = yh + 1 := IntWalk.i64_in _ (by omega)
         have hcn := A.out.cnt
         have hgt := A.out.hgt
         simp only at hcn hgt
         have hwc : IntKind.i64.wrap (zc + yc) = zc + yc := IntWalk.i64_in _ (by omega)
         unfold snV
         simp only
         clear hchk hhy hk4 hn4 hr4 hb4 hnk hm5 hrd5 hlo hk10 q8
         go_wp2_with fail
         with_reducible refine Calls.mono (HRD5.out _ _ (takeI (treeP h s4))) ?_
         rintro e w5 ⟨s5, hR5, hsp5, hd5, hcase⟩
         rcases hcase with ⟨n5, v5, B5, hv5, rfl, hN5, q10⟩ | ⟨hv5, rfl, q10⟩
         rotate_left
         · rw [HNK.out] at hv5
           cases hv5
         have hn5 : n5 = nk := by rw [HNK.out] at hv5; cases hv5; rfl
         subst hn5
         have HS5 : Aside (Rdy V m5 s5 ∧ s5.sp = s.sp ∧ s5.ck.d = s.ck.d) := ⟨hR5, hsp5.trans HS4.out.1, hd5.trans HS4.out.2⟩
         have hmn5 := HV1.out k1 n5 HNK.out
         have hsm := fun F w q => ndSum_any n5 v5 B5 F w hN5 q (by have := (SumOk.of hmn5).e; omega) (by have := (SumOk.of hmn5).k; omega)
         obtain ⟨⟨t1, t2, t3⟩, hts⟩ : ∃ r, ndSum n5 = r := ⟨_, rfl⟩
         have HTS : Aside (ndSum (nodeOr V k1) = (t1, t2, t3)) := (by unfold nodeOr; rw [HNK.out]; exact hts : _ = _)
         rw [hts] at hsm
         simp only at hsm
         have HSM : Aside (∀ (F : Assn) (w : World), Sat (B5 * F) w → Calls Tryz.prog 131 #[v5] w fun e w' => e = .returned (.tuple #[.int .i64 t1, .int .i64 t2, .int .i64 t3]) ∧ Sat (B5 * F) w') := hsm
         haveI := q10.i
         clear hR5 hsp5 hd5 hv5 hN5 hmn5 hsm hts q9
         go_wp2_with fail
         with_reducible refine Calls.mono (HSM.out _ _ (takeI B5)) ?_
         rintro e w6 ⟨rfl, q11⟩
         haveI := q11.i
         clear q10 HSM
         have q12 : Sat (Sl.block N13 TSn [.int .i64 zh, .int .i64 zc, .int .i64 z1, .int .i64 z2, .int .i64 z3, .int .i64 z4, .int .i64 z5, .int .i64 z6, .int .i64 z7, .int .i64 z8] * (Sl.block w4.heap.size TSn [.int .i64 yh, .int .i64 yc, .int .i64 y1, .int .i64 y2, .int .i64 y3, .int .i64 y4, .int .i64 y5, .int .i64 y6, .int .i64 y7, .int .i64 y8] * (Sl.block N12 TNd [.bool false, .slice aE le cE, .slice (some ⟨kb, ko, none⟩) lk cK] * (B1 * (Sl.block N9 TSn [.int .i64 0, .int .i64 0, .int .i64 0, .int .i64 0, .int .i64 0, .int .i64 0, .int .i64 0, .int .i64 0, .int .i64 0, .int .i64 0] * (treeP h s5 * (Sl.block bK TKn [.map (some M)] * (Sl.block bT TTp [.pointer (some ⟨h.t, 0, none⟩)] * (Sl.block bL TLf [.func (Fn.func 128) #[] #[.pointer (some ⟨bK, 0, none⟩), .pointer (some ⟨bT, 0, none⟩), .pointer (some ⟨bL, 0, none⟩)]] * (mp ikey M (kn K4) *  F)))))))))) w6 := satI_weak (C := B5 * Sl.block wr.heap.size 141 [.int .i64 k1, .int .i64 k2, .int .i64 k3, .int .i64 k4]) (by ac_rfl)
         obtain ⟨ms, hms⟩ : ∃ b, meets ⟨z5, z6, z7, z8⟩ ⟨y1, y2, y3, y4⟩ = b := ⟨_, rfl⟩
         have HMS : Aside (meets ⟨z5, z6, z7, z8⟩ ⟨y1, y2, y3, y4⟩ = ms) := hms
         obtain ⟨bd, hbd⟩ : ∃ b, decide (t1 ≠ k2 ∨ t2 ≠ k3 ∨ t3 ≠ k4 ∨ ((j == 0) = false ∧ (yh + 1 ≠ zh ∨ ms = true))) = b := ⟨_, rfl⟩
         have HBD : Aside (decide (t1 ≠ k2 ∨ t2 ≠ k3 ∨ t3 ≠ k4 ∨ ((j == 0) = false ∧ (yh + 1 ≠ zh ∨ ms = true))) = bd) := hbd
         have HJ2 : Aside (0 < j → ∀ (b b2 : Nat) (F : Assn) (w : World), Sat (Sl.block b2 29 [.slice (some ⟨b, 0, none⟩) 2 2] * (Sl.block b TEn [.int .i64 z5, .int .i64 z6, .int .i64 z7, .int .i64 z8, .int .i64 y1, .int .i64 y2, .int .i64 y3, .int .i64 y4] * F)) w → Calls Tryz.prog 80 #[.slice (some ⟨b2, 0, none⟩) 1 1] w fun e w' => ∃ a c G, e = .returned (.slice a (if ms then 1 else 2) c) ∧ Sat (G * F) w') := fun hj0 b b2 F w q => by
          have h8 := (A.out.low hj0).1
          have h7 := HLO.out.first
          rw [← hms]
          exact join_two_call _ _ b b2 F w h8 h7 q
         clear hms hbd
         go_upto_region 17 with (fail)
         go_cut [138] (fun t138 wx => t138 = .bool bd ∧ Sat (Sl.block N13 TSn [.int .i64 zh, .int .i64 zc, .int .i64 z1, .int .i64 z2, .int .i64 z3, .int .i64 z4, .int .i64 z5, .int .i64 z6, .int .i64 z7, .int .i64 z8] * (Sl.block w4.heap.size TSn [.int .i64 yh, .int .i64 yc, .int .i64 y1, .int .i64 y2, .int .i64 y3, .int .i64 y4, .int .i64 y5, .int .i64 y6, .int .i64 y7, .int .i64 y8] * (Sl.block N12 TNd [.bool false, .slice aE le cE, .slice (some ⟨kb, ko, none⟩) lk cK] * (B1 * (Sl.block N9 TSn [.int .i64 0, .int .i64 0, .int .i64 0, .int .i64 0, .int .i64 0, .int .i64 0, .int .i64 0, .int .i64 0, .int .i64 0, .int .i64 0] * (treeP h s5 * (Sl.block bK TKn [.map (some M)] * (Sl.block bT TTp [.pointer (some ⟨h.t, 0, none⟩)] * (Sl.block bL TLf [.func (Fn.func 128) #[] #[.pointer (some ⟨bK, 0, none⟩), .pointer (some ⟨bT, 0, none⟩), .pointer (some ⟨bL, 0, none⟩)]] * (mp ikey M (kn K4) *  F)))))))))) wx)
         case first =>
          cases e2 : (t1 != k2) with
          | true =>
            have hz : bd = true := by
             have c2 : t1 ≠ k2 := by simpa using e2
             rw [← HBD.out]
             simp [*]
            subst hz
            go_wp2_with fail
            go_meet
            exact ⟨rfl, q12⟩
          | false =>
            cases e3 : (t2 != k3) with
            | true =>
              have hz : bd = true := by
               have c3 : t2 ≠ k3 := by simpa using e3
               rw [← HBD.out]
               simp [*]
              subst hz
              go_wp2_with fail
              go_meet
              exact ⟨rfl, q12⟩
            | false =>
              cases e4 : (t3 != k4) with
              | true =>
                have hz : bd = true := by
                 have c4 : t3 ≠ k4 := by simpa using e4
                 rw [← HBD.out]
                 simp [*]
                subst hz
                go_wp2_with fail
                go_meet
                exact ⟨rfl, q12⟩
              | false =>
                by_cases c5 : j = 0
                · have hj0 : (j : Int) = 0 := by omega
                  have hjd : decide ((0 : Int) < (j : Int)) = false := decide_eq_false (by omega)
                  have hz : bd = false := by
                   clear hj0 hjd
                   have c2 : t1 = k2 := by simpa using e2
                   have c3 : t2 = k3 := by simpa using e3
                   have c4 : t3 = k4 := by simpa using e4
                   rw [← HBD.out]
                   simp [*]
                  subst hz
                  go_wp2_with fail
                  go_meet
                  exact ⟨rfl, q12⟩
                · have hjp : (0 : Int) < j := by omega
                  have hj0 : 0 < j := by omega
                  have hjd : decide ((0 : Int) < (j : Int)) = true := decide_eq_true hjp
                  cases e6 : (yh + 1 != zh) with
                  | true =>
                    have hz : bd = true := by
                     clear hjp hjd
                     have c6 : yh + 1 ≠ zh := by simpa using e6
                     rw [← HBD.out]
                     simp [*]
                    subst hz
                    go_wp2_with fail
                    go_meet
                    exact ⟨rfl, q12⟩
                  | false =>
                    cases ms with
                    | true =>
                      simp only [if_true] at HJ2
                      have hz : bd = true := by
                       clear hjp hjd
                       have c6 : yh + 1 = zh := by simpa using e6
                       rw [← HBD.out]
                       simp [*]
                      subst hz
                      go_wp2_with (go_at_call 80; with_reducible refine Calls.mono (HJ2.out hj0 w6.heap.size (w6.heap.size + 1) _ _ (takeI2 (Sl.block (w6.heap.size + 1) 29 [.slice (some ⟨w6.heap.size, 0, none⟩) 2 2]) (Sl.block w6.heap.size TEn [.int .i64 z5, .int .i64 z6, .int .i64 z7, .int .i64 z8, .int .i64 y1, .int .i64 y2, .int .i64 y3, .int .i64 y4]))) ?_; rintro e w7 ⟨a7, c7, G7, rfl, q13⟩; haveI := q13.i)
                      go_meet
                      exact ⟨rfl, satI_weak (C := G7 * (B5 * Sl.block wr.heap.size 141 [.int .i64 k1, .int .i64 k2, .int .i64 k3, .int .i64 k4])) (by ac_rfl)⟩
                    | false =>
                      simp only [Bool.false_eq_true, if_false] at HJ2
                      have hz : bd = false := by
                       clear hjp hjd
                       have c2 : t1 = k2 := by simpa using e2
                       have c3 : t2 = k3 := by simpa using e3
                       have c4 : t3 = k4 := by simpa using e4
                       have c6 : yh + 1 = zh := by simpa using e6
                       rw [← HBD.out]
                       simp [*]
                      subst hz
                      go_wp2_with (go_at_call 80; with_reducible refine Calls.mono (HJ2.out hj0 w6.heap.size (w6.heap.size + 1) _ _ (takeI2 (Sl.block (w6.heap.size + 1) 29 [.slice (some ⟨w6.heap.size, 0, none⟩) 2 2]) (Sl.block w6.heap.size TEn [.int .i64 z5, .int .i64 z6, .int .i64 z7, .int .i64 z8, .int .i64 y1, .int .i64 y2, .int .i64 y3, .int .i64 y4]))) ?_; rintro e w7 ⟨a7, c7, G7, rfl, q13⟩; haveI := q13.i)
                      go_meet
                      exact ⟨rfl, satI_weak (C := G7 * (B5 * Sl.block wr.heap.size 141 [.int .i64 k1, .int .i64 k2, .int .i64 k3, .int .i64 k4])) (by ac_rfl)⟩
         case rest =>
          obtain ⟨rfl, q14⟩ := hcut
          obtain ⟨N16, hN16⟩ : ∃ z, w4.heap.size = z := ⟨_, rfl⟩
          rw [hN16] at q14 ⊢
          clear q11 q12 this hN16 HJ2
          haveI := q14.i
          cases bd with
          | true =>
            have HCN : Aside (chk V f no top = none) := (by
             rw [HG.out]
             refine chk_none HVN.out HLF.out ((A.out.run rfl).unfit HV1.out HKJ.out HCH.out.1 (cKid_unfit ?_))
             rw [HTS.out]
             simp only
             rw [HMS.out]
             exact of_decide_eq_true HBD.out : _ = _)
            go_wp2
            exact ⟨rfl, s5, K4, look_keep h s5 bK bT bL M K4 F, HS5.out.2.1, HS5.out.2.2, .inr ⟨rfl, HCN.out, HS5.out.1.less (Nat.zero_le _)⟩⟩
          | false =>
            have hfit := cKid_fit (y := ⟨yh, yc, ⟨y1, y2, y3, y4⟩, ⟨y5, y6, y7, y8⟩⟩) (x := ⟨zh, zc, ⟨z1, z2, z3, z4⟩, ⟨z5, z6, z7, z8⟩⟩) (s := ndSum (nodeOr V k1)) (first := j == 0) (k := ⟨k1, k2, k3, k4⟩) (by
             rw [HTS.out]
             simp only
             rw [HMS.out]
             exact of_decide_eq_false HBD.out)
            simp only at hfit
            obtain ⟨⟨f1, f2, f3, f4⟩, hff⟩ : ∃ e : Ent, (if (j == 0) = true then (⟨y1, y2, y3, y4⟩ : Ent) else ⟨z1, z2, z3, z4⟩) = e := ⟨_, rfl⟩
            rw [hff] at hfit
            have HFIT : Aside (((j == 0) = false → yh + 1 = zh) ∧ (1024 < zc + yc → cKid ⟨yh, yc, ⟨y1, y2, y3, y4⟩, ⟨y5, y6, y7, y8⟩⟩ (ndSum (nodeOr V k1)) (j == 0) ⟨k1, k2, k3, k4⟩ ⟨zh, zc, ⟨z1, z2, z3, z4⟩, ⟨z5, z6, z7, z8⟩⟩ = none) ∧ (¬ 1024 < zc + yc → cKid ⟨yh, yc, ⟨y1, y2, y3, y4⟩, ⟨y5, y6, y7, y8⟩⟩ (ndSum (nodeOr V k1)) (j == 0) ⟨k1, k2, k3, k4⟩ ⟨zh, zc, ⟨z1, z2, z3, z4⟩, ⟨z5, z6, z7, z8⟩⟩ = some ⟨yh + 1, zc + yc, ⟨f1, f2, f3, f4⟩, ⟨y5, y6, y7, y8⟩⟩)) := hfit
            have HFF : Aside ((if (j == 0) = true then (⟨y1, y2, y3, y4⟩ : Ent) else ⟨z1, z2, z3, z4⟩) = ⟨f1, f2, f3, f4⟩) := hff
            clear hfit hff
            go_upto_if 142 with (fail)
            go_cut [142] (fun t142 wx => Sat (Sl.block N13 TSn [.int .i64 (yh + 1), .int .i64 zc, .int .i64 f1, .int .i64 f2, .int .i64 f3, .int .i64 f4, .int .i64 z5, .int .i64 z6, .int .i64 z7, .int .i64 z8] * (Sl.block N16 TSn [.int .i64 yh, .int .i64 yc, .int .i64 y1, .int .i64 y2, .int .i64 y3, .int .i64 y4, .int .i64 y5, .int .i64 y6, .int .i64 y7, .int .i64 y8] * (Sl.block N12 TNd [.bool false, .slice aE le cE, .slice (some ⟨kb, ko, none⟩) lk cK] * (B1 * (Sl.block N9 TSn [.int .i64 0, .int .i64 0, .int .i64 0, .int .i64 0, .int .i64 0, .int .i64 0, .int .i64 0, .int .i64 0, .int .i64 0, .int .i64 0] * (treeP h s5 * (Sl.block bK TKn [.map (some M)] * (Sl.block bT TTp [.pointer (some ⟨h.t, 0, none⟩)] * (Sl.block bL TLf [.func (Fn.func 128) #[] #[.pointer (some ⟨bK, 0, none⟩), .pointer (some ⟨bT, 0, none⟩), .pointer (some ⟨bL, 0, none⟩)]] * (mp ikey M (kn K4) *  F)))))))))) wx)
            case first =>
             by_cases c5 : j = 0
             · have e5 : ((j : Int) == 0) = true := by simp [c5]
               have h9 : (⟨y1, y2, y3, y4⟩ : Ent) = ⟨f1, f2, f3, f4⟩ := by rw [← HFF.out, if_pos (by simp [c5])]
               cases h9
               clear c5
               go_upto_region 20 with (fail)
               go_region
               go_wp2_with fail
               go_meet
               exact satI_eq (by ac_rfl)
             · have e5 : ((j : Int) == 0) = false := by simp [c5]
               have h9 : (⟨z1, z2, z3, z4⟩ : Ent) = ⟨f1, f2, f3, f4⟩ := by rw [← HFF.out, if_neg (by simp [c5])]
               have h8 : yh + 1 = zh := HFIT.out.1 (by simp [c5])
               have H8 : Aside (yh + 1 = zh) := h8
               cases h9
               clear c5 h8
               go_wp2_with fail
               go_meet
               rw [H8.out]
               exact satI_eq (by ac_rfl)
            case rest =>
             have q15 := hcut
             clear q14 this
             haveI := q15.i
             by_cases hbig : 1024 < zc + yc
             · have HCN : Aside (chk V f no top = none) := (by
                rw [HG.out]
                exact chk_none HVN.out HLF.out ((A.out.run rfl).unfit HV1.out HKJ.out HCH.out.1 (HFIT.out.2.1 hbig)) : _ = _)
               have hb1 : decide ((1024 : Int) < zc + yc) = true := decide_eq_true hbig
               go_wp2
               exact ⟨rfl, s5, K4, look_keep h s5 bK bT bL M K4 F, HS5.out.2.1, HS5.out.2.2, .inr ⟨rfl, HCN.out, HS5.out.1.less (Nat.zero_le _)⟩⟩
             · have hb1 : decide ((1024 : Int) < zc + yc) = false := decide_eq_false hbig
               have HLI : Aside (LkI V N f g n false m1 s K ⟨xh, xc, ⟨x1, x2, x3, x4⟩, ⟨x5, x6, x7, x8⟩⟩ (lk - (j + 1)) lk (j + 1) m5 s5 K4 ⟨yh + 1, zc + yc, ⟨f1, f2, f3, f4⟩, ⟨y5, y6, y7, y8⟩⟩) := (by
                have hB := HBUD.out.1
                have hC := HCH.out.2.2.2.2
                have hM := HM5.out
                refine ⟨rfl, HS5.out.1, HS5.out.2.1, HS5.out.2.2, HCH.out.2.2.1, by omega, fun _ => (A.out.run rfl).next HV1.out HKJ.out HCH.out.1 (HFIT.out.2.2 hbig), fun e => by omega, fun q hq => ?_, fun e => by omega, ?_, ?_, fun _ => ⟨HLO.out.last, fun e => ?_⟩⟩
                · rcases HNW.out q hq with h9 | h9
                  · rcases A.out.newk q h9 with h8 | h8
                    · exact .inl h8
                    · by_cases c5 : j = 0
                      · rw [A.out.k0 c5] at h9
                        exact .inl h9
                      · have h7 := HFIT.out.1 (by simp [c5])
                        simp only at h8 ⊢
                        exact .inr (by omega)
                  · simp only at h9 ⊢
                    exact .inr (by omega)
                · simp only; omega
                · simp only; omega
                · by_cases c5 : j = 0
                  · have h9 := HCH.out.2.1 (by rw [A.out.k0 c5]; exact e)
                    have := HG.out
                    simp only at h9 ⊢
                    omega
                  · have h7 := HFIT.out.1 (by simp [c5])
                    have h9 := (A.out.low (by omega)).2 e
                    simp only at h9 ⊢
                    omega : LkI _ _ _ _ _ _ _ _ _ _ _ _ _ _ _ _ _)
               go_wp2_with fail
               go_roundg (lk - (j + 1))
               case measure => have := A.out.meas; omega
               case rel =>
                exact ⟨j + 1, m5, s5, K4, _, by go_num, by omega, HLI, satI_weak (C := Sl.block N16 TSn [.int .i64 yh, .int .i64 yc, .int .i64 y1, .int .i64 y2, .int .i64 y3, .int .i64 y4, .int .i64 y5, .int .i64 y6, .int .i64 y7, .int .i64 y8]) (by unfold snC erow; ac_rfl)⟩
       · have hlt' : ¬ (j : Int) < lk := by omega
         obtain rfl : j = lk := by omega
         have HC : Aside (Chk V no top ⟨zh, zc, ⟨z1, z2, z3, z4⟩, ⟨z5, z6, z7, z8⟩⟩) := (by
          cases lf with
          | true =>
            have h9 := (may_leaf HMN.out HLF.out).1
            have h8 := HKD.out.2
            rw [h9] at h8
            rw [A.out.zero h8.symm]
            exact HX1.out rfl (HJO.out rfl)
          | false =>
            have h9 := A.out.run rfl
            rw [← HKD.out.2] at h9
            exact h9.done HVN.out HLF.out H4.out : Chk _ _ _ _)
         have hno0 : 0 ≤ no ∧ no < N := ⟨by
          have h9 := (HV.out no n HVN.out).2
          rcases Int.lt_or_le no 0 with h8 | h8
          · have : V no = none := A.out.rdy.out (by omega)
            rw [HVN.out] at this
            cases this
          · exact h8, (HV.out no n HVN.out).2⟩
         have HNO : Aside (0 ≤ no ∧ no < N) := hno0
         clear hno0
         have HLH : Aside (K = [] → zh < f) := (fun e => by
          by_cases c5 : j = 0
          · have h9 := A.out.zero c5
            have hG := HG.out
            have h7 := HX0.out
            rw [← h9] at h7
            cases lf with
            | true =>
              simp only [if_true] at h7
              have h6 := congrArg Sn.h h7
              simp only at h6
              omega
            | false =>
              have h6 := congrArg Sn.h h7
              have : (if false = true then (⟨0, n.ents.length, n.ents.headD e0, n.ents.getLastD e0⟩ : Sn) else sn0).h = 0 := rfl
              rw [this] at h6
              simp only at h6
              omega
          · exact (A.out.low (by omega)).2 e : _ → _)
         have HNK2 : Aside (top = false → kget no K3 = none) := (fun e => by
          cases hq : kget no K3 with
          | none => rfl
          | some z =>
            exfalso
            have h9 := kget_mem hq
            rcases A.out.newk _ h9 with h8 | h8
            · have h7 := HZ.out e
              have : ∀ (K : List (Int × Sn)), (no, z) ∈ K → kget no K ≠ none := fun K hK h6 => by
               have h5 := hasK_get (i := no.toNat) h6 (by have := HNO.out.1; omega)
               unfold hasK at h5
               rw [List.any_eq_false] at h5
               have := h5 _ hK
               simp at this
               have := HNO.out.1
               omega
              exact this K h8 h7
            · have h6 := A.out.kn.get hq
              obtain ⟨q1, q2⟩ := id HC.out
              rw [e] at q2
              have h5 := h6.of HV1.out q2
              rw [← h5] at h8
              simp only at h8
              omega : _ → _)
         have HBJ : Aside (m1 + 13 * fr N K3 ≤ m3 + j + 13 * fr N K ∧ m = m1 + 1 ∧ j ≤ 12) := ⟨A.out.bud, HM1.out, hlk1⟩
         have HA : Aside (KnOk V K3 ∧ Rdy V m3 s3 ∧ s3.sp = s.sp ∧ s3.ck.d = s.ck.d ∧ ∀ q ∈ K3, q ∈ K ∨ q.2.h + 1 ≤ zh) := ⟨A.out.kn, A.out.rdy, A.out.sp, A.out.d, A.out.newk⟩
         clear A
         cases top with
         | true =>
           go_wp2
           go_returns
           have q8 := store10 (w := wr) (b := N9) (e := TSn) (c0 := .int .i64 0) (c1 := .int .i64 0) (c2 := .int .i64 0) (c3 := .int .i64 0) (c4 := .int .i64 0) (c5 := .int .i64 0) (c6 := .int .i64 0) (c7 := .int .i64 0) (c8 := .int .i64 0) (c9 := .int .i64 0) (v0 := .int .i64 zh) (v1 := .int .i64 zc) (v2 := .int .i64 z1) (v3 := .int .i64 z2) (v4 := .int .i64 z3) (v5 := .int .i64 z4) (v6 := .int .i64 z5) (v7 := .int .i64 z6) (v8 := .int .i64 z7) (v9 := .int .i64 z8)
           haveI := q8.i
           refine ⟨s3, K3, look_keep h s3 bK bT bL M K3 F, HA.out.2.2.1, HA.out.2.2.2.1, .inl ⟨⟨zh, zc, ⟨z1, z2, z3, z4⟩, ⟨z5, z6, z7, z8⟩⟩, m3, rfl, HC.out, HLH.out, HA.out.1, fun q hq => (HA.out.2.2.2.2 q hq).imp id fun h9 => ?_, HA.out.2.1, ?_⟩⟩
           · simp only; omega
           · have := HBJ.out; simp only [if_true]; omega
         | false =>
           go_wp2
           go_returns
           have q8 := store10 (w := putW Tryz.prog TKn M (ikey no) (.agg #[.int .i64 zh, .int .i64 zc, .int .i64 z1, .int .i64 z2, .int .i64 z3, .int .i64 z4, .int .i64 z5, .int .i64 z6, .int .i64 z7, .int .i64 z8]) wr) (b := N9) (e := TSn) (c0 := .int .i64 0) (c1 := .int .i64 0) (c2 := .int .i64 0) (c3 := .int .i64 0) (c4 := .int .i64 0) (c5 := .int .i64 0) (c6 := .int .i64 0) (c7 := .int .i64 0) (c8 := .int .i64 0) (c9 := .int .i64 0) (v0 := .int .i64 zh) (v1 := .int .i64 zc) (v2 := .int .i64 z1) (v3 := .int .i64 z2) (v4 := .int .i64 z3) (v5 := .int .i64 z4) (v6 := .int .i64 z5) (v7 := .int .i64 z6) (v8 := .int .i64 z7) (v9 := .int .i64 z8)
           haveI := q8.i
           have hfr := fr_put (y := ⟨zh, zc, ⟨z1, z2, z3, z4⟩, ⟨z5, z6, z7, z8⟩⟩) (HNK2.out (by simp)) HNO.out.1 HNO.out.2
           refine ⟨s3, kput no ⟨zh, zc, ⟨z1, z2, z3, z4⟩, ⟨z5, z6, z7, z8⟩⟩ K3, ?_, HA.out.2.2.1, HA.out.2.2.2.1, .inl ⟨⟨zh, zc, ⟨z1, z2, z3, z4⟩, ⟨z5, z6, z7, z8⟩⟩, m3, rfl, HC.out, HLH.out, HA.out.1.put HC.out, fun q hq => ?_, HA.out.2.1, ?_⟩⟩
           · exact (keep6 (treeP h s3) (Sl.block bK TKn [.map (some M)]) (Sl.block bT TTp [.pointer (some ⟨h.t, 0, none⟩)]) (Sl.block bL TLf [.func (Fn.func 128) #[] #[.pointer (some ⟨bK, 0, none⟩), .pointer (some ⟨bT, 0, none⟩), .pointer (some ⟨bL, 0, none⟩)]]) (mp ikey M (mput no (.agg #[.int .i64 zh, .int .i64 zc, .int .i64 z1, .int .i64 z2, .int .i64 z3, .int .i64 z4, .int .i64 z5, .int .i64 z6, .int .i64 z7, .int .i64 z8]) (kn K3))) F).eq (by rw [look_open, ← mput_kn]; rfl)
           · rcases kput_mem hq with e | e
             · rw [e]; simp only; exact .inr (Int.le_refl _)
             · exact (HA.out.2.2.2.2 q e).imp id fun h9 => by simp only; omega
           · have := HBJ.out; simp only [Bool.false_eq_true, if_false]; omega
end Go.Proofs.YtfhbmblbidcmmaaGreat
namespace Go.Proofs.YtfhbmblbidcmmaaGreat
set_option linter.unusedSimpArgs false
set_option linter.unusedVariables false
open Go.RowKit Go.Sl Go.Dk Go.Tr
open Go.Lru (ikey)
attribute [local go_sem ↓] Go.wp_at_zero Go.wp_at_succ
attribute [local go_sem] Go.Sl.cell_sat Go.Sl.frozen_sat put_Kn
variable [TopN]
set_option maxRecDepth 100000 in
set_option maxHeartbeats 12800000 in
theorem look_leaf (f : Nat) (ih : ∀ g, f = g + 1 → LookC g) : LookL f true := by
 intro V N h s m K no top bK bT bL M F w hLV hf hno hK hV hR hm hs
 have HLV : Aside (∀ n, V no = some n → n.leaf = true) := hLV
 clear hLV
 by_cases hhit : top = false ∧ ∃ y, kget no K = some y
 · obtain ⟨rfl, y, hy⟩ := hhit
   exact look_hit f V N h s m K no bK bT bL M F w hK hR y hy hs
 have HK : Aside (KnOk V K) := hK
 have HV : Aside (∀ p n, V p = some n → may n = true ∧ p < N) := hV
 have HV1 : Aside (∀ p n, V p = some n → may n = true) := fun p n h => (hV p n h).1
 have HM : Aside (13 * fr N K + 13 * (f + 1) ≤ m ∧ no ≠ 0) := ⟨hm, hno⟩
 have HIH : Aside (∀ g, f = g + 1 → LookC g) := ih
 have HH : Aside (¬ (top = false ∧ ∃ y, kget no K = some y)) := hhit
 obtain ⟨m1, hm1⟩ : ∃ m1, m = m1 + 1 := ⟨m - 1, by omega⟩
 have HM1 : Aside (m = m1 + 1) := hm1
 have hrd := rd_call h V m1 s no
 have HRD : Aside (∀ F w, Sat (treeP h s * F) w → Calls Tryz.prog 129 #[.pointer (some ⟨h.t, 0, none⟩), .int .i64 no] w (RdEnds h V m1 s no F)) := fun F w q => hrd F w (by rw [← hm1]; exact hR) hno q
 obtain ⟨dp, hdp⟩ : ∃ d, (13 : Int) - (f : Int) = d := ⟨_, rfl⟩
 have HD : Aside (dp = 13 - (f : Int) ∧ f ≤ 13) := ⟨hdp.symm, hf⟩
 have hd0 : 0 ≤ dp ∧ dp ≤ 13 := by omega
 rw [hdp]
 obtain ⟨hd1, hd2⟩ := hd0
 have hwd : IntKind.i64.wrap (dp + 1) = dp + 1 := IntWalk.i64_in _ (by omega)
 unfold lookA at hs
 have hs1 : Sat (treeP h s * (Sl.block bK TKn [.map (some M)] * (Sl.block bT TTp [.pointer (some ⟨h.t, 0, none⟩)] * (Sl.block bL TLf [.func (Fn.func 128) #[] #[.pointer (some ⟨bK, 0, none⟩), .pointer (some ⟨bT, 0, none⟩), .pointer (some ⟨bL, 0, none⟩)]] * (mp ikey M (kn K) *  F))))) w := hs.eq (by ac_rfl)
 obtain ⟨z, ok, hz1, hz2, hz3⟩ : ∃ (z : Sn) (ok : Bool), (mget no (kn K)).getD zeroSn = snV z ∧ (mget no (kn K)).isSome = ok ∧ (ok = true → top = true) ∧ (top = false → kget no K = none) := by
  rw [mget_kn]
  cases hkg : kget no K with
  | none => exact ⟨sn0, false, rfl, rfl, fun e => Bool.noConfusion e, fun _ => rfl⟩
  | some y =>
    have ht : top = true := by
     cases top with
     | true => rfl
     | false => exact absurd ⟨rfl, y, hkg⟩ hhit
    exact ⟨y, true, rfl, rfl, fun _ => ht, fun e => by rw [ht] at e; cases e⟩
 have HZ : Aside (top = false → kget no K = none) := hz3.2
 have hz4 := hz3.1
 obtain ⟨yh, yc, ⟨a1, a2, a3, a4⟩, ⟨b1, b2, b3, b4⟩⟩ := z
 haveI := hs1.i
 have hlk : (Instr.lookup TKn (.map (some M)) (.int .i64 no) true).run Tryz.prog (w.alloc (.cells #[.int .i64 0, .int .i64 0, .int .i64 0, .int .i64 0, .int .i64 0, .int .i64 0, .int .i64 0, .int .i64 0, .int .i64 0, .int .i64 0] TSn)) = .ok (.tuple #[.agg #[.int .i64 yh, .int .i64 yc, .int .i64 a1, .int .i64 a2, .int .i64 a3, .int .i64 a4, .int .i64 b1, .int .i64 b2, .int .i64 b3, .int .i64 b4], .bool ok]) (w.alloc (.cells #[.int .i64 0, .int .i64 0, .int .i64 0, .int .i64 0, .int .i64 0, .int .i64 0, .int .i64 0, .int .i64 0, .int .i64 0, .int .i64 0] TSn)) := by
  rw [look_Kn, hz1, hz2]
  rfl
 clear hz1 hz2 hz3 hK hV hR hm hs hhit ih hrd hno hf hm1 hdp HH
 go_enter Tryz.func128, Tryz.ntmps128
 go_upto_region 2 with (fail)
 go_cut [30] (fun t30 wx => t30 = .bool false ∧ Sat (Sl.block w.heap.size TSn [.int .i64 0, .int .i64 0, .int .i64 0, .int .i64 0, .int .i64 0, .int .i64 0, .int .i64 0, .int .i64 0, .int .i64 0, .int .i64 0] * (treeP h s * (Sl.block bK TKn [.map (some M)] * (Sl.block bT TTp [.pointer (some ⟨h.t, 0, none⟩)] * (Sl.block bL TLf [.func (Fn.func 128) #[] #[.pointer (some ⟨bK, 0, none⟩), .pointer (some ⟨bT, 0, none⟩), .pointer (some ⟨bL, 0, none⟩)]] * (mp ikey M (kn K) *  F)))))) wx)
 case first =>
  cases ok with
  | false =>
    go_wp2_with fail
    go_meet
    exact ⟨rfl, satI_weak (C := Sl.block (w.heap.size + 1) TSn [.int .i64 yh, .int .i64 yc, .int .i64 a1, .int .i64 a2, .int .i64 a3, .int .i64 a4, .int .i64 b1, .int .i64 b2, .int .i64 b3, .int .i64 b4]) (by ac_rfl)⟩
  | true =>
    obtain rfl := hz4 rfl
    go_wp2_with fail
    go_meet
    exact ⟨rfl, satI_weak (C := Sl.block (w.heap.size + 1) TSn [.int .i64 yh, .int .i64 yc, .int .i64 a1, .int .i64 a2, .int .i64 a3, .int .i64 a4, .int .i64 b1, .int .i64 b2, .int .i64 b3, .int .i64 b4]) (by ac_rfl)⟩
 case rest =>
  obtain ⟨rfl, q2⟩ := hcut
  obtain ⟨N9, hN9⟩ : ∃ z, w.heap.size = z := ⟨_, rfl⟩
  rw [hN9] at q2 ⊢
  clear hs1 this hlk hN9 hz4
  haveI := q2.i
  go_wp2_with fail
  with_reducible refine Calls.mono (HRD.out _ _ (takeI (treeP h s))) ?_
  rintro e w1 ⟨s2, hR2, hsp2, hd2', hcase⟩
  have HS2 : Aside (Rdy V m1 s2 ∧ s2.sp = s.sp ∧ s2.ck.d = s.ck.d) := ⟨hR2, hsp2, hd2'⟩
  clear hR2 hsp2 hd2' q2
  rcases hcase with ⟨n, v1, B1, hvn, rfl, hN, q3⟩ | ⟨hvn, rfl, q3⟩
  rotate_left
  · haveI := q3.i
    exact ⟨rfl, s2, K, look_keep h s2 bK bT bL M K F, HS2.out.2.1, HS2.out.2.2, .inr ⟨rfl, chk_gone hvn, HS2.out.1.less (Nat.zero_le _)⟩⟩
  have hmn := HV1.out no n hvn
  have HVN : Aside (V no = some n) := hvn
  have HMN : Aside (may n = true) := hmn
  have hmany := fun F w q => many_any n v1 B1 F w hN q (by have := (SumOk.of hmn).e; omega) (by have := (SumOk.of hmn).k; omega)
  obtain ⟨vE, vK, rfl, hE, hKd⟩ := hN
  obtain ⟨aE, cE, rfl, hE1, hE2⟩ := hE.v
  obtain ⟨aK, cK, rfl, hK1, hK2⟩ := ReadsR.v hKd
  obtain ⟨le, hle⟩ : ∃ k, n.ents.length = k := ⟨_, rfl⟩
  obtain ⟨lk, hlk⟩ : ∃ k, n.kids.length = k := ⟨_, rfl⟩
  obtain ⟨lf, hlf⟩ : ∃ k, n.leaf = k := ⟨_, rfl⟩
  have HE : Aside (ReadsE B1 (.slice aE le cE) n.ents ∧ n.ents.length = le) := ⟨by rw [← hle]; exact hE, hle⟩
  have HKD : Aside (ReadsK B1 (.slice aK n.kids.length cK) n.kids ∧ n.kids.length = lk) := ⟨hKd, hlk⟩
  have HLF : Aside (n.leaf = lf) := hlf
  have hle1 : le ≤ 12 := by have := (SumOk.of hmn).e; omega
  have hlk1 : lk ≤ 12 := by have := (SumOk.of hmn).k; omega
  rw [hle, hlk, hlf] at hmany
  rw [hle] at hE1 ⊢
  rw [hlk] at hK1 ⊢
  rw [hlf]
  have HMA : Aside (∀ (F : Assn) (w : World), Sat (B1 * F) w → Calls Tryz.prog 130 #[.agg #[.bool lf, .slice aE le cE, .slice aK lk cK]] w fun e w' => e = .returned (.int .i64 (many n)) ∧ Sat (B1 * F) w') := hmany
  obtain ⟨mn, hmm⟩ : ∃ z : Nat, many n = z := ⟨_, rfl⟩
  rw [hmm] at HMA
  have HMM : Aside (many n = mn) := hmm
  haveI := q3.i
  clear hvn hmn hmany hE hKd hle hlk hlf hmm
  by_cases hf0 : f = 0
  · have hdp : dp = 13 := by have := HD.out.1; omega
    have HC0 : Aside (chk V f no top = none) := (by rw [hf0]; rfl : _ = _)
    have h12 : decide ((12 : Int) < dp) = true := decide_eq_true (by omega)
    have h12' : (12 : Int) < dp := by omega
    clear hdp hf0
    go_wp2
    exact ⟨rfl, s2, K, look_keep h s2 bK bT bL M K F, HS2.out.2.1, HS2.out.2.2, .inr ⟨rfl, HC0.out, HS2.out.1.less (Nat.zero_le _)⟩⟩
  obtain ⟨g, hg⟩ : ∃ g, f = g + 1 := ⟨f - 1, by omega⟩
  have HG : Aside (f = g + 1) := hg
  have h12 : decide ((12 : Int) < dp) = false := decide_eq_false (by have := HD.out.1; omega)
  have h12' : ¬ (12 : Int) < dp := by have := HD.out.1; omega
  obtain ⟨fw, hfw⟩ : ∃ b, decide (top = false ∧ mn < 4) = b := ⟨_, rfl⟩
  have HFW : Aside (decide (top = false ∧ mn < 4) = fw) := hfw
  clear hfw hg hf0
  go_upto_region 5 with (fail)
  go_cut [45] (fun t45 wx => t45 = .bool fw ∧ Sat (Sl.block w1.heap.size TNd [.bool lf, .slice aE le cE, .slice aK lk cK] * (B1 * (Sl.block N9 TSn [.int .i64 0, .int .i64 0, .int .i64 0, .int .i64 0, .int .i64 0, .int .i64 0, .int .i64 0, .int .i64 0, .int .i64 0, .int .i64 0] * (treeP h s2 * (Sl.block bK TKn [.map (some M)] * (Sl.block bT TTp [.pointer (some ⟨h.t, 0, none⟩)] * (Sl.block bL TLf [.func (Fn.func 128) #[] #[.pointer (some ⟨bK, 0, none⟩), .pointer (some ⟨bT, 0, none⟩), .pointer (some ⟨bL, 0, none⟩)]] * (mp ikey M (kn K) *  F)))))))) wx)
  case first =>
   cases top with
   | true =>
     have hz : fw = false := by rw [← HFW.out]; simp
     subst hz
     go_wp2_with fail
     go_meet
     exact ⟨rfl, satI_eq (by ac_rfl)⟩
   | false =>
     by_cases h4 : mn < 4
     · have hz : fw = true := by rw [← HFW.out]; simp [h4]
       subst hz
       have hf4 : (mn : Int) < 4 := by omega
       have hf4d : decide ((mn : Int) < 4) = true := decide_eq_true hf4
       go_wp2_with (go_at_call 130; with_reducible refine Calls.mono (HMA.out _ _ (takeI B1)) ?_; rintro e w4 ⟨rfl, q4⟩; haveI := q4.i)
       go_meet
       exact ⟨rfl, satI_eq (by ac_rfl)⟩
     · have hz : fw = false := by rw [← HFW.out]; simp [h4]
       subst hz
       have hf4 : ¬ (mn : Int) < 4 := by omega
       have hf4d : decide ((mn : Int) < 4) = false := decide_eq_false hf4
       go_wp2_with (go_at_call 130; with_reducible refine Calls.mono (HMA.out _ _ (takeI B1)) ?_; rintro e w4 ⟨rfl, q4⟩; haveI := q4.i)
       go_meet
       exact ⟨rfl, satI_eq (by ac_rfl)⟩
  case rest =>
   obtain ⟨rfl, q5⟩ := hcut
   obtain ⟨N12, hN12⟩ : ∃ z, w1.heap.size = z := ⟨_, rfl⟩
   rw [hN12] at q5 ⊢
   clear q3 this hN12
   haveI := q5.i
   cases fw with
   | true =>
     have HCN : Aside (chk V f no top = none) := (by
      have h9 := of_decide_eq_true HFW.out
      rw [HG.out]
      exact chk_few HVN.out ⟨h9.1, by rw [HMM.out]; exact h9.2⟩ : _ = _)
     go_wp2
     exact ⟨rfl, s2, K, look_keep h s2 bK bT bL M K F, HS2.out.2.1, HS2.out.2.2, .inr ⟨rfl, HCN.out, HS2.out.1.less (Nat.zero_le _)⟩⟩
   | false =>
     have H4 : Aside (¬ (top = false ∧ many n < 4)) := (by
      have h9 := of_decide_eq_false HFW.out
      rw [HMM.out]
      exact h9 : ¬ _)
     clear HMA HFW
     -- the leaf's own
     obtain ⟨x0, hx0⟩ : ∃ x, (if lf then (⟨0, n.ents.length, n.ents.headD e0, n.ents.getLastD e0⟩ : Sn) else sn0) = x := ⟨_, rfl⟩
     have HX0 : Aside ((if lf then (⟨0, n.ents.length, n.ents.headD e0, n.ents.getLastD e0⟩ : Sn) else sn0) = x0) := hx0
     clear hx0
     have HX1 : Aside (lf = true → Joined n.ents → Chk V no top x0) := (fun h1 h2 => by
      refine ⟨g + 1, ?_⟩
      rw [chk_leaf HVN.out (HLF.out.trans h1) H4.out, if_neg (by rw [join_len.2 h2]; simp), ← HX0.out, if_pos h1] : _ → _ → _)
     obtain ⟨N13, hN13⟩ : ∃ z, wc.heap.size = z := ⟨_, rfl⟩
     have HN13 : Aside (wc.heap.size = N13) := hN13
     clear hN13
     go_upto_if 49 with (fail)
     go_cut [49] (fun t49 wx => (lf = true → Joined n.ents) ∧ Sat (Sl.block wc.heap.size TSn (snC x0) * (Sl.block N12 TNd [.bool lf, .slice aE le cE, .slice aK lk cK] * (B1 * (Sl.block N9 TSn [.int .i64 0, .int .i64 0, .int .i64 0, .int .i64 0, .int .i64 0, .int .i64 0, .int .i64 0, .int .i64 0, .int .i64 0, .int .i64 0] * (treeP h s2 * (Sl.block bK TKn [.map (some M)] * (Sl.block bT TTp [.pointer (some ⟨h.t, 0, none⟩)] * (Sl.block bL TLf [.func (Fn.func 128) #[] #[.pointer (some ⟨bK, 0, none⟩), .pointer (some ⟨bT, 0, none⟩), .pointer (some ⟨bL, 0, none⟩)]] * (mp ikey M (kn K) *  F))))))))) wx)
     case first =>
      cases lf with
      | false =>
        have h9 := HLV.out n HVN.out
        rw [HLF.out] at h9
        cases h9
      | true =>
        have hmf := may_leaf HMN.out HLF.out
        have hle0 : 1 ≤ le := by have := hmf.2.2.1; rw [HE.out.2] at this; exact this
        have HJ : Aside (∀ (b : Nat) (F : Assn) (w : World), Sat (Sl.block b 29 [.slice aE le cE] * (B1 * F)) w → Calls Tryz.prog 80 #[.slice (some ⟨b, 0, none⟩) 1 1] w fun e w' => ∃ a c, e = .returned (.slice a (join n.ents).length c) ∧ Sat (rw TEn 4 (.slice a (join n.ents).length c) (ecs (join n.ents)) * (Sl.block b 29 [.slice aE le cE] * (B1 * F))) w') := fun b F w q => by
         have h9 := join_any [n.ents] _ _ F w (readsLL_one b HE.out.1) (q.eq (sep_assoc _ _ _).symm) (by simp) (by simp; have := hmf.2.2.2.1; omega) (by simpa using hmf.2.1) (by have := hmf.2.2.2.2; simp; omega)
         rw [List.flatten_singleton] at h9
         exact h9.mono fun e w' ⟨a, c, h1, h2⟩ => ⟨a, c, h1, h2.eq (by ac_rfl)⟩
        obtain ⟨jl, hjl⟩ : ∃ z, (join n.ents).length = z := ⟨_, rfl⟩
        simp only [hjl] at HJ
        have HJL : Aside (jl = le → Joined n.ents) := (fun e => join_len.1 (by rw [hjl, e, HE.out.2]) : _ → _)
        have HJN : Aside (jl ≠ le → chk V f no top = none) := (fun e => by rw [HG.out, chk_leaf HVN.out HLF.out H4.out, if_pos (by rw [hjl, HE.out.2]; exact e)] : _ → _)
        have hle3 : IntKind.i64.wrap ((le : Int) - 1) = ((le - 1 : Nat) : Int) := (IntWalk.i64_in _ (by omega)).trans (by omega)
        obtain ⟨lm, hlm⟩ : ∃ z, le - 1 = z := ⟨_, rfl⟩
        rw [hlm] at hle3
        obtain ⟨x, hx⟩ : ∃ x, n.ents[0]? = some x := ⟨_, List.getElem?_eq_getElem (by rw [HE.out.2]; omega)⟩
        obtain ⟨y, hy⟩ : ∃ x, n.ents[lm]? = some x := ⟨_, List.getElem?_eq_getElem (by rw [HE.out.2]; omega)⟩
        have HXY : Aside (n.ents.headD e0 = x ∧ n.ents.getLastD e0 = y) := ⟨by cases hq : n.ents with | nil => rw [hq] at hx; simp at hx | cons a l => rw [hq] at hx; simpa using hx, by rw [List.getLastD_eq_getLast?, List.getLast?_eq_getElem?, HE.out.2, hlm, hy]; rfl⟩
        have hE9 : ReadsE B1 (.slice aE n.ents.length cE) n.ents := by rw [HE.out.2]; exact HE.out.1
        obtain ⟨eb, eo, e8, r1, r2, r3, r4⟩ := readsE_at hE9 hx
        obtain ⟨eb', eo', e7, p1, p2, p3, p4⟩ := readsE_at hE9 hy
        rw [e8] at e7
        cases e7
        subst e8
        have HX2 : Aside (x0 = ⟨0, le, x, y⟩) := (by rw [← HX0.out, if_pos rfl, HXY.out.1, HXY.out.2, HE.out.2] : _ = _)
        obtain ⟨x1, x2, x3, x4⟩ := x
        obtain ⟨y1, y2, y3, y4⟩ := y
        simp only at r1 r2 r3 r4 p1 p2 p3 p4
        have hlm0 : (lm : Int) < le := by omega
        have hle4 : (0 : Int) < le := by omega
        clear hmf hjl hx hy hE9 hlm
        go_upto_region 9 with (fail)
        go_region_held3 (fun w' => w'.cell? ⟨N12, 1, none⟩ = some (.slice (some ⟨eb, eo, none⟩) le cE)) (exact (cell_sat _ _ _)) (first
         | (go_at_call 80; with_reducible refine Calls.mono (HJ.out _ _ _ (takeI2 (Sl.block _ 29 [.slice (some ⟨eb, eo, none⟩) le cE]) B1)) ?_; rintro e w7 ⟨a7, c7, rfl, q7⟩; haveI := q7.i))
        all_goals
         haveI := q7.i
         cases e9 : ((jl : Int) != (le : Int)) with
         | true =>
           have HCN : Aside (chk V f no top = none) := (by
            refine HJN.out fun e => ?_
            rw [e] at e9
            simp at e9 : _ = _)
           go_wp2
           exact ⟨rfl, s2, K, look_keep h s2 bK bT bL M K F, HS2.out.2.1, HS2.out.2.2, .inr ⟨rfl, HCN.out, HS2.out.1.less (Nat.zero_le _)⟩⟩
         | false =>
           have HJO : Aside (Joined n.ents) := (by
            have c9 : (jl : Int) = le := by simpa using e9
            exact HJL.out (by omega) : Joined _)
           go_upto_region 11 with (fail)
           go_region
           go_wp2_with fail
           go_meet
           refine ⟨fun _ => HJO.out, ?_⟩
           rw [HX2.out]
           have q8 := store10 (w := w7) (b := wc.heap.size) (e := TSn) (c0 := .int .i64 0) (c1 := .int .i64 0) (c2 := .int .i64 0) (c3 := .int .i64 0) (c4 := .int .i64 0) (c5 := .int .i64 0) (c6 := .int .i64 0) (c7 := .int .i64 0) (c8 := .int .i64 0) (c9 := .int .i64 0) (v0 := .int .i64 0) (v1 := .int .i64 le) (v2 := .int .i64 x1) (v3 := .int .i64 x2) (v4 := .int .i64 x3) (v5 := .int .i64 x4) (v6 := .int .i64 y1) (v7 := .int .i64 y2) (v8 := .int .i64 y3) (v9 := .int .i64 y4)
           haveI := q8.drew.i
           exact satI_weak (C := rw TEn 4 (.slice a7 jl c7) (ecs (join n.ents)) * Sl.block (wc.heap.size + 1) 29 [.slice (some ⟨eb, eo, none⟩) le cE]) (by unfold snC erow; ac_rfl)
     case rest =>
      obtain ⟨hjo, q6⟩ := hcut
      have HJO : Aside (lf = true → Joined n.ents) := hjo
      rw [HN13.out] at q6 ⊢
      clear q5 this hjo HN13
      obtain ⟨xh, xc, ⟨x1, x2, x3, x4⟩, ⟨x5, x6, x7, x8⟩⟩ := x0
      unfold snC erow at q6
      simp only [List.cons_append, List.nil_append] at q6
      haveI := q6.i
      go_wp2_with fail
      go_loopg [80] lk (fun gg t80 wr => ∃ (j m3 : Nat) (s3 : TS) (K3 : List (Int × Sn)) (x : Sn), t80 = .int .i64 j ∧ j ≤ lk ∧ Aside (LkI V N f g n lf m1 s K ⟨xh, xc, ⟨x1, x2, x3, x4⟩, ⟨x5, x6, x7, x8⟩⟩ gg lk j m3 s3 K3 x) ∧
       Sat (Sl.block N13 TSn (snC x) * (Sl.block N12 TNd [.bool lf, .slice aE le cE, .slice aK lk cK] * (B1 * (Sl.block N9 TSn [.int .i64 0, .int .i64 0, .int .i64 0, .int .i64 0, .int .i64 0, .int .i64 0, .int .i64 0, .int .i64 0, .int .i64 0, .int .i64 0] * (treeP h s3 * (Sl.block bK TKn [.map (some M)] * (Sl.block bT TTp [.pointer (some ⟨h.t, 0, none⟩)] * (Sl.block bL TLf [.func (Fn.func 128) #[] #[.pointer (some ⟨bK, 0, none⟩), .pointer (some ⟨bT, 0, none⟩), .pointer (some ⟨bL, 0, none⟩)]] * (mp ikey M (kn K3) *  F))))))))) wr)
      case atStart =>
       refine ⟨0, m1, s2, K, _, rfl, by omega, ⟨rfl, HS2.out.1, HS2.out.2.1, HS2.out.2.2, HK.out, by omega, fun e => ?_, fun _ => rfl, fun q hq => .inl hq, fun _ => rfl, ?_, ?_, fun e => by omega⟩, q6⟩
       · rw [← HX0.out, e]
         exact Run.zero g n
       · rw [← HX0.out]
         cases lf with
         | true => simp only [if_true]; have := HE.out.2; omega
         | false => exact ⟨by simp [sn0], by simp [sn0]⟩
       · rw [← HX0.out]
         cases lf with
         | true => exact ⟨by simp, by simp⟩
         | false => exact ⟨by simp [sn0], by simp [sn0]⟩
      case round =>
       obtain ⟨j, m3, s3, K3, x, rfl, hj, A, q7⟩ := hrel
       clear q6
       obtain ⟨zh, zc, ⟨z1, z2, z3, z4⟩, ⟨z5, z6, z7, z8⟩⟩ := x
       unfold snC erow at q7
       simp only [List.cons_append, List.nil_append] at q7
       haveI := q7.i
       by_cases hlt : j < lk
       · exfalso
         have h7 := (may_leaf HMN.out (HLV.out n HVN.out)).1
         have h9 := HKD.out.2
         rw [h7] at h9
         simp at h9
         omega
       · have hlt' : ¬ (j : Int) < lk := by omega
         obtain rfl : j = lk := by omega
         have HC : Aside (Chk V no top ⟨zh, zc, ⟨z1, z2, z3, z4⟩, ⟨z5, z6, z7, z8⟩⟩) := (by
          cases lf with
          | true =>
            have h9 := (may_leaf HMN.out HLF.out).1
            have h8 := HKD.out.2
            rw [h9] at h8
            rw [A.out.zero h8.symm]
            exact HX1.out rfl (HJO.out rfl)
          | false =>
            have h9 := A.out.run rfl
            rw [← HKD.out.2] at h9
            exact h9.done HVN.out HLF.out H4.out : Chk _ _ _ _)
         have hno0 : 0 ≤ no ∧ no < N := ⟨by
          have h9 := (HV.out no n HVN.out).2
          rcases Int.lt_or_le no 0 with h8 | h8
          · have : V no = none := A.out.rdy.out (by omega)
            rw [HVN.out] at this
            cases this
          · exact h8, (HV.out no n HVN.out).2⟩
         have HNO : Aside (0 ≤ no ∧ no < N) := hno0
         clear hno0
         have HLH : Aside (K = [] → zh < f) := (fun e => by
          by_cases c5 : j = 0
          · have h9 := A.out.zero c5
            have hG := HG.out
            have h7 := HX0.out
            rw [← h9] at h7
            cases lf with
            | true =>
              simp only [if_true] at h7
              have h6 := congrArg Sn.h h7
              simp only at h6
              omega
            | false =>
              have h6 := congrArg Sn.h h7
              have : (if false = true then (⟨0, n.ents.length, n.ents.headD e0, n.ents.getLastD e0⟩ : Sn) else sn0).h = 0 := rfl
              rw [this] at h6
              simp only at h6
              omega
          · exact (A.out.low (by omega)).2 e : _ → _)
         have HNK2 : Aside (top = false → kget no K3 = none) := (fun e => by
          cases hq : kget no K3 with
          | none => rfl
          | some z =>
            exfalso
            have h9 := kget_mem hq
            rcases A.out.newk _ h9 with h8 | h8
            · have h7 := HZ.out e
              have : ∀ (K : List (Int × Sn)), (no, z) ∈ K → kget no K ≠ none := fun K hK h6 => by
               have h5 := hasK_get (i := no.toNat) h6 (by have := HNO.out.1; omega)
               unfold hasK at h5
               rw [List.any_eq_false] at h5
               have := h5 _ hK
               simp at this
               have := HNO.out.1
               omega
              exact this K h8 h7
            · have h6 := A.out.kn.get hq
              obtain ⟨q1, q2⟩ := id HC.out
              rw [e] at q2
              have h5 := h6.of HV1.out q2
              rw [← h5] at h8
              simp only at h8
              omega : _ → _)
         have HBJ : Aside (m1 + 13 * fr N K3 ≤ m3 + j + 13 * fr N K ∧ m = m1 + 1 ∧ j ≤ 12) := ⟨A.out.bud, HM1.out, hlk1⟩
         have HA : Aside (KnOk V K3 ∧ Rdy V m3 s3 ∧ s3.sp = s.sp ∧ s3.ck.d = s.ck.d ∧ ∀ q ∈ K3, q ∈ K ∨ q.2.h + 1 ≤ zh) := ⟨A.out.kn, A.out.rdy, A.out.sp, A.out.d, A.out.newk⟩
         clear A
         cases top with
         | true =>
           go_wp2
           go_returns
           have q8 := store10 (w := wr) (b := N9) (e := TSn) (c0 := .int .i64 0) (c1 := .int .i64 0) (c2 := .int .i64 0) (c3 := .int .i64 0) (c4 := .int .i64 0) (c5 := .int .i64 0) (c6 := .int .i64 0) (c7 := .int .i64 0) (c8 := .int .i64 0) (c9 := .int .i64 0) (v0 := .int .i64 zh) (v1 := .int .i64 zc) (v2 := .int .i64 z1) (v3 := .int .i64 z2) (v4 := .int .i64 z3) (v5 := .int .i64 z4) (v6 := .int .i64 z5) (v7 := .int .i64 z6) (v8 := .int .i64 z7) (v9 := .int .i64 z8)
           haveI := q8.i
           refine ⟨s3, K3, look_keep h s3 bK bT bL M K3 F, HA.out.2.2.1, HA.out.2.2.2.1, .inl ⟨⟨zh, zc, ⟨z1, z2, z3, z4⟩, ⟨z5, z6, z7, z8⟩⟩, m3, rfl, HC.out, HLH.out, HA.out.1, fun q hq => (HA.out.2.2.2.2 q hq).imp id fun h9 => ?_, HA.out.2.1, ?_⟩⟩
           · simp only; omega
           · have := HBJ.out; simp only [if_true]; omega
         | false =>
           go_wp2
           go_returns
           have q8 := store10 (w := putW Tryz.prog TKn M (ikey no) (.agg #[.int .i64 zh, .int .i64 zc, .int .i64 z1, .int .i64 z2, .int .i64 z3, .int .i64 z4, .int .i64 z5, .int .i64 z6, .int .i64 z7, .int .i64 z8]) wr) (b := N9) (e := TSn) (c0 := .int .i64 0) (c1 := .int .i64 0) (c2 := .int .i64 0) (c3 := .int .i64 0) (c4 := .int .i64 0) (c5 := .int .i64 0) (c6 := .int .i64 0) (c7 := .int .i64 0) (c8 := .int .i64 0) (c9 := .int .i64 0) (v0 := .int .i64 zh) (v1 := .int .i64 zc) (v2 := .int .i64 z1) (v3 := .int .i64 z2) (v4 := .int .i64 z3) (v5 := .int .i64 z4) (v6 := .int .i64 z5) (v7 := .int .i64 z6) (v8 := .int .i64 z7) (v9 := .int .i64 z8)
           haveI := q8.i
           have hfr := fr_put (y := ⟨zh, zc, ⟨z1, z2, z3, z4⟩, ⟨z5, z6, z7, z8⟩⟩) (HNK2.out (by simp)) HNO.out.1 HNO.out.2
           refine ⟨s3, kput no ⟨zh, zc, ⟨z1, z2, z3, z4⟩, ⟨z5, z6, z7, z8⟩⟩ K3, ?_, HA.out.2.2.1, HA.out.2.2.2.1, .inl ⟨⟨zh, zc, ⟨z1, z2, z3, z4⟩, ⟨z5, z6, z7, z8⟩⟩, m3, rfl, HC.out, HLH.out, HA.out.1.put HC.out, fun q hq => ?_, HA.out.2.1, ?_⟩⟩
           · exact (keep6 (treeP h s3) (Sl.block bK TKn [.map (some M)]) (Sl.block bT TTp [.pointer (some ⟨h.t, 0, none⟩)]) (Sl.block bL TLf [.func (Fn.func 128) #[] #[.pointer (some ⟨bK, 0, none⟩), .pointer (some ⟨bT, 0, none⟩), .pointer (some ⟨bL, 0, none⟩)]]) (mp ikey M (mput no (.agg #[.int .i64 zh, .int .i64 zc, .int .i64 z1, .int .i64 z2, .int .i64 z3, .int .i64 z4, .int .i64 z5, .int .i64 z6, .int .i64 z7, .int .i64 z8]) (kn K3))) F).eq (by rw [look_open, ← mput_kn]; rfl)
           · rcases kput_mem hq with e | e
             · rw [e]; simp only; exact .inr (Int.le_refl _)
             · exact (HA.out.2.2.2.2 q e).imp id fun h9 => by simp only; omega
           · have := HBJ.out; simp only [Bool.false_eq_true, if_false]; omega
end Go.Proofs.YtfhbmblbidcmmaaGreat
namespace Go.Proofs.YtfhbmblbidcmmaaGreat
set_option linter.unusedSimpArgs false
set_option linter.unusedVariables false
open Go.RowKit Go.Sl Go.Dk Go.Tr
open Go.Lru (ikey)
attribute [local go_sem ↓] Go.wp_at_zero Go.wp_at_succ
attribute [local go_sem] Go.Sl.cell_sat Go.Sl.frozen_sat put_Kn
variable [TopN]
theorem look_step (f : Nat) (ih : ∀ g, f = g + 1 → LookC g) : LookC f := by
 intro V N h s m K no top bK bT bL M F w hf hno hK hV hR hm hs
 cases hn : V no with
 | none => exact look_inner f ih V N h s m K no top bK bT bL M F w (fun n e => by rw [hn] at e; cases e) hf hno hK hV hR hm hs
 | some n =>
   cases hl : n.leaf with
   | true => exact look_leaf f ih V N h s m K no top bK bT bL M F w (fun n' e => by rw [hn] at e; cases e; exact hl) hf hno hK hV hR hm hs
   | false => exact look_inner f ih V N h s m K no top bK bT bL M F w (fun n' e => by rw [hn] at e; cases e; exact hl) hf hno hK hV hR hm hs
theorem look_all : ∀ f, LookC f
 | 0 => look_step 0 fun g h => by omega
 | f + 1 => look_step (f + 1) fun g h => by
   have : g = f := by omega
   subst this
   exact look_all g
end Go.Proofs.YtfhbmblbidcmmaaGreat
namespace Go.Proofs.YtfhbmblbidcmmaaGreat
set_option linter.unusedSimpArgs false
set_option linter.unusedVariables false
open Go.RowKit Go.Sl Go.Dk Go.Tr
attribute [local go_sem ↓] Go.wp_at_zero Go.wp_at_succ
attribute [local go_sem] Go.Sl.cell_sat Go.Sl.frozen_sat
theorem ecs_app (a b : List Ent) : ecs (a ++ b) = ecs a ++ ecs b := by simp [ecs]
def SeeOut (N m : Nat) (cs : List Value) (B F : Assn) (e : Ending) (w' : World) : Prop := ∃ (a' : Option Addr) (c' : Nat),
 (1024 < m ∧ e = .panicked (faultC 13) ∧ Sat (Sl.block N TEs [.slice a' m c'] * (B * F)) w') ∨
 (¬ 1024 < m ∧ e = .returned (.bool true) ∧ Sat (Sl.block N TEs [.slice a' m c'] * (rw TEn 4 (.slice a' m c') cs * (B * F))) w')
set_option maxRecDepth 100000 in
set_option maxHeartbeats 1600000 in
theorem see_any (no : Int) (n : Nd) (v : Value) (N : Nat) (o : List Ent) (a : Option Addr) (c : Nat) (B F : Assn) (w : World) (hN : ReadsN B v n) (hm : may n = true) (ho : o.length ≤ 1024)
 (hs : Sat (Sl.block N TEs [.slice a o.length c] * (rw TEn 4 (.slice a o.length c) (ecs o) * (B * F))) w) :
 Calls Tryz.prog 110 #[.int .i64 no, v, .pointer (some ⟨N, 0, none⟩)] w (SeeOut N (o ++ n.ents).length (ecs (o ++ n.ents)) B F) := by
 obtain ⟨i0, E⟩ := elemEn
 obtain ⟨l1, l2⟩ := may_len hm
 obtain ⟨vE, vK, rfl, hE, hK⟩ := hN
 obtain ⟨aE, cE, rfl, hE1, hE2⟩ := hE.v
 obtain ⟨aK, cK, rfl, hK1, hK2⟩ := ReadsR.v hK
 have sE := fun (F : Assn) (w : World) (h : Sat (B * F) w) => hE.src (P := Tryz.prog) (ecs_one n.ents) h
 rw [List.length_append, ecs_app]
 obtain ⟨ne, hne⟩ : ∃ k, n.ents.length = k := ⟨_, rfl⟩
 obtain ⟨nO, hno⟩ : ∃ k, o.length = k := ⟨_, rfl⟩
 rw [hne] at sE l1 hE1 ⊢
 rw [hno] at hs ho ⊢
 have SE : Aside (∀ (F : Assn) (w : World), Sat (B * F) w → Src Tryz.prog 4 w (.slice aE ne cE) ne (ecs n.ents)) := sE
 obtain ⟨xs, hxs⟩ : ∃ x, ecs o = x := ⟨_, rfl⟩
 rw [hxs] at hs ⊢
 obtain ⟨m, hsum⟩ : ∃ m, nO + ne = m := ⟨_, rfl⟩
 have HSUM : Aside (nO + ne = m) := hsum
 have hmb : m ≤ 1036 := by omega
 rw [hsum]
 haveI := hs.i
 clear hE hK sE hne hno hxs
 clear hsum
 by_cases hc : 1024 < m
 · have HC : Aside (1024 < m) := hc
   have hc' : (1024 : Int) < m := by omega
   clear hc
   go_enter Tryz.func110, Tryz.ntmps110
   go_wp2_with (at_builtin; refine wpl_append_same E rfl (.tmp 6) (.tmp 8) rfl rfl rfl (takeI (rw TEn 4 (.slice a nO c) xs)) (SE.out _ _ (takeI B)) (by unfold maxLen; omega) (by omega) ?_; intro a9 c9 w9 q9 z9; clear z9; rw [HSUM.out] at q9 ⊢; haveI := q9.i)
   exact ⟨rfl, a9, c9, .inl ⟨HC.out, rfl, keep3 _ _ _⟩⟩
 · have HC : Aside (¬ 1024 < m) := hc
   have hc' : ¬ (1024 : Int) < m := by omega
   clear hc
   go_enter Tryz.func110, Tryz.ntmps110
   go_wp2_with (at_builtin; refine wpl_append_same E rfl (.tmp 6) (.tmp 8) rfl rfl rfl (takeI (rw TEn 4 (.slice a nO c) xs)) (SE.out _ _ (takeI B)) (by unfold maxLen; omega) (by omega) ?_; intro a9 c9 w9 q9 z9; clear z9; rw [HSUM.out] at q9 ⊢; haveI := q9.i)
   go_returns
   exact ⟨a9, c9, .inr ⟨HC.out, rfl, keep4 _ _ _ _⟩⟩
set_option maxRecDepth 100000 in
set_option maxHeartbeats 1600000 in
theorem listC_idle (N E : Nat) (w : World) :
 CallsD Tryz.prog 108 #[.pointer (some ⟨N, 0, none⟩), .pointer (some ⟨E, 0, none⟩)] .returning w fun e u' w' => e = .returned (.tuple #[]) ∧ u' = .returning ∧ w' = w := by
 refine callsD_of_wpS Tryz.func108 rfl fun c₀ cs hu => ?_
 apply wpS_seq
 apply wpS_region
 simp [wpOpsS, go_sem, recoverD, hu, Tryz.ntmps108, Exit.thenS]
 apply wpS_seq
 apply wpS_region
 simp [wpOpsS, go_sem, Exit.thenS]
 refine wpS_cond (t := false) (by simp [Act.eval, Array.replicate]) ?_
 simp only [Bool.false_eq_true, if_false]
 refine wpS_of_wp (wp_skip ?_)
 cases c₀
 simp_all [bodyPostS, results, Tryz.results108, Exit.thenS]
set_option maxRecDepth 100000 in
set_option maxHeartbeats 1600000 in
theorem listC_caught (N E : Nat) (er : Int) (a b : Value) (F : Assn) (w : World) (hs : Sat (Sl.block N TEs [a] * (Sl.block E TEr [b] * F)) w) :
 CallsD Tryz.prog 108 #[.pointer (some ⟨N, 0, none⟩), .pointer (some ⟨E, 0, none⟩)] (.panicking (faultC er)) w fun e u' w' => e = .returned (.tuple #[]) ∧ u' = .panicking [{ v := .iface TFa (.agg #[.int .i64 er]), recovered := true }] ∧ Sat (Sl.block N TEs [.slice none 0 0] * (Sl.block E TEr [.int .i64 er] * F)) w' := by
 haveI := hs.i
 refine callsD_of_wpS Tryz.func108 rfl fun c₀ cs hu => ?_
 unfold faultC at hu
 apply wpS_seq
 apply wpS_region
 simp [wpOpsS, go_sem, recoverD, hu, Tryz.ntmps108, Exit.thenS]
 apply wpS_seq
 apply wpS_region
 simp [wpOpsS, go_sem, Exit.thenS]
 refine wpS_cond (t := true) (by simp [Act.eval, Array.replicate]) ?_
 simp only [if_true]
 refine wpS_of_wp ?_
 go_wp2_with fail
 refine Calls.mono (given_any er _ _ hs) ?_
 rintro en w2 ⟨rfl, q2⟩
 haveI := q2.i
 go_wp2
 simp [bodyPostS, results, Tryz.results108]
 exact satI_eq (by ac_rfl)
end Go.Proofs.YtfhbmblbidcmmaaGreat
