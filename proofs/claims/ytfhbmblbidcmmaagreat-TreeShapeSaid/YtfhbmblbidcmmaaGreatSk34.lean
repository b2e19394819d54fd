/-
  Of all roots that are made the pages are a tree in the form of the document, and just these are told, and each is in use. No condition. (part 34)
-/
import Derived.Test.YtfhbmblbidcmmaaGreatSk32
import Derived.Test.YtfhbmblbidcmmaaGreatSk33
import Derived.Test.YtfhbmblbidcmmaaGreatSk9
import Derived.IntWalk
import Derived.WalkLawsBesides
set_option linter.unusedSimpArgs false
set_option linter.unusedVariables false
namespace Go.Proofs.YtfhbmblbidcmmaaGreat
set_option linter.unusedSimpArgs false
set_option linter.unusedVariables false
open Go.RowKit Go.Sl Go.Dk Go.Tr
attribute [local go_sem ↓] Go.wp_at_zero Go.wp_at_succ
attribute [local go_sem] Go.Sl.cell_sat Go.Sl.frozen_sat
theorem field_kid (a b c d e : Int) (w : World) : Sem.run Tryz.prog (Instr.field TTl (.agg #[.int .i64 a, .int .i64 b, .int .i64 c, .int .i64 d, .int .i64 e]) 0) w = .ok (.agg #[.int .i64 a, .int .i64 b, .int .i64 c, .int .i64 d]) w := by kernel_rfl
theorem field_page (a b c d : Int) (w : World) : Sem.run Tryz.prog (Instr.field TKd (.agg #[.int .i64 a, .int .i64 b, .int .i64 c, .int .i64 d]) 0) w = .ok (.int .i64 a) w := by kernel_rfl
theorem foldJ_len : ∀ (l o : List Ent), (l.foldl joinTo o).length ≤ o.length + l.length
 | [], o => by simp
 | x :: l, o => by
   have h1 := foldJ_len l (joinTo o x)
   have h2 := joinTo_len o x
   simp only [List.foldl_cons, List.length_cons]
   omega
theorem join_short (l : List Ent) : (join l).length ≤ l.length := by
 have := foldJ_len l []
 unfold join
 rw [List.length_nil, Nat.zero_add] at this
 exact this
instance treeP_c {h : Th} {s : TS} : HasC (treeP h s) h.t 0 (.pointer (some ⟨h.C, 0, none⟩)) := ⟨by
 unfold treeP treeA
 exact HasC.out⟩
instance treeP_s {h : Th} {s : TS} : HasC (treeP h s) h.t 1 (.pointer (some ⟨h.S, 0, none⟩)) := ⟨by
 unfold treeP treeA
 exact HasC.out⟩
theorem mark_tany (h : Th) (s : TS) (F : Assn) (w : World) (hs : Sat (treeP h s * F) w) :
 Calls Tryz.prog 82 #[.pointer (some ⟨h.S, 0, none⟩)] w fun e w' => e = .returned (.int .i64 s.sp.taken.length) ∧ Sat (treeP h s * F) w' := by
 obtain ⟨hi, hp⟩ := tree_parts hs
 refine (spMark_any h.S s.sp _ w (hp.eq (by ac_rfl) : Sat (spaceP h.S s.sp * (cacheP h.C h.D s.ck * (Sl.block h.t TTr [.pointer (some ⟨h.C, 0, none⟩), .pointer (some ⟨h.S, 0, none⟩)] * F))) w)).mono ?_
 rintro e w' ⟨h1, h2⟩
 exact ⟨h1, tree_join hi (h2.eq (by ac_rfl))⟩
abbrev TEs : TypeId := 29
theorem readsLL_one {B : Assn} {v : Value} {l : List Ent} (b : Nat) (hE : ReadsE B v l) : ReadsLL (Sl.block b TEs [v] * B) (.slice (some ⟨b, 0, none⟩) 1 1) [l] := by
 refine ⟨[v], ⟨rfl, _, _, rfl, Nat.le_refl _, by omega, fun j u hj => ⟨b, 0, rfl, ?_⟩⟩, rfl, fun i x l' hx hl => ?_⟩
 · haveI : At [v] j u := ⟨hj⟩
   rw [Nat.zero_add]
   exact inferInstance
 · cases i with
   | zero => simp at hx hl; subst hx; subst hl; exact ReadsR.right hE
   | succ i => simp at hx
set_option maxRecDepth 100000 in
set_option maxHeartbeats 3200000 in
theorem build_no (h : Th) (s : TS) (l : List Ent) (v : Value) (B F : Assn) (w : World) (hE : ReadsE B v l) (hs : Sat (treeP h s * (B * F)) w) (hl : l.length ≤ 65536) (hm : mayList l = false) :
 Calls Tryz.prog 23 #[.pointer (some ⟨h.t, 0, none⟩), v] w (Back h (B * F) (mBuild l s) (fun z => vi2 z 0) (fun er => vi2 0 er)) := by
 obtain ⟨a0, c0, rfl, hE1, hE2⟩ := hE.v
 have hR : mBuild l s = .fault 1 s := by unfold mBuild; rw [if_pos hm]
 rw [hR]
 have hmy := fun F w q => tmay_any l _ B F w hE q (by omega)
 rw [hm] at hmy
 have h2 : Sat (B * (treeP h s * F)) w := hs.eq (by ac_rfl)
 haveI := h2.i
 clear hR hE hs h2
 go_enter_defers Tryz.func23, Tryz.ntmps23
 go_wp2_with fail
 with_reducible refine Calls.mono (hmy _ _ (takeI B)) ?_
 rintro e w2 ⟨rfl, q2⟩
 haveI := q2.i
 go_wp2
 simp [bodyPostD, Leaves, settle, results, Tryz.results23, go_sem]
 exact ⟨rfl, keep3 _ _ _⟩
set_option maxRecDepth 100000 in
set_option maxHeartbeats 3200000 in
theorem build_go (h : Th) (s : TS) (l : List Ent) (v : Value) (B F : Assn) (w : World) (hE : ReadsE B v l) (hs : Sat (treeP h s * (B * F)) w) (hl : l.length ≤ 65536) (hm : mayList l = true) (hb : mBuild l s ≠ .bad) :
 Calls Tryz.prog 23 #[.pointer (some ⟨h.t, 0, none⟩), v] w (Back h (B * F) (mBuild l s) (fun z => vi2 z 0) (fun er => vi2 0 er)) := by
 have hmf : ∀ (fn : Fn) (first cap : Array Value) (w : World), (Instr.makeFunc fn first cap).run Tryz.prog w = .ok (.func fn first cap) w := fun _ _ _ _ => rfl
 obtain ⟨a0, c0, rfl, hE1, hE2⟩ := hE.v
 obtain ⟨R, hR⟩ : ∃ R, mBuild l s = R := ⟨_, rfl⟩
 rw [hR] at hb ⊢
 have HB : Aside (R ≠ .bad) := hb
 unfold mBuild at hR
 rw [if_neg (by rw [hm]; simp)] at hR
 have hmy := fun F w q => tmay_any l _ B F w hE q (by omega)
 rw [hm] at hmy
 have HM : Aside ((∀ x ∈ l, mayEnt x = true) ∧ eBytes l ≤ 1048576) := by
  rw [mayList_eq] at hm
  simp only [Bool.and_eq_true, List.all_eq_true, decide_eq_true_eq] at hm
  exact hm
 have hjo := fun b F w q => join_any [l] (.slice (some ⟨b, 0, none⟩) 1 1) (Sl.block b TEs [.slice a0 l.length c0] * B) F w (readsLL_one b hE) q (by simp) (by simp; omega) (by simpa using HM.out.1) (by have := HM.out.2; simp; omega)
 have ef : ([l] : List (List Ent)).flatten = l := by simp
 rw [ef] at hjo
 have hjl := join_short l
 obtain ⟨js, hjs⟩ : ∃ js, join l = js := ⟨_, rfl⟩
 rw [hjs] at hjo hR hjl
 obtain ⟨nj, hnj⟩ : ∃ nj, js.length = nj := ⟨_, rfl⟩
 rw [hnj] at hjl hR
 have HNJ : Aside (js.length = nj) := hnj
 have HR : Aside ((if 1024 < nj then Res.fault 11 s else after s.sp.taken.length (tBuild tWrite js s)) = R) := hR
 have hmk := mark_tany h s
 have h2 : Sat (B * (treeP h s * F)) w := hs.eq (by ac_rfl)
 haveI := h2.i
 clear hE hs h2 hR hb hm hjs ef
 go_enter_defers Tryz.func23, Tryz.ntmps23
 go_wp2_with fail
 with_reducible refine Calls.mono (hmy _ _ (takeI B)) ?_
 rintro e w2 ⟨rfl, q2⟩
 haveI := q2.i
 go_wp2_with fail
 obtain ⟨N, hN⟩ : ∃ N, w.heap.size = N := ⟨_, rfl⟩
 obtain ⟨N2, hN2⟩ : ∃ N, w2.heap.size = N := ⟨_, rfl⟩
 have q3 : Sat ((Sl.block N2 TEs [.slice a0 l.length c0] * B) * (Sl.block (N + 1) TEr [.int .i64 0] * (Sl.block N TIt [.int .i64 0] * (treeP h s * F)))) (w2.alloc (.cells #[.slice a0 l.length c0] TEs)) := by
  rw [← hN, ← hN2]
  exact satI_eq (by ac_rfl)
 rw [hN2, hN]
 clear hN2 hN q2 this hmy
 with_reducible refine Calls.mono (hjo _ _ _ q3) ?_
 rintro e w3 ⟨aj, cj, rfl, q4⟩
 rw [HNJ.out] at q4 ⊢
 have q5 : Sat (treeP h s * (rw TEn 4 (.slice aj nj cj) (ecs js) * (Sl.block (N + 1) TEr [.int .i64 0] * (Sl.block N TIt [.int .i64 0] * (B * F))))) w3 := Sat.weak (B := Sl.block N2 TEs [.slice a0 l.length c0]) (q4.eq (by ac_rfl))
 haveI := q5.i
 clear hjo q3 q4
 by_cases hlt : 1024 < nj
 · have hRR : R = .fault 11 s := by have := HR.out; rw [if_pos hlt] at this; exact this.symm
   subst hRR
   have hlt' : (1024 : Int) < nj := by omega
   go_wp2
   simp [bodyPostD, Leaves, settle, results, Tryz.results23, go_sem]
   exact ⟨rfl, keep3 _ _ _⟩
 · have hlt' : ¬ (1024 : Int) < nj := by omega
   have hR2 : after s.sp.taken.length (tBuild tWrite js s) = R := by have := HR.out; rwa [if_neg hlt] at this
   have hE : ReadsE (rw TEn 4 (.slice aj nj cj) (ecs js)) (.slice aj nj cj) js := by
    have := ReadsR.rw (F := Sl.block (N + 1) TEr [.int .i64 0] * (Sl.block N TIt [.int .i64 0] * (B * F * treeP h s))) (q5.eq (by ac_rfl)) ⟨aj, cj, rfl⟩ (n := nj)
    rw [← HNJ.out] at this ⊢
    exact this
   obtain ⟨x, hx⟩ : ∃ x, tLeaves tWrite js s = x := ⟨_, rfl⟩
   have hnb : x ≠ .bad := fun e => HB.out (by
    rw [← hR2]
    unfold tBuild M.bind
    rw [hx, e]
    rfl)
   have hlv := fun F w q => leaves_any h s js _ (rw TEn 4 (.slice aj nj cj) (ecs js)) F w hE q (by rw [HNJ.out]; omega) (by rw [hx]; exact hnb)
   rw [hx] at hlv
   have hgr : ∀ er s3, x = .fault er s3 → s.sp.taken.length ≤ s3.sp.taken.length := fun er s3 e => (Keeps.fault (tLeaves_keeps grow_goes tWrite_keeps js) (hx.trans e)).len
   have HX : Aside (after s.sp.taken.length (M.bind (fun _ => x) (fun t => M.pure t.kid.page) s) = R) := (by rw [← hR2]; unfold tBuild M.bind; rw [hx] : _ = _)
   clear hE hR2 hx HR
   go_wp2_with fail
   with_reducible refine Calls.mono (hmk _ _ (takeI (treeP h s))) ?_
   rintro e w4 ⟨rfl, q6⟩
   haveI := q6.i
   clear q5
   go_wp2_with fail
   with_reducible refine Calls.mono (hlv _ _ (takeI2 (treeP h s) (rw TEn 4 (.slice aj nj cj) (ecs js)))) ?_
   rintro e w5 h5
   cases x with
   | bad => exact absurd rfl hnb
   | fault er s3 =>
     obtain ⟨rfl, q7⟩ := h5
     have hg := hgr er s3 rfl
     have hRR : R = .fault er (if er = 0 then s3 else s3.undone s.sp.taken.length) := HX.out.symm
     subst hRR
     show bodyPostD _ _ _ (.panic (faultC er)) _ w5
     haveI := q7.i
     refine leaves_cons (f := 83) (args := #[.pointer (some ⟨N, 0, none⟩), .pointer (some ⟨N + 1, 0, none⟩)]) (by simp) (by simp [go_sem]) ?_
     refine (buildC_caught N (N + 1) er _ _ _ w5 (takeI2 (Sl.block N TIt [.int .i64 0]) (Sl.block (N + 1) TEr [.int .i64 0]))).mono ?_
     rintro e u' w6 ⟨rfl, rfl, q8⟩
     haveI := q8.i
     show Leaves _ _ _ _ _ .returning w6
     refine leaves_cons (f := 81) (args := #[.pointer (some ⟨h.t, 0, none⟩), .int .i64 s.sp.taken.length, .pointer (some ⟨N + 1, 0, none⟩)]) (by simp) (by simp [go_sem]) ?_
     by_cases he : er = 0
     · subst he
       rw [if_pos rfl]
       refine (undoD_ok _ _ (N + 1) _ _ w6 (takeI (Sl.block (N + 1) TEr [.int .i64 0]))).mono ?_
       rintro e u' w7 ⟨rfl, rfl, q9⟩
       haveI := q9.i
       simp [Leaves, settle, results, Tryz.results23, go_sem]
       exact ⟨rfl, keep3 _ _ _⟩
     · rw [if_neg he]
       refine (undoD_er h s3 s.sp.taken.length (N + 1) er _ _ w6 he hg (takeI2 (treeP h s3) (Sl.block (N + 1) TEr [.int .i64 er]))).mono ?_
       rintro e u' w7 ⟨rfl, rfl, q9⟩
       haveI := q9.i
       simp [Leaves, settle, results, Tryz.results23, go_sem]
       exact ⟨rfl, keep3 _ _ _⟩
   | ok t s3 =>
     obtain ⟨v3, G3, rfl, ⟨rfl, rfl⟩, q7⟩ := h5
     rw [one_sep] at q7
     have hRR : R = .ok t.kid.page s3 := HX.out.symm
     subst hRR
     obtain ⟨⟨t1, t2, t3, t4⟩, th⟩ := t
     unfold tallV
     haveI := q7.i
     have hfk := field_kid t1 t2 t3 t4 th
     have hfp := field_page t1 t2 t3 t4
     go_wp2
     refine leaves_cons (f := 83) (args := #[.pointer (some ⟨N, 0, none⟩), .pointer (some ⟨N + 1, 0, none⟩)]) (by simp) (by simp [go_sem]) ?_
     refine (buildC_idle _ _ _).mono ?_
     rintro e u' w6 ⟨rfl, rfl, rfl⟩
     show Leaves _ _ _ _ _ .returning _
     refine leaves_cons (f := 81) (args := #[.pointer (some ⟨h.t, 0, none⟩), .int .i64 s.sp.taken.length, .pointer (some ⟨N + 1, 0, none⟩)]) (by simp) (by simp [go_sem]) ?_
     refine (undoD_ok _ _ (N + 1) _ _ _ (takeI (Sl.block (N + 1) TEr [.int .i64 0]))).mono ?_
     rintro e u' w7 ⟨rfl, rfl, q9⟩
     haveI := q9.i
     simp [Leaves, settle, results, Tryz.results23, go_sem]
     exact ⟨rfl, keep3 _ _ _⟩
theorem build_any (h : Th) (s : TS) (l : List Ent) (v : Value) (B F : Assn) (w : World) (hE : ReadsE B v l) (hs : Sat (treeP h s * (B * F)) w) (hl : l.length ≤ 65536) (hb : mBuild l s ≠ .bad) :
 Calls Tryz.prog 23 #[.pointer (some ⟨h.t, 0, none⟩), v] w (Back h (B * F) (mBuild l s) (fun z => vi2 z 0) (fun er => vi2 0 er)) := by
 cases hm : mayList l with
 | false => exact build_no h s l v B F w hE hs hl hm
 | true => exact build_go h s l v B F w hE hs hl hm hb
end Go.Proofs.YtfhbmblbidcmmaaGreat
namespace Go.Proofs.YtfhbmblbidcmmaaGreat
set_option linter.unusedSimpArgs false
set_option linter.unusedVariables false
open Go.RowKit Go.Sl Go.Dk Go.Tr
attribute [local go_sem ↓] Go.wp_at_zero Go.wp_at_succ
attribute [local go_sem] Go.Sl.cell_sat Go.Sl.frozen_sat
theorem ecs_app (a b : List Ent) : ecs (a ++ b) = ecs a ++ ecs b := by simp [ecs]
def SeeOut (N m : Nat) (cs : List Value) (B F : Assn) (e : Ending) (w' : World) : Prop := ∃ (a' : Option Addr) (c' : Nat),
 (1024 < m ∧ e = .panicked (faultC 13) ∧ Sat (Sl.block N TEs [.slice a' m c'] * (B * F)) w') ∨
 (¬ 1024 < m ∧ e = .returned (.bool true) ∧ Sat (Sl.block N TEs [.slice a' m c'] * (rw TEn 4 (.slice a' m c') cs * (B * F))) w')
set_option maxRecDepth 100000 in
set_option maxHeartbeats 1600000 in
theorem see_any (no : Int) (n : Nd) (v : Value) (N : Nat) (o : List Ent) (a : Option Addr) (c : Nat) (B F : Assn) (w : World) (hN : ReadsN B v n) (hm : may n = true) (ho : o.length ≤ 1024)
 (hs : Sat (Sl.block N TEs [.slice a o.length c] * (rw TEn 4 (.slice a o.length c) (ecs o) * (B * F))) w) :
 Calls Tryz.prog 110 #[.int .i64 no, v, .pointer (some ⟨N, 0, none⟩)] w (SeeOut N (o ++ n.ents).length (ecs (o ++ n.ents)) B F) := by
 obtain ⟨i0, E⟩ := elemEn
 obtain ⟨l1, l2⟩ := may_len hm
 obtain ⟨vE, vK, rfl, hE, hK⟩ := hN
 obtain ⟨aE, cE, rfl, hE1, hE2⟩ := hE.v
 obtain ⟨aK, cK, rfl, hK1, hK2⟩ := ReadsR.v hK
 have sE := fun (F : Assn) (w : World) (h : Sat (B * F) w) => hE.src (P := Tryz.prog) (ecs_one n.ents) h
 rw [List.length_append, ecs_app]
 obtain ⟨ne, hne⟩ : ∃ k, n.ents.length = k := ⟨_, rfl⟩
 obtain ⟨nO, hno⟩ : ∃ k, o.length = k := ⟨_, rfl⟩
 rw [hne] at sE l1 hE1 ⊢
 rw [hno] at hs ho ⊢
 have SE : Aside (∀ (F : Assn) (w : World), Sat (B * F) w → Src Tryz.prog 4 w (.slice aE ne cE) ne (ecs n.ents)) := sE
 obtain ⟨xs, hxs⟩ : ∃ x, ecs o = x := ⟨_, rfl⟩
 rw [hxs] at hs ⊢
 obtain ⟨m, hsum⟩ : ∃ m, nO + ne = m := ⟨_, rfl⟩
 have HSUM : Aside (nO + ne = m) := hsum
 have hmb : m ≤ 1036 := by omega
 rw [hsum]
 haveI := hs.i
 clear hE hK sE hne hno hxs
 clear hsum
 by_cases hc : 1024 < m
 · have HC : Aside (1024 < m) := hc
   have hc' : (1024 : Int) < m := by omega
   clear hc
   go_enter Tryz.func110, Tryz.ntmps110
   go_wp2_with (at_builtin; refine wpl_append_same E rfl (.tmp 6) (.tmp 8) rfl rfl rfl (takeI (rw TEn 4 (.slice a nO c) xs)) (SE.out _ _ (takeI B)) (by unfold maxLen; omega) (by omega) ?_; intro a9 c9 w9 q9 z9; clear z9; rw [HSUM.out] at q9 ⊢; haveI := q9.i)
   exact ⟨rfl, a9, c9, .inl ⟨HC.out, rfl, keep3 _ _ _⟩⟩
 · have HC : Aside (¬ 1024 < m) := hc
   have hc' : ¬ (1024 : Int) < m := by omega
   clear hc
   go_enter Tryz.func110, Tryz.ntmps110
   go_wp2_with (at_builtin; refine wpl_append_same E rfl (.tmp 6) (.tmp 8) rfl rfl rfl (takeI (rw TEn 4 (.slice a nO c) xs)) (SE.out _ _ (takeI B)) (by unfold maxLen; omega) (by omega) ?_; intro a9 c9 w9 q9 z9; clear z9; rw [HSUM.out] at q9 ⊢; haveI := q9.i)
   go_returns
   exact ⟨a9, c9, .inr ⟨HC.out, rfl, keep4 _ _ _ _⟩⟩
set_option maxRecDepth 100000 in
set_option maxHeartbeats 1600000 in
theorem listC_idle (N E : Nat) (w : World) :
 CallsD Tryz.prog 108 #[.pointer (some ⟨N, 0, none⟩), .pointer (some ⟨E, 0, none⟩)] .returning w fun e u' w' => e = .returned (.tuple #[]) ∧ u' = .returning ∧ w' = w := by
 refine callsD_of_wpS Tryz.func108 rfl fun c₀ cs hu => ?_
 apply wpS_seq
 apply wpS_region
 simp [wpOpsS, go_sem, recoverD, hu, Tryz.ntmps108, Exit.thenS]
 apply wpS_seq
 apply wpS_region
 simp [wpOpsS, go_sem, Exit.thenS]
 refine wpS_cond (t := false) (by simp [Act.eval, Array.replicate]) ?_
 simp only [Bool.false_eq_true, if_false]
 refine wpS_of_wp (wp_skip ?_)
 cases c₀
 simp_all [bodyPostS, results, Tryz.results108, Exit.thenS]
set_option maxRecDepth 100000 in
set_option maxHeartbeats 1600000 in
theorem listC_caught (N E : Nat) (er : Int) (a b : Value) (F : Assn) (w : World) (hs : Sat (Sl.block N TEs [a] * (Sl.block E TEr [b] * F)) w) :
 CallsD Tryz.prog 108 #[.pointer (some ⟨N, 0, none⟩), .pointer (some ⟨E, 0, none⟩)] (.panicking (faultC er)) w fun e u' w' => e = .returned (.tuple #[]) ∧ u' = .panicking [{ v := .iface TFa (.agg #[.int .i64 er]), recovered := true }] ∧ Sat (Sl.block N TEs [.slice none 0 0] * (Sl.block E TEr [.int .i64 er] * F)) w' := by
 haveI := hs.i
 refine callsD_of_wpS Tryz.func108 rfl fun c₀ cs hu => ?_
 unfold faultC at hu
 apply wpS_seq
 apply wpS_region
 simp [wpOpsS, go_sem, recoverD, hu, Tryz.ntmps108, Exit.thenS]
 apply wpS_seq
 apply wpS_region
 simp [wpOpsS, go_sem, Exit.thenS]
 refine wpS_cond (t := true) (by simp [Act.eval, Array.replicate]) ?_
 simp only [if_true]
 refine wpS_of_wp ?_
 go_wp2_with fail
 refine Calls.mono (given_any er _ _ hs) ?_
 rintro en w2 ⟨rfl, q2⟩
 haveI := q2.i
 go_wp2
 simp [bodyPostS, results, Tryz.results108]
 exact satI_eq (by ac_rfl)
end Go.Proofs.YtfhbmblbidcmmaaGreat
namespace Go.Proofs.YtfhbmblbidcmmaaGreat
set_option linter.unusedSimpArgs false
set_option linter.unusedVariables false
open Go.RowKit Go.Sl Go.Dk Go.Tr
open Go.Lru (ikey)
attribute [local go_sem ↓] Go.wp_at_zero Go.wp_at_succ
attribute [local go_sem] Go.Sl.cell_sat Go.Sl.frozen_sat
def pgsA (S M N : Nat) (v : Value) (l : List Int) : Assn := Sl.block S TMB [.map (some M)] * (mp ikey M (inU l) * (Sl.block N TRs [v] * rw TRg 2 v (rgs (pageR l))))
set_option maxRecDepth 100000 in
set_option maxHeartbeats 1600000 in
theorem pg2_seen (S M N : Nat) (no : Int) (n : Nd) (vn v : Value) (l : List Int) (B F : Assn) (w : World) (hN : ReadsN B vn n) (hc : l.contains no = true) (hs : Sat (pgsA S M N v l * (B * F)) w) :
 Calls Tryz.prog 119 #[.int .i64 no, vn, .pointer (some ⟨S, 0, none⟩), .pointer (some ⟨N, 0, none⟩)] w fun e w' => e = .returned (.bool false) ∧ Sat (pgsA S M N v l * (B * F)) w' := by
 obtain ⟨vE, vK, rfl, hE, hK⟩ := hN
 have HS : Aside (Sat (pgsA S M N v l * (B * F)) w) := hs
 have h1 : Sat (Sl.block S TMB [.map (some M)] * (mp ikey M (inU l) * (Sl.block N TRs [v] * (rw TRg 2 v (rgs (pageR l)) * (B * F))))) w := hs.eq (by unfold pgsA; ac_rfl)
 have hg := mget_inU no l
 rw [hc] at hg
 have l1 := fun w => @look_MB w M no
 haveI := h1.i
 clear hE hK hs hc
 go_enter Tryz.func119, Tryz.ntmps119
 go_wp2
 go_ret
 refine ⟨rfl, ?_⟩
 exact satI_weak (C := Sl.block w.heap.size TNd [.bool n.leaf, vE, vK]) (by unfold pgsA; ac_rfl)
set_option maxRecDepth 100000 in
set_option maxHeartbeats 1600000 in
theorem pg2_new (S M N : Nat) (no : Int) (n : Nd) (vn v : Value) (l : List Int) (B F : Assn) (w : World) (hN : ReadsN B vn n) (hc : l.contains no = false) (h0 : 0 ≤ no) (h9 : no < 1099511627776) (hl : l.length ≤ 1048576) (hs : Sat (pgsA S M N v l * (B * F)) w) :
 Calls Tryz.prog 119 #[.int .i64 no, vn, .pointer (some ⟨S, 0, none⟩), .pointer (some ⟨N, 0, none⟩)] w fun e w' => e = .returned (.bool true) ∧ ∃ v', Sat (pgsA S M N v' (l ++ [no]) * (B * F)) w' := by
 obtain ⟨vE, vK, rfl, hE, hK⟩ := hN
 obtain ⟨i0, EP⟩ := elemRg
 have h0 : Sat (rw TRg 2 v (rgs (pageR l)) * (Sl.block S TMB [.map (some M)] * (mp ikey M (inU l) * (Sl.block N TRs [v] * (B * F))))) w := hs.eq (by unfold pgsA; ac_rfl)
 obtain ⟨a, m, c, rfl, h3, _⟩ := rw_v h0
 have hm : l.length = m := by rw [rgs_len] at h3; simp [pageR] at h3; omega
 have h1 : Sat (Sl.block S TMB [.map (some M)] * (mp ikey M (inU l) * (Sl.block N TRs [.slice a m c] * (rw TRg 2 (.slice a m c) (rgs (pageR l)) * (B * F))))) w := h0.eq (by ac_rfl)
 have hg := mget_inU no l
 rw [hc] at hg
 have l1 := fun w => @look_MB w M no
 have p1 := fun w => @put_MB w M no (.bool true)
 have mp1 := mput_inU no l hc
 rw [hm] at hl
 haveI := h1.i
 clear hE hK hs hc h3 hm h0
 go_enter Tryz.func119, Tryz.ntmps119
 go_wp2_with (at_builtin; go_loud (refine wpl_append_same EP rfl (.tmp 12) (.tmp 17) rfl rfl rfl (takeI (rw TRg 2 (.slice a m c) (rgs (pageR l)))) (Src.new (e := TRg) (s := 2) (vs := [.int .i64 no, .int .i64 (no + 1)]) (takeI _) rfl (by intro u hu; simp at hu; rcases hu with rfl | rfl <;> rfl)) (by unfold maxLen; omega) (by omega) ?_; intro a' c' w3 hs6 hnil; haveI := hs6.i; clear hnil))
 go_ret
 refine ⟨rfl, .slice a' (m + 1) c', ?_⟩
 have e1 : rgs (pageR (l ++ [no])) = rgs (pageR l) ++ [.int .i64 no, .int .i64 (no + 1)] := by simp [pageR, rgs, rgR]
 unfold pgsA
 rw [e1, ← mp1]
 exact satI_weak (C := Sl.block w.heap.size TNd [.bool n.leaf, vE, vK] * Sl.block (putW Tryz.prog TMB M (ikey no) (Value.bool true) (w.alloc (.cells #[Value.bool n.leaf, vE, vK] TNd))).heap.size TRg [.int .i64 no, .int .i64 (no + 1)]) (by ac_rfl)
end Go.Proofs.YtfhbmblbidcmmaaGreat
namespace Go.Proofs.YtfhbmblbidcmmaaGreat
set_option linter.unusedSimpArgs false
set_option linter.unusedVariables false
open Go.RowKit Go.Sl Go.Dk Go.Tr
attribute [local go_sem ↓] Go.wp_at_zero Go.wp_at_succ
attribute [local go_sem] Go.Sl.cell_sat Go.Sl.frozen_sat
def WalkOut (h : Th) (N : Nat) (F : Assn) (r : Res TS (List Ent)) (e : Ending) (w' : World) : Prop := match r with
 | .ok o s => e = .returned (.tuple #[]) ∧ o.length ≤ 1024 ∧ ∃ (a : Option Addr) (c : Nat), Sat (treeP h s * (Sl.block N TEs [.slice a o.length c] * (rw TEn 4 (.slice a o.length c) (ecs o) * F))) w'
 | .fault n s => e = .panicked (faultC n) ∧ ∃ v, Sat (treeP h s * (Sl.block N TEs [v] * F)) w'
 | .bad => False
def WalkC (f : Nat) : Prop := ∀ (h : Th) (s : TS) (no : Int) (o : List Ent) (N : Nat) (a : Option Addr) (c : Nat) (F : Assn) (w : World), f ≤ 21 → o.length ≤ 1024 → Sat (treeP h s * (Sl.block N TEs [.slice a o.length c] * (rw TEn 4 (.slice a o.length c) (ecs o) * F))) w → listTo tRead f no o s ≠ .bad →
 Calls Tryz.prog 109 #[.pointer (some ⟨h.t, 0, none⟩), .int .i64 no, .int .i64 (21 - (f : Int)), .func (Fn.func 110) #[] #[.pointer (some ⟨N, 0, none⟩)]] w (WalkOut h N F (listTo tRead f no o s))
set_option maxRecDepth 100000 in
set_option maxHeartbeats 1600000 in
theorem walk_zero : WalkC 0 := by
 intro h s no o N a c F w hf ho hs hb
 have hR : listTo tRead 0 no o s = .fault 13 s := rfl
 rw [hR]
 haveI := hs.i
 go_enter Tryz.func109, Tryz.ntmps109
 go_wp2
 exact ⟨rfl, rfl, .slice a o.length c, keep3 _ _ _⟩
set_option maxRecDepth 100000 in
set_option maxHeartbeats 6400000 in
theorem walk_succ (f : Nat) (ih : WalkC f) : WalkC (f + 1) := by
 intro h s no o N a c F w hf ho hs hb
 obtain ⟨R, hR⟩ : ∃ R, listTo tRead (f + 1) no o s = R := ⟨_, rfl⟩
 rw [hR] at hb ⊢
 have HB : Aside (R ≠ .bad) := hb
 have HI : Aside (WalkC f) := ih
 have HR : Aside (M.bind (tRead no) (fun n => if 1024 < (o ++ n.ents).length then M.fail 13 else kidsTo (listTo tRead f) n.kids (o ++ n.ents)) s = R) := hR
 have c1 := fun F w q => tread_any h s no F w q (bind_nb HR.out HB.out)
 have hdeep : ¬ (20 : Int) < 21 - ((f + 1 : Nat) : Int) := by omega
 obtain ⟨dp, hdp⟩ : ∃ d, (21 : Int) - ((f + 1 : Nat) : Int) = d := ⟨_, rfl⟩
 have HDP : Aside (dp + 1 = 21 - (f : Int)) := (by omega : dp + 1 = 21 - (f : Int))
 have hdb : -1 ≤ dp ∧ dp ≤ 20 := by omega
 rw [hdp] at hdeep ⊢
 have HO : Aside (o.length ≤ 1024) := ho
 haveI := hs.i
 clear hR hb ih hdp
 go_enter Tryz.func109, Tryz.ntmps109
 go_wp2_with fail
 with_reducible refine Calls.mono (c1 _ _ (takeI (treeP h s))) ?_
 rintro e w1 hx0
 obtain ⟨r1, hm1⟩ : ∃ r, r = tRead no s := ⟨_, rfl⟩
 rw [← hm1] at hx0
 rcases r1 with ⟨y, s2⟩ | ⟨er, s2⟩ | _
 rotate_left
 · obtain ⟨rfl, q1⟩ := hx0
   haveI := q1.i
   have hRR := bind_up HR.out hm1.symm
   subst hRR
   exact ⟨rfl, rfl, .slice a o.length c, keep3 _ _ _⟩
 · exact absurd (bind_bad HR.out hm1.symm) HB.out
 obtain ⟨v1, B2, rfl, ⟨hx, hma⟩, q1⟩ := hx0
 have hg0 := bind_go HR.out hm1.symm
 have HG : Aside ((if 1024 < (o ++ y.ents).length then M.fail 13 else kidsTo (listTo tRead f) y.kids (o ++ y.ents)) s2 = R) := hg0
 have hsee := fun F w q => see_any no y v1 N o a c B2 F w hx hma HO.out q
 have HMa : Aside (may y = true) := hma
 obtain ⟨se, sk, rfl, hE, hK⟩ := id hx
 obtain ⟨a1, c1', rfl, hE1, hE2⟩ := hE.v
 obtain ⟨a2, c2, rfl, hK1, hK2⟩ := ReadsR.v hK
 obtain ⟨hl1, hl2⟩ := may_len hma
 obtain ⟨ne, hne⟩ : ∃ ne, y.ents.length = ne := ⟨_, rfl⟩
 obtain ⟨nk, hnk⟩ : ∃ nk, y.kids.length = nk := ⟨_, rfl⟩
 have HK : Aside (ReadsK B2 (.slice a2 y.kids.length c2) y.kids ∧ y.kids.length = nk) := ⟨hK, hnk⟩
 rw [hne] at hl1 hE1 hsee ⊢
 rw [hnk] at hl2 hK1 hsee ⊢
 obtain ⟨N8, hN8⟩ : ∃ M, w1.heap.size = M := ⟨_, rfl⟩
 haveI := q1.i
 clear hE hK hma hne hnk hm1 HR c1 hx hg0
 go_wp2_with fail
 have q4 : Sat (Sl.block N TEs [.slice a o.length c] * (rw TEn 4 (.slice a o.length c) (ecs o) * (B2 * (treeP h s2 * (Sl.block N8 TNd [.bool y.leaf, .slice a1 ne c1', .slice a2 nk c2] * F))))) (w1.alloc (.cells #[.bool y.leaf, .slice a1 ne c1', .slice a2 nk c2] TNd)) := by
  rw [← hN8]
  exact satI_eq (by ac_rfl)
 try rw [hN8]
 clear hN8 q1
 with_reducible refine Calls.mono (hsee _ _ q4) ?_
 rintro e w3 ⟨a3, c3, h3⟩
 rcases h3 with ⟨hc, rfl, q5⟩ | ⟨hc, rfl, q5⟩
 · have hRR : R = .fault 13 s2 := by have := HG.out; rw [if_pos hc] at this; exact this.symm
   subst hRR
   haveI := q5.i
   exact ⟨rfl, rfl, .slice a3 (o ++ y.ents).length c3, keep3 _ _ _⟩
 · have hG2 := HG.out
   rw [if_neg hc] at hG2
   have HG2 : Aside (kidsTo (listTo tRead f) y.kids (o ++ y.ents) s2 = R) := hG2
   obtain ⟨o3, ho3⟩ : ∃ x, o ++ y.ents = x := ⟨_, rfl⟩
   rw [ho3] at hc q5 HG2
   haveI := q5.i
   have q6 : Sat (treeP h s2 * (Sl.block N TEs [.slice a3 o3.length c3] * (rw TEn 4 (.slice a3 o3.length c3) (ecs o3) * (B2 * (Sl.block N8 TNd [.bool y.leaf, .slice a1 ne c1', .slice a2 nk c2] * F))))) w3 := satI_eq (by ac_rfl)
   haveI := q6.i
   clear q4 q5 hsee hG2 ho3 HG
   go_wp2_with fail
   go_loopg [26] nk (fun g t26 wr => ∃ (i : Nat) (o4 : List Ent) (a4 : Option Addr) (c4 : Nat) (s4 : TS), t26 = .int .i64 i ∧ i ≤ nk ∧ Aside (g = nk - i ∧ o4.length ≤ 1024 ∧ kidsTo (listTo tRead f) (y.kids.drop i) o4 s4 = R) ∧
    Sat (treeP h s4 * (Sl.block N TEs [.slice a4 o4.length c4] * (rw TEn 4 (.slice a4 o4.length c4) (ecs o4) * (B2 * (Sl.block N8 TNd [.bool y.leaf, .slice a1 ne c1', .slice a2 nk c2] * F))))) wr)
   case atStart => exact ⟨0, o3, a3, c3, s2, rfl, by omega, ⟨rfl, by omega, HG2.out⟩, q6⟩
   case round =>
    obtain ⟨i, o4, a4, c4, s4, rfl, hi, A, q7⟩ := hrel
    clear q6
    haveI := q7.i
    by_cases hlt : i < nk
    · have hlt' : (i : Int) < nk := by omega
      obtain ⟨k, hk⟩ : ∃ k, y.kids[i]? = some k := ⟨_, List.getElem?_eq_getElem (by have := HK.out.2; omega)⟩
      obtain ⟨b, q, rfl, r1, r2, r3, r4⟩ := readsK_at HK.out.1 hk
      have hd : y.kids.drop i = k :: y.kids.drop (i + 1) := by
       obtain ⟨u1, u2⟩ := List.getElem?_eq_some_iff.1 hk
       rw [List.drop_eq_getElem_cons u1, u2]
      have hA := A.out.2.2
      rw [hd] at hA
      have HS : Aside (M.bind (listTo tRead f k.page o4) (kidsTo (listTo tRead f) (y.kids.drop (i + 1))) s4 = R) := hA
      have hrec := fun F w q => HI.out h s4 k.page o4 N a4 c4 F w (by omega) A.out.2.1 q (bind_nb HS.out HB.out)
      obtain ⟨m, hm⟩ : ∃ m, listTo tRead f k.page o4 s4 = m := ⟨_, rfl⟩
      have HM : Aside (listTo tRead f k.page o4 s4 = m) := hm
      rw [hm, ← HDP.out] at hrec
      have hw : IntKind.i64.wrap (dp + 1) = dp + 1 := IntWalk.i64_in _ (by omega)
      have hnb := bind_nb HS.out HB.out
      obtain ⟨k1, k2, k3, k4⟩ := k
      simp only at r1 r2 r3 r4 hrec HS HM
      clear hk hd hA hm
      go_wp2_with fail
      with_reducible refine Calls.mono (hrec _ _ (takeI3 (treeP h s4) (Sl.block N TEs [.slice a4 o4.length c4]) (rw TEn 4 (.slice a4 o4.length c4) (ecs o4)))) ?_
      rintro e w5 h5
      cases m with
      | bad => exact absurd HM.out (bind_nb HS.out HB.out)
      | fault er s5 =>
        obtain ⟨rfl, v5, q8⟩ := h5
        haveI := q8.i
        have hRR := bind_up HS.out HM.out
        subst hRR
        exact ⟨rfl, rfl, v5, keep3 _ _ _⟩
      | ok o5 s5 =>
        obtain ⟨rfl, ho5, a5, c5, q8⟩ := h5
        have hg5 := bind_go HS.out HM.out
        have HO5 : Aside (o5.length ≤ 1024 ∧ kidsTo (listTo tRead f) (y.kids.drop (i + 1)) o5 s5 = R) := ⟨ho5, hg5⟩
        haveI := q8.i
        clear hrec hnb hg5 ho5 HS HM q7
        go_wp2_with fail
        go_roundg (nk - (i + 1))
        case measure => have := A.out.1; omega
        case rel => exact ⟨i + 1, o5, a5, c5, s5, by go_num, by omega, ⟨rfl, HO5.out.1, HO5.out.2⟩, keep6 _ _ _ _ _ _⟩
    · have hlt' : ¬ (i : Int) < nk := by omega
      obtain rfl : i = nk := by omega
      have hA := A.out.2.2
      rw [List.drop_of_length_le (by rw [HK.out.2]; exact Nat.le_refl _)] at hA
      have hRR : R = .ok o4 s4 := hA.symm
      subst hRR
      have HO4 : Aside (o4.length ≤ 1024) := A.out.2.1
      clear hA A
      go_wp2
      go_end0
      exact ⟨rfl, HO4.out, a4, c4, keep4 _ _ _ _⟩
theorem walk_any (f : Nat) : WalkC f := by
 induction f with
 | zero => exact walk_zero
 | succ f ih => exact walk_succ f ih
end Go.Proofs.YtfhbmblbidcmmaaGreat
namespace Go.Tr
def kidsP {σ : Type} (g : Int → List Int → M σ (List Int)) : List Kd → List Int → M σ (List Int)
 | [], out => M.pure out
 | k :: ks, out => M.bind (g k.page out) (kidsP g ks)
def pagesTo {σ : Type} (rd : Int → M σ Nd) : Nat → Int → List Int → M σ (List Int)
 | 0, _, _ => M.fail 13
 | f + 1, no, l => M.bind (rd no) fun n => if l.contains no = true then M.pure l else if 1048576 < l.length ∨ no < 0 ∨ 1099511627776 ≤ no then (fun _ => .bad) else kidsP (pagesTo rd f) n.kids (l ++ [no])
end Go.Tr
namespace Go.Proofs.YtfhbmblbidcmmaaGreat
set_option linter.unusedSimpArgs false
set_option linter.unusedVariables false
open Go.RowKit Go.Sl Go.Dk Go.Tr
attribute [local go_sem ↓] Go.wp_at_zero Go.wp_at_succ
attribute [local go_sem] Go.Sl.cell_sat Go.Sl.frozen_sat
def WalkOutP (h : Th) (S M N : Nat) (F : Assn) (r : Res TS (List Int)) (e : Ending) (w' : World) : Prop := match r with
 | .ok o s => e = .returned (.tuple #[]) ∧ ∃ v, Sat (treeP h s * (pgsA S M N v o * F)) w'
 | .fault n s => e = .panicked (faultC n) ∧ ∃ v o, Sat (treeP h s * (pgsA S M N v o * F)) w'
 | .bad => False
def WalkP (f : Nat) : Prop := ∀ (h : Th) (s : TS) (no : Int) (o : List Int) (S M N : Nat) (v : Value) (F : Assn) (w : World), f ≤ 21 → Sat (treeP h s * (pgsA S M N v o * F)) w → pagesTo tRead f no o s ≠ .bad →
 Calls Tryz.prog 109 #[.pointer (some ⟨h.t, 0, none⟩), .int .i64 no, .int .i64 (21 - (f : Int)), .func (Fn.func 119) #[] #[.pointer (some ⟨S, 0, none⟩), .pointer (some ⟨N, 0, none⟩)]] w (WalkOutP h S M N F (pagesTo tRead f no o s))
set_option maxRecDepth 100000 in
set_option maxHeartbeats 1600000 in
theorem walkP_zero : WalkP 0 := by
 intro h s no o S M N v F w hf hs hb
 have hR : pagesTo tRead 0 no o s = .fault 13 s := rfl
 rw [hR]
 haveI := hs.i
 go_enter Tryz.func109, Tryz.ntmps109
 go_wp2
 exact ⟨rfl, rfl, v, o, keep2 _ _⟩
set_option maxRecDepth 100000 in
set_option maxHeartbeats 6400000 in
theorem walkP_succ (f : Nat) (ih : WalkP f) : WalkP (f + 1) := by
 intro h s no o S U N v F w hf hs hb
 obtain ⟨R, hR⟩ : ∃ R, pagesTo tRead (f + 1) no o s = R := ⟨_, rfl⟩
 rw [hR] at hb ⊢
 have HB : Aside (R ≠ .bad) := hb
 have HI : Aside (WalkP f) := ih
 have HR : Aside (M.bind (tRead no) (fun n => if o.contains no = true then M.pure o else if 1048576 < o.length ∨ no < 0 ∨ 1099511627776 ≤ no then (fun _ => .bad) else kidsP (pagesTo tRead f) n.kids (o ++ [no])) s = R) := hR
 have c1 := fun F w q => tread_any h s no F w q (bind_nb HR.out HB.out)
 have hdeep : ¬ (20 : Int) < 21 - ((f + 1 : Nat) : Int) := by omega
 obtain ⟨dp, hdp⟩ : ∃ d, (21 : Int) - ((f + 1 : Nat) : Int) = d := ⟨_, rfl⟩
 have HDP : Aside (dp + 1 = 21 - (f : Int)) := (by omega : dp + 1 = 21 - (f : Int))
 have hdb : -1 ≤ dp ∧ dp ≤ 20 := by omega
 rw [hdp] at hdeep ⊢
 haveI := hs.i
 clear hR hb ih hdp
 go_enter Tryz.func109, Tryz.ntmps109
 go_wp2_with fail
 with_reducible refine Calls.mono (c1 _ _ (takeI (treeP h s))) ?_
 rintro e w1 hx0
 obtain ⟨r1, hm1⟩ : ∃ r, r = tRead no s := ⟨_, rfl⟩
 rw [← hm1] at hx0
 rcases r1 with ⟨y, s2⟩ | ⟨er, s2⟩ | _
 rotate_left
 · obtain ⟨rfl, q1⟩ := hx0
   haveI := q1.i
   have hRR := bind_up HR.out hm1.symm
   subst hRR
   exact ⟨rfl, rfl, v, o, keep3 _ _ _⟩
 · exact absurd (bind_bad HR.out hm1.symm) HB.out
 obtain ⟨v1, B2, rfl, ⟨hx, hma⟩, q1⟩ := hx0
 have hg0 := bind_go HR.out hm1.symm
 have HG : Aside ((if o.contains no = true then M.pure o else if 1048576 < o.length ∨ no < 0 ∨ 1099511627776 ≤ no then (fun _ => .bad) else kidsP (pagesTo tRead f) y.kids (o ++ [no])) s2 = R) := hg0
 have HMa : Aside (may y = true) := hma
 obtain ⟨se, sk, rfl, hE, hK⟩ := id hx
 obtain ⟨a1, c1', rfl, hE1, hE2⟩ := hE.v
 obtain ⟨a2, c2, rfl, hK1, hK2⟩ := ReadsR.v hK
 obtain ⟨hl1, hl2⟩ := may_len hma
 obtain ⟨ne, hne⟩ : ∃ ne, y.ents.length = ne := ⟨_, rfl⟩
 obtain ⟨nk, hnk⟩ : ∃ nk, y.kids.length = nk := ⟨_, rfl⟩
 have HK : Aside (ReadsK B2 (.slice a2 y.kids.length c2) y.kids ∧ y.kids.length = nk) := ⟨hK, hnk⟩
 rw [hne] at hl1 hE1 ⊢
 rw [hnk] at hl2 hK1 ⊢
 have HX : Aside (ReadsN B2 (.agg #[.bool y.leaf, .slice a1 ne c1', .slice a2 nk c2]) y) := (by rw [← hne, ← hnk]; exact hx : ReadsN _ _ _)
 obtain ⟨N8, hN8⟩ : ∃ M, w1.heap.size = M := ⟨_, rfl⟩
 haveI := q1.i
 clear hE hK hma hne hnk hm1 HR c1 hx hg0
 go_wp2_with fail
 have q4 : Sat (pgsA S U N v o * (B2 * (treeP h s2 * (Sl.block N8 TNd [.bool y.leaf, .slice a1 ne c1', .slice a2 nk c2] * F)))) (w1.alloc (.cells #[.bool y.leaf, .slice a1 ne c1', .slice a2 nk c2] TNd)) := by
  rw [← hN8]
  exact satI_eq (by ac_rfl)
 try rw [hN8]
 clear hN8 q1
 cases hcc : o.contains no
 rotate_left
 · with_reducible refine Calls.mono (pg2_seen S U N no y _ v o B2 _ _ HX.out hcc q4) ?_
   rintro e w3 ⟨rfl, q5⟩
   have hRR : R = .ok o s2 := by have := HG.out; rw [if_pos hcc] at this; exact this.symm
   subst hRR
   haveI := q5.i
   clear q4
   go_wp2
   go_end0
   exact ⟨rfl, v, keep3 _ _ _⟩
 · have hG2 := HG.out
   rw [if_neg (by rw [hcc]; decide)] at hG2
   have hbd : ¬ (1048576 < o.length ∨ no < 0 ∨ 1099511627776 ≤ no) := fun hx => by rw [if_pos hx] at hG2; exact HB.out hG2.symm
   rw [if_neg hbd] at hG2
   have HG2 : Aside (kidsP (pagesTo tRead f) y.kids (o ++ [no]) s2 = R) := hG2
   with_reducible refine Calls.mono (pg2_new S U N no y _ v o B2 _ _ HX.out hcc (by omega) (by omega) (by omega) q4) ?_
   rintro e w3 ⟨rfl, v3, q5⟩
   obtain ⟨o3, ho3⟩ : ∃ x, o ++ [no] = x := ⟨_, rfl⟩
   rw [ho3] at q5 HG2
   haveI := q5.i
   have q6 : Sat (treeP h s2 * (pgsA S U N v3 o3 * (B2 * (Sl.block N8 TNd [.bool y.leaf, .slice a1 ne c1', .slice a2 nk c2] * F)))) w3 := satI_eq (by ac_rfl)
   haveI := q6.i
   clear q4 q5 hG2 ho3 HG hbd hcc
   go_wp2_with fail
   go_loopg [26] nk (fun g t26 wr => ∃ (i : Nat) (o4 : List Int) (v4 : Value) (s4 : TS), t26 = .int .i64 i ∧ i ≤ nk ∧ Aside (g = nk - i ∧ kidsP (pagesTo tRead f) (y.kids.drop i) o4 s4 = R) ∧
    Sat (treeP h s4 * (pgsA S U N v4 o4 * (B2 * (Sl.block N8 TNd [.bool y.leaf, .slice a1 ne c1', .slice a2 nk c2] * F)))) wr)
   case atStart => exact ⟨0, o3, v3, s2, rfl, by omega, ⟨rfl, HG2.out⟩, q6⟩
   case round =>
    obtain ⟨i, o4, v4, s4, rfl, hi, A, q7⟩ := hrel
    clear q6
    haveI := q7.i
    by_cases hlt : i < nk
    · have hlt' : (i : Int) < nk := by omega
      obtain ⟨k, hk⟩ : ∃ k, y.kids[i]? = some k := ⟨_, List.getElem?_eq_getElem (by have := HK.out.2; omega)⟩
      obtain ⟨b, q, rfl, r1, r2, r3, r4⟩ := readsK_at HK.out.1 hk
      have hd : y.kids.drop i = k :: y.kids.drop (i + 1) := by
       obtain ⟨u1, u2⟩ := List.getElem?_eq_some_iff.1 hk
       rw [List.drop_eq_getElem_cons u1, u2]
      have hA := A.out.2
      rw [hd] at hA
      have HS : Aside (M.bind (pagesTo tRead f k.page o4) (kidsP (pagesTo tRead f) (y.kids.drop (i + 1))) s4 = R) := hA
      have hrec := fun F w q => HI.out h s4 k.page o4 S U N v4 F w (by omega) q (bind_nb HS.out HB.out)
      obtain ⟨m, hm⟩ : ∃ m, pagesTo tRead f k.page o4 s4 = m := ⟨_, rfl⟩
      have HM : Aside (pagesTo tRead f k.page o4 s4 = m) := hm
      rw [hm, ← HDP.out] at hrec
      have hw : IntKind.i64.wrap (dp + 1) = dp + 1 := IntWalk.i64_in _ (by omega)
      have hnb := bind_nb HS.out HB.out
      obtain ⟨k1, k2, k3, k4⟩ := k
      simp only at r1 r2 r3 r4 hrec HS HM
      clear hk hd hA hm
      go_wp2_with fail
      with_reducible refine Calls.mono (hrec _ _ (takeI2 (treeP h s4) (pgsA S U N v4 o4))) ?_
      rintro e w5 h5
      cases m with
      | bad => exact absurd HM.out (bind_nb HS.out HB.out)
      | fault er s5 =>
        obtain ⟨rfl, v5, o5, q8⟩ := h5
        haveI := q8.i
        have hRR := bind_up HS.out HM.out
        subst hRR
        exact ⟨rfl, rfl, v5, o5, keep3 _ _ _⟩
      | ok o5 s5 =>
        obtain ⟨rfl, v5, q8⟩ := h5
        have hg5 := bind_go HS.out HM.out
        have HO5 : Aside (kidsP (pagesTo tRead f) (y.kids.drop (i + 1)) o5 s5 = R) := hg5
        haveI := q8.i
        clear hrec hnb hg5 HS HM q7
        go_wp2_with fail
        go_roundg (nk - (i + 1))
        case measure => have := A.out.1; omega
        case rel => exact ⟨i + 1, o5, v5, s5, by go_num, by omega, ⟨rfl, HO5.out⟩, keep5 _ _ _ _ _⟩
    · have hlt' : ¬ (i : Int) < nk := by omega
      obtain rfl : i = nk := by omega
      have hA := A.out.2
      rw [List.drop_of_length_le (by rw [HK.out.2]; exact Nat.le_refl _)] at hA
      have hRR : R = .ok o4 s4 := hA.symm
      subst hRR
      clear hA A
      go_wp2
      go_end0
      exact ⟨rfl, v4, keep3 _ _ _⟩
theorem walkP_any (f : Nat) : WalkP f := by
 induction f with
 | zero => exact walkP_zero
 | succ f ih => exact walkP_succ f ih
end Go.Proofs.YtfhbmblbidcmmaaGreat
