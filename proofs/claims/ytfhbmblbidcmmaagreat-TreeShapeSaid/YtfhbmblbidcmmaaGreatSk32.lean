/-
  Of all roots that are made the pages are a tree in the form of the document, and just these are told, and each is in use. No condition. (part 32)
-/
import Derived.Test.YtfhbmblbidcmmaaGreatSk25
import Derived.Test.YtfhbmblbidcmmaaGreatSk30
import Derived.Test.YtfhbmblbidcmmaaGreatSk31
import Derived.Defers
import Derived.Recover
import Derived.Test.YtfhbmblbidcmmaaGreatSk21
set_option linter.unusedSimpArgs false
set_option linter.unusedVariables false
namespace Go.Proofs.YtfhbmblbidcmmaaGreat
set_option linter.unusedSimpArgs false
set_option linter.unusedVariables false
open Go.RowKit Go.Sl Go.Dk Go.Tr
attribute [local go_sem ↓] Go.wp_at_zero Go.wp_at_succ
attribute [local go_sem] Go.Sl.cell_sat Go.Sl.frozen_sat
abbrev TEr : TypeId := 37
abbrev TIt : TypeId := 3
theorem spBack_len (s : Sp) (m : Nat) : (spBack s m).1.length ≤ s.taken.length := by
 unfold spBack sortI
 simp only [List.length_mergeSort]
 have := backGo_len (s.taken.drop m) s.used []
 rw [List.length_drop, List.length_nil] at this
 omega
theorem forgets_keep (l : List Int) : ∀ s : Ck, (forgets l s).d = s.d ∧ (forgets l s).nm = s.nm ∧ (forgets l s).reads = s.reads := by
 induction l with
 | nil => exact fun s => ⟨rfl, rfl, rfl⟩
 | cons a l ih =>
   intro s
   obtain ⟨h1, h2, h3⟩ := ih (s.forget a).2
   have e : (s.forget a).2.d = s.d ∧ (s.forget a).2.nm = s.nm ∧ (s.forget a).2.reads = s.reads := by
    unfold Ck.forget
    split <;> exact ⟨rfl, rfl, rfl⟩
   show (forgets l (s.forget a).2).d = _ ∧ (forgets l (s.forget a).2).nm = _ ∧ (forgets l (s.forget a).2).reads = _
   exact ⟨h1.trans e.1, h2.trans e.2.1, h3.trans e.2.2⟩
def TS.undone (s : TS) (m : Nat) : TS := ⟨forgets (spBack s.sp m).1 s.ck, (spBack s.sp m).2, s.ops⟩
theorem TsI.undone {s : TS} (h : TsI s) (m : Nat) : TsI (s.undone m) := by
 obtain ⟨k, hk⟩ := h.ck
 obtain ⟨e1, e2, e3⟩ := forgets_keep (spBack s.sp m).1 s.ck
 refine ⟨⟨k, forgets_ok _ hk⟩, ?_, h.ops, h.res, ?_⟩
 · obtain ⟨n1, n2, n3, n4, n5⟩ := h.num
   show Num s.ops (forgets _ s.ck)
   exact ⟨by rw [e1]; exact n1, by rw [e1]; exact n2, by rw [e1, e2]; exact n3, by rw [e3]; exact n4, by rw [e1, e2]; exact n5⟩
 · show (s.sp.taken.take m).length ≤ s.ops
   have := h.taken
   rw [List.length_take]
   omega
set_option maxRecDepth 100000 in
set_option maxHeartbeats 800000 in
theorem undoD_ok (t : Value) (mark : Int) (E : Nat) (u : FrameMode) (F : Assn) (w : World) (hs : Sat (Sl.block E TEr [.int .i64 0] * F) w) :
 CallsD Tryz.prog 81 #[t, .int .i64 mark, .pointer (some ⟨E, 0, none⟩)] u w fun e u' w' => u' = u ∧ (e = .returned (.tuple #[]) ∧ Sat (Sl.block E TEr [.int .i64 0] * F) w') := by
 haveI := hs.i
 go_enter_d Tryz.func81, Tryz.ntmps81
 go_wp2
 go_returns
 exact ⟨rfl, hs⟩
set_option maxRecDepth 100000 in
set_option maxHeartbeats 1600000 in
theorem undoD_parts (h : Th) (ck : Ck) (sp : Sp) (m : Nat) (E : Nat) (e : Int) (u : FrameMode) (F : Assn) (w : World) (he : e ≠ 0) (hok : ∀ l, ∃ k, CkOk k (forgets l ck)) (hm : m ≤ sp.taken.length) (ht : sp.taken.length ≤ 1099511627776) (hlen : (spBack sp m).1.length ≤ 1099511627776)
 (hs : Sat (cacheP h.C h.D ck * (spaceP h.S sp * (Sl.block h.t TTr [.pointer (some ⟨h.C, 0, none⟩), .pointer (some ⟨h.S, 0, none⟩)] * (Sl.block E TEr [.int .i64 e] * F)))) w) :
 CallsD Tryz.prog 81 #[.pointer (some ⟨h.t, 0, none⟩), .int .i64 m, .pointer (some ⟨E, 0, none⟩)] u w fun en u' w' => u' = u ∧ (en = .returned (.tuple #[]) ∧
  Sat (cacheP h.C h.D (forgets (spBack sp m).1 ck) * (spaceP h.S (spBack sp m).2 * (Sl.block h.t TTr [.pointer (some ⟨h.C, 0, none⟩), .pointer (some ⟨h.S, 0, none⟩)] * (Sl.block E TEr [.int .i64 e] * F)))) w') := by
 have HK : Aside (∀ l, ∃ k, CkOk k (forgets l ck)) := hok
 have hbk := fun F w q => spBack_any h.S sp m F w q hm ht
 obtain ⟨l, hl⟩ : ∃ l, (spBack sp m).1 = l := ⟨_, rfl⟩
 obtain ⟨sp2, hsp⟩ : ∃ x, (spBack sp m).2 = x := ⟨_, rfl⟩
 rw [hl] at hlen
 rw [hl, hsp] at hbk ⊢
 clear hl hsp hok
 haveI := hs.i
 go_enter_d Tryz.func81, Tryz.ntmps81
 go_wp2_with fail
 with_reducible refine Calls.mono (hbk _ _ (takeI (spaceP h.S sp))) ?_
 rintro en w2 ⟨a, c, rfl, q2⟩
 haveI := q2.i
 clear hbk
 go_wp2_with fail
 obtain ⟨n, hn⟩ : ∃ n, l.length = n := ⟨_, rfl⟩
 have HN : Aside (l.length = n) := hn
 rw [hn] at hlen q2 ⊢
 clear hn this
 haveI := q2.i
 have q3 : Sat (cacheP h.C h.D ck * (spaceP h.S sp2 * (Sl.block h.t TTr [.pointer (some ⟨h.C, 0, none⟩), .pointer (some ⟨h.S, 0, none⟩)] * (Sl.block E TEr [.int .i64 e] * (rw TIn 1 (.slice a n c) (ints l) * F))))) w2 := satI_eq (by ac_rfl)
 clear q2 hs this
 go_loopg [25] n (fun g t25 wr => ∃ (i : Nat) (ck2 : Ck), t25 = .int .i64 i ∧ i ≤ n ∧ Aside (g = n - i ∧ ck2 = forgets (l.take i) ck) ∧ Sat (cacheP h.C h.D ck2 * (spaceP h.S sp2 * (Sl.block h.t TTr [.pointer (some ⟨h.C, 0, none⟩), .pointer (some ⟨h.S, 0, none⟩)] * (Sl.block E TEr [.int .i64 e] * (rw TIn 1 (.slice a n c) (ints l) * F))))) wr)
 case atStart => exact ⟨0, ck, rfl, by omega, ⟨rfl, rfl⟩, q3⟩
 case round =>
  obtain ⟨i, ck2, rfl, hi, A, hsr⟩ := hrel
  clear q3
  by_cases hlt : i < n
  · have hlt' : (i : Int) < n := by omega
    obtain ⟨no, hno⟩ : ∃ no, l[i]? = some no := ⟨_, List.getElem?_eq_getElem (by have := HN.out; omega)⟩
    have q4 : Sat (rw TIn 1 (.slice a n c) (ints l) * (cacheP h.C h.D ck2 * (spaceP h.S sp2 * (Sl.block h.t TTr [.pointer (some ⟨h.C, 0, none⟩), .pointer (some ⟨h.S, 0, none⟩)] * (Sl.block E TEr [.int .i64 e] * F))))) wr := hsr.eq (by ac_rfl)
    obtain ⟨g, rfl⟩ := row_some q4 (by omega)
    have hat : (ints l)[i]? = some (.int .i64 no) := by unfold ints; simp [hno]
    haveI : At (ints l) i (.int .i64 no) := ⟨hat⟩
    obtain ⟨k, hk⟩ := HK.out (l.take i)
    rw [← A.out.2] at hk
    have hfo := fun F w q => forget_any h.C h.D ck2 k no F w q hk
    have HS : Aside ((ck2.forget no).2 = forgets (l.take (i + 1)) ck) := (by rw [take_snoc' hno]; unfold forgets; rw [List.foldl_append, A.out.2]; rfl : _ = _)
    obtain ⟨ck3, h3⟩ : ∃ x, (ck2.forget no).2 = x := ⟨_, rfl⟩
    rw [h3] at hfo HS
    haveI := hsr.i
    clear hat hno h3 hk
    go_wp2_with fail
    with_reducible refine Calls.mono (hfo _ _ (takeI (cacheP h.C h.D ck2))) ?_
    rintro en w4 ⟨rfl, q5⟩
    haveI := q5.i
    go_wp2_with fail
    go_roundg (n - (i + 1))
    case measure => have := A.out.1; omega
    case rel => exact ⟨i + 1, ck3, by go_num, by omega, ⟨rfl, HS.out⟩, keep6 _ _ _ _ _ _⟩
  · have hlt' : ¬ (i : Int) < n := by omega
    obtain rfl : i = n := by omega
    have hck : ck2 = forgets l ck := by have := A.out.2; rwa [List.take_of_length_le (by rw [HN.out]; exact Nat.le_refl _)] at this
    haveI := hsr.i
    subst hck
    go_wp2
    go_returns
    exact ⟨rfl, keep5 _ _ _ _ _⟩
theorem undoD_er (h : Th) (s : TS) (m : Nat) (E : Nat) (e : Int) (u : FrameMode) (F : Assn) (w : World) (he : e ≠ 0) (hm : m ≤ s.sp.taken.length) (hs : Sat (treeP h s * (Sl.block E TEr [.int .i64 e] * F)) w) :
 CallsD Tryz.prog 81 #[.pointer (some ⟨h.t, 0, none⟩), .int .i64 m, .pointer (some ⟨E, 0, none⟩)] u w fun en u' w' => u' = u ∧ (en = .returned (.tuple #[]) ∧ Sat (treeP h (s.undone m) * (Sl.block E TEr [.int .i64 e] * F)) w') := by
 obtain ⟨hi, hp⟩ := tree_parts hs
 obtain ⟨k, hk⟩ := hi.ck
 have hl := spBack_len s.sp m
 have ho := hi.ops
 have htk := hi.taken
 unfold opsMax at ho
 refine (undoD_parts h s.ck s.sp m E e u F w he (fun l => ⟨k, forgets_ok l hk⟩) hm (by omega) (by omega) hp).mono ?_
 rintro en u' w' ⟨h1, h2, h3⟩
 exact ⟨h1, h2, tree_join (hi.undone m) h3⟩
set_option maxRecDepth 100000 in
set_option maxHeartbeats 1600000 in
theorem buildC_idle (N E : Nat) (w : World) :
 CallsD Tryz.prog 83 #[.pointer (some ⟨N, 0, none⟩), .pointer (some ⟨E, 0, none⟩)] .returning w fun e u' w' => e = .returned (.tuple #[]) ∧ u' = .returning ∧ w' = w := by
 refine callsD_of_wpS Tryz.func83 rfl fun c₀ cs hu => ?_
 apply wpS_seq
 apply wpS_region
 simp [wpOpsS, go_sem, recoverD, hu, Tryz.ntmps83, Exit.thenS]
 apply wpS_seq
 apply wpS_region
 simp [wpOpsS, go_sem, Exit.thenS]
 refine wpS_cond (t := false) (by simp [Act.eval, Array.replicate]) ?_
 simp only [Bool.false_eq_true, if_false]
 refine wpS_of_wp (wp_skip ?_)
 cases c₀
 simp_all [bodyPostS, results, Tryz.results83, Exit.thenS]
set_option maxRecDepth 100000 in
set_option maxHeartbeats 1600000 in
theorem buildC_caught (N E : Nat) (er : Int) (a b : Value) (F : Assn) (w : World) (hs : Sat (Sl.block N TIt [a] * (Sl.block E TEr [b] * F)) w) :
 CallsD Tryz.prog 83 #[.pointer (some ⟨N, 0, none⟩), .pointer (some ⟨E, 0, none⟩)] (.panicking (faultC er)) w fun e u' w' => e = .returned (.tuple #[]) ∧ u' = .panicking [{ v := .iface TFa (.agg #[.int .i64 er]), recovered := true }] ∧ Sat (Sl.block N TIt [.int .i64 0] * (Sl.block E TEr [.int .i64 er] * F)) w' := by
 haveI := hs.i
 refine callsD_of_wpS Tryz.func83 rfl fun c₀ cs hu => ?_
 unfold faultC at hu
 apply wpS_seq
 apply wpS_region
 simp [wpOpsS, go_sem, recoverD, hu, Tryz.ntmps83, Exit.thenS]
 apply wpS_seq
 apply wpS_region
 simp [wpOpsS, go_sem, Exit.thenS]
 refine wpS_cond (t := true) (by simp [Act.eval, Array.replicate]) ?_
 simp only [if_true]
 refine wpS_of_wp ?_
 go_wp2_with fail
 refine Calls.mono (given_any er _ _ hs) ?_
 rintro en w2 ⟨rfl, q2⟩
 haveI := q2.i
 go_wp2
 simp [bodyPostS, results, Tryz.results83]
 exact satI_eq (by first | rfl | ac_rfl)
set_option maxRecDepth 100000 in
set_option maxHeartbeats 1600000 in
theorem sizeC_idle (N E : Nat) (w : World) :
 CallsD Tryz.prog 138 #[.pointer (some ⟨N, 0, none⟩), .pointer (some ⟨E, 0, none⟩)] .returning w fun e u' w' => e = .returned (.tuple #[]) ∧ u' = .returning ∧ w' = w := by
 refine callsD_of_wpS Tryz.func138 rfl fun c₀ cs hu => ?_
 apply wpS_seq
 apply wpS_region
 simp [wpOpsS, go_sem, recoverD, hu, Tryz.ntmps138, Exit.thenS]
 apply wpS_seq
 apply wpS_region
 simp [wpOpsS, go_sem, Exit.thenS]
 refine wpS_cond (t := false) (by simp [Act.eval, Array.replicate]) ?_
 simp only [Bool.false_eq_true, if_false]
 refine wpS_of_wp (wp_skip ?_)
 cases c₀
 simp_all [bodyPostS, results, Tryz.results138, Exit.thenS]
set_option maxRecDepth 100000 in
set_option maxHeartbeats 1600000 in
theorem sizeC_caught (N E : Nat) (er : Int) (a b : Value) (F : Assn) (w : World) (hs : Sat (Sl.block N TIt [a] * (Sl.block E TEr [b] * F)) w) :
 CallsD Tryz.prog 138 #[.pointer (some ⟨N, 0, none⟩), .pointer (some ⟨E, 0, none⟩)] (.panicking (faultC er)) w fun e u' w' => e = .returned (.tuple #[]) ∧ u' = .panicking [{ v := .iface TFa (.agg #[.int .i64 er]), recovered := true }] ∧ Sat (Sl.block N TIt [.int .i64 0] * (Sl.block E TEr [.int .i64 er] * F)) w' := by
 haveI := hs.i
 refine callsD_of_wpS Tryz.func138 rfl fun c₀ cs hu => ?_
 unfold faultC at hu
 apply wpS_seq
 apply wpS_region
 simp [wpOpsS, go_sem, recoverD, hu, Tryz.ntmps138, Exit.thenS]
 apply wpS_seq
 apply wpS_region
 simp [wpOpsS, go_sem, Exit.thenS]
 refine wpS_cond (t := true) (by simp [Act.eval, Array.replicate]) ?_
 simp only [if_true]
 refine wpS_of_wp ?_
 go_wp2_with fail
 refine Calls.mono (given_any er _ _ hs) ?_
 rintro en w2 ⟨rfl, q2⟩
 haveI := q2.i
 go_wp2
 simp [bodyPostS, results, Tryz.results138]
 exact satI_eq (by first | rfl | ac_rfl)
set_option maxRecDepth 100000 in
set_option maxHeartbeats 1600000 in
theorem spliceC_idle (N E : Nat) (w : World) :
 CallsD Tryz.prog 93 #[.pointer (some ⟨N, 0, none⟩), .pointer (some ⟨E, 0, none⟩)] .returning w fun e u' w' => e = .returned (.tuple #[]) ∧ u' = .returning ∧ w' = w := by
 refine callsD_of_wpS Tryz.func93 rfl fun c₀ cs hu => ?_
 apply wpS_seq
 apply wpS_region
 simp [wpOpsS, go_sem, recoverD, hu, Tryz.ntmps93, Exit.thenS]
 apply wpS_seq
 apply wpS_region
 simp [wpOpsS, go_sem, Exit.thenS]
 refine wpS_cond (t := false) (by simp [Act.eval, Array.replicate]) ?_
 simp only [Bool.false_eq_true, if_false]
 refine wpS_of_wp (wp_skip ?_)
 cases c₀
 simp_all [bodyPostS, results, Tryz.results93, Exit.thenS]
end Go.Proofs.YtfhbmblbidcmmaaGreat
namespace Go.Proofs.YtfhbmblbidcmmaaGreat
set_option linter.unusedSimpArgs false
set_option linter.unusedVariables false
open Go.RowKit Go.Sl Go.Dk Go.Tr
attribute [local go_sem ↓] Go.wp_at_zero Go.wp_at_succ
attribute [local go_sem] Go.Sl.cell_sat Go.Sl.frozen_sat
def Back {α : Type} (h : Th) (F : Assn) (r : Res TS α) (good : α → Value) (bad : Int → Value) (e : Ending) (w' : World) : Prop := match r with
 | .ok a s => e = .returned (good a) ∧ Sat (treeP h s * F) w'
 | .fault n s => e = .returned (bad n) ∧ Sat (treeP h s * F) w'
 | .bad => False
def vi2 (a b : Int) : Value := .tuple #[.int .i64 a, .int .i64 b]
set_option maxRecDepth 100000 in
set_option maxHeartbeats 1600000 in
theorem size_tany (h : Th) (s : TS) (root : Int) (F : Assn) (w : World) (hs : Sat (treeP h s * F) w) (hb : tSize tRead root s ≠ .bad) :
 Calls Tryz.prog 86 #[.pointer (some ⟨h.t, 0, none⟩), .int .i64 root] w (Back h F (tSize tRead root s) (fun z => vi2 z 0) (fun er => vi2 0 er)) := by
 have hmf : ∀ (fn : Fn) (first cap : Array Value) (w : World), (Instr.makeFunc fn first cap).run Tryz.prog w = .ok (.func fn first cap) w := fun _ _ _ _ => rfl
 obtain ⟨R, hR⟩ : ∃ R, tSize tRead root s = R := ⟨_, rfl⟩
 rw [hR] at hb ⊢
 have HB : Aside (R ≠ .bad) := hb
 unfold tSize at hR
 haveI := hs.i
 clear hb
 by_cases h0 : root = 0
 · rw [if_pos h0] at hR
   have hRR : R = .ok 0 s := hR.symm
   subst hRR
   subst h0
   clear hR HB
   go_enter_defers Tryz.func86, Tryz.ntmps86
   go_wp2
   refine leaves_cons (f := 138) (args := #[.pointer (some ⟨w.heap.size, 0, none⟩), .pointer (some ⟨w.heap.size + 1, 0, none⟩)]) (by simp) (by simp [go_sem]) ?_
   refine (sizeC_idle _ _ _).mono ?_
   rintro e u' w'' ⟨rfl, rfl, rfl⟩
   simp [Leaves, settle, results, Tryz.results86, go_sem]
   exact ⟨rfl, keep2 _ _⟩
 · rw [if_neg h0] at hR
   have HR : Aside (M.bind (tRead root) (fun n => M.pure (ndSum n).1) s = R) := hR
   have c1 := fun F w q => tread_any h s root F w q (bind_nb HR.out HB.out)
   have h0' : ((root : Int) == 0) = false := by simpa using h0
   clear hR
   go_enter_defers Tryz.func86, Tryz.ntmps86
   go_wp2_with fail
   with_reducible refine Calls.mono (c1 _ _ (takeI (treeP h s))) ?_
   rintro e w1 hx0
   obtain ⟨r1, hm1⟩ : ∃ r, r = tRead root s := ⟨_, rfl⟩
   rw [← hm1] at hx0
   rcases r1 with ⟨y, s2⟩ | ⟨er, s2⟩ | _
   rotate_left
   · obtain ⟨rfl, q1⟩ := hx0
     haveI := q1.i
     have hRR := bind_up HR.out hm1.symm
     subst hRR
     show bodyPostD _ _ _ (.panic (faultC er)) _ w1
     refine leaves_cons (f := 138) (args := #[.pointer (some ⟨w.heap.size, 0, none⟩), .pointer (some ⟨w.heap.size + 1, 0, none⟩)]) (by simp) (by simp [go_sem]) ?_
     refine (sizeC_caught w.heap.size (w.heap.size + 1) er _ _ _ w1 (takeI2 (Sl.block w.heap.size TIt [.int .i64 0]) (Sl.block (w.heap.size + 1) TEr [.int .i64 0]))).mono ?_
     rintro e u' w2 ⟨rfl, rfl, q2⟩
     haveI := q2.i
     simp [Leaves, settle, results, Tryz.results86, go_sem]
     exact ⟨rfl, keep2 _ _⟩
   · exact absurd (bind_bad HR.out hm1.symm) HB.out
   obtain ⟨v1, B2, rfl, ⟨hx, hma⟩, q1⟩ := hx0
   obtain ⟨hl1, hl2⟩ := may_len hma
   have hRR : R = .ok (ndSum y).1 s2 := (bind_go HR.out hm1.symm).symm
   subst hRR
   have hsm := fun F w q => ndSum_any y v1 B2 F w hx q (by omega) (by omega)
   obtain ⟨se, sk, rfl, hE, hK⟩ := hx
   obtain ⟨a1, c1', rfl, hE1, hE2⟩ := hE.v
   obtain ⟨a2, c2, rfl, hK1, hK2⟩ := ReadsR.v hK
   have q2 : Sat (B2 * (treeP h s2 * (Sl.block (w.heap.size + 1) TEr [.int .i64 0] * (Sl.block w.heap.size TIt [.int .i64 0] * F)))) w1 := q1.eq (by ac_rfl)
   haveI := q2.i
   clear hE hK HR HB c1 hm1 q1
   go_wp2_with fail
   refine Calls.mono (hsm _ _ q2) ?_
   rintro e w3 ⟨rfl, q3⟩
   haveI := q3.i
   go_wp2
   refine leaves_cons (f := 138) (args := #[.pointer (some ⟨w.heap.size, 0, none⟩), .pointer (some ⟨w.heap.size + 1, 0, none⟩)]) (by simp) (by simp [go_sem]) ?_
   refine (sizeC_idle _ _ _).mono ?_
   rintro e u' w'' ⟨rfl, rfl, rfl⟩
   simp [Leaves, settle, results, Tryz.results86, go_sem]
   exact ⟨rfl, keep2 _ _⟩
end Go.Proofs.YtfhbmblbidcmmaaGreat
namespace Go.Tr
set_option linter.unusedSimpArgs false
set_option linter.unusedVariables false
section
variable {σ : Type} {α β : Type} {P : σ → σ → Prop}
structure Goes (P : σ → σ → Prop) : Prop where
 same : ∀ s, P s s
 next : ∀ a b c, P a b → P b c → P a c
def Keeps (P : σ → σ → Prop) (m : M σ α) : Prop := ∀ s, match m s with
 | .ok _ s' => P s s'
 | .fault _ s' => P s s'
 | .bad => True
theorem Keeps.pure (h : Goes P) (a : α) : Keeps P (M.pure a) := fun s => h.same s
theorem Keeps.fail (h : Goes P) (e : Int) : Keeps P (M.fail e : M σ α) := fun s => h.same s
theorem Keeps.bad : Keeps P (M.bad : M σ α) := fun s => trivial
theorem Keeps.bind (h : Goes P) {m : M σ α} {f : α → M σ β} (hm : Keeps P m) (hf : ∀ a, Keeps P (f a)) : Keeps P (M.bind m f) := fun s => by
 have h1 := hm s
 unfold M.bind
 cases hr : m s with
 | bad => trivial
 | fault e s1 => rw [hr] at h1; exact h1
 | ok a s1 =>
   rw [hr] at h1
   have h2 := hf a s1
   simp only [Res.bind] at h1 ⊢
   cases hr2 : f a s1 with
   | bad => trivial
   | fault e s2 => rw [hr2] at h2; exact h.next _ _ _ h1 h2
   | ok b s2 => rw [hr2] at h2; exact h.next _ _ _ h1 h2
theorem Keeps.ite {c : Prop} [Decidable c] {m k : M σ α} (h1 : Keeps P m) (h2 : Keeps P k) : Keeps P (if c then m else k) := by
 split
 · exact h1
 · exact h2
theorem Keeps.ok {m : M σ α} {s s' : σ} {a : α} (h : Keeps P m) (e : m s = .ok a s') : P s s' := by
 have := h s
 rw [e] at this
 exact this
theorem Keeps.fault {m : M σ α} {s s' : σ} {n : Int} (h : Keeps P m) (e : m s = .fault n s') : P s s' := by
 have := h s
 rw [e] at this
 exact this
variable (h : Goes P) {rd : Int → M σ Nd} {wt : Nd → M σ Kd} (hr : ∀ p, Keeps P (rd p)) (hw : ∀ n, Keeps P (wt n))
include h
include hw in
theorem spreadFrom_keeps (n : Nd) (pages : Nat) : ∀ (c i a : Nat) (out : List Kd), Keeps P (spreadFrom wt n pages c i a out)
 | 0, _, _, _ => Keeps.pure h _
 | c + 1, i, a, out => Keeps.bind h (hw _) fun k => spreadFrom_keeps n pages c _ _ _
include hw in
theorem tSpread_keeps (n : Nd) : Keeps P (tSpread wt n) := spreadFrom_keeps h hw n _ _ _ _ _
include hw in
theorem tGrown_keeps : ∀ (f : Nat) (ks : List Kd) (x : Int), Keeps P (tGrown wt f ks x)
 | 0, [], x => Keeps.pure h _
 | f + 1, [], x => Keeps.pure h _
 | 0, [k], x => Keeps.pure h _
 | f + 1, [k], x => Keeps.pure h _
 | 0, a :: b :: l, x => Keeps.bad
 | f + 1, a :: b :: l, x => Keeps.bind h (tSpread_keeps h hw _) fun ks => tGrown_keeps f ks _
include hw in
theorem grown_keeps (ks : List Kd) (x : Int) : Keeps P (grown wt ks x) := tGrown_keeps h hw _ _ _
include hw in
theorem tLeaves_keeps (l : List Ent) : Keeps P (tLeaves wt l) := Keeps.bind h (tSpread_keeps h hw _) fun ks => grown_keeps h hw _ _
include hw in
theorem tOver_keeps (ks : List Kd) (x : Int) : Keeps P (tOver wt ks x) := grown_keeps h hw _ _
include hr hw in
theorem tMeet_keeps : ∀ (f : Nat) (a b : Tall), Keeps P (tMeet rd wt f a b)
 | 0, a, b => Keeps.bad
 | f + 1, a, b => by
   unfold tMeet
   refine Keeps.ite ?_ (Keeps.ite ?_ ?_)
   · refine Keeps.bind h (hr _) fun x => ?_
     split
     · exact Keeps.bad
     · exact Keeps.ite Keeps.bad (Keeps.bind h (tMeet_keeps f _ _) fun r => Keeps.bind h (tSpread_keeps h hw _) fun o => Keeps.pure h _)
   · refine Keeps.bind h (hr _) fun x => ?_
     split
     · exact Keeps.bad
     · exact Keeps.ite Keeps.bad (Keeps.bind h (tMeet_keeps f _ _) fun r => Keeps.bind h (tSpread_keeps h hw _) fun o => Keeps.pure h _)
   · exact Keeps.bind h (hr _) fun x => Keeps.bind h (hr _) fun y => Keeps.ite (Keeps.bind h (tSpread_keeps h hw _) fun o => Keeps.pure h _) Keeps.bad
include hr hw in
theorem tPut_keeps (a b : Tall) : Keeps P (tPut rd wt a b) := Keeps.ite (Keeps.pure h _) (Keeps.ite (Keeps.pure h _) (Keeps.bind h (tMeet_keeps h hr hw _ _ _) fun r => grown_keeps h hw _ _))
include hr hw in
theorem tParted_keeps : ∀ (f : Nat) (x : Tall) (n : Int), Keeps P (tParted rd wt f x n)
 | 0, x, n => by
   unfold tParted
   exact Keeps.ite (Keeps.pure h _) (Keeps.ite (Keeps.pure h _) Keeps.bad)
 | f + 1, x, n => by
   unfold tParted
   refine Keeps.ite (Keeps.pure h _) (Keeps.ite (Keeps.pure h _) (Keeps.bind h (hr _) fun y => Keeps.ite ?_ ?_))
   · split
     · exact Keeps.bad
     · exact Keeps.bind h (tLeaves_keeps h hw _) fun a => Keeps.bind h (tLeaves_keeps h hw _) fun b => Keeps.pure h _
   · split
     · exact Keeps.bad
     · refine Keeps.ite (Keeps.bind h (tOver_keeps h hw _ _) fun a => Keeps.bind h (tOver_keeps h hw _ _) fun b => Keeps.pure h _) ?_
       split
       · exact Keeps.bad
       · exact Keeps.bind h (tParted_keeps f _ _) fun p => Keeps.bind h (tOver_keeps h hw _ _) fun a => Keeps.bind h (tPut_keeps h hr hw _ _) fun a => Keeps.bind h (tOver_keeps h hw _ _) fun b => Keeps.bind h (tPut_keeps h hr hw _ _) fun b => Keeps.pure h _
include hr in
theorem rootedTo_keeps : ∀ (f : Nat) (n : Nd) (x : Int), Keeps P (rootedTo rd f n x)
 | 0, n, x => by
   unfold rootedTo
   exact Keeps.ite (Keeps.pure h _) (Keeps.fail h _)
 | f + 1, n, x => by
   unfold rootedTo
   refine Keeps.ite (Keeps.pure h _) ?_
   simp only
   split
   · exact Keeps.bad
   · exact Keeps.bind h (hr _) fun m => rootedTo_keeps f m _
include hr in
theorem tRooted_keeps (r : Int) : Keeps P (tRooted rd r) := Keeps.ite (Keeps.pure h _) (Keeps.bind h (hr _) fun n => Keeps.bind h (rootedTo_keeps h hr _ _ _) fun x => Keeps.pure h _)
include hr in
theorem seekTo_keeps : ∀ (f : Nat) (n : Nd) (x a : Int), Keeps P (seekTo rd f n x a)
 | 0, n, x, a => Keeps.fail h _
 | f + 1, n, x, a => by
   unfold seekTo
   split
   · exact Keeps.pure h _
   · exact Keeps.fail h _
   · exact Keeps.bind h (hr _) fun m => seekTo_keeps f m _ _
include hr in
theorem tSeek_keeps (r x : Int) : Keeps P (tSeek rd r x) := Keeps.bind h (hr _) fun n => seekTo_keeps h hr _ _ _ _
include hr in
theorem tRank_keeps : ∀ (f : Nat) (x : Tall) (n : Int), Keeps P (tRank rd f x n)
 | 0, x, n => by
   unfold tRank
   exact Keeps.ite (Keeps.pure h _) (Keeps.ite (Keeps.pure h _) Keeps.bad)
 | f + 1, x, n => by
   unfold tRank
   refine Keeps.ite (Keeps.pure h _) (Keeps.ite (Keeps.pure h _) (Keeps.bind h (hr _) fun y => ?_))
   split
   · exact Keeps.pure h _
   · exact Keeps.bind h (tRank_keeps f _ _) fun z => Keeps.pure h _
include hr in
theorem tSize_keeps (r : Int) : Keeps P (tSize rd r) := Keeps.ite (Keeps.pure h _) (Keeps.bind h (hr _) fun n => Keeps.pure h _)
include hw in
theorem tBuild_keeps (l : List Ent) : Keeps P (tBuild wt l) := Keeps.bind h (tLeaves_keeps h hw _) fun t => Keeps.pure h _
include hr in
theorem leftOf_keeps (r x : Int) : Keeps P (leftOf rd r x) := Keeps.ite (Keeps.bind h (tSeek_keeps h hr _ _) fun p => Keeps.pure h _) (Keeps.pure h _)
include hr in
theorem rightOf_keeps (r x a : Int) : Keeps P (rightOf rd r x a) := Keeps.ite (Keeps.bind h (tSeek_keeps h hr _ _) fun p => Keeps.pure h _) (Keeps.pure h _)
include hr hw in
theorem tSplice_keeps (r a n x : Int) (put : List Ent) : Keeps P (tSplice rd wt r a n x put) :=
 Keeps.bind h (leftOf_keeps h hr _ _) fun L => Keeps.bind h (rightOf_keeps h hr _ _ _) fun R => Keeps.bind h (tRooted_keeps h hr _) fun w => Keeps.bind h (tRank_keeps h hr _ _ _) fun r1 => Keeps.bind h (tRank_keeps h hr _ _ _) fun r0 =>
 Keeps.ite (Keeps.fail h _) (Keeps.bind h (tParted_keeps h hr hw _ _ _) fun p => Keeps.bind h (tParted_keeps h hr hw _ _ _) fun q => Keeps.bind h (tLeaves_keeps h hw _) fun m => Keeps.bind h (tPut_keeps h hr hw _ _) fun x => Keeps.bind h (tPut_keeps h hr hw _ _) fun y => Keeps.pure h _)
end
end Go.Tr
namespace Go.Proofs.YtfhbmblbidcmmaaGreat
set_option linter.unusedSimpArgs false
set_option linter.unusedVariables false
open Go.RowKit Go.Sl Go.Dk Go.Tr
def Grow (s s' : TS) : Prop := (∃ l, s'.sp.taken = s.sp.taken ++ l ∧ s'.sp.used = s.sp.used ++ l) ∧ s'.sp.reserved = s.sp.reserved ∧ s'.sp.waiting = s.sp.waiting ∧ s.ops ≤ s'.ops
theorem grow_goes : Goes Grow where
 same s := ⟨⟨[], by simp, by simp⟩, rfl, rfl, Nat.le_refl _⟩
 next := by
  rintro a b c ⟨⟨l, h1, h2⟩, h3, h4, h5⟩ ⟨⟨m, k1, k2⟩, k3, k4, k5⟩
  exact ⟨⟨l ++ m, by rw [k1, h1, List.append_assoc], by rw [k2, h2, List.append_assoc]⟩, k3.trans h3, k4.trans h4, by omega⟩
theorem Grow.len {s s' : TS} (h : Grow s s') : s.sp.taken.length ≤ s'.sp.taken.length := by
 obtain ⟨⟨l, h1, _⟩, _⟩ := h
 rw [h1, List.length_append]
 omega
theorem mFail_keeps (e : Int) : Keeps Grow (mFail e) := by
 unfold mFail
 split
 · exact Keeps.pure grow_goes _
 · exact Keeps.fail grow_goes _
theorem mGet_keeps (no : Int) : Keeps Grow (mGet no) := fun s => by
 unfold mGet
 by_cases h : s.ops < opsMax
 · rw [if_pos h]; exact ⟨⟨[], by simp, by simp⟩, rfl, rfl, by simp only; omega⟩
 · rw [if_neg h]; trivial
theorem mPut_keeps (no : Int) (b : List UInt8) : Keeps Grow (mPut no b) := fun s => ⟨⟨[], by simp, by simp⟩, rfl, rfl, by simp only; omega⟩
theorem mTake_keeps : Keeps Grow mTake := fun s => by
 unfold mTake
 by_cases h : s.ops < opsMax
 · rw [if_pos h]
   unfold Sp.take
   cases s.sp.free with
   | none => exact ⟨⟨[], by simp, by simp⟩, rfl, rfl, by simp only; omega⟩
   | some no => exact ⟨⟨[no], rfl, rfl⟩, rfl, rfl, by simp only; omega⟩
 · rw [if_neg h]; trivial
theorem tRead_keeps (p : Int) : Keeps Grow (tRead p) := by
 refine Keeps.bind grow_goes (mGet_keeps p) fun r => Keeps.bind grow_goes (mFail_keeps _) fun _ => ?_
 cases openNd p r.2 with
 | none => exact Keeps.fail grow_goes _
 | some n => exact Keeps.pure grow_goes _
theorem tWrite_keeps (n : Nd) : Keeps Grow (tWrite n) := by
 refine Keeps.ite (Keeps.fail grow_goes _) ?_
 exact Keeps.bind grow_goes mTake_keeps fun t => Keeps.bind grow_goes (mFail_keeps _) fun _ => Keeps.bind grow_goes (mFail_keeps _) fun _ => Keeps.bind grow_goes (mPut_keeps _ _) fun e => Keeps.bind grow_goes (mFail_keeps _) fun _ => Keeps.pure grow_goes _
def after (m : Nat) {α : Type} : Res TS α → Res TS α
 | .fault e s => .fault e (if e = 0 then s else s.undone m)
 | r => r
def mBuild (l : List Ent) : M TS Int := fun s => if mayList l = false then .fault 1 s else if 1024 < (join l).length then .fault 11 s else after s.sp.taken.length (tBuild tWrite (join l) s)
end Go.Proofs.YtfhbmblbidcmmaaGreat
