/-
  Of any pages in a file a root is found to be a tree just if it is one in the form of the document. No condition. (part 46)
-/
import Derived.Test.YtfhbmblbidcmmaaGreatRk44
import Derived.Test.YtfhbmblbidcmmaaGreatRk45
import Derived.Handy
import Derived.Test.YtfhbmblbidcmmaaGreatRk28
set_option linter.unusedSimpArgs false
set_option linter.unusedVariables false
namespace Go.Proofs.YtfhbmblbidcmmaaGreat
set_option linter.unusedSimpArgs false
set_option linter.unusedVariables false
open Go.RowKit Go.Sl Go.Dk Go.Tr
attribute [local go_sem ↓] Go.wp_at_zero Go.wp_at_succ
attribute [local go_sem] Go.Sl.cell_sat Go.Sl.frozen_sat
end Go.Proofs.YtfhbmblbidcmmaaGreat
namespace Go.Proofs.YtfhbmblbidcmmaaGreat
set_option linter.unusedSimpArgs false
set_option linter.unusedVariables false
open Go.RowKit Go.Sl Go.Dk Go.Tr
open Go.Lru (ikey)
attribute [local go_sem ↓] Go.wp_at_zero Go.wp_at_succ
attribute [local go_sem] Go.Sl.cell_sat Go.Sl.frozen_sat
theorem run_store_func {P : Program} {w : World} {a : Addr} {m : Mode} (f : Fn) (x y : Array Value) : (store a (.func f x y) m).run P w = stored P w a (.func f x y) m := run_store P w a _ m rfl
attribute [local go_sem] run_store_func
theorem checkC_idle (E : Nat) (w : World) :
 CallsD Tryz.prog 73 #[.pointer (some ⟨E, 0, none⟩)] .returning w fun e u' w' => e = .returned (.tuple #[]) ∧ u' = .returning ∧ w' = w := by
 refine callsD_of_wpS Tryz.func73 rfl fun c₀ cs hu => ?_
 apply wpS_seq
 apply wpS_region
 simp [wpOpsS, go_sem, recoverD, hu, Tryz.ntmps73, Exit.thenS]
 apply wpS_seq
 apply wpS_region
 simp [wpOpsS, go_sem, Exit.thenS]
 refine wpS_cond (t := false) (by simp [Act.eval, Array.replicate]) ?_
 simp only [Bool.false_eq_true, if_false]
 refine wpS_of_wp (wp_skip ?_)
 cases c₀
 simp_all [bodyPostS, results, Tryz.results73, Exit.thenS]
theorem checkC_caught (E : Nat) (er : Int) (b : Value) (F : Assn) (w : World) (hs : Sat (Sl.block E TEr [b] * F) w) :
 CallsD Tryz.prog 73 #[.pointer (some ⟨E, 0, none⟩)] (.panicking (faultC er)) w fun e u' w' => e = .returned (.tuple #[]) ∧ u' = .panicking [{ v := .iface TFa (.agg #[.int .i64 er]), recovered := true }] ∧ Sat (Sl.block E TEr [.int .i64 er] * F) w' := by
 haveI := hs.i
 refine callsD_of_wpS Tryz.func73 rfl fun c₀ cs hu => ?_
 unfold faultC at hu
 apply wpS_seq
 apply wpS_region
 simp [wpOpsS, go_sem, recoverD, hu, Tryz.ntmps73, Exit.thenS]
 apply wpS_seq
 apply wpS_region
 simp [wpOpsS, go_sem, Exit.thenS]
 refine wpS_cond (t := true) (by simp [Act.eval, Array.replicate]) ?_
 simp only [if_true]
 refine wpS_of_wp ?_
 go_wp2_with fail
 refine Calls.mono (given_any er _ _ hs) ?_
 rintro en w2 ⟨rfl, q2⟩
 haveI := q2.i
 go_wp2
 simp [bodyPostS, results, Tryz.results73]
 exact satI_eq (by ac_rfl)
theorem field_Sn1 (yh yc a1 a2 a3 a4 b1 b2 b3 b4 : Int) (w : World) : (Instr.field TSn (.agg #[.int .i64 yh, .int .i64 yc, .int .i64 a1, .int .i64 a2, .int .i64 a3, .int .i64 a4, .int .i64 b1, .int .i64 b2, .int .i64 b3, .int .i64 b4]) 1).run Tryz.prog w = .ok (.int .i64 yc) w := by kernel_rfl
instance (priority := 20000) mapKn_alloc {A : Assn} {w : World} {n : Nat} [q : SatI A w] [z : Sz w n] : SatI (mp ikey n (kn []) * A) (w.alloc (.map #[] 0)) := ⟨by
 have h := q.out.alloc_raw (.map #[] 0)
 rw [z.out] at h
 exact Sat.mp_shut (kf := ikey) (ms := []) (b := n) (o := .map #[] 0) ⟨#[], 0, rfl, rfl, by simp, by simp⟩ h⟩
variable [TopN]
def SoundOut (V : Int → Option Nd) (N : Nat) (h : Th) (m : Nat) (s : TS) (no : Int) (F : Assn) (e : Ending) (w' : World) : Prop := ∃ s', Sat (treeP h s' * F) w' ∧ s'.sp = s.sp ∧ s'.ck.d = s.ck.d ∧
 ((∃ y m', e = .returned (snV y) ∧ chk V 13 no true = some y ∧ Rdy V m' s' ∧ m ≤ m' + 13 * N + 13) ∨ (e = .panicked (faultC 13) ∧ chk V 13 no true = none ∧ Rdy V 0 s'))
set_option maxRecDepth 100000 in
set_option maxHeartbeats 3200000 in
theorem sound_any (V : Int → Option Nd) (N : Nat) (h : Th) (m : Nat) (s : TS) (no : Int) (F : Assn) (w : World) (hno : no ≠ 0) (hV : ∀ p n, V p = some n → may n = true ∧ p < N) (hR : Rdy V m s) (hm : 13 * N + 182 ≤ m) (hs : Sat (treeP h s * F) w) :
 Calls Tryz.prog 75 #[.pointer (some ⟨h.t, 0, none⟩), .int .i64 no, .bool true] w (SoundOut V N h m s no F) := by
 have hmf : ∀ (fn : Fn) (first cap : Array Value) (w : World), (Instr.makeFunc fn first cap).run Tryz.prog w = .ok (.func fn first cap) w := fun _ _ _ _ => rfl
 have hmm := @run_makeMap Tryz.prog
 have hlook := fun bK bT bL M F w q => look_all 13 V N h s m [] no true bK bT bL M F w (by omega) hno (fun p hp => by cases hp) hV hR (by have := fr_le N []; omega) q
 have e13 : (13 : Int) - ((13 : Nat) : Int) = 0 := rfl
 rw [e13] at hlook
 have HLK : Aside (∀ (bK bT bL M : Nat) (F : Assn) (w : World), Sat (treeP h s * (lookA bK bT bL M h [] * F)) w → Calls Tryz.prog 128 #[.int .i64 no, .bool true, .int .i64 0, .pointer (some ⟨bK, 0, none⟩), .pointer (some ⟨bT, 0, none⟩), .pointer (some ⟨bL, 0, none⟩)] w (LookOut V N h bK bT bL M 13 m s [] no true F)) := hlook
 have HV1 : Aside (∀ p n, V p = some n → may n = true) := fun p n h => (hV p n h).1
 haveI := hs.i
 clear hlook hno hV hR hm
 go_enter Tryz.func75, Tryz.ntmps75
 go_wp2_with fail
 with_reducible refine Calls.mono (HLK.out (w.heap.size + 1 + 1 + 1) w.heap.size (w.heap.size + 1 + 1 + 1 + 1) (w.heap.size + 1 + 1) _ _ (look_take h s (w.heap.size + 1 + 1 + 1) w.heap.size (w.heap.size + 1 + 1 + 1 + 1) (w.heap.size + 1 + 1) [])) ?_
 rintro e w2 ⟨s2, K2, q2, hsp, hd, hcase⟩
 have q3 := q2.eq (look_open h s2 (w.heap.size + 1 + 1 + 1) w.heap.size (w.heap.size + 1 + 1 + 1 + 1) (w.heap.size + 1 + 1) K2 _)
 haveI := q3.i
 clear q2 hs
 rcases hcase with ⟨y, m2, rfl, hc, hh, _, _, hr, hb⟩ | ⟨rfl, hc, hr⟩
 · have HC : Aside (chk V 13 no true = some y ∧ Rdy V m2 s2 ∧ s2.sp = s.sp ∧ s2.ck.d = s.ck.d ∧ m ≤ m2 + 13 * N + 13) := ⟨hc.at HV1.out (by simpa using hh rfl), hr, hsp, hd, by
    have := fr_le N []
    simp only [if_true] at hb
    omega⟩
   obtain ⟨N6, hN6⟩ : ∃ z, w.heap.size + 1 = z := ⟨_, rfl⟩
   have HN6 : Aside (w.heap.size + 1 = N6) := hN6
   clear hc hh hr hb hsp hd hN6
   obtain ⟨yh, yc, ⟨a1, a2, a3, a4⟩, ⟨b1, b2, b3, b4⟩⟩ := y
   unfold snV
   simp only
   go_wp2
   go_returns
   have q8 := store10 (w := w2) (b := w.heap.size + 1) (e := TSn) (c0 := .int .i64 0) (c1 := .int .i64 0) (c2 := .int .i64 0) (c3 := .int .i64 0) (c4 := .int .i64 0) (c5 := .int .i64 0) (c6 := .int .i64 0) (c7 := .int .i64 0) (c8 := .int .i64 0) (c9 := .int .i64 0) (v0 := .int .i64 yh) (v1 := .int .i64 yc) (v2 := .int .i64 a1) (v3 := .int .i64 a2) (v4 := .int .i64 a3) (v5 := .int .i64 a4) (v6 := .int .i64 b1) (v7 := .int .i64 b2) (v8 := .int .i64 b3) (v9 := .int .i64 b4)
   haveI := q8.i
   exact ⟨s2, keep2 _ _, HC.out.2.2.1, HC.out.2.2.2.1, .inl ⟨⟨yh, yc, ⟨a1, a2, a3, a4⟩, ⟨b1, b2, b3, b4⟩⟩, m2, rfl, HC.out.1, HC.out.2.1, HC.out.2.2.2.2⟩⟩
 · exact ⟨rfl, s2, keep2 _ _, hsp, hd, .inr ⟨rfl, hc, hr⟩⟩
def CheckOut (V : Int → Option Nd) (N : Nat) (h : Th) (m : Nat) (s : TS) (root : Int) (F : Assn) (e : Ending) (w' : World) : Prop := ∃ s' m', Sat (treeP h s' * F) w' ∧ s'.sp = s.sp ∧ s'.ck.d = s.ck.d ∧ Rdy V m' s' ∧
 e = .returned (.int .i64 (if (rTree V root).ok then 0 else 13)) ∧ ((rTree V root).ok = true → m ≤ m' + 13 * N + 13)
set_option maxRecDepth 100000 in
set_option maxHeartbeats 3200000 in
theorem check_any (V : Int → Option Nd) (N : Nat) (h : Th) (m : Nat) (s : TS) (root : Int) (F : Assn) (w : World) (hV : ∀ p n, V p = some n → may n = true ∧ p < N) (hR : Rdy V m s) (hm : 13 * N + 182 ≤ m) (hs : Sat (treeP h s * F) w) :
 Calls Tryz.prog 17 #[.pointer (some ⟨h.t, 0, none⟩), .int .i64 root] w (CheckOut V N h m s root F) := by
 have hmf : ∀ (fn : Fn) (first cap : Array Value) (w : World), (Instr.makeFunc fn first cap).run Tryz.prog w = .ok (.func fn first cap) w := fun _ _ _ _ => rfl
 haveI := hs.i
 by_cases hz : root = 0
 · subst hz
   have HR : Aside (Rdy V m s) := hR
   clear hR hV hm hs
   go_enter_defers Tryz.func17, Tryz.ntmps17
   go_wp2
   refine leaves_cons (f := 73) (args := #[.pointer (some ⟨w.heap.size, 0, none⟩)]) (by simp) (by simp [go_sem]) ?_
   refine (checkC_idle _ _).mono ?_
   rintro e u' w'' ⟨rfl, rfl, rfl⟩
   simp [Leaves, settle, results, Tryz.results17, go_sem]
   exact ⟨s, m, keep2 _ _, rfl, rfl, HR.out, rfl, fun _ => by omega⟩
 · have hz' : ((root : Int) == 0) = false := by simpa using hz
   have HV1 : Aside (∀ p n, V p = some n → may n = true) := fun p n h => (hV p n h).1
   have hso := fun F w q => sound_any V N h m s root F w hz hV hR hm q
   have HSO : Aside (∀ F w, Sat (treeP h s * F) w → Calls Tryz.prog 75 #[.pointer (some ⟨h.t, 0, none⟩), .int .i64 root, .bool true] w (SoundOut V N h m s root F)) := hso
   have HT : Aside ((rTree V root).ok = true ↔ ∃ y, chk V 13 root true = some y) := chk_tree HV1.out hz
   obtain ⟨E, hE⟩ : ∃ N, w.heap.size = N := ⟨_, rfl⟩
   have HE : Aside (w.heap.size = E) := hE
   clear hso hV hR hm hs hz hE
   go_enter_defers Tryz.func17, Tryz.ntmps17
   go_wp2_with fail
   with_reducible refine Calls.mono (HSO.out _ _ (takeI (treeP h s))) ?_
   rintro e w2 ⟨s2, q2, hsp, hd, hcase⟩
   haveI := q2.i
   rcases hcase with ⟨y, m2, rfl, hc, hr, hb⟩ | ⟨rfl, hc, hr⟩
   · have hlo : Low y := Chk.low HV1.out ⟨13, hc⟩
     have hcc : y.count ≤ 1024 := chk_most HV1.out hc
     have HC : Aside ((rTree V root).ok = true ∧ Rdy V m2 s2 ∧ s2.sp = s.sp ∧ s2.ck.d = s.ck.d ∧ m ≤ m2 + 13 * N + 13) := ⟨HT.out.2 ⟨y, hc⟩, hr, hsp, hd, hb⟩
     clear hc hr hb hsp hd hlo HSO HT
     obtain ⟨yh, yc, ⟨a1, a2, a3, a4⟩, ⟨b1, b2, b3, b4⟩⟩ := y
     simp only at hcc
     unfold snV
     simp only
     have hb1 : decide ((1024 : Int) < yc) = false := decide_eq_false (by omega)
     have hfl := fun w => field_Sn1 yh yc a1 a2 a3 a4 b1 b2 b3 b4 w
     go_wp2
     refine leaves_cons (f := 73) (args := #[.pointer (some ⟨w.heap.size, 0, none⟩)]) (by simp) (by simp [go_sem]) ?_
     refine (checkC_idle _ _).mono ?_
     rintro e u' w'' ⟨rfl, rfl, rfl⟩
     simp [Leaves, settle, results, Tryz.results17, go_sem]
     exact ⟨s2, m2, keep2 _ _, HC.out.2.2.1, HC.out.2.2.2.1, HC.out.2.1, by rw [HC.out.1]; rfl, fun _ => HC.out.2.2.2.2⟩
   · have hno : (rTree V root).ok = false := by
      cases hq : (rTree V root).ok with
      | false => rfl
      | true =>
        obtain ⟨y, hy⟩ := HT.out.1 hq
        rw [hc] at hy
        cases hy
     show bodyPostD _ _ _ (.panic (faultC 13)) _ w2
     refine leaves_cons (f := 73) (args := #[.pointer (some ⟨w.heap.size, 0, none⟩)]) (by simp) (by simp [go_sem]) ?_
     refine (checkC_caught w.heap.size 13 (.int .i64 0) _ w2 (takeI (Sl.block w.heap.size TEr [.int .i64 0]))).mono ?_
     rintro e u' w3 ⟨rfl, rfl, q3⟩
     haveI := q3.i
     simp [Leaves, settle, results, Tryz.results17, go_sem]
     exact ⟨s2, 0, keep2 _ _, hsp, hd, hr, by rw [hno]; rfl, fun e => by rw [hno] at e; cases e⟩
end Go.Proofs.YtfhbmblbidcmmaaGreat
