/-
  Of all roots that are made the pages are a tree in the form of the document, and just these are told, and each is in use. No condition. (part 36)
-/
import Derived.Test.YtfhbmblbidcmmaaGreatSk34
import Derived.Test.YtfhbmblbidcmmaaGreatSk35
set_option linter.unusedSimpArgs false
set_option linter.unusedVariables false
namespace Go.Proofs.YtfhbmblbidcmmaaGreat
set_option linter.unusedSimpArgs false
set_option linter.unusedVariables false
open Go.RowKit Go.Sl Go.Dk Go.Tr
attribute [local go_sem ↓] Go.wp_at_zero Go.wp_at_succ
attribute [local go_sem] Go.Sl.cell_sat Go.Sl.frozen_sat
theorem tRead_er {p : Int} {s s' : TS} {e : Int} (h : tRead p s = .fault e s') : e ≠ 0 := by
 have ho : s.ops < opsMax := by
  rcases Nat.lt_or_ge s.ops opsMax with h | h1
  · exact h
  · unfold tRead M.bind mGet at h
    rw [if_neg (by omega)] at h
    cases h
 rw [tRead_eq ho] at h
 split at h
 · split at h
   · cases h
   · cases h; omega
 · rename_i hne
   cases h
   split
   · omega
   · exact hne
theorem tSize_er {p : Int} {s s' : TS} {e : Int} (h : tSize tRead p s = .fault e s') : e ≠ 0 := by
 unfold tSize at h
 split at h
 · cases h
 · cases hr : tRead p s with
   | bad => unfold M.bind at h; rw [hr] at h; cases h
   | fault e2 s2 =>
     unfold M.bind at h
     rw [hr] at h
     cases h
     exact tRead_er hr
   | ok n s2 => unfold M.bind at h; rw [hr] at h; cases h
def mSeek (root at_ : Int) : M TS (Ent × Int) := M.bind (tSize tRead root) fun n => if at_ < 0 ∨ n ≤ at_ then M.fail 2 else tSeek tRead root at_
def seekV (x : Ent) (a e : Int) : Value := .tuple #[.agg #[.int .i64 x.src, .int .i64 x.pos, .int .i64 x.len, .int .i64 x.lines], .int .i64 a, .int .i64 e]
set_option maxRecDepth 100000 in
set_option maxHeartbeats 1600000 in
theorem seekC_idle (X N E : Nat) (w : World) :
 CallsD Tryz.prog 150 #[.pointer (some ⟨X, 0, none⟩), .pointer (some ⟨N, 0, none⟩), .pointer (some ⟨E, 0, none⟩)] .returning w fun e u' w' => e = .returned (.tuple #[]) ∧ u' = .returning ∧ w' = w := by
 refine callsD_of_wpS Tryz.func150 rfl fun c₀ cs hu => ?_
 apply wpS_seq
 apply wpS_region
 simp [wpOpsS, go_sem, recoverD, hu, Tryz.ntmps150, Exit.thenS]
 apply wpS_seq
 apply wpS_region
 simp [wpOpsS, go_sem, Exit.thenS]
 refine wpS_cond (t := false) (by simp [Act.eval, Array.replicate]) ?_
 simp only [Bool.false_eq_true, if_false]
 refine wpS_of_wp (wp_skip ?_)
 cases c₀
 simp_all [bodyPostS, results, Tryz.results150, Exit.thenS]
set_option maxRecDepth 100000 in
set_option maxHeartbeats 1600000 in
theorem seekC_caught (X N E : Nat) (er : Int) (a b x1 x2 x3 x4 : Value) (F : Assn) (w : World) (hs : Sat (Sl.block X TEn [x1, x2, x3, x4] * (Sl.block N TIt [a] * (Sl.block E TEr [b] * F))) w) :
 CallsD Tryz.prog 150 #[.pointer (some ⟨X, 0, none⟩), .pointer (some ⟨N, 0, none⟩), .pointer (some ⟨E, 0, none⟩)] (.panicking (faultC er)) w fun e u' w' => e = .returned (.tuple #[]) ∧ u' = .panicking [{ v := .iface TFa (.agg #[.int .i64 er]), recovered := true }] ∧ Sat (Sl.block X TEn [.int .i64 0, .int .i64 0, .int .i64 0, .int .i64 0] * (Sl.block N TIt [.int .i64 0] * (Sl.block E TEr [.int .i64 er] * F))) w' := by
 haveI := hs.i
 refine callsD_of_wpS Tryz.func150 rfl fun c₀ cs hu => ?_
 unfold faultC at hu
 apply wpS_seq
 apply wpS_region
 simp [wpOpsS, go_sem, recoverD, hu, Tryz.ntmps150, Exit.thenS]
 apply wpS_seq
 apply wpS_region
 simp [wpOpsS, go_sem, Exit.thenS]
 refine wpS_cond (t := true) (by simp [Act.eval, Array.replicate]) ?_
 simp only [if_true]
 refine wpS_of_wp ?_
 go_wp2_with fail
 refine Calls.mono (given_any er _ _ hs) ?_
 rintro en w2 ⟨rfl, q2⟩
 haveI := q2.i
 go_wp2
 simp [bodyPostS, results, Tryz.results150]
 exact satI_eq (by ac_rfl)
set_option maxRecDepth 100000 in
set_option maxHeartbeats 3200000 in
theorem seek_tany (h : Th) (s : TS) (root at_ : Int) (F : Assn) (w : World) (hs : Sat (treeP h s * F) w) (hb : mSeek root at_ s ≠ .bad) :
 Calls Tryz.prog 116 #[.pointer (some ⟨h.t, 0, none⟩), .int .i64 root, .int .i64 at_] w (Back h F (mSeek root at_ s) (fun z => seekV z.1 z.2 0) (fun er => seekV ⟨0, 0, 0, 0⟩ 0 er)) := by
 have hmf : ∀ (fn : Fn) (first cap : Array Value) (w : World), (Instr.makeFunc fn first cap).run Tryz.prog w = .ok (.func fn first cap) w := fun _ _ _ _ => rfl
 obtain ⟨R, hR⟩ : ∃ R, mSeek root at_ s = R := ⟨_, rfl⟩
 rw [hR] at hb ⊢
 have HB : Aside (R ≠ .bad) := hb
 unfold mSeek at hR
 have HR : Aside (M.bind (tSize tRead root) (fun n => if at_ < 0 ∨ n ≤ at_ then M.fail 2 else tSeek tRead root at_) s = R) := hR
 have c1 := fun F w q => size_tany h s root F w q (bind_nb HR.out HB.out)
 obtain ⟨x, hx⟩ : ∃ x, tSize tRead root s = x := ⟨_, rfl⟩
 have HX : Aside (tSize tRead root s = x) := hx
 rw [hx] at c1
 haveI := hs.i
 unfold seekV
 simp only
 clear hb hR hx
 go_enter_defers Tryz.func116, Tryz.ntmps116
 go_wp2_with fail
 with_reducible refine Calls.mono (c1 _ _ (takeI (treeP h s))) ?_
 rintro e w1 h1
 cases x with
 | bad => exact absurd HX.out (bind_nb HR.out HB.out)
 | fault er s1 =>
   obtain ⟨rfl, q1⟩ := h1
   have hRR := bind_up HR.out HX.out
   subst hRR
   have he := tSize_er HX.out
   have he' : ((er : Int) != 0) = true := by simpa using he
   unfold vi2
   haveI := q1.i
   clear c1 HR HX HB
   go_wp2
   go_region
   all_goals
    go_wp2
    simp [bodyPostD, Leaves, settle, results, Tryz.results116, go_sem]
    exact ⟨rfl, keep2 _ _⟩
 | ok n s1 =>
   obtain ⟨rfl, q1⟩ := h1
   have hg := bind_go HR.out HX.out
   unfold vi2
   haveI := q1.i
   clear c1
   by_cases hc : at_ < 0 ∨ n ≤ at_
   · have hRR : R = .fault 2 s1 := by rw [if_pos hc] at hg; exact hg.symm
     subst hRR
     clear hg HR HX HB
     by_cases h1 : at_ < 0
     · clear hc
       go_wp2
       simp [bodyPostD, Leaves, settle, results, Tryz.results116, go_sem]
       exact ⟨rfl, keep2 _ _⟩
     · have h2 : n ≤ at_ := by omega
       clear hc
       go_wp2
       simp [bodyPostD, Leaves, settle, results, Tryz.results116, go_sem]
       exact ⟨rfl, keep2 _ _⟩
   · have h1 : ¬ at_ < 0 := by omega
     have h2 : ¬ n ≤ at_ := by omega
     rw [if_neg hc] at hg
     have c2 := fun F w q => seek_any h s1 root at_ F w q (by rw [hg]; exact HB.out)
     rw [hg] at c2
     clear hc hg HX HR
     go_wp2_with fail
     with_reducible refine Calls.mono (c2 _ _ (takeI (treeP h s1))) ?_
     rintro e w2 hx2
     obtain ⟨N, hN⟩ : ∃ N, w.heap.size = N := ⟨_, rfl⟩
     rw [hN] at hx2 ⊢
     clear c2
     cases R with
     | bad => exact absurd rfl HB.out
     | fault er s2 =>
       obtain ⟨rfl, q2⟩ := hx2
       haveI := q2.i
       show bodyPostD _ _ _ (.panic (faultC er)) _ w2
       refine leaves_cons (f := 150) (args := #[.pointer (some ⟨N, 0, none⟩), .pointer (some ⟨N + 1, 0, none⟩), .pointer (some ⟨N + 1 + 1, 0, none⟩)]) (by simp) (by simp [go_sem]) ?_
       refine (seekC_caught N (N + 1) (N + 1 + 1) er _ _ _ _ _ _ _ w2 (takeI3 (Sl.block N TEn [.int .i64 0, .int .i64 0, .int .i64 0, .int .i64 0]) (Sl.block (N + 1) TIt [.int .i64 0]) (Sl.block (N + 1 + 1) TEr [.int .i64 0]))).mono ?_
       rintro e u' w3 ⟨rfl, rfl, q3⟩
       haveI := q3.i
       simp [Leaves, settle, results, Tryz.results116, go_sem]
       exact ⟨rfl, keep2 _ _⟩
     | ok z s2 =>
       obtain ⟨v2, B2, rfl, ⟨rfl, rfl⟩, q2⟩ := hx2
       rw [one_sep] at q2
       obtain ⟨⟨z1, z2, z3, z4⟩, za⟩ := z
       haveI := q2.i
       go_wp2
       go_region
       all_goals
        go_wp2
        refine leaves_cons (f := 150) (args := #[.pointer (some ⟨N, 0, none⟩), .pointer (some ⟨N + 1, 0, none⟩), .pointer (some ⟨N + 1 + 1, 0, none⟩)]) (by simp) (by simp [go_sem]) ?_
        refine (seekC_idle _ _ _ _).mono ?_
        rintro e u' w3 ⟨rfl, rfl, rfl⟩
        simp [Leaves, settle, results, Tryz.results116, go_sem]
        exact ⟨rfl, keep2 _ _⟩
end Go.Proofs.YtfhbmblbidcmmaaGreat
namespace Go.Proofs.YtfhbmblbidcmmaaGreat
set_option linter.unusedSimpArgs false
set_option linter.unusedVariables false
open Go.RowKit Go.Sl Go.Dk Go.Tr
attribute [local go_sem ↓] Go.wp_at_zero Go.wp_at_succ
attribute [local go_sem] Go.Sl.cell_sat Go.Sl.frozen_sat
def ListOut (h : Th) (F : Assn) (r : Res TS (List Ent)) (e : Ending) (w' : World) : Prop := match r with
 | .ok l s => ∃ (a : Option Addr) (c : Nat), e = .returned (.tuple #[.slice a l.length c, .int .i64 0]) ∧ Sat (rw TEn 4 (.slice a l.length c) (ecs l) * (treeP h s * F)) w'
 | .fault n s => e = .returned (.tuple #[.slice none 0 0, .int .i64 n]) ∧ Sat (treeP h s * F) w'
 | .bad => False
set_option maxRecDepth 100000 in
set_option maxHeartbeats 3200000 in
theorem list_tany (h : Th) (s : TS) (root : Int) (F : Assn) (w : World) (hs : Sat (treeP h s * F) w) (hb : tList tRead root s ≠ .bad) :
 Calls Tryz.prog 44 #[.pointer (some ⟨h.t, 0, none⟩), .int .i64 root] w (ListOut h F (tList tRead root s)) := by
 have hmf : ∀ (fn : Fn) (first cap : Array Value) (w : World), (Instr.makeFunc fn first cap).run Tryz.prog w = .ok (.func fn first cap) w := fun _ _ _ _ => rfl
 obtain ⟨R, hR⟩ : ∃ R, tList tRead root s = R := ⟨_, rfl⟩
 rw [hR] at hb ⊢
 have HB : Aside (R ≠ .bad) := hb
 unfold tList at hR
 have h0 := hs.rw_nil (e := TEn) (s := 4)
 haveI := h0.i
 clear hb hs
 by_cases hz : root = 0
 · rw [if_pos hz] at hR
   have hRR : R = .ok [] s := hR.symm
   subst hRR
   subst hz
   clear hR HB
   go_enter_defers Tryz.func44, Tryz.ntmps44
   go_wp2
   refine leaves_cons (f := 108) (args := #[.pointer (some ⟨w.heap.size, 0, none⟩), .pointer (some ⟨w.heap.size + 1, 0, none⟩)]) (by simp) (by simp [go_sem]) ?_
   refine (listC_idle _ _ _).mono ?_
   rintro e u' w'' ⟨rfl, rfl, rfl⟩
   simp [Leaves, settle, results, Tryz.results44, go_sem]
   refine ⟨none, 0, rfl, ?_⟩
   show Sat (rw TEn 4 (.slice none 0 0) [] * (treeP h s * F)) _
   exact keep3 _ _ _
 · rw [if_neg hz] at hR
   have hz' : ((root : Int) == 0) = false := by simpa using hz
   have hwk := fun N F w q => walk_any 21 h s root [] N none 0 F w (by omega) (by simp) q (by rw [hR]; exact HB.out)
   rw [hR, show (21 : Int) - ((21 : Nat) : Int) = 0 from rfl] at hwk
   obtain ⟨N, hN⟩ : ∃ N, w.heap.size = N := ⟨_, rfl⟩
   clear hR
   go_enter_defers Tryz.func44, Tryz.ntmps44
   go_wp2_with fail
   have q1 : Sat (treeP h s * (Sl.block N TEs [.slice none 0 0] * (rw TEn 4 (.slice none 0 0) [] * (Sl.block (N + 1) TEr [.int .i64 0] * F)))) ((w.alloc (.cells #[.slice none 0 0] TEs)).alloc (.cells #[.int .i64 0] TEr)) := by
    rw [← hN]
    exact satI_eq (by ac_rfl)
   try rw [hN]
   clear hN
   with_reducible refine Calls.mono (hwk N _ _ q1) ?_
   rintro e w2 h2
   cases R with
   | bad => exact absurd rfl HB.out
   | fault er s2 =>
     obtain ⟨rfl, v2, q2⟩ := h2
     haveI := q2.i
     show bodyPostD _ _ _ (.panic (faultC er)) _ w2
     refine leaves_cons (f := 108) (args := #[.pointer (some ⟨N, 0, none⟩), .pointer (some ⟨N + 1, 0, none⟩)]) (by simp) (by simp [go_sem]) ?_
     refine (listC_caught N (N + 1) er _ _ _ w2 (takeI2 (Sl.block N TEs [v2]) (Sl.block (N + 1) TEr [.int .i64 0]))).mono ?_
     rintro e u' w3 ⟨rfl, rfl, q3⟩
     haveI := q3.i
     simp [Leaves, settle, results, Tryz.results44, go_sem]
     exact ⟨rfl, keep2 _ _⟩
   | ok l s2 =>
     obtain ⟨rfl, hl, a2, c2, q2⟩ := h2
     have HLL : Aside (l.length ≤ 1024) := hl
     obtain ⟨n, hn⟩ : ∃ n, l.length = n := ⟨_, rfl⟩
     have HNN : Aside (l.length = n) := hn
     rw [hn] at q2
     haveI := q2.i
     clear q1 hwk hn hl
     go_wp2
     refine leaves_cons (f := 108) (args := #[.pointer (some ⟨N, 0, none⟩), .pointer (some ⟨N + 1, 0, none⟩)]) (by simp) (by simp [go_sem]) ?_
     refine (listC_idle _ _ _).mono ?_
     rintro e u' w3 ⟨rfl, rfl, rfl⟩
     simp [Leaves, settle, results, Tryz.results44, go_sem]
     refine ⟨a2, c2, ?_, ?_⟩
     · rw [HNN.out]
     · rw [HNN.out]
       exact keep3 _ _ _
end Go.Proofs.YtfhbmblbidcmmaaGreat
namespace Go.Proofs.YtfhbmblbidcmmaaGreat
set_option linter.unusedSimpArgs false
set_option linter.unusedVariables false
open Go.RowKit Go.Sl Go.Dk Go.Tr
attribute [local go_sem ↓] Go.wp_at_zero Go.wp_at_succ
attribute [local go_sem] Go.Sl.cell_sat Go.Sl.frozen_sat
abbrev TIs : TypeId := 45
set_option maxRecDepth 100000 in
set_option maxHeartbeats 1600000 in
theorem pgC_idle (N E : Nat) (w : World) :
 CallsD Tryz.prog 118 #[.pointer (some ⟨N, 0, none⟩), .pointer (some ⟨E, 0, none⟩)] .returning w fun e u' w' => e = .returned (.tuple #[]) ∧ u' = .returning ∧ w' = w := by
 refine callsD_of_wpS Tryz.func118 rfl fun c₀ cs hu => ?_
 apply wpS_seq
 apply wpS_region
 simp [wpOpsS, go_sem, recoverD, hu, Tryz.ntmps118, Exit.thenS]
 apply wpS_seq
 apply wpS_region
 simp [wpOpsS, go_sem, Exit.thenS]
 refine wpS_cond (t := false) (by simp [Act.eval, Array.replicate]) ?_
 simp only [Bool.false_eq_true, if_false]
 refine wpS_of_wp (wp_skip ?_)
 cases c₀
 simp_all [bodyPostS, results, Tryz.results118, Exit.thenS]
set_option maxRecDepth 100000 in
set_option maxHeartbeats 1600000 in
theorem pgC_caught (N E : Nat) (er : Int) (a b : Value) (F : Assn) (w : World) (hs : Sat (Sl.block N TIs [a] * (Sl.block E TEr [b] * F)) w) :
 CallsD Tryz.prog 118 #[.pointer (some ⟨N, 0, none⟩), .pointer (some ⟨E, 0, none⟩)] (.panicking (faultC er)) w fun e u' w' => e = .returned (.tuple #[]) ∧ u' = .panicking [{ v := .iface TFa (.agg #[.int .i64 er]), recovered := true }] ∧ Sat (Sl.block N TIs [.slice none 0 0] * (Sl.block E TEr [.int .i64 er] * F)) w' := by
 haveI := hs.i
 refine callsD_of_wpS Tryz.func118 rfl fun c₀ cs hu => ?_
 unfold faultC at hu
 apply wpS_seq
 apply wpS_region
 simp [wpOpsS, go_sem, recoverD, hu, Tryz.ntmps118, Exit.thenS]
 apply wpS_seq
 apply wpS_region
 simp [wpOpsS, go_sem, Exit.thenS]
 refine wpS_cond (t := true) (by simp [Act.eval, Array.replicate]) ?_
 simp only [if_true]
 refine wpS_of_wp ?_
 go_wp2_with fail
 refine Calls.mono (given_any er _ _ hs) ?_
 rintro en w2 ⟨rfl, q2⟩
 haveI := q2.i
 go_wp2
 simp [bodyPostS, results, Tryz.results118]
 exact satI_eq (by ac_rfl)
end Go.Proofs.YtfhbmblbidcmmaaGreat
namespace Go.Tr
set_option linter.unusedSimpArgs false
set_option linter.unusedVariables false
section
variable {σ : Type} (P : List Int → Prop)
theorem kidsP_inv {g : Int → List Int → M σ (List Int)} (hg : ∀ no l s l' s', P l → g no l s = .ok l' s' → P l') : ∀ (ks : List Kd) (l : List Int) (s : σ) (l' : List Int) (s' : σ), P l → kidsP g ks l s = .ok l' s' → P l'
 | [], l, s, l', s', h, e => by
  have : (Res.ok l s : Res σ (List Int)) = .ok l' s' := e
  cases this; exact h
 | k :: ks, l, s, l', s', h, e => by
   have e' : M.bind (g k.page l) (kidsP g ks) s = .ok l' s' := e
   cases hm : g k.page l s with
   | ok a s1 => exact kidsP_inv hg ks a s1 l' s' (hg _ _ _ _ _ h hm) (by have := e'; unfold M.bind at this; rw [hm] at this; exact this)
   | fault n s1 => unfold M.bind at e'; rw [hm] at e'; cases e'
   | bad => unfold M.bind at e'; rw [hm] at e'; cases e'
theorem pagesTo_inv {rd : Int → M σ Nd} (hP : ∀ l no, P l → l.contains no = false → l.length ≤ 1048576 → 0 ≤ no → no < 1099511627776 → P (l ++ [no])) : ∀ (f : Nat) (no : Int) (l : List Int) (s : σ) (l' : List Int) (s' : σ), P l → pagesTo rd f no l s = .ok l' s' → P l'
 | 0, no, l, s, l', s', h, e => by cases e
 | f + 1, no, l, s, l', s', h, e => by
   unfold pagesTo M.bind at e
   cases hm : rd no s with
   | ok n s1 =>
     rw [hm] at e
     have e2 : (if l.contains no = true then M.pure l else if 1048576 < l.length ∨ no < 0 ∨ 1099511627776 ≤ no then (fun _ => .bad) else kidsP (pagesTo rd f) n.kids (l ++ [no])) s1 = .ok l' s' := e
     by_cases hc : l.contains no = true
     · rw [if_pos hc] at e2
       have : (Res.ok l s1 : Res σ (List Int)) = .ok l' s' := e2
       cases this; exact h
     · rw [if_neg hc] at e2
       by_cases hb : 1048576 < l.length ∨ no < 0 ∨ 1099511627776 ≤ no
       · rw [if_pos hb] at e2; cases e2
       · rw [if_neg hb] at e2
         exact kidsP_inv P (fun no l s l' s' h e => pagesTo_inv hP f no l s l' s' h e) n.kids (l ++ [no]) s1 l' s' (hP l no h (by simpa using hc) (by omega) (by omega) (by omega)) e2
   | fault n s1 => rw [hm] at e; cases e
   | bad => rw [hm] at e; cases e
def pagesOk (l : List Int) : Prop := l.length ≤ 1048577 ∧ ∀ x ∈ l, 0 ≤ x ∧ x < 1099511627776
theorem pagesTo_ok {rd : Int → M σ Nd} {f : Nat} {no : Int} {s : σ} {l' : List Int} {s' : σ} (e : pagesTo rd f no [] s = .ok l' s') : pagesOk l' := by
 refine pagesTo_inv pagesOk ?_ f no [] s l' s' ⟨by simp, by simp⟩ e
 intro l no h hc hl h0 h1
 refine ⟨by simp; omega, fun x hx => ?_⟩
 rcases List.mem_append.1 hx with hx | hx
 · exact h.2 x hx
 · rw [List.mem_singleton.1 hx]; exact ⟨h0, h1⟩
end
end Go.Tr
namespace Go.Proofs.YtfhbmblbidcmmaaGreat
set_option linter.unusedSimpArgs false
set_option linter.unusedVariables false
open Go.Tr
def numsR (p : Int × Int) : List Int := (List.range (p.2 - p.1).toNat).map fun k => p.1 + (k : Nat)
def nums (l : List (Int × Int)) : List Int := l.flatMap numsR
theorem numsR_mem (p : Int × Int) (x : Int) : x ∈ numsR p ↔ p.1 ≤ x ∧ x < p.2 := by
 unfold numsR
 constructor
 · intro h
   obtain ⟨k, hk, rfl⟩ := List.mem_map.1 h
   rw [List.mem_range] at hk
   omega
 · intro ⟨h1, h2⟩
   exact List.mem_map.2 ⟨(x - p.1).toNat, List.mem_range.2 (by omega), by omega⟩
theorem nums_mem (l : List (Int × Int)) (x : Int) : x ∈ nums l ↔ Cov l x := by
 unfold nums Cov
 rw [List.mem_flatMap]
 constructor
 · rintro ⟨p, hp, h⟩; exact ⟨p, hp, (numsR_mem p x).1 h⟩
 · rintro ⟨p, hp, h⟩; exact ⟨p, hp, (numsR_mem p x).2 h⟩
theorem nums_sorted {l : List (Int × Int)} (hn : NormL l) : (nums l).Pairwise (· < ·) := by
 induction l with
 | nil => exact List.Pairwise.nil
 | cons p l ih =>
   have h1 := ih ⟨fun q hq => hn.1 q (List.mem_cons_of_mem _ hq), (List.pairwise_cons.1 hn.2).2⟩
   show (numsR p ++ nums l).Pairwise _
   refine List.pairwise_append.2 ⟨?_, h1, fun x hx y hy => ?_⟩
   · unfold numsR
     rw [List.pairwise_map]
     exact List.pairwise_lt_range.imp fun h => by omega
   · have h2 := (numsR_mem p x).1 hx
     obtain ⟨q, hq, h3⟩ := (nums_mem l y).1 hy
     have := (List.pairwise_cons.1 hn.2).1 q hq
     omega
theorem numsR_snoc {y x : Int} (h : y ≤ x) : numsR (y, x) ++ [x] = numsR (y, x + 1) := by
 unfold numsR
 simp only
 rw [show (x + 1 - y).toNat = (x - y).toNat + 1 by omega, List.range_succ, List.map_append, List.map_singleton]
 congr 2
 omega
theorem numsR_nil (y : Int) : numsR (y, y) = [] := by simp [numsR]
theorem numsR_len (y z : Int) : (numsR (y, z)).length = (z - y).toNat := by simp [numsR]
theorem nums_take {rs : List (Int × Int)} {i : Nat} {p : Int × Int} (h : rs[i]? = some p) : nums (rs.take (i + 1)) = nums (rs.take i) ++ numsR p := by
 unfold nums
 rw [List.take_add_one, h]
 simp [List.flatMap_append]
theorem nums_take_le (rs : List (Int × Int)) (i : Nat) : (nums (rs.take i)).length ≤ (nums rs).length := by
 conv => rhs; rw [← List.take_append_drop i rs]
 unfold nums
 rw [List.flatMap_append, List.length_append]
 omega
def RsOk (rs : List (Int × Int)) : Prop := ∀ (i : Nat) (y z : Int), rs[i]? = some (y, z) → 0 ≤ y ∧ y < z ∧ z ≤ 1099511627776 ∧ (nums (rs.take i)).length + (z - y).toNat ≤ 1048577
theorem rsOk_of {rs : List (Int × Int)} (hn : NormL rs) (hb : ∀ x ∈ nums rs, 0 ≤ x ∧ x < 1099511627776) (hl : (nums rs).length ≤ 1048577) : RsOk rs := by
 intro i y z h
 have hm := List.mem_of_getElem? h
 have h1 := hn.1 _ hm
 simp only at h1
 have h2 := hb y ((nums_mem rs y).2 ⟨_, hm, by simp only; omega, h1⟩)
 have h3 := hb (z - 1) ((nums_mem rs (z - 1)).2 ⟨_, hm, by simp only; omega, by simp only; omega⟩)
 refine ⟨h2.1, h1, by omega, ?_⟩
 have h4 := nums_take_le rs (i + 1)
 rw [nums_take h, List.length_append, numsR_len] at h4
 omega
theorem normL_le {l : List (Int × Int)} (h : NormL l) : l.length ≤ (nums l).length := by
 induction l with
 | nil => simp
 | cons p l ih =>
   have h1 := ih ⟨fun q hq => h.1 q (List.mem_cons_of_mem _ hq), (List.pairwise_cons.1 h.2).2⟩
   have h2 := h.1 p List.mem_cons_self
   have h3 : (nums (p :: l)).length = (p.2 - p.1).toNat + (nums l).length := by simp [nums, numsR]
   rw [h3, List.length_cons]
   omega
end Go.Proofs.YtfhbmblbidcmmaaGreat
