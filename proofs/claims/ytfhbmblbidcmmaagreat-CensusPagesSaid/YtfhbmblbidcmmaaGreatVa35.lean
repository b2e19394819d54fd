/-
  Of all versions the pages that are told are just those of their trees in the file in the form of the document, and a root that is none is refused. No condition. (part 35)
-/
import Derived.Test.YtfhbmblbidcmmaaGreatVa33
import Derived.Test.YtfhbmblbidcmmaaGreatVa34
import Derived.Test.YtfhbmblbidcmmaaGreatVa30
import Derived.Test.YtfhbmblbidcmmaaGreatVa27
set_option linter.unusedSimpArgs false
set_option linter.unusedVariables false
namespace Go.Proofs.YtfhbmblbidcmmaaGreat
set_option linter.unusedSimpArgs false
set_option linter.unusedVariables false
open Go.RowKit Go.Sl Go.Dk Go.Tr
attribute [local go_sem ↓] Go.wp_at_zero Go.wp_at_succ
attribute [local go_sem] Go.Sl.cell_sat Go.Sl.frozen_sat
end Go.Proofs.YtfhbmblbidcmmaaGreat
namespace Go.Proofs.YtfhbmblbidcmmaaGreat
set_option linter.unusedSimpArgs false
set_option linter.unusedVariables false
open Go.RowKit Go.Sl Go.Dk Go.Tr
theorem kBytes_ge {l : List Kd} (h : ∀ x ∈ l, mayKid x = true) : 0 ≤ kBytes l ∧ 0 ≤ kScraps l := by
 induction l with
 | nil => exact ⟨by simp [kBytes], by simp [kScraps]⟩
 | cons a l ih =>
   obtain ⟨h1, h2⟩ := ih fun x hx => h x (List.mem_cons_of_mem _ hx)
   have h3 := mayK_facts (h a (List.mem_cons_self ..))
   have e1 : kBytes (a :: l) = a.bytes + kBytes l := by simp [kBytes]
   have e2 : kScraps (a :: l) = a.scraps + kScraps l := by simp [kScraps]
   omega
theorem sum_bound (n : Nd) : 0 ≤ (ndSum n).1 ∧ (ndSum n).1 ≤ 1048576 ∧ 0 ≤ (ndSum n).2.2 ∧ (ndSum n).2.2 ≤ 1036 := by
 unfold ndSum
 by_cases hm : may n = true
 · rw [if_pos hm]
   obtain ⟨f1, f2⟩ := may_facts hm
   obtain ⟨l1, l2⟩ := may_len hm
   have g1 := eBytes_ge fun x hx => (f1 x hx).2
   obtain ⟨g2, g3⟩ := kBytes_ge fun x hx => (f2 x hx).2
   unfold may at hm
   split at hm
   · cases hm
   · split at hm
     · cases hm
     · simp only [decide_eq_true_eq] at hm
       simp only
       omega
 · rw [if_neg hm]
   simp
theorem rootedTo_bound {σ : Type} {rd : Int → M σ Nd} : ∀ (f : Nat) (n : Nd) (h : Int) (s : σ) (r : Int) (s' : σ), rootedTo rd f n h s = .ok r s' → h ≤ r ∧ r ≤ h + f
 | 0, n, h, s, r, s', e => by
   unfold rootedTo at e
   split at e
   · cases e; omega
   · cases e
 | f + 1, n, h, s, r, s', e => by
   unfold rootedTo at e
   split at e
   · cases e; omega
   · cases hk : n.kids with
     | nil => rw [hk] at e; cases e
     | cons k l =>
       rw [hk] at e
       simp only at e
       obtain ⟨m, s1, e1, e2⟩ := bind_out e
       have := rootedTo_bound f m (h + 1) s1 r s' e2
       omega
theorem rooted_bound {root : Int} {s s' : TS} {x : Tall} (e : tRooted tRead root s = .ok x s') : -1 ≤ x.height ∧ x.height ≤ 20 ∧ 0 ≤ x.kid.scraps ∧ x.kid.scraps ≤ 1036 := by
 unfold tRooted at e
 split at e
 · cases e
   simp [noTall, kd0]
 · obtain ⟨n, s1, e1, e2⟩ := bind_out e
   obtain ⟨h, s2, e3, e4⟩ := bind_out e2
   cases e4
   have h1 := rootedTo_bound _ _ _ _ _ _ e3
   have h2 := sum_bound n
   unfold kdOf
   simp only
   omega
theorem hitE_bound : ∀ (l : List Ent) (n a : Int), 0 ≤ a → a ≤ n → (∀ x ∈ l, mayEnt x = true) → (match hitE l n a with
 | .inl (.here x a') => mayEnt x = true ∧ 0 ≤ a' ∧ a' ≤ n ∧ n < a' + x.len
 | .inl _ => False
 | .inr a' => 0 ≤ a' ∧ a' ≤ n)
 | [], n, a, h1, h2, h3 => ⟨h1, h2⟩
 | x :: l, n, a, h1, h2, h3 => by
   unfold hitE
   have hx := h3 x (List.mem_cons_self ..)
   have hl := mayE_len hx
   by_cases hc : n < a + x.len
   · rw [if_pos hc]
     exact ⟨hx, h1, h2, hc⟩
   · rw [if_neg hc]
     exact hitE_bound l n (a + x.len) (by omega) (by omega) fun y hy => h3 y (List.mem_cons_of_mem _ hy)
theorem hitK_bound : ∀ (l : List Kd) (n a : Int), 0 ≤ a → a ≤ n → (∀ x ∈ l, mayKid x = true) → (match hitK l n a with
 | .here _ _ => False
 | .below _ a' => 0 ≤ a' ∧ a' ≤ n
 | .past => True)
 | [], n, a, h1, h2, h3 => trivial
 | x :: l, n, a, h1, h2, h3 => by
   unfold hitK
   have hx := mayK_facts (h3 x (List.mem_cons_self ..))
   by_cases hc : n < a + x.bytes
   · rw [if_pos hc]
     exact ⟨h1, h2⟩
   · rw [if_neg hc]
     exact hitK_bound l n (a + x.bytes) (by omega) (by omega) fun y hy => h3 y (List.mem_cons_of_mem _ hy)
theorem seekTo_bound {σ : Type} {rd : Int → M σ Nd} (hrd : ∀ p s n s', rd p s = .ok n s' → may n = true) : ∀ (f : Nat) (m : Nd) (n a : Int) (s : σ) (z : Ent × Int) (s' : σ), may m = true → 0 ≤ a → a ≤ n → seekTo rd f m n a s = .ok z s' → mayEnt z.1 = true ∧ 0 ≤ z.2 ∧ z.2 ≤ n ∧ n < z.2 + z.1.len
 | 0, m, n, a, s, z, s', hm, h1, h2, e => by cases e
 | f + 1, m, n, a, s, z, s', hm, h1, h2, e => by
   obtain ⟨f1, f2⟩ := may_facts hm
   have b1 := hitE_bound m.ents n a h1 h2 fun x hx => (f1 x hx).2
   unfold seekTo hitN at e
   cases hE : hitE m.ents n a with
   | inl hh =>
     rw [hE] at b1 e
     cases hh with
     | here x a' => simp only at e b1; cases e; exact b1
     | below p a' => exact b1.elim
     | past => exact b1.elim
   | inr a' =>
     rw [hE] at b1 e
     simp only at b1 e
     have b2 := hitK_bound m.kids n a' b1.1 b1.2 fun x hx => (f2 x hx).2
     cases hK : hitK m.kids n a' with
     | here x a2 => rw [hK] at b2; exact b2.elim
     | past => rw [hK] at e; cases e
     | below p a2 =>
       rw [hK] at e b2
       simp only at e b2
       obtain ⟨m2, s1, e1, e2⟩ := bind_out e
       exact seekTo_bound hrd f m2 n a2 s1 z s' (hrd _ _ _ _ e1) b2.1 b2.2 e2
theorem seek_bound {root n : Int} {s s' : TS} {z : Ent × Int} (h : 0 ≤ n) (e : tSeek tRead root n s = .ok z s') : mayEnt z.1 = true ∧ 0 ≤ z.2 ∧ z.2 ≤ n ∧ n < z.2 + z.1.len := by
 unfold tSeek at e
 obtain ⟨m, s1, e1, e2⟩ := bind_out e
 exact seekTo_bound (fun p s n s' h => tRead_may h) 22 m n 0 s1 z s' (tRead_may e1) (Int.le_refl _) h e2
theorem size_bound {root : Int} {s s' : TS} {z : Int} (e : tSize tRead root s = .ok z s') : 0 ≤ z ∧ z ≤ 1048576 := by
 unfold tSize at e
 split at e
 · cases e; omega
 · obtain ⟨m, s1, e1, e2⟩ := bind_out e
   cases e2
   have := sum_bound m
   omega
theorem part_short (x : Ent) (a b : Int) : (Go.Tr.part x a b).length ≤ 1 := by
 unfold Go.Tr.part
 split
 · simp
 · split <;> simp
theorem leftOf_bound {root at_ : Int} {s s' : TS} {L : List Ent × Int} (h0 : 0 ≤ at_) (e : Go.Tr.leftOf tRead root at_ s = .ok L s') : L.1.length ≤ 1 ∧ (∀ y ∈ L.1, mayEnt y = true) ∧ 0 ≤ L.2 ∧ L.2 ≤ at_ := by
 unfold Go.Tr.leftOf at e
 split at e
 · obtain ⟨z, s1, e1, e2⟩ := bind_out e
   cases e2
   obtain ⟨b1, b2, b3, b4⟩ := seek_bound (by omega) e1
   exact ⟨part_short _ _ _, part_may b1 (Int.le_refl _) (by (try simp only); omega), b2, by (try simp only); omega⟩
 · cases e
   exact ⟨by simp, fun y hy => (List.not_mem_nil hy).elim, h0, Int.le_refl _⟩
theorem rightOf_bound {root tt all : Int} {s s' : TS} {R : List Ent × Int} (h0 : 0 ≤ tt) (e : Go.Tr.rightOf tRead root tt all s = .ok R s') : R.1.length ≤ 1 ∧ (∀ y ∈ R.1, mayEnt y = true) ∧ tt ≤ R.2 ∧ R.2 ≤ tt + 1048576 := by
 unfold Go.Tr.rightOf at e
 split at e
 · obtain ⟨z, s1, e1, e2⟩ := bind_out e
   cases e2
   obtain ⟨b1, b2, b3, b4⟩ := seek_bound h0 e1
   have hz := mayE_iff.1 b1
   exact ⟨part_short _ _ _, part_may b1 (by omega) (Int.le_refl _), by (try simp only); omega, by (try simp only); omega⟩
 · cases e
   exact ⟨by simp, fun y hy => (List.not_mem_nil hy).elim, Int.le_refl _, by (try simp only); omega⟩
end Go.Proofs.YtfhbmblbidcmmaaGreat
namespace Go.Proofs.YtfhbmblbidcmmaaGreat
set_option linter.unusedSimpArgs false
set_option linter.unusedVariables false
open Go.RowKit Go.Sl Go.Dk Go.Tr
attribute [local go_sem ↓] Go.wp_at_zero Go.wp_at_succ
attribute [local go_sem] Go.Sl.cell_sat Go.Sl.frozen_sat
theorem mayList_parts {l : List Ent} (h : mayList l = true) : (∀ x ∈ l, mayEnt x = true) ∧ eBytes l ≤ 1048576 := by
 rw [mayList_eq] at h
 simp only [Bool.and_eq_true, List.all_eq_true, decide_eq_true_eq] at h
 exact h
set_option maxRecDepth 100000 in
set_option maxHeartbeats 3200000 in
theorem splice_may (h : Th) (s : TS) (root at_ n : Int) (put : List Ent) (v : Value) (B F : Assn) (w : World) (hE : ReadsE B v put) (hs : Sat (treeP h s * (B * F)) w) (hl : put.length ≤ 65536) (hm : mayList put = false) :
 Calls Tryz.prog 33 #[.pointer (some ⟨h.t, 0, none⟩), .int .i64 root, .int .i64 at_, .int .i64 n, v] w fun e w' => e = .returned (vi2 0 1) ∧ Sat (treeP h s * (B * F)) w' := by
 have hmf : ∀ (fn : Fn) (first cap : Array Value) (w : World), (Instr.makeFunc fn first cap).run Tryz.prog w = .ok (.func fn first cap) w := fun _ _ _ _ => rfl
 obtain ⟨a0, c0, rfl, hE1, hE2⟩ := hE.v
 have hmy := fun F w q => tmay_any put _ B F w hE q (by omega)
 rw [hm] at hmy
 have h2 : Sat (B * (treeP h s * F)) w := hs.eq (by ac_rfl)
 haveI := h2.i
 unfold vi2
 clear hs h2
 go_enter_defers Tryz.func33, Tryz.ntmps33
 go_wp2_with fail
 with_reducible refine Calls.mono (hmy _ _ (takeI B)) ?_
 rintro e w2 ⟨rfl, q2⟩
 haveI := q2.i
 go_wp2
 simp [bodyPostD, Leaves, settle, results, Tryz.results33, go_sem]
 exact keep3 _ _ _
set_option maxRecDepth 100000 in
set_option maxHeartbeats 3200000 in
theorem splice_range (h : Th) (s : TS) (root at_ n : Int) (put : List Ent) (v : Value) (B F : Assn) (w : World) (hE : ReadsE B v put) (hs : Sat (treeP h s * (B * F)) w) (hl : put.length ≤ 65536) (hm : mayList put = true) (all : Int) (s1 : TS) (hz : tSize tRead root s = .ok all s1) (hc : at_ < 0 ∨ n < 0 ∨ all < at_ ∨ all - at_ < n) :
 Calls Tryz.prog 33 #[.pointer (some ⟨h.t, 0, none⟩), .int .i64 root, .int .i64 at_, .int .i64 n, v] w fun e w' => e = .returned (vi2 0 2) ∧ Sat (treeP h s1 * (B * F)) w' := by
 have hmf : ∀ (fn : Fn) (first cap : Array Value) (w : World), (Instr.makeFunc fn first cap).run Tryz.prog w = .ok (.func fn first cap) w := fun _ _ _ _ => rfl
 obtain ⟨a0, c0, rfl, hE1, hE2⟩ := hE.v
 have hmy := fun F w q => tmay_any put _ B F w hE q (by omega)
 rw [hm] at hmy
 have h2 : Sat (B * (treeP h s * F)) w := hs.eq (by ac_rfl)
 haveI := h2.i
 have c1 := fun F w q => size_tany h s root F w q (by rw [hz]; simp)
 rw [hz] at c1
 have hzb := size_bound hz
 unfold vi2
 clear hs h2
 go_enter_defers Tryz.func33, Tryz.ntmps33
 go_wp2_with fail
 with_reducible refine Calls.mono (hmy _ _ (takeI B)) ?_
 rintro e w2 ⟨rfl, q2⟩
 haveI := q2.i
 go_wp2_with fail
 with_reducible refine Calls.mono (c1 _ _ (takeI (treeP h s))) ?_
 rintro e w3 ⟨rfl, q3⟩
 haveI := q3.i
 unfold vi2
 by_cases k1 : at_ < 0
 · clear hc
   go_wp2
   simp [bodyPostD, Leaves, settle, results, Tryz.results33, go_sem]
   exact keep3 _ _ _
 by_cases k2 : n < 0
 · clear hc
   go_wp2
   simp [bodyPostD, Leaves, settle, results, Tryz.results33, go_sem]
   exact keep3 _ _ _
 by_cases k3 : all < at_
 · clear hc
   go_wp2
   simp [bodyPostD, Leaves, settle, results, Tryz.results33, go_sem]
   exact keep3 _ _ _
 have k4 : all - at_ < n := by omega
 have hw : IntKind.i64.wrap (all - at_) = all - at_ := IntWalk.i64_in _ (by omega)
 clear hc
 go_wp2
 simp [bodyPostD, Leaves, settle, results, Tryz.results33, go_sem]
 exact keep3 _ _ _
set_option maxRecDepth 100000 in
set_option maxHeartbeats 3200000 in
theorem splice_big (h : Th) (s : TS) (root at_ n : Int) (put : List Ent) (v : Value) (B F : Assn) (w : World) (hE : ReadsE B v put) (hs : Sat (treeP h s * (B * F)) w) (hl : put.length ≤ 65536) (hm : mayList put = true) (all : Int) (s1 : TS) (hz : tSize tRead root s = .ok all s1) (k1 : ¬ at_ < 0) (k2 : ¬ n < 0) (k3 : ¬ all < at_) (k4 : ¬ all - at_ < n) (k5 : 1048576 < all - n + eBytes put) :
 Calls Tryz.prog 33 #[.pointer (some ⟨h.t, 0, none⟩), .int .i64 root, .int .i64 at_, .int .i64 n, v] w fun e w' => e = .returned (vi2 0 10) ∧ Sat (treeP h s1 * (B * F)) w' := by
 have hmf : ∀ (fn : Fn) (first cap : Array Value) (w : World), (Instr.makeFunc fn first cap).run Tryz.prog w = .ok (.func fn first cap) w := fun _ _ _ _ => rfl
 obtain ⟨a0, c0, rfl, hE1, hE2⟩ := hE.v
 have hmy := fun F w q => tmay_any put _ B F w hE q (by omega)
 rw [hm] at hmy
 have h2 : Sat (B * (treeP h s * F)) w := hs.eq (by ac_rfl)
 haveI := h2.i
 have c1 := fun F w q => size_tany h s root F w q (by rw [hz]; simp)
 rw [hz] at c1
 have hzb := size_bound hz
 have hmp := mayList_parts hm
 have hmp1 := fun x hx => mayE_len (hmp.1 x hx)
 have hpb := eBytes_ge hmp.1
 have htot := fun F w q => total_any put _ B F w hE q (by omega) (fun x hx => by have := hmp1 x hx; have := mayE_iff.1 (hmp.1 x hx); omega)
 have hw : IntKind.i64.wrap (all - at_) = all - at_ := IntWalk.i64_in _ (by omega)
 have hw2 : IntKind.i64.wrap (all - n) = all - n := IntWalk.i64_in _ (by omega)
 obtain ⟨tot, htt⟩ : ∃ t, eBytes put = t := ⟨_, rfl⟩
 rw [htt] at htot hmp hpb k5
 obtain ⟨hmp2, hmp3⟩ := hmp
 have hw3 : IntKind.i64.wrap (all - n + tot) = all - n + tot := IntWalk.i64_in _ (by omega)
 clear hmp2 hmp1
 unfold vi2
 clear hs h2
 go_enter_defers Tryz.func33, Tryz.ntmps33
 go_wp2_with fail
 with_reducible refine Calls.mono (hmy _ _ (takeI B)) ?_
 rintro e w2 ⟨rfl, q2⟩
 haveI := q2.i
 go_wp2_with fail
 with_reducible refine Calls.mono (c1 _ _ (takeI (treeP h s))) ?_
 rintro e w3 ⟨rfl, q3⟩
 haveI := q3.i
 unfold vi2
 go_wp2_with fail
 with_reducible refine Calls.mono (htot _ _ (takeI B)) ?_
 rintro e w4 ⟨rfl, q4⟩
 haveI := q4.i
 go_wp2
 simp [bodyPostD, Leaves, settle, results, Tryz.results33, go_sem]
 exact keep3 _ _ _
set_option maxRecDepth 100000 in
set_option maxHeartbeats 3200000 in
theorem splice_none (h : Th) (s : TS) (root at_ n : Int) (put : List Ent) (v : Value) (B F : Assn) (w : World) (hE : ReadsE B v put) (hs : Sat (treeP h s * (B * F)) w) (hl : put.length ≤ 65536) (hm : mayList put = true) (all : Int) (s1 : TS) (hz : tSize tRead root s = .ok all s1) (k1 : ¬ at_ < 0) (k2 : ¬ n < 0) (k3 : ¬ all < at_) (k4 : ¬ all - at_ < n) (k5 : ¬ 1048576 < all - n + eBytes put) (hn : n = 0) (hp : put = []) :
 Calls Tryz.prog 33 #[.pointer (some ⟨h.t, 0, none⟩), .int .i64 root, .int .i64 at_, .int .i64 n, v] w fun e w' => e = .returned (vi2 root 0) ∧ Sat (treeP h s1 * (B * F)) w' := by
 have hmf : ∀ (fn : Fn) (first cap : Array Value) (w : World), (Instr.makeFunc fn first cap).run Tryz.prog w = .ok (.func fn first cap) w := fun _ _ _ _ => rfl
 obtain ⟨a0, c0, rfl, hE1, hE2⟩ := hE.v
 have hmy := fun F w q => tmay_any put _ B F w hE q (by omega)
 rw [hm] at hmy
 have h2 : Sat (B * (treeP h s * F)) w := hs.eq (by ac_rfl)
 haveI := h2.i
 have c1 := fun F w q => size_tany h s root F w q (by rw [hz]; simp)
 rw [hz] at c1
 have hzb := size_bound hz
 have hmp := mayList_parts hm
 have hmp1 := fun x hx => mayE_len (hmp.1 x hx)
 have hpb := eBytes_ge hmp.1
 have htot := fun F w q => total_any put _ B F w hE q (by omega) (fun x hx => by have := hmp1 x hx; have := mayE_iff.1 (hmp.1 x hx); omega)
 have hw : IntKind.i64.wrap (all - at_) = all - at_ := IntWalk.i64_in _ (by omega)
 have hw2 : IntKind.i64.wrap (all - n) = all - n := IntWalk.i64_in _ (by omega)
 obtain ⟨tot, htt⟩ : ∃ t, eBytes put = t := ⟨_, rfl⟩
 rw [htt] at htot hmp hpb k5
 obtain ⟨hmp2, hmp3⟩ := hmp
 have hw3 : IntKind.i64.wrap (all - n + tot) = all - n + tot := IntWalk.i64_in _ (by omega)
 clear hmp2 hmp1
 subst hp
 subst hn
 unfold vi2
 clear hs h2
 go_enter_defers Tryz.func33, Tryz.ntmps33
 go_wp2_with fail
 with_reducible refine Calls.mono (hmy _ _ (takeI B)) ?_
 rintro e w2 ⟨rfl, q2⟩
 haveI := q2.i
 go_wp2_with fail
 with_reducible refine Calls.mono (c1 _ _ (takeI (treeP h s))) ?_
 rintro e w3 ⟨rfl, q3⟩
 haveI := q3.i
 unfold vi2
 go_wp2_with fail
 with_reducible refine Calls.mono (htot _ _ (takeI B)) ?_
 rintro e w4 ⟨rfl, q4⟩
 haveI := q4.i
 go_wp2
 simp [bodyPostD, Leaves, settle, results, Tryz.results33, go_sem]
 exact keep3 _ _ _
end Go.Proofs.YtfhbmblbidcmmaaGreat
namespace Go.Proofs.YtfhbmblbidcmmaaGreat
set_option linter.unusedSimpArgs false
set_option linter.unusedVariables false
set_option linter.unusedSectionVars false
open Go.RowKit Go.Sl Go.Dk Go.Tr
variable [TopN]
attribute [local go_sem ↓] Go.wp_at_zero Go.wp_at_succ
attribute [local go_sem] Go.Sl.cell_sat Go.Sl.frozen_sat
def nmS : ByteArray := ⟨#[115, 116, 111, 114, 101]⟩
end Go.Proofs.YtfhbmblbidcmmaaGreat
namespace Go.Proofs.YtfhbmblbidcmmaaGreat
set_option linter.unusedSimpArgs false
set_option linter.unusedVariables false
set_option linter.unusedSectionVars false
open Go.RowKit Go.Sl Go.Dk Go.Tr
variable [TopN]
attribute [local go_sem ↓] Go.wp_at_zero Go.wp_at_succ
attribute [local go_sem] Go.Sl.cell_sat Go.Sl.frozen_sat
set_option maxHeartbeats 800000 in
theorem newT_yes (C S : Nat) (F : Assn) (w : World) (hs : Sat F w) :
 Calls Tryz.prog 47 #[.pointer (some ⟨C, 0, none⟩), .pointer (some ⟨S, 0, none⟩)] w fun e w' => ∃ t : Nat, e = .returned (.tuple #[.pointer (some ⟨t, 0, none⟩), .int .i64 0]) ∧ Sat (Sl.block t TTr [.pointer (some ⟨C, 0, none⟩), .pointer (some ⟨S, 0, none⟩)] * F) w' := by
 haveI := hs.i
 go_enter Tryz.func47, Tryz.ntmps47
 go_wp2
 go_ret2
 exact ⟨_, rfl, keep2 _ _⟩
end Go.Proofs.YtfhbmblbidcmmaaGreat
namespace Go.Proofs.YtfhbmblbidcmmaaGreat
set_option linter.unusedSimpArgs false
set_option linter.unusedVariables false
set_option linter.unusedSectionVars false
open Go.RowKit Go.Sl Go.Dk Go.Tr
instance top15 : TopN := ⟨65000, by omega⟩
def dkO (O : List UInt8) : Dk := ⟨16777216, 0, 0, false, false, [(nmO, ⟨O, O, true⟩)], []⟩
def dkOT (O T : List UInt8) : Dk := ⟨16777216, 0, 0, false, false, [(nmO, ⟨O, O, true⟩), (nmT, ⟨T, T, true⟩)], []⟩
theorem nmTO : nmT ≠ nmO := by decide +kernel
theorem nmSO : nmS ≠ nmO := by decide +kernel
theorem nmST : nmS ≠ nmT := by decide +kernel
theorem load_one (O : List UInt8) (hO : O.length ≤ 3000) : (Dk.new 16777216).load nmO O = (0, dkO O) := by
 have h1 : (Dk.new 16777216).fits ((Dk.new 16777216).get nmO) O.length = 0 := by
  unfold Dk.fits
  have e1 : (Dk.new 16777216).get nmO = none := rfl
  have e2 : (Dk.new 16777216).files = [] := rfl
  have e3 : (Dk.new 16777216).room = 16777216 := rfl
  rw [e1, e2, e3]
  have e4 : sum ([] : List (ByteArray × Fl)) = 0 := rfl
  have e5 : had none = 0 := rfl
  rw [e4, e5, if_neg (by simp), if_neg (by simp; omega)]
 unfold Dk.load
 rw [if_neg (by simp [nmO_named]), h1, if_neg (by simp)]
 rfl
theorem load_two (O T : List UInt8) (hO : O.length ≤ 3000) (hT : T.length ≤ 3000) : (dkO O).load nmT T = (0, dkOT O T) := by
 have e1 : (dkO O).get nmT = none := by
  show fget nmT [(nmO, _)] = none
  unfold fget
  rw [if_neg nmTO]
  rfl
 have h1 : (dkO O).fits ((dkO O).get nmT) T.length = 0 := by
  unfold Dk.fits
  have e2 : sum (dkO O).files = O.length := by simp [dkO, sum]
  have e3 : (dkO O).room = 16777216 := rfl
  have e5 : had none = 0 := rfl
  have e6 : (dkO O).files.length = 1 := rfl
  rw [e1, e2, e3, e5, e6, if_neg (by simp), if_neg (by simp; omega)]
 unfold Dk.load
 rw [if_neg (by simp [nmT_named]), h1, if_neg (by simp)]
 have e7 : fput nmT (⟨T, T, true⟩ : Fl) (dkO O).files = [(nmO, ⟨O, O, true⟩), (nmT, ⟨T, T, true⟩)] := by
  show fput nmT _ [(nmO, _)] = _
  unfold fput
  rw [if_neg nmTO]
  rfl
 show ((0 : Int), Dk.put ((dkO O).settled nmT) nmT ⟨T, T, true⟩) = _
 unfold Dk.put
 have e8 : ((dkO O).settled nmT).files = (dkO O).files := rfl
 rw [e8, e7]
 rfl
theorem get_O (O T : List UInt8) : (dkOT O T).get nmO = some ⟨O, O, true⟩ := by
 show fget nmO [(nmO, _), (nmT, _)] = _
 unfold fget
 rw [if_pos rfl]
theorem get_T (O T : List UInt8) : (dkOT O T).get nmT = some ⟨T, T, true⟩ := by
 show fget nmT [(nmO, _), (nmT, _)] = _
 unfold fget
 rw [if_neg nmTO]
 unfold fget
 rw [if_pos rfl]
theorem get_S (O T : List UInt8) : (dkOT O T).get nmS = none := by
 show fget nmS [(nmO, _), (nmT, _)] = _
 unfold fget
 rw [if_neg nmSO]
 unfold fget
 rw [if_neg nmST]
 rfl
def ckL (O T : List UInt8) (cap : Int) : Ck := ⟨nmS, cap, 0, dkOT O T, [], []⟩
def tsL (O T : List UInt8) (cap : Int) : TS := ⟨ckL O T cap, Sp.new 1, 0⟩
theorem dkO_ok (O : List UInt8) (hO : O.length ≤ 3000) : Ok 0 (dkO O) := by
 have := ok_load (ok_new 16777216 (by omega) (by unfold big; omega)) nmO O
 rw [load_one O hO] at this
 exact this
theorem dkOT_ok (O T : List UInt8) (hO : O.length ≤ 3000) (hT : T.length ≤ 3000) : Ok 0 (dkOT O T) := by
 have := ok_load (dkO_ok O hO) nmT T
 rw [load_two O T hO hT] at this
 exact this
theorem ckL_ok (O T : List UInt8) (cap : Int) (hO : O.length ≤ 3000) (hT : T.length ≤ 3000) (h3 : 1 ≤ cap) (h4 : cap ≤ 4096) : CkOk 0 (ckL O T cap) :=
 ⟨⟨by simp [ckL, keysI], by simp [ckL], by simp [ckL]⟩, by simp [ckL], fun k => by simp [ckL, hasI, pget], rfl, by simp [ckL], by simp only [ckL]; omega, by simp [ckL]; omega, dkOT_ok O T hO hT, (by show Dk.named nmS = true; decide +kernel), by simp [ckL]⟩
theorem tsL_inv (O T : List UInt8) (cap : Int) (hO : O.length ≤ 3000) (hT : T.length ≤ 3000) (h3 : 1 ≤ cap) (h4 : cap ≤ 4096) : TInv true (tsL O T cap) where
 ts := ⟨⟨0, ckL_ok O T cap hO hT h3 h4⟩, by
  have e : (fnow (ckL O T cap).d (ckL O T cap).nm) = [] := by
   show ((dkOT O T).get nmS |>.getD Dk.fl0).now = []
   rw [get_S]; rfl
  exact ⟨Int.le_refl _, Int.le_refl _, Nat.zero_le _, Int.le_refl _, by show (fnow (ckL O T cap).d (ckL O T cap).nm).length ≤ _; rw [e]; simp⟩, by unfold tsL opsMax; simp, by simp [tsL, Sp.new], by simp [tsL, Sp.new]⟩
 good := ⟨⟨rfl, rfl, (by show Dk.named nmS = true; decide +kernel), by show 2 + (if ((dkOT O T).get nmS).isSome then 0 else 1) ≤ 8; split <;> omega⟩, by simp [tsL, ckL], by simp [tsL, ckL], ⟨by
  have e : (fnow (ckL O T cap).d (ckL O T cap).nm) = [] := by
   show ((dkOT O T).get nmS |>.getD Dk.fl0).now = []
   rw [get_S]; rfl
  show (fnow (ckL O T cap).d (ckL O T cap).nm).length ≤ _; rw [e]; simp, by simp [tsL, ckL]⟩⟩
 res := by simp [tsL, Sp.new]
 used := by simp [tsL, Sp.new]
 roomy h := by
  unfold Roomy oth
  show ((sum (dkOT O T).files : Nat) : Int) - had ((dkOT O T).get nmS) + ((256 * TOP : Nat) : Int) ≤ 16777216
  rw [get_S]
  have e1 : sum (dkOT O T).files = O.length + T.length := by simp [dkOT, sum]
  have e2 : had none = 0 := rfl
  have e3 : TOP = 65000 := rfl
  rw [e1, e2, e3]
  omega
theorem tsL_room (O T : List UInt8) (cap : Int) : roomOf (tsL O T cap).sp = 64999 := by
 have e3 : TOP = 65000 := rfl
 simp [roomOf, tsL, Sp.new, e3]
end Go.Proofs.YtfhbmblbidcmmaaGreat
