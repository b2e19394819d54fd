/-
  Of any pages in a file a root is found to be a tree just if it is one in the form of the document. No condition. (part 53)
-/
import Derived.Test.YtfhbmblbidcmmaaGreatRk46
import Derived.Test.YtfhbmblbidcmmaaGreatRk51
import Derived.Test.YtfhbmblbidcmmaaGreatRk33
import Derived.Test.YtfhbmblbidcmmaaGreatRk44
import Derived.Test.YtfhbmblbidcmmaaGreatRk43
import Derived.IntWalk
import Derived.WalkLawsBesides
set_option linter.unusedSimpArgs false
set_option linter.unusedVariables false
namespace Go.Proofs.YtfhbmblbidcmmaaGreat
set_option linter.unusedSimpArgs false
set_option linter.unusedVariables false
open Go.RowKit Go.Sl Go.Dk Go.Tr
theorem kBytes_ge {l : List Kd} (h : ∀ x ∈ l, mayKid x = true) : 0 ≤ kBytes l ∧ 0 ≤ kScraps l := by
 induction l with
 | nil => exact ⟨by simp [kBytes], by simp [kScraps]⟩
 | cons a l ih =>
   obtain ⟨h1, h2⟩ := ih fun x hx => h x (List.mem_cons_of_mem _ hx)
   have h3 := mayK_facts (h a (List.mem_cons_self ..))
   have e1 : kBytes (a :: l) = a.bytes + kBytes l := by simp [kBytes]
   have e2 : kScraps (a :: l) = a.scraps + kScraps l := by simp [kScraps]
   omega
theorem sum_bound (n : Nd) : 0 ≤ (ndSum n).1 ∧ (ndSum n).1 ≤ 1048576 ∧ 0 ≤ (ndSum n).2.2 ∧ (ndSum n).2.2 ≤ 1036 := by
 unfold ndSum
 by_cases hm : may n = true
 · rw [if_pos hm]
   obtain ⟨f1, f2⟩ := may_facts hm
   obtain ⟨l1, l2⟩ := may_len hm
   have g1 := eBytes_ge fun x hx => (f1 x hx).2
   obtain ⟨g2, g3⟩ := kBytes_ge fun x hx => (f2 x hx).2
   unfold may at hm
   split at hm
   · cases hm
   · split at hm
     · cases hm
     · simp only [decide_eq_true_eq] at hm
       simp only
       omega
 · rw [if_neg hm]
   simp
theorem rootedTo_bound {σ : Type} {rd : Int → M σ Nd} : ∀ (f : Nat) (n : Nd) (h : Int) (s : σ) (r : Int) (s' : σ), rootedTo rd f n h s = .ok r s' → h ≤ r ∧ r ≤ h + f
 | 0, n, h, s, r, s', e => by
   unfold rootedTo at e
   split at e
   · cases e; omega
   · cases e
 | f + 1, n, h, s, r, s', e => by
   unfold rootedTo at e
   split at e
   · cases e; omega
   · cases hk : n.kids with
     | nil => rw [hk] at e; cases e
     | cons k l =>
       rw [hk] at e
       simp only at e
       obtain ⟨m, s1, e1, e2⟩ := bind_out e
       have := rootedTo_bound f m (h + 1) s1 r s' e2
       omega
theorem rooted_bound {root : Int} {s s' : TS} {x : Tall} (e : tRooted tRead root s = .ok x s') : -1 ≤ x.height ∧ x.height ≤ 20 ∧ 0 ≤ x.kid.scraps ∧ x.kid.scraps ≤ 1036 := by
 unfold tRooted at e
 split at e
 · cases e
   simp [noTall, kd0]
 · obtain ⟨n, s1, e1, e2⟩ := bind_out e
   obtain ⟨h, s2, e3, e4⟩ := bind_out e2
   cases e4
   have h1 := rootedTo_bound _ _ _ _ _ _ e3
   have h2 := sum_bound n
   unfold kdOf
   simp only
   omega
theorem hitE_bound : ∀ (l : List Ent) (n a : Int), 0 ≤ a → a ≤ n → (∀ x ∈ l, mayEnt x = true) → (match hitE l n a with
 | .inl (.here x a') => mayEnt x = true ∧ 0 ≤ a' ∧ a' ≤ n ∧ n < a' + x.len
 | .inl _ => False
 | .inr a' => 0 ≤ a' ∧ a' ≤ n)
 | [], n, a, h1, h2, h3 => ⟨h1, h2⟩
 | x :: l, n, a, h1, h2, h3 => by
   unfold hitE
   have hx := h3 x (List.mem_cons_self ..)
   have hl := mayE_len hx
   by_cases hc : n < a + x.len
   · rw [if_pos hc]
     exact ⟨hx, h1, h2, hc⟩
   · rw [if_neg hc]
     exact hitE_bound l n (a + x.len) (by omega) (by omega) fun y hy => h3 y (List.mem_cons_of_mem _ hy)
theorem hitK_bound : ∀ (l : List Kd) (n a : Int), 0 ≤ a → a ≤ n → (∀ x ∈ l, mayKid x = true) → (match hitK l n a with
 | .here _ _ => False
 | .below _ a' => 0 ≤ a' ∧ a' ≤ n
 | .past => True)
 | [], n, a, h1, h2, h3 => trivial
 | x :: l, n, a, h1, h2, h3 => by
   unfold hitK
   have hx := mayK_facts (h3 x (List.mem_cons_self ..))
   by_cases hc : n < a + x.bytes
   · rw [if_pos hc]
     exact ⟨h1, h2⟩
   · rw [if_neg hc]
     exact hitK_bound l n (a + x.bytes) (by omega) (by omega) fun y hy => h3 y (List.mem_cons_of_mem _ hy)
theorem seekTo_bound {σ : Type} {rd : Int → M σ Nd} (hrd : ∀ p s n s', rd p s = .ok n s' → may n = true) : ∀ (f : Nat) (m : Nd) (n a : Int) (s : σ) (z : Ent × Int) (s' : σ), may m = true → 0 ≤ a → a ≤ n → seekTo rd f m n a s = .ok z s' → mayEnt z.1 = true ∧ 0 ≤ z.2 ∧ z.2 ≤ n ∧ n < z.2 + z.1.len
 | 0, m, n, a, s, z, s', hm, h1, h2, e => by cases e
 | f + 1, m, n, a, s, z, s', hm, h1, h2, e => by
   obtain ⟨f1, f2⟩ := may_facts hm
   have b1 := hitE_bound m.ents n a h1 h2 fun x hx => (f1 x hx).2
   unfold seekTo hitN at e
   cases hE : hitE m.ents n a with
   | inl hh =>
     rw [hE] at b1 e
     cases hh with
     | here x a' => simp only at e b1; cases e; exact b1
     | below p a' => exact b1.elim
     | past => exact b1.elim
   | inr a' =>
     rw [hE] at b1 e
     simp only at b1 e
     have b2 := hitK_bound m.kids n a' b1.1 b1.2 fun x hx => (f2 x hx).2
     cases hK : hitK m.kids n a' with
     | here x a2 => rw [hK] at b2; exact b2.elim
     | past => rw [hK] at e; cases e
     | below p a2 =>
       rw [hK] at e b2
       simp only at e b2
       obtain ⟨m2, s1, e1, e2⟩ := bind_out e
       exact seekTo_bound hrd f m2 n a2 s1 z s' (hrd _ _ _ _ e1) b2.1 b2.2 e2
theorem seek_bound {root n : Int} {s s' : TS} {z : Ent × Int} (h : 0 ≤ n) (e : tSeek tRead root n s = .ok z s') : mayEnt z.1 = true ∧ 0 ≤ z.2 ∧ z.2 ≤ n ∧ n < z.2 + z.1.len := by
 unfold tSeek at e
 obtain ⟨m, s1, e1, e2⟩ := bind_out e
 exact seekTo_bound (fun p s n s' h => tRead_may h) 22 m n 0 s1 z s' (tRead_may e1) (Int.le_refl _) h e2
theorem size_bound {root : Int} {s s' : TS} {z : Int} (e : tSize tRead root s = .ok z s') : 0 ≤ z ∧ z ≤ 1048576 := by
 unfold tSize at e
 split at e
 · cases e; omega
 · obtain ⟨m, s1, e1, e2⟩ := bind_out e
   cases e2
   have := sum_bound m
   omega
theorem part_short (x : Ent) (a b : Int) : (Go.Tr.part x a b).length ≤ 1 := by
 unfold Go.Tr.part
 split
 · simp
 · split <;> simp
theorem leftOf_bound {root at_ : Int} {s s' : TS} {L : List Ent × Int} (h0 : 0 ≤ at_) (e : Go.Tr.leftOf tRead root at_ s = .ok L s') : L.1.length ≤ 1 ∧ (∀ y ∈ L.1, mayEnt y = true) ∧ 0 ≤ L.2 ∧ L.2 ≤ at_ := by
 unfold Go.Tr.leftOf at e
 split at e
 · obtain ⟨z, s1, e1, e2⟩ := bind_out e
   cases e2
   obtain ⟨b1, b2, b3, b4⟩ := seek_bound (by omega) e1
   exact ⟨part_short _ _ _, part_may b1 (Int.le_refl _) (by (try simp only); omega), b2, by (try simp only); omega⟩
 · cases e
   exact ⟨by simp, fun y hy => (List.not_mem_nil hy).elim, h0, Int.le_refl _⟩
theorem rightOf_bound {root tt all : Int} {s s' : TS} {R : List Ent × Int} (h0 : 0 ≤ tt) (e : Go.Tr.rightOf tRead root tt all s = .ok R s') : R.1.length ≤ 1 ∧ (∀ y ∈ R.1, mayEnt y = true) ∧ tt ≤ R.2 ∧ R.2 ≤ tt + 1048576 := by
 unfold Go.Tr.rightOf at e
 split at e
 · obtain ⟨z, s1, e1, e2⟩ := bind_out e
   cases e2
   obtain ⟨b1, b2, b3, b4⟩ := seek_bound h0 e1
   have hz := mayE_iff.1 b1
   exact ⟨part_short _ _ _, part_may b1 (by omega) (Int.le_refl _), by (try simp only); omega, by (try simp only); omega⟩
 · cases e
   exact ⟨by simp, fun y hy => (List.not_mem_nil hy).elim, Int.le_refl _, by (try simp only); omega⟩
end Go.Proofs.YtfhbmblbidcmmaaGreat
namespace Go.Proofs.YtfhbmblbidcmmaaGreat
set_option linter.unusedSimpArgs false
set_option linter.unusedVariables false
open Go.RowKit Go.Sl Go.Dk Go.Tr
attribute [local go_sem ↓] Go.wp_at_zero Go.wp_at_succ
attribute [local go_sem] Go.Sl.cell_sat Go.Sl.frozen_sat
theorem mayList_parts {l : List Ent} (h : mayList l = true) : (∀ x ∈ l, mayEnt x = true) ∧ eBytes l ≤ 1048576 := by
 rw [mayList_eq] at h
 simp only [Bool.and_eq_true, List.all_eq_true, decide_eq_true_eq] at h
 exact h
end Go.Proofs.YtfhbmblbidcmmaaGreat
namespace Go.Proofs.YtfhbmblbidcmmaaGreat
set_option linter.unusedSimpArgs false
set_option linter.unusedVariables false
set_option linter.unusedSectionVars false
open Go.RowKit Go.Sl Go.Dk Go.Tr
variable [TopN]
attribute [local go_sem ↓] Go.wp_at_zero Go.wp_at_succ
attribute [local go_sem] Go.Sl.cell_sat Go.Sl.frozen_sat
def nmS : ByteArray := ⟨#[115, 116, 111, 114, 101]⟩
def ck0 (room cap : Int) : Ck := ⟨nmS, cap, 0, Dk.new room, [], []⟩
def ts0 (room cap : Int) : TS := ⟨ck0 room cap, Sp.new 1, 0⟩
theorem ck0_ok (room cap : Int) (h1 : 0 ≤ room) (h2 : room ≤ 1099511627776) (h3 : 1 ≤ cap) (h4 : cap ≤ 4096) : CkOk 0 (ck0 room cap) :=
 ⟨⟨by simp [ck0, keysI], by simp [ck0], by simp [ck0]⟩, by simp [ck0], fun k => by simp [ck0, hasI, pget], rfl, by simp [ck0], by simp only [ck0]; omega, by simp [ck0]; omega, ok_new room h1 (by unfold big; omega), (by show Dk.named nmS = true; decide +kernel), by simp [ck0]⟩
theorem ts0_inv (room cap : Int) (h1 : 0 ≤ room) (h2 : room ≤ 1099511627776) (h3 : 1 ≤ cap) (h4 : cap ≤ 4096) (r : Bool) (hr : r = true → 268435456 ≤ room) : TInv r (ts0 room cap) where
 ts := ⟨⟨0, ck0_ok room cap h1 h2 h3 h4⟩, by
  have e : (fnow (ck0 room cap).d (ck0 room cap).nm) = [] := rfl
  exact ⟨Int.le_refl _, Int.le_refl _, Nat.zero_le _, Int.le_refl _, by show (fnow (ck0 room cap).d (ck0 room cap).nm).length ≤ _; rw [e]; simp⟩, by unfold ts0 opsMax; simp, by simp [ts0, Sp.new], by simp [ts0, Sp.new]⟩
 good := ⟨⟨rfl, rfl, (by show Dk.named nmS = true; decide +kernel), by show ([] : List (ByteArray × Fl)).length + _ ≤ 8; split <;> simp⟩, by simp [ts0, ck0], by simp [ts0, ck0], ⟨by show ([] : List UInt8).length ≤ _; simp, by simp [ts0, ck0]⟩⟩
 res := by simp [ts0, Sp.new]
 used := by simp [ts0, Sp.new]
 roomy h := by
  have := hr h
  unfold Roomy
  rw [oth_nil rfl]
  show (0 : Int) + ((256 * TOP : Nat) : Int) ≤ room
  have := TOP_le
  omega
end Go.Proofs.YtfhbmblbidcmmaaGreat
namespace Go.Proofs.YtfhbmblbidcmmaaGreat
open Go.RowKit Go.Sl Go.Dk Go.Tr
def okOf {α : Type} : Res TS α → Option α
 | .ok a _ => some a
 | _ => none
def awM : M TS (Int × Int × Int × List Ent) := M.bind (mBuild [⟨0, 0, 10, -1⟩]) fun r => M.bind (tSize tRead r) fun n => M.bind (tSplice tRead tWrite r 3 2 n [⟨1, 0, 1, 1⟩]) fun q => M.bind (tList tRead q) fun l => M.pure (r, n, q, l)
set_option maxRecDepth 1000000
theorem aw2 : (match okOf (awM (ts0 1048576 8)) with | some (r, n, q, l) => decide (r = 1 ∧ n = 10) && (l.map fun e => (e.src, e.pos, e.len, e.lines)) == [(0, 0, 3, -1), (1, 0, 1, 1), (0, 5, 5, -1)] | none => false) = true := by kernel_rfl
end Go.Proofs.YtfhbmblbidcmmaaGreat
namespace Go.Proofs.YtfhbmblbidcmmaaGreat
set_option linter.unusedSimpArgs false
set_option linter.unusedVariables false
set_option linter.unusedSectionVars false
open Go.RowKit Go.Sl Go.Dk Go.Tr
variable [TopN]
attribute [local go_sem ↓] Go.wp_at_zero Go.wp_at_succ
attribute [local go_sem] Go.Sl.cell_sat Go.Sl.frozen_sat
set_option maxHeartbeats 800000 in
theorem newT_yes (C S : Nat) (F : Assn) (w : World) (hs : Sat F w) :
 Calls Tryz.prog 47 #[.pointer (some ⟨C, 0, none⟩), .pointer (some ⟨S, 0, none⟩)] w fun e w' => ∃ t : Nat, e = .returned (.tuple #[.pointer (some ⟨t, 0, none⟩), .int .i64 0]) ∧ Sat (Sl.block t TTr [.pointer (some ⟨C, 0, none⟩), .pointer (some ⟨S, 0, none⟩)] * F) w' := by
 haveI := hs.i
 go_enter Tryz.func47, Tryz.ntmps47
 go_wp2
 go_ret2
 exact ⟨_, rfl, keep2 _ _⟩
abbrev TBe : TypeId := 43
set_option maxRecDepth 100000 in
set_option maxHeartbeats 1600000 in
theorem set_any (room cap : Int) (F : Assn) (w : World) (hs : Sat F w) (h1 : 0 ≤ room) (h2 : room ≤ 1099511627776) (h3 : 1 ≤ cap) (h4 : cap ≤ 4096) :
 Calls Tryz.prog 11 #[.int .i64 room, .int .i64 cap] w fun e w' => ∃ (b : Nat) (h : Th), e = .returned (.pointer (some ⟨b, 0, none⟩)) ∧ Sat (Sl.block b TBe [.pointer (some ⟨h.D, 0, none⟩), .pointer (some ⟨h.C, 0, none⟩), .pointer (some ⟨h.S, 0, none⟩), .pointer (some ⟨h.t, 0, none⟩)] * (treeP h (ts0 room cap) * F)) w' := by
 have hts := (ts0_inv room cap h1 h2 h3 h4 false (by simp)).ts
 have hnm : Dk.named nmS = true := by decide +kernel
 go_enter Tryz.func11, Tryz.ntmps11
 go_wp2_with fail
 with_reducible refine Calls.mono (newD_yes room F _ hs h1 h2) ?_
 rintro e w1 ⟨D, rfl, q1⟩
 haveI := q1.i
 go_wp2_with fail
 refine Calls.mono (newC_yes D (Dk.new room) nmS cap F _ q1 hnm h3 h4) ?_
 rintro e w2 ⟨C, rfl, q2⟩
 haveI := q2.i
 go_wp2_with fail
 with_reducible refine Calls.mono (spNew_yes 1 _ _ (by omega) (by omega) q2) ?_
 rintro e w3 ⟨S, rfl, q3⟩
 haveI := q3.i
 go_wp2_with fail
 with_reducible refine Calls.mono (newT_yes C S _ _ q3) ?_
 rintro e w4 ⟨t, rfl, q4⟩
 have q5 : Sat (treeP ⟨t, C, S, D⟩ (ts0 room cap) * F) w4 := tree_join hts (q4.eq (by show _ = cacheP C D (ck0 room cap) * _; unfold ck0; ac_rfl))
 haveI := q5.i
 clear q1 q2 q3 q4
 go_wp2
 go_ret
 exact ⟨_, ⟨t, C, S, D⟩, rfl, keep3 _ _ _⟩
end Go.Proofs.YtfhbmblbidcmmaaGreat
namespace Go.Proofs.YtfhbmblbidcmmaaGreat
set_option linter.unusedSimpArgs false
set_option linter.unusedVariables false
open Go.RowKit Go.Sl Go.Dk Go.Tr
attribute [local go_sem ↓] Go.wp_at_zero Go.wp_at_succ
attribute [local go_sem] Go.Sl.cell_sat Go.Sl.frozen_sat
def WalkOut (h : Th) (N : Nat) (F : Assn) (r : Res TS (List Ent)) (e : Ending) (w' : World) : Prop := match r with
 | .ok o s => e = .returned (.tuple #[]) ∧ o.length ≤ 1024 ∧ ∃ (a : Option Addr) (c : Nat), Sat (treeP h s * (Sl.block N TEs [.slice a o.length c] * (rw TEn 4 (.slice a o.length c) (ecs o) * F))) w'
 | .fault n s => e = .panicked (faultC n) ∧ ∃ v, Sat (treeP h s * (Sl.block N TEs [v] * F)) w'
 | .bad => False
def WalkC (f : Nat) : Prop := ∀ (h : Th) (s : TS) (no : Int) (o : List Ent) (N : Nat) (a : Option Addr) (c : Nat) (F : Assn) (w : World), f ≤ 21 → o.length ≤ 1024 → Sat (treeP h s * (Sl.block N TEs [.slice a o.length c] * (rw TEn 4 (.slice a o.length c) (ecs o) * F))) w → listTo tRead f no o s ≠ .bad →
 Calls Tryz.prog 109 #[.pointer (some ⟨h.t, 0, none⟩), .int .i64 no, .int .i64 (21 - (f : Int)), .func (Fn.func 110) #[] #[.pointer (some ⟨N, 0, none⟩)]] w (WalkOut h N F (listTo tRead f no o s))
set_option maxRecDepth 100000 in
set_option maxHeartbeats 1600000 in
theorem walk_zero : WalkC 0 := by
 intro h s no o N a c F w hf ho hs hb
 have hR : listTo tRead 0 no o s = .fault 13 s := rfl
 rw [hR]
 haveI := hs.i
 go_enter Tryz.func109, Tryz.ntmps109
 go_wp2
 exact ⟨rfl, rfl, .slice a o.length c, keep3 _ _ _⟩
set_option maxRecDepth 100000 in
set_option maxHeartbeats 6400000 in
theorem walk_succ (f : Nat) (ih : WalkC f) : WalkC (f + 1) := by
 intro h s no o N a c F w hf ho hs hb
 obtain ⟨R, hR⟩ : ∃ R, listTo tRead (f + 1) no o s = R := ⟨_, rfl⟩
 rw [hR] at hb ⊢
 have HB : Aside (R ≠ .bad) := hb
 have HI : Aside (WalkC f) := ih
 have HR : Aside (M.bind (tRead no) (fun n => if 1024 < (o ++ n.ents).length then M.fail 13 else kidsTo (listTo tRead f) n.kids (o ++ n.ents)) s = R) := hR
 have c1 := fun F w q => tread_any h s no F w q (bind_nb HR.out HB.out)
 have hdeep : ¬ (20 : Int) < 21 - ((f + 1 : Nat) : Int) := by omega
 obtain ⟨dp, hdp⟩ : ∃ d, (21 : Int) - ((f + 1 : Nat) : Int) = d := ⟨_, rfl⟩
 have HDP : Aside (dp + 1 = 21 - (f : Int)) := (by omega : dp + 1 = 21 - (f : Int))
 have hdb : -1 ≤ dp ∧ dp ≤ 20 := by omega
 rw [hdp] at hdeep ⊢
 have HO : Aside (o.length ≤ 1024) := ho
 haveI := hs.i
 clear hR hb ih hdp
 go_enter Tryz.func109, Tryz.ntmps109
 go_wp2_with fail
 with_reducible refine Calls.mono (c1 _ _ (takeI (treeP h s))) ?_
 rintro e w1 hx0
 obtain ⟨r1, hm1⟩ : ∃ r, r = tRead no s := ⟨_, rfl⟩
 rw [← hm1] at hx0
 rcases r1 with ⟨y, s2⟩ | ⟨er, s2⟩ | _
 rotate_left
 · obtain ⟨rfl, q1⟩ := hx0
   haveI := q1.i
   have hRR := bind_up HR.out hm1.symm
   subst hRR
   exact ⟨rfl, rfl, .slice a o.length c, keep3 _ _ _⟩
 · exact absurd (bind_bad HR.out hm1.symm) HB.out
 obtain ⟨v1, B2, rfl, ⟨hx, hma⟩, q1⟩ := hx0
 have hg0 := bind_go HR.out hm1.symm
 have HG : Aside ((if 1024 < (o ++ y.ents).length then M.fail 13 else kidsTo (listTo tRead f) y.kids (o ++ y.ents)) s2 = R) := hg0
 have hsee := fun F w q => see_any no y v1 N o a c B2 F w hx hma HO.out q
 have HMa : Aside (may y = true) := hma
 obtain ⟨se, sk, rfl, hE, hK⟩ := id hx
 obtain ⟨a1, c1', rfl, hE1, hE2⟩ := hE.v
 obtain ⟨a2, c2, rfl, hK1, hK2⟩ := ReadsR.v hK
 obtain ⟨hl1, hl2⟩ := may_len hma
 obtain ⟨ne, hne⟩ : ∃ ne, y.ents.length = ne := ⟨_, rfl⟩
 obtain ⟨nk, hnk⟩ : ∃ nk, y.kids.length = nk := ⟨_, rfl⟩
 have HK : Aside (ReadsK B2 (.slice a2 y.kids.length c2) y.kids ∧ y.kids.length = nk) := ⟨hK, hnk⟩
 rw [hne] at hl1 hE1 hsee ⊢
 rw [hnk] at hl2 hK1 hsee ⊢
 obtain ⟨N8, hN8⟩ : ∃ M, w1.heap.size = M := ⟨_, rfl⟩
 haveI := q1.i
 clear hE hK hma hne hnk hm1 HR c1 hx hg0
 go_wp2_with fail
 have q4 : Sat (Sl.block N TEs [.slice a o.length c] * (rw TEn 4 (.slice a o.length c) (ecs o) * (B2 * (treeP h s2 * (Sl.block N8 TNd [.bool y.leaf, .slice a1 ne c1', .slice a2 nk c2] * F))))) (w1.alloc (.cells #[.bool y.leaf, .slice a1 ne c1', .slice a2 nk c2] TNd)) := by
  rw [← hN8]
  exact satI_eq (by ac_rfl)
 try rw [hN8]
 clear hN8 q1
 with_reducible refine Calls.mono (hsee _ _ q4) ?_
 rintro e w3 ⟨a3, c3, h3⟩
 rcases h3 with ⟨hc, rfl, q5⟩ | ⟨hc, rfl, q5⟩
 · have hRR : R = .fault 13 s2 := by have := HG.out; rw [if_pos hc] at this; exact this.symm
   subst hRR
   haveI := q5.i
   exact ⟨rfl, rfl, .slice a3 (o ++ y.ents).length c3, keep3 _ _ _⟩
 · have hG2 := HG.out
   rw [if_neg hc] at hG2
   have HG2 : Aside (kidsTo (listTo tRead f) y.kids (o ++ y.ents) s2 = R) := hG2
   obtain ⟨o3, ho3⟩ : ∃ x, o ++ y.ents = x := ⟨_, rfl⟩
   rw [ho3] at hc q5 HG2
   haveI := q5.i
   have q6 : Sat (treeP h s2 * (Sl.block N TEs [.slice a3 o3.length c3] * (rw TEn 4 (.slice a3 o3.length c3) (ecs o3) * (B2 * (Sl.block N8 TNd [.bool y.leaf, .slice a1 ne c1', .slice a2 nk c2] * F))))) w3 := satI_eq (by ac_rfl)
   haveI := q6.i
   clear q4 q5 hsee hG2 ho3 HG
   go_wp2_with fail
   go_loopg [26] nk (fun g t26 wr => ∃ (i : Nat) (o4 : List Ent) (a4 : Option Addr) (c4 : Nat) (s4 : TS), t26 = .int .i64 i ∧ i ≤ nk ∧ Aside (g = nk - i ∧ o4.length ≤ 1024 ∧ kidsTo (listTo tRead f) (y.kids.drop i) o4 s4 = R) ∧
    Sat (treeP h s4 * (Sl.block N TEs [.slice a4 o4.length c4] * (rw TEn 4 (.slice a4 o4.length c4) (ecs o4) * (B2 * (Sl.block N8 TNd [.bool y.leaf, .slice a1 ne c1', .slice a2 nk c2] * F))))) wr)
   case atStart => exact ⟨0, o3, a3, c3, s2, rfl, by omega, ⟨rfl, by omega, HG2.out⟩, q6⟩
   case round =>
    obtain ⟨i, o4, a4, c4, s4, rfl, hi, A, q7⟩ := hrel
    clear q6
    haveI := q7.i
    by_cases hlt : i < nk
    · have hlt' : (i : Int) < nk := by omega
      obtain ⟨k, hk⟩ : ∃ k, y.kids[i]? = some k := ⟨_, List.getElem?_eq_getElem (by have := HK.out.2; omega)⟩
      obtain ⟨b, q, rfl, r1, r2, r3, r4⟩ := readsK_at HK.out.1 hk
      have hd : y.kids.drop i = k :: y.kids.drop (i + 1) := by
       obtain ⟨u1, u2⟩ := List.getElem?_eq_some_iff.1 hk
       rw [List.drop_eq_getElem_cons u1, u2]
      have hA := A.out.2.2
      rw [hd] at hA
      have HS : Aside (M.bind (listTo tRead f k.page o4) (kidsTo (listTo tRead f) (y.kids.drop (i + 1))) s4 = R) := hA
      have hrec := fun F w q => HI.out h s4 k.page o4 N a4 c4 F w (by omega) A.out.2.1 q (bind_nb HS.out HB.out)
      obtain ⟨m, hm⟩ : ∃ m, listTo tRead f k.page o4 s4 = m := ⟨_, rfl⟩
      have HM : Aside (listTo tRead f k.page o4 s4 = m) := hm
      rw [hm, ← HDP.out] at hrec
      have hw : IntKind.i64.wrap (dp + 1) = dp + 1 := IntWalk.i64_in _ (by omega)
      have hnb := bind_nb HS.out HB.out
      obtain ⟨k1, k2, k3, k4⟩ := k
      simp only at r1 r2 r3 r4 hrec HS HM
      clear hk hd hA hm
      go_wp2_with fail
      with_reducible refine Calls.mono (hrec _ _ (takeI3 (treeP h s4) (Sl.block N TEs [.slice a4 o4.length c4]) (rw TEn 4 (.slice a4 o4.length c4) (ecs o4)))) ?_
      rintro e w5 h5
      cases m with
      | bad => exact absurd HM.out (bind_nb HS.out HB.out)
      | fault er s5 =>
        obtain ⟨rfl, v5, q8⟩ := h5
        haveI := q8.i
        have hRR := bind_up HS.out HM.out
        subst hRR
        exact ⟨rfl, rfl, v5, keep3 _ _ _⟩
      | ok o5 s5 =>
        obtain ⟨rfl, ho5, a5, c5, q8⟩ := h5
        have hg5 := bind_go HS.out HM.out
        have HO5 : Aside (o5.length ≤ 1024 ∧ kidsTo (listTo tRead f) (y.kids.drop (i + 1)) o5 s5 = R) := ⟨ho5, hg5⟩
        haveI := q8.i
        clear hrec hnb hg5 ho5 HS HM q7
        go_wp2_with fail
        go_roundg (nk - (i + 1))
        case measure => have := A.out.1; omega
        case rel => exact ⟨i + 1, o5, a5, c5, s5, by go_num, by omega, ⟨rfl, HO5.out.1, HO5.out.2⟩, keep6 _ _ _ _ _ _⟩
    · have hlt' : ¬ (i : Int) < nk := by omega
      obtain rfl : i = nk := by omega
      have hA := A.out.2.2
      rw [List.drop_of_length_le (by rw [HK.out.2]; exact Nat.le_refl _)] at hA
      have hRR : R = .ok o4 s4 := hA.symm
      subst hRR
      have HO4 : Aside (o4.length ≤ 1024) := A.out.2.1
      clear hA A
      go_wp2
      go_end0
      exact ⟨rfl, HO4.out, a4, c4, keep4 _ _ _ _⟩
theorem walk_any (f : Nat) : WalkC f := by
 induction f with
 | zero => exact walk_zero
 | succ f ih => exact walk_succ f ih
end Go.Proofs.YtfhbmblbidcmmaaGreat
namespace Go.Proofs.YtfhbmblbidcmmaaGreat
set_option linter.unusedSimpArgs false
set_option linter.unusedVariables false
open Go.RowKit Go.Sl Go.Dk Go.Tr
attribute [local go_sem ↓] Go.wp_at_zero Go.wp_at_succ
attribute [local go_sem] Go.Sl.cell_sat Go.Sl.frozen_sat
def ListOut (h : Th) (F : Assn) (r : Res TS (List Ent)) (e : Ending) (w' : World) : Prop := match r with
 | .ok l s => ∃ (a : Option Addr) (c : Nat), e = .returned (.tuple #[.slice a l.length c, .int .i64 0]) ∧ Sat (rw TEn 4 (.slice a l.length c) (ecs l) * (treeP h s * F)) w'
 | .fault n s => e = .returned (.tuple #[.slice none 0 0, .int .i64 n]) ∧ Sat (treeP h s * F) w'
 | .bad => False
set_option maxRecDepth 100000 in
set_option maxHeartbeats 3200000 in
theorem list_tany (h : Th) (s : TS) (root : Int) (F : Assn) (w : World) (hs : Sat (treeP h s * F) w) (hb : tList tRead root s ≠ .bad) :
 Calls Tryz.prog 44 #[.pointer (some ⟨h.t, 0, none⟩), .int .i64 root] w (ListOut h F (tList tRead root s)) := by
 have hmf : ∀ (fn : Fn) (first cap : Array Value) (w : World), (Instr.makeFunc fn first cap).run Tryz.prog w = .ok (.func fn first cap) w := fun _ _ _ _ => rfl
 obtain ⟨R, hR⟩ : ∃ R, tList tRead root s = R := ⟨_, rfl⟩
 rw [hR] at hb ⊢
 have HB : Aside (R ≠ .bad) := hb
 unfold tList at hR
 have h0 := hs.rw_nil (e := TEn) (s := 4)
 haveI := h0.i
 clear hb hs
 by_cases hz : root = 0
 · rw [if_pos hz] at hR
   have hRR : R = .ok [] s := hR.symm
   subst hRR
   subst hz
   clear hR HB
   go_enter_defers Tryz.func44, Tryz.ntmps44
   go_wp2
   refine leaves_cons (f := 108) (args := #[.pointer (some ⟨w.heap.size, 0, none⟩), .pointer (some ⟨w.heap.size + 1, 0, none⟩)]) (by simp) (by simp [go_sem]) ?_
   refine (listC_idle _ _ _).mono ?_
   rintro e u' w'' ⟨rfl, rfl, rfl⟩
   simp [Leaves, settle, results, Tryz.results44, go_sem]
   refine ⟨none, 0, rfl, ?_⟩
   show Sat (rw TEn 4 (.slice none 0 0) [] * (treeP h s * F)) _
   exact keep3 _ _ _
 · rw [if_neg hz] at hR
   have hz' : ((root : Int) == 0) = false := by simpa using hz
   have hwk := fun N F w q => walk_any 21 h s root [] N none 0 F w (by omega) (by simp) q (by rw [hR]; exact HB.out)
   rw [hR, show (21 : Int) - ((21 : Nat) : Int) = 0 from rfl] at hwk
   obtain ⟨N, hN⟩ : ∃ N, w.heap.size = N := ⟨_, rfl⟩
   clear hR
   go_enter_defers Tryz.func44, Tryz.ntmps44
   go_wp2_with fail
   have q1 : Sat (treeP h s * (Sl.block N TEs [.slice none 0 0] * (rw TEn 4 (.slice none 0 0) [] * (Sl.block (N + 1) TEr [.int .i64 0] * F)))) ((w.alloc (.cells #[.slice none 0 0] TEs)).alloc (.cells #[.int .i64 0] TEr)) := by
    rw [← hN]
    exact satI_eq (by ac_rfl)
   try rw [hN]
   clear hN
   with_reducible refine Calls.mono (hwk N _ _ q1) ?_
   rintro e w2 h2
   cases R with
   | bad => exact absurd rfl HB.out
   | fault er s2 =>
     obtain ⟨rfl, v2, q2⟩ := h2
     haveI := q2.i
     show bodyPostD _ _ _ (.panic (faultC er)) _ w2
     refine leaves_cons (f := 108) (args := #[.pointer (some ⟨N, 0, none⟩), .pointer (some ⟨N + 1, 0, none⟩)]) (by simp) (by simp [go_sem]) ?_
     refine (listC_caught N (N + 1) er _ _ _ w2 (takeI2 (Sl.block N TEs [v2]) (Sl.block (N + 1) TEr [.int .i64 0]))).mono ?_
     rintro e u' w3 ⟨rfl, rfl, q3⟩
     haveI := q3.i
     simp [Leaves, settle, results, Tryz.results44, go_sem]
     exact ⟨rfl, keep2 _ _⟩
   | ok l s2 =>
     obtain ⟨rfl, hl, a2, c2, q2⟩ := h2
     have HLL : Aside (l.length ≤ 1024) := hl
     obtain ⟨n, hn⟩ : ∃ n, l.length = n := ⟨_, rfl⟩
     have HNN : Aside (l.length = n) := hn
     rw [hn] at q2
     haveI := q2.i
     clear q1 hwk hn hl
     go_wp2
     refine leaves_cons (f := 108) (args := #[.pointer (some ⟨N, 0, none⟩), .pointer (some ⟨N + 1, 0, none⟩)]) (by simp) (by simp [go_sem]) ?_
     refine (listC_idle _ _ _).mono ?_
     rintro e u' w3 ⟨rfl, rfl, rfl⟩
     simp [Leaves, settle, results, Tryz.results44, go_sem]
     refine ⟨a2, c2, ?_, ?_⟩
     · rw [HNN.out]
     · rw [HNN.out]
       exact keep3 _ _ _
end Go.Proofs.YtfhbmblbidcmmaaGreat
