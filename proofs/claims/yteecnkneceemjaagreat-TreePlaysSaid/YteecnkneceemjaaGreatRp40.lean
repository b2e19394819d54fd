/-
  TreePlays: what its proof leans on (part 40)
-/
import Derived.Test.YteecnkneceemjaaGreatRp38
import Derived.Test.YteecnkneceemjaaGreatRp39
import Derived.IntWalk
import Derived.Deep.RegionHeld3
import Derived.WalkLawsBesides
set_option linter.unusedSimpArgs false
set_option linter.unusedVariables false
namespace Go.Proofs.YteecnkneceemjaaGreat
set_option linter.unusedSimpArgs false
set_option linter.unusedVariables false
open Go.RowKit Go.Sl Go.Dk Go.Tr
attribute [local go_sem ↓] Go.wp_at_zero Go.wp_at_succ
attribute [local go_sem] Go.Sl.cell_sat Go.Sl.frozen_sat
def forgets (l : List Int) (c : Ck) : Ck := l.foldl (fun c no => (c.forget no).2) c
end Go.Proofs.YteecnkneceemjaaGreat
namespace Go.Proofs.YteecnkneceemjaaGreat
set_option linter.unusedSimpArgs false
set_option linter.unusedVariables false
open Go.RowKit Go.Sl Go.Dk Go.Tr
open Go.Lru (ikey)
theorem forget_ok {m : Nat} {s : Ck} (hw : CkOk m s) (no : Int) : CkOk m (s.forget no).2 := by
 unfold Ck.forget
 by_cases hd : dropB s.its no = true
 · simp only [hd, if_true]
   have ho := out_len hw.lru (drop_has hd)
   refine ⟨ok_out hw.lru no, hw.nd.sublist ((pdel_sub _ _).map _), ?_, ?_, fun p hp => hw.page p ((pdel_sub _ _).subset hp), hw.cap, ?_, hw.dk, hw.nm, hw.reads⟩
   · intro k
     show hasI (outI s.its no) k = (pget k (pdel no s.pgs)).isSome
     rw [pget_pdel hw.nd]
     by_cases hk : k = no
     · rw [if_pos hk]
       subst hk
       show _ = false
       rw [Bool.eq_false_iff]
       intro h
       exact (out_mem.1 (hasI_iff.1 h)).2 rfl
     · rw [if_neg hk, ← hw.same k, Bool.eq_iff_iff, hasI_iff, hasI_iff, out_mem]
       simp [hk]
   · show (pdel no s.pgs).length = (outI s.its no).length
     have := pdel_len (k := no) (l := s.pgs) (by rw [← hw.same]; exact drop_has hd)
     have := hw.len
     omega
   · have := hw.most
     show ((outI s.its no).length : Int) ≤ s.cap
     omega
 · rw [if_neg hd]
   exact hw
theorem forgets_ok {m : Nat} (l : List Int) {s : Ck} (hw : CkOk m s) : CkOk m (forgets l s) := by
 induction l generalizing s with
 | nil => exact hw
 | cons a l ih => exact ih (forget_ok hw a)
end Go.Proofs.YteecnkneceemjaaGreat
namespace Go.Proofs.YteecnkneceemjaaGreat
set_option linter.unusedSimpArgs false
set_option linter.unusedVariables false
open Go.RowKit Go.Sl Go.Dk Go.Tr
section
variable {σ : Type} {rd : Int → M σ Nd} {wt : Nd → M σ Kd}
theorem tGrown_height : ∀ (f : Nat) (ks : List Kd) (h : Int) (s : σ) (t : Tall) (s' : σ), tGrown wt f ks h s = .ok t s' → t.height = -1 ∨ (h ≤ t.height ∧ t.height ≤ h + f)
 | f, [], h, s, t, s', e => by
   have : t = noTall := by cases f <;> (cases e; rfl)
   subst this
   exact .inl rfl
 | f, [k], h, s, t, s', e => by
   have : t = ⟨k, h⟩ := by cases f <;> (cases e; rfl)
   subst this
   exact .inr ⟨by simp only; omega, by simp only; omega⟩
 | 0, a :: b :: l, h, s, t, s', e => by cases e
 | f + 1, a :: b :: l, h, s, t, s', e => by
   have e' : M.bind (tSpread wt ⟨false, [], a :: b :: l⟩) (fun ks => tGrown wt f ks (h + 1)) s = .ok t s' := e
   obtain ⟨ks, s1, h1, h2⟩ := bind_out e'
   rcases tGrown_height f ks (h + 1) s1 t s' h2 with h3 | ⟨h3, h4⟩
   · exact .inl h3
   · exact .inr ⟨by omega, by omega⟩
theorem grown_height {ks : List Kd} {h : Int} {s : σ} {t : Tall} {s' : σ} (e : grown wt ks h s = .ok t s') : t.height = -1 ∨ (h ≤ t.height ∧ t.height ≤ h + ks.length) := tGrown_height ks.length ks h s t s' e
theorem tOver_height {ks : List Kd} {h : Int} {s : σ} {t : Tall} {s' : σ} (e : tOver wt ks h s = .ok t s') : t.height = -1 ∨ (h - 1 ≤ t.height ∧ t.height ≤ h - 1 + ks.length) := grown_height e
theorem tLeaves_height {l : List Ent} {s : σ} {t : Tall} {s' : σ} (e : tLeaves wt l s = .ok t s') : t.height = -1 ∨ (0 ≤ t.height ∧ t.height ≤ (l.length + 11) / 12) := by
 unfold tLeaves at e
 obtain ⟨ks, s1, h1, h2⟩ := bind_out e
 have h3 := tSpread_len h1
 rcases grown_height h2 with h4 | ⟨h4, h5⟩
 · exact .inl h4
 · refine .inr ⟨h4, ?_⟩
   have : many (⟨true, l, []⟩ : Nd) = l.length := by simp [many]
   omega
theorem tPut_height (hrd : ∀ p s n s', rd p s = .ok n s' → many n ≤ 12) {a b : Tall} {s : σ} {t : Tall} {s' : σ} (e : tPut rd wt a b s = .ok t s') (L U : Int) (hL : L ≤ -1) (hU : -1 ≤ U) (a1 : L ≤ a.height) (a2 : a.height ≤ U) (b1 : L ≤ b.height) (b2 : b.height ≤ U) :
 L ≤ t.height ∧ t.height ≤ U + 2 := by
 unfold tPut at e
 split at e
 · cases e; omega
 · split at e
   · cases e; omega
   · obtain ⟨r, s1, h1, h2⟩ := bind_out e
     have h3 := tMeet_height _ _ _ _ _ _ h1
     have h4 := tMeet_len hrd _ _ _ _ _ _ h1
     rcases grown_height h2 with h5 | ⟨h5, h6⟩
     · omega
     · omega
theorem tParted_height (hrd : ∀ p s n s', rd p s = .ok n s' → may n = true) : ∀ (f : Nat) (x : Tall) (n : Int) (s : σ) (p : Tall × Tall) (s' : σ), tParted rd wt f x n s = .ok p s' → ∀ (L U : Int), L ≤ -1 → 0 ≤ U → L ≤ x.height - f → x.height ≤ U →
 (L ≤ p.1.height ∧ p.1.height ≤ U + 14 * (f + 1)) ∧ (L ≤ p.2.height ∧ p.2.height ≤ U + 14 * (f + 1))
 | f, x, n, s, p, s', e, L, U, hL, hU, h1, h2 => by
   have hno : noTall.height = -1 := rfl
   have hrd' : ∀ p s n s', rd p s = .ok n s' → many n ≤ 12 := fun p s n s' h => (may_many (hrd p s n s' h)).1
   unfold tParted at e
   by_cases c1 : n ≤ 0
   · rw [if_pos c1] at e
     cases e
     simp only [hno]
     omega
   rw [if_neg c1] at e
   by_cases c2 : x.kid.bytes ≤ n
   · rw [if_pos c2] at e
     cases e
     simp only [hno]
     omega
   rw [if_neg c2] at e
   cases f with
   | zero => cases e
   | succ f =>
     simp only at e
     obtain ⟨y, s1, e1, e⟩ := bind_out e
     have hy := may_len (hrd _ _ _ _ e1)
     by_cases hl : y.leaf = true
     · rw [if_pos hl] at e
       cases hp : passE y.ents n 0 with
       | none => rw [hp] at e; cases e
       | some k =>
         rw [hp] at e
         simp only at e
         obtain ⟨a, s2, e2, e⟩ := bind_out e
         obtain ⟨b, s3, e3, e⟩ := bind_out e
         cases e
         have ha := tLeaves_height e2
         have hb := tLeaves_height e3
         rw [List.length_take] at ha
         rw [List.length_drop] at hb
         simp only
         omega
     · rw [if_neg hl] at e
       cases hp : passK y.kids n 0 with
       | none => rw [hp] at e; cases e
       | some kr =>
         obtain ⟨k, r⟩ := kr
         rw [hp] at e
         simp only at e
         by_cases hr : r = 0
         · rw [if_pos hr] at e
           obtain ⟨a, s2, e2, e⟩ := bind_out e
           obtain ⟨b, s3, e3, e⟩ := bind_out e
           cases e
           have ha := tOver_height e2
           have hb := tOver_height e3
           rw [List.length_take] at ha
           rw [List.length_drop] at hb
           simp only
           omega
         · rw [if_neg hr] at e
           cases hz : y.kids[k]? with
           | none => rw [hz] at e; cases e
           | some z =>
             rw [hz] at e
             simp only at e
             obtain ⟨q, s2, e2, e⟩ := bind_out e
             obtain ⟨a, s3, e3, e⟩ := bind_out e
             obtain ⟨a', s4, e4, e⟩ := bind_out e
             obtain ⟨b, s5, e5, e⟩ := bind_out e
             obtain ⟨b', s6, e6, e⟩ := bind_out e
             cases e
             have hq := tParted_height hrd f ⟨z, x.height - 1⟩ r s1 q s2 e2 L U hL hU (by simp only; omega) (by simp only; omega)
             have ha := tOver_height e3
             have hb := tOver_height e5
             rw [List.length_take] at ha
             rw [List.length_drop] at hb
             have ha' := tPut_height hrd' e4 L (U + 14 * (f + 1)) hL (by omega) (by omega) (by omega) (by omega) (by omega)
             have hb' := tPut_height hrd' e6 L (U + 14 * (f + 1)) hL (by omega) (by omega) (by omega) (by omega) (by omega)
             simp only
             omega
end
end Go.Proofs.YteecnkneceemjaaGreat
namespace Go.Proofs.YteecnkneceemjaaGreat
set_option linter.unusedSimpArgs false
set_option linter.unusedVariables false
open Go.RowKit Go.Sl Go.Dk Go.Tr
attribute [local go_sem ↓] Go.wp_at_zero Go.wp_at_succ
attribute [local go_sem] Go.Sl.cell_sat Go.Sl.frozen_sat
def PairR (p : Tall × Tall) (v : Value) (B : Assn) : Prop := v = .tuple #[tallV p.1, tallV p.2] ∧ B = 1
set_option maxRecDepth 100000 in
set_option maxHeartbeats 3200000 in
theorem parted_low (f : Nat) (h : Th) (s : TS) (x : Tall) (n : Int) (F : Assn) (w : World) (hs : Sat (treeP h s * F) w) (h1 : n ≤ 0) :
 Calls Tryz.prog 67 #[.pointer (some ⟨h.t, 0, none⟩), tallV x, .int .i64 n] w (TEnds h F (tParted tRead tWrite f x n s) PairR) := by
 have hRR : tParted tRead tWrite f x n s = .ok (noTall, x) s := by unfold tParted; rw [if_pos h1]; rfl
 rw [hRR]
 clear hRR
 obtain ⟨⟨x1, x2, x3, x4⟩, xh⟩ := x
 have hno := none_any
 unfold tallV noTall kd0 at hno
 unfold tallV
 simp only at hno
 haveI := hs.i
 go_enter Tryz.func67, Tryz.ntmps67
 go_upto_region 2 with (fail)
 obtain ⟨N, hN⟩ : ∃ N, w.heap.size = N := ⟨_, rfl⟩
 have q0 : Sat (treeP h s * (Sl.block (N + 2) TTl [.int .i64 0, .int .i64 0, .int .i64 0, .int .i64 0, .int .i64 0] * (Sl.block (N + 1) TTl [.int .i64 0, .int .i64 0, .int .i64 0, .int .i64 0, .int .i64 0] * (Sl.block N TTl [.int .i64 x1, .int .i64 x2, .int .i64 x3, .int .i64 x4, .int .i64 xh] * F)))) (((w.alloc (.cells #[.int .i64 x1, .int .i64 x2, .int .i64 x3, .int .i64 x4, .int .i64 xh] TTl)).alloc (.cells #[.int .i64 0, .int .i64 0, .int .i64 0, .int .i64 0, .int .i64 0] TTl)).alloc (.cells #[.int .i64 0, .int .i64 0, .int .i64 0, .int .i64 0, .int .i64 0] TTl)) := by
  rw [← hN]
  exact satI_eq (by ac_rfl)
 rw [hN]
 generalize ((w.alloc (.cells #[.int .i64 x1, .int .i64 x2, .int .i64 x3, .int .i64 x4, .int .i64 xh] TTl)).alloc (.cells #[.int .i64 0, .int .i64 0, .int .i64 0, .int .i64 0, .int .i64 0] TTl)).alloc (.cells #[.int .i64 0, .int .i64 0, .int .i64 0, .int .i64 0, .int .i64 0] TTl) = w0 at q0 ⊢
 have q1 : Sat (treeP h s * (Sl.block (N + 1 + 1) TTl [.int .i64 0, .int .i64 0, .int .i64 0, .int .i64 0, .int .i64 0] * (Sl.block (N + 1) TTl [.int .i64 0, .int .i64 0, .int .i64 0, .int .i64 0, .int .i64 0] * (Sl.block N TTl [.int .i64 x1, .int .i64 x2, .int .i64 x3, .int .i64 x4, .int .i64 xh] * F)))) w0 := q0
 clear hN hs this q0
 have q0 := q1
 clear q1
 haveI := q0.i
 go_region_law (first
  | (go_simp
     go_at_call 105
     with_reducible refine Calls.mono (hno _ _ q0) ?_
     rintro e w1 ⟨rfl, q1⟩
     haveI := q1.i))
 all_goals
  go_wp2
  go_returns
  exact ⟨_, 1, rfl, ⟨rfl, rfl⟩, by rw [one_sep]; exact keep2 _ _⟩
set_option maxRecDepth 100000 in
set_option maxHeartbeats 3200000 in
theorem parted_high (f : Nat) (h : Th) (s : TS) (x : Tall) (n : Int) (F : Assn) (w : World) (hs : Sat (treeP h s * F) w) (h1 : ¬ n ≤ 0) (h2 : x.kid.bytes ≤ n) :
 Calls Tryz.prog 67 #[.pointer (some ⟨h.t, 0, none⟩), tallV x, .int .i64 n] w (TEnds h F (tParted tRead tWrite f x n s) PairR) := by
 have hRR : tParted tRead tWrite f x n s = .ok (x, noTall) s := by unfold tParted; rw [if_neg h1, if_pos h2]; rfl
 rw [hRR]
 clear hRR
 obtain ⟨⟨x1, x2, x3, x4⟩, xh⟩ := x
 simp only at h2
 have hno := none_any
 unfold tallV noTall kd0 at hno
 unfold tallV
 simp only at hno
 haveI := hs.i
 go_enter Tryz.func67, Tryz.ntmps67
 go_upto_region 4 with (fail)
 obtain ⟨N, hN⟩ : ∃ N, w.heap.size = N := ⟨_, rfl⟩
 have q0 : Sat (treeP h s * (Sl.block (N + 2) TTl [.int .i64 0, .int .i64 0, .int .i64 0, .int .i64 0, .int .i64 0] * (Sl.block (N + 1) TTl [.int .i64 0, .int .i64 0, .int .i64 0, .int .i64 0, .int .i64 0] * (Sl.block N TTl [.int .i64 x1, .int .i64 x2, .int .i64 x3, .int .i64 x4, .int .i64 xh] * F)))) (((w.alloc (.cells #[.int .i64 x1, .int .i64 x2, .int .i64 x3, .int .i64 x4, .int .i64 xh] TTl)).alloc (.cells #[.int .i64 0, .int .i64 0, .int .i64 0, .int .i64 0, .int .i64 0] TTl)).alloc (.cells #[.int .i64 0, .int .i64 0, .int .i64 0, .int .i64 0, .int .i64 0] TTl)) := by
  rw [← hN]
  exact satI_eq (by ac_rfl)
 rw [hN]
 generalize ((w.alloc (.cells #[.int .i64 x1, .int .i64 x2, .int .i64 x3, .int .i64 x4, .int .i64 xh] TTl)).alloc (.cells #[.int .i64 0, .int .i64 0, .int .i64 0, .int .i64 0, .int .i64 0] TTl)).alloc (.cells #[.int .i64 0, .int .i64 0, .int .i64 0, .int .i64 0, .int .i64 0] TTl) = w0 at q0 ⊢
 have q1 : Sat (treeP h s * (Sl.block (N + 1 + 1) TTl [.int .i64 0, .int .i64 0, .int .i64 0, .int .i64 0, .int .i64 0] * (Sl.block (N + 1) TTl [.int .i64 0, .int .i64 0, .int .i64 0, .int .i64 0, .int .i64 0] * (Sl.block N TTl [.int .i64 x1, .int .i64 x2, .int .i64 x3, .int .i64 x4, .int .i64 xh] * F)))) w0 := q0
 clear hN hs this q0
 have q0 := q1
 clear q1
 haveI := q0.i
 go_region_law (first
  | (go_simp
     go_at_call 105
     with_reducible refine Calls.mono (hno _ _ q0) ?_
     rintro e w1 ⟨rfl, q1⟩
     haveI := q1.i))
 all_goals
  go_wp2
  go_returns
  exact ⟨_, 1, rfl, ⟨rfl, rfl⟩, by rw [one_sep]; exact keep2 _ _⟩
end Go.Proofs.YteecnkneceemjaaGreat
