/-
  Versions are found sound just if they are in the words of the document. No condition. (part 34)
-/
import Derived.Test.YtfhbmblbidcmmaaGreatWa32
import Derived.IntWalk
import Derived.BigQuiet
import Derived.WalkLawsBesides
import Derived.WalkMore
import Derived.ScopeJumps
set_option linter.unusedSimpArgs false
set_option linter.unusedVariables false
namespace Go.Tr
theorem rankE_snoc (l : List Ent) (y : Ent) (n r : Int) : rankE (l ++ [y]) n r = ((rankE l n r).1 - y.len, if 0 < (rankE l n r).1 then (rankE l n r).2 + 1 else (rankE l n r).2) := by
 induction l generalizing n r with
 | nil => simp only [List.nil_append, rankE]; rfl
 | cons a l ih => simp only [List.cons_append, rankE]; rw [ih]; rfl
theorem rankE_bound (l : List Ent) (n r : Int) (h : ∀ y ∈ l, 1 ≤ y.len ∧ y.len ≤ 1048576) : (rankE l n r).1 ≤ n ∧ n - 1048576 * l.length ≤ (rankE l n r).1 ∧ r ≤ (rankE l n r).2 ∧ (rankE l n r).2 ≤ r + l.length := by
 induction l generalizing n r with
 | nil => simp [rankE]
 | cons a l ih =>
   have ha := h a (List.mem_cons_self ..)
   have hi := ih (n - a.len) (if 0 < n then r + 1 else r) fun y hy => h y (List.mem_cons_of_mem _ hy)
   simp only [rankE, List.length_cons]
   have : ((l.length + 1 : Nat) : Int) = l.length + 1 := by omega
   rw [this]
   split at hi <;> rename_i h0
   · rw [if_pos h0]; omega
   · rw [if_neg h0]; omega
theorem rankK_out (l : List Kd) (n r : Int) (M : Int) (hM : 0 ≤ M) (h : ∀ k ∈ l, 0 ≤ k.scraps ∧ k.scraps ≤ M) : match rankK l n r with
 | .inr r' => r ≤ r' ∧ r' ≤ r + M * l.length
 | .inl (k, _, r') => k ∈ l ∧ r ≤ r' ∧ r' ≤ r + M * l.length := by
 induction l generalizing n r with
 | nil => simp [rankK]
 | cons a l ih =>
   have ha := h a (List.mem_cons_self ..)
   have hi := ih (n - a.bytes) (r + a.scraps) fun y hy => h y (List.mem_cons_of_mem _ hy)
   have hc : M * ((l.length + 1 : Nat) : Int) = M * l.length + M := by
    have : ((l.length + 1 : Nat) : Int) = l.length + 1 := by omega
    rw [this, Int.mul_add, Int.mul_one]
   have h0 : 0 ≤ M * (l.length : Int) := Int.mul_nonneg hM (by omega)
   simp only [rankK, List.length_cons]
   rw [hc]
   by_cases hn : n < a.bytes
   · rw [if_pos hn]
     exact ⟨List.mem_cons_self .., by omega, by omega⟩
   · rw [if_neg hn]
     revert hi
     cases rankK l (n - a.bytes) (r + a.scraps) with
     | inr r' => intro hi; simp only at hi ⊢; omega
     | inl p => obtain ⟨k, m, r'⟩ := p; intro hi; simp only at hi ⊢; exact ⟨List.mem_cons_of_mem _ hi.1, by omega, by omega⟩
end Go.Tr
namespace Go.Proofs.YtfhbmblbidcmmaaGreat
open Go.Tr
theorem rank_bound {σ : Type} {rd : Int → M σ Nd} (hrd : ∀ p s n s', rd p s = .ok n s' → may n = true) (T : Int) (hT : 12582924 ≤ T) : ∀ (f : Nat) (x : Tall) (n : Int) (s : σ) (z : Int) (s' : σ), 0 ≤ x.kid.scraps → x.kid.scraps ≤ T → tRank rd f x n s = .ok z s' → 0 ≤ z ∧ z ≤ T * (f + 1 : Nat)
 | f, x, n, s, z, s', h1, h2, h => by
   have hf : T ≤ T * ((f + 1 : Nat) : Int) := by
    have e : ((f + 1 : Nat) : Int) = f + 1 := by omega
    rw [e, Int.mul_add, Int.mul_one]
    have : 0 ≤ T * (f : Int) := Int.mul_nonneg (by omega) (by omega)
    omega
   unfold tRank at h
   by_cases c1 : n ≤ 0 ∨ x.height < 0
   · rw [if_pos c1] at h; cases h; omega
   · rw [if_neg c1] at h
     by_cases c2 : x.kid.bytes ≤ n
     · rw [if_pos c2] at h; cases h; omega
     · rw [if_neg c2] at h
       cases f with
       | zero => cases h
       | succ f =>
         obtain ⟨y, s1, hy, h⟩ := bind_out h
         have hm := hrd _ _ _ _ hy
         obtain ⟨l1, l2⟩ := may_len hm
         obtain ⟨m1, m2⟩ := may_facts hm
         have he := rankE_bound y.ents n 0 fun x hx => by
          have := (m1 x hx).2
          unfold mayEnt at this
          simp only [decide_eq_true_eq] at this
          omega
         have hk := rankK_out y.kids (rankE y.ents n 0).1 (rankE y.ents n 0).2 1048576 (by omega) fun k hk => by
          have := (m2 k hk).2
          unfold mayKid at this
          simp only [decide_eq_true_eq] at this
          omega
         revert h hk
         cases rankK y.kids (rankE y.ents n 0).1 (rankE y.ents n 0).2 with
         | inr r => intro h hk; cases h; simp only at hk; omega
         | inl p =>
           obtain ⟨k, m, r⟩ := p
           intro h hk
           obtain ⟨q, s2, hq, h⟩ := bind_out h
           cases h
           simp only at hk
           have hkk := (m2 k hk.1).2
           unfold mayKid at hkk
           simp only [decide_eq_true_eq] at hkk
           have := rank_bound hrd T hT f ⟨k, x.height - 1⟩ m s1 q _ (by simp only; omega) (by simp only; omega) hq
           have e : ((f + 1 + 1 : Nat) : Int) = (f + 1 : Nat) + 1 := by omega
           rw [e, Int.mul_add, Int.mul_one]
           omega
end Go.Proofs.YtfhbmblbidcmmaaGreat
namespace Go.Proofs.YtfhbmblbidcmmaaGreat
set_option linter.unusedSimpArgs false
set_option linter.unusedVariables false
open Go.RowKit Go.Sl Go.Dk Go.Tr
attribute [local go_sem ↓] Go.wp_at_zero Go.wp_at_succ
attribute [local go_sem] Go.Sl.cell_sat Go.Sl.frozen_sat
def IntR (z : Int) (v : Value) (B : Assn) : Prop := v = .int .i64 z ∧ B = 1
def rankM (f : Nat) (xh : Int) : (Kd × Int × Int) ⊕ Int → M TS Int
 | .inr r => M.pure r
 | .inl (k, m, r) => M.bind (tRank tRead f ⟨k, xh - 1⟩ m) fun z => M.pure (r + z)
def RankC (f : Nat) : Prop := ∀ (h : Th) (s : TS) (x : Tall) (n : Int) (F : Assn) (w : World), Sat (treeP h s * F) w → -1 ≤ x.height → x.height ≤ 1000 → 0 ≤ x.kid.scraps → x.kid.scraps ≤ 16777216 → n ≤ 1099511627776 → f ≤ 1000 → tRank tRead f x n s ≠ .bad →
 Calls Tryz.prog 97 #[.pointer (some ⟨h.t, 0, none⟩), tallV x, .int .i64 n] w (TEnds h F (tRank tRead f x n s) IntR)
set_option maxRecDepth 100000 in
set_option maxHeartbeats 3200000 in
theorem rank_low (f : Nat) (h : Th) (s : TS) (x : Tall) (n : Int) (F : Assn) (w : World) (hs : Sat (treeP h s * F) w) (hc : n ≤ 0 ∨ x.height < 0) :
 Calls Tryz.prog 97 #[.pointer (some ⟨h.t, 0, none⟩), tallV x, .int .i64 n] w (TEnds h F (tRank tRead f x n s) IntR) := by
 have hRR : tRank tRead f x n s = .ok 0 s := by unfold tRank; rw [if_pos hc]; rfl
 rw [hRR]
 clear hRR
 obtain ⟨⟨x1, x2, x3, x4⟩, xh⟩ := x
 simp only at hc
 unfold tallV
 simp only
 haveI := hs.i
 by_cases h1 : n ≤ 0
 · clear hc
   go_enter Tryz.func97, Tryz.ntmps97
   go_wp2
   go_returns
   exact ⟨_, 1, rfl, ⟨rfl, rfl⟩, by rw [one_sep]; exact keep2 _ _⟩
 · have h2 : xh < 0 := by omega
   clear hc
   go_enter Tryz.func97, Tryz.ntmps97
   go_wp2
   go_returns
   exact ⟨_, 1, rfl, ⟨rfl, rfl⟩, by rw [one_sep]; exact keep2 _ _⟩
set_option maxRecDepth 100000 in
set_option maxHeartbeats 3200000 in
theorem rank_high (f : Nat) (h : Th) (s : TS) (x : Tall) (n : Int) (F : Assn) (w : World) (hs : Sat (treeP h s * F) w) (h1 : 0 < n) (h2 : 0 ≤ x.height) (h3 : x.kid.bytes ≤ n) :
 Calls Tryz.prog 97 #[.pointer (some ⟨h.t, 0, none⟩), tallV x, .int .i64 n] w (TEnds h F (tRank tRead f x n s) IntR) := by
 have hRR : tRank tRead f x n s = .ok x.kid.scraps s := by unfold tRank; rw [if_neg (by omega), if_pos h3]; rfl
 rw [hRR]
 clear hRR
 obtain ⟨⟨x1, x2, x3, x4⟩, xh⟩ := x
 simp only at h2 h3
 unfold tallV
 simp only
 have g1 : ¬ n ≤ 0 := by omega
 have g2 : ¬ xh < 0 := by omega
 haveI := hs.i
 go_enter Tryz.func97, Tryz.ntmps97
 go_wp2
 go_returns
 exact ⟨_, 1, rfl, ⟨rfl, rfl⟩, by rw [one_sep]; exact keep2 _ _⟩
set_option maxRecDepth 100000 in
set_option maxHeartbeats 3200000 in
theorem rank_go (f : Nat) (ih : RankC f) (h : Th) (s : TS) (x : Tall) (n : Int) (F : Assn) (w : World) (hs : Sat (treeP h s * F) w) (h1 : 0 < n) (h2 : 0 ≤ x.height) (h2' : x.height ≤ 1000) (h3 : ¬ x.kid.bytes ≤ n) (hn2 : n ≤ 1099511627776) (hf : f ≤ 999) (hb : tRank tRead (f + 1) x n s ≠ .bad) :
 Calls Tryz.prog 97 #[.pointer (some ⟨h.t, 0, none⟩), tallV x, .int .i64 n] w (TEnds h F (tRank tRead (f + 1) x n s) IntR) := by
 obtain ⟨R, hR⟩ : ∃ R, tRank tRead (f + 1) x n s = R := ⟨_, rfl⟩
 rw [hR] at hb ⊢
 have HB : Aside (R ≠ .bad) := hb
 have HI : Aside (RankC f) := ih
 unfold tRank at hR
 rw [if_neg (by omega), if_neg h3] at hR
 have HR : Aside (M.bind (tRead x.kid.page) (fun y => match rankK y.kids (rankE y.ents n 0).1 (rankE y.ents n 0).2 with
  | .inr r => M.pure r
  | .inl (k, m, r) => M.bind (tRank tRead f ⟨k, x.height - 1⟩ m) fun z => M.pure (r + z)) s = R) := hR
 clear hR hb ih
 obtain ⟨⟨x1, x2, x3, x4⟩, xh⟩ := x
 simp only at h2 h2' h3 HR
 unfold tallV
 simp only
 obtain ⟨m, hm⟩ : ∃ m, tRead x1 s = m := ⟨_, rfl⟩
 have hn := bind_nb HR.out HB.out
 have hrd := fun F w q n => tread_any h s x1 F w q n
 rw [hm] at hn hrd
 have HM : Aside (tRead x1 s = m) := hm
 have g1 : ¬ n ≤ 0 := by omega
 have g2 : ¬ xh < 0 := by omega
 clear hm
 haveI := hs.i
 go_enter Tryz.func97, Tryz.ntmps97
 go_wp2_with fail
 with_reducible refine Calls.mono (hrd _ _ (takeI (treeP h s)) hn) ?_
 rintro e w2 h4
 cases m with
 | bad => exact absurd rfl hn
 | fault er s2 =>
   obtain ⟨rfl, q2⟩ := h4
   haveI := q2.i
   have hRR := bind_up HR.out HM.out
   subst hRR
   exact ⟨rfl, rfl, keep2 _ _⟩
 | ok y s2 =>
   obtain ⟨v2, B2, rfl, ⟨hN, hma⟩, q2⟩ := h4
   have hg0 := bind_go HR.out HM.out
   clear hrd hn HR HM
   obtain ⟨se, sk, rfl, hE, hK⟩ := hN
   obtain ⟨a1, c1, rfl, hE1, hE2⟩ := hE.v
   obtain ⟨a2, c2, rfl, hK1, hK2⟩ := ReadsR.v hK
   obtain ⟨hl1, hl2⟩ := may_len hma
   have HMa : Aside (may y = true) := hma
   obtain ⟨lf, es, ks⟩ := y
   simp only at hE hK hl1 hl2 hE1 hK1 hg0 ⊢
   obtain ⟨ne, hne⟩ : ∃ ne, es.length = ne := ⟨_, rfl⟩
   obtain ⟨nk, hnk⟩ : ∃ nk, ks.length = nk := ⟨_, rfl⟩
   have HE : Aside (ReadsE B2 (.slice a1 es.length c1) es ∧ es.length = ne) := ⟨hE, hne⟩
   have HK : Aside (ReadsK B2 (.slice a2 ks.length c2) ks ∧ ks.length = nk) := ⟨hK, hnk⟩
   rw [hne] at hl1 hE1 ⊢
   rw [hnk] at hl2 hK1 ⊢
   haveI := q2.i
   clear hE hK hma hne hnk
   have HP : Aside (rankM f xh (rankK ks (rankE es n 0).1 (rankE es n 0).2) s2 = R) := hg0
   clear hg0
   go_wp2_with fail
   have q4 : Sat (treeP h s2 * (B2 * (Sl.block w2.heap.size TNd [.bool lf, .slice a1 ne c1, .slice a2 nk c2] * (Sl.block w.heap.size TTl [.int .i64 x1, .int .i64 x2, .int .i64 x3, .int .i64 x4, .int .i64 xh] * F)))) (w2.alloc (.cells #[.bool lf, .slice a1 ne c1, .slice a2 nk c2] TNd)) := satI_eq (by ac_rfl)
   obtain ⟨N4, hN4⟩ : ∃ N, w.heap.size = N := ⟨_, rfl⟩
   obtain ⟨N7, hN7⟩ : ∃ N, w2.heap.size = N := ⟨_, rfl⟩
   rw [hN4, hN7] at q4 ⊢
   clear hN4 hN7 q2 hs this
   go_loopg [2, 8, 36] ne (fun g t2 t8 t36 wr => ∃ (i : Nat) (nj rj : Int), t36 = .int .i64 i ∧ t2 = .int .i64 nj ∧ t8 = .int .i64 rj ∧ i ≤ ne ∧ nj ≤ 1099511627776 ∧ -1048576 * (i : Int) ≤ nj ∧ 0 ≤ rj ∧ rj ≤ i ∧ Aside (g = ne - i ∧ rankE (es.take i) n 0 = (nj, rj)) ∧
    Sat (treeP h s2 * (B2 * (Sl.block N7 TNd [.bool lf, .slice a1 ne c1, .slice a2 nk c2] * (Sl.block N4 TTl [.int .i64 x1, .int .i64 x2, .int .i64 x3, .int .i64 x4, .int .i64 xh] * F)))) wr)
   case atStart => exact ⟨0, n, 0, rfl, rfl, rfl, by omega, by omega, by omega, by omega, by omega, ⟨rfl, rfl⟩, q4⟩
   case round =>
    obtain ⟨i, nj, rj, rfl, rfl, rfl, hi, hj1, hj2, hj3, hj4, A, hsr⟩ := hrel
    clear q4
    haveI := hsr.i
    by_cases hlt : i < ne
    · have hlt' : (i : Int) < ne := by omega
      obtain ⟨y, hy⟩ : ∃ y, es[i]? = some y := ⟨_, List.getElem?_eq_getElem (by have := HE.out.2; omega)⟩
      obtain ⟨b, q, rfl, r1, r2, r3, r4⟩ := readsE_at HE.out.1 hy
      have hyo := ((may_facts HMa.out).1 y (List.mem_of_getElem? hy)).2
      have HS : Aside (rankE (es.take (i + 1)) n 0 = (nj - y.len, if 0 < nj then rj + 1 else rj)) := (by rw [take_snoc' hy, rankE_snoc, A.out.2] : _ = _)
      unfold mayEnt at hyo
      simp only [decide_eq_true_eq] at hyo
      obtain ⟨y1, y2, y3, y4⟩ := y
      simp only at hyo r1 r2 r3 r4 HS
      have hy1 : 1 ≤ y3 := by omega
      have hy2 : y3 ≤ 1048576 := by omega
      have hw1 : IntKind.i64.wrap (rj + 1) = rj + 1 := IntWalk.i64_in _ (by omega)
      have hw2 : IntKind.i64.wrap (nj - y3) = nj - y3 := IntWalk.i64_in _ (by omega)
      clear hyo hy
      by_cases hp : 0 < nj
      · rw [if_pos hp] at HS
        go_wp2
        go_roundg (ne - (i + 1))
        case measure => have := A.out.1; omega
        case rel => exact ⟨i + 1, nj - y3, rj + 1, by go_num, rfl, rfl, by omega, by omega, by omega, by omega, by omega, ⟨rfl, HS.out⟩, keep5 _ _ _ _ _⟩
      · rw [if_neg hp] at HS
        go_wp2
        go_roundg (ne - (i + 1))
        case measure => have := A.out.1; omega
        case rel => exact ⟨i + 1, nj - y3, rj, by go_num, rfl, rfl, by omega, by omega, by omega, by omega, by omega, ⟨rfl, HS.out⟩, keep5 _ _ _ _ _⟩
    · have hlt' : ¬ (i : Int) < ne := by omega
      obtain rfl : i = ne := by omega
      have hA := A.out.2
      rw [List.take_of_length_le (by rw [HE.out.2]; exact Nat.le_refl _)] at hA
      have HP2 : Aside (rankM f xh (rankK ks nj rj) s2 = R) := (by have := HP.out; rw [hA] at this; exact this : _ = _)
      clear hA HP A
      go_wp2_with fail
      go_loopg [2, 8, 53] nk (fun g t2 t8 t53 wr => ∃ (j : Nat) (nj rj : Int), t53 = .int .i64 j ∧ t2 = .int .i64 nj ∧ t8 = .int .i64 rj ∧ j ≤ nk ∧ nj ≤ 1099511627776 ∧ -12582912 ≤ nj ∧ 0 ≤ rj ∧ rj ≤ 12 + 1048576 * (j : Int) ∧ Aside (g = nk - j ∧ rankM f xh (rankK (ks.drop j) nj rj) s2 = R) ∧
       Sat (treeP h s2 * (B2 * (Sl.block N7 TNd [.bool lf, .slice a1 i c1, .slice a2 nk c2] * (Sl.block N4 TTl [.int .i64 x1, .int .i64 x2, .int .i64 x3, .int .i64 x4, .int .i64 xh] * F)))) wr)
      case atStart => exact ⟨0, nj, rj, rfl, rfl, rfl, by omega, by omega, by omega, by omega, by omega, ⟨rfl, HP2.out⟩, hsr⟩
      case round =>
       obtain ⟨j, mj, kj, rfl, rfl, rfl, hi2, hm1, hm2, hm3, hm4, A, hsr2⟩ := hrel
       clear hsr HP2 this
       haveI := hsr2.i
       by_cases hlj : j < nk
       · have hlj' : (j : Int) < nk := by omega
         obtain ⟨k, hk⟩ : ∃ k, ks[j]? = some k := ⟨_, List.getElem?_eq_getElem (by have := HK.out.2; omega)⟩
         obtain ⟨b, q, rfl, r1, r2, r3, r4⟩ := readsK_at HK.out.1 hk
         have hko := ((may_facts HMa.out).2 k (List.mem_of_getElem? hk)).2
         have hd : ks.drop j = k :: ks.drop (j + 1) := by
          obtain ⟨u1, u2⟩ := List.getElem?_eq_some_iff.1 hk
          rw [List.drop_eq_getElem_cons u1, u2]
         have hA := A.out.2
         rw [hd, rankK] at hA
         unfold mayKid at hko
         simp only [decide_eq_true_eq] at hko
         obtain ⟨k1, k2, k3, k4⟩ := k
         simp only at hko r1 r2 r3 r4 hA
         have hk1 : 1 ≤ k2 := by omega
         have hk2 : k2 ≤ 1048576 := by omega
         have hk3 : 1 ≤ k4 := by omega
         have hk4 : k4 ≤ 1048576 := by omega
         have HA : Aside (gk = nk - j) := A.out.1
         clear hko hk hd A
         by_cases hp : mj < k2
         · rw [if_pos hp] at hA
           have HS : Aside (M.bind (tRank tRead f ⟨⟨k1, k2, k3, k4⟩, xh - 1⟩ mj) (fun z => M.pure (kj + z)) s2 = R) := hA
           obtain ⟨m, hm⟩ : ∃ m, tRank tRead f ⟨⟨k1, k2, k3, k4⟩, xh - 1⟩ mj s2 = m := ⟨_, rfl⟩
           have hn := bind_nb HS.out HB.out
           have hrec := fun F w q n => HI.out h s2 ⟨⟨k1, k2, k3, k4⟩, xh - 1⟩ mj F w q (by simp only; omega) (by simp only; omega) (by simp only; omega) (by simp only; omega) hm1 (by omega) n
           have HZ : Aside (∀ z s', m = .ok z s' → 0 ≤ z ∧ z ≤ 16777216 * ((f + 1 : Nat) : Int)) := fun z s' e => rank_bound (fun p s n s' h => tRead_may h) 16777216 (by omega) f ⟨⟨k1, k2, k3, k4⟩, xh - 1⟩ mj s2 z s' (by simp only; omega) (by simp only; omega) (hm.trans e)
           rw [hm] at hn hrec
           have HM : Aside (tRank tRead f ⟨⟨k1, k2, k3, k4⟩, xh - 1⟩ mj s2 = m) := hm
           unfold tallV at hrec
           simp only at hrec
           have hw3 : IntKind.i64.wrap (xh - 1) = xh - 1 := IntWalk.i64_in _ (by omega)
           clear hm hA
           go_wp2_with fail
           with_reducible refine Calls.mono (hrec _ _ (takeI (treeP h s2)) hn) ?_
           rintro e w4 h4
           cases m with
           | bad => exact absurd rfl hn
           | fault er s3 =>
             obtain ⟨rfl, q5⟩ := h4
             haveI := q5.i
             have hRR := bind_up HS.out HM.out
             subst hRR
             exact ⟨rfl, rfl, keep2 _ _⟩
           | ok z s3 =>
             obtain ⟨v5, B5, rfl, ⟨rfl, rfl⟩, q5⟩ := h4
             rw [one_sep] at q5
             obtain ⟨z1, z2⟩ := HZ.out z s3 rfl
             have hw4 : IntKind.i64.wrap (kj + z) = kj + z := IntWalk.i64_in _ (by omega)
             have hg1 := bind_go HS.out HM.out
             have hRR : R = .ok (kj + z) s3 := hg1.symm
             subst hRR
             haveI := q5.i
             clear hrec hn HS HM HZ HB HI hg1 z1 z2
             go_wp2
             go_returns
             exact ⟨_, 1, rfl, ⟨rfl, rfl⟩, by rw [one_sep]; exact keep2 _ _⟩
         · rw [if_neg hp] at hA
           have HS : Aside (rankM f xh (rankK (ks.drop (j + 1)) (mj - k2) (kj + k4)) s2 = R) := hA
           have hw1 : IntKind.i64.wrap (kj + k4) = kj + k4 := IntWalk.i64_in _ (by omega)
           have hw2 : IntKind.i64.wrap (mj - k2) = mj - k2 := IntWalk.i64_in _ (by omega)
           clear hA
           go_wp2_with fail
           go_quiet (fail)
           go_wp2
           go_roundg (nk - (j + 1))
           case measure => have := HA.out; omega
           case rel => exact ⟨j + 1, mj - k2, kj + k4, by go_num, rfl, rfl, by omega, by omega, by omega, by omega, by omega, ⟨rfl, HS.out⟩, keep5 _ _ _ _ _⟩
       · have hlj' : ¬ (j : Int) < nk := by omega
         obtain rfl : j = nk := by omega
         have hA := A.out.2
         rw [List.drop_of_length_le (by rw [HK.out.2]; exact Nat.le_refl _)] at hA
         have hRR : R = .ok kj s2 := hA.symm
         subst hRR
         clear hA A HB HI
         go_wp2
         go_returns
         exact ⟨_, 1, rfl, ⟨rfl, rfl⟩, by rw [one_sep]; exact keep2 _ _⟩
theorem rank_any (f : Nat) : RankC f := by
 induction f with
 | zero =>
   intro h s x n F w hs h1 h2 h3 h4 h5 h6 hb
   by_cases hc : n ≤ 0 ∨ x.height < 0
   · exact rank_low 0 h s x n F w hs hc
   · by_cases hd : x.kid.bytes ≤ n
     · exact rank_high 0 h s x n F w hs (by omega) (by omega) hd
     · exact absurd (by unfold tRank; rw [if_neg hc, if_neg hd]; rfl) hb
 | succ f ih =>
   intro h s x n F w hs h1 h2 h3 h4 h5 h6 hb
   by_cases hc : n ≤ 0 ∨ x.height < 0
   · exact rank_low (f + 1) h s x n F w hs hc
   · by_cases hd : x.kid.bytes ≤ n
     · exact rank_high (f + 1) h s x n F w hs (by omega) (by omega) hd
     · exact rank_go f ih h s x n F w hs (by omega) (by omega) h2 hd h5 (by omega) hb
end Go.Proofs.YtfhbmblbidcmmaaGreat
namespace Go.Proofs.YtfhbmblbidcmmaaGreat
set_option linter.unusedSimpArgs false
set_option linter.unusedVariables false
open Go.RowKit Go.Sl Go.Dk Go.Tr
attribute [local go_sem ↓] Go.wp_at_zero Go.wp_at_succ
attribute [local go_sem] Go.Sl.cell_sat Go.Sl.frozen_sat
def SeekR (z : Ent × Int) (v : Value) (B : Assn) : Prop := v = .tuple #[.agg #[.int .i64 z.1.src, .int .i64 z.1.pos, .int .i64 z.1.len, .int .i64 z.1.lines], .int .i64 z.2] ∧ B = 1
def seekH (f : Nat) (n : Int) : Hit → M TS (Ent × Int)
 | .here x a => M.pure (x, a)
 | .past => M.fail 13
 | .below p a => M.bind (tRead p) fun m => seekTo tRead f m n a
def hitR (ks : List Kd) (n : Int) : Hit ⊕ Int → Hit
 | .inl h => h
 | .inr a => hitK ks n a
theorem seekTo_succ (f : Nat) (m : Nd) (n a : Int) (s : TS) : seekTo tRead (f + 1) m n a s = seekH f n (hitR m.kids n (hitE m.ents n a)) s := by
 rw [seekTo]
 unfold hitN
 cases hitE m.ents n a with
 | inl h => cases h <;> rfl
 | inr a => simp only [hitR]; cases hitK m.kids n a <;> rfl
set_option maxRecDepth 100000 in
set_option maxHeartbeats 3200000 in
theorem seek_any (h : Th) (s : TS) (root n : Int) (F : Assn) (w : World) (hs : Sat (treeP h s * F) w) (hb : tSeek tRead root n s ≠ .bad) :
 Calls Tryz.prog 94 #[.pointer (some ⟨h.t, 0, none⟩), .int .i64 root, .int .i64 n] w (TEnds h F (tSeek tRead root n s) SeekR) := by
 obtain ⟨R, hR⟩ : ∃ R, tSeek tRead root n s = R := ⟨_, rfl⟩
 rw [hR] at hb ⊢
 have HB : Aside (R ≠ .bad) := hb
 unfold tSeek at hR
 have HR : Aside (M.bind (tRead root) (fun m => seekTo tRead 22 m n 0) s = R) := hR
 clear hR hb
 obtain ⟨m, hm⟩ : ∃ m, tRead root s = m := ⟨_, rfl⟩
 have hn := bind_nb HR.out HB.out
 have hrd := fun F w q n => tread_any h s root F w q n
 rw [hm] at hn hrd
 have HM : Aside (tRead root s = m) := hm
 clear hm
 haveI := hs.i
 go_enter Tryz.func94, Tryz.ntmps94
 go_wp2_with fail
 go_step3
 go_wp2_with fail
 with_reducible refine Calls.mono (hrd _ _ (takeI (treeP h s)) hn) ?_
 rintro e w2 h4
 cases m with
 | bad => exact absurd rfl hn
 | fault er s2 =>
   obtain ⟨rfl, q2⟩ := h4
   haveI := q2.i
   have hRR := bind_up HR.out HM.out
   subst hRR
   exact ⟨rfl, rfl, keep2 _ _⟩
 | ok y s2 =>
   obtain ⟨v2, B2, rfl, ⟨hN, hma⟩, q2⟩ := h4
   have hg0 := bind_go HR.out HM.out
   have HG : Aside (seekTo tRead 22 y n 0 s2 = R) := hg0
   clear hrd hn HR HM hg0
   obtain ⟨se, sk, rfl, hE, hK⟩ := hN
   obtain ⟨a1, c1, rfl, hE1, hE2⟩ := hE.v
   obtain ⟨a2, c2, rfl, hK1, hK2⟩ := ReadsR.v hK
   have HN : Aside (may y = true ∧ ReadsN B2 (.agg #[.bool y.leaf, .slice a1 y.ents.length c1, .slice a2 y.kids.length c2]) y) := ⟨hma, _, _, rfl, hE, hK⟩
   haveI := q2.i
   clear hE hK hma
   go_wp2_with fail
   go_step3
   go_wp2_with fail
   have q4 : Sat (treeP h s2 * (B2 * (Sl.block w2.heap.size TNd [.bool y.leaf, .slice a1 y.ents.length c1, .slice a2 y.kids.length c2] * (Sl.block w.heap.size TEn [.int .i64 0, .int .i64 0, .int .i64 0, .int .i64 0] * F)))) (w2.alloc (.cells #[.bool y.leaf, .slice a1 y.ents.length c1, .slice a2 y.kids.length c2] TNd)) := satI_eq (by ac_rfl)
   obtain ⟨N6, hN6⟩ : ∃ N, w.heap.size = N := ⟨_, rfl⟩
   obtain ⟨N9, hN9⟩ : ∃ N, w2.heap.size = N := ⟨_, rfl⟩
   rw [hN6, hN9] at q4 ⊢
   clear hN6 hN9 q2 hs this
   go_loopg [8, 17] 22 (fun g t8 t17 wr => ∃ (i f : Nat) (m : Nd) (ah : Int) (a1 : Option Addr) (c1 : Nat) (a2 : Option Addr) (c2 : Nat) (G : Assn) (s' : TS), t8 = .int .i64 ah ∧ t17 = .int .i64 i ∧ i + f = 22 ∧ 0 ≤ ah ∧ ah ≤ 25165824 * (i : Int) ∧ Aside (g = f ∧ seekTo tRead f m n ah s' = R) ∧ Aside (may m = true ∧ ReadsN G (.agg #[.bool m.leaf, .slice a1 m.ents.length c1, .slice a2 m.kids.length c2]) m) ∧
    Sat (treeP h s' * (G * (Sl.block N9 TNd [.bool m.leaf, .slice a1 m.ents.length c1, .slice a2 m.kids.length c2] * (Sl.block N6 TEn [.int .i64 0, .int .i64 0, .int .i64 0, .int .i64 0] * F)))) wr)
   case atStart => exact ⟨0, 22, y, 0, a1, c1, a2, c2, B2, s2, rfl, rfl, by omega, by omega, by omega, ⟨rfl, HG.out⟩, HN.out, q4⟩
   case round =>
    obtain ⟨i, f, m, ah, a1, c1, a2, c2, G, s', rfl, rfl, hif, ha1, ha2, A, HN2, hsr⟩ := hrel
    clear q4 HN HG
    cases f with
    | zero =>
      have hRR : R = .fault 13 s' := A.out.2.symm
      subst hRR
      obtain rfl : i = 22 := by omega
      haveI := hsr.i
      clear A HN2 HB
      go_wp2_with fail
      exact ⟨rfl, rfl, keep2 _ _⟩
    | succ f =>
      have hi22 : (i : Int) < 22 := by omega
      have hA := A.out.2
      rw [seekTo_succ] at hA
      have HA : Aside (gk = f + 1) := A.out.1
      obtain ⟨vE, vK, hv, hE, hK⟩ := HN2.out.2
      cases hv
      obtain ⟨lf, es, ks⟩ := m
      have HMa : Aside (may ⟨lf, es, ks⟩ = true) := HN2.out.1
      obtain ⟨hl1, hl2⟩ := may_len HMa.out
      simp only at hE hK hl1 hl2 hA hsr ⊢
      obtain ⟨ne, hne⟩ : ∃ ne, es.length = ne := ⟨_, rfl⟩
      obtain ⟨nk, hnk⟩ : ∃ nk, ks.length = nk := ⟨_, rfl⟩
      have HE : Aside (ReadsE G (.slice a1 es.length c1) es ∧ es.length = ne) := ⟨hE, hne⟩
      have HK : Aside (ReadsK G (.slice a2 ks.length c2) ks ∧ ks.length = nk) := ⟨hK, hnk⟩
      have HP : Aside (seekH f n (hitR ks n (hitE es n ah)) s' = R) := hA
      rw [hne] at hl1 hsr
      rw [hnk] at hl2 hsr
      haveI := hsr.i
      clear hE hK hne hnk hA A HN2
      go_wp2_with fail
      go_loopg [8, 22] ne (fun g t8 t22 wx => ∃ (j : Nat) (aj : Int), t8 = .int .i64 aj ∧ t22 = .int .i64 j ∧ j ≤ ne ∧ 0 ≤ aj ∧ aj ≤ 25165824 * (i : Int) + 1048576 * (j : Int) ∧ Aside (g = ne - j ∧ seekH f n (hitR ks n (hitE (es.drop j) n aj)) s' = R) ∧
       Sat (treeP h s' * (G * (Sl.block N9 TNd [.bool lf, .slice a1 ne c1, .slice a2 nk c2] * (Sl.block N6 TEn [.int .i64 0, .int .i64 0, .int .i64 0, .int .i64 0] * F)))) wx)
      case atStart => exact ⟨0, ah, rfl, rfl, by omega, by omega, by omega, ⟨rfl, HP.out⟩, hsr⟩
      case round =>
       obtain ⟨j, aj, rfl, rfl, hj, hj1, hj2, A, hsr2⟩ := hrel
       clear hsr HP this
       haveI := hsr2.i
       by_cases hlj : j < ne
       · have hlj' : (j : Int) < ne := by omega
         obtain ⟨y, hy⟩ : ∃ y, es[j]? = some y := ⟨_, List.getElem?_eq_getElem (by have := HE.out.2; omega)⟩
         obtain ⟨b, q, rfl, r1, r2, r3, r4⟩ := readsE_at HE.out.1 hy
         have hyo := ((may_facts HMa.out).1 y (List.mem_of_getElem? hy)).2
         have hd : es.drop j = y :: es.drop (j + 1) := by
          obtain ⟨u1, u2⟩ := List.getElem?_eq_some_iff.1 hy
          rw [List.drop_eq_getElem_cons u1, u2]
         have hA := A.out.2
         rw [hd, hitE] at hA
         have HB2 : Aside (gk = ne - j) := A.out.1
         unfold mayEnt at hyo
         simp only [decide_eq_true_eq] at hyo
         obtain ⟨y1, y2, y3, y4⟩ := y
         simp only at hyo r1 r2 r3 r4 hA
         have hy1 : 1 ≤ y3 := by omega
         have hy2 : y3 ≤ 1048576 := by omega
         have hw1 : IntKind.i64.wrap (aj + y3) = aj + y3 := IntWalk.i64_in _ (by omega)
         clear hyo hy hd A
         by_cases hp : n < aj + y3
         · rw [if_pos hp] at hA
           have hRR : R = .ok (⟨y1, y2, y3, y4⟩, aj) s' := hA.symm
           subst hRR
           clear hA HB
           go_wp2
           try rw [Exit.noGoto_ret]
           go_returns
           exact ⟨_, 1, rfl, ⟨rfl, rfl⟩, by rw [one_sep]; exact keep2 _ _⟩
         · rw [if_neg hp] at hA
           have HS : Aside (seekH f n (hitR ks n (hitE (es.drop (j + 1)) n (aj + y3))) s' = R) := hA
           clear hA
           go_wp2
           go_roundg (ne - (j + 1))
           case measure => have := HB2.out; omega
           case rel => exact ⟨j + 1, aj + y3, rfl, by go_num, by omega, by omega, by omega, ⟨rfl, HS.out⟩, keep5 _ _ _ _ _⟩
       · have hlj' : ¬ (j : Int) < ne := by omega
         obtain rfl : j = ne := by omega
         have hA := A.out.2
         rw [List.drop_of_length_le (by rw [HE.out.2]; exact Nat.le_refl _)] at hA
         have HP2 : Aside (seekH f n (hitK ks n aj) s' = R) := hA
         clear hA A
         go_wp2_with fail
         go_loopg [8, 44] nk (fun g t8 t44 wx => ∃ (j2 : Nat) (aj : Int), t8 = .int .i64 aj ∧ t44 = .int .i64 j2 ∧ j2 ≤ nk ∧ 0 ≤ aj ∧ aj ≤ 25165824 * (i : Int) + 12582912 + 1048576 * (j2 : Int) ∧ Aside (g = nk - j2 ∧ seekH f n (hitK (ks.drop j2) n aj) s' = R) ∧
          Sat (treeP h s' * (G * (Sl.block N9 TNd [.bool lf, .slice a1 j c1, .slice a2 nk c2] * (Sl.block N6 TEn [.int .i64 0, .int .i64 0, .int .i64 0, .int .i64 0] * F)))) wx)
         case atStart => exact ⟨0, aj, rfl, rfl, by omega, by omega, by omega, ⟨rfl, HP2.out⟩, hsr2⟩
         case round =>
          obtain ⟨j2, bj, rfl, rfl, hk, hk1, hk2, A, hsr3⟩ := hrel
          clear hsr2 HP2 this
          haveI := hsr3.i
          by_cases hlk : j2 < nk
          · have hlk' : (j2 : Int) < nk := by omega
            obtain ⟨k, hk⟩ : ∃ k, ks[j2]? = some k := ⟨_, List.getElem?_eq_getElem (by have := HK.out.2; omega)⟩
            obtain ⟨b, q, rfl, r1, r2, r3, r4⟩ := readsK_at HK.out.1 hk
            have hko := ((may_facts HMa.out).2 k (List.mem_of_getElem? hk)).2
            have hd : ks.drop j2 = k :: ks.drop (j2 + 1) := by
             obtain ⟨u1, u2⟩ := List.getElem?_eq_some_iff.1 hk
             rw [List.drop_eq_getElem_cons u1, u2]
            have hA := A.out.2
            rw [hd, hitK] at hA
            have HB2 : Aside (gk = nk - j2) := A.out.1
            unfold mayKid at hko
            simp only [decide_eq_true_eq] at hko
            obtain ⟨k1, k2, k3, k4⟩ := k
            simp only at hko r1 r2 r3 r4 hA
            have hy1 : 1 ≤ k2 := by omega
            have hy2 : k2 ≤ 1048576 := by omega
            have hw1 : IntKind.i64.wrap (bj + k2) = bj + k2 := IntWalk.i64_in _ (by omega)
            clear hko hd A
            by_cases hp : n < bj + k2
            · rw [if_pos hp] at hA
              have HS : Aside (M.bind (tRead k1) (fun m => seekTo tRead f m n bj) s' = R) := hA
              obtain ⟨r, hr⟩ : ∃ r, tRead k1 s' = r := ⟨_, rfl⟩
              have hn := bind_nb HS.out HB.out
              have hrd := fun F w q n => tread_any h s' k1 F w q n
              rw [hr] at hn hrd
              have HM : Aside (tRead k1 s' = r) := hr
              clear hr hA hk
              go_wp2_with fail
              with_reducible refine Calls.mono (hrd _ _ (takeI (treeP h s')) hn) ?_
              rintro e w4 h4
              cases r with
              | bad => exact absurd rfl hn
              | fault er s3 =>
                obtain ⟨rfl, q5⟩ := h4
                haveI := q5.i
                have hRR := bind_up HS.out HM.out
                subst hRR
                exact ⟨rfl, rfl, keep2 _ _⟩
              | ok m2 s3 =>
                obtain ⟨v5, B5, rfl, ⟨hN5, hma5⟩, q5⟩ := h4
                have hg1 := bind_go HS.out HM.out
                have HG2 : Aside (seekTo tRead f m2 n bj s3 = R) := hg1
                obtain ⟨se, sk, rfl, hE, hK⟩ := hN5
                obtain ⟨a7, c7, rfl, hE1, hE2⟩ := hE.v
                obtain ⟨a8, c8, rfl, hK1, hK2⟩ := ReadsR.v hK
                have HN5 : Aside (may m2 = true ∧ ReadsN B5 (.agg #[.bool m2.leaf, .slice a7 m2.ents.length c7, .slice a8 m2.kids.length c8]) m2) := ⟨hma5, _, _, rfl, hE, hK⟩
                haveI := q5.i
                clear hrd hn HS HM hg1 hE hK hma5
                go_wp2_with fail
                go_roundg f
                case measure => have := HA.out; omega
                case rel =>
                 refine ⟨i + 1, f, m2, bj, a7, c7, a8, c8, B5, s3, rfl, by go_num, by omega, by omega, by omega, ⟨rfl, HG2.out⟩, HN5.out, ?_⟩
                 show Sat (treeP h s3 * (B5 * (Sl.block N9 TNd ((([.bool lf, .slice a1 j c1, .slice (some ⟨b, q, none⟩) nk c2].set 0 (.bool m2.leaf)).set 1 (.slice a7 m2.ents.length c7)).set 2 (.slice a8 m2.kids.length c8)) * (Sl.block N6 TEn [.int .i64 0, .int .i64 0, .int .i64 0, .int .i64 0] * F)))) _
                 exact keep5 _ _ _ _ _
            · rw [if_neg hp] at hA
              have HS : Aside (seekH f n (hitK (ks.drop (j2 + 1)) n (bj + k2)) s' = R) := hA
              clear hA hk
              go_wp2
              go_roundg (nk - (j2 + 1))
              case measure => have := HB2.out; omega
              case rel => exact ⟨j2 + 1, bj + k2, rfl, by go_num, by omega, by omega, by omega, ⟨rfl, HS.out⟩, keep5 _ _ _ _ _⟩
          · have hlk' : ¬ (j2 : Int) < nk := by omega
            obtain rfl : j2 = nk := by omega
            have hA := A.out.2
            rw [List.drop_of_length_le (by rw [HK.out.2]; exact Nat.le_refl _)] at hA
            have hRR : R = .fault 13 s' := hA.symm
            subst hRR
            clear hA A HB
            go_wp2_with fail
            exact ⟨rfl, rfl, keep2 _ _⟩
end Go.Proofs.YtfhbmblbidcmmaaGreat
