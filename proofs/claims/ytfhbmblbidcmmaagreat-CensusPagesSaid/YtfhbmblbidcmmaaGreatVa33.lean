/-
  Of all versions the pages that are told are just those of their trees in the file in the form of the document, and a root that is none is refused. No condition. (part 33)
-/
import Derived.Test.YtfhbmblbidcmmaaGreatVa32
import Derived.Deep.RegionHeld2
import Derived.Deep.DeepCutAuto
import Derived.Test.YtfhbmblbidcmmaaGreatVa30
import Derived.Defers
import Derived.Recover
import Derived.Test.YtfhbmblbidcmmaaGreatVa21
set_option linter.unusedSimpArgs false
set_option linter.unusedVariables false
namespace Go.Tr
theorem passE_go {l : List Ent} {n : Int} {k r : Nat} (h : passE l n k = some r) (hn : 0 < n) : ∃ x l', l = x :: l' ∧ passE l' (n - x.len) (k + 1) = some r := by
 cases l with
 | nil => unfold passE at h; simp only [if_pos hn] at h; cases h
 | cons x l => unfold passE at h; simp only [if_pos hn] at h; exact ⟨x, l, rfl, h⟩
theorem passE_stop {l : List Ent} {n : Int} {k r : Nat} (h : passE l n k = some r) (hn : ¬ 0 < n) : r = k := by
 cases l with
 | nil => unfold passE at h; simp only [if_neg hn] at h; exact (Option.some.inj h).symm
 | cons x l => unfold passE at h; simp only [if_neg hn] at h; exact (Option.some.inj h).symm
theorem drop_at {α : Type} {l l' : List α} {x : α} {j : Nat} (h : l.drop j = x :: l') : l[j]? = some x ∧ l.drop (j + 1) = l' ∧ j < l.length := by
 have h1 : l[j]? = some x := by
  have := congrArg List.head? h
  simpa using this
 refine ⟨h1, ?_, ?_⟩
 · have := congrArg List.tail h
   simpa using this
 · rcases Nat.lt_or_ge j l.length with h2 | h2
   · exact h2
   · rw [List.drop_of_length_le h2] at h; cases h
end Go.Tr
namespace Go.Proofs.YtfhbmblbidcmmaaGreat
set_option linter.unusedSimpArgs false
set_option linter.unusedVariables false
open Go.RowKit Go.Sl Go.Dk Go.Tr
attribute [local go_sem ↓] Go.wp_at_zero Go.wp_at_succ
attribute [local go_sem] Go.Sl.cell_sat Go.Sl.frozen_sat
set_option maxRecDepth 100000 in
set_option maxHeartbeats 6400000 in
theorem parted_leaf (f : Nat) (h : Th) (s : TS) (x : Tall) (n : Int) (F : Assn) (w : World) (hs : Sat (treeP h s * F) w) (h1 : ¬ n ≤ 0) (h2 : ¬ x.kid.bytes ≤ n) (hn2 : n ≤ 1099511627776)
 (hlf : ∀ y s2, tRead x.kid.page s = .ok y s2 → y.leaf = true) (hb : tParted tRead tWrite (f + 1) x n s ≠ .bad) :
 Calls Tryz.prog 98 #[.pointer (some ⟨h.t, 0, none⟩), tallV x, .int .i64 n] w (TEnds h F (tParted tRead tWrite (f + 1) x n s) PairR) := by
 obtain ⟨i0, E⟩ := elemEn
 obtain ⟨R, hR⟩ : ∃ R, tParted tRead tWrite (f + 1) x n s = R := ⟨_, rfl⟩
 rw [hR] at hb ⊢
 have HB : Aside (R ≠ .bad) := hb
 unfold tParted at hR
 rw [if_neg h1, if_neg h2] at hR
 obtain ⟨⟨x1, x2, x3, x4⟩, xh⟩ := x
 simp only at h2 hR hlf
 have hn1 := bind_nb hR hb
 have c1 := fun F w q => tread_any h s x1 F w q hn1
 have HR : Aside (∀ y s2, tRead x1 s = .ok y s2 → y.leaf = true ∧ ∃ k, passE y.ents n 0 = some k ∧ M.bind (tLeaves tWrite (y.ents.take k)) (fun a => M.bind (tLeaves tWrite (y.ents.drop k)) fun b => M.pure (a, b)) s2 = R) := fun y s2 hm => by
  have hg := bind_go hR hm
  rw [if_pos (hlf y s2 hm)] at hg
  refine ⟨hlf y s2 hm, ?_⟩
  cases hp : passE y.ents n 0 with
  | none => rw [hp] at hg; exact absurd hg.symm hb
  | some k => rw [hp] at hg; exact ⟨k, rfl, hg⟩
 have HU : Aside ((∀ er s1, tRead x1 s = .fault er s1 → R = .fault er s1) ∧ tRead x1 s ≠ .bad) := ⟨fun er s1 hm => bind_up hR hm, hn1⟩
 unfold tallV
 haveI := hs.i
 clear hb hR hn1 hlf
 go_enter Tryz.func98, Tryz.ntmps98
 go_wp2_with fail
 with_reducible refine Calls.mono (c1 _ _ (takeI (treeP h s))) ?_
 rintro e w1 hx1
 obtain ⟨r1, hm1⟩ : ∃ r, r = tRead x1 s := ⟨_, rfl⟩
 rw [← hm1] at hx1
 rcases r1 with ⟨y, s2⟩ | ⟨er, s2⟩ | _
 rotate_left
 · obtain ⟨rfl, q1⟩ := hx1
   haveI := q1.i
   have hRR := HU.out.1 _ _ hm1.symm
   subst hRR
   exact ⟨rfl, rfl, keep2 _ _⟩
 · exact absurd hm1.symm HU.out.2
 obtain ⟨v1, B2, rfl, ⟨hx, hma⟩, q1⟩ := hx1
 obtain ⟨hlf, k, hpk, hg⟩ := HR.out _ _ hm1.symm
 obtain ⟨se, sk, rfl, hE, hK⟩ := hx
 obtain ⟨a1, c1', rfl, hE1, hE2⟩ := hE.v
 obtain ⟨a2, c2, rfl, hK1, hK2⟩ := ReadsR.v hK
 obtain ⟨hl1, hl2⟩ := may_len hma
 have HMa : Aside (may y = true) := hma
 obtain ⟨lf, es, ks⟩ := y
 simp only at hE hl1 hl2 hE1 hpk hg hlf ⊢
 subst hlf
 obtain ⟨ne, hne⟩ : ∃ ne, es.length = ne := ⟨_, rfl⟩
 obtain ⟨nk, hnk⟩ : ∃ nk, ks.length = nk := ⟨_, rfl⟩
 have HE : Aside (ReadsE B2 (.slice a1 es.length c1') es ∧ es.length = ne) := ⟨hE, hne⟩
 rw [hne] at hl1 hE1 ⊢
 rw [hnk] at hl2 hK1 ⊢
 have HP : Aside (passE es n 0 = some k ∧ M.bind (tLeaves tWrite (es.take k)) (fun a => M.bind (tLeaves tWrite (es.drop k)) fun b => M.pure (a, b)) s2 = R) := ⟨hpk, hg⟩
 haveI := q1.i
 clear hE hK hma hne hnk hpk hg hm1 HR HU c1
 go_wp2_with fail
 have q4 : Sat (treeP h s2 * (B2 * (Sl.block w1.heap.size TNd [.bool true, .slice a1 ne c1', .slice a2 nk c2] * (Sl.block (w.heap.size + 1 + 1) TTl [.int .i64 0, .int .i64 0, .int .i64 0, .int .i64 0, .int .i64 0] * (Sl.block (w.heap.size + 1) TTl [.int .i64 0, .int .i64 0, .int .i64 0, .int .i64 0, .int .i64 0] * F))))) (w1.alloc (.cells #[.bool true, .slice a1 ne c1', .slice a2 nk c2] TNd)) := satI_weak (C := Sl.block w.heap.size TTl [.int .i64 x1, .int .i64 x2, .int .i64 x3, .int .i64 x4, .int .i64 xh]) (by ac_rfl)
 obtain ⟨N, hN⟩ : ∃ N, w.heap.size = N := ⟨_, rfl⟩
 obtain ⟨N8, hN8⟩ : ∃ N, w1.heap.size = N := ⟨_, rfl⟩
 rw [hN, hN8] at q4 ⊢
 clear hN hN8 q1 hs this
 go_loopg [2, 9] ne (fun g t2 t9 wr => ∃ (j : Nat) (nj : Int), t2 = .int .i64 nj ∧ t9 = .int .i64 j ∧ j ≤ ne ∧ nj ≤ 1099511627776 ∧ -1048576 ≤ nj ∧ Aside (g = ne - j ∧ passE (es.drop j) nj j = some k) ∧
  Sat (treeP h s2 * (B2 * (Sl.block N8 TNd [.bool true, .slice a1 ne c1', .slice a2 nk c2] * (Sl.block (N + 1 + 1) TTl [.int .i64 0, .int .i64 0, .int .i64 0, .int .i64 0, .int .i64 0] * (Sl.block (N + 1) TTl [.int .i64 0, .int .i64 0, .int .i64 0, .int .i64 0, .int .i64 0] * F))))) wr)
 case atStart => exact ⟨0, n, rfl, rfl, by omega, by omega, by omega, ⟨rfl, HP.out.1⟩, q4⟩
 case round =>
  obtain ⟨j, nj, rfl, rfl, hj, hj1, hj2, A, hsr⟩ := hrel
  clear q4
  haveI := hsr.i
  by_cases hlt : 0 < nj
  · obtain ⟨y, l', hd, hps⟩ := passE_go A.out.2 hlt
    obtain ⟨hy, hd2, hj3⟩ := drop_at hd
    rw [HE.out.2] at hj3
    have hlt' : (j : Int) < ne := by omega
    rw [← hd2] at hps
    have HS : Aside (passE (es.drop (j + 1)) (nj - y.len) (j + 1) = some k) := hps
    obtain ⟨b, q, rfl, r1, r2, r3, r4⟩ := readsE_at HE.out.1 hy
    have hyo := ((may_facts HMa.out).1 y (List.mem_of_getElem? hy)).2
    unfold mayEnt at hyo
    simp only [decide_eq_true_eq] at hyo
    obtain ⟨y1, y2, y3, y4⟩ := y
    simp only at hyo r1 r2 r3 r4 HS
    have hy1 : 1 ≤ y3 := by omega
    have hy2 : y3 ≤ 1048576 := by omega
    have hw2 : IntKind.i64.wrap (nj - y3) = nj - y3 := IntWalk.i64_in _ (by omega)
    clear hyo hy hd hd2 hps
    go_wp2
    go_roundg (ne - (j + 1))
    case measure => have := A.out.1; omega
    case rel => exact ⟨j + 1, nj - y3, rfl, by go_num, by omega, by omega, by omega, ⟨rfl, HS.out⟩, keep6 _ _ _ _ _ _⟩
  · obtain rfl := passE_stop A.out.2 hlt
    have HQ : Aside (M.bind (tLeaves tWrite (es.take k)) (fun a => M.bind (tLeaves tWrite (es.drop k)) fun b => M.pure (a, b)) s2 = R) := HP.out.2
    have hcut1 := readsE_cut HE.out.1 (i := 0) (j := k) (by omega) (by rw [HE.out.2]; exact hj)
    have hcut2 := readsE_cut HE.out.1 (i := k) (j := es.length) (by rw [HE.out.2]; exact hj) (Nat.le_refl _)
    have e1 : sub es 0 k = es.take k := by simp [sub]
    have e2 : sub es k es.length = es.drop k := by unfold sub; rw [← List.length_drop, List.take_length]
    rw [e1, Nat.sub_zero, Nat.sub_zero] at hcut1
    rw [e2, HE.out.2] at hcut2
    have hc1 := at_to (P := Tryz.prog) E (a := a1) (n := ne) (c := c1') k (by omega)
    have hc2 := at_from (P := Tryz.prog) E (a := a1) (n := ne) (c := c1') k hj
    obtain ⟨z1, hz1⟩ : ∃ z, cutA a1 c1' 0 4 = z := ⟨_, rfl⟩
    obtain ⟨z2, hz2⟩ : ∃ z, cutA a1 c1' k 4 = z := ⟨_, rfl⟩
    rw [hz1] at hc1 hcut1
    rw [hz2] at hc2 hcut2
    have c2' := fun F w q => leaves_any h s2 (es.take k) _ B2 F w hcut1 q (by rw [List.length_take, HE.out.2]; omega) (bind_nb HQ.out HB.out)
    have HC : Aside (ReadsE B2 (.slice z2 (ne - k) (c1' - k)) (es.drop k)) := hcut2
    clear hcut1 hcut2 e1 e2 hz1 hz2 A HP HMa
    go_wp2_with fail
    go_region_held2 (fun w' => w'.cell? ⟨N8, 1, none⟩ = some (.slice a1 ne c1')) (first | exact cell_sat _ _ _) (first
     | (go_at_call 84
        with_reducible refine Calls.mono (c2' _ _ (takeI2 (treeP h s2) B2)) ?_
        rintro e w3 h3
        obtain ⟨r3, hm3⟩ : ∃ r, r = tLeaves tWrite (es.take k) s2 := ⟨_, rfl⟩
        rw [← hm3] at h3
        rcases r3 with ⟨ta, s3⟩ | ⟨er, s3⟩ | _
        rotate_left
        · obtain ⟨rfl, q3⟩ := h3
          haveI := q3.i
          have hRR := bind_up HQ.out hm3.symm
          subst hRR
          exact ⟨rfl, rfl, keep2 _ _⟩
        · exact absurd (bind_bad HQ.out hm3.symm) HB.out
        obtain ⟨v3, G3, rfl, ⟨rfl, rfl⟩, q3⟩ := h3
        rw [one_sep] at q3
        haveI := q3.i
        have hg3 := bind_go HQ.out hm3.symm
        have HQ3 : Aside (M.bind (tLeaves tWrite (es.drop k)) (fun b => M.pure (ta, b)) s3 = R) := hg3
        have c3' := fun F w q => leaves_any h s3 (es.drop k) _ B2 F w HC.out q (by rw [List.length_drop, HE.out.2]; omega) (bind_nb HQ3.out HB.out)
        clear hg3 hm3
        obtain ⟨⟨p1, p2, p3, p4⟩, ph⟩ := ta
        unfold tallV)
     | (go_at_call 84
        with_reducible refine Calls.mono (c3' _ _ (takeI2 (treeP h s3) B2)) ?_
        rintro e w4 h4
        obtain ⟨r4, hm4⟩ : ∃ r, r = tLeaves tWrite (es.drop k) s3 := ⟨_, rfl⟩
        rw [← hm4] at h4
        rcases r4 with ⟨tb, s4⟩ | ⟨er, s4⟩ | _
        rotate_left
        · obtain ⟨rfl, q4⟩ := h4
          haveI := q4.i
          have hRR := bind_up HQ3.out hm4.symm
          subst hRR
          exact ⟨rfl, rfl, keep2 _ _⟩
        · exact absurd (bind_bad HQ3.out hm4.symm) HB.out
        obtain ⟨v4, G4, rfl, ⟨rfl, rfl⟩, q4⟩ := h4
        rw [one_sep] at q4
        haveI := q4.i
        have hg4 := bind_go HQ3.out hm4.symm
        have hR4 : R = .ok (⟨⟨p1, p2, p3, p4⟩, ph⟩, tb) s4 := hg4.symm
        clear hg4 hm4
        obtain ⟨⟨o1, o2, o3, o4⟩, oh⟩ := tb
        unfold tallV))
    all_goals
     subst hR4
     go_wp2
     go_returns
     exact ⟨_, 1, rfl, ⟨rfl, rfl⟩, by rw [one_sep]; exact keep2 _ _⟩
end Go.Proofs.YtfhbmblbidcmmaaGreat
namespace Go.Tr
theorem passK_go {l : List Kd} {n : Int} {k : Nat} {r : Nat × Int} (h : passK l n k = some r) : ∃ x l', l = x :: l' ∧ ((x.bytes ≤ n ∧ passK l' (n - x.bytes) (k + 1) = some r) ∨ (¬ x.bytes ≤ n ∧ r = (k, n))) := by
 cases l with
 | nil => cases h
 | cons x l =>
   unfold passK at h
   by_cases hc : x.bytes ≤ n
   · rw [if_pos hc] at h; exact ⟨x, l, rfl, .inl ⟨hc, h⟩⟩
   · rw [if_neg hc] at h; exact ⟨x, l, rfl, .inr ⟨hc, (Option.some.inj h).symm⟩⟩
end Go.Tr
namespace Go.Proofs.YtfhbmblbidcmmaaGreat
set_option linter.unusedSimpArgs false
set_option linter.unusedVariables false
open Go.RowKit Go.Sl Go.Dk Go.Tr
attribute [local go_sem ↓] Go.wp_at_zero Go.wp_at_succ
attribute [local go_sem] Go.Sl.cell_sat Go.Sl.frozen_sat
def partK (f : Nat) (xh : Int) (ks : List Kd) (k : Nat) (r : Int) : M TS (Tall × Tall) :=
 if r = 0 then M.bind (tOver tWrite (ks.take k) xh) fun a => M.bind (tOver tWrite (ks.drop k) xh) fun b => M.pure (a, b)
 else match ks[k]? with
  | none => M.bad
  | some z => M.bind (tParted tRead tWrite f ⟨z, xh - 1⟩ r) fun p =>
    M.bind (tOver tWrite (ks.take k) xh) fun a => M.bind (tPut tRead tWrite a p.1) fun a =>
    M.bind (tOver tWrite (ks.drop (k + 1)) xh) fun b => M.bind (tPut tRead tWrite p.2 b) fun b => M.pure (a, b)
def PartedC (f : Nat) : Prop := ∀ (h : Th) (s : TS) (x : Tall) (n : Int) (F : Assn) (w : World), Sat (treeP h s * F) w → (f : Int) - 700 ≤ x.height → x.height ≤ 500 → f ≤ 30 → n ≤ 1099511627776 → tParted tRead tWrite f x n s ≠ .bad →
 Calls Tryz.prog 98 #[.pointer (some ⟨h.t, 0, none⟩), tallV x, .int .i64 n] w (TEnds h F (tParted tRead tWrite f x n s) PairR)
set_option maxRecDepth 100000 in
set_option maxHeartbeats 12800000 in
theorem parted_in (f : Nat) (ih : PartedC f) (h : Th) (s : TS) (x : Tall) (n : Int) (F : Assn) (w : World) (hs : Sat (treeP h s * F) w) (h1 : ¬ n ≤ 0) (h2 : ¬ x.kid.bytes ≤ n) (hn2 : n ≤ 1099511627776)
 (hx1 : (f : Int) - 699 ≤ x.height) (hx2 : x.height ≤ 500) (hf : f ≤ 29)
 (hlf : ∀ y s2, tRead x.kid.page s = .ok y s2 → y.leaf = false) (hb : tParted tRead tWrite (f + 1) x n s ≠ .bad) :
 Calls Tryz.prog 98 #[.pointer (some ⟨h.t, 0, none⟩), tallV x, .int .i64 n] w (TEnds h F (tParted tRead tWrite (f + 1) x n s) PairR) := by
 obtain ⟨i1, E⟩ := elemKd
 obtain ⟨R, hR⟩ : ∃ R, tParted tRead tWrite (f + 1) x n s = R := ⟨_, rfl⟩
 rw [hR] at hb ⊢
 have HB : Aside (R ≠ .bad) := hb
 have HI : Aside (PartedC f) := ih
 unfold tParted at hR
 rw [if_neg h1, if_neg h2] at hR
 obtain ⟨⟨x1, x2, x3, x4⟩, xh⟩ := x
 simp only at h2 hR hlf hx1 hx2
 have hn1 := bind_nb hR hb
 have c1 := fun F w q => tread_any h s x1 F w q hn1
 have HR : Aside (∀ y s2, tRead x1 s = .ok y s2 → y.leaf = false ∧ ∃ k r, passK y.kids n 0 = some (k, r) ∧ partK f xh y.kids k r s2 = R) := fun y s2 hm => by
  have hg := bind_go hR hm
  rw [if_neg (by rw [hlf y s2 hm]; simp)] at hg
  refine ⟨hlf y s2 hm, ?_⟩
  cases hp : passK y.kids n 0 with
  | none => rw [hp] at hg; exact absurd hg.symm hb
  | some kr => rw [hp] at hg; exact ⟨kr.1, kr.2, rfl, hg⟩
 have HU : Aside ((∀ er s1, tRead x1 s = .fault er s1 → R = .fault er s1) ∧ tRead x1 s ≠ .bad) := ⟨fun er s1 hm => bind_up hR hm, hn1⟩
 unfold tallV
 haveI := hs.i
 clear hb hR hn1 hlf ih
 go_enter Tryz.func98, Tryz.ntmps98
 go_wp2_with fail
 with_reducible refine Calls.mono (c1 _ _ (takeI (treeP h s))) ?_
 rintro e w1 hx0
 obtain ⟨r1, hm1⟩ : ∃ r, r = tRead x1 s := ⟨_, rfl⟩
 rw [← hm1] at hx0
 rcases r1 with ⟨y, s2⟩ | ⟨er, s2⟩ | _
 rotate_left
 · obtain ⟨rfl, q1⟩ := hx0
   haveI := q1.i
   have hRR := HU.out.1 _ _ hm1.symm
   subst hRR
   exact ⟨rfl, rfl, keep2 _ _⟩
 · exact absurd hm1.symm HU.out.2
 obtain ⟨v1, B2, rfl, ⟨hx, hma⟩, q1⟩ := hx0
 obtain ⟨hlf, k, r, hpk, hg⟩ := HR.out _ _ hm1.symm
 obtain ⟨se, sk, rfl, hE, hK⟩ := hx
 obtain ⟨a1, c1', rfl, hE1, hE2⟩ := hE.v
 obtain ⟨a2, c2, rfl, hK1, hK2⟩ := ReadsR.v hK
 obtain ⟨hl1, hl2⟩ := may_len hma
 have HMa : Aside (may y = true) := hma
 obtain ⟨lf, es, ks⟩ := y
 simp only at hK hl1 hl2 hE1 hpk hg hlf ⊢
 subst hlf
 obtain ⟨ne, hne⟩ : ∃ ne, es.length = ne := ⟨_, rfl⟩
 obtain ⟨nk, hnk⟩ : ∃ nk, ks.length = nk := ⟨_, rfl⟩
 have HK : Aside (ReadsK B2 (.slice a2 ks.length c2) ks ∧ ks.length = nk) := ⟨hK, hnk⟩
 rw [hne] at hl1 hE1 ⊢
 rw [hnk] at hl2 hK1 ⊢
 have HP : Aside (passK ks n 0 = some (k, r) ∧ partK f xh ks k r s2 = R) := ⟨hpk, hg⟩
 haveI := q1.i
 clear hE hK hma hne hnk hpk hg hm1 HR HU c1
 go_wp2_with fail
 have q4 : Sat (treeP h s2 * (B2 * ((Sl.block w1.heap.size TNd [.bool false, .slice a1 ne c1', .slice a2 nk c2] * (Sl.block (w.heap.size + 1 + 1) TTl [.int .i64 0, .int .i64 0, .int .i64 0, .int .i64 0, .int .i64 0] * (Sl.block (w.heap.size + 1) TTl [.int .i64 0, .int .i64 0, .int .i64 0, .int .i64 0, .int .i64 0] * (Sl.block w.heap.size TTl [.int .i64 x1, .int .i64 x2, .int .i64 x3, .int .i64 x4, .int .i64 xh] * F))))))) (w1.alloc (.cells #[.bool false, .slice a1 ne c1', .slice a2 nk c2] TNd)) := satI_eq (by ac_rfl)
 obtain ⟨N, hN⟩ : ∃ N, w.heap.size = N := ⟨_, rfl⟩
 obtain ⟨N8, hN8⟩ : ∃ N, w1.heap.size = N := ⟨_, rfl⟩
 rw [hN, hN8] at q4 ⊢
 clear hN hN8 q1 hs this
 go_loopg [2, 10] nk (fun g t2 t10 wr => ∃ (j : Nat) (nj : Int), t2 = .int .i64 nj ∧ t10 = .int .i64 j ∧ j ≤ nk ∧ nj ≤ 1099511627776 ∧ 0 ≤ nj ∧ Aside (g = nk - j ∧ passK (ks.drop j) nj j = some (k, r)) ∧
  Sat (treeP h s2 * (B2 * (Sl.block N8 TNd [.bool false, .slice a1 ne c1', .slice a2 nk c2] * (Sl.block (N + 1 + 1) TTl [.int .i64 0, .int .i64 0, .int .i64 0, .int .i64 0, .int .i64 0] * (Sl.block (N + 1) TTl [.int .i64 0, .int .i64 0, .int .i64 0, .int .i64 0, .int .i64 0] * (Sl.block N TTl [.int .i64 x1, .int .i64 x2, .int .i64 x3, .int .i64 x4, .int .i64 xh] * F)))))) wr)
 case atStart => exact ⟨0, n, rfl, rfl, by omega, by omega, by omega, ⟨rfl, HP.out.1⟩, q4⟩
 case round =>
  obtain ⟨j, nj, rfl, rfl, hj, hj1, hj2, A, hsr⟩ := hrel
  clear q4
  haveI := hsr.i
  obtain ⟨y, l', hd, hps⟩ := passK_go A.out.2
  obtain ⟨hy, hd2, hj3⟩ := drop_at hd
  rw [HK.out.2] at hj3
  have hlt' : (j : Int) < nk := by omega
  obtain ⟨b, q, rfl, r1, r2, r3, r4⟩ := readsK_at HK.out.1 hy
  have hyo := ((may_facts HMa.out).2 y (List.mem_of_getElem? hy)).2
  have HY : Aside (ks[j]? = some y) := hy
  unfold mayKid at hyo
  simp only [decide_eq_true_eq] at hyo
  obtain ⟨y1, y2, y3, y4⟩ := y
  simp only at hyo r1 r2 r3 r4 hps
  have hy1 : 1 ≤ y2 := by omega
  have hy2 : y2 ≤ 1048576 := by omega
  clear hyo hy hd
  rcases hps with ⟨hle, hps⟩ | ⟨hle, hkr⟩
  · rw [← hd2] at hps
    have HS : Aside (passK (ks.drop (j + 1)) (nj - y2) (j + 1) = some (k, r)) := hps
    have hw2 : IntKind.i64.wrap (nj - y2) = nj - y2 := IntWalk.i64_in _ (by omega)
    clear hd2 hps
    go_wp2
    go_roundg (nk - (j + 1))
    case measure => have := A.out.1; omega
    case rel => exact ⟨j + 1, nj - y2, rfl, by go_num, by omega, by omega, by omega, ⟨rfl, HS.out⟩, keep7 _ _ _ _ _ _ _⟩
  · obtain ⟨hk1, hk2⟩ := Prod.mk.inj hkr
    subst hk1
    subst hk2
    have HQ0 : Aside (partK f xh ks k r s2 = R) := HP.out.2
    have hcut1 := readsK_cut HK.out.1 (i := 0) (j := k) (by omega) (by rw [HK.out.2]; exact hj)
    have e1 : sub ks 0 k = ks.take k := by simp [sub]
    rw [e1, Nat.sub_zero, Nat.sub_zero] at hcut1
    have hc1 := at_to (P := Tryz.prog) E (a := some ⟨b, q, none⟩) (n := nk) (c := c2) k (by omega)
    obtain ⟨z1, hz1⟩ : ∃ z, cutA (some ⟨b, q, none⟩) c2 0 4 = z := ⟨_, rfl⟩
    rw [hz1] at hc1 hcut1
    have HC1 : Aside (ReadsK B2 (.slice z1 k c2) (ks.take k)) := hcut1
    clear hcut1 e1 hz1 A HP hkr hd2
    by_cases hz : r = 0
    · subst hz
      have hcut2 := readsK_cut HK.out.1 (i := k) (j := ks.length) (by rw [HK.out.2]; exact hj) (Nat.le_refl _)
      have e2 : sub ks k ks.length = ks.drop k := by unfold sub; rw [← List.length_drop, List.take_length]
      rw [e2, HK.out.2] at hcut2
      have hc2 := at_from (P := Tryz.prog) E (a := some ⟨b, q, none⟩) (n := nk) (c := c2) k hj
      obtain ⟨z2, hz2⟩ : ∃ z, cutA (some ⟨b, q, none⟩) c2 k 4 = z := ⟨_, rfl⟩
      rw [hz2] at hc2 hcut2
      have HC2 : Aside (ReadsK B2 (.slice z2 (nk - k) (c2 - k)) (ks.drop k)) := hcut2
      have hQ := HQ0.out
      unfold partK at hQ
      rw [if_pos rfl] at hQ
      have HQ : Aside (M.bind (tOver tWrite (ks.take k) xh) (fun a => M.bind (tOver tWrite (ks.drop k) xh) fun b => M.pure (a, b)) s2 = R) := hQ
      have c3 := fun F w q => over_any h s2 (ks.take k) xh _ B2 F w HC1.out q (by rw [List.length_take, HK.out.2]; omega) (by omega) (by omega) (bind_nb HQ.out HB.out)
      clear hcut2 e2 hz2 hQ HMa HI
      go_wp2_with fail
      go_region_held2 (fun w' => w'.cell? ⟨N8, 2, none⟩ = some (.slice (some ⟨b, q, none⟩) nk c2) ∧ w'.cell? ⟨N, 4, none⟩ = some (.int .i64 xh)) (first | exact ⟨cell_sat _ _ _, cell_sat _ _ _⟩) (first
       | (go_at_call 144
          with_reducible refine Calls.mono (c3 _ _ (takeI2 (treeP h s2) B2)) ?_
          rintro e w3 h3
          obtain ⟨r3, hm3⟩ : ∃ ρ, ρ = tOver tWrite (ks.take k) xh s2 := ⟨_, rfl⟩
          rw [← hm3] at h3
          rcases r3 with ⟨ta, s3⟩ | ⟨er, s3⟩ | _
          rotate_left
          · obtain ⟨rfl, q3⟩ := h3
            haveI := q3.i
            have hRR := bind_up HQ.out hm3.symm
            subst hRR
            exact ⟨rfl, rfl, keep2 _ _⟩
          · exact absurd (bind_bad HQ.out hm3.symm) HB.out
          obtain ⟨v3, G3, rfl, ⟨rfl, rfl⟩, q3⟩ := h3
          rw [one_sep] at q3
          haveI := q3.i
          have hg3 := bind_go HQ.out hm3.symm
          have HQ3 : Aside (M.bind (tOver tWrite (ks.drop k) xh) (fun b => M.pure (ta, b)) s3 = R) := hg3
          have c4 := fun F w q => over_any h s3 (ks.drop k) xh _ B2 F w HC2.out q (by rw [List.length_drop, HK.out.2]; omega) (by omega) (by omega) (bind_nb HQ3.out HB.out)
          clear hg3 hm3
          obtain ⟨⟨p1, p2, p3, p4⟩, ph⟩ := ta
          unfold tallV
          simp only)
       | (go_at_call 144
          with_reducible refine Calls.mono (c4 _ _ (takeI2 (treeP h s3) B2)) ?_
          rintro e w4 h4
          obtain ⟨r4, hm4⟩ : ∃ ρ, ρ = tOver tWrite (ks.drop k) xh s3 := ⟨_, rfl⟩
          rw [← hm4] at h4
          rcases r4 with ⟨tb, s4⟩ | ⟨er, s4⟩ | _
          rotate_left
          · obtain ⟨rfl, q4⟩ := h4
            haveI := q4.i
            have hRR := bind_up HQ3.out hm4.symm
            subst hRR
            exact ⟨rfl, rfl, keep2 _ _⟩
          · exact absurd (bind_bad HQ3.out hm4.symm) HB.out
          obtain ⟨v4, G4, rfl, ⟨rfl, rfl⟩, q4⟩ := h4
          rw [one_sep] at q4
          haveI := q4.i
          have hg4 := bind_go HQ3.out hm4.symm
          have hR4 : R = .ok (⟨⟨p1, p2, p3, p4⟩, ph⟩, tb) s4 := hg4.symm
          clear hg4 hm4
          obtain ⟨⟨o1, o2, o3, o4⟩, oh⟩ := tb
          unfold tallV
          simp only))
      all_goals
       subst hR4
       go_wp2
       go_returns
       exact ⟨_, 1, rfl, ⟨rfl, rfl⟩, by rw [one_sep]; exact keep2 _ _⟩
    · have hz' : ((r : Int) == 0) = false := by simpa using hz
      have hcut2 := readsK_cut HK.out.1 (i := k + 1) (j := ks.length) (by rw [HK.out.2]; omega) (Nat.le_refl _)
      have e2 : sub ks (k + 1) ks.length = ks.drop (k + 1) := by unfold sub; rw [← List.length_drop, List.take_length]
      rw [e2, HK.out.2] at hcut2
      have hc2 := at_from (P := Tryz.prog) E (a := some ⟨b, q, none⟩) (n := nk) (c := c2) (k + 1) (by omega)
      have ek : ((k + 1 : Nat) : Int) = (k : Int) + 1 := by omega
      rw [ek] at hc2
      obtain ⟨z2, hz2⟩ : ∃ z, cutA (some ⟨b, q, none⟩) c2 (k + 1) 4 = z := ⟨_, rfl⟩
      rw [hz2] at hc2 hcut2
      have HC2 : Aside (ReadsK B2 (.slice z2 (nk - (k + 1)) (c2 - (k + 1))) (ks.drop (k + 1))) := hcut2
      have hw1 : IntKind.i64.wrap ((k : Int) + 1) = (k : Int) + 1 := IntWalk.i64_in _ (by omega)
      have hw3 : IntKind.i64.wrap (xh - 1) = xh - 1 := IntWalk.i64_in _ (by omega)
      have hQ := HQ0.out
      unfold partK at hQ
      rw [if_neg hz, HY.out] at hQ
      have HQ : Aside (M.bind (tParted tRead tWrite f ⟨⟨y1, y2, y3, y4⟩, xh - 1⟩ r) (fun p =>
       M.bind (tOver tWrite (ks.take k) xh) fun a => M.bind (tPut tRead tWrite a p.1) fun a =>
       M.bind (tOver tWrite (ks.drop (k + 1)) xh) fun b => M.bind (tPut tRead tWrite p.2 b) fun b => M.pure (a, b)) s2 = R) := hQ
      have cP := fun F w q => HI.out h s2 ⟨⟨y1, y2, y3, y4⟩, xh - 1⟩ r F w q (by simp only; omega) (by simp only; omega) (by omega) hj1 (bind_nb HQ.out HB.out)
      unfold tallV at cP
      simp only at cP
      clear hcut2 e2 hz2 hQ HMa ek HI
      go_upto_region 18 with (fail)
      go_cut [11, 12] (fun t11 t12 wx => ∃ (p1 p2 p3 p4 ph o1 o2 o3 o4 oh : Int) (s3 : TS) (M1 M2 : Nat), t11 = .pointer (some ⟨M1, 0, none⟩) ∧ t12 = .pointer (some ⟨M2, 0, none⟩) ∧ -1000 ≤ ph ∧ ph ≤ 1000 ∧ -1000 ≤ oh ∧ oh ≤ 1000 ∧
       Aside (M.bind (tOver tWrite (ks.take k) xh) (fun a => M.bind (tPut tRead tWrite a ⟨⟨p1, p2, p3, p4⟩, ph⟩) fun a =>
       M.bind (tOver tWrite (ks.drop (k + 1)) xh) fun b => M.bind (tPut tRead tWrite ⟨⟨o1, o2, o3, o4⟩, oh⟩ b) fun b => M.pure (a, b)) s3 = R) ∧
       Sat (treeP h s3 * (B2 * (Sl.block M1 TTl [.int .i64 p1, .int .i64 p2, .int .i64 p3, .int .i64 p4, .int .i64 ph] * (Sl.block M2 TTl [.int .i64 o1, .int .i64 o2, .int .i64 o3, .int .i64 o4, .int .i64 oh] * (Sl.block N8 TNd [.bool false, .slice a1 ne c1', .slice (some ⟨b, q, none⟩) nk c2] * (Sl.block (N + 1 + 1) TTl [.int .i64 0, .int .i64 0, .int .i64 0, .int .i64 0, .int .i64 0] * (Sl.block (N + 1) TTl [.int .i64 0, .int .i64 0, .int .i64 0, .int .i64 0, .int .i64 0] * (Sl.block N TTl [.int .i64 x1, .int .i64 x2, .int .i64 x3, .int .i64 x4, .int .i64 xh] * F)))))))) wx)
      case first =>
       go_region_held2 (fun w' => w'.cell? ⟨N8, 2, none⟩ = some (.slice (some ⟨b, q, none⟩) nk c2) ∧ w'.cell? ⟨N, 4, none⟩ = some (.int .i64 xh) ∧ w'.cell? ⟨b, q + k * 4, none⟩ = some (.int .i64 y1) ∧ w'.cell? ⟨b, q + k * 4 + 1, none⟩ = some (.int .i64 y2) ∧ w'.cell? ⟨b, q + k * 4 + 2, none⟩ = some (.int .i64 y3) ∧ w'.cell? ⟨b, q + k * 4 + 3, none⟩ = some (.int .i64 y4)) (first | exact ⟨cell_sat _ _ _, cell_sat _ _ _, cell_sat _ _ _, cell_sat _ _ _, cell_sat _ _ _, cell_sat _ _ _⟩) (first
        | (go_at_call 98
           with_reducible refine Calls.mono (cP _ _ (takeI (treeP h s2))) ?_
           rintro e w3 h3
           obtain ⟨r3, hm3⟩ : ∃ ρ, ρ = tParted tRead tWrite f ⟨⟨y1, y2, y3, y4⟩, xh - 1⟩ r s2 := ⟨_, rfl⟩
           rw [← hm3] at h3
           rcases r3 with ⟨tp, s3⟩ | ⟨er, s3⟩ | _
           rotate_left
           · obtain ⟨rfl, q3⟩ := h3
             haveI := q3.i
             have hRR := bind_up HQ.out hm3.symm
             subst hRR
             exact ⟨rfl, rfl, keep2 _ _⟩
           · exact absurd (bind_bad HQ.out hm3.symm) HB.out
           obtain ⟨v3, G3, rfl, ⟨rfl, rfl⟩, q3⟩ := h3
           rw [one_sep] at q3
           haveI := q3.i
           have hg3 := bind_go HQ.out hm3.symm
           obtain ⟨u1, u2⟩ := tParted_height (fun p s n s' h => tRead_may h) f ⟨⟨y1, y2, y3, y4⟩, xh - 1⟩ r s2 tp s3 hm3.symm (-1000) 500 (by omega) (by omega) (by simp only; omega) (by simp only; omega)
           obtain ⟨⟨⟨p1, p2, p3, p4⟩, ph⟩, ⟨⟨o1, o2, o3, o4⟩, oh⟩⟩ := tp
           simp only at u1 u2
           have HQ3 : Aside (M.bind (tOver tWrite (ks.take k) xh) (fun a => M.bind (tPut tRead tWrite a ⟨⟨p1, p2, p3, p4⟩, ph⟩) fun a => M.bind (tOver tWrite (ks.drop (k + 1)) xh) fun b => M.bind (tPut tRead tWrite ⟨⟨o1, o2, o3, o4⟩, oh⟩ b) fun b => M.pure (a, b)) s3 = R) := hg3
           clear hg3 hm3
           unfold tallV
           simp only))
       all_goals
        go_wp2
        go_meet
        exact ⟨p1, p2, p3, p4, ph, o1, o2, o3, o4, oh, s3, _, _, rfl, rfl, by omega, by omega, by omega, by omega, HQ3, keep9 _ _ _ _ _ _ _ _ _⟩
      case rest =>
       obtain ⟨p1, p2, p3, p4, ph, o1, o2, o3, o4, oh, s3, M1, M2, rfl, rfl, u1, u2, u3, u4, HQ3, q9⟩ := hcut
       haveI := q9.i
       have c3 := fun F w q => over_any h s3 (ks.take k) xh _ B2 F w HC1.out q (by rw [List.length_take, HK.out.2]; omega) (by omega) (by omega) (bind_nb HQ3.out HB.out)
       clear hsr cP HQ HQ0 HY r1 r2 r3 r4
       go_upto_region 19 with (fail)
       go_region_held2 (fun w' => w'.cell? ⟨N8, 2, none⟩ = some (.slice (some ⟨b, q, none⟩) nk c2) ∧ w'.cell? ⟨N, 4, none⟩ = some (.int .i64 xh) ∧ w'.cell? ⟨M1, 0, none⟩ = some (.int .i64 p1) ∧ w'.cell? ⟨M1, 1, none⟩ = some (.int .i64 p2) ∧ w'.cell? ⟨M1, 2, none⟩ = some (.int .i64 p3) ∧ w'.cell? ⟨M1, 3, none⟩ = some (.int .i64 p4) ∧ w'.cell? ⟨M1, 4, none⟩ = some (.int .i64 ph) ∧ w'.cell? ⟨M2, 0, none⟩ = some (.int .i64 o1) ∧ w'.cell? ⟨M2, 1, none⟩ = some (.int .i64 o2) ∧ w'.cell? ⟨M2, 2, none⟩ = some (.int .i64 o3) ∧ w'.cell? ⟨M2, 3, none⟩ = some (.int .i64 o4) ∧ w'.cell? ⟨M2, 4, none⟩ = some (.int .i64 oh)) (first | exact ⟨cell_sat _ _ _, cell_sat _ _ _, cell_sat _ _ _, cell_sat _ _ _, cell_sat _ _ _, cell_sat _ _ _, cell_sat _ _ _, cell_sat _ _ _, cell_sat _ _ _, cell_sat _ _ _, cell_sat _ _ _, cell_sat _ _ _⟩) (first
        | (go_at_call 144
           with_reducible refine Calls.mono (c3 _ _ (takeI2 (treeP h s3) B2)) ?_
           rintro e w4 h4
           obtain ⟨r4, hm4⟩ : ∃ ρ, ρ = tOver tWrite (ks.take k) xh s3 := ⟨_, rfl⟩
           rw [← hm4] at h4
           rcases r4 with ⟨ta, s4⟩ | ⟨er, s4⟩ | _
           rotate_left
           · obtain ⟨rfl, q4⟩ := h4
             haveI := q4.i
             have hRR := bind_up HQ3.out hm4.symm
             subst hRR
             exact ⟨rfl, rfl, keep2 _ _⟩
           · exact absurd (bind_bad HQ3.out hm4.symm) HB.out
           obtain ⟨v4, G4, rfl, ⟨rfl, rfl⟩, q4⟩ := h4
           rw [one_sep] at q4
           haveI := q4.i
           have hg4 := bind_go HQ3.out hm4.symm
           have ho4 := tOver_height hm4.symm
           rw [List.length_take, HK.out.2] at ho4
           have HQ4 : Aside (M.bind (tPut tRead tWrite ta ⟨⟨p1, p2, p3, p4⟩, ph⟩) (fun a => M.bind (tOver tWrite (ks.drop (k + 1)) xh) fun b => M.bind (tPut tRead tWrite ⟨⟨o1, o2, o3, o4⟩, oh⟩ b) fun b => M.pure (a, b)) s4 = R) := hg4
           have c4 := fun F w q => put_tany h s4 ta ⟨⟨p1, p2, p3, p4⟩, ph⟩ F w q (by omega) (by omega) u1 u2 (bind_nb HQ4.out HB.out)
           unfold tallV at c4
           simp only at c4
           clear hg4 hm4
           obtain ⟨⟨d1, d2, d3, d4⟩, dh⟩ := ta
           unfold tallV
           simp only)
        | (go_at_call 99
           with_reducible refine Calls.mono (c4 _ _ (takeI (treeP h s4))) ?_
           rintro e w5 h5
           obtain ⟨r5, hm5⟩ : ∃ ρ, ρ = tPut tRead tWrite ⟨⟨d1, d2, d3, d4⟩, dh⟩ ⟨⟨p1, p2, p3, p4⟩, ph⟩ s4 := ⟨_, rfl⟩
           rw [← hm5] at h5
           rcases r5 with ⟨tb, s5⟩ | ⟨er, s5⟩ | _
           rotate_left
           · obtain ⟨rfl, q5⟩ := h5
             haveI := q5.i
             have hRR := bind_up HQ4.out hm5.symm
             subst hRR
             exact ⟨rfl, rfl, keep2 _ _⟩
           · exact absurd (bind_bad HQ4.out hm5.symm) HB.out
           obtain ⟨v5, G5, rfl, ⟨rfl, rfl⟩, q5⟩ := h5
           rw [one_sep] at q5
           haveI := q5.i
           have hg5 := bind_go HQ4.out hm5.symm
           have HQ5 : Aside (M.bind (tOver tWrite (ks.drop (k + 1)) xh) (fun b => M.bind (tPut tRead tWrite ⟨⟨o1, o2, o3, o4⟩, oh⟩ b) fun b => M.pure (tb, b)) s5 = R) := hg5
           have c5 := fun F w q => over_any h s5 (ks.drop (k + 1)) xh _ B2 F w HC2.out q (by rw [List.length_drop, HK.out.2]; omega) (by omega) (by omega) (bind_nb HQ5.out HB.out)
           clear hg5 hm5
           obtain ⟨⟨g1, g2, g3, g4⟩, gh⟩ := tb
           unfold tallV
           simp only)
        | (go_at_call 144
           with_reducible refine Calls.mono (c5 _ _ (takeI2 (treeP h s5) B2)) ?_
           rintro e w6 h6
           obtain ⟨r6, hm6⟩ : ∃ ρ, ρ = tOver tWrite (ks.drop (k + 1)) xh s5 := ⟨_, rfl⟩
           rw [← hm6] at h6
           rcases r6 with ⟨tc, s6⟩ | ⟨er, s6⟩ | _
           rotate_left
           · obtain ⟨rfl, q6⟩ := h6
             haveI := q6.i
             have hRR := bind_up HQ5.out hm6.symm
             subst hRR
             exact ⟨rfl, rfl, keep2 _ _⟩
           · exact absurd (bind_bad HQ5.out hm6.symm) HB.out
           obtain ⟨v6, G6, rfl, ⟨rfl, rfl⟩, q6⟩ := h6
           rw [one_sep] at q6
           haveI := q6.i
           have hg6 := bind_go HQ5.out hm6.symm
           have ho6 := tOver_height hm6.symm
           rw [List.length_drop, HK.out.2] at ho6
           have HQ6 : Aside (M.bind (tPut tRead tWrite ⟨⟨o1, o2, o3, o4⟩, oh⟩ tc) (fun b => M.pure (⟨⟨g1, g2, g3, g4⟩, gh⟩, b)) s6 = R) := hg6
           have c6 := fun F w q => put_tany h s6 ⟨⟨o1, o2, o3, o4⟩, oh⟩ tc F w q u3 u4 (by omega) (by omega) (bind_nb HQ6.out HB.out)
           unfold tallV at c6
           simp only at c6
           clear hg6 hm6
           obtain ⟨⟨l1, l2, l3, l4⟩, lh⟩ := tc
           unfold tallV
           simp only)
        | (go_at_call 99
           with_reducible refine Calls.mono (c6 _ _ (takeI (treeP h s6))) ?_
           rintro e w7 h7
           obtain ⟨r7, hm7⟩ : ∃ ρ, ρ = tPut tRead tWrite ⟨⟨o1, o2, o3, o4⟩, oh⟩ ⟨⟨l1, l2, l3, l4⟩, lh⟩ s6 := ⟨_, rfl⟩
           rw [← hm7] at h7
           rcases r7 with ⟨td, s7⟩ | ⟨er, s7⟩ | _
           rotate_left
           · obtain ⟨rfl, q7⟩ := h7
             haveI := q7.i
             have hRR := bind_up HQ6.out hm7.symm
             subst hRR
             exact ⟨rfl, rfl, keep2 _ _⟩
           · exact absurd (bind_bad HQ6.out hm7.symm) HB.out
           obtain ⟨v7, G7, rfl, ⟨rfl, rfl⟩, q7⟩ := h7
           rw [one_sep] at q7
           haveI := q7.i
           have hg7 := bind_go HQ6.out hm7.symm
           have hR4 : R = .ok (⟨⟨g1, g2, g3, g4⟩, gh⟩, td) s7 := hg7.symm
           clear hg7 hm7
           obtain ⟨⟨m1, m2, m3, m4⟩, mh⟩ := td
           unfold tallV
           simp only))
       all_goals
        subst hR4
        go_wp2
        go_returns
        exact ⟨_, 1, rfl, ⟨rfl, rfl⟩, by rw [one_sep]; exact keep2 _ _⟩
set_option maxHeartbeats 800000 in
theorem parted_any (f : Nat) : PartedC f := by
 induction f with
 | zero =>
   intro h s x n F w hs h1 h2 h3 h4 hb
   by_cases c1 : n ≤ 0
   · exact parted_low 0 h s x n F w hs c1
   by_cases c2 : x.kid.bytes ≤ n
   · exact parted_high 0 h s x n F w hs c1 c2
   exact absurd (by unfold tParted; rw [if_neg c1, if_neg c2]; rfl) hb
 | succ f ih =>
   intro h s x n F w hs h1 h2 h3 h4 hb
   by_cases c1 : n ≤ 0
   · exact parted_low (f + 1) h s x n F w hs c1
   by_cases c2 : x.kid.bytes ≤ n
   · exact parted_high (f + 1) h s x n F w hs c1 c2
   by_cases hl : ∃ y s2, tRead x.kid.page s = .ok y s2 ∧ y.leaf = true
   · obtain ⟨y, s2, e1, e2⟩ := hl
     exact parted_leaf f h s x n F w hs c1 c2 h4 (fun y' s2' e => by rw [e1] at e; cases e; exact e2) hb
   · exact parted_in f ih h s x n F w hs c1 c2 h4 (by omega) h2 (by omega) (fun y' s2' e => by
      cases hy : y'.leaf with
      | false => rfl
      | true => exact absurd ⟨y', s2', e, hy⟩ hl) hb
end Go.Proofs.YtfhbmblbidcmmaaGreat
namespace Go.Proofs.YtfhbmblbidcmmaaGreat
set_option linter.unusedSimpArgs false
set_option linter.unusedVariables false
open Go.RowKit Go.Sl Go.Dk Go.Tr
attribute [local go_sem ↓] Go.wp_at_zero Go.wp_at_succ
attribute [local go_sem] Go.Sl.cell_sat Go.Sl.frozen_sat
theorem assert_fault (e : Int) (w : World) : Sem.run Tryz.prog (Instr.typeAssert (.iface TFa (.agg #[.int .i64 e])) 20 TFa true) w = .ok (.tuple #[.agg #[.int .i64 e], .bool true]) w := by
 kernel_rfl
set_option maxRecDepth 100000 in
set_option maxHeartbeats 800000 in
theorem given_any (e : Int) (F : Assn) (w : World) (hs : Sat F w) :
 Calls Tryz.prog 74 #[.iface TFa (.agg #[.int .i64 e])] w fun en w' => en = .returned (.int .i64 e) ∧ Sat F w' := by
 haveI := hs.i
 go_enter Tryz.func74, Tryz.ntmps74
 have ha := assert_fault e
 go_wp2
 go_returns
 exact ⟨rfl, Sat.weak (B := Sl.block w.heap.size TFa [.int .i64 e]) (satI_eq (by ac_rfl))⟩
end Go.Proofs.YtfhbmblbidcmmaaGreat
namespace Go.Proofs.YtfhbmblbidcmmaaGreat
set_option linter.unusedSimpArgs false
set_option linter.unusedVariables false
open Go.RowKit Go.Sl Go.Dk Go.Tr
attribute [local go_sem ↓] Go.wp_at_zero Go.wp_at_succ
attribute [local go_sem] Go.Sl.cell_sat Go.Sl.frozen_sat
abbrev TEr : TypeId := 37
abbrev TIt : TypeId := 3
theorem spBack_len (s : Sp) (m : Nat) : (spBack s m).1.length ≤ s.taken.length := by
 unfold spBack sortI
 simp only [List.length_mergeSort]
 have := backGo_len (s.taken.drop m) s.used []
 rw [List.length_drop, List.length_nil] at this
 omega
theorem forgets_keep (l : List Int) : ∀ s : Ck, (forgets l s).d = s.d ∧ (forgets l s).nm = s.nm ∧ (forgets l s).reads = s.reads := by
 induction l with
 | nil => exact fun s => ⟨rfl, rfl, rfl⟩
 | cons a l ih =>
   intro s
   obtain ⟨h1, h2, h3⟩ := ih (s.forget a).2
   have e : (s.forget a).2.d = s.d ∧ (s.forget a).2.nm = s.nm ∧ (s.forget a).2.reads = s.reads := by
    unfold Ck.forget
    split <;> exact ⟨rfl, rfl, rfl⟩
   show (forgets l (s.forget a).2).d = _ ∧ (forgets l (s.forget a).2).nm = _ ∧ (forgets l (s.forget a).2).reads = _
   exact ⟨h1.trans e.1, h2.trans e.2.1, h3.trans e.2.2⟩
def TS.undone (s : TS) (m : Nat) : TS := ⟨forgets (spBack s.sp m).1 s.ck, (spBack s.sp m).2, s.ops⟩
theorem TsI.undone {s : TS} (h : TsI s) (m : Nat) : TsI (s.undone m) := by
 obtain ⟨k, hk⟩ := h.ck
 obtain ⟨e1, e2, e3⟩ := forgets_keep (spBack s.sp m).1 s.ck
 refine ⟨⟨k, forgets_ok _ hk⟩, ?_, h.ops, h.res, ?_⟩
 · obtain ⟨n1, n2, n3, n4, n5⟩ := h.num
   show Num s.ops (forgets _ s.ck)
   exact ⟨by rw [e1]; exact n1, by rw [e1]; exact n2, by rw [e1, e2]; exact n3, by rw [e3]; exact n4, by rw [e1, e2]; exact n5⟩
 · show (s.sp.taken.take m).length ≤ s.ops
   have := h.taken
   rw [List.length_take]
   omega
set_option maxRecDepth 100000 in
set_option maxHeartbeats 800000 in
theorem undoD_ok (t : Value) (mark : Int) (E : Nat) (u : FrameMode) (F : Assn) (w : World) (hs : Sat (Sl.block E TEr [.int .i64 0] * F) w) :
 CallsD Tryz.prog 81 #[t, .int .i64 mark, .pointer (some ⟨E, 0, none⟩)] u w fun e u' w' => u' = u ∧ (e = .returned (.tuple #[]) ∧ Sat (Sl.block E TEr [.int .i64 0] * F) w') := by
 haveI := hs.i
 go_enter_d Tryz.func81, Tryz.ntmps81
 go_wp2
 go_returns
 exact ⟨rfl, hs⟩
set_option maxRecDepth 100000 in
set_option maxHeartbeats 1600000 in
theorem undoD_parts (h : Th) (ck : Ck) (sp : Sp) (m : Nat) (E : Nat) (e : Int) (u : FrameMode) (F : Assn) (w : World) (he : e ≠ 0) (hok : ∀ l, ∃ k, CkOk k (forgets l ck)) (hm : m ≤ sp.taken.length) (ht : sp.taken.length ≤ 1099511627776) (hlen : (spBack sp m).1.length ≤ 1099511627776)
 (hs : Sat (cacheP h.C h.D ck * (spaceP h.S sp * (Sl.block h.t TTr [.pointer (some ⟨h.C, 0, none⟩), .pointer (some ⟨h.S, 0, none⟩)] * (Sl.block E TEr [.int .i64 e] * F)))) w) :
 CallsD Tryz.prog 81 #[.pointer (some ⟨h.t, 0, none⟩), .int .i64 m, .pointer (some ⟨E, 0, none⟩)] u w fun en u' w' => u' = u ∧ (en = .returned (.tuple #[]) ∧
  Sat (cacheP h.C h.D (forgets (spBack sp m).1 ck) * (spaceP h.S (spBack sp m).2 * (Sl.block h.t TTr [.pointer (some ⟨h.C, 0, none⟩), .pointer (some ⟨h.S, 0, none⟩)] * (Sl.block E TEr [.int .i64 e] * F)))) w') := by
 have HK : Aside (∀ l, ∃ k, CkOk k (forgets l ck)) := hok
 have hbk := fun F w q => spBack_any h.S sp m F w q hm ht
 obtain ⟨l, hl⟩ : ∃ l, (spBack sp m).1 = l := ⟨_, rfl⟩
 obtain ⟨sp2, hsp⟩ : ∃ x, (spBack sp m).2 = x := ⟨_, rfl⟩
 rw [hl] at hlen
 rw [hl, hsp] at hbk ⊢
 clear hl hsp hok
 haveI := hs.i
 go_enter_d Tryz.func81, Tryz.ntmps81
 go_wp2_with fail
 with_reducible refine Calls.mono (hbk _ _ (takeI (spaceP h.S sp))) ?_
 rintro en w2 ⟨a, c, rfl, q2⟩
 haveI := q2.i
 clear hbk
 go_wp2_with fail
 obtain ⟨n, hn⟩ : ∃ n, l.length = n := ⟨_, rfl⟩
 have HN : Aside (l.length = n) := hn
 rw [hn] at hlen q2 ⊢
 clear hn this
 haveI := q2.i
 have q3 : Sat (cacheP h.C h.D ck * (spaceP h.S sp2 * (Sl.block h.t TTr [.pointer (some ⟨h.C, 0, none⟩), .pointer (some ⟨h.S, 0, none⟩)] * (Sl.block E TEr [.int .i64 e] * (rw TIn 1 (.slice a n c) (ints l) * F))))) w2 := satI_eq (by ac_rfl)
 clear q2 hs this
 go_loopg [25] n (fun g t25 wr => ∃ (i : Nat) (ck2 : Ck), t25 = .int .i64 i ∧ i ≤ n ∧ Aside (g = n - i ∧ ck2 = forgets (l.take i) ck) ∧ Sat (cacheP h.C h.D ck2 * (spaceP h.S sp2 * (Sl.block h.t TTr [.pointer (some ⟨h.C, 0, none⟩), .pointer (some ⟨h.S, 0, none⟩)] * (Sl.block E TEr [.int .i64 e] * (rw TIn 1 (.slice a n c) (ints l) * F))))) wr)
 case atStart => exact ⟨0, ck, rfl, by omega, ⟨rfl, rfl⟩, q3⟩
 case round =>
  obtain ⟨i, ck2, rfl, hi, A, hsr⟩ := hrel
  clear q3
  by_cases hlt : i < n
  · have hlt' : (i : Int) < n := by omega
    obtain ⟨no, hno⟩ : ∃ no, l[i]? = some no := ⟨_, List.getElem?_eq_getElem (by have := HN.out; omega)⟩
    have q4 : Sat (rw TIn 1 (.slice a n c) (ints l) * (cacheP h.C h.D ck2 * (spaceP h.S sp2 * (Sl.block h.t TTr [.pointer (some ⟨h.C, 0, none⟩), .pointer (some ⟨h.S, 0, none⟩)] * (Sl.block E TEr [.int .i64 e] * F))))) wr := hsr.eq (by ac_rfl)
    obtain ⟨g, rfl⟩ := row_some q4 (by omega)
    have hat : (ints l)[i]? = some (.int .i64 no) := by unfold ints; simp [hno]
    haveI : At (ints l) i (.int .i64 no) := ⟨hat⟩
    obtain ⟨k, hk⟩ := HK.out (l.take i)
    rw [← A.out.2] at hk
    have hfo := fun F w q => forget_any h.C h.D ck2 k no F w q hk
    have HS : Aside ((ck2.forget no).2 = forgets (l.take (i + 1)) ck) := (by rw [take_snoc' hno]; unfold forgets; rw [List.foldl_append, A.out.2]; rfl : _ = _)
    obtain ⟨ck3, h3⟩ : ∃ x, (ck2.forget no).2 = x := ⟨_, rfl⟩
    rw [h3] at hfo HS
    haveI := hsr.i
    clear hat hno h3 hk
    go_wp2_with fail
    with_reducible refine Calls.mono (hfo _ _ (takeI (cacheP h.C h.D ck2))) ?_
    rintro en w4 ⟨rfl, q5⟩
    haveI := q5.i
    go_wp2_with fail
    go_roundg (n - (i + 1))
    case measure => have := A.out.1; omega
    case rel => exact ⟨i + 1, ck3, by go_num, by omega, ⟨rfl, HS.out⟩, keep6 _ _ _ _ _ _⟩
  · have hlt' : ¬ (i : Int) < n := by omega
    obtain rfl : i = n := by omega
    have hck : ck2 = forgets l ck := by have := A.out.2; rwa [List.take_of_length_le (by rw [HN.out]; exact Nat.le_refl _)] at this
    haveI := hsr.i
    subst hck
    go_wp2
    go_returns
    exact ⟨rfl, keep5 _ _ _ _ _⟩
theorem undoD_er (h : Th) (s : TS) (m : Nat) (E : Nat) (e : Int) (u : FrameMode) (F : Assn) (w : World) (he : e ≠ 0) (hm : m ≤ s.sp.taken.length) (hs : Sat (treeP h s * (Sl.block E TEr [.int .i64 e] * F)) w) :
 CallsD Tryz.prog 81 #[.pointer (some ⟨h.t, 0, none⟩), .int .i64 m, .pointer (some ⟨E, 0, none⟩)] u w fun en u' w' => u' = u ∧ (en = .returned (.tuple #[]) ∧ Sat (treeP h (s.undone m) * (Sl.block E TEr [.int .i64 e] * F)) w') := by
 obtain ⟨hi, hp⟩ := tree_parts hs
 obtain ⟨k, hk⟩ := hi.ck
 have hl := spBack_len s.sp m
 have ho := hi.ops
 have htk := hi.taken
 unfold opsMax at ho
 refine (undoD_parts h s.ck s.sp m E e u F w he (fun l => ⟨k, forgets_ok l hk⟩) hm (by omega) (by omega) hp).mono ?_
 rintro en u' w' ⟨h1, h2, h3⟩
 exact ⟨h1, h2, tree_join (hi.undone m) h3⟩
set_option maxRecDepth 100000 in
set_option maxHeartbeats 1600000 in
theorem buildC_idle (N E : Nat) (w : World) :
 CallsD Tryz.prog 83 #[.pointer (some ⟨N, 0, none⟩), .pointer (some ⟨E, 0, none⟩)] .returning w fun e u' w' => e = .returned (.tuple #[]) ∧ u' = .returning ∧ w' = w := by
 refine callsD_of_wpS Tryz.func83 rfl fun c₀ cs hu => ?_
 apply wpS_seq
 apply wpS_region
 simp [wpOpsS, go_sem, recoverD, hu, Tryz.ntmps83, Exit.thenS]
 apply wpS_seq
 apply wpS_region
 simp [wpOpsS, go_sem, Exit.thenS]
 refine wpS_cond (t := false) (by simp [Act.eval, Array.replicate]) ?_
 simp only [Bool.false_eq_true, if_false]
 refine wpS_of_wp (wp_skip ?_)
 cases c₀
 simp_all [bodyPostS, results, Tryz.results83, Exit.thenS]
set_option maxRecDepth 100000 in
set_option maxHeartbeats 1600000 in
theorem buildC_caught (N E : Nat) (er : Int) (a b : Value) (F : Assn) (w : World) (hs : Sat (Sl.block N TIt [a] * (Sl.block E TEr [b] * F)) w) :
 CallsD Tryz.prog 83 #[.pointer (some ⟨N, 0, none⟩), .pointer (some ⟨E, 0, none⟩)] (.panicking (faultC er)) w fun e u' w' => e = .returned (.tuple #[]) ∧ u' = .panicking [{ v := .iface TFa (.agg #[.int .i64 er]), recovered := true }] ∧ Sat (Sl.block N TIt [.int .i64 0] * (Sl.block E TEr [.int .i64 er] * F)) w' := by
 haveI := hs.i
 refine callsD_of_wpS Tryz.func83 rfl fun c₀ cs hu => ?_
 unfold faultC at hu
 apply wpS_seq
 apply wpS_region
 simp [wpOpsS, go_sem, recoverD, hu, Tryz.ntmps83, Exit.thenS]
 apply wpS_seq
 apply wpS_region
 simp [wpOpsS, go_sem, Exit.thenS]
 refine wpS_cond (t := true) (by simp [Act.eval, Array.replicate]) ?_
 simp only [if_true]
 refine wpS_of_wp ?_
 go_wp2_with fail
 refine Calls.mono (given_any er _ _ hs) ?_
 rintro en w2 ⟨rfl, q2⟩
 haveI := q2.i
 go_wp2
 simp [bodyPostS, results, Tryz.results83]
 exact satI_eq (by first | rfl | ac_rfl)
set_option maxRecDepth 100000 in
set_option maxHeartbeats 1600000 in
theorem sizeC_idle (N E : Nat) (w : World) :
 CallsD Tryz.prog 138 #[.pointer (some ⟨N, 0, none⟩), .pointer (some ⟨E, 0, none⟩)] .returning w fun e u' w' => e = .returned (.tuple #[]) ∧ u' = .returning ∧ w' = w := by
 refine callsD_of_wpS Tryz.func138 rfl fun c₀ cs hu => ?_
 apply wpS_seq
 apply wpS_region
 simp [wpOpsS, go_sem, recoverD, hu, Tryz.ntmps138, Exit.thenS]
 apply wpS_seq
 apply wpS_region
 simp [wpOpsS, go_sem, Exit.thenS]
 refine wpS_cond (t := false) (by simp [Act.eval, Array.replicate]) ?_
 simp only [Bool.false_eq_true, if_false]
 refine wpS_of_wp (wp_skip ?_)
 cases c₀
 simp_all [bodyPostS, results, Tryz.results138, Exit.thenS]
set_option maxRecDepth 100000 in
set_option maxHeartbeats 1600000 in
theorem sizeC_caught (N E : Nat) (er : Int) (a b : Value) (F : Assn) (w : World) (hs : Sat (Sl.block N TIt [a] * (Sl.block E TEr [b] * F)) w) :
 CallsD Tryz.prog 138 #[.pointer (some ⟨N, 0, none⟩), .pointer (some ⟨E, 0, none⟩)] (.panicking (faultC er)) w fun e u' w' => e = .returned (.tuple #[]) ∧ u' = .panicking [{ v := .iface TFa (.agg #[.int .i64 er]), recovered := true }] ∧ Sat (Sl.block N TIt [.int .i64 0] * (Sl.block E TEr [.int .i64 er] * F)) w' := by
 haveI := hs.i
 refine callsD_of_wpS Tryz.func138 rfl fun c₀ cs hu => ?_
 unfold faultC at hu
 apply wpS_seq
 apply wpS_region
 simp [wpOpsS, go_sem, recoverD, hu, Tryz.ntmps138, Exit.thenS]
 apply wpS_seq
 apply wpS_region
 simp [wpOpsS, go_sem, Exit.thenS]
 refine wpS_cond (t := true) (by simp [Act.eval, Array.replicate]) ?_
 simp only [if_true]
 refine wpS_of_wp ?_
 go_wp2_with fail
 refine Calls.mono (given_any er _ _ hs) ?_
 rintro en w2 ⟨rfl, q2⟩
 haveI := q2.i
 go_wp2
 simp [bodyPostS, results, Tryz.results138]
 exact satI_eq (by first | rfl | ac_rfl)
set_option maxRecDepth 100000 in
set_option maxHeartbeats 1600000 in
theorem spliceC_idle (N E : Nat) (w : World) :
 CallsD Tryz.prog 93 #[.pointer (some ⟨N, 0, none⟩), .pointer (some ⟨E, 0, none⟩)] .returning w fun e u' w' => e = .returned (.tuple #[]) ∧ u' = .returning ∧ w' = w := by
 refine callsD_of_wpS Tryz.func93 rfl fun c₀ cs hu => ?_
 apply wpS_seq
 apply wpS_region
 simp [wpOpsS, go_sem, recoverD, hu, Tryz.ntmps93, Exit.thenS]
 apply wpS_seq
 apply wpS_region
 simp [wpOpsS, go_sem, Exit.thenS]
 refine wpS_cond (t := false) (by simp [Act.eval, Array.replicate]) ?_
 simp only [Bool.false_eq_true, if_false]
 refine wpS_of_wp (wp_skip ?_)
 cases c₀
 simp_all [bodyPostS, results, Tryz.results93, Exit.thenS]
end Go.Proofs.YtfhbmblbidcmmaaGreat
namespace Go.Proofs.YtfhbmblbidcmmaaGreat
set_option linter.unusedSimpArgs false
set_option linter.unusedVariables false
open Go.RowKit Go.Sl Go.Dk Go.Tr
attribute [local go_sem ↓] Go.wp_at_zero Go.wp_at_succ
attribute [local go_sem] Go.Sl.cell_sat Go.Sl.frozen_sat
def Back {α : Type} (h : Th) (F : Assn) (r : Res TS α) (good : α → Value) (bad : Int → Value) (e : Ending) (w' : World) : Prop := match r with
 | .ok a s => e = .returned (good a) ∧ Sat (treeP h s * F) w'
 | .fault n s => e = .returned (bad n) ∧ Sat (treeP h s * F) w'
 | .bad => False
def vi2 (a b : Int) : Value := .tuple #[.int .i64 a, .int .i64 b]
set_option maxRecDepth 100000 in
set_option maxHeartbeats 1600000 in
theorem size_tany (h : Th) (s : TS) (root : Int) (F : Assn) (w : World) (hs : Sat (treeP h s * F) w) (hb : tSize tRead root s ≠ .bad) :
 Calls Tryz.prog 86 #[.pointer (some ⟨h.t, 0, none⟩), .int .i64 root] w (Back h F (tSize tRead root s) (fun z => vi2 z 0) (fun er => vi2 0 er)) := by
 have hmf : ∀ (fn : Fn) (first cap : Array Value) (w : World), (Instr.makeFunc fn first cap).run Tryz.prog w = .ok (.func fn first cap) w := fun _ _ _ _ => rfl
 obtain ⟨R, hR⟩ : ∃ R, tSize tRead root s = R := ⟨_, rfl⟩
 rw [hR] at hb ⊢
 have HB : Aside (R ≠ .bad) := hb
 unfold tSize at hR
 haveI := hs.i
 clear hb
 by_cases h0 : root = 0
 · rw [if_pos h0] at hR
   have hRR : R = .ok 0 s := hR.symm
   subst hRR
   subst h0
   clear hR HB
   go_enter_defers Tryz.func86, Tryz.ntmps86
   go_wp2
   refine leaves_cons (f := 138) (args := #[.pointer (some ⟨w.heap.size, 0, none⟩), .pointer (some ⟨w.heap.size + 1, 0, none⟩)]) (by simp) (by simp [go_sem]) ?_
   refine (sizeC_idle _ _ _).mono ?_
   rintro e u' w'' ⟨rfl, rfl, rfl⟩
   simp [Leaves, settle, results, Tryz.results86, go_sem]
   exact ⟨rfl, keep2 _ _⟩
 · rw [if_neg h0] at hR
   have HR : Aside (M.bind (tRead root) (fun n => M.pure (ndSum n).1) s = R) := hR
   have c1 := fun F w q => tread_any h s root F w q (bind_nb HR.out HB.out)
   have h0' : ((root : Int) == 0) = false := by simpa using h0
   clear hR
   go_enter_defers Tryz.func86, Tryz.ntmps86
   go_wp2_with fail
   with_reducible refine Calls.mono (c1 _ _ (takeI (treeP h s))) ?_
   rintro e w1 hx0
   obtain ⟨r1, hm1⟩ : ∃ r, r = tRead root s := ⟨_, rfl⟩
   rw [← hm1] at hx0
   rcases r1 with ⟨y, s2⟩ | ⟨er, s2⟩ | _
   rotate_left
   · obtain ⟨rfl, q1⟩ := hx0
     haveI := q1.i
     have hRR := bind_up HR.out hm1.symm
     subst hRR
     show bodyPostD _ _ _ (.panic (faultC er)) _ w1
     refine leaves_cons (f := 138) (args := #[.pointer (some ⟨w.heap.size, 0, none⟩), .pointer (some ⟨w.heap.size + 1, 0, none⟩)]) (by simp) (by simp [go_sem]) ?_
     refine (sizeC_caught w.heap.size (w.heap.size + 1) er _ _ _ w1 (takeI2 (Sl.block w.heap.size TIt [.int .i64 0]) (Sl.block (w.heap.size + 1) TEr [.int .i64 0]))).mono ?_
     rintro e u' w2 ⟨rfl, rfl, q2⟩
     haveI := q2.i
     simp [Leaves, settle, results, Tryz.results86, go_sem]
     exact ⟨rfl, keep2 _ _⟩
   · exact absurd (bind_bad HR.out hm1.symm) HB.out
   obtain ⟨v1, B2, rfl, ⟨hx, hma⟩, q1⟩ := hx0
   obtain ⟨hl1, hl2⟩ := may_len hma
   have hRR : R = .ok (ndSum y).1 s2 := (bind_go HR.out hm1.symm).symm
   subst hRR
   have hsm := fun F w q => ndSum_any y v1 B2 F w hx q (by omega) (by omega)
   obtain ⟨se, sk, rfl, hE, hK⟩ := hx
   obtain ⟨a1, c1', rfl, hE1, hE2⟩ := hE.v
   obtain ⟨a2, c2, rfl, hK1, hK2⟩ := ReadsR.v hK
   have q2 : Sat (B2 * (treeP h s2 * (Sl.block (w.heap.size + 1) TEr [.int .i64 0] * (Sl.block w.heap.size TIt [.int .i64 0] * F)))) w1 := q1.eq (by ac_rfl)
   haveI := q2.i
   clear hE hK HR HB c1 hm1 q1
   go_wp2_with fail
   refine Calls.mono (hsm _ _ q2) ?_
   rintro e w3 ⟨rfl, q3⟩
   haveI := q3.i
   go_wp2
   refine leaves_cons (f := 138) (args := #[.pointer (some ⟨w.heap.size, 0, none⟩), .pointer (some ⟨w.heap.size + 1, 0, none⟩)]) (by simp) (by simp [go_sem]) ?_
   refine (sizeC_idle _ _ _).mono ?_
   rintro e u' w'' ⟨rfl, rfl, rfl⟩
   simp [Leaves, settle, results, Tryz.results86, go_sem]
   exact ⟨rfl, keep2 _ _⟩
end Go.Proofs.YtfhbmblbidcmmaaGreat
namespace Go.Tr
set_option linter.unusedSimpArgs false
set_option linter.unusedVariables false
section
variable {σ : Type} {α β : Type} {P : σ → σ → Prop}
structure Goes (P : σ → σ → Prop) : Prop where
 same : ∀ s, P s s
 next : ∀ a b c, P a b → P b c → P a c
def Keeps (P : σ → σ → Prop) (m : M σ α) : Prop := ∀ s, match m s with
 | .ok _ s' => P s s'
 | .fault _ s' => P s s'
 | .bad => True
theorem Keeps.pure (h : Goes P) (a : α) : Keeps P (M.pure a) := fun s => h.same s
theorem Keeps.fail (h : Goes P) (e : Int) : Keeps P (M.fail e : M σ α) := fun s => h.same s
theorem Keeps.bad : Keeps P (M.bad : M σ α) := fun s => trivial
theorem Keeps.bind (h : Goes P) {m : M σ α} {f : α → M σ β} (hm : Keeps P m) (hf : ∀ a, Keeps P (f a)) : Keeps P (M.bind m f) := fun s => by
 have h1 := hm s
 unfold M.bind
 cases hr : m s with
 | bad => trivial
 | fault e s1 => rw [hr] at h1; exact h1
 | ok a s1 =>
   rw [hr] at h1
   have h2 := hf a s1
   simp only [Res.bind] at h1 ⊢
   cases hr2 : f a s1 with
   | bad => trivial
   | fault e s2 => rw [hr2] at h2; exact h.next _ _ _ h1 h2
   | ok b s2 => rw [hr2] at h2; exact h.next _ _ _ h1 h2
theorem Keeps.ite {c : Prop} [Decidable c] {m k : M σ α} (h1 : Keeps P m) (h2 : Keeps P k) : Keeps P (if c then m else k) := by
 split
 · exact h1
 · exact h2
theorem Keeps.ok {m : M σ α} {s s' : σ} {a : α} (h : Keeps P m) (e : m s = .ok a s') : P s s' := by
 have := h s
 rw [e] at this
 exact this
theorem Keeps.fault {m : M σ α} {s s' : σ} {n : Int} (h : Keeps P m) (e : m s = .fault n s') : P s s' := by
 have := h s
 rw [e] at this
 exact this
variable (h : Goes P) {rd : Int → M σ Nd} {wt : Nd → M σ Kd} (hr : ∀ p, Keeps P (rd p)) (hw : ∀ n, Keeps P (wt n))
include h
include hw in
theorem spreadFrom_keeps (n : Nd) (pages : Nat) : ∀ (c i a : Nat) (out : List Kd), Keeps P (spreadFrom wt n pages c i a out)
 | 0, _, _, _ => Keeps.pure h _
 | c + 1, i, a, out => Keeps.bind h (hw _) fun k => spreadFrom_keeps n pages c _ _ _
include hw in
theorem tSpread_keeps (n : Nd) : Keeps P (tSpread wt n) := spreadFrom_keeps h hw n _ _ _ _ _
include hw in
theorem tGrown_keeps : ∀ (f : Nat) (ks : List Kd) (x : Int), Keeps P (tGrown wt f ks x)
 | 0, [], x => Keeps.pure h _
 | f + 1, [], x => Keeps.pure h _
 | 0, [k], x => Keeps.pure h _
 | f + 1, [k], x => Keeps.pure h _
 | 0, a :: b :: l, x => Keeps.bad
 | f + 1, a :: b :: l, x => Keeps.bind h (tSpread_keeps h hw _) fun ks => tGrown_keeps f ks _
include hw in
theorem grown_keeps (ks : List Kd) (x : Int) : Keeps P (grown wt ks x) := tGrown_keeps h hw _ _ _
include hw in
theorem tLeaves_keeps (l : List Ent) : Keeps P (tLeaves wt l) := Keeps.bind h (tSpread_keeps h hw _) fun ks => grown_keeps h hw _ _
include hw in
theorem tOver_keeps (ks : List Kd) (x : Int) : Keeps P (tOver wt ks x) := grown_keeps h hw _ _
include hr hw in
theorem tMeet_keeps : ∀ (f : Nat) (a b : Tall), Keeps P (tMeet rd wt f a b)
 | 0, a, b => Keeps.bad
 | f + 1, a, b => by
   unfold tMeet
   refine Keeps.ite ?_ (Keeps.ite ?_ ?_)
   · refine Keeps.bind h (hr _) fun x => ?_
     split
     · exact Keeps.bad
     · exact Keeps.ite Keeps.bad (Keeps.bind h (tMeet_keeps f _ _) fun r => Keeps.bind h (tSpread_keeps h hw _) fun o => Keeps.pure h _)
   · refine Keeps.bind h (hr _) fun x => ?_
     split
     · exact Keeps.bad
     · exact Keeps.ite Keeps.bad (Keeps.bind h (tMeet_keeps f _ _) fun r => Keeps.bind h (tSpread_keeps h hw _) fun o => Keeps.pure h _)
   · exact Keeps.bind h (hr _) fun x => Keeps.bind h (hr _) fun y => Keeps.ite (Keeps.bind h (tSpread_keeps h hw _) fun o => Keeps.pure h _) Keeps.bad
include hr hw in
theorem tPut_keeps (a b : Tall) : Keeps P (tPut rd wt a b) := Keeps.ite (Keeps.pure h _) (Keeps.ite (Keeps.pure h _) (Keeps.bind h (tMeet_keeps h hr hw _ _ _) fun r => grown_keeps h hw _ _))
include hr hw in
theorem tParted_keeps : ∀ (f : Nat) (x : Tall) (n : Int), Keeps P (tParted rd wt f x n)
 | 0, x, n => by
   unfold tParted
   exact Keeps.ite (Keeps.pure h _) (Keeps.ite (Keeps.pure h _) Keeps.bad)
 | f + 1, x, n => by
   unfold tParted
   refine Keeps.ite (Keeps.pure h _) (Keeps.ite (Keeps.pure h _) (Keeps.bind h (hr _) fun y => Keeps.ite ?_ ?_))
   · split
     · exact Keeps.bad
     · exact Keeps.bind h (tLeaves_keeps h hw _) fun a => Keeps.bind h (tLeaves_keeps h hw _) fun b => Keeps.pure h _
   · split
     · exact Keeps.bad
     · refine Keeps.ite (Keeps.bind h (tOver_keeps h hw _ _) fun a => Keeps.bind h (tOver_keeps h hw _ _) fun b => Keeps.pure h _) ?_
       split
       · exact Keeps.bad
       · exact Keeps.bind h (tParted_keeps f _ _) fun p => Keeps.bind h (tOver_keeps h hw _ _) fun a => Keeps.bind h (tPut_keeps h hr hw _ _) fun a => Keeps.bind h (tOver_keeps h hw _ _) fun b => Keeps.bind h (tPut_keeps h hr hw _ _) fun b => Keeps.pure h _
include hr in
theorem rootedTo_keeps : ∀ (f : Nat) (n : Nd) (x : Int), Keeps P (rootedTo rd f n x)
 | 0, n, x => by
   unfold rootedTo
   exact Keeps.ite (Keeps.pure h _) (Keeps.fail h _)
 | f + 1, n, x => by
   unfold rootedTo
   refine Keeps.ite (Keeps.pure h _) ?_
   simp only
   split
   · exact Keeps.bad
   · exact Keeps.bind h (hr _) fun m => rootedTo_keeps f m _
include hr in
theorem tRooted_keeps (r : Int) : Keeps P (tRooted rd r) := Keeps.ite (Keeps.pure h _) (Keeps.bind h (hr _) fun n => Keeps.bind h (rootedTo_keeps h hr _ _ _) fun x => Keeps.pure h _)
include hr in
theorem seekTo_keeps : ∀ (f : Nat) (n : Nd) (x a : Int), Keeps P (seekTo rd f n x a)
 | 0, n, x, a => Keeps.fail h _
 | f + 1, n, x, a => by
   unfold seekTo
   split
   · exact Keeps.pure h _
   · exact Keeps.fail h _
   · exact Keeps.bind h (hr _) fun m => seekTo_keeps f m _ _
include hr in
theorem tSeek_keeps (r x : Int) : Keeps P (tSeek rd r x) := Keeps.bind h (hr _) fun n => seekTo_keeps h hr _ _ _ _
include hr in
theorem tRank_keeps : ∀ (f : Nat) (x : Tall) (n : Int), Keeps P (tRank rd f x n)
 | 0, x, n => by
   unfold tRank
   exact Keeps.ite (Keeps.pure h _) (Keeps.ite (Keeps.pure h _) Keeps.bad)
 | f + 1, x, n => by
   unfold tRank
   refine Keeps.ite (Keeps.pure h _) (Keeps.ite (Keeps.pure h _) (Keeps.bind h (hr _) fun y => ?_))
   split
   · exact Keeps.pure h _
   · exact Keeps.bind h (tRank_keeps f _ _) fun z => Keeps.pure h _
include hr in
theorem tSize_keeps (r : Int) : Keeps P (tSize rd r) := Keeps.ite (Keeps.pure h _) (Keeps.bind h (hr _) fun n => Keeps.pure h _)
include hw in
theorem tBuild_keeps (l : List Ent) : Keeps P (tBuild wt l) := Keeps.bind h (tLeaves_keeps h hw _) fun t => Keeps.pure h _
include hr in
theorem leftOf_keeps (r x : Int) : Keeps P (leftOf rd r x) := Keeps.ite (Keeps.bind h (tSeek_keeps h hr _ _) fun p => Keeps.pure h _) (Keeps.pure h _)
include hr in
theorem rightOf_keeps (r x a : Int) : Keeps P (rightOf rd r x a) := Keeps.ite (Keeps.bind h (tSeek_keeps h hr _ _) fun p => Keeps.pure h _) (Keeps.pure h _)
include hr hw in
theorem tSplice_keeps (r a n x : Int) (put : List Ent) : Keeps P (tSplice rd wt r a n x put) :=
 Keeps.bind h (leftOf_keeps h hr _ _) fun L => Keeps.bind h (rightOf_keeps h hr _ _ _) fun R => Keeps.bind h (tRooted_keeps h hr _) fun w => Keeps.bind h (tRank_keeps h hr _ _ _) fun r1 => Keeps.bind h (tRank_keeps h hr _ _ _) fun r0 =>
 Keeps.ite (Keeps.fail h _) (Keeps.bind h (tParted_keeps h hr hw _ _ _) fun p => Keeps.bind h (tParted_keeps h hr hw _ _ _) fun q => Keeps.bind h (tLeaves_keeps h hw _) fun m => Keeps.bind h (tPut_keeps h hr hw _ _) fun x => Keeps.bind h (tPut_keeps h hr hw _ _) fun y => Keeps.pure h _)
end
end Go.Tr
namespace Go.Proofs.YtfhbmblbidcmmaaGreat
set_option linter.unusedSimpArgs false
set_option linter.unusedVariables false
open Go.RowKit Go.Sl Go.Dk Go.Tr
def Grow (s s' : TS) : Prop := (∃ l, s'.sp.taken = s.sp.taken ++ l ∧ s'.sp.used = s.sp.used ++ l) ∧ s'.sp.reserved = s.sp.reserved ∧ s'.sp.waiting = s.sp.waiting ∧ s.ops ≤ s'.ops
theorem grow_goes : Goes Grow where
 same s := ⟨⟨[], by simp, by simp⟩, rfl, rfl, Nat.le_refl _⟩
 next := by
  rintro a b c ⟨⟨l, h1, h2⟩, h3, h4, h5⟩ ⟨⟨m, k1, k2⟩, k3, k4, k5⟩
  exact ⟨⟨l ++ m, by rw [k1, h1, List.append_assoc], by rw [k2, h2, List.append_assoc]⟩, k3.trans h3, k4.trans h4, by omega⟩
theorem Grow.len {s s' : TS} (h : Grow s s') : s.sp.taken.length ≤ s'.sp.taken.length := by
 obtain ⟨⟨l, h1, _⟩, _⟩ := h
 rw [h1, List.length_append]
 omega
theorem mFail_keeps (e : Int) : Keeps Grow (mFail e) := by
 unfold mFail
 split
 · exact Keeps.pure grow_goes _
 · exact Keeps.fail grow_goes _
theorem mGet_keeps (no : Int) : Keeps Grow (mGet no) := fun s => by
 unfold mGet
 by_cases h : s.ops < opsMax
 · rw [if_pos h]; exact ⟨⟨[], by simp, by simp⟩, rfl, rfl, by simp only; omega⟩
 · rw [if_neg h]; trivial
theorem mPut_keeps (no : Int) (b : List UInt8) : Keeps Grow (mPut no b) := fun s => ⟨⟨[], by simp, by simp⟩, rfl, rfl, by simp only; omega⟩
theorem mTake_keeps : Keeps Grow mTake := fun s => by
 unfold mTake
 by_cases h : s.ops < opsMax
 · rw [if_pos h]
   unfold Sp.take
   cases s.sp.free with
   | none => exact ⟨⟨[], by simp, by simp⟩, rfl, rfl, by simp only; omega⟩
   | some no => exact ⟨⟨[no], rfl, rfl⟩, rfl, rfl, by simp only; omega⟩
 · rw [if_neg h]; trivial
theorem tRead_keeps (p : Int) : Keeps Grow (tRead p) := by
 refine Keeps.bind grow_goes (mGet_keeps p) fun r => Keeps.bind grow_goes (mFail_keeps _) fun _ => ?_
 cases openNd p r.2 with
 | none => exact Keeps.fail grow_goes _
 | some n => exact Keeps.pure grow_goes _
theorem tWrite_keeps (n : Nd) : Keeps Grow (tWrite n) := by
 refine Keeps.ite (Keeps.fail grow_goes _) ?_
 exact Keeps.bind grow_goes mTake_keeps fun t => Keeps.bind grow_goes (mFail_keeps _) fun _ => Keeps.bind grow_goes (mFail_keeps _) fun _ => Keeps.bind grow_goes (mPut_keeps _ _) fun e => Keeps.bind grow_goes (mFail_keeps _) fun _ => Keeps.pure grow_goes _
def after (m : Nat) {α : Type} : Res TS α → Res TS α
 | .fault e s => .fault e (if e = 0 then s else s.undone m)
 | r => r
def mBuild (l : List Ent) : M TS Int := fun s => if mayList l = false then .fault 1 s else if 1024 < (join l).length then .fault 11 s else after s.sp.taken.length (tBuild tWrite (join l) s)
end Go.Proofs.YtfhbmblbidcmmaaGreat
namespace Go.Proofs.YtfhbmblbidcmmaaGreat
set_option linter.unusedSimpArgs false
set_option linter.unusedVariables false
open Go.RowKit Go.Sl Go.Dk Go.Tr
attribute [local go_sem ↓] Go.wp_at_zero Go.wp_at_succ
attribute [local go_sem] Go.Sl.cell_sat Go.Sl.frozen_sat
theorem field_kid (a b c d e : Int) (w : World) : Sem.run Tryz.prog (Instr.field TTl (.agg #[.int .i64 a, .int .i64 b, .int .i64 c, .int .i64 d, .int .i64 e]) 0) w = .ok (.agg #[.int .i64 a, .int .i64 b, .int .i64 c, .int .i64 d]) w := by kernel_rfl
theorem field_page (a b c d : Int) (w : World) : Sem.run Tryz.prog (Instr.field TKd (.agg #[.int .i64 a, .int .i64 b, .int .i64 c, .int .i64 d]) 0) w = .ok (.int .i64 a) w := by kernel_rfl
theorem foldJ_len : ∀ (l o : List Ent), (l.foldl joinTo o).length ≤ o.length + l.length
 | [], o => by simp
 | x :: l, o => by
   have h1 := foldJ_len l (joinTo o x)
   have h2 := joinTo_len o x
   simp only [List.foldl_cons, List.length_cons]
   omega
theorem join_short (l : List Ent) : (join l).length ≤ l.length := by
 have := foldJ_len l []
 unfold join
 rw [List.length_nil, Nat.zero_add] at this
 exact this
instance treeP_c {h : Th} {s : TS} : HasC (treeP h s) h.t 0 (.pointer (some ⟨h.C, 0, none⟩)) := ⟨by
 unfold treeP treeA
 exact HasC.out⟩
instance treeP_s {h : Th} {s : TS} : HasC (treeP h s) h.t 1 (.pointer (some ⟨h.S, 0, none⟩)) := ⟨by
 unfold treeP treeA
 exact HasC.out⟩
theorem mark_tany (h : Th) (s : TS) (F : Assn) (w : World) (hs : Sat (treeP h s * F) w) :
 Calls Tryz.prog 82 #[.pointer (some ⟨h.S, 0, none⟩)] w fun e w' => e = .returned (.int .i64 s.sp.taken.length) ∧ Sat (treeP h s * F) w' := by
 obtain ⟨hi, hp⟩ := tree_parts hs
 refine (spMark_any h.S s.sp _ w (hp.eq (by ac_rfl) : Sat (spaceP h.S s.sp * (cacheP h.C h.D s.ck * (Sl.block h.t TTr [.pointer (some ⟨h.C, 0, none⟩), .pointer (some ⟨h.S, 0, none⟩)] * F))) w)).mono ?_
 rintro e w' ⟨h1, h2⟩
 exact ⟨h1, tree_join hi (h2.eq (by ac_rfl))⟩
abbrev TEs : TypeId := 29
theorem readsLL_one {B : Assn} {v : Value} {l : List Ent} (b : Nat) (hE : ReadsE B v l) : ReadsLL (Sl.block b TEs [v] * B) (.slice (some ⟨b, 0, none⟩) 1 1) [l] := by
 refine ⟨[v], ⟨rfl, _, _, rfl, Nat.le_refl _, by omega, fun j u hj => ⟨b, 0, rfl, ?_⟩⟩, rfl, fun i x l' hx hl => ?_⟩
 · haveI : At [v] j u := ⟨hj⟩
   rw [Nat.zero_add]
   exact inferInstance
 · cases i with
   | zero => simp at hx hl; subst hx; subst hl; exact ReadsR.right hE
   | succ i => simp at hx
set_option maxRecDepth 100000 in
set_option maxHeartbeats 3200000 in
theorem build_no (h : Th) (s : TS) (l : List Ent) (v : Value) (B F : Assn) (w : World) (hE : ReadsE B v l) (hs : Sat (treeP h s * (B * F)) w) (hl : l.length ≤ 65536) (hm : mayList l = false) :
 Calls Tryz.prog 23 #[.pointer (some ⟨h.t, 0, none⟩), v] w (Back h (B * F) (mBuild l s) (fun z => vi2 z 0) (fun er => vi2 0 er)) := by
 obtain ⟨a0, c0, rfl, hE1, hE2⟩ := hE.v
 have hR : mBuild l s = .fault 1 s := by unfold mBuild; rw [if_pos hm]
 rw [hR]
 have hmy := fun F w q => tmay_any l _ B F w hE q (by omega)
 rw [hm] at hmy
 have h2 : Sat (B * (treeP h s * F)) w := hs.eq (by ac_rfl)
 haveI := h2.i
 clear hR hE hs h2
 go_enter_defers Tryz.func23, Tryz.ntmps23
 go_wp2_with fail
 with_reducible refine Calls.mono (hmy _ _ (takeI B)) ?_
 rintro e w2 ⟨rfl, q2⟩
 haveI := q2.i
 go_wp2
 simp [bodyPostD, Leaves, settle, results, Tryz.results23, go_sem]
 exact ⟨rfl, keep3 _ _ _⟩
set_option maxRecDepth 100000 in
set_option maxHeartbeats 3200000 in
theorem build_go (h : Th) (s : TS) (l : List Ent) (v : Value) (B F : Assn) (w : World) (hE : ReadsE B v l) (hs : Sat (treeP h s * (B * F)) w) (hl : l.length ≤ 65536) (hm : mayList l = true) (hb : mBuild l s ≠ .bad) :
 Calls Tryz.prog 23 #[.pointer (some ⟨h.t, 0, none⟩), v] w (Back h (B * F) (mBuild l s) (fun z => vi2 z 0) (fun er => vi2 0 er)) := by
 have hmf : ∀ (fn : Fn) (first cap : Array Value) (w : World), (Instr.makeFunc fn first cap).run Tryz.prog w = .ok (.func fn first cap) w := fun _ _ _ _ => rfl
 obtain ⟨a0, c0, rfl, hE1, hE2⟩ := hE.v
 obtain ⟨R, hR⟩ : ∃ R, mBuild l s = R := ⟨_, rfl⟩
 rw [hR] at hb ⊢
 have HB : Aside (R ≠ .bad) := hb
 unfold mBuild at hR
 rw [if_neg (by rw [hm]; simp)] at hR
 have hmy := fun F w q => tmay_any l _ B F w hE q (by omega)
 rw [hm] at hmy
 have HM : Aside ((∀ x ∈ l, mayEnt x = true) ∧ eBytes l ≤ 1048576) := by
  rw [mayList_eq] at hm
  simp only [Bool.and_eq_true, List.all_eq_true, decide_eq_true_eq] at hm
  exact hm
 have hjo := fun b F w q => join_any [l] (.slice (some ⟨b, 0, none⟩) 1 1) (Sl.block b TEs [.slice a0 l.length c0] * B) F w (readsLL_one b hE) q (by simp) (by simp; omega) (by simpa using HM.out.1) (by have := HM.out.2; simp; omega)
 have ef : ([l] : List (List Ent)).flatten = l := by simp
 rw [ef] at hjo
 have hjl := join_short l
 obtain ⟨js, hjs⟩ : ∃ js, join l = js := ⟨_, rfl⟩
 rw [hjs] at hjo hR hjl
 obtain ⟨nj, hnj⟩ : ∃ nj, js.length = nj := ⟨_, rfl⟩
 rw [hnj] at hjl hR
 have HNJ : Aside (js.length = nj) := hnj
 have HR : Aside ((if 1024 < nj then Res.fault 11 s else after s.sp.taken.length (tBuild tWrite js s)) = R) := hR
 have hmk := mark_tany h s
 have h2 : Sat (B * (treeP h s * F)) w := hs.eq (by ac_rfl)
 haveI := h2.i
 clear hE hs h2 hR hb hm hjs ef
 go_enter_defers Tryz.func23, Tryz.ntmps23
 go_wp2_with fail
 with_reducible refine Calls.mono (hmy _ _ (takeI B)) ?_
 rintro e w2 ⟨rfl, q2⟩
 haveI := q2.i
 go_wp2_with fail
 obtain ⟨N, hN⟩ : ∃ N, w.heap.size = N := ⟨_, rfl⟩
 obtain ⟨N2, hN2⟩ : ∃ N, w2.heap.size = N := ⟨_, rfl⟩
 have q3 : Sat ((Sl.block N2 TEs [.slice a0 l.length c0] * B) * (Sl.block (N + 1) TEr [.int .i64 0] * (Sl.block N TIt [.int .i64 0] * (treeP h s * F)))) (w2.alloc (.cells #[.slice a0 l.length c0] TEs)) := by
  rw [← hN, ← hN2]
  exact satI_eq (by ac_rfl)
 rw [hN2, hN]
 clear hN2 hN q2 this hmy
 with_reducible refine Calls.mono (hjo _ _ _ q3) ?_
 rintro e w3 ⟨aj, cj, rfl, q4⟩
 rw [HNJ.out] at q4 ⊢
 have q5 : Sat (treeP h s * (rw TEn 4 (.slice aj nj cj) (ecs js) * (Sl.block (N + 1) TEr [.int .i64 0] * (Sl.block N TIt [.int .i64 0] * (B * F))))) w3 := Sat.weak (B := Sl.block N2 TEs [.slice a0 l.length c0]) (q4.eq (by ac_rfl))
 haveI := q5.i
 clear hjo q3 q4
 by_cases hlt : 1024 < nj
 · have hRR : R = .fault 11 s := by have := HR.out; rw [if_pos hlt] at this; exact this.symm
   subst hRR
   have hlt' : (1024 : Int) < nj := by omega
   go_wp2
   simp [bodyPostD, Leaves, settle, results, Tryz.results23, go_sem]
   exact ⟨rfl, keep3 _ _ _⟩
 · have hlt' : ¬ (1024 : Int) < nj := by omega
   have hR2 : after s.sp.taken.length (tBuild tWrite js s) = R := by have := HR.out; rwa [if_neg hlt] at this
   have hE : ReadsE (rw TEn 4 (.slice aj nj cj) (ecs js)) (.slice aj nj cj) js := by
    have := ReadsR.rw (F := Sl.block (N + 1) TEr [.int .i64 0] * (Sl.block N TIt [.int .i64 0] * (B * F * treeP h s))) (q5.eq (by ac_rfl)) ⟨aj, cj, rfl⟩ (n := nj)
    rw [← HNJ.out] at this ⊢
    exact this
   obtain ⟨x, hx⟩ : ∃ x, tLeaves tWrite js s = x := ⟨_, rfl⟩
   have hnb : x ≠ .bad := fun e => HB.out (by
    rw [← hR2]
    unfold tBuild M.bind
    rw [hx, e]
    rfl)
   have hlv := fun F w q => leaves_any h s js _ (rw TEn 4 (.slice aj nj cj) (ecs js)) F w hE q (by rw [HNJ.out]; omega) (by rw [hx]; exact hnb)
   rw [hx] at hlv
   have hgr : ∀ er s3, x = .fault er s3 → s.sp.taken.length ≤ s3.sp.taken.length := fun er s3 e => (Keeps.fault (tLeaves_keeps grow_goes tWrite_keeps js) (hx.trans e)).len
   have HX : Aside (after s.sp.taken.length (M.bind (fun _ => x) (fun t => M.pure t.kid.page) s) = R) := (by rw [← hR2]; unfold tBuild M.bind; rw [hx] : _ = _)
   clear hE hR2 hx HR
   go_wp2_with fail
   with_reducible refine Calls.mono (hmk _ _ (takeI (treeP h s))) ?_
   rintro e w4 ⟨rfl, q6⟩
   haveI := q6.i
   clear q5
   go_wp2_with fail
   with_reducible refine Calls.mono (hlv _ _ (takeI2 (treeP h s) (rw TEn 4 (.slice aj nj cj) (ecs js)))) ?_
   rintro e w5 h5
   cases x with
   | bad => exact absurd rfl hnb
   | fault er s3 =>
     obtain ⟨rfl, q7⟩ := h5
     have hg := hgr er s3 rfl
     have hRR : R = .fault er (if er = 0 then s3 else s3.undone s.sp.taken.length) := HX.out.symm
     subst hRR
     show bodyPostD _ _ _ (.panic (faultC er)) _ w5
     haveI := q7.i
     refine leaves_cons (f := 83) (args := #[.pointer (some ⟨N, 0, none⟩), .pointer (some ⟨N + 1, 0, none⟩)]) (by simp) (by simp [go_sem]) ?_
     refine (buildC_caught N (N + 1) er _ _ _ w5 (takeI2 (Sl.block N TIt [.int .i64 0]) (Sl.block (N + 1) TEr [.int .i64 0]))).mono ?_
     rintro e u' w6 ⟨rfl, rfl, q8⟩
     haveI := q8.i
     show Leaves _ _ _ _ _ .returning w6
     refine leaves_cons (f := 81) (args := #[.pointer (some ⟨h.t, 0, none⟩), .int .i64 s.sp.taken.length, .pointer (some ⟨N + 1, 0, none⟩)]) (by simp) (by simp [go_sem]) ?_
     by_cases he : er = 0
     · subst he
       rw [if_pos rfl]
       refine (undoD_ok _ _ (N + 1) _ _ w6 (takeI (Sl.block (N + 1) TEr [.int .i64 0]))).mono ?_
       rintro e u' w7 ⟨rfl, rfl, q9⟩
       haveI := q9.i
       simp [Leaves, settle, results, Tryz.results23, go_sem]
       exact ⟨rfl, keep3 _ _ _⟩
     · rw [if_neg he]
       refine (undoD_er h s3 s.sp.taken.length (N + 1) er _ _ w6 he hg (takeI2 (treeP h s3) (Sl.block (N + 1) TEr [.int .i64 er]))).mono ?_
       rintro e u' w7 ⟨rfl, rfl, q9⟩
       haveI := q9.i
       simp [Leaves, settle, results, Tryz.results23, go_sem]
       exact ⟨rfl, keep3 _ _ _⟩
   | ok t s3 =>
     obtain ⟨v3, G3, rfl, ⟨rfl, rfl⟩, q7⟩ := h5
     rw [one_sep] at q7
     have hRR : R = .ok t.kid.page s3 := HX.out.symm
     subst hRR
     obtain ⟨⟨t1, t2, t3, t4⟩, th⟩ := t
     unfold tallV
     haveI := q7.i
     have hfk := field_kid t1 t2 t3 t4 th
     have hfp := field_page t1 t2 t3 t4
     go_wp2
     refine leaves_cons (f := 83) (args := #[.pointer (some ⟨N, 0, none⟩), .pointer (some ⟨N + 1, 0, none⟩)]) (by simp) (by simp [go_sem]) ?_
     refine (buildC_idle _ _ _).mono ?_
     rintro e u' w6 ⟨rfl, rfl, rfl⟩
     show Leaves _ _ _ _ _ .returning _
     refine leaves_cons (f := 81) (args := #[.pointer (some ⟨h.t, 0, none⟩), .int .i64 s.sp.taken.length, .pointer (some ⟨N + 1, 0, none⟩)]) (by simp) (by simp [go_sem]) ?_
     refine (undoD_ok _ _ (N + 1) _ _ _ (takeI (Sl.block (N + 1) TEr [.int .i64 0]))).mono ?_
     rintro e u' w7 ⟨rfl, rfl, q9⟩
     haveI := q9.i
     simp [Leaves, settle, results, Tryz.results23, go_sem]
     exact ⟨rfl, keep3 _ _ _⟩
theorem build_any (h : Th) (s : TS) (l : List Ent) (v : Value) (B F : Assn) (w : World) (hE : ReadsE B v l) (hs : Sat (treeP h s * (B * F)) w) (hl : l.length ≤ 65536) (hb : mBuild l s ≠ .bad) :
 Calls Tryz.prog 23 #[.pointer (some ⟨h.t, 0, none⟩), v] w (Back h (B * F) (mBuild l s) (fun z => vi2 z 0) (fun er => vi2 0 er)) := by
 cases hm : mayList l with
 | false => exact build_no h s l v B F w hE hs hl hm
 | true => exact build_go h s l v B F w hE hs hl hm hb
end Go.Proofs.YtfhbmblbidcmmaaGreat
