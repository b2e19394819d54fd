/-
  Of all roots that are made the pages are a tree in the form of the document, and just these are told, and each is in use. No condition. (part 30)
-/
import Derived.Test.YtfhbmblbidcmmaaGreatSk29
import Derived.Deep.RegionHeld2
import Derived.Deep.DeepCutAuto
set_option linter.unusedSimpArgs false
set_option linter.unusedVariables false
namespace Go.Tr
theorem passE_go {l : List Ent} {n : Int} {k r : Nat} (h : passE l n k = some r) (hn : 0 < n) : ∃ x l', l = x :: l' ∧ passE l' (n - x.len) (k + 1) = some r := by
 cases l with
 | nil => unfold passE at h; simp only [if_pos hn] at h; cases h
 | cons x l => unfold passE at h; simp only [if_pos hn] at h; exact ⟨x, l, rfl, h⟩
theorem passE_stop {l : List Ent} {n : Int} {k r : Nat} (h : passE l n k = some r) (hn : ¬ 0 < n) : r = k := by
 cases l with
 | nil => unfold passE at h; simp only [if_neg hn] at h; exact (Option.some.inj h).symm
 | cons x l => unfold passE at h; simp only [if_neg hn] at h; exact (Option.some.inj h).symm
theorem drop_at {α : Type} {l l' : List α} {x : α} {j : Nat} (h : l.drop j = x :: l') : l[j]? = some x ∧ l.drop (j + 1) = l' ∧ j < l.length := by
 have h1 : l[j]? = some x := by
  have := congrArg List.head? h
  simpa using this
 refine ⟨h1, ?_, ?_⟩
 · have := congrArg List.tail h
   simpa using this
 · rcases Nat.lt_or_ge j l.length with h2 | h2
   · exact h2
   · rw [List.drop_of_length_le h2] at h; cases h
end Go.Tr
namespace Go.Proofs.YtfhbmblbidcmmaaGreat
set_option linter.unusedSimpArgs false
set_option linter.unusedVariables false
open Go.RowKit Go.Sl Go.Dk Go.Tr
attribute [local go_sem ↓] Go.wp_at_zero Go.wp_at_succ
attribute [local go_sem] Go.Sl.cell_sat Go.Sl.frozen_sat
set_option maxRecDepth 100000 in
set_option maxHeartbeats 6400000 in
theorem parted_leaf (f : Nat) (h : Th) (s : TS) (x : Tall) (n : Int) (F : Assn) (w : World) (hs : Sat (treeP h s * F) w) (h1 : ¬ n ≤ 0) (h2 : ¬ x.kid.bytes ≤ n) (hn2 : n ≤ 1099511627776)
 (hlf : ∀ y s2, tRead x.kid.page s = .ok y s2 → y.leaf = true) (hb : tParted tRead tWrite (f + 1) x n s ≠ .bad) :
 Calls Tryz.prog 98 #[.pointer (some ⟨h.t, 0, none⟩), tallV x, .int .i64 n] w (TEnds h F (tParted tRead tWrite (f + 1) x n s) PairR) := by
 obtain ⟨i0, E⟩ := elemEn
 obtain ⟨R, hR⟩ : ∃ R, tParted tRead tWrite (f + 1) x n s = R := ⟨_, rfl⟩
 rw [hR] at hb ⊢
 have HB : Aside (R ≠ .bad) := hb
 unfold tParted at hR
 rw [if_neg h1, if_neg h2] at hR
 obtain ⟨⟨x1, x2, x3, x4⟩, xh⟩ := x
 simp only at h2 hR hlf
 have hn1 := bind_nb hR hb
 have c1 := fun F w q => tread_any h s x1 F w q hn1
 have HR : Aside (∀ y s2, tRead x1 s = .ok y s2 → y.leaf = true ∧ ∃ k, passE y.ents n 0 = some k ∧ M.bind (tLeaves tWrite (y.ents.take k)) (fun a => M.bind (tLeaves tWrite (y.ents.drop k)) fun b => M.pure (a, b)) s2 = R) := fun y s2 hm => by
  have hg := bind_go hR hm
  rw [if_pos (hlf y s2 hm)] at hg
  refine ⟨hlf y s2 hm, ?_⟩
  cases hp : passE y.ents n 0 with
  | none => rw [hp] at hg; exact absurd hg.symm hb
  | some k => rw [hp] at hg; exact ⟨k, rfl, hg⟩
 have HU : Aside ((∀ er s1, tRead x1 s = .fault er s1 → R = .fault er s1) ∧ tRead x1 s ≠ .bad) := ⟨fun er s1 hm => bind_up hR hm, hn1⟩
 unfold tallV
 haveI := hs.i
 clear hb hR hn1 hlf
 go_enter Tryz.func98, Tryz.ntmps98
 go_wp2_with fail
 with_reducible refine Calls.mono (c1 _ _ (takeI (treeP h s))) ?_
 rintro e w1 hx1
 obtain ⟨r1, hm1⟩ : ∃ r, r = tRead x1 s := ⟨_, rfl⟩
 rw [← hm1] at hx1
 rcases r1 with ⟨y, s2⟩ | ⟨er, s2⟩ | _
 rotate_left
 · obtain ⟨rfl, q1⟩ := hx1
   haveI := q1.i
   have hRR := HU.out.1 _ _ hm1.symm
   subst hRR
   exact ⟨rfl, rfl, keep2 _ _⟩
 · exact absurd hm1.symm HU.out.2
 obtain ⟨v1, B2, rfl, ⟨hx, hma⟩, q1⟩ := hx1
 obtain ⟨hlf, k, hpk, hg⟩ := HR.out _ _ hm1.symm
 obtain ⟨se, sk, rfl, hE, hK⟩ := hx
 obtain ⟨a1, c1', rfl, hE1, hE2⟩ := hE.v
 obtain ⟨a2, c2, rfl, hK1, hK2⟩ := ReadsR.v hK
 obtain ⟨hl1, hl2⟩ := may_len hma
 have HMa : Aside (may y = true) := hma
 obtain ⟨lf, es, ks⟩ := y
 simp only at hE hl1 hl2 hE1 hpk hg hlf ⊢
 subst hlf
 obtain ⟨ne, hne⟩ : ∃ ne, es.length = ne := ⟨_, rfl⟩
 obtain ⟨nk, hnk⟩ : ∃ nk, ks.length = nk := ⟨_, rfl⟩
 have HE : Aside (ReadsE B2 (.slice a1 es.length c1') es ∧ es.length = ne) := ⟨hE, hne⟩
 rw [hne] at hl1 hE1 ⊢
 rw [hnk] at hl2 hK1 ⊢
 have HP : Aside (passE es n 0 = some k ∧ M.bind (tLeaves tWrite (es.take k)) (fun a => M.bind (tLeaves tWrite (es.drop k)) fun b => M.pure (a, b)) s2 = R) := ⟨hpk, hg⟩
 haveI := q1.i
 clear hE hK hma hne hnk hpk hg hm1 HR HU c1
 go_wp2_with fail
 have q4 : Sat (treeP h s2 * (B2 * (Sl.block w1.heap.size TNd [.bool true, .slice a1 ne c1', .slice a2 nk c2] * (Sl.block (w.heap.size + 1 + 1) TTl [.int .i64 0, .int .i64 0, .int .i64 0, .int .i64 0, .int .i64 0] * (Sl.block (w.heap.size + 1) TTl [.int .i64 0, .int .i64 0, .int .i64 0, .int .i64 0, .int .i64 0] * F))))) (w1.alloc (.cells #[.bool true, .slice a1 ne c1', .slice a2 nk c2] TNd)) := satI_weak (C := Sl.block w.heap.size TTl [.int .i64 x1, .int .i64 x2, .int .i64 x3, .int .i64 x4, .int .i64 xh]) (by ac_rfl)
 obtain ⟨N, hN⟩ : ∃ N, w.heap.size = N := ⟨_, rfl⟩
 obtain ⟨N8, hN8⟩ : ∃ N, w1.heap.size = N := ⟨_, rfl⟩
 rw [hN, hN8] at q4 ⊢
 clear hN hN8 q1 hs this
 go_loopg [2, 9] ne (fun g t2 t9 wr => ∃ (j : Nat) (nj : Int), t2 = .int .i64 nj ∧ t9 = .int .i64 j ∧ j ≤ ne ∧ nj ≤ 1099511627776 ∧ -1048576 ≤ nj ∧ Aside (g = ne - j ∧ passE (es.drop j) nj j = some k) ∧
  Sat (treeP h s2 * (B2 * (Sl.block N8 TNd [.bool true, .slice a1 ne c1', .slice a2 nk c2] * (Sl.block (N + 1 + 1) TTl [.int .i64 0, .int .i64 0, .int .i64 0, .int .i64 0, .int .i64 0] * (Sl.block (N + 1) TTl [.int .i64 0, .int .i64 0, .int .i64 0, .int .i64 0, .int .i64 0] * F))))) wr)
 case atStart => exact ⟨0, n, rfl, rfl, by omega, by omega, by omega, ⟨rfl, HP.out.1⟩, q4⟩
 case round =>
  obtain ⟨j, nj, rfl, rfl, hj, hj1, hj2, A, hsr⟩ := hrel
  clear q4
  haveI := hsr.i
  by_cases hlt : 0 < nj
  · obtain ⟨y, l', hd, hps⟩ := passE_go A.out.2 hlt
    obtain ⟨hy, hd2, hj3⟩ := drop_at hd
    rw [HE.out.2] at hj3
    have hlt' : (j : Int) < ne := by omega
    rw [← hd2] at hps
    have HS : Aside (passE (es.drop (j + 1)) (nj - y.len) (j + 1) = some k) := hps
    obtain ⟨b, q, rfl, r1, r2, r3, r4⟩ := readsE_at HE.out.1 hy
    have hyo := ((may_facts HMa.out).1 y (List.mem_of_getElem? hy)).2
    unfold mayEnt at hyo
    simp only [decide_eq_true_eq] at hyo
    obtain ⟨y1, y2, y3, y4⟩ := y
    simp only at hyo r1 r2 r3 r4 HS
    have hy1 : 1 ≤ y3 := by omega
    have hy2 : y3 ≤ 1048576 := by omega
    have hw2 : IntKind.i64.wrap (nj - y3) = nj - y3 := IntWalk.i64_in _ (by omega)
    clear hyo hy hd hd2 hps
    go_wp2
    go_roundg (ne - (j + 1))
    case measure => have := A.out.1; omega
    case rel => exact ⟨j + 1, nj - y3, rfl, by go_num, by omega, by omega, by omega, ⟨rfl, HS.out⟩, keep6 _ _ _ _ _ _⟩
  · obtain rfl := passE_stop A.out.2 hlt
    have HQ : Aside (M.bind (tLeaves tWrite (es.take k)) (fun a => M.bind (tLeaves tWrite (es.drop k)) fun b => M.pure (a, b)) s2 = R) := HP.out.2
    have hcut1 := readsE_cut HE.out.1 (i := 0) (j := k) (by omega) (by rw [HE.out.2]; exact hj)
    have hcut2 := readsE_cut HE.out.1 (i := k) (j := es.length) (by rw [HE.out.2]; exact hj) (Nat.le_refl _)
    have e1 : sub es 0 k = es.take k := by simp [sub]
    have e2 : sub es k es.length = es.drop k := by unfold sub; rw [← List.length_drop, List.take_length]
    rw [e1, Nat.sub_zero, Nat.sub_zero] at hcut1
    rw [e2, HE.out.2] at hcut2
    have hc1 := at_to (P := Tryz.prog) E (a := a1) (n := ne) (c := c1') k (by omega)
    have hc2 := at_from (P := Tryz.prog) E (a := a1) (n := ne) (c := c1') k hj
    obtain ⟨z1, hz1⟩ : ∃ z, cutA a1 c1' 0 4 = z := ⟨_, rfl⟩
    obtain ⟨z2, hz2⟩ : ∃ z, cutA a1 c1' k 4 = z := ⟨_, rfl⟩
    rw [hz1] at hc1 hcut1
    rw [hz2] at hc2 hcut2
    have c2' := fun F w q => leaves_any h s2 (es.take k) _ B2 F w hcut1 q (by rw [List.length_take, HE.out.2]; omega) (bind_nb HQ.out HB.out)
    have HC : Aside (ReadsE B2 (.slice z2 (ne - k) (c1' - k)) (es.drop k)) := hcut2
    clear hcut1 hcut2 e1 e2 hz1 hz2 A HP HMa
    go_wp2_with fail
    go_region_held2 (fun w' => w'.cell? ⟨N8, 1, none⟩ = some (.slice a1 ne c1')) (first | exact cell_sat _ _ _) (first
     | (go_at_call 84
        with_reducible refine Calls.mono (c2' _ _ (takeI2 (treeP h s2) B2)) ?_
        rintro e w3 h3
        obtain ⟨r3, hm3⟩ : ∃ r, r = tLeaves tWrite (es.take k) s2 := ⟨_, rfl⟩
        rw [← hm3] at h3
        rcases r3 with ⟨ta, s3⟩ | ⟨er, s3⟩ | _
        rotate_left
        · obtain ⟨rfl, q3⟩ := h3
          haveI := q3.i
          have hRR := bind_up HQ.out hm3.symm
          subst hRR
          exact ⟨rfl, rfl, keep2 _ _⟩
        · exact absurd (bind_bad HQ.out hm3.symm) HB.out
        obtain ⟨v3, G3, rfl, ⟨rfl, rfl⟩, q3⟩ := h3
        rw [one_sep] at q3
        haveI := q3.i
        have hg3 := bind_go HQ.out hm3.symm
        have HQ3 : Aside (M.bind (tLeaves tWrite (es.drop k)) (fun b => M.pure (ta, b)) s3 = R) := hg3
        have c3' := fun F w q => leaves_any h s3 (es.drop k) _ B2 F w HC.out q (by rw [List.length_drop, HE.out.2]; omega) (bind_nb HQ3.out HB.out)
        clear hg3 hm3
        obtain ⟨⟨p1, p2, p3, p4⟩, ph⟩ := ta
        unfold tallV)
     | (go_at_call 84
        with_reducible refine Calls.mono (c3' _ _ (takeI2 (treeP h s3) B2)) ?_
        rintro e w4 h4
        obtain ⟨r4, hm4⟩ : ∃ r, r = tLeaves tWrite (es.drop k) s3 := ⟨_, rfl⟩
        rw [← hm4] at h4
        rcases r4 with ⟨tb, s4⟩ | ⟨er, s4⟩ | _
        rotate_left
        · obtain ⟨rfl, q4⟩ := h4
          haveI := q4.i
          have hRR := bind_up HQ3.out hm4.symm
          subst hRR
          exact ⟨rfl, rfl, keep2 _ _⟩
        · exact absurd (bind_bad HQ3.out hm4.symm) HB.out
        obtain ⟨v4, G4, rfl, ⟨rfl, rfl⟩, q4⟩ := h4
        rw [one_sep] at q4
        haveI := q4.i
        have hg4 := bind_go HQ3.out hm4.symm
        have hR4 : R = .ok (⟨⟨p1, p2, p3, p4⟩, ph⟩, tb) s4 := hg4.symm
        clear hg4 hm4
        obtain ⟨⟨o1, o2, o3, o4⟩, oh⟩ := tb
        unfold tallV))
    all_goals
     subst hR4
     go_wp2
     go_returns
     exact ⟨_, 1, rfl, ⟨rfl, rfl⟩, by rw [one_sep]; exact keep2 _ _⟩
end Go.Proofs.YtfhbmblbidcmmaaGreat
namespace Go.Tr
theorem passK_go {l : List Kd} {n : Int} {k : Nat} {r : Nat × Int} (h : passK l n k = some r) : ∃ x l', l = x :: l' ∧ ((x.bytes ≤ n ∧ passK l' (n - x.bytes) (k + 1) = some r) ∨ (¬ x.bytes ≤ n ∧ r = (k, n))) := by
 cases l with
 | nil => cases h
 | cons x l =>
   unfold passK at h
   by_cases hc : x.bytes ≤ n
   · rw [if_pos hc] at h; exact ⟨x, l, rfl, .inl ⟨hc, h⟩⟩
   · rw [if_neg hc] at h; exact ⟨x, l, rfl, .inr ⟨hc, (Option.some.inj h).symm⟩⟩
end Go.Tr
namespace Go.Proofs.YtfhbmblbidcmmaaGreat
set_option linter.unusedSimpArgs false
set_option linter.unusedVariables false
open Go.RowKit Go.Sl Go.Dk Go.Tr
attribute [local go_sem ↓] Go.wp_at_zero Go.wp_at_succ
attribute [local go_sem] Go.Sl.cell_sat Go.Sl.frozen_sat
def partK (f : Nat) (xh : Int) (ks : List Kd) (k : Nat) (r : Int) : M TS (Tall × Tall) :=
 if r = 0 then M.bind (tOver tWrite (ks.take k) xh) fun a => M.bind (tOver tWrite (ks.drop k) xh) fun b => M.pure (a, b)
 else match ks[k]? with
  | none => M.bad
  | some z => M.bind (tParted tRead tWrite f ⟨z, xh - 1⟩ r) fun p =>
    M.bind (tOver tWrite (ks.take k) xh) fun a => M.bind (tPut tRead tWrite a p.1) fun a =>
    M.bind (tOver tWrite (ks.drop (k + 1)) xh) fun b => M.bind (tPut tRead tWrite p.2 b) fun b => M.pure (a, b)
def PartedC (f : Nat) : Prop := ∀ (h : Th) (s : TS) (x : Tall) (n : Int) (F : Assn) (w : World), Sat (treeP h s * F) w → (f : Int) - 700 ≤ x.height → x.height ≤ 500 → f ≤ 30 → n ≤ 1099511627776 → tParted tRead tWrite f x n s ≠ .bad →
 Calls Tryz.prog 98 #[.pointer (some ⟨h.t, 0, none⟩), tallV x, .int .i64 n] w (TEnds h F (tParted tRead tWrite f x n s) PairR)
set_option maxRecDepth 100000 in
set_option maxHeartbeats 12800000 in
theorem parted_in (f : Nat) (ih : PartedC f) (h : Th) (s : TS) (x : Tall) (n : Int) (F : Assn) (w : World) (hs : Sat (treeP h s * F) w) (h1 : ¬ n ≤ 0) (h2 : ¬ x.kid.bytes ≤ n) (hn2 : n ≤ 1099511627776)
 (hx1 : (f : Int) - 699 ≤ x.height) (hx2 : x.height ≤ 500) (hf : f ≤ 29)
 (hlf : ∀ y s2, tRead x.kid.page s = .ok y s2 → y.leaf = false) (hb : tParted tRead tWrite (f + 1) x n s ≠ .bad) :
 Calls Tryz.prog 98 #[.pointer (some ⟨h.t, 0, none⟩), tallV x, .int .i64 n] w (TEnds h F (tParted tRead tWrite (f + 1) x n s) PairR) := by
 obtain ⟨i1, E⟩ := elemKd
 obtain ⟨R, hR⟩ : ∃ R, tParted tRead tWrite (f + 1) x n s = R := ⟨_, rfl⟩
 rw [hR] at hb ⊢
 have HB : Aside (R ≠ .bad) := hb
 have HI : Aside (PartedC f) := ih
 unfold tParted at hR
 rw [if_neg h1, if_neg h2] at hR
 obtain ⟨⟨x1, x2, x3, x4⟩, xh⟩ := x
 simp only at h2 hR hlf hx1 hx2
 have hn1 := bind_nb hR hb
 have c1 := fun F w q => tread_any h s x1 F w q hn1
 have HR : Aside (∀ y s2, tRead x1 s = .ok y s2 → y.leaf = false ∧ ∃ k r, passK y.kids n 0 = some (k, r) ∧ partK f xh y.kids k r s2 = R) := fun y s2 hm => by
  have hg := bind_go hR hm
  rw [if_neg (by rw [hlf y s2 hm]; simp)] at hg
  refine ⟨hlf y s2 hm, ?_⟩
  cases hp : passK y.kids n 0 with
  | none => rw [hp] at hg; exact absurd hg.symm hb
  | some kr => rw [hp] at hg; exact ⟨kr.1, kr.2, rfl, hg⟩
 have HU : Aside ((∀ er s1, tRead x1 s = .fault er s1 → R = .fault er s1) ∧ tRead x1 s ≠ .bad) := ⟨fun er s1 hm => bind_up hR hm, hn1⟩
 unfold tallV
 haveI := hs.i
 clear hb hR hn1 hlf ih
 go_enter Tryz.func98, Tryz.ntmps98
 go_wp2_with fail
 with_reducible refine Calls.mono (c1 _ _ (takeI (treeP h s))) ?_
 rintro e w1 hx0
 obtain ⟨r1, hm1⟩ : ∃ r, r = tRead x1 s := ⟨_, rfl⟩
 rw [← hm1] at hx0
 rcases r1 with ⟨y, s2⟩ | ⟨er, s2⟩ | _
 rotate_left
 · obtain ⟨rfl, q1⟩ := hx0
   haveI := q1.i
   have hRR := HU.out.1 _ _ hm1.symm
   subst hRR
   exact ⟨rfl, rfl, keep2 _ _⟩
 · exact absurd hm1.symm HU.out.2
 obtain ⟨v1, B2, rfl, ⟨hx, hma⟩, q1⟩ := hx0
 obtain ⟨hlf, k, r, hpk, hg⟩ := HR.out _ _ hm1.symm
 obtain ⟨se, sk, rfl, hE, hK⟩ := hx
 obtain ⟨a1, c1', rfl, hE1, hE2⟩ := hE.v
 obtain ⟨a2, c2, rfl, hK1, hK2⟩ := ReadsR.v hK
 obtain ⟨hl1, hl2⟩ := may_len hma
 have HMa : Aside (may y = true) := hma
 obtain ⟨lf, es, ks⟩ := y
 simp only at hK hl1 hl2 hE1 hpk hg hlf ⊢
 subst hlf
 obtain ⟨ne, hne⟩ : ∃ ne, es.length = ne := ⟨_, rfl⟩
 obtain ⟨nk, hnk⟩ : ∃ nk, ks.length = nk := ⟨_, rfl⟩
 have HK : Aside (ReadsK B2 (.slice a2 ks.length c2) ks ∧ ks.length = nk) := ⟨hK, hnk⟩
 rw [hne] at hl1 hE1 ⊢
 rw [hnk] at hl2 hK1 ⊢
 have HP : Aside (passK ks n 0 = some (k, r) ∧ partK f xh ks k r s2 = R) := ⟨hpk, hg⟩
 haveI := q1.i
 clear hE hK hma hne hnk hpk hg hm1 HR HU c1
 go_wp2_with fail
 have q4 : Sat (treeP h s2 * (B2 * ((Sl.block w1.heap.size TNd [.bool false, .slice a1 ne c1', .slice a2 nk c2] * (Sl.block (w.heap.size + 1 + 1) TTl [.int .i64 0, .int .i64 0, .int .i64 0, .int .i64 0, .int .i64 0] * (Sl.block (w.heap.size + 1) TTl [.int .i64 0, .int .i64 0, .int .i64 0, .int .i64 0, .int .i64 0] * (Sl.block w.heap.size TTl [.int .i64 x1, .int .i64 x2, .int .i64 x3, .int .i64 x4, .int .i64 xh] * F))))))) (w1.alloc (.cells #[.bool false, .slice a1 ne c1', .slice a2 nk c2] TNd)) := satI_eq (by ac_rfl)
 obtain ⟨N, hN⟩ : ∃ N, w.heap.size = N := ⟨_, rfl⟩
 obtain ⟨N8, hN8⟩ : ∃ N, w1.heap.size = N := ⟨_, rfl⟩
 rw [hN, hN8] at q4 ⊢
 clear hN hN8 q1 hs this
 go_loopg [2, 10] nk (fun g t2 t10 wr => ∃ (j : Nat) (nj : Int), t2 = .int .i64 nj ∧ t10 = .int .i64 j ∧ j ≤ nk ∧ nj ≤ 1099511627776 ∧ 0 ≤ nj ∧ Aside (g = nk - j ∧ passK (ks.drop j) nj j = some (k, r)) ∧
  Sat (treeP h s2 * (B2 * (Sl.block N8 TNd [.bool false, .slice a1 ne c1', .slice a2 nk c2] * (Sl.block (N + 1 + 1) TTl [.int .i64 0, .int .i64 0, .int .i64 0, .int .i64 0, .int .i64 0] * (Sl.block (N + 1) TTl [.int .i64 0, .int .i64 0, .int .i64 0, .int .i64 0, .int .i64 0] * (Sl.block N TTl [.int .i64 x1, .int .i64 x2, .int .i64 x3, .int .i64 x4, .int .i64 xh] * F)))))) wr)
 case atStart => exact ⟨0, n, rfl, rfl, by omega, by omega, by omega, ⟨rfl, HP.out.1⟩, q4⟩
 case round =>
  obtain ⟨j, nj, rfl, rfl, hj, hj1, hj2, A, hsr⟩ := hrel
  clear q4
  haveI := hsr.i
  obtain ⟨y, l', hd, hps⟩ := passK_go A.out.2
  obtain ⟨hy, hd2, hj3⟩ := drop_at hd
  rw [HK.out.2] at hj3
  have hlt' : (j : Int) < nk := by omega
  obtain ⟨b, q, rfl, r1, r2, r3, r4⟩ := readsK_at HK.out.1 hy
  have hyo := ((may_facts HMa.out).2 y (List.mem_of_getElem? hy)).2
  have HY : Aside (ks[j]? = some y) := hy
  unfold mayKid at hyo
  simp only [decide_eq_true_eq] at hyo
  obtain ⟨y1, y2, y3, y4⟩ := y
  simp only at hyo r1 r2 r3 r4 hps
  have hy1 : 1 ≤ y2 := by omega
  have hy2 : y2 ≤ 1048576 := by omega
  clear hyo hy hd
  rcases hps with ⟨hle, hps⟩ | ⟨hle, hkr⟩
  · rw [← hd2] at hps
    have HS : Aside (passK (ks.drop (j + 1)) (nj - y2) (j + 1) = some (k, r)) := hps
    have hw2 : IntKind.i64.wrap (nj - y2) = nj - y2 := IntWalk.i64_in _ (by omega)
    clear hd2 hps
    go_wp2
    go_roundg (nk - (j + 1))
    case measure => have := A.out.1; omega
    case rel => exact ⟨j + 1, nj - y2, rfl, by go_num, by omega, by omega, by omega, ⟨rfl, HS.out⟩, keep7 _ _ _ _ _ _ _⟩
  · obtain ⟨hk1, hk2⟩ := Prod.mk.inj hkr
    subst hk1
    subst hk2
    have HQ0 : Aside (partK f xh ks k r s2 = R) := HP.out.2
    have hcut1 := readsK_cut HK.out.1 (i := 0) (j := k) (by omega) (by rw [HK.out.2]; exact hj)
    have e1 : sub ks 0 k = ks.take k := by simp [sub]
    rw [e1, Nat.sub_zero, Nat.sub_zero] at hcut1
    have hc1 := at_to (P := Tryz.prog) E (a := some ⟨b, q, none⟩) (n := nk) (c := c2) k (by omega)
    obtain ⟨z1, hz1⟩ : ∃ z, cutA (some ⟨b, q, none⟩) c2 0 4 = z := ⟨_, rfl⟩
    rw [hz1] at hc1 hcut1
    have HC1 : Aside (ReadsK B2 (.slice z1 k c2) (ks.take k)) := hcut1
    clear hcut1 e1 hz1 A HP hkr hd2
    by_cases hz : r = 0
    · subst hz
      have hcut2 := readsK_cut HK.out.1 (i := k) (j := ks.length) (by rw [HK.out.2]; exact hj) (Nat.le_refl _)
      have e2 : sub ks k ks.length = ks.drop k := by unfold sub; rw [← List.length_drop, List.take_length]
      rw [e2, HK.out.2] at hcut2
      have hc2 := at_from (P := Tryz.prog) E (a := some ⟨b, q, none⟩) (n := nk) (c := c2) k hj
      obtain ⟨z2, hz2⟩ : ∃ z, cutA (some ⟨b, q, none⟩) c2 k 4 = z := ⟨_, rfl⟩
      rw [hz2] at hc2 hcut2
      have HC2 : Aside (ReadsK B2 (.slice z2 (nk - k) (c2 - k)) (ks.drop k)) := hcut2
      have hQ := HQ0.out
      unfold partK at hQ
      rw [if_pos rfl] at hQ
      have HQ : Aside (M.bind (tOver tWrite (ks.take k) xh) (fun a => M.bind (tOver tWrite (ks.drop k) xh) fun b => M.pure (a, b)) s2 = R) := hQ
      have c3 := fun F w q => over_any h s2 (ks.take k) xh _ B2 F w HC1.out q (by rw [List.length_take, HK.out.2]; omega) (by omega) (by omega) (bind_nb HQ.out HB.out)
      clear hcut2 e2 hz2 hQ HMa HI
      go_wp2_with fail
      go_region_held2 (fun w' => w'.cell? ⟨N8, 2, none⟩ = some (.slice (some ⟨b, q, none⟩) nk c2) ∧ w'.cell? ⟨N, 4, none⟩ = some (.int .i64 xh)) (first | exact ⟨cell_sat _ _ _, cell_sat _ _ _⟩) (first
       | (go_at_call 144
          with_reducible refine Calls.mono (c3 _ _ (takeI2 (treeP h s2) B2)) ?_
          rintro e w3 h3
          obtain ⟨r3, hm3⟩ : ∃ ρ, ρ = tOver tWrite (ks.take k) xh s2 := ⟨_, rfl⟩
          rw [← hm3] at h3
          rcases r3 with ⟨ta, s3⟩ | ⟨er, s3⟩ | _
          rotate_left
          · obtain ⟨rfl, q3⟩ := h3
            haveI := q3.i
            have hRR := bind_up HQ.out hm3.symm
            subst hRR
            exact ⟨rfl, rfl, keep2 _ _⟩
          · exact absurd (bind_bad HQ.out hm3.symm) HB.out
          obtain ⟨v3, G3, rfl, ⟨rfl, rfl⟩, q3⟩ := h3
          rw [one_sep] at q3
          haveI := q3.i
          have hg3 := bind_go HQ.out hm3.symm
          have HQ3 : Aside (M.bind (tOver tWrite (ks.drop k) xh) (fun b => M.pure (ta, b)) s3 = R) := hg3
          have c4 := fun F w q => over_any h s3 (ks.drop k) xh _ B2 F w HC2.out q (by rw [List.length_drop, HK.out.2]; omega) (by omega) (by omega) (bind_nb HQ3.out HB.out)
          clear hg3 hm3
          obtain ⟨⟨p1, p2, p3, p4⟩, ph⟩ := ta
          unfold tallV
          simp only)
       | (go_at_call 144
          with_reducible refine Calls.mono (c4 _ _ (takeI2 (treeP h s3) B2)) ?_
          rintro e w4 h4
          obtain ⟨r4, hm4⟩ : ∃ ρ, ρ = tOver tWrite (ks.drop k) xh s3 := ⟨_, rfl⟩
          rw [← hm4] at h4
          rcases r4 with ⟨tb, s4⟩ | ⟨er, s4⟩ | _
          rotate_left
          · obtain ⟨rfl, q4⟩ := h4
            haveI := q4.i
            have hRR := bind_up HQ3.out hm4.symm
            subst hRR
            exact ⟨rfl, rfl, keep2 _ _⟩
          · exact absurd (bind_bad HQ3.out hm4.symm) HB.out
          obtain ⟨v4, G4, rfl, ⟨rfl, rfl⟩, q4⟩ := h4
          rw [one_sep] at q4
          haveI := q4.i
          have hg4 := bind_go HQ3.out hm4.symm
          have hR4 : R = .ok (⟨⟨p1, p2, p3, p4⟩, ph⟩, tb) s4 := hg4.symm
          clear hg4 hm4
          obtain ⟨⟨o1, o2, o3, o4⟩, oh⟩ := tb
          unfold tallV
          simp only))
      all_goals
       subst hR4
       go_wp2
       go_returns
       exact ⟨_, 1, rfl, ⟨rfl, rfl⟩, by rw [one_sep]; exact keep2 _ _⟩
    · have hz' : ((r : Int) == 0) = false := by simpa using hz
      have hcut2 := readsK_cut HK.out.1 (i := k + 1) (j := ks.length) (by rw [HK.out.2]; omega) (Nat.le_refl _)
      have e2 : sub ks (k + 1) ks.length = ks.drop (k + 1) := by unfold sub; rw [← List.length_drop, List.take_length]
      rw [e2, HK.out.2] at hcut2
      have hc2 := at_from (P := Tryz.prog) E (a := some ⟨b, q, none⟩) (n := nk) (c := c2) (k + 1) (by omega)
      have ek : ((k + 1 : Nat) : Int) = (k : Int) + 1 := by omega
      rw [ek] at hc2
      obtain ⟨z2, hz2⟩ : ∃ z, cutA (some ⟨b, q, none⟩) c2 (k + 1) 4 = z := ⟨_, rfl⟩
      rw [hz2] at hc2 hcut2
      have HC2 : Aside (ReadsK B2 (.slice z2 (nk - (k + 1)) (c2 - (k + 1))) (ks.drop (k + 1))) := hcut2
      have hw1 : IntKind.i64.wrap ((k : Int) + 1) = (k : Int) + 1 := IntWalk.i64_in _ (by omega)
      have hw3 : IntKind.i64.wrap (xh - 1) = xh - 1 := IntWalk.i64_in _ (by omega)
      have hQ := HQ0.out
      unfold partK at hQ
      rw [if_neg hz, HY.out] at hQ
      have HQ : Aside (M.bind (tParted tRead tWrite f ⟨⟨y1, y2, y3, y4⟩, xh - 1⟩ r) (fun p =>
       M.bind (tOver tWrite (ks.take k) xh) fun a => M.bind (tPut tRead tWrite a p.1) fun a =>
       M.bind (tOver tWrite (ks.drop (k + 1)) xh) fun b => M.bind (tPut tRead tWrite p.2 b) fun b => M.pure (a, b)) s2 = R) := hQ
      have cP := fun F w q => HI.out h s2 ⟨⟨y1, y2, y3, y4⟩, xh - 1⟩ r F w q (by simp only; omega) (by simp only; omega) (by omega) hj1 (bind_nb HQ.out HB.out)
      unfold tallV at cP
      simp only at cP
      clear hcut2 e2 hz2 hQ HMa ek HI
      go_upto_region 18 with (fail)
      go_cut [11, 12] (fun t11 t12 wx => ∃ (p1 p2 p3 p4 ph o1 o2 o3 o4 oh : Int) (s3 : TS) (M1 M2 : Nat), t11 = .pointer (some ⟨M1, 0, none⟩) ∧ t12 = .pointer (some ⟨M2, 0, none⟩) ∧ -1000 ≤ ph ∧ ph ≤ 1000 ∧ -1000 ≤ oh ∧ oh ≤ 1000 ∧
       Aside (M.bind (tOver tWrite (ks.take k) xh) (fun a => M.bind (tPut tRead tWrite a ⟨⟨p1, p2, p3, p4⟩, ph⟩) fun a =>
       M.bind (tOver tWrite (ks.drop (k + 1)) xh) fun b => M.bind (tPut tRead tWrite ⟨⟨o1, o2, o3, o4⟩, oh⟩ b) fun b => M.pure (a, b)) s3 = R) ∧
       Sat (treeP h s3 * (B2 * (Sl.block M1 TTl [.int .i64 p1, .int .i64 p2, .int .i64 p3, .int .i64 p4, .int .i64 ph] * (Sl.block M2 TTl [.int .i64 o1, .int .i64 o2, .int .i64 o3, .int .i64 o4, .int .i64 oh] * (Sl.block N8 TNd [.bool false, .slice a1 ne c1', .slice (some ⟨b, q, none⟩) nk c2] * (Sl.block (N + 1 + 1) TTl [.int .i64 0, .int .i64 0, .int .i64 0, .int .i64 0, .int .i64 0] * (Sl.block (N + 1) TTl [.int .i64 0, .int .i64 0, .int .i64 0, .int .i64 0, .int .i64 0] * (Sl.block N TTl [.int .i64 x1, .int .i64 x2, .int .i64 x3, .int .i64 x4, .int .i64 xh] * F)))))))) wx)
      case first =>
       go_region_held2 (fun w' => w'.cell? ⟨N8, 2, none⟩ = some (.slice (some ⟨b, q, none⟩) nk c2) ∧ w'.cell? ⟨N, 4, none⟩ = some (.int .i64 xh) ∧ w'.cell? ⟨b, q + k * 4, none⟩ = some (.int .i64 y1) ∧ w'.cell? ⟨b, q + k * 4 + 1, none⟩ = some (.int .i64 y2) ∧ w'.cell? ⟨b, q + k * 4 + 2, none⟩ = some (.int .i64 y3) ∧ w'.cell? ⟨b, q + k * 4 + 3, none⟩ = some (.int .i64 y4)) (first | exact ⟨cell_sat _ _ _, cell_sat _ _ _, cell_sat _ _ _, cell_sat _ _ _, cell_sat _ _ _, cell_sat _ _ _⟩) (first
        | (go_at_call 98
           with_reducible refine Calls.mono (cP _ _ (takeI (treeP h s2))) ?_
           rintro e w3 h3
           obtain ⟨r3, hm3⟩ : ∃ ρ, ρ = tParted tRead tWrite f ⟨⟨y1, y2, y3, y4⟩, xh - 1⟩ r s2 := ⟨_, rfl⟩
           rw [← hm3] at h3
           rcases r3 with ⟨tp, s3⟩ | ⟨er, s3⟩ | _
           rotate_left
           · obtain ⟨rfl, q3⟩ := h3
             haveI := q3.i
             have hRR := bind_up HQ.out hm3.symm
             subst hRR
             exact ⟨rfl, rfl, keep2 _ _⟩
           · exact absurd (bind_bad HQ.out hm3.symm) HB.out
           obtain ⟨v3, G3, rfl, ⟨rfl, rfl⟩, q3⟩ := h3
           rw [one_sep] at q3
           haveI := q3.i
           have hg3 := bind_go HQ.out hm3.symm
           obtain ⟨u1, u2⟩ := tParted_height (fun p s n s' h => tRead_may h) f ⟨⟨y1, y2, y3, y4⟩, xh - 1⟩ r s2 tp s3 hm3.symm (-1000) 500 (by omega) (by omega) (by simp only; omega) (by simp only; omega)
           obtain ⟨⟨⟨p1, p2, p3, p4⟩, ph⟩, ⟨⟨o1, o2, o3, o4⟩, oh⟩⟩ := tp
           simp only at u1 u2
           have HQ3 : Aside (M.bind (tOver tWrite (ks.take k) xh) (fun a => M.bind (tPut tRead tWrite a ⟨⟨p1, p2, p3, p4⟩, ph⟩) fun a => M.bind (tOver tWrite (ks.drop (k + 1)) xh) fun b => M.bind (tPut tRead tWrite ⟨⟨o1, o2, o3, o4⟩, oh⟩ b) fun b => M.pure (a, b)) s3 = R) := hg3
           clear hg3 hm3
           unfold tallV
           simp only))
       all_goals
        go_wp2
        go_meet
        exact ⟨p1, p2, p3, p4, ph, o1, o2, o3, o4, oh, s3, _, _, rfl, rfl, by omega, by omega, by omega, by omega, HQ3, keep9 _ _ _ _ _ _ _ _ _⟩
      case rest =>
       obtain ⟨p1, p2, p3, p4, ph, o1, o2, o3, o4, oh, s3, M1, M2, rfl, rfl, u1, u2, u3, u4, HQ3, q9⟩ := hcut
       haveI := q9.i
       have c3 := fun F w q => over_any h s3 (ks.take k) xh _ B2 F w HC1.out q (by rw [List.length_take, HK.out.2]; omega) (by omega) (by omega) (bind_nb HQ3.out HB.out)
       clear hsr cP HQ HQ0 HY r1 r2 r3 r4
       go_upto_region 19 with (fail)
       go_region_held2 (fun w' => w'.cell? ⟨N8, 2, none⟩ = some (.slice (some ⟨b, q, none⟩) nk c2) ∧ w'.cell? ⟨N, 4, none⟩ = some (.int .i64 xh) ∧ w'.cell? ⟨M1, 0, none⟩ = some (.int .i64 p1) ∧ w'.cell? ⟨M1, 1, none⟩ = some (.int .i64 p2) ∧ w'.cell? ⟨M1, 2, none⟩ = some (.int .i64 p3) ∧ w'.cell? ⟨M1, 3, none⟩ = some (.int .i64 p4) ∧ w'.cell? ⟨M1, 4, none⟩ = some (.int .i64 ph) ∧ w'.cell? ⟨M2, 0, none⟩ = some (.int .i64 o1) ∧ w'.cell? ⟨M2, 1, none⟩ = some (.int .i64 o2) ∧ w'.cell? ⟨M2, 2, none⟩ = some (.int .i64 o3) ∧ w'.cell? ⟨M2, 3, none⟩ = some (.int .i64 o4) ∧ w'.cell? ⟨M2, 4, none⟩ = some (.int .i64 oh)) (first | exact ⟨cell_sat _ _ _, cell_sat _ _ _, cell_sat _ _ _, cell_sat _ _ _, cell_sat _ _ _, cell_sat _ _ _, cell_sat _ _ _, cell_sat _ _ _, cell_sat _ _ _, cell_sat _ _ _, cell_sat _ _ _, cell_sat _ _ _⟩) (first
        | (go_at_call 144
           with_reducible refine Calls.mono (c3 _ _ (takeI2 (treeP h s3) B2)) ?_
           rintro e w4 h4
           obtain ⟨r4, hm4⟩ : ∃ ρ, ρ = tOver tWrite (ks.take k) xh s3 := ⟨_, rfl⟩
           rw [← hm4] at h4
           rcases r4 with ⟨ta, s4⟩ | ⟨er, s4⟩ | _
           rotate_left
           · obtain ⟨rfl, q4⟩ := h4
             haveI := q4.i
             have hRR := bind_up HQ3.out hm4.symm
             subst hRR
             exact ⟨rfl, rfl, keep2 _ _⟩
           · exact absurd (bind_bad HQ3.out hm4.symm) HB.out
           obtain ⟨v4, G4, rfl, ⟨rfl, rfl⟩, q4⟩ := h4
           rw [one_sep] at q4
           haveI := q4.i
           have hg4 := bind_go HQ3.out hm4.symm
           have ho4 := tOver_height hm4.symm
           rw [List.length_take, HK.out.2] at ho4
           have HQ4 : Aside (M.bind (tPut tRead tWrite ta ⟨⟨p1, p2, p3, p4⟩, ph⟩) (fun a => M.bind (tOver tWrite (ks.drop (k + 1)) xh) fun b => M.bind (tPut tRead tWrite ⟨⟨o1, o2, o3, o4⟩, oh⟩ b) fun b => M.pure (a, b)) s4 = R) := hg4
           have c4 := fun F w q => put_tany h s4 ta ⟨⟨p1, p2, p3, p4⟩, ph⟩ F w q (by omega) (by omega) u1 u2 (bind_nb HQ4.out HB.out)
           unfold tallV at c4
           simp only at c4
           clear hg4 hm4
           obtain ⟨⟨d1, d2, d3, d4⟩, dh⟩ := ta
           unfold tallV
           simp only)
        | (go_at_call 99
           with_reducible refine Calls.mono (c4 _ _ (takeI (treeP h s4))) ?_
           rintro e w5 h5
           obtain ⟨r5, hm5⟩ : ∃ ρ, ρ = tPut tRead tWrite ⟨⟨d1, d2, d3, d4⟩, dh⟩ ⟨⟨p1, p2, p3, p4⟩, ph⟩ s4 := ⟨_, rfl⟩
           rw [← hm5] at h5
           rcases r5 with ⟨tb, s5⟩ | ⟨er, s5⟩ | _
           rotate_left
           · obtain ⟨rfl, q5⟩ := h5
             haveI := q5.i
             have hRR := bind_up HQ4.out hm5.symm
             subst hRR
             exact ⟨rfl, rfl, keep2 _ _⟩
           · exact absurd (bind_bad HQ4.out hm5.symm) HB.out
           obtain ⟨v5, G5, rfl, ⟨rfl, rfl⟩, q5⟩ := h5
           rw [one_sep] at q5
           haveI := q5.i
           have hg5 := bind_go HQ4.out hm5.symm
           have HQ5 : Aside (M.bind (tOver tWrite (ks.drop (k + 1)) xh) (fun b => M.bind (tPut tRead tWrite ⟨⟨o1, o2, o3, o4⟩, oh⟩ b) fun b => M.pure (tb, b)) s5 = R) := hg5
           have c5 := fun F w q => over_any h s5 (ks.drop (k + 1)) xh _ B2 F w HC2.out q (by rw [List.length_drop, HK.out.2]; omega) (by omega) (by omega) (bind_nb HQ5.out HB.out)
           clear hg5 hm5
           obtain ⟨⟨g1, g2, g3, g4⟩, gh⟩ := tb
           unfold tallV
           simp only)
        | (go_at_call 144
           with_reducible refine Calls.mono (c5 _ _ (takeI2 (treeP h s5) B2)) ?_
           rintro e w6 h6
           obtain ⟨r6, hm6⟩ : ∃ ρ, ρ = tOver tWrite (ks.drop (k + 1)) xh s5 := ⟨_, rfl⟩
           rw [← hm6] at h6
           rcases r6 with ⟨tc, s6⟩ | ⟨er, s6⟩ | _
           rotate_left
           · obtain ⟨rfl, q6⟩ := h6
             haveI := q6.i
             have hRR := bind_up HQ5.out hm6.symm
             subst hRR
             exact ⟨rfl, rfl, keep2 _ _⟩
           · exact absurd (bind_bad HQ5.out hm6.symm) HB.out
           obtain ⟨v6, G6, rfl, ⟨rfl, rfl⟩, q6⟩ := h6
           rw [one_sep] at q6
           haveI := q6.i
           have hg6 := bind_go HQ5.out hm6.symm
           have ho6 := tOver_height hm6.symm
           rw [List.length_drop, HK.out.2] at ho6
           have HQ6 : Aside (M.bind (tPut tRead tWrite ⟨⟨o1, o2, o3, o4⟩, oh⟩ tc) (fun b => M.pure (⟨⟨g1, g2, g3, g4⟩, gh⟩, b)) s6 = R) := hg6
           have c6 := fun F w q => put_tany h s6 ⟨⟨o1, o2, o3, o4⟩, oh⟩ tc F w q u3 u4 (by omega) (by omega) (bind_nb HQ6.out HB.out)
           unfold tallV at c6
           simp only at c6
           clear hg6 hm6
           obtain ⟨⟨l1, l2, l3, l4⟩, lh⟩ := tc
           unfold tallV
           simp only)
        | (go_at_call 99
           with_reducible refine Calls.mono (c6 _ _ (takeI (treeP h s6))) ?_
           rintro e w7 h7
           obtain ⟨r7, hm7⟩ : ∃ ρ, ρ = tPut tRead tWrite ⟨⟨o1, o2, o3, o4⟩, oh⟩ ⟨⟨l1, l2, l3, l4⟩, lh⟩ s6 := ⟨_, rfl⟩
           rw [← hm7] at h7
           rcases r7 with ⟨td, s7⟩ | ⟨er, s7⟩ | _
           rotate_left
           · obtain ⟨rfl, q7⟩ := h7
             haveI := q7.i
             have hRR := bind_up HQ6.out hm7.symm
             subst hRR
             exact ⟨rfl, rfl, keep2 _ _⟩
           · exact absurd (bind_bad HQ6.out hm7.symm) HB.out
           obtain ⟨v7, G7, rfl, ⟨rfl, rfl⟩, q7⟩ := h7
           rw [one_sep] at q7
           haveI := q7.i
           have hg7 := bind_go HQ6.out hm7.symm
           have hR4 : R = .ok (⟨⟨g1, g2, g3, g4⟩, gh⟩, td) s7 := hg7.symm
           clear hg7 hm7
           obtain ⟨⟨m1, m2, m3, m4⟩, mh⟩ := td
           unfold tallV
           simp only))
       all_goals
        subst hR4
        go_wp2
        go_returns
        exact ⟨_, 1, rfl, ⟨rfl, rfl⟩, by rw [one_sep]; exact keep2 _ _⟩
set_option maxHeartbeats 800000 in
theorem parted_any (f : Nat) : PartedC f := by
 induction f with
 | zero =>
   intro h s x n F w hs h1 h2 h3 h4 hb
   by_cases c1 : n ≤ 0
   · exact parted_low 0 h s x n F w hs c1
   by_cases c2 : x.kid.bytes ≤ n
   · exact parted_high 0 h s x n F w hs c1 c2
   exact absurd (by unfold tParted; rw [if_neg c1, if_neg c2]; rfl) hb
 | succ f ih =>
   intro h s x n F w hs h1 h2 h3 h4 hb
   by_cases c1 : n ≤ 0
   · exact parted_low (f + 1) h s x n F w hs c1
   by_cases c2 : x.kid.bytes ≤ n
   · exact parted_high (f + 1) h s x n F w hs c1 c2
   by_cases hl : ∃ y s2, tRead x.kid.page s = .ok y s2 ∧ y.leaf = true
   · obtain ⟨y, s2, e1, e2⟩ := hl
     exact parted_leaf f h s x n F w hs c1 c2 h4 (fun y' s2' e => by rw [e1] at e; cases e; exact e2) hb
   · exact parted_in f ih h s x n F w hs c1 c2 h4 (by omega) h2 (by omega) (fun y' s2' e => by
      cases hy : y'.leaf with
      | false => rfl
      | true => exact absurd ⟨y', s2', e, hy⟩ hl) hb
end Go.Proofs.YtfhbmblbidcmmaaGreat
