/-
  Walks and plain laws that the lines of texts lean on. No condition (the law's walk)
-/
import Derived.Test.YtfhbmblbidcmmaaGreatRl52
import Derived.Test.YtfhbmblbidcmmaaGreatRl53
import Derived.Deep.RegionHeld3
set_option linter.unusedSimpArgs false
set_option linter.unusedVariables false
namespace Go.Tr
theorem joined_app : ∀ {A B : List Ent}, Joined A → Joined B → (∀ a b B', A.getLast? = some a → B = b :: B' → meets a b = false) → Joined (A ++ B)
  | [], B, _, hB, _ => hB
  | [x], [], _, _, _ => trivial
  | [x], b :: B, _, hB, h => ⟨h x b B rfl rfl, hB⟩
  | x :: y :: A, B, hA, hB, h => ⟨hA.1, joined_app (A := y :: A) hA.2 hB fun a b B' e1 e2 => h a b B' (by simpa using e1) e2⟩
theorem fold_joined : ∀ (l o : List Ent), Joined o → Joined (l.foldl joinTo o)
  | [], o, h => h
  | x :: l, o, h => by
    rw [List.foldl_cons]
    refine fold_joined l _ ?_
    unfold joinTo
    cases hl : o.getLast? with
    | none => trivial
    | some a =>
      simp only
      obtain ⟨o', rfl⟩ := List.getLast?_eq_some_iff.1 hl
      split
      · rw [List.dropLast_concat]
        refine joined_app h.left trivial fun c b B' e1 e2 => ?_
        cases e2
        exact (meets_eq (a := c) (b := glue a x) (a' := c) (b' := a) rfl rfl rfl rfl).trans (Joined.meet h e1)
      · rename_i hm
        refine joined_app h trivial fun c b B' e1 e2 => ?_
        cases e2
        simp at e1
        subst e1
        simpa using hm
theorem joined_join (l : List Ent) : Joined (join l) := fold_joined l [] trivial
end Go.Tr
namespace Go.Proofs.YtfhbmblbidcmmaaGreat
set_option linter.unusedSimpArgs false
set_option linter.unusedVariables false
set_option linter.unusedSectionVars false
open Go.RowKit Go.Sl Go.Dk Go.Tr
open Go.Lru (ikey)
attribute [local go_sem ↓] Go.wp_at_zero Go.wp_at_succ
attribute [local go_sem] Go.Sl.cell_sat Go.Sl.frozen_sat

theorem startI_line {b : List UInt8} {p : Nat} : 0 ≤ startI b (lnTo b p : Nat) := by
  unfold startI
  rw [if_neg (by omega), Int.toNat_natCast]
  cases h : startOf b (lnTo b p) with
  | some q => simp only; omega
  | none =>
    have h1 := (startOf_none _ _).1 h
    have h2 : endsC b = endsC (b.take p) + endsC (b.drop p) := by
      rw [← endsC_app, List.take_append_drop]
    unfold lnTo at h1
    omega

theorem listP_text {O T : List UInt8} (hO : O.length ≤ 3000) (hT : T.length ≤ 3000) (ps : List PartT) : (textE O T (listP O T ps)).length ≤ 100000 := by
  have h5 := text500 (O := O) (T := T) hO hT (ps.take 200)
  have h6 : (ps.take 200).length ≤ 200 := by rw [List.length_take]; omega
  show (textE O T ((ps.take 200).flatMap (entOf O T))).length ≤ 100000
  omega

theorem first_lenE (l : List Ent) (n : Int) : (first l n).1.length ≤ l.length ∧ (first l n).2.length ≤ l.length := by
  induction l generalizing n with
  | nil => simp [first]
  | cons x l ih =>
    have := ih (n - x.len)
    rw [first]
    split
    · simp; omega
    · split
      · simp; omega
      · simp; omega
/-- what a splice of two lists of parts holds -/
theorem edits_splice {O T : List UInt8} (hO : O.length ≤ 3000) (hT : T.length ≤ 3000) (ps qs : List PartT) (a m : Nat) (h : a + m ≤ (textE O T (listP O T ps)).length) :
    ∃ l : List Ent, spliceR (join (listP O T ps)) a m (listP O T qs) = (0, l) ∧ (∀ y ∈ l, RtE O T y) ∧
      textE O T l = (textE O T (listP O T ps)).take a ++ textE O T (listP O T qs) ++ (textE O T (listP O T ps)).drop (a + m) := by
  obtain ⟨p1, p2⟩ := listP_ok hO hT ps
  obtain ⟨q1, q2⟩ := listP_ok hO hT qs
  obtain ⟨p3, p4⟩ := join_text (O := O) (T := T) (l := listP O T ps) fun y hy => (p1 y hy).1
  have p5 := listP_text hO hT ps
  have q5 := listP_text hO hT qs
  have p6 := textE_len p3
  have q6 := textE_len (O := O) (T := T) (l := listP O T qs) fun y hy => (q1 y hy).1
  rw [p4] at p6
  have p7 := join_len (listP O T ps)
  have q7 := listP_may hO hT qs
  generalize listP O T qs = Q at *
  generalize listP O T ps = L at *
  have s1 := splice_text (O := O) (T := T) (l := join L) (put := Q) (at_ := (a : Int)) (n := (m : Int)) (by omega) (by omega) p3 (fun y hy => (q1 y hy).1)
  rw [p4, Int.toNat_natCast, Int.toNat_natCast] at s1
  have s2 : (spliceL (join L) a m Q).length ≤ 1024 := by
    have f1 := first_lenE (join L) (a : Int)
    have f2 := first_lenE (first (join L) (a : Int)).2 (m : Int)
    have f3 := join_len ((first (join L) (a : Int)).1 ++ Q ++ (first (first (join L) (a : Int)).2 (m : Int)).2)
    rw [List.length_append, List.length_append] at f3
    show (join _).length ≤ 1024
    omega
  unfold spliceR
  rw [if_neg (by simp [q7]), if_neg (by omega), if_neg (by omega)]
  by_cases hz : (m : Int) = 0 ∧ Q = []
  · rw [if_pos hz]
    obtain ⟨h1, rfl⟩ := hz
    obtain rfl : m = 0 := by omega
    refine ⟨_, rfl, p3, ?_⟩
    rw [p4]
    show _ = _ ++ [] ++ _
    rw [List.append_nil, Nat.add_zero, List.take_append_drop]
  · rw [if_neg hz, if_neg (by omega)]
    exact ⟨_, rfl, s1⟩
set_option maxHeartbeats 400000 in
theorem copy15 (v : Value) (l : List UInt8) (B F : Assn) (w : World) (hB : Reads B v l) (hs : Sat (B * F) w) (hl : l.length ≤ 35184372088832) :
    Calls Tryz.prog 34 #[v] w fun e w' => ∃ a c, e = .returned (.slice a l.length c) ∧ Sat (rw TB 1 (.slice a l.length c) (bys l) * (B * F)) w' := by
  obtain ⟨i0, E⟩ := elemB
  obtain ⟨va, vc, rfl, _, _⟩ := (hB F w hs).len
  go_enter Tryz.func34, Tryz.ntmps34
  go_wp2
  go_loopg [3, 4] l.length (fun k t i wr => ∃ (j : Nat) (a : Option Addr) (c : Nat), i = .int .i64 j ∧ t = .slice a j c ∧ j ≤ l.length ∧ Aside (k = l.length - j) ∧ Sat (rw TB 1 (.slice a j c) (bys (l.take j)) * (B * F)) wr)
  case atStart => exact ⟨0, none, 0, rfl, rfl, by omega, rfl, by simpa [bys] using hs.rw_nil⟩
  case round =>
    obtain ⟨j, a, c, rfl, rfl, hj, A, hsr⟩ := hrel
    clear hs
    by_cases hlt : j < l.length
    · have hlt' : (j : Int) < l.length := by omega
      obtain ⟨x, hx⟩ : ∃ x, l[j]? = some x := ⟨l[j], by simp [hlt]⟩
      obtain ⟨b, o, rfl, hc⟩ := (hB _ _ (hsr.take B)).at hx
      have HT : Aside (l.take (j + 1) = l.take j ++ [x]) := take_snoc' hx
      have hs4 := hsr.alloc #[.int .u8 x.toNat] TB
      have hs5 := hs4.take (rw TB 1 (.slice a j c) (bys (l.take j)))
      have hsrc := Src.one_new (P := Tryz.prog) hs4 rfl
      clear hs4 hx
      go_wp2_with (at_builtin; refine wpl_append_same E rfl (.tmp 11) (.tmp 16) rfl rfl rfl hs5 hsrc (by unfold maxLen; omega) (by omega) ?_; intro a' c' w' hs6 hnil; clear hnil hs5 hsrc)
      go_roundg (l.length - (j + 1))
      case measure => have := A.out; omega
      case rel =>
        refine ⟨j + 1, a', c', by go_num, rfl, by omega, rfl, ?_⟩
        rw [HT.out, bys_append]
        refine Sat.weak (B := block wr.heap.size TB [.int .u8 x.toNat]) (hs6.eq ?_)
        rw [show bys [x] = [Value.int .u8 x.toNat] from rfl]
        ac_rfl
    · have hlt' : ¬ (j : Int) < l.length := by omega
      have hje : j = l.length := by omega
      subst hje
      rw [List.take_of_length_le (Nat.le_refl _)] at hsr
      clear hlt hlt' hj
      go_wp2
      go_ret
      exact ⟨a, c, rfl, hsr⟩
theorem splice15 (H : Lh) (O T : List UInt8) (s : TS) (x : Ix) (root at_ n : Int) (l put l' : List Ent) (v : Value) (B F : Assn) (w : World) (hE : ReadsE B v put) (hs : Sat (linesP H O T s x * (B * F)) w) (hI : LnI O T s x) (hl : put.length ≤ 1000) (hR : Rt (nodeAt s) root l) (hj : Joined l) (h4 : ∀ h : Nat, 2 * 4 ^ h ≤ l.length → h ≤ 4) (hr : 2600 ≤ roomOf s.sp) (hf : 2800 ≤ leftOps s) (hq : spliceR l at_ n put = (0, l')) :
    Calls Tryz.prog 33 #[.pointer (some ⟨H.h.t, 0, none⟩), .int .i64 root, .int .i64 at_, .int .i64 n, v] w fun e w' => ∃ (r : Int) (s' : TS), e = .returned (vi2 r 0) ∧ Sat (linesP H O T s' x * (B * F)) w' ∧ LnI O T s' x ∧ Nxt s s' 120 2600 ∧ Rt (nodeAt s') r l' := by
  rw [lines_tr] at hs
  have hs2 : Sat (treeP H.h s * (B * (Sl.block H.L TLn [.pointer (some ⟨H.h.t, 0, none⟩), .pointer (some ⟨H.X, 0, none⟩), .pointer (some ⟨H.A, 0, none⟩)] * (indexA H.X H.M H.h.D O.length x * (tailA H.A H.h.D T.length * F))))) w := hs.eq (by ac_rfl)
  refine (splice_call H.h s root at_ n l put v B _ w hE hs2 hl hI.inv hR hj 4 (Nat.le_refl _) h4 hr hf).mono ?_
  rintro e w' ⟨r, s', e1, q, hn, h1, h2, _⟩
  rw [hq] at e1 h1
  have hn2 : Nxt s s' 120 2600 := hn.more (by decide) (Nat.le_refl _)
  refine ⟨r, s', e1, ?_, hI.nxt hn, hn2, h1 rfl⟩
  rw [lines_tr]
  exact q.eq (by ac_rfl)
theorem rw_maxE {e s : Nat} {a : Option Addr} {n c : Nat} {xs : List Value} {F : Assn} {w : World} (hs : Sat (rw e s (.slice a n c) xs * F) w) : xs.length = n * s ∧ n ≤ c ∧ c ≤ 9223372036854775807 := by
  rcases hs.rw_open with ⟨h1, h2, _⟩ | ⟨g', n', cap, sp, h1, h2, h3, h4, h5, _⟩
  · cases h1; subst h2; simp
  · cases h1; exact ⟨h2, h4, by simpa [maxLen] using h5⟩
theorem lh_edits {l : List Ent} (h : l.length ≤ 200) : ∀ k : Nat, 2 * 4 ^ k ≤ l.length → k ≤ 4 := by
  intro k hk
  apply Classical.byContradiction
  intro hn
  have : 4 ^ 5 ≤ 4 ^ k := Nat.pow_le_pow_right (by omega) (by omega)
  omega
end Go.Proofs.YtfhbmblbidcmmaaGreat
namespace Go.Proofs.YtfhbmblbidcmmaaGreat
set_option linter.unusedSimpArgs false
set_option linter.unusedVariables false
set_option linter.unusedSectionVars false
open Go.RowKit Go.Sl Go.Dk Go.Tr
open Go.Lru (ikey)
attribute [local go_sem ↓] Go.wp_at_zero Go.wp_at_succ
attribute [local go_sem] Go.Sl.cell_sat Go.Sl.frozen_sat

/-- what is known of two lists of parts -/
structure TxEd (O T : List UInt8) (l p : List Ent) (tx tp : List UInt8) : Prop where
  may : mayList l = true
  len : l.length ≤ 200
  plen : p.length ≤ 200
  rt : ∀ y ∈ join l, RtE O T y
  tlen : tx.length ≤ 100000
  tplen : tp.length ≤ 100000
  splice : ∀ a m : Nat, a + m ≤ tx.length → ∃ l' : List Ent, spliceR (join l) a m p = (0, l') ∧ (∀ y ∈ l', RtE O T y) ∧ textE O T l' = tx.take a ++ tp ++ tx.drop (a + m)
theorem listP_ed {O T : List UInt8} (hO : O.length ≤ 3000) (hT : T.length ≤ 3000) (ps qs : List PartT) : TxEd O T (listP O T ps) (listP O T qs) (textE O T (listP O T ps)) (textE O T (listP O T qs)) := by
  obtain ⟨h1, h2⟩ := listP_ok hO hT ps
  obtain ⟨h3, h4⟩ := join_text (O := O) (T := T) (l := listP O T ps) fun y hy => (h1 y hy).1
  exact ⟨listP_may hO hT ps, h2, (listP_ok hO hT qs).2, h3, listP_text hO hT ps, listP_text hO hT qs, edits_splice hO hT ps qs⟩

set_option maxRecDepth 100000 in
set_option maxHeartbeats 12800000 in
theorem linesEdits_walk (O T : List UInt8) (aO aT : Option Addr) (nO cO nT cT : Nat) (vp vq : Value) (ps qs : List PartT) (x y : Int) (B F : Assn) (w : World)
    (hBO : Reads B (.slice aO nO cO) O) (hBT : Reads B (.slice aT nT cT) T) (hP : ReadsP B vp ps) (hQ : ReadsP B vq qs) (hs : Sat (B * F) w) :
    Calls Tryz.prog 6 #[.agg #[.slice aO nO cO, .slice aT nT cT], vp, vq, .int .i64 x, .int .i64 y] w fun e w' => e = .returned (.bool true) ∧ Sat (B * F) w' := by
  obtain ⟨hnO, hnO1, hnO2⟩ := (hBO _ _ hs).n
  obtain ⟨hnT, hnT1, hnT2⟩ := (hBT _ _ hs).n
  have haw := fun F w q => awake15_any F w q
  have hlg := fun F w q => long_any aO aT nO cO nT cT F w q
  haveI := hs.i
  by_cases hlong : 3000 < nO ∨ 3000 < nT
  · have hd : decide (3000 < nO ∨ 3000 < nT) = true := decide_eq_true hlong
    rw [hd] at hlg
    clear hlong hd hBO hBT hP hQ hnO hnT hnO1 hnO2 hnT1 hnT2
    go_enter Tryz.func6, Tryz.ntmps6
    go_wp2_with fail
    refine (haw _ _ satI).mono ?_
    rintro e w1 ⟨rfl, q1⟩
    haveI := q1.i
    go_wp2_with fail
    refine (hlg _ _ satI).mono ?_
    rintro e w2 ⟨rfl, q2⟩
    haveI := q2.i
    go_wp2_with fail
    refine (haw _ _ satI).mono ?_
    rintro e w3 ⟨rfl, q3⟩
    haveI := q3.i
    go_wp2
    go_ret
    exact ⟨rfl, keep2 _ _⟩
  · have hd : decide (3000 < nO ∨ 3000 < nT) = false := decide_eq_false hlong
    rw [hd] at hlg
    have hO3 : O.length ≤ 3000 := by omega
    have hT3 : T.length ≤ 3000 := by omega
    have hset := fun F w q => set15_any O T _ _ 5 B F w hBO hBT q hO3 hT3 (by omega) (by omega)
    have hl1 := fun F w q => list15_any O T aO aT nO cO nT cT vp ps B F w hBO hBT hP q hO3 hT3
    have hl2 := fun F w q => list15_any O T aO aT nO cO nT cT vq qs B F w hBO hBT hQ q hO3 hT3
    have htx := listP_ed hO3 hT3 ps qs
    obtain ⟨L, hL⟩ : ∃ L, listP O T ps = L := ⟨_, rfl⟩
    rw [hL] at hl1 htx
    obtain ⟨K, hK⟩ : ∃ K, listP O T qs = K := ⟨_, rfl⟩
    rw [hK] at hl2 htx
    obtain ⟨tx, htxE⟩ : ∃ tx, textE O T L = tx := ⟨_, rfl⟩
    rw [htxE] at hl1 htx
    obtain ⟨tp, htpE⟩ : ∃ tp, textE O T K = tp := ⟨_, rfl⟩
    rw [htpE] at hl2 htx
    have HTX : Aside (TxEd O T L K tx tp) := htx
    have hI0 := lnI0 O T 5 hO3 hT3 (by omega) (by omega)
    have hr0 := tsL_room O T 5
    have hf0 : 60000000 ≤ leftOps (tsL O T 5) := by
      show 60000000 ≤ (opsMax - 0) / 2
      unfold opsMax
      decide
    obtain ⟨s0, hs0⟩ : ∃ s0, tsL O T 5 = s0 := ⟨_, rfl⟩
    rw [hs0] at hset hI0 hr0 hf0
    have H0 : Aside (LnI O T s0 ix0 ∧ roomOf s0.sp = 64999 ∧ 60000000 ≤ leftOps s0) := ⟨hI0, hr0, hf0⟩
    have htl := htx.tlen
    have htp := htx.tplen
    obtain ⟨nt, hnt⟩ : ∃ nt, tx.length = nt := ⟨_, rfl⟩
    obtain ⟨nl, hnl⟩ : ∃ nl, L.length = nl := ⟨_, rfl⟩
    obtain ⟨mt, hmt⟩ : ∃ mt, tp.length = mt := ⟨_, rfl⟩
    obtain ⟨nk, hnk⟩ : ∃ nk, K.length = nk := ⟨_, rfl⟩
    have HN : Aside (tx.length = nt ∧ L.length = nl ∧ tp.length = mt ∧ K.length = nk) := ⟨hnt, hnl, hmt, hnk⟩
    rw [hnt] at htl
    rw [hmt] at htp
    rw [hnt, hnl] at hl1
    rw [hmt, hnk] at hl2
    have hp1 := fun w => pick_any x ((nt : Int) + 1) w (by omega) (by omega)
    have ha0 : 0 ≤ x % ((nt : Int) + 1) := Int.emod_nonneg _ (by omega)
    have ha1 : x % ((nt : Int) + 1) < (nt : Int) + 1 := Int.emod_lt_of_pos _ (by omega)
    obtain ⟨a, ha⟩ : ∃ a : Nat, x % ((nt : Int) + 1) = a := ⟨_, (Int.toNat_of_nonneg ha0).symm⟩
    rw [ha] at hp1 ha1
    have hp2 := fun w => pick_any y ((nt : Int) - a + 1) w (by omega) (by omega)
    have hm0 : 0 ≤ y % ((nt : Int) - a + 1) := Int.emod_nonneg _ (by omega)
    have hm1 : y % ((nt : Int) - a + 1) < (nt : Int) - a + 1 := Int.emod_lt_of_pos _ (by omega)
    obtain ⟨m, hm⟩ : ∃ m : Nat, y % ((nt : Int) - a + 1) = m := ⟨_, (Int.toNat_of_nonneg hm0).symm⟩
    rw [hm] at hp2 hm1
    have hant : a ≤ nt := by omega
    have hamt : a + m ≤ nt := by omega
    clear hlong hd hBO hBT hP hQ hnO hnT hnO1 hnO2 hnT1 hnT2 hI0 hr0 hf0 hs0 htx hL hK htxE htpE hO3 hT3 hnt hnl hmt hnk ha0 ha1 ha hm0 hm1 hm
    go_enter Tryz.func6, Tryz.ntmps6
    go_wp2_with fail
    refine (haw _ _ satI).mono ?_
    rintro e w1 ⟨rfl, q1⟩
    haveI := q1.i
    go_wp2_with fail
    refine (hlg _ _ satI).mono ?_
    rintro e w2 ⟨rfl, q2⟩
    have q3 : Sat (B * (Sl.block w.heap.size TFi [.slice aO nO cO, .slice aT nT cT] * F)) w2 := q2.eq (by ac_rfl)
    obtain ⟨N, hN⟩ : ∃ N, w.heap.size = N := ⟨_, rfl⟩
    rw [hN] at q3 ⊢
    haveI := q3.i
    clear q1 q2 hN haw hlg
    go_wp2_with fail
    refine (hset _ _ (takeI B)).mono ?_
    rintro e w4 ⟨b, H, rfl, q4⟩
    unfold benchA at q4
    haveI := q4.i
    clear q3 hset
    go_wp2_with fail
    refine (hl1 _ _ (takeI B)).mono ?_
    rintro e w5 ⟨al, cl, at_, ct, rfl, q5⟩
    haveI := q5.i
    clear q4 hl1
    go_wp2_with fail
    refine (hl2 _ _ (takeI B)).mono ?_
    rintro e w6 ⟨ak, ck, ap, cp, rfl, q6⟩
    haveI := q6.i
    have q7 : Sat (linesP H O T s0 ix0 * (rw TEn 4 (.slice al nl cl) (ecs L) * (rw TEn 4 (.slice ak nk ck) (ecs K) * (rw TB 1 (.slice at_ nt ct) (bys tx) * (rw TB 1 (.slice ap mt cp) (bys tp) * (B * (Sl.block b TB15 [.pointer (some ⟨H.h.D, 0, none⟩), .pointer (some ⟨H.h.C, 0, none⟩), .pointer (some ⟨H.h.t, 0, none⟩), .pointer (some ⟨H.X, 0, none⟩), .pointer (some ⟨H.L, 0, none⟩)] * F))))))) w6 := keep8 _ _ _ _ _ _ _ _
    haveI := q7.i
    clear q5 q6 hl2
    have hbd := fun F w q => build15 H O T s0 ix0 L (.slice al nl cl) (rw TEn 4 (.slice al nl cl) (ecs L)) F w (readsE_rw (q7.take (rw TEn 4 (.slice al nl cl) (ecs L))) HN.out.2.1.symm) q H0.out.1 HTX.out.may (by have := HTX.out.len; omega) (by have := H0.out; omega) (by have := H0.out; omega)
    go_wp2_with fail
    refine (hbd _ _ (takeI2 (linesP H O T s0 ix0) (rw TEn 4 (.slice al nl cl) (ecs L)))).mono ?_
    rintro e w7 ⟨r, s1, rfl, q8, i1, n1, rt1⟩
    have H1 : Aside (LnI O T s1 ix0 ∧ Rt (nodeAt s1) r (join L) ∧ 50000000 ≤ leftOps s1 ∧ 60000 ≤ roomOf s1.sp) := ⟨i1, rt1, by have := H0.out; have := n1.left; omega, by have := H0.out; have := n1.room; omega⟩
    have q9 : Sat (linesP H O T s1 ix0 * (rw TEn 4 (.slice ak nk ck) (ecs K) * (rw TB 1 (.slice at_ nt ct) (bys tx) * (rw TB 1 (.slice ap mt cp) (bys tp) * (B * (Sl.block b TB15 [.pointer (some ⟨H.h.D, 0, none⟩), .pointer (some ⟨H.h.C, 0, none⟩), .pointer (some ⟨H.h.t, 0, none⟩), .pointer (some ⟨H.X, 0, none⟩), .pointer (some ⟨H.L, 0, none⟩)] * F)))))) w7 := by
      haveI := q8.i
      exact keep7 _ _ _ _ _ _ _
    haveI := q9.i
    clear q7 q8 i1 n1 rt1 hbd
    unfold vi2
    go_wp2_with fail
    refine (hp1 _).mono ?_
    rintro e w8 ⟨rfl, rfl⟩
    go_wp2_with fail
    refine (hp2 _).mono ?_
    rintro e w8 ⟨rfl, rfl⟩
    obtain ⟨l', hsp, hrt', htx'⟩ := HTX.out.splice a m (by rw [HN.out.1]; exact hamt)
    obtain ⟨all, hall⟩ : ∃ all, tx.take a ++ tp ++ tx.drop (a + m) = all := ⟨_, rfl⟩
    rw [hall] at htx'
    have HA : Aside (tx.take a ++ tp ++ tx.drop (a + m) = all ∧ (∀ y ∈ l', RtE O T y) ∧ textE O T l' = all ∧ all.length = a + mt + (nt - (a + m))) := ⟨hall, hrt', htx', by rw [← hall, List.length_append, List.length_append, List.length_take, List.length_drop, HN.out.1, HN.out.2.2.1]; omega⟩
    have hsd := fun F w q => splice15 H O T s1 ix0 r a m (join L) K l' (.slice ak nk ck) (rw TEn 4 (.slice ak nk ck) (ecs K)) F w (readsE_rw (q9.take (rw TEn 4 (.slice ak nk ck) (ecs K))) HN.out.2.2.2.symm) q H1.out.1 (by have := HTX.out.plen; omega) H1.out.2.1 (joined_join L) (lh_edits (Nat.le_trans (join_len L) HTX.out.len)) (by have := H1.out; omega) (by have := H1.out; omega) hsp
    clear hall hrt' htx' hsp hp1 hp2
    go_wp2_with fail
    refine (hsd _ _ (takeI2 (linesP H O T s1 ix0) (rw TEn 4 (.slice ak nk ck) (ecs K)))).mono ?_
    rintro e w9 ⟨r2, s2, rfl, q10, i2, n2, rt2⟩
    have H2 : Aside (LnI O T s2 ix0 ∧ Rt (nodeAt s2) r2 l' ∧ 40000000 ≤ leftOps s2) := ⟨i2, rt2, by have := H1.out; have := n2.left; omega⟩
    have q11 : Sat (rw TB 1 (.slice at_ nt ct) (bys tx) * (linesP H O T s2 ix0 * (rw TB 1 (.slice ap mt cp) (bys tp) * (B * (Sl.block b TB15 [.pointer (some ⟨H.h.D, 0, none⟩), .pointer (some ⟨H.h.C, 0, none⟩), .pointer (some ⟨H.h.t, 0, none⟩), .pointer (some ⟨H.X, 0, none⟩), .pointer (some ⟨H.L, 0, none⟩)] * F))))) w9 := by
      haveI := q10.i
      exact keep6 _ _ _ _ _ _
    haveI := q11.i
    clear q9 q10 i2 n2 rt2 hsd
    unfold vi2
    obtain ⟨iB, EB⟩ := elemB
    obtain ⟨hz1, hz2, hz3⟩ := rw_maxE q11
    have hc1 := at_to (P := Tryz.prog) EB (a := at_) (n := nt) (c := ct) a (by omega)
    obtain ⟨am, ham⟩ : ∃ am, a + m = am := ⟨_, rfl⟩
    have HAM : Aside (a + m = am) := ham
    have hw1 : IntKind.i64.wrap ((a : Int) + (m : Int)) = (am : Int) := (IntWalk.i64_in _ (by omega)).trans (by omega)
    rw [ham] at hamt
    have hc2 := at_from (P := Tryz.prog) EB (a := at_) (n := nt) (c := ct) am hamt
    have hR0 : Reads (rw TB 1 (.slice at_ nt ct) (bys tx)) (.slice at_ nt ct) tx := Reads.rw
    have hr1 := Reads.cut hR0 0 a (by omega) hant
    have hr2 := Reads.cut hR0 am nt hamt (Nat.le_refl _)
    rw [List.drop_zero, Nat.sub_zero, Nat.sub_zero] at hr1
    rw [show (tx.drop am).take (nt - am) = tx.drop am from List.take_of_length_le (Nat.le_of_eq (by rw [List.length_drop, HN.out.1]))] at hr2
    have hcp := fun F w q => copy15 _ _ (rw TB 1 (.slice at_ nt ct) (bys tx)) F w hr1 q (by rw [List.length_take, HN.out.1]; omega)
    rw [show (tx.take a).length = a by rw [List.length_take, HN.out.1]; omega] at hcp
    obtain ⟨c1, hc1e⟩ : ∃ c1, cutA at_ ct 0 1 = c1 := ⟨_, rfl⟩
    rw [hc1e] at hc1 hcp
    obtain ⟨c2, hc2e⟩ : ∃ c2, cutA at_ ct am 1 = c2 := ⟨_, rfl⟩
    rw [hc2e] at hc2 hr2
    obtain ⟨md, hmd⟩ : ∃ md, nt - am = md := ⟨_, rfl⟩
    rw [hmd] at hc2 hr2
    have HR : Aside (Reads (rw TB 1 (.slice at_ nt ct) (bys tx)) (.slice c2 md (ct - am)) (tx.drop am) ∧ (tx.drop am).length = md) := ⟨hr2, by rw [List.length_drop, HN.out.1]; exact hmd⟩
    have hmd2 : md ≤ 100000 := by omega
    have hact : (a : Int) ≤ ct := by omega
    clear hR0 hr1 hr2 hc1e hc2e hz1 hz2 hz3
    go_wp2_with fail
    clear ham
    go_region_law first
      | (go_simp; go_at_call 34; refine (hcp _ _ (takeI (rw TB 1 (.slice at_ nt ct) (bys tx)))).mono ?_; rintro e w10 ⟨a1, e1, rfl, q12⟩; haveI := q12.i)
      | (refine step_append_sl EB rfl (.tmp 95) (.tmp 96) rfl rfl rfl (takeI (rw TB 1 (.slice a1 a e1) (bys (tx.take a)))) (Reads.srcI (Reads.rw (e := TB) (v := .slice ap mt cp) (l := tp)) HN.out.2.2.1) (by unfold maxLen; omega) (by omega) ?_; intro a2 e2 w11 q13 z13; clear z13; haveI := q13.i)
      | (refine step_append_sl EB rfl (.tmp 97) (.tmp 102) rfl rfl rfl (takeI (rw TB 1 (.slice a2 (a + mt) e2) (bys (tx.take a) ++ bys tp))) (Reads.srcI HR.out.1 HR.out.2) (by unfold maxLen; omega) (by omega) ?_; intro a3 e3 w12 q14 z14; clear z14; haveI := q14.i)
    all_goals
      obtain ⟨na, hna⟩ : ∃ na, a + mt + md = na := ⟨_, rfl⟩
      rw [hna] at q14 ⊢
      have e5 : bys (tx.take a) ++ bys tp ++ bys (tx.drop am) = bys all := by rw [← HA.out.1, bys_append, bys_append, HAM.out]
      have hmm := HAM.out
      have hal : all.length = na := by rw [HA.out.2.2.2]; omega
      rw [e5] at q14
      haveI := q14.i
      have q15 : Sat (linesP H O T s2 ix0 * (rw TB 1 (.slice a3 na e3) (bys all) * (rw TB 1 (.slice ap mt cp) (bys tp) * (B * (Sl.block b TB15 [.pointer (some ⟨H.h.D, 0, none⟩), .pointer (some ⟨H.h.C, 0, none⟩), .pointer (some ⟨H.h.t, 0, none⟩), .pointer (some ⟨H.X, 0, none⟩), .pointer (some ⟨H.L, 0, none⟩)] * F))))) w12 := keep6 _ _ _ _ _ _
      haveI := q15.i
      obtain ⟨ap2, hap2⟩ : ∃ ap2, a + mt = ap2 := ⟨_, rfl⟩
      have hw2 : IntKind.i64.wrap ((a : Int) + (mt : Int)) = (ap2 : Int) := (IntWalk.i64_in _ (by omega)).trans (by omega)
      have hna1 : na ≤ 200000 := by omega
      have hna2 : ap2 ≤ na := by omega
      have HL : Aside (all.length = na ∧ ap2 ≤ na ∧ na ≤ 200000) := ⟨hal, hna2, hna1⟩
      clear q11 q12 q13 q14 hcp hc1 hc2 hw1 e5 hal hna hap2 hmm
      have hc := fun F w q => lcount_any H O T s2 ix0 r2 l' F w q H2.out.1 H2.out.2.1 HA.out.2.1 (by have := H2.out; omega)
      have hen := fun F w q => ends_any (.slice a3 na e3) all (rw TB 1 (.slice a3 na e3) (bys all)) F w Reads.rw q (by have := HL.out; omega)
      have hrl := fun F w q => rline_any (.slice a3 na e3) all ap2 (rw TB 1 (.slice a3 na e3) (bys all)) F w Reads.rw q (by have := HL.out; omega) (by have := HL.out; omega)
      have hrs := fun p F w q => rstart_any (.slice a3 na e3) all p (rw TB 1 (.slice a3 na e3) (bys all)) F w Reads.rw q (by have := HL.out; omega)
      rw [HA.out.2.2.1] at hc
      obtain ⟨ne, hne⟩ : ∃ ne, endsC all = ne := ⟨_, rfl⟩
      rw [hne] at hc hen
      clear hne
      obtain ⟨x3, hx3⟩ : ∃ x3, ixList O ix0 l' = x3 := ⟨_, rfl⟩
      rw [hx3] at hc
      have HX : Aside (IxOk O x3) := (by rw [← hx3]; exact ixList_ok H2.out.1.ix HA.out.2.1 : IxOk O x3)
      clear hx3
      go_wp2_with fail
      refine (hc _ _ (takeI (linesP H O T s2 ix0))).mono ?_
      rintro e w13 ⟨s3, rfl, q16, n3⟩
      have H3 : Aside (LnI O T s3 x3 ∧ Rt (nodeAt s3) r2 l' ∧ 30000000 ≤ leftOps s3) := ⟨(H2.out.1.nxt n3).at HX.out, H2.out.2.1.le n3.le, by have := H2.out; have := n3.left; omega⟩
      haveI := q16.i
      clear q15 hc n3
      have hln := fun F w q => line_any H O T s3 x3 r2 (ap2 : Int) l' F w q H3.out.1 H3.out.2.1 HA.out.2.1 (by have := H3.out; omega)
      rw [HA.out.2.2.1] at hln
      go_wp2_with fail
      refine (hln _ _ (takeI (linesP H O T s3 x3))).mono ?_
      rintro e w14 ⟨n5, er5, s4, x4, rfl, q17, i4, n4, ok4⟩
      have H4 : Aside (LnI O T s4 x4 ∧ Rt (nodeAt s4) r2 l' ∧ 20000000 ≤ leftOps s4) := ⟨i4, H3.out.2.1.le n4.le, by have := H3.out; have := n4.left; omega⟩
      unfold LineOk at ok4
      rw [if_neg (by have := HL.out; omega), Int.toNat_natCast] at ok4
      obtain ⟨rfl, rfl⟩ := ok4
      haveI := q17.i
      clear q16 hln n4 i4
      have HS : Aside (0 ≤ startI all (lnTo all ap2 : Nat)) := startI_line
      have hlt : lnTo all ap2 ≤ 200000 := by
        have h1 : lnTo all ap2 = endsC (all.take ap2) := rfl
        have h2 := endsC_le (all.take ap2)
        rw [List.length_take] at h2
        have := HL.out
        omega
      have hrl2 : ∀ (F : Assn) (w : World), Sat (rw TB 1 (.slice a3 na e3) (bys all) * F) w → Calls Tryz.prog 27 #[.slice a3 na e3, .int .i64 (ap2 : Int)] w fun e w' => e = .returned (.int .i64 (lnTo all ap2 : Nat)) ∧ Sat (rw TB 1 (.slice a3 na e3) (bys all) * F) w' := hrl
      clear hrl
      obtain ⟨ln, hln⟩ : ∃ ln, lnTo all ap2 = ln := ⟨_, rfl⟩
      rw [hln] at HS hlt hrl2 ⊢
      clear hln
      have hst := fun F w q => start_any H O T s4 x4 r2 (ln : Int) l' F w q H4.out.1 H4.out.2.1 HA.out.2.1 (by have := H4.out; omega) (by omega)
      rw [HA.out.2.2.1] at hst
      unfold lineV
      go_wp2_with fail
      refine (hst _ _ (takeI (linesP H O T s4 x4))).mono ?_
      rintro e w15 ⟨n6, er6, s5, x5, rfl, q18, _, _, ok5⟩
      unfold StartOk at ok5
      have hrs2 := fun F w q => hrs (ln : Int) F w q
      obtain ⟨sv, hsv⟩ : ∃ sv, startI all (ln : Int) = sv := ⟨_, rfl⟩
      rw [hsv] at ok5 HS hrs2
      rw [if_neg (by have := HS.out; omega)] at ok5
      obtain ⟨rfl, rfl⟩ := ok5
      haveI := q18.i
      clear q17 hst hrs hsv
      unfold lineV
      go_wp2_with fail
      refine (hen _ _ (takeI (rw TB 1 (.slice a3 na e3) (bys all)))).mono ?_
      rintro e w16 ⟨ae, ce, rfl, q19⟩
      haveI := q19.i
      clear q18 hen
      go_wp2_with fail
      refine (hrl2 _ _ (takeI (rw TB 1 (.slice a3 na e3) (bys all)))).mono ?_
      rintro e w17 ⟨rfl, q20⟩
      haveI := q20.i
      clear q19 hrl2
      go_wp2_with fail
      refine (hrs2 _ _ (takeI (rw TB 1 (.slice a3 na e3) (bys all)))).mono ?_
      rintro e w18 ⟨rfl, q21⟩
      haveI := q21.i
      clear q20 hrs2
      go_wp2
      go_ret
      exact ⟨rfl, keep2 _ _⟩
end Go.Proofs.YtfhbmblbidcmmaaGreat
