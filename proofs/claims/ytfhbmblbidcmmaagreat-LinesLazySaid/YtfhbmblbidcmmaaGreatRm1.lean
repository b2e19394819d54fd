/-
  Walks and plain laws that the lines of texts lean on. No condition (the law's walk)
-/
import Derived.Test.YtfhbmblbidcmmaaGreatRl52
import Derived.Test.YtfhbmblbidcmmaaGreatRl53
import Derived.Deep.RegionHeld3
set_option linter.unusedSimpArgs false
set_option linter.unusedVariables false
namespace Go.Proofs.YtfhbmblbidcmmaaGreat
set_option linter.unusedSimpArgs false
set_option linter.unusedVariables false
set_option linter.unusedSectionVars false
open Go.RowKit Go.Sl Go.Dk Go.Tr
open Go.Lru (ikey)
attribute [local go_sem ↓] Go.wp_at_zero Go.wp_at_succ
attribute [local go_sem] Go.Sl.cell_sat Go.Sl.frozen_sat

theorem ixRead_any (X M D : Nat) (n : Int) (x : Ix) (F : Assn) (w : World) (hs : Sat (indexA X M D n x * F) w) :
    Calls Tryz.prog 30 #[.pointer (some ⟨X, 0, none⟩)] w fun e w' => e = .returned (.int .i64 x.rd) ∧ w = w' := by
  haveI := hs.i
  go_enter Tryz.func30, Tryz.ntmps30
  go_wp2
  go_ret
  exact ⟨rfl, rfl⟩
set_option maxHeartbeats 800000 in
theorem size10_one (b : Nat) (s p n : Int) (F : Assn) (w : World) (hs : Sat (Sl.block b 75 [.int .i64 s, .int .i64 p, .int .i64 n] * F) w) (h1 : 0 ≤ n) (h2 : n ≤ 1048576) :
    Calls Tryz.prog 32 #[.slice (some ⟨b, 0, none⟩) 1 1] w fun e w' => e = .returned (.int .i64 n) ∧ w = w' := by
  haveI := hs.i
  have hw : IntKind.i64.wrap n = n := IntWalk.i64_in _ (by omega)
  go_enter Tryz.func32, Tryz.ntmps32
  go_wp2
  go_loopg [3, 4] 1 (fun g t3 t4 wr => ((t3 = .int .i64 0 ∧ t4 = .int .i64 0 ∧ g = 1) ∨ (t3 = .int .i64 n ∧ t4 = .int .i64 1 ∧ g = 0)) ∧ w = wr)
  case atStart => exact ⟨.inl ⟨rfl, rfl, rfl⟩, rfl⟩
  case round =>
    obtain ⟨h, rfl⟩ := hrel
    rcases h with ⟨rfl, rfl, rfl⟩ | ⟨rfl, rfl, rfl⟩
    · go_wp2
      go_roundg 0
      case measure => omega
      case rel => exact ⟨.inr ⟨by go_num, rfl, rfl⟩, rfl⟩
    · go_wp2
      go_ret
      exact ⟨rfl, rfl⟩
set_option maxHeartbeats 800000 in
theorem size14_one (b : Nat) (s p n l : Int) (F : Assn) (w : World) (hs : Sat (Sl.block b TEn [.int .i64 s, .int .i64 p, .int .i64 n, .int .i64 l] * F) w) (h1 : 0 ≤ n) (h2 : n ≤ 1048576) :
    Calls Tryz.prog 31 #[.slice (some ⟨b, 0, none⟩) 1 1] w fun e w' => e = .returned (.int .i64 n) ∧ w = w' := by
  haveI := hs.i
  have hw : IntKind.i64.wrap n = n := IntWalk.i64_in _ (by omega)
  go_enter Tryz.func31, Tryz.ntmps31
  go_wp2
  go_loopg [3, 4] 1 (fun g t3 t4 wr => ((t3 = .int .i64 0 ∧ t4 = .int .i64 0 ∧ g = 1) ∨ (t3 = .int .i64 n ∧ t4 = .int .i64 1 ∧ g = 0)) ∧ w = wr)
  case atStart => exact ⟨.inl ⟨rfl, rfl, rfl⟩, rfl⟩
  case round =>
    obtain ⟨h, rfl⟩ := hrel
    rcases h with ⟨rfl, rfl, rfl⟩ | ⟨rfl, rfl, rfl⟩
    · go_wp2
      go_roundg 0
      case measure => omega
      case rel => exact ⟨.inr ⟨by go_num, rfl, rfl⟩, rfl⟩
    · go_wp2
      go_ret
      exact ⟨rfl, rfl⟩

/-- a part that is counted, of the tail -/
def markP (p : PartT) : PartT := ⟨1, p.pos, p.len, true⟩
theorem pcs_snoc (l : List PartT) (p : PartT) : pcs (l ++ [p]) = pcs l ++ ptrow p := by simp [pcs]
theorem pcs_len (l : List PartT) : (pcs l).length = l.length * 4 := flatV_len (f := ptrow) (fun _ => rfl) l
theorem mark_set (xs : List Value) (j : Nat) (p : PartT) (h : xs.length = j * 4) : ((xs ++ ptrow p).set (j * 4 + 3) (.bool true)).set (j * 4) (.int .i64 1) = xs ++ ptrow (markP p) := by
  rw [List.set_append_right _ _ (by omega), h, Nat.add_sub_cancel_left, List.set_append_right _ _ (by omega), h, Nat.sub_self]
  rfl
theorem mark_at (xs : List Value) (j k : Nat) (p : PartT) (u : Value) (h : xs.length = j * 4) (hu : (ptrow p)[k]? = some u) : At (xs ++ ptrow p) (j * 4 + k) u := ⟨by rw [List.getElem?_append_right (by omega), h, Nat.add_sub_cancel_left]; exact hu⟩
theorem marked_lines {O T : List UInt8} (ps : List PartT) : ∀ y ∈ listP O T (ps.map markP), 0 ≤ y.lines := by
  intro y hy
  unfold listP at hy
  obtain ⟨p, hp, hy⟩ := List.mem_flatMap.1 hy
  obtain ⟨q, _, rfl⟩ := List.mem_map.1 (List.mem_of_mem_take hp)
  unfold entOf at hy
  split at hy
  · cases hy
  · simp only [List.mem_singleton] at hy
    subst hy
    unfold entP
    have h1 : (markP q).cnt = true ∧ (markP q).src % 2 = 1 := ⟨rfl, rfl⟩
    simp only
    rw [if_pos h1]
    omega
theorem tsL_lo (O T : List UInt8) (cap : Int) : 60000000 ≤ leftOps (tsL O T cap) := by
  show 60000000 ≤ (opsMax - 0) / 2
  unfold opsMax
  decide
/-- the whole original as a list -/
def wholeL (n : Nat) : List Ent := [⟨0, 0, n, -1⟩]
theorem wholeL_ok {O T : List UInt8} (h1 : 1 ≤ O.length) (h2 : O.length ≤ 3000) : mayList (wholeL O.length) = true ∧ join (wholeL O.length) = wholeL O.length ∧ (∀ y ∈ wholeL O.length, RtE O T y) ∧ textE O T (wholeL O.length) = O := by
  refine ⟨?_, rfl, ?_, ?_⟩
  · show ([(⟨0, 0, (O.length : Int), -1⟩ : Ent)].all mayEnt && decide (eBytes [⟨0, 0, (O.length : Int), -1⟩] ≤ 1048576)) = true
    have h3 : mayEnt ⟨0, 0, (O.length : Int), -1⟩ = true := by
      rw [mayE_iff]
      exact ⟨.inl rfl, Int.le_refl _, by show (0 : Int) ≤ 16777216; omega, by show (1 : Int) ≤ O.length; omega, by show (O.length : Int) ≤ 16777216 - 0; omega, by show (O.length : Int) ≤ 1048576; omega, ⟨Int.le_refl _, by show (-1 : Int) ≤ O.length; omega⟩, .inr rfl⟩
    simp [h3, eBytes]
    omega
  · intro y hy
    simp only [wholeL, List.mem_singleton] at hy
    subst hy
    refine ⟨Int.le_refl _, by show (0 : Int) ≤ O.length; omega, ?_, .inl rfl⟩
    show (0 : Int) + O.length ≤ ((srcF O T 0).length : Int)
    rw [srcF0]
    omega
  · simp [wholeL, textE, pieceE, srcF0]
theorem whole_first {O : List UInt8} (h2 : O.length ≤ 3000) : (ixList O ix0 (wholeL O.length)).rd = O.length ∧ ixList O (ixList O ix0 (wholeL O.length)) (wholeL O.length) = ixList O ix0 (wholeL O.length) := by
  have e : ∀ x, ixList O x (wholeL O.length) = (ixCount O O.length x 0 O.length).2 := by
    intro x
    show ixEnt O x ⟨0, 0, (O.length : Int), -1⟩ = _
    unfold ixEnt
    rw [if_pos ⟨by simp, rfl⟩]
    simp
  rw [e, e]
  obtain ⟨r1, r2, r3⟩ := ixCount_first (by omega : O.length ≤ 1048576) O.length (x := ix0) (a := 0) (.inl rfl) (Nat.zero_le _) (by omega) (by simp [ix0]) (by simp [ix0]) (fun c _ => rfl)
  refine ⟨?_, ixCount_again O.length (.inl rfl) fun c h3 h4 => r2 c h3 h4⟩
  rw [r1]
  simp [ix0]
end Go.Proofs.YtfhbmblbidcmmaaGreat
namespace Go.Proofs.YtfhbmblbidcmmaaGreat
set_option linter.unusedSimpArgs false
set_option linter.unusedVariables false
set_option linter.unusedSectionVars false
open Go.RowKit Go.Sl Go.Dk Go.Tr
open Go.Lru (ikey)
attribute [local go_sem ↓] Go.wp_at_zero Go.wp_at_succ
attribute [local go_sem] Go.Sl.cell_sat Go.Sl.frozen_sat

structure TxLz (O T : List UInt8) (l : List Ent) (tx : List UInt8) : Prop where
  may : mayList l = true
  len : l.length ≤ 200
  rt : ∀ y ∈ join l, RtE O T y
  text : textE O T (join l) = tx
  tlen : tx.length ≤ 100000
  cnt : ∀ y ∈ join l, 0 ≤ y.lines
theorem listP_lz {O T : List UInt8} (hO : O.length ≤ 3000) (hT : T.length ≤ 3000) (ps : List PartT) (h : ∀ y ∈ listP O T ps, 0 ≤ y.lines) : TxLz O T (listP O T ps) (textE O T (listP O T ps)) := by
  obtain ⟨h1, h2⟩ := listP_ok hO hT ps
  obtain ⟨h3, h4⟩ := join_text (O := O) (T := T) (l := listP O T ps) fun y hy => (h1 y hy).1
  refine ⟨listP_may hO hT ps, h2, h3, h4, ?_, join_counted h⟩
  have h5 := text500 (O := O) (T := T) hO hT (ps.take 200)
  have h6 : (ps.take 200).length ≤ 200 := by rw [List.length_take]; omega
  show (textE O T ((ps.take 200).flatMap (entOf O T))).length ≤ 100000
  omega
abbrev TPt : TypeId := 72
theorem elemPt : ∃ i, ElemOk Tryz.prog 53 TPt 4 32 i (.agg #[.int .i64 0, .int .i64 0, .int .i64 0, .bool false]) := elemOk Tryz.underlying53 (by kernel_rfl) rfl (by omega)

set_option maxRecDepth 100000 in
set_option maxHeartbeats 12800000 in
theorem linesLazy_walk (O T : List UInt8) (aO aT : Option Addr) (nO cO nT cT : Nat) (ap : Option Addr) (cp : Nat) (ps : List PartT) (B F : Assn) (w : World)
    (hBO : Reads B (.slice aO nO cO) O) (hBT : Reads B (.slice aT nT cT) T) (hP : ReadsP B (.slice ap ps.length cp) ps) (hps : ps.length * 32 ≤ 140737488355328) (hs : Sat (B * F) w) :
    Calls Tryz.prog 5 #[.agg #[.slice aO nO cO, .slice aT nT cT], .slice ap ps.length cp] w fun e w' => e = .returned (.bool true) ∧ Sat (B * F) w' := by
  obtain ⟨hnO, hnO1, hnO2⟩ := (hBO _ _ hs).n
  obtain ⟨hnT, hnT1, hnT2⟩ := (hBT _ _ hs).n
  have hcO : cO ≤ 9223372036854775807 := by simpa [maxLen] using hnO2
  obtain ⟨np, hnp⟩ : ∃ np, ps.length = np := ⟨_, rfl⟩
  have HP : Aside (ReadsP B (.slice ap ps.length cp) ps ∧ ps.length = np) := ⟨hP, hnp⟩
  have HB : Aside (Reads B (.slice aO nO cO) O ∧ Reads B (.slice aT nT cT) T ∧ nO = O.length ∧ nT = T.length) := ⟨hBO, hBT, hnO, hnT⟩
  have haw := fun F w q => awake15_any F w q
  have hlg := fun F w q => long_any aO aT nO cO nT cT F w q
  rw [hnp] at hps ⊢
  haveI := hs.i
  by_cases hlong : 3000 < nO ∨ 3000 < nT
  · have hd : decide (3000 < nO ∨ 3000 < nT) = true := decide_eq_true hlong
    rw [hd] at hlg
    clear hlong hd hBO hBT hP hnO hnT hnO1 hnO2 hnT1 hnT2 hnp
    go_enter Tryz.func5, Tryz.ntmps5
    go_wp2_with fail
    refine (haw _ _ satI).mono ?_
    rintro e w1 ⟨rfl, q1⟩
    haveI := q1.i
    go_wp2_with fail
    refine (hlg _ _ satI).mono ?_
    rintro e w2 ⟨rfl, q2⟩
    haveI := q2.i
    go_wp2_with fail
    refine (haw _ _ satI).mono ?_
    rintro e w3 ⟨rfl, q3⟩
    haveI := q3.i
    go_wp2
    go_ret
    exact ⟨rfl, keep2 _ _⟩
  · have hd : decide (3000 < nO ∨ 3000 < nT) = false := decide_eq_false hlong
    rw [hd] at hlg
    have hO3 : O.length ≤ 3000 := by omega
    have hT3 : T.length ≤ 3000 := by omega
    have hset := fun F w q => set15_any O T _ _ 9 B F w hBO hBT q hO3 hT3 (by omega) (by omega)
    have hI0 := lnI0 O T 9 hO3 hT3 (by omega) (by omega)
    have hr0 := tsL_room O T 9
    have hf0 := tsL_lo O T 9
    obtain ⟨s0, hs0⟩ : ∃ s0, tsL O T 9 = s0 := ⟨_, rfl⟩
    rw [hs0] at hset hI0 hr0 hf0
    have H0 : Aside (LnI O T s0 ix0 ∧ roomOf s0.sp = 64999 ∧ 60000000 ≤ leftOps s0) := ⟨hI0, hr0, hf0⟩
    have H3 : Aside (O.length ≤ 3000 ∧ T.length ≤ 3000) := ⟨hO3, hT3⟩
    obtain ⟨i0, E⟩ := elemPt
    have hnO3 : nO ≤ 3000 := by omega
    clear hlong hd hBO hBT hP hnO hnT hnO1 hnO2 hnT1 hnT2 hI0 hr0 hf0 hs0 hO3 hT3 hnp
    go_enter Tryz.func5, Tryz.ntmps5
    go_wp2_with fail
    refine (haw _ _ satI).mono ?_
    rintro e w1 ⟨rfl, q1⟩
    haveI := q1.i
    go_wp2_with fail
    refine (hlg _ _ satI).mono ?_
    rintro e w2 ⟨rfl, q2⟩
    have q3 : Sat (B * (Sl.block w.heap.size TFi [.slice aO nO cO, .slice aT nT cT] * F)) w2 := q2.eq (by ac_rfl)
    obtain ⟨N, hN⟩ : ∃ N, w.heap.size = N := ⟨_, rfl⟩
    rw [hN] at q3 ⊢
    haveI := q3.i
    clear q1 q2 hN haw hlg
    go_wp2_with fail
    refine (hset _ _ (takeI B)).mono ?_
    rintro e w4 ⟨b, H, rfl, q4⟩
    unfold benchA at q4
    have q5 : Sat (linesP H O T s0 ix0 * (B * (Sl.block N TFi [.slice aO nO cO, .slice aT nT cT] * (Sl.block b TB15 [.pointer (some ⟨H.h.D, 0, none⟩), .pointer (some ⟨H.h.C, 0, none⟩), .pointer (some ⟨H.h.t, 0, none⟩), .pointer (some ⟨H.X, 0, none⟩), .pointer (some ⟨H.L, 0, none⟩)] * F)))) w4 := q4.eq (by ac_rfl)
    have q6 := q5.rw_nil (e := TPt) (s := 4)
    haveI := q6.i
    clear q3 q4 q5 hset
    go_wp2
    go_loopg [6, 7] np (fun g t6 t7 wr => ∃ (j : Nat) (a' : Option Addr) (c' : Nat), t7 = .int .i64 j ∧ t6 = .slice a' j c' ∧ j ≤ np ∧ Aside (g = np - j) ∧
      Sat (rw TPt 4 (.slice a' j c') (pcs ((ps.take j).map markP)) * (linesP H O T s0 ix0 * (B * (Sl.block N TFi [.slice aO nO cO, .slice aT nT cT] * (Sl.block b TB15 [.pointer (some ⟨H.h.D, 0, none⟩), .pointer (some ⟨H.h.C, 0, none⟩), .pointer (some ⟨H.h.t, 0, none⟩), .pointer (some ⟨H.X, 0, none⟩), .pointer (some ⟨H.L, 0, none⟩)] * F))))) wr)
    case atStart => exact ⟨0, none, 0, rfl, rfl, by omega, (rfl : _ = _), q6⟩
    case round =>
      obtain ⟨j, a', c', rfl, rfl, hj, J, hsr⟩ := hrel
      clear q6 this
      haveI := hsr.i
      by_cases hlt : j < np ∧ 0 < nT
      · have hlt1 : (j : Int) < np := by omega
        have hlt2 : (0 : Int) < (nT : Int) := by omega
        obtain ⟨p, hp⟩ : ∃ p, ps[j]? = some p := ⟨_, List.getElem?_eq_getElem (by have := HP.out.2; omega)⟩
        have hP0 := HP.out.1
        obtain ⟨bb, o, rfl, r1, r2, r3, r4⟩ := readsP_at hP0 hp
        obtain ⟨xs, hxs⟩ : ∃ xs, pcs ((ps.take j).map markP) = xs := ⟨_, rfl⟩
        have hxl : xs.length = j * 4 := by rw [← hxs, pcs_len, List.length_map, List.length_take]; have := HP.out.2; omega
        have HX : Aside (pcs ((ps.take (j + 1)).map markP) = xs ++ ptrow (markP p)) := (by rw [take_snoc' hp, List.map_append, List.map_cons, List.map_nil, pcs_snoc, hxs] : _ = _)
        have HM : Aside (((xs ++ ptrow p).set (j * 4 + 3) (.bool true)).set (j * 4) (.int .i64 1) = xs ++ ptrow (markP p)) := mark_set xs j p hxl
        have m0 := mark_at xs j 0 p _ hxl rfl
        have m3 := mark_at xs j 3 p _ hxl rfl
        rw [Nat.add_zero] at m0
        rw [hxs] at hsr
        haveI := hsr.i
        obtain ⟨psrc, ppos, plen, pcnt⟩ := p
        simp only at r1 r2 r3 r4
        have e9 : ptrow ⟨psrc, ppos, plen, pcnt⟩ = [.int .i64 psrc, .int .i64 ppos, .int .i64 plen, .bool pcnt] := rfl
        rw [e9] at m0 m3 HM
        obtain ⟨ys, hys⟩ : ∃ ys, xs ++ [.int .i64 psrc, .int .i64 ppos, .int .i64 plen, .bool pcnt] = ys := ⟨_, rfl⟩
        rw [hys] at m0 m3 HM
        have m5 : At (ys.set (j * 4 + 3) (.bool true)) (j * 4) (.int .i64 psrc) := ⟨by rw [List.getElem?_set_ne (by omega)]; exact m0.out⟩
        have hj1 : (j : Int) < (j : Int) + 1 := by omega
        clear hp hP0 hxs hxl e9
        go_wp2_with (at_builtin; refine wpl_append_same E rfl (.tmp 46) (.tmp 51) rfl rfl rfl (takeI (rw TPt 4 (.slice a' j c') xs)) (Src.new (b := wr.heap.size) (e := TPt) (s := 4) (vs := [.int .i64 psrc, .int .i64 ppos, .int .i64 plen, .bool pcnt]) (takeI _) rfl (by intro u hu; simp at hu; rcases hu with rfl | rfl | rfl | rfl <;> rfl)) (by unfold maxLen; omega) (by omega) ?_; intro a9 c9 w9 q9 z9; clear z9; obtain ⟨g9, rfl⟩ := row_some q9 (by omega); rw [hys] at q9; haveI := q9.i)
        go_roundg (np - (j + 1))
        case measure => have := J.out; omega
        case rel =>
          refine ⟨j + 1, some ⟨g9, 0, none⟩, c9, by go_num, rfl, by omega, (rfl : _ = _), ?_⟩
          rw [HX.out, ← HM.out]
          exact keep6 _ _ _ _ _ _
      · obtain ⟨qs, hqs⟩ : ∃ qs, (ps.take j).map markP = qs := ⟨_, rfl⟩
        have hql : qs.length = j := by rw [← hqs, List.length_map, List.length_take]; have := HP.out.2; omega
        have hqm : ∀ y ∈ listP O T qs, 0 ≤ y.lines := by rw [← hqs]; exact marked_lines _
        rw [hqs] at hsr
        have hRP : ReadsP (B * rw TPt 4 (.slice a' j c') (pcs qs)) (.slice a' j c') qs := by
          have h5 := ReadsR.rw (n := j) hsr ⟨a', c', rfl⟩
          have h6 := ReadsR.right (A := B) h5
          show ReadsR 4 _ _ qs.length (pcs qs)
          rw [hql]
          exact h6
        have q7 : Sat ((B * rw TPt 4 (.slice a' j c') (pcs qs)) * (linesP H O T s0 ix0 * (Sl.block N TFi [.slice aO nO cO, .slice aT nT cT] * (Sl.block b TB15 [.pointer (some ⟨H.h.D, 0, none⟩), .pointer (some ⟨H.h.C, 0, none⟩), .pointer (some ⟨H.h.t, 0, none⟩), .pointer (some ⟨H.X, 0, none⟩), .pointer (some ⟨H.L, 0, none⟩)] * F)))) wr := hsr.eq (by ac_rfl)
        have hlist := fun w q => list15_any O T aO aT nO cO nT cT (.slice a' j c') qs (B * rw TPt 4 (.slice a' j c') (pcs qs)) (linesP H O T s0 ix0 * (Sl.block N TFi [.slice aO nO cO, .slice aT nT cT] * (Sl.block b TB15 [.pointer (some ⟨H.h.D, 0, none⟩), .pointer (some ⟨H.h.C, 0, none⟩), .pointer (some ⟨H.h.t, 0, none⟩), .pointer (some ⟨H.X, 0, none⟩), .pointer (some ⟨H.L, 0, none⟩)] * F))) w (Reads.left HB.out.1) (Reads.left HB.out.2.1) hRP q H3.out.1 H3.out.2
        have htx := listP_lz H3.out.1 H3.out.2 qs hqm
        obtain ⟨L, hL⟩ : ∃ L, listP O T qs = L := ⟨_, rfl⟩
        rw [hL] at hlist htx
        obtain ⟨tx, htxE⟩ : ∃ tx, textE O T L = tx := ⟨_, rfl⟩
        rw [htxE] at hlist htx
        have HTX : Aside (TxLz O T L tx) := htx
        have htl := htx.tlen
        obtain ⟨nt, hnt⟩ : ∃ nt, tx.length = nt := ⟨_, rfl⟩
        obtain ⟨nl, hnl⟩ : ∃ nl, L.length = nl := ⟨_, rfl⟩
        have HN : Aside (tx.length = nt ∧ L.length = nl) := ⟨hnt, hnl⟩
        rw [hnt] at htl
        rw [hnt, hnl] at hlist
        obtain ⟨PB, hPB⟩ : ∃ PB, rw TPt 4 (.slice a' j c') (pcs qs) = PB := ⟨_, rfl⟩
        rw [hPB] at hlist q7 hsr
        have hlist2 := hlist wr q7
        have hno : ¬ ((j : Int) < np ∧ (0 : Int) < (nT : Int)) := by omega
        have hsr2 : Sat (linesP H O T s0 ix0 * (B * (PB * (Sl.block N TFi [.slice aO nO cO, .slice aT nT cT] * (Sl.block b TB15 [.pointer (some ⟨H.h.D, 0, none⟩), .pointer (some ⟨H.h.C, 0, none⟩), .pointer (some ⟨H.h.t, 0, none⟩), .pointer (some ⟨H.X, 0, none⟩), .pointer (some ⟨H.L, 0, none⟩)] * F))))) wr := hsr.eq (by ac_rfl)
        haveI := hsr2.i
        clear hRP hqm hql hqs hL htxE hnt hnl hlist htx hPB J q7 hsr
        go_upto_region 12 with (fail)
        all_goals
          go_wp2_with fail
          refine hlist2.mono ?_
          rintro e w5 ⟨al, cl, at_, ct, rfl, q8⟩
          have q9 : Sat (linesP H O T s0 ix0 * (rw TEn 4 (.slice al nl cl) (ecs L) * (rw TB 1 (.slice at_ nt ct) (bys tx) * (B * (Sl.block N TFi [.slice aO nO cO, .slice aT nT cT] * (Sl.block b TB15 [.pointer (some ⟨H.h.D, 0, none⟩), .pointer (some ⟨H.h.C, 0, none⟩), .pointer (some ⟨H.h.t, 0, none⟩), .pointer (some ⟨H.X, 0, none⟩), .pointer (some ⟨H.L, 0, none⟩)] * F)))))) w5 := by
            haveI := q8.i
            exact keep6 _ _ _ _ _ _
          haveI := q9.i
          clear hlist2 hsr2 q8
          have hbd := fun F w q => build15 H O T s0 ix0 L (.slice al nl cl) (rw TEn 4 (.slice al nl cl) (ecs L)) F w (readsE_rw (q9.take (rw TEn 4 (.slice al nl cl) (ecs L))) HN.out.2.symm) q H0.out.1 HTX.out.may (by have := HTX.out.len; omega) (by have := H0.out; omega) (by have := H0.out; omega)
          go_wp2_with fail
          refine (hbd _ _ (takeI2 (linesP H O T s0 ix0) (rw TEn 4 (.slice al nl cl) (ecs L)))).mono ?_
          rintro e w6 ⟨r, s1, rfl, q10, i1, n1, rt1⟩
          have H1 : Aside (LnI O T s1 ix0 ∧ Rt (nodeAt s1) r (join L) ∧ 50000000 ≤ leftOps s1 ∧ 60000 ≤ roomOf s1.sp) := ⟨i1, rt1, by have := H0.out; have := n1.left; omega, by have := H0.out; have := n1.room; omega⟩
          have q11 : Sat (linesP H O T s1 ix0 * (rw TB 1 (.slice at_ nt ct) (bys tx) * (B * (Sl.block N TFi [.slice aO nO cO, .slice aT nT cT] * (Sl.block b TB15 [.pointer (some ⟨H.h.D, 0, none⟩), .pointer (some ⟨H.h.C, 0, none⟩), .pointer (some ⟨H.h.t, 0, none⟩), .pointer (some ⟨H.X, 0, none⟩), .pointer (some ⟨H.L, 0, none⟩)] * F))))) w6 := by
            haveI := q10.i
            exact keep5 _ _ _ _ _
          haveI := q11.i
          clear q9 q10 i1 n1 rt1 hbd
          unfold vi2
          have hc := fun F w q => lcount_any H O T s1 ix0 r (join L) F w q H1.out.1 H1.out.2.1 HTX.out.rt (by have := H1.out; omega)
          rw [HTX.out.text, ixList_none HTX.out.cnt] at hc
          have hen := fun F w q => ends_any (.slice at_ nt ct) tx (rw TB 1 (.slice at_ nt ct) (bys tx)) F w Reads.rw q (by have := HN.out; omega)
          obtain ⟨ne, hne⟩ : ∃ ne, endsC tx = ne := ⟨_, rfl⟩
          rw [hne] at hc hen
          clear hne
          go_wp2_with fail
          refine (hc _ _ (takeI (linesP H O T s1 ix0))).mono ?_
          rintro e w7 ⟨s2, rfl, q12, n2⟩
          have H2 : Aside (LnI O T s2 ix0 ∧ 40000000 ≤ leftOps s2 ∧ 50000 ≤ roomOf s2.sp) := ⟨H1.out.1.nxt n2, by have := H1.out; have := n2.left; omega, by have := H1.out; have := n2.room; omega⟩
          haveI := q12.i
          clear q11 hc n2
          go_wp2_with fail
          refine (hen _ _ (takeI (rw TB 1 (.slice at_ nt ct) (bys tx)))).mono ?_
          rintro e w8 ⟨ae, ce, rfl, q13⟩
          have q14 : Sat (linesP H O T s2 ix0 * (B * (Sl.block N TFi [.slice aO nO cO, .slice aT nT cT] * (Sl.block b TB15 [.pointer (some ⟨H.h.D, 0, none⟩), .pointer (some ⟨H.h.C, 0, none⟩), .pointer (some ⟨H.h.t, 0, none⟩), .pointer (some ⟨H.X, 0, none⟩), .pointer (some ⟨H.L, 0, none⟩)] * F)))) w8 := by
            haveI := q13.i
            exact keep4 _ _ _ _
          haveI := q14.i
          clear q12 q13 hen
          have hrd := fun F w q => ixRead_any H.X H.M H.h.D O.length ix0 F w q
          have e0 : ix0.rd = 0 := rfl
          rw [e0] at hrd
          have q15 := q14
          rw [lines_ix] at q15
          go_wp2_with fail
          refine (hrd _ _ q15).mono ?_
          rintro e w9 ⟨rfl, rfl⟩
          clear hrd q15
          by_cases hz : nO = 0
          · subst hz
            go_wp2
            go_ret
            exact ⟨rfl, keep2 _ _⟩
          · have hzb : ((nO : Int) == 0) = false := by simp; omega
            have hOn := HB.out.2.2.1
            have hwl := wholeL_ok (O := O) (T := T) (by omega) (by have := H3.out.1; omega)
            have hwf := whole_first (O := O) (by have := H3.out.1; omega)
            rw [← hOn] at hwl hwf
            obtain ⟨x1, hx1⟩ : ∃ x1, ixList O ix0 (wholeL nO) = x1 := ⟨_, rfl⟩
            rw [hx1] at hwf
            have HW : Aside (mayList (wholeL nO) = true ∧ join (wholeL nO) = wholeL nO ∧ (∀ y ∈ wholeL nO, RtE O T y) ∧ textE O T (wholeL nO) = O) := hwl
            have HX : Aside (x1.rd = nO ∧ ixList O x1 (wholeL nO) = x1 ∧ ixList O ix0 (wholeL nO) = x1 ∧ IxOk O x1) := ⟨hwf.1, hwf.2, hx1, by rw [← hx1]; exact ixList_ok H2.out.1.ix hwl.2.2.1⟩
            clear hwl hwf hOn hx1
            go_wp2_with fail
            have q16 : Sat (linesP H O T s2 ix0 * (Sl.block w8.heap.size TEn (ecs (wholeL nO)) * (B * (Sl.block N TFi [.slice aO nO cO, .slice aT nT cT] * (Sl.block b TB15 [.pointer (some ⟨H.h.D, 0, none⟩), .pointer (some ⟨H.h.C, 0, none⟩), .pointer (some ⟨H.h.t, 0, none⟩), .pointer (some ⟨H.X, 0, none⟩), .pointer (some ⟨H.L, 0, none⟩)] * F))))) (w8.alloc (.cells #[.int .i64 0, .int .i64 0, .int .i64 nO, .int .i64 (-1)] TEn)) := by
              show Sat (linesP H O T s2 ix0 * (Sl.block w8.heap.size TEn [.int .i64 0, .int .i64 0, .int .i64 nO, .int .i64 (-1)] * _)) _
              exact satI_eq (by ac_rfl)
            obtain ⟨N1, hN1⟩ : ∃ N1, w8.heap.size = N1 := ⟨_, rfl⟩
            rw [hN1] at q16 ⊢
            refine (build15 H O T s2 ix0 (wholeL nO) _ _ _ _ (readsEB (wholeL nO) N1 (by simp [wholeL])) q16 H2.out.1 HW.out.1 (by simp [wholeL]) (by have := H2.out; omega) (by have := H2.out; omega)).mono ?_
            rintro e w10 ⟨r2, s3, rfl, q17, i3, n3, rt3⟩
            rw [HW.out.2.1] at rt3
            have H4 : Aside (LnI O T s3 ix0 ∧ Rt (nodeAt s3) r2 (wholeL nO) ∧ 30000000 ≤ leftOps s3) := ⟨i3, rt3, by have := H2.out; have := n3.left; omega⟩
            haveI := q17.i
            clear q14 q16 i3 n3 rt3 hN1
            unfold vi2
            have hc1 := fun F w q => lcount_any H O T s3 ix0 r2 (wholeL nO) F w q H4.out.1 H4.out.2.1 HW.out.2.2.1 (by have := H4.out; omega)
            rw [HW.out.2.2.2, HX.out.2.2.1] at hc1
            obtain ⟨nc, hnc⟩ : ∃ nc, endsC O = nc := ⟨_, rfl⟩
            have HNC : Aside (endsC O = nc) := hnc
            rw [hnc] at hc1
            clear hnc
            go_wp2_with fail
            refine (hc1 _ _ (takeI (linesP H O T s3 ix0))).mono ?_
            rintro e w11 ⟨s4, rfl, q18, n4⟩
            have H5 : Aside (LnI O T s4 x1 ∧ Rt (nodeAt s4) r2 (wholeL nO) ∧ 20000000 ≤ leftOps s4) := ⟨(H4.out.1.nxt n4).at HX.out.2.2.2, H4.out.2.1.le n4.le, by have := H4.out; have := n4.left; omega⟩
            haveI := q18.i
            clear q17 hc1 n4
            have hrd := fun F w q => ixRead_any H.X H.M H.h.D O.length x1 F w q
            rw [HX.out.1] at hrd
            have q19 := q18
            rw [lines_ix] at q19
            go_wp2_with fail
            refine (hrd _ _ q19).mono ?_
            rintro e w12 ⟨rfl, rfl⟩
            clear q19
            have hc2 := fun F w q => lcount_any H O T s4 x1 r2 (wholeL nO) F w q H5.out.1 H5.out.2.1 HW.out.2.2.1 (by have := H5.out; omega)
            rw [HW.out.2.2.2, HX.out.2.1, HNC.out] at hc2
            go_wp2_with fail
            refine (hc2 _ _ (takeI (linesP H O T s4 x1))).mono ?_
            rintro e w13 ⟨s5, rfl, q20, n5⟩
            have q21 : Sat (indexA H.X H.M H.h.D O.length x1 * (Sl.block N1 TEn [.int .i64 0, .int .i64 0, .int .i64 nO, .int .i64 (-1)] * (B * (Sl.block N TFi [.slice aO nO cO, .slice aT nT cT] * (Sl.block b TB15 [.pointer (some ⟨H.h.D, 0, none⟩), .pointer (some ⟨H.h.C, 0, none⟩), .pointer (some ⟨H.h.t, 0, none⟩), .pointer (some ⟨H.X, 0, none⟩), .pointer (some ⟨H.L, 0, none⟩)] * F))))) w13 := by
              have q22 := q20
              rw [lines_ix] at q22
              haveI := q22.i
              show Sat (_ * (Sl.block N1 TEn (ecs (wholeL nO)) * _)) _
              exact keep6 _ _ _ _ _ _
            haveI := q21.i
            clear q18 q20 hc2 n5
            have hnO4 : (nO : Int) ≤ 1048576 := by omega
            have hnO5 : (0 : Int) ≤ nO := by omega
            go_wp2_with fail
            go_region_held3 (fun w' => w'.cell? ⟨b, 3, none⟩ = some (.pointer (some ⟨H.X, 0, none⟩)) ∧ w'.cell? ⟨N, 0, none⟩ = some (.slice aO nO cO) ∧ w'.cell? ⟨N1, 0, none⟩ = some (.int .i64 0) ∧ w'.cell? ⟨N1, 1, none⟩ = some (.int .i64 0) ∧ w'.cell? ⟨N1, 2, none⟩ = some (.int .i64 nO)) (first | exact ⟨cell_sat _ _ _, cell_sat _ _ _, cell_sat _ _ _, cell_sat _ _ _, cell_sat _ _ _⟩) (first
              | (go_at_call 30; refine (hrd _ _ (takeI (indexA H.X H.M H.h.D O.length x1))).mono ?_; rintro e w14 ⟨rfl, rfl⟩)
              | (go_at_call 31; refine (size14_one N1 0 0 nO (-1) _ _ (takeI (Sl.block N1 TEn [.int .i64 0, .int .i64 0, .int .i64 nO, .int .i64 (-1)])) hnO5 hnO4).mono ?_; rintro e w14 ⟨rfl, rfl⟩)
              | (go_at_call 32; refine (size10_one w13.heap.size 0 0 nO _ _ (takeI (Sl.block w13.heap.size 75 [.int .i64 0, .int .i64 0, .int .i64 nO])) hnO5 hnO4).mono ?_; rintro e w14 ⟨rfl, rfl⟩))
            all_goals
              go_wp2
              go_ret
              exact ⟨rfl, keep2 _ _⟩
end Go.Proofs.YtfhbmblbidcmmaaGreat
