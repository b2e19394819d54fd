/-
  Walks of octavoref06: the reference's list of items.
-/
import Derived.Test.YtjhkmmpgjiciiaaSla
import Derived.Test.YtjhkmmpgjiciiaaProg
import Derived.Test.YtjhkmmpgjiciiaaLru4
import Derived.WalkLawsBesides
import Derived.Deep.QuietTactic
import Derived.BigQuiet
import Derived.Deep.RegionLaw
import Derived.Deep.Cut
namespace Go.Proofs.Ytjhkmmpgjiciiaa
set_option linter.unusedSimpArgs false
set_option linter.unusedVariables false
open Go.RowKit Go.Sl Go.Lru

structure It where
  key : Int
  pins : Int
  mkd : Bool

abbrev TR : TypeId := 75
abbrev TRI : TypeId := 137

def irow (x : It) : List Value := [.int .i64 x.key, .int .i64 x.pins, .bool x.mkd]
def flat (its : List It) : List Value := its.flatMap irow

def refP (W : Nat) (cap : Int) (a : Option Addr) (c : Nat) (its : List It) : Assn :=
  hdr W TR 2 * (Sl.cell W 0 (.int .i64 cap) * (Sl.cell W 1 (.slice a its.length c) * rw TRI 3 (.slice a its.length c) (flat its)))

theorem elemIt : ∃ i, ElemOk Try.prog 73 TRI 3 24 i (.agg #[.int .i64 0, .int .i64 0, .bool false]) := elemOk Try.underlying73 (by kernel_rfl) rfl (by omega)

theorem flat_len (its : List It) : (flat its).length = its.length * 3 := by
  induction its with
  | nil => rfl
  | cons x l ih => simp only [flat, List.flatMap_cons, List.length_append, List.length_cons] at *; rw [ih]; simp [irow]; omega

theorem flat_append (l1 l2 : List It) : flat (l1 ++ l2) = flat l1 ++ flat l2 := by simp [flat]

theorem flat_at {its : List It} {i : Nat} {x : It} (h : its[i]? = some x) : (flat its)[i * 3]? = some (.int .i64 x.key) ∧ (flat its)[i * 3 + 1]? = some (.int .i64 x.pins) ∧ (flat its)[i * 3 + 2]? = some (.bool x.mkd) := by
  induction its generalizing i with
  | nil => simp at h
  | cons y l ih =>
    cases i with
    | zero => simp at h; subst h; simp [flat, irow]
    | succ i =>
      simp at h
      obtain ⟨h1, h2, h3⟩ := ih h
      have e : ∀ j, (flat (y :: l))[(i + 1) * 3 + j]? = (flat l)[i * 3 + j]? := by
        intro j
        have : (i + 1) * 3 + j = 3 + (i * 3 + j) := by omega
        rw [this]
        show (irow y ++ flat l)[3 + (i * 3 + j)]? = _
        rw [List.getElem?_append_right (by simp [irow])]
        simp [irow]
      have e0 := e 0
      simp only [Nat.add_zero] at e0
      exact ⟨by rw [e0]; exact h1, by rw [e 1]; exact h2, by rw [e 2]; exact h3⟩

/-- the cells of one item -/
theorem rw_at {e s : Nat} {a : Option Addr} {n c i : Nat} {xs : List Value} {v : Value} {F : Assn} {w : World} (hs : Sat (rw e s (.slice a n c) xs * F) w) (hi : xs[i]? = some v) : ∃ g, a = some ⟨g, 0, none⟩ ∧ w.cell? ⟨g, i, none⟩ = some v ∧ w.frozen? ⟨g, i, none⟩ = false := by
  rcases hs.rw_open with ⟨h1, h2, h3⟩ | ⟨g, n', cap', sp, h1, h2, h3, h4, h5, h6⟩
  · subst h2; simp at hi
  · cases h1
    have hw := h6.block_heap
    have hx : (xs ++ sp)[i]? = some v := by
      have hl : i < xs.length := by
        rcases Nat.lt_or_ge i xs.length with h | h
        · exact h
        · rw [List.getElem?_eq_none h] at hi; cases hi
      rw [List.getElem?_append_left hl]; exact hi
    refine ⟨g, rfl, ?_, by simp [World.frozen?, hw]⟩
    simp [World.cell?, hw]
    simpa using hx

theorem ref_at {W : Nat} {cap : Int} {a : Option Addr} {c i : Nat} {its : List It} {x : It} {F : Assn} {w : World} (hs : Sat (refP W cap a c its * F) w) (hi : its[i]? = some x) :
    ∃ g, a = some ⟨g, 0, none⟩ ∧ w.cell? ⟨g, i * 3, none⟩ = some (.int .i64 x.key) ∧ w.cell? ⟨g, i * 3 + 1, none⟩ = some (.int .i64 x.pins) ∧ w.cell? ⟨g, i * 3 + 2, none⟩ = some (.bool x.mkd) := by
  unfold refP at hs
  have h := hs.take (rw TRI 3 (.slice a its.length c) (flat its))
  obtain ⟨h1, h2, h3⟩ := flat_at hi
  obtain ⟨g, rfl, k1, _⟩ := rw_at h h1
  obtain ⟨g2, e2, k2, _⟩ := rw_at h h2
  obtain ⟨g3, e3, k3, _⟩ := rw_at h h3
  cases e2
  cases e3
  exact ⟨g, rfl, k1, k2, k3⟩

def atI (its : List It) (k : Int) : Int := match its.findIdx? (fun x => x.key == k) with
  | some i => i
  | none => -1

theorem atI_none {its : List It} {k : Int} (h : ∀ x ∈ its, x.key ≠ k) : atI its k = -1 := by
  have : its.findIdx? (fun x => x.key == k) = none := List.findIdx?_eq_none_iff.2 fun x hx => by simpa using h x hx
  simp [atI, this]

theorem atI_found {its : List It} {k : Int} {i : Nat} {x : It} (hi : its[i]? = some x) (hk : x.key = k) (h : ∀ j y, j < i → its[j]? = some y → y.key ≠ k) : atI its k = i := by
  have : its.findIdx? (fun x => x.key == k) = some i := by
    rw [List.findIdx?_eq_some_iff_getElem]
    obtain ⟨hl, e⟩ := List.getElem?_eq_some_iff.1 hi
    refine ⟨hl, by rw [e]; simpa using hk, fun j hj => ?_⟩
    have := h j its[j] hj (by simp [Nat.lt_trans hj hl])
    simpa using this
  simp [atI, this]

set_option maxHeartbeats 400000 in
theorem refAt_any (W : Nat) (cap : Int) (a : Option Addr) (c : Nat) (its : List It) (k : Int) (F : Assn) (w : World) (hs : Sat (refP W cap a c its * F) w) (hm : its.length ≤ 4611686018427387904) :
    Calls Try.prog 43 #[.pointer (some ⟨W, 0, none⟩), .int .i64 k] w fun e w' => e = .returned (.int .i64 (atI its k)) ∧ w = w' := by
  have hs0 := hs
  unfold refP at hs0
  have c1 := hs0.c W 1
  clear hs0
  go_enter Try.func43, Try.ntmps43
  go_wp2
  go_loopg [5] its.length (fun g i wr => ∃ j : Nat, i = .int .i64 j ∧ j ≤ its.length ∧ Aside (g = its.length - j ∧ ∀ q y, q < j → its[q]? = some y → y.key ≠ k) ∧ w = wr)
  case atStart => exact ⟨0, rfl, by omega, ⟨rfl, by omega⟩, rfl⟩
  case round =>
    obtain ⟨j, rfl, hj, A, rfl⟩ := hrel
    by_cases hlt : j < its.length
    · obtain ⟨x, hx⟩ : ∃ x, its[j]? = some x := ⟨its[j], by simp [hlt]⟩
      obtain ⟨g, rfl, k0, _, _⟩ := ref_at hs hx
      have hlt2 : (j : Int) < its.length := by omega
      have HX : Aside (its[j]? = some x) := hx
      clear hx
      by_cases he : x.key = k
      · have he1 : (x.key == k) = true := by simpa using he
        have HE : Aside (x.key = k) := he
        clear he
        go_wp2
        go_ret
        exact ⟨by rw [atI_found HX.out HE.out A.out.2]; rfl, rfl⟩
      · have he1 : (x.key == k) = false := by simpa using he
        have HE : Aside (x.key ≠ k) := he
        clear he
        go_wp2
        go_roundg (its.length - (j + 1))
        case measure => have := A.out.1; omega
        case rel =>
          refine ⟨j + 1, by go_num, by omega, ⟨rfl, fun q y hq hy => ?_⟩, rfl⟩
          rcases Nat.lt_or_ge q j with h | h
          · exact A.out.2 q y h hy
          · have : q = j := by omega
            subst this
            rw [HX.out] at hy
            cases hy
            exact HE.out
    · have hlt2 : ¬ (j : Int) < its.length := by omega
      go_wp2
      go_ret
      have e := atI_none (its := its) (k := k) (fun x hx => by
        obtain ⟨q, hq, e⟩ := List.getElem_of_mem hx
        exact A.out.2 q x (by omega) (by rw [← e]; simp [hq]))
      exact ⟨by rw [e]; rfl, rfl⟩


def oldI (its : List It) : Int := match its.findIdx? (fun x => x.pins == 0) with
  | some i => i
  | none => -1

theorem oldI_none {its : List It} (h : ∀ x ∈ its, x.pins ≠ 0) : oldI its = -1 := by
  have : its.findIdx? (fun x => x.pins == 0) = none := List.findIdx?_eq_none_iff.2 fun x hx => by simpa using h x hx
  simp [oldI, this]

theorem oldI_found {its : List It} {i : Nat} {x : It} (hi : its[i]? = some x) (hk : x.pins = 0) (h : ∀ j y, j < i → its[j]? = some y → y.pins ≠ 0) : oldI its = i := by
  have : its.findIdx? (fun x => x.pins == 0) = some i := by
    rw [List.findIdx?_eq_some_iff_getElem]
    obtain ⟨hl, e⟩ := List.getElem?_eq_some_iff.1 hi
    refine ⟨hl, by rw [e]; simpa using hk, fun j hj => ?_⟩
    have := h j its[j] hj (by simp [Nat.lt_trans hj hl])
    simpa using this
  simp [oldI, this]

set_option maxHeartbeats 400000 in
theorem refOld_any (W : Nat) (cap : Int) (a : Option Addr) (c : Nat) (its : List It) (F : Assn) (w : World) (hs : Sat (refP W cap a c its * F) w) (hm : its.length ≤ 4611686018427387904) :
    Calls Try.prog 89 #[.pointer (some ⟨W, 0, none⟩)] w fun e w' => e = .returned (.int .i64 (oldI its)) ∧ w = w' := by
  have hs0 := hs
  unfold refP at hs0
  have c1 := hs0.c W 1
  clear hs0
  go_enter Try.func89, Try.ntmps89
  go_wp2
  go_loopg [3] its.length (fun g i wr => ∃ j : Nat, i = .int .i64 j ∧ j ≤ its.length ∧ Aside (g = its.length - j ∧ ∀ q y, q < j → its[q]? = some y → y.pins ≠ 0) ∧ w = wr)
  case atStart => exact ⟨0, rfl, by omega, ⟨rfl, by omega⟩, rfl⟩
  case round =>
    obtain ⟨j, rfl, hj, A, rfl⟩ := hrel
    by_cases hlt : j < its.length
    · obtain ⟨x, hx⟩ : ∃ x, its[j]? = some x := ⟨its[j], by simp [hlt]⟩
      obtain ⟨g, rfl, _, k0, _⟩ := ref_at hs hx
      have hlt2 : (j : Int) < its.length := by omega
      have HX : Aside (its[j]? = some x) := hx
      clear hx
      by_cases he : x.pins = 0
      · have he1 : (x.pins == 0) = true := by simpa using he
        have HE : Aside (x.pins = 0) := he
        clear he
        go_wp2
        go_ret
        exact ⟨by rw [oldI_found HX.out HE.out A.out.2]; rfl, rfl⟩
      · have he1 : (x.pins == 0) = false := by simpa using he
        have HE : Aside (x.pins ≠ 0) := he
        clear he
        go_wp2
        go_roundg (its.length - (j + 1))
        case measure => have := A.out.1; omega
        case rel =>
          refine ⟨j + 1, by go_num, by omega, ⟨rfl, fun q y hq hy => ?_⟩, rfl⟩
          rcases Nat.lt_or_ge q j with h | h
          · exact A.out.2 q y h hy
          · have : q = j := by omega
            subst this
            rw [HX.out] at hy
            cases hy
            exact HE.out
    · have hlt2 : ¬ (j : Int) < its.length := by omega
      go_wp2
      go_ret
      have e := oldI_none (its := its) (fun x hx => by
        obtain ⟨q, hq, e⟩ := List.getElem_of_mem hx
        exact A.out.2 q x (by omega) (by rw [← e]; simp [hq]))
      exact ⟨by rw [e]; rfl, rfl⟩

/-- a part of an owned row as what is appended -/
theorem src_part {P : Program} {e s : Nat} {g n c : Nat} {l1 mid l2 : List Value} {F : Assn} {w : World} {m c' : Nat} (hs : Sat (rw e s (.slice (some ⟨g, 0, none⟩) n c) (l1 ++ mid ++ l2) * F) w) (hm : mid.length = m * s) (h1 : ∀ u ∈ mid, u.oneCell' = true) :
    Src P s w (.slice (some ⟨g, l1.length, none⟩) m c') m mid := by
  refine Src.slice hm (fun j u hj => ?_) h1
  have hj2 : j < mid.length := by
    rcases Nat.lt_or_ge j mid.length with h | h
    · exact h
    · rw [List.getElem?_eq_none h] at hj; cases hj
  have : (l1 ++ mid ++ l2)[l1.length + j]? = some u := by
    rw [List.append_assoc, List.getElem?_append_right (by omega), Nat.add_sub_cancel_left, List.getElem?_append_left hj2]; exact hj
  obtain ⟨g', e', k, _⟩ := rw_at hs this
  cases e'
  exact k

theorem src_head {P : Program} {e s : Nat} {g n c : Nat} {l1 l2 : List Value} {F : Assn} {w : World} {m c' : Nat} (hs : Sat (rw e s (.slice (some ⟨g, 0, none⟩) n c) (l1 ++ l2) * F) w) (hm : l1.length = m * s) (h1 : ∀ u ∈ l1, u.oneCell' = true) :
    Src P s w (.slice (some ⟨g, 0, none⟩) m c') m l1 := src_part (l1 := []) (mid := l1) (l2 := l2) hs hm h1
theorem src_tail {P : Program} {e s : Nat} {g n c : Nat} {l1 l2 : List Value} {F : Assn} {w : World} {m c' : Nat} (hs : Sat (rw e s (.slice (some ⟨g, 0, none⟩) n c) (l1 ++ l2) * F) w) (hm : l2.length = m * s) (h1 : ∀ u ∈ l2, u.oneCell' = true) :
    Src P s w (.slice (some ⟨g, l1.length, none⟩) m c') m l2 := src_part (l1 := l1) (mid := l2) (l2 := []) (by rw [List.append_nil]; exact hs) hm h1

theorem rw_cap {e s : Nat} {a : Option Addr} {n c : Nat} {xs : List Value} {F : Assn} {w : World} (hs : Sat (rw e s (.slice a n c) xs * F) w) : n ≤ c ∧ c ≤ 9223372036854775807 := by
  rcases hs.rw_open with ⟨h1, h2, h3⟩ | ⟨g, n', cap', sp, h1, h2, h3, h4, h5, h6⟩
  · cases h1; omega
  · cases h1; exact ⟨h4, h5⟩

theorem irow_one (x : It) : ∀ u ∈ irow x, u.oneCell' = true := by
  intro u hu
  simp only [irow, List.mem_cons, List.not_mem_nil, or_false] at hu
  rcases hu with rfl | rfl | rfl <;> rfl

theorem flat_one (its : List It) : ∀ u ∈ flat its, u.oneCell' = true := by
  intro u hu
  obtain ⟨x, _, hx⟩ := List.mem_flatMap.1 hu
  exact irow_one x u hx

set_option maxHeartbeats 400000 in
theorem refOut_any (W : Nat) (cap : Int) (a : Option Addr) (c : Nat) (its : List It) (i : Nat) (x : It) (F : Assn) (w : World) (hs : Sat (refP W cap a c its * F) w) (hi : its[i]? = some x) (hm : its.length ≤ 100000) :
    Calls Try.prog 105 #[.pointer (some ⟨W, 0, none⟩), .int .i64 i] w fun e w' => ∃ a' c', e = .returned (.agg #[.int .i64 x.key, .int .i64 x.pins, .bool x.mkd]) ∧ Sat (refP W cap a' c' (its.eraseIdx i) * F) w' := by
  obtain ⟨i0, E⟩ := elemIt
  obtain ⟨g, rfl, k0, k1, k2⟩ := ref_at hs hi
  unfold refP at hs
  have c1 := hs.c W 1
  have hil : i < its.length := (List.getElem?_eq_some_iff.1 hi).1
  have hil2 : (i : Int) < its.length := by omega
  go_enter Try.func105, Try.ntmps105
  have hW : W < w.heap.size := World.block_lt_of_cell? w _ c1
  have hg : g < w.heap.size := World.block_lt_of_cell? w _ k0
  have hs1 := (hs.alloc #[.int .i64 0, .int .i64 0, .bool false] TRI).alloc #[.int .i64 x.key, .int .i64 x.pins, .bool x.mkd] TRI
  have e0 : (w.alloc (.cells #[.int .i64 0, .int .i64 0, .bool false] TRI)).heap.size = w.heap.size + 1 := by simp
  rw [e0] at hs1
  clear e0
  have hsp : its = its.take i ++ [x] ++ its.drop (i + 1) := by
    obtain ⟨hl, e⟩ := List.getElem?_eq_some_iff.1 hi
    rw [List.append_assoc, ← e]
    simp
  have hfl : flat its = flat (its.take i) ++ irow x ++ flat (its.drop (i + 1)) := by
    conv => lhs; rw [hsp]
    simp [flat]
  have HFL : Aside (flat its = flat (its.take i) ++ irow x ++ flat (its.drop (i + 1))) := hfl
  have HI : Aside (its[i]? = some x) := hi
  clear hsp hfl hi
  obtain ⟨hc1, hc2⟩ := rw_cap (hs.take (rw TRI 3 (.slice (some ⟨g, 0, none⟩) its.length c) (flat its)))
  have hc3 : c ≠ 0 := by omega
  have hrow := hs1.take (rw TRI 3 (.slice (some ⟨g, 0, none⟩) its.length c) (flat its))
  have hrow1 := hrow
  rw [HFL.out, List.append_assoc] at hrow1
  have hfi : (flat (its.take i)).length = i * 3 := by rw [flat_len]; simp; omega
  have hsrc1 := src_head (P := Try.prog) (m := i) (c' := c) hrow1 hfi (flat_one _)
  have hnil := hs1.rw_nil (e := TRI) (s := 3)
  clear hs hrow1 hrow
  go_upto_region 4 with (at_builtin; refine wpl_append_same E rfl (.tmp 14) (.tmp 20) rfl rfl rfl hnil hsrc1 (by unfold maxLen; omega) (by omega) ?_; intro a1 c1' w1 hs2 hnn)
  clear hnil hsrc1 hnn k0 k1 k2 hs1 c1 hW hg
  simp only [Nat.zero_add, List.nil_append] at hs2 ⊢
  have c2 := hs2.c W 1
  have hrow2 := hs2.take (rw TRI 3 (.slice (some ⟨g, 0, none⟩) its.length c) (flat its))
  rw [HFL.out] at hrow2
  have hfi2 : (flat (its.take i) ++ irow x).length = (i + 1) * 3 := by rw [List.length_append, hfi]; simp [irow]; omega
  have hfd : (flat (its.drop (i + 1))).length = (its.length - (i + 1)) * 3 := by rw [flat_len]; simp
  have hsrc2 := src_tail (P := Try.prog) (m := its.length - (i + 1)) (c' := c - (i + 1)) hrow2 hfd (flat_one _)
  rw [hfi2] at hsrc2
  have hW1 : W < w1.heap.size := World.block_lt_of_cell? w1 _ c2
  clear hrow2
  by_cases hci : c = i + 1
  · have hm0 : its.length - (i + 1) = 0 := by omega
    have hsrc3 : Src Try.prog 3 w1 (.slice (some ⟨g, 0, none⟩) (its.length - (i + 1)) (c - (i + 1))) (its.length - (i + 1)) (flat (its.drop (i + 1))) := by
      have hd0 : flat (its.drop (i + 1)) = [] := by rw [← List.length_eq_zero_iff, hfd, hm0]
      rw [hd0, hm0]
      exact Src.slice (by simp) (fun j u hj => by simp at hj) (by simp)
    have i1 : ((i : Int) + 1).toNat = i + 1 := by omega
    clear hm0 hsrc2
    have HCI : Aside (c = i + 1) := hci
    have hci2 : (c = i + 1) ↔ True := by simp [hci]
    clear hci
    go_upto_region 5 with (at_builtin; refine wpl_append_same E rfl (.tmp 22) (.tmp 29) rfl rfl rfl hs2 hsrc3 (by unfold maxLen; omega) (by omega) ?_; intro a2 c2' w2 hs3 hnn)
    clear hci2
    clear hs2 hsrc3 c2 hW1 hnn
    have hlen : i + (its.length - (i + 1)) = (its.eraseIdx i).length := by rw [List.length_eraseIdx, if_pos hil]; omega
    have hfe : flat (its.take i) ++ flat (its.drop (i + 1)) = flat (its.eraseIdx i) := by rw [← flat_append, List.eraseIdx_eq_take_drop_succ]
    rw [hlen, hfe] at hs3
    rw [hlen]
    have HE : Aside (its.length - (i + 1) = its.length - (i + 1)) := rfl
    clear hlen hfe HE
    simp only [block, cells, sep_one, List.length_cons, List.length_nil, Nat.zero_add, Nat.reduceAdd] at hs3
    have d1 := hs3.c W 1
    have d2 := hs3.f W 1
    have hs4 := hs3.upd W 1 (.slice a2 (its.eraseIdx i).length c2')
    have p0 := hs4.c (w.heap.size + 1) 0
    have p1 := hs4.c (w.heap.size + 1) 1
    have p2 := hs4.c (w.heap.size + 1) 2
    have q0 := hs4.c w.heap.size 0
    have q0' := hs4.f w.heap.size 0
    have hs5 := hs4.upd w.heap.size 0 (.int .i64 x.key)
    have q1 := hs5.c w.heap.size 1
    have q1' := hs5.f w.heap.size 1
    have hs6 := hs5.upd w.heap.size 1 (.int .i64 x.pins)
    have q2 := hs6.c w.heap.size 2
    have q2' := hs6.f w.heap.size 2
    have hs7 := hs6.upd w.heap.size 2 (.bool x.mkd)
    have r0 := hs7.c w.heap.size 0
    have r1 := hs7.c w.heap.size 1
    have r2 := hs7.c w.heap.size 2
    clear hs3 hs4 hs5 hs6
    go_wp2
    refine bodyPost_ret (v := .agg #[.int .i64 x.key, .int .i64 x.pins, .bool x.mkd]) (by simp [results, Try.results105, go_sem, r0, r1, r2]) rfl ⟨a2, c2', rfl, ?_⟩
    unfold refP
    refine Sat.weak (B := rw TRI 3 (.slice (some ⟨g, 0, none⟩) its.length c) (flat its) * (hdr (w.heap.size + 1) TRI 3 * (Sl.cell (w.heap.size + 1) 0 (.int .i64 x.key) * (Sl.cell (w.heap.size + 1) 1 (.int .i64 x.pins) * Sl.cell (w.heap.size + 1) 2 (.bool x.mkd)))) *
      (hdr w.heap.size TRI 3 * (Sl.cell w.heap.size 0 (.int .i64 x.key) * (Sl.cell w.heap.size 1 (.int .i64 x.pins) * Sl.cell w.heap.size 2 (.bool x.mkd))))) (hs7.eq ?_)
    ac_rfl
  · have hci2 : ¬ (c = i + 1) := hci
    have i1 : ((i : Int) + 1).toNat = i + 1 := by omega
    go_upto_region 5 with (at_builtin; refine wpl_append_same E rfl (.tmp 22) (.tmp 29) rfl rfl rfl hs2 hsrc2 (by unfold maxLen; omega) (by omega) ?_; intro a2 c2' w2 hs3 hnn)
    clear hs2 hsrc2 c2 hW1 hnn
    have hlen : i + (its.length - (i + 1)) = (its.eraseIdx i).length := by rw [List.length_eraseIdx, if_pos hil]; omega
    have hfe : flat (its.take i) ++ flat (its.drop (i + 1)) = flat (its.eraseIdx i) := by rw [← flat_append, List.eraseIdx_eq_take_drop_succ]
    rw [hlen, hfe] at hs3
    rw [hlen]
    have HE : Aside (its.length - (i + 1) = its.length - (i + 1)) := rfl
    clear hlen hfe HE
    simp only [block, cells, sep_one, List.length_cons, List.length_nil, Nat.zero_add, Nat.reduceAdd] at hs3
    have d1 := hs3.c W 1
    have d2 := hs3.f W 1
    have hs4 := hs3.upd W 1 (.slice a2 (its.eraseIdx i).length c2')
    have p0 := hs4.c (w.heap.size + 1) 0
    have p1 := hs4.c (w.heap.size + 1) 1
    have p2 := hs4.c (w.heap.size + 1) 2
    have q0 := hs4.c w.heap.size 0
    have q0' := hs4.f w.heap.size 0
    have hs5 := hs4.upd w.heap.size 0 (.int .i64 x.key)
    have q1 := hs5.c w.heap.size 1
    have q1' := hs5.f w.heap.size 1
    have hs6 := hs5.upd w.heap.size 1 (.int .i64 x.pins)
    have q2 := hs6.c w.heap.size 2
    have q2' := hs6.f w.heap.size 2
    have hs7 := hs6.upd w.heap.size 2 (.bool x.mkd)
    have r0 := hs7.c w.heap.size 0
    have r1 := hs7.c w.heap.size 1
    have r2 := hs7.c w.heap.size 2
    clear hs3 hs4 hs5 hs6
    go_wp2
    refine bodyPost_ret (v := .agg #[.int .i64 x.key, .int .i64 x.pins, .bool x.mkd]) (by simp [results, Try.results105, go_sem, r0, r1, r2]) rfl ⟨a2, c2', rfl, ?_⟩
    unfold refP
    refine Sat.weak (B := rw TRI 3 (.slice (some ⟨g, 0, none⟩) its.length c) (flat its) * (hdr (w.heap.size + 1) TRI 3 * (Sl.cell (w.heap.size + 1) 0 (.int .i64 x.key) * (Sl.cell (w.heap.size + 1) 1 (.int .i64 x.pins) * Sl.cell (w.heap.size + 1) 2 (.bool x.mkd)))) *
      (hdr w.heap.size TRI 3 * (Sl.cell w.heap.size 0 (.int .i64 x.key) * (Sl.cell w.heap.size 1 (.int .i64 x.pins) * Sl.cell w.heap.size 2 (.bool x.mkd))))) (hs7.eq ?_)
    ac_rfl

set_option maxHeartbeats 400000 in
theorem refUse_no (W : Nat) (cap : Int) (a : Option Addr) (c : Nat) (its : List It) (k : Int) (F : Assn) (w : World) (hs : Sat (refP W cap a c its * F) w) (hm : its.length ≤ 100000) (hk : atI its k = -1) :
    Calls Try.prog 86 #[.pointer (some ⟨W, 0, none⟩), .int .i64 k] w fun e w' => e = .returned (.bool false) ∧ w = w' := by
  have h := refAt_any W cap a c its k F w hs (by omega)
  rw [hk] at h
  clear hk
  go_enter Try.func86, Try.ntmps86
  go_wp2_with (go_at_call 43; refine h.mono ?_; rintro e w' ⟨rfl, rfl⟩)
  go_ret
  exact ⟨rfl, rfl⟩

set_option maxHeartbeats 400000 in
theorem refUse_yes (W : Nat) (cap : Int) (a : Option Addr) (c : Nat) (its : List It) (k : Int) (i : Nat) (x : It) (F : Assn) (w : World) (hs : Sat (refP W cap a c its * F) w) (hm : its.length ≤ 100000) (hk : atI its k = i) (hi : its[i]? = some x) :
    Calls Try.prog 86 #[.pointer (some ⟨W, 0, none⟩), .int .i64 k] w fun e w' => ∃ a' c', e = .returned (.bool true) ∧ Sat (refP W cap a' c' (its.eraseIdx i ++ [x]) * F) w' := by
  have h := refAt_any W cap a c its k F w hs (by omega)
  rw [hk] at h
  clear hk
  obtain ⟨i0, E⟩ := elemIt
  have hil : (its.eraseIdx i).length ≤ 100000 := by rw [List.length_eraseIdx]; split <;> omega
  have hout := refOut_any W cap a c its i x F w hs hi hm
  have hi0 : ¬ ((i : Int) < 0) := by omega
  clear hi
  go_enter Try.func86, Try.ntmps86
  go_wp2_with (go_at_call 43; refine h.mono ?_; rintro e w' ⟨rfl, rfl⟩)
  refine hout.mono ?_
  rintro e w1 ⟨a1, c1, rfl, hs1⟩
  clear hout h hs
  unfold refP at hs1
  have hs2 := hs1.alloc #[.int .i64 x.key, .int .i64 x.pins, .bool x.mkd] TRI
  simp only [block, cells, sep_one, List.length_cons, List.length_nil, Nat.zero_add, Nat.reduceAdd] at hs2
  have d1 := hs2.c W 1
  have e0 := hs1.c W 1
  have hW : W < w1.heap.size := World.block_lt_of_cell? w1 _ e0
  have hs3 := hs2.alloc #[.int .i64 x.key, .int .i64 x.pins, .bool x.mkd] TRI
  have e1 : (w1.alloc (.cells #[.int .i64 x.key, .int .i64 x.pins, .bool x.mkd] TRI)).heap.size = w1.heap.size + 1 := by simp
  rw [e1] at hs3
  clear e1
  have hsrc := (Src.new (P := Try.prog) (s := 3) hs3 rfl (irow_one x)).drew
  have hs4 := (hs3.take (rw TRI 3 (.slice a1 (its.eraseIdx i).length c1) (flat (its.eraseIdx i)))).drew
  clear hs3 hs2 d1
  go_wp2
  go_region_law (refine step_append_sl E rfl (.tmp 19) (.tmp 21) rfl rfl rfl hs4 hsrc (by unfold maxLen; omega) (by omega) ?_; intro a2 c2 w2 hs5 hnn; have d2 := hs5.c W 1; have d3 := hs5.f W 1)
  all_goals
    have hs6 := hs5.upd W 1 (.slice a2 ((its.eraseIdx i).length + 1) c2)
    clear hs4 hsrc hs5 hnn
    go_wp2
    go_ret
    refine ⟨a2, c2, rfl, ?_⟩
    unfold refP
    rw [flat_append]
    simp only [List.length_append, List.length_cons, List.length_nil, Nat.zero_add]
    have e9 : flat [x] = [.int .i64 x.key, .int .i64 x.pins, .bool x.mkd] := rfl
    rw [e9]
    refine Sat.weak (B := block (w1.heap.size + 1) TRI [.int .i64 x.key, .int .i64 x.pins, .bool x.mkd] * (hdr w1.heap.size TRI 3 * (Sl.cell w1.heap.size 0 (.int .i64 x.key) * (Sl.cell w1.heap.size 1 (.int .i64 x.pins) * Sl.cell w1.heap.size 2 (.bool x.mkd))))) (hs6.eq ?_)
    ac_rfl

set_option maxHeartbeats 400000 in
theorem refDrop_no (W : Nat) (cap : Int) (a : Option Addr) (c : Nat) (its : List It) (k : Int) (F : Assn) (w : World) (hs : Sat (refP W cap a c its * F) w) (hm : its.length ≤ 100000) (hk : atI its k = -1) :
    Calls Try.prog 88 #[.pointer (some ⟨W, 0, none⟩), .int .i64 k] w fun e w' => e = .returned (.bool false) ∧ w = w' := by
  have h := refAt_any W cap a c its k F w hs (by omega)
  rw [hk] at h
  clear hk
  go_enter Try.func88, Try.ntmps88
  go_wp2_with (go_at_call 43; refine h.mono ?_; rintro e w' ⟨rfl, rfl⟩)
  go_ret
  exact ⟨rfl, rfl⟩

set_option maxHeartbeats 400000 in
theorem refDrop_pinned (W : Nat) (cap : Int) (a : Option Addr) (c : Nat) (its : List It) (k : Int) (i : Nat) (x : It) (F : Assn) (w : World) (hs : Sat (refP W cap a c its * F) w) (hm : its.length ≤ 100000) (hk : atI its k = i) (hi : its[i]? = some x) (hp : 0 < x.pins) :
    Calls Try.prog 88 #[.pointer (some ⟨W, 0, none⟩), .int .i64 k] w fun e w' => e = .returned (.bool false) ∧ w = w' := by
  have h := refAt_any W cap a c its k F w hs (by omega)
  rw [hk] at h
  clear hk
  obtain ⟨g, rfl, k0, k1, k2⟩ := ref_at hs hi
  have hs0 := hs
  unfold refP at hs0
  have c1 := hs0.c W 1
  have hi0 : ¬ ((i : Int) < 0) := by omega
  have hi1 : (i : Int) < its.length := by have := (List.getElem?_eq_some_iff.1 hi).1; omega
  clear hs0 hs hi
  go_enter Try.func88, Try.ntmps88
  go_wp2_with (go_at_call 43; refine h.mono ?_; rintro e w' ⟨rfl, rfl⟩)
  go_ret
  exact ⟨rfl, rfl⟩

set_option maxHeartbeats 400000 in
theorem refDrop_yes (W : Nat) (cap : Int) (a : Option Addr) (c : Nat) (its : List It) (k : Int) (i : Nat) (x : It) (F : Assn) (w : World) (hs : Sat (refP W cap a c its * F) w) (hm : its.length ≤ 100000) (hk : atI its k = i) (hi : its[i]? = some x) (hp : ¬ 0 < x.pins) :
    Calls Try.prog 88 #[.pointer (some ⟨W, 0, none⟩), .int .i64 k] w fun e w' => ∃ a' c', e = .returned (.bool true) ∧ Sat (refP W cap a' c' (its.eraseIdx i) * F) w' := by
  have h := refAt_any W cap a c its k F w hs (by omega)
  rw [hk] at h
  clear hk
  obtain ⟨g, rfl, k0, k1, k2⟩ := ref_at hs hi
  have hout := refOut_any W cap _ c its i x F w hs hi hm
  have hs0 := hs
  unfold refP at hs0
  have c1 := hs0.c W 1
  have hi0 : ¬ ((i : Int) < 0) := by omega
  have hi1 : (i : Int) < its.length := by have := (List.getElem?_eq_some_iff.1 hi).1; omega
  clear hs0 hs hi
  go_enter Try.func88, Try.ntmps88
  go_wp2_with (go_at_call 43; refine h.mono ?_; rintro e w' ⟨rfl, rfl⟩)
  refine hout.mono ?_
  rintro e w1 ⟨a1, c1, rfl, hs1⟩
  clear hout h
  go_wp2
  go_ret
  exact ⟨a1, c1, rfl, hs1⟩

end Go.Proofs.Ytjhkmmpgjiciiaa
