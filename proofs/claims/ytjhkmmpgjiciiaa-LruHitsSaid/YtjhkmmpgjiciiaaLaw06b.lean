/-
  LruHits: the walk.
-/
import Derived.Test.YtjhkmmpgjiciiaaLaw06a
import Derived.Test.YtjhkmmpgjiciiaaPl06
import Derived.Test.YtjhkmmpgjiciiaaSlo
namespace Go.Proofs.Ytjhkmmpgjiciiaa
open Go.RowKit Go.Sl Go.Lru Go.Pl06

abbrev ival (z : Int) : Value := .int .i64 z

/-- the unlike ones among the first j keys, the last first -/
def accL (keys : List Int) (j t : Nat) : List Int := D ((keys.take j).reverse.take t)

def HitRel (keys : List Int) (j cap : Nat) (ns : List Nd) : Prop := ns.map (·.key) = ((D (keys.take j).reverse).take cap).reverse ∧ ∀ n ∈ ns, n.pins = 0

theorem Ints.old {w0 w : World} {F : Assn} {v : Value} {zs : List Int} (h : Ints w0 v zs) (hs : Sat (old w0 * F) w) : Ints w v zs := by
  obtain ⟨a, c, h1, h2⟩ := h
  refine ⟨a, c, h1, fun i z hz => ?_⟩
  obtain ⟨b, o, h3, h4⟩ := h2 i z hz
  exact ⟨b, o, h3, hs.old_cell h4⟩

theorem accL_len (keys : List Int) (j t : Nat) : (accL keys j t).length ≤ t := by
  have h : ∀ l : List Int, (D l).length ≤ l.length := by
    intro l
    induction l with
    | nil => simp [D]
    | cons x l ih =>
      simp only [D, List.length_cons]
      have := List.length_filter_le (fun y => y != x) (D l)
      omega
  have := h ((keys.take j).reverse.take t)
  have h2 : ((keys.take j).reverse.take t).length ≤ t := List.length_take_le _ _
  unfold accL; omega

theorem rev_at {keys : List Int} {j t : Nat} (hj : j ≤ keys.length) (ht : t < j) : ((keys.take j).reverse)[t]? = keys[j - 1 - t]? := by
  rw [List.getElem?_reverse (by simp; omega)]
  simp only [List.length_take, Nat.min_eq_left hj]
  rw [List.getElem?_take_of_lt (by omega)]

theorem accL_succ {keys : List Int} {j t : Nat} {x : Int} (hj : j ≤ keys.length) (ht : t < j) (hx : keys[j - 1 - t]? = some x) : accL keys j (t + 1) = if x ∈ accL keys j t then accL keys j t else accL keys j t ++ [x] := by
  unfold accL
  have h := rev_at hj ht
  rw [hx] at h
  rw [List.take_add_one, h]
  simp only [Option.toList_some]
  rw [D_snoc]
  simp only [mem_D]

theorem accL_all {keys : List Int} {j : Nat} (hj : j ≤ keys.length) : accL keys j j = D (keys.take j).reverse := by
  unfold accL
  rw [List.take_of_length_le (by simp; omega)]

theorem accL_take {keys : List Int} {j t cap : Nat} (h : (accL keys j t).length = cap) : accL keys j t = (D (keys.take j).reverse).take cap := by
  unfold accL at *
  obtain ⟨u, hu⟩ := D_prefix ((keys.take j).reverse.drop t) ((keys.take j).reverse.take t)
  rw [List.take_append_drop] at hu
  rw [hu, ← h, List.take_left']
  rfl

theorem rev_succ {keys : List Int} {j : Nat} {x : Int} (hx : keys[j]? = some x) : (keys.take (j + 1)).reverse = x :: (keys.take j).reverse := by
  rw [List.take_add_one, hx]; simp

theorem map_outL (ns : List Nd) (k : Int) : (outL ns k).map (·.key) = (ns.map (·.key)).filter fun y => y != k := by
  unfold outL
  rw [List.filter_map]
  rfl

theorem hit_mem {keys : List Int} {j cap : Nat} {ns : List Nd} {acc : List Int} (h : HitRel keys j cap ns) (ha : acc = (D (keys.take j).reverse).take cap) (x : Int) : hasB ns x = decide (x ∈ acc) := by
  have h1 : x ∈ acc ↔ x ∈ ns.map (·.key) := by rw [h.1, ha]; simp
  by_cases hx : x ∈ acc
  · obtain ⟨n, hn, e⟩ := List.mem_map.1 (h1.1 hx)
    simp only [hx, decide_true, hasB, List.any_eq_true]
    exact ⟨n, hn, by simpa using e⟩
  · simp only [hx, decide_false, hasB, List.any_eq_false]
    intro n hn
    simp only [beq_iff_eq]
    intro e
    exact hx (h1.2 (List.mem_map.2 ⟨n, hn, e⟩))

theorem hit_keyd {keys : List Int} {j cap : Nat} {ns : List Nd} (h : HitRel keys j cap ns) : Keyd ns := by
  unfold Keyd
  rw [h.1]
  exact (List.reverse_perm _).nodup_iff.2 ((nodup_D _).sublist (List.take_sublist _ _))

theorem hit_len {keys : List Int} {j cap : Nat} {ns : List Nd} {acc : List Int} (h : HitRel keys j cap ns) (ha : acc = (D (keys.take j).reverse).take cap) : ns.length = acc.length := by
  have := congrArg List.length h.1
  rw [ha]
  simpa using this

theorem hit_use {keys : List Int} {j cap : Nat} {ns : List Nd} {x : Int} (h : HitRel keys j cap ns) (hx : keys[j]? = some x) (hi : x ∈ (D (keys.take j).reverse).take cap) : HitRel keys (j + 1) cap (useL ns x) := by
  constructor
  · rw [rev_succ hx, step_in hi]
    unfold useL
    rw [List.map_append, map_outL, h.1, List.filter_reverse, List.reverse_cons]
    congr 1
    have hd := hit_keyd h
    have hm : hasB ns x = true := by rw [hit_mem h rfl]; simpa using hi
    rcases find_cases ns x with ⟨l1, n, l2, rfl, rfl⟩ | hk
    · obtain ⟨a, b⟩ := keyd_ne hd
      simp [List.filter_append, filter_eq a, filter_eq b]
    · rw [hasB_none hk] at hm; cases hm
  · intro n hn
    exact h.2 n ((use_perm ns x).mem_iff.1 hn)

theorem hit_room {keys : List Int} {j cap b : Nat} {ns : List Nd} {x : Int} (h : HitRel keys j cap ns) (hx : keys[j]? = some x) (hi : x ∉ (D (keys.take j).reverse).take cap) (hl : ((D (keys.take j).reverse).take cap).length < cap) : HitRel keys (j + 1) cap (ns ++ [⟨b, x, 0, false⟩]) := by
  constructor
  · rw [rev_succ hx, step_new hi hl]
    simp [h.1]
  · intro n hn
    rcases List.mem_append.1 hn with hn | hn
    · exact h.2 n hn
    · simp at hn; subst hn; rfl

theorem hit_full {keys : List Int} {j cap b : Nat} {ns : List Nd} {n : Nd} {x : Int} (h : HitRel keys j cap ns) (hx : keys[j]? = some x) (hi : x ∉ (D (keys.take j).reverse).take cap) (hl : ((D (keys.take j).reverse).take cap).length = cap) (h1 : 1 ≤ cap) (ho : oldL ns = some n) :
    HitRel keys (j + 1) cap (outL ns n.key ++ [⟨b, x, 0, false⟩]) ∧ ((D (keys.take j).reverse).take cap)[cap - 1]? = some n.key := by
  have hne : ∃ n0 l, ns = n0 :: l := by
    cases ns with
    | nil => simp [oldL] at ho
    | cons n0 l => exact ⟨n0, l, rfl⟩
  obtain ⟨n0, l, rfl⟩ := hne
  have e : n0 = n := by
    have : n0.pins = 0 := h.2 n0 (by simp)
    simp [oldL, this] at ho
    exact ho
  subst e
  have hd := hit_keyd h
  have hout : outL (n0 :: l) n0.key = l := outL_found (l1 := []) hd
  have hA : (D (keys.take j).reverse).take cap = (l.map (·.key)).reverse ++ [n0.key] := by
    have := congrArg List.reverse h.1
    rw [List.reverse_reverse] at this
    rw [← this]; simp
  have hll : l.length + 1 = cap := by rw [hA] at hl; simpa using hl
  refine ⟨⟨?_, ?_⟩, ?_⟩
  · rw [rev_succ hx, step_full hi hl h1, hout, hA]
    rw [List.take_append_of_le_length (by simp; omega), List.take_of_length_le (by simp; omega)]
    simp
  · intro m hm
    rw [hout] at hm
    rcases List.mem_append.1 hm with hm | hm
    · exact h.2 m (by simp [hm])
    · simp at hm; subst hm; rfl
  · have e : cap - 1 = ((l.map (·.key)).reverse).length := by simp; omega
    rw [hA, e, List.getElem?_append_right (Nat.le_refl _)]
    simp

theorem useL_no {ns : List Nd} {x : Int} (h : hasB ns x = false) : useL ns x = ns := by
  refine useL_none fun n hn => ?_
  simp only [hasB, List.any_eq_false] at h
  simpa using h n hn

/-- what Add does at a key that isn't there -/
theorem hit_add {keys : List Int} {j cap : Nat} {ns : List Nd} {x : Int} {acc : List Int} (h : HitRel keys j cap ns) (ha : acc = (D (keys.take j).reverse).take cap) (hx : keys[j]? = some x) (hi : x ∉ acc) (h1 : 1 ≤ cap) {g : Int} {hh : Bool} {c : Int} {ns' : List Nd} (hA : AddIs cap ns x g hh c ns') :
    c = 0 ∧ HitRel keys (j + 1) cap ns' ∧ ((acc.length < cap ∧ hh = false) ∨ (acc.length = cap ∧ hh = true ∧ acc[acc.length - 1]? = some g)) := by
  have hl := hit_len h ha
  have hle : acc.length ≤ cap := by rw [ha]; exact List.length_take_le _ _
  have hb := hit_mem h ha x
  have hbf : hasB ns x = false := by rw [hb]; simpa using hi
  subst ha
  rcases hA with ⟨h2, _⟩ | ⟨_, h2, _, h4, h5, b, rfl⟩ | ⟨_, h2, h3, _⟩ | ⟨_, h2, n, h3, h4, h5, h6, b, rfl⟩
  · rw [hbf] at h2; cases h2
  · have hlt : ((D (keys.take j).reverse).take cap).length < cap := by
      have : ns.length ≠ cap := fun e => h2 (by rw [e])
      omega
    exact ⟨h5, hit_room h hx hi hlt, .inl ⟨hlt, h4⟩⟩
  · exfalso
    cases ns with
    | nil => simp at h2; omega
    | cons n0 l =>
      have : n0.pins = 0 := h.2 n0 (by simp)
      simp [oldL, this] at h3
  · have hlt : ((D (keys.take j).reverse).take cap).length = cap := by
      have : ns.length = cap := by exact_mod_cast h2
      omega
    obtain ⟨r1, r2⟩ := hit_full (b := b) h hx hi hlt h1 h3
    exact ⟨h6, r1, .inr ⟨hlt, h5, by rw [hlt, r2, h4]⟩⟩

set_option maxRecDepth 100000 in
set_option maxHeartbeats 1000000 in
theorem lruHits_walk (c0 : Int) (v : Value) (keys : List Int) (w : World) (hv : Ints w v keys) (hm : keys.length ≤ 9223372036854775807) :
    Calls Try.prog 3 #[.int .i64 c0, v] w fun e w' => e = .returned (.bool true) ∧ Below w.heap.size w w' := by
  obtain ⟨va, vc, hvv⟩ := hv.len
  obtain ⟨i0, E⟩ := elemInt
  obtain ⟨m, hm1, hm2⟩ : ∃ m : Nat, c0 % 20 = (m : Int) ∧ m < 20 := ⟨(c0 % 20).toNat, by omega, by omega⟩
  have hp := pick_any c0 20 w (by omega) (by omega)
  rw [hm1] at hp
  clear hm1
  subst hvv
  go_enter Try.func3, Try.ntmps3
  go_wp2_with (go_at_call 17; refine hp.mono ?_; rintro e w' ⟨rfl, rfl⟩)
  refine (new_yes (1 + m) (old w) w (Sat.old_self w) (by omega) (by omega)).mono ?_
  rintro e w1 ⟨L, M, rfl, hs1⟩
  clear hp
  go_wp2_with fail
  refine (awake06 _ w1 hs1).mono ?_
  rintro e w2 ⟨rfl, hs2⟩
  clear hs1
  go_wp2_with fail
  go_loopg [7] keys.length (fun k i wr => ∃ (j : Nat) (ns : List Nd), i = .int .i64 j ∧ j ≤ keys.length ∧ Aside (k = keys.length - j ∧ HitRel keys j (1 + m) ns) ∧ Sat (lruP TL TI L M (1 + m) ns * old w) wr)
  case atStart => exact ⟨0, [], rfl, by omega, ⟨rfl, by simp [HitRel, D]⟩, hs2⟩
  case round =>
    obtain ⟨j, ns, rfl, hj, A, hs⟩ := hrel
    clear hs2
    by_cases hjl : j < keys.length
    · by_cases hj2 : j < 120
      · have hj3 : (j : Int) < keys.length := by omega
        have hj4 : (j : Int) < 120 := by omega
        obtain ⟨x, hx⟩ : ∃ x, keys[j]? = some x := ⟨keys[j], by simp [hjl]⟩
        obtain ⟨kb, ko, rfl, _⟩ := hv.at hx
        go_wp2
        go_loopg [8, 9] j (fun k2 last kk wr2 => ∃ (t : Nat) (a : Option Addr) (c : Nat), t ≤ j ∧ kk = .int .i64 ((j : Int) - 1 - t) ∧ Aside (k2 = j - t) ∧ last = .slice a (accL keys j t).length c ∧ (accL keys j t).length ≤ 1 + m ∧
          Sat (rw 3 1 (.slice a (accL keys j t).length c) ((accL keys j t).map ival) * (lruP TL TI L M (1 + m) ns * old w)) wr2)
        case atStart => exact ⟨0, none, 0, by omega, by simp, rfl, rfl, by simp [accL, D], hs.rw_nil⟩
        case round =>
          obtain ⟨t, a, c, ht, rfl, A2, rfl, hlen, hs2⟩ := hrel
          clear hs
          by_cases htj : t < j
          · by_cases hfull : (accL keys j t).length < 1 + m
            · obtain ⟨y, hy⟩ : ∃ y, keys[j - 1 - t]? = some y := ⟨keys[j - 1 - t], by rw [List.getElem?_eq_getElem (by omega)]⟩
              obtain ⟨_, _, e1, hyc⟩ := (hv.old (hs2.take (old w))).at hy
              cases e1
              have hlast := Ints.of_rw hs2
              obtain ⟨w3, rfl⟩ : ∃ x : World, x = wr := ⟨_, rfl⟩
              go_wp2
              go_loopg [10, 11] (accL keys j t).length (fun k3 met jj wr3 => ∃ (q nn : Nat), q ≤ (accL keys j t).length ∧ Aside (k3 = (accL keys j t).length - q) ∧ jj = .int .i64 q ∧ met = .bool (decide (y ∈ (accL keys j t).take q)) ∧ w3.drewN nn = wr3)
              case atStart => exact ⟨0, 0, by omega, rfl, rfl, by simp, rfl⟩
              case round =>
                obtain ⟨q, nn, hq, A3, rfl, rfl, rfl⟩ := hrel
                by_cases hql : q < (accL keys j t).length
                · obtain ⟨z, hz⟩ : ∃ z, (accL keys j t)[q]? = some z := ⟨(accL keys j t)[q], by simp [hql]⟩
                  obtain ⟨gb, go, rfl, hzc⟩ := hlast.at hz
                  have hql2 : (q : Int) < (accL keys j t).length := by omega
                  have hin : decide (y ∈ (accL keys j t).take (q + 1)) = (decide (y ∈ (accL keys j t).take q) || (z == y)) := by
                    rw [List.take_add_one, hz]
                    simp only [Option.toList_some, List.mem_append, List.mem_singleton]
                    by_cases h1 : y ∈ (accL keys j t).take q <;> by_cases h2 : y = z <;> simp [h1, h2]
                    exact fun e => h2 e.symm
                  have HIN : Aside (decide (y ∈ (accL keys j t).take (q + 1)) = (decide (y ∈ (accL keys j t).take q) || (z == y))) := hin
                  clear hin
                  generalize hmq : decide (y ∈ (accL keys j t).take q) = mq at HIN ⊢
                  clear hmq
                  cases mq with
                  | true =>
                    go_wp2
                    go_quiet (fail)
                    go_wp2
                    go_roundg ((accL keys j t).length - (q + 1))
                    case measure => have := A3.out; omega
                    case rel =>
                      refine ⟨q + 1, nn + nq, by omega, rfl, by go_num, by rw [HIN.out]; rfl, rfl⟩
                  | false =>
                    go_wp2
                    have i1 : ((j : Int) - 1 - t).toNat = j - 1 - t := by omega
                    have i2 : 0 ≤ (j : Int) - 1 - t := by omega
                    have i3 : (j : Int) - 1 - t < keys.length := by omega
                    go_quiet (fail)
                    clear i1 i2 i3
                    go_wp2
                    go_roundg ((accL keys j t).length - (q + 1))
                    case measure => have := A3.out; omega
                    case rel =>
                      refine ⟨q + 1, nn + nq, by omega, rfl, by go_num, by rw [HIN.out]; rfl, rfl⟩
                · have hqe : q = (accL keys j t).length := by omega
                  have hqn : ¬ (q : Int) < (accL keys j t).length := by omega
                  subst hqe
                  rw [List.take_of_length_le (Nat.le_refl _)]
                  clear hlast
                  have hs4 := hs2.drewN nn
                  have hyc' : (w3.drewN nn).cell? _ = _ := hyc
                  generalize w3.drewN nn = w4 at hs4 hyc' ⊢
                  clear hs2 hyc
                  have hsucc := accL_succ (by omega) htj hy
                  by_cases hmem : y ∈ accL keys j t
                  · rw [if_pos hmem] at hsucc
                    have hd1 : decide (y ∈ accL keys j t) = true := by simpa using hmem
                    have HS : Aside (accL keys j (t + 1) = accL keys j t) := hsucc
                    rw [hd1]
                    clear hsucc hmem hd1
                    go_wp2
                    go_roundg (j - (t + 1))
                    case measure => have := A2.out; omega
                    case rel =>
                      refine ⟨t + 1, a, c, by omega, by go_num, rfl, by rw [HS.out], by rw [HS.out]; omega, by rw [HS.out]; exact hs4⟩
                  · rw [if_neg hmem] at hsucc
                    have hd1 : decide (y ∈ accL keys j t) = false := by simpa using hmem
                    have HS : Aside (accL keys j (t + 1) = accL keys j t ++ [y]) := hsucc
                    rw [hd1]
                    clear hsucc hmem hd1
                    have i1 : ((j : Int) - 1 - t).toNat = j - 1 - t := by omega
                    have i2 : 0 ≤ (j : Int) - 1 - t := by omega
                    have i3 : (j : Int) - 1 - t < keys.length := by omega
                    have hs5 := hs4.alloc #[.int .i64 y] 3
                    have hs6 := hs5.take (rw 3 1 (.slice a (accL keys j t).length c) ((accL keys j t).map ival))
                    have hsrc := Src.one_new (P := Try.prog) hs5 rfl
                    clear hs5 hs4
                    go_wp2_with (at_builtin; refine wpl_append_same E rfl (.tmp 73) (.tmp 78) rfl rfl rfl hs6 hsrc (by unfold maxLen; omega) (by omega) ?_; intro a' c' w' hs7 hnil; clear hnil hs6 hsrc i1 i2 i3 hyc')
                    go_roundg (j - (t + 1))
                    case measure => have := A2.out; omega
                    case rel =>
                      refine ⟨t + 1, a', c', by omega, by go_num, rfl, by rw [HS.out]; simp, by rw [HS.out]; simp; omega, ?_⟩
                      rw [HS.out]
                      simp only [List.length_append, List.length_cons, List.length_nil, List.map_append, List.map_cons, List.map_nil, Nat.zero_add]
                      refine Sat.weak (B := block w4.heap.size 3 [.int .i64 y]) (hs7.eq ?_)
                      ac_rfl
            · have HACC := accL_take (show (accL keys j t).length = 1 + m by omega)
              have hfull2 : ¬ ((accL keys j t).length : Int) < 1 + m := by omega
              have i2 : 0 ≤ (j : Int) - 1 - t := by omega
              clear hfull
              have HA : Aside (accL keys j t = (D (keys.take j).reverse).take (1 + m)) := HACC
              clear A2
              obtain ⟨_, _, e1, hxc⟩ := (hv.old (hs2.take (old w))).at hx
              cases e1
              have hlast := Ints.of_rw hs2
              obtain ⟨w3, rfl⟩ : ∃ x : World, x = wr := ⟨_, rfl⟩
              generalize accL keys j t = acc at HA hs2 hlast hlen hfull2 ⊢
              clear HACC
              go_wp2
              go_loopg [12, 13] acc.length (fun k3 met jj wr3 => ∃ (q nn : Nat), q ≤ acc.length ∧ Aside (k3 = acc.length - q) ∧ jj = .int .i64 q ∧ met = .bool (decide (x ∈ acc.take q)) ∧ w3.drewN nn = wr3)
              case atStart => exact ⟨0, 0, by omega, rfl, rfl, by simp, rfl⟩
              case round =>
                obtain ⟨q, nn, hq, A3, rfl, rfl, rfl⟩ := hrel
                by_cases hql : q < acc.length
                · obtain ⟨z, hz⟩ : ∃ z, acc[q]? = some z := ⟨acc[q], by simp [hql]⟩
                  obtain ⟨gb, go, rfl, hzc⟩ := hlast.at hz
                  have hql2 : (q : Int) < acc.length := by omega
                  have hin : decide (x ∈ acc.take (q + 1)) = (decide (x ∈ acc.take q) || (z == x)) := by
                    rw [List.take_add_one, hz]
                    simp only [Option.toList_some, List.mem_append, List.mem_singleton]
                    by_cases h1 : x ∈ acc.take q <;> by_cases h2 : x = z <;> simp [h1, h2]
                    exact fun e => h2 e.symm
                  have HIN : Aside (decide (x ∈ acc.take (q + 1)) = (decide (x ∈ acc.take q) || (z == x))) := hin
                  clear hin
                  generalize hmq : decide (x ∈ acc.take q) = mq at HIN ⊢
                  clear hmq
                  cases mq with
                  | true =>
                    go_wp2
                    go_quiet (fail)
                    go_wp2
                    go_roundg (acc.length - (q + 1))
                    case measure => have := A3.out; omega
                    case rel =>
                      refine ⟨q + 1, nn + nq, by omega, rfl, by go_num, by rw [HIN.out]; rfl, rfl⟩
                  | false =>
                    go_wp2
                    go_quiet (fail)
                    go_wp2
                    go_roundg (acc.length - (q + 1))
                    case measure => have := A3.out; omega
                    case rel =>
                      refine ⟨q + 1, nn + nq, by omega, rfl, by go_num, by rw [HIN.out]; rfl, rfl⟩
                · have hqe : q = acc.length := by omega
                  have hqn : ¬ (q : Int) < acc.length := by omega
                  subst hqe
                  rw [List.take_of_length_le (Nat.le_refl _)]
                  clear hlast
                  have hs4 := hs2.drewN nn
                  have hxc' : (w3.drewN nn).cell? _ = _ := hxc
                  generalize w3.drewN nn = w4 at hs4 hxc' ⊢
                  clear hs2 hxc
                  obtain ⟨hgk, hR⟩ := A.out
                  have hd := hit_keyd hR
                  have hb := hit_mem hR HA.out x
                  have hs5 := hs4.take (lruP TL TI L M (1 + m) ns)
                  have hhas := has_any L M (1 + m) ns x _ w4 hs5 hd
                  have huse := use_any L M (1 + m) ns x _ w4 hs5 hd
                  clear hgk hR
                  by_cases hmem : x ∈ acc
                  · have hd1 : decide (x ∈ acc) = true := by simpa using hmem
                    rw [hd1] at hb
                    rw [hb] at hhas huse
                    rw [hd1]
                    clear hd1 hb
                    go_wp2_with (go_at_call 20; refine hhas.mono ?_; rintro e w' ⟨rfl, rfl⟩)
                    refine huse.mono ?_
                    rintro e w5 ⟨rfl, hs6⟩
                    clear hhas huse hs5 hs4 hxc'
                    go_wp2
                    go_roundg (keys.length - (j + 1))
                    case measure => have := A.out.1; omega
                    case rel =>
                      exact ⟨j + 1, useL ns x, by go_num, by omega, ⟨rfl, hit_use A.out.2 hx (HA.out ▸ hmem)⟩, (hs6.take (rw 3 1 (.slice a acc.length c) (acc.map ival))).right⟩
                  · have hd1 : decide (x ∈ acc) = false := by simpa using hmem
                    rw [hd1] at hb
                    rw [hb] at hhas
                    rw [hb, useL_no hb] at huse
                    rw [hd1]
                    have HM : Aside (x ∉ acc) := hmem
                    clear hd1 hb hmem
                    go_wp2_with (go_at_call 20; refine hhas.mono ?_; rintro e w' ⟨rfl, rfl⟩)
                    refine huse.mono ?_
                    rintro e w5 ⟨rfl, hs6⟩
                    clear hhas huse hs5 hs4 hxc'
                    obtain ⟨_, _, e1, hxc5⟩ := (hv.old (hs6.take (old w))).at hx
                    cases e1
                    go_wp2_with fail
                    refine (add_any L M (1 + m) ns x _ w5 hs6 hd).mono ?_
                    rintro e w6 ⟨g, hh, c1, ns', rfl, hA, hs7⟩
                    obtain ⟨rfl, hR', hres⟩ := hit_add A.out.2 HA.out hx HM.out (by omega) hA
                    have hlast := Ints.of_rw (hs7.take (rw 3 1 (.slice a acc.length c) (acc.map ival)))
                    have HR' : Aside (HitRel keys (j + 1) (1 + m) ns') := hR'
                    clear hA hs6 hxc5 hR'
                    rcases hres with ⟨hlt, rfl⟩ | ⟨hle, rfl, hg⟩
                    · have hlt2 : ((acc.length : Int) == 1 + m) = false := by simp; omega
                      clear hlast
                      go_wp2
                      go_roundg (keys.length - (j + 1))
                      case measure => have := A.out.1; omega
                      case rel =>
                        exact ⟨j + 1, ns', by go_num, by omega, ⟨rfl, HR'.out⟩, (hs7.take (rw 3 1 (.slice a acc.length c) (acc.map ival))).right⟩
                    · have hlt2 : ((acc.length : Int) == 1 + m) = true := by simp; omega
                      obtain ⟨gb, go, rfl, hgc⟩ := hlast.at hg
                      have hpos : 1 ≤ acc.length := by omega
                      have hle' : (acc.length : Int) - 1 < acc.length := by omega
                      have i5 : ((acc.length : Int) - 1).toNat = acc.length - 1 := by omega
                      have i6 : 0 ≤ (acc.length : Int) - 1 := by omega
                      clear hlast hle
                      go_wp2
                      go_roundg (keys.length - (j + 1))
                      case measure => have := A.out.1; omega
                      case rel =>
                        exact ⟨j + 1, ns', by go_num, by omega, ⟨rfl, HR'.out⟩, (hs7.take (rw 3 1 (.slice (some ⟨gb, go, none⟩) acc.length c) (acc.map ival))).right⟩
          · have htj2 : t = j := by omega
            have HACC : accL keys j t = (D (keys.take j).reverse).take (1 + m) := by
              rw [htj2] at hlen ⊢
              rw [accL_all hj] at hlen ⊢
              exact (List.take_of_length_le hlen).symm
            have i2 : ¬ 0 ≤ (j : Int) - 1 - t := by omega
            clear htj2 htj
            have HA : Aside (accL keys j t = (D (keys.take j).reverse).take (1 + m)) := HACC
            clear A2
            obtain ⟨_, _, e1, hxc⟩ := (hv.old (hs2.take (old w))).at hx
            cases e1
            have hlast := Ints.of_rw hs2
            obtain ⟨w3, rfl⟩ : ∃ x : World, x = wr := ⟨_, rfl⟩
            generalize accL keys j t = acc at HA hs2 hlast hlen ⊢
            clear HACC
            go_wp2
            go_loopg [12, 13] acc.length (fun k3 met jj wr3 => ∃ (q nn : Nat), q ≤ acc.length ∧ Aside (k3 = acc.length - q) ∧ jj = .int .i64 q ∧ met = .bool (decide (x ∈ acc.take q)) ∧ w3.drewN nn = wr3)
            case atStart => exact ⟨0, 0, by omega, rfl, rfl, by simp, rfl⟩
            case round =>
              obtain ⟨q, nn, hq, A3, rfl, rfl, rfl⟩ := hrel
              by_cases hql : q < acc.length
              · obtain ⟨z, hz⟩ : ∃ z, acc[q]? = some z := ⟨acc[q], by simp [hql]⟩
                obtain ⟨gb, go, rfl, hzc⟩ := hlast.at hz
                have hql2 : (q : Int) < acc.length := by omega
                have hin : decide (x ∈ acc.take (q + 1)) = (decide (x ∈ acc.take q) || (z == x)) := by
                  rw [List.take_add_one, hz]
                  simp only [Option.toList_some, List.mem_append, List.mem_singleton]
                  by_cases h1 : x ∈ acc.take q <;> by_cases h2 : x = z <;> simp [h1, h2]
                  exact fun e => h2 e.symm
                have HIN : Aside (decide (x ∈ acc.take (q + 1)) = (decide (x ∈ acc.take q) || (z == x))) := hin
                clear hin
                generalize hmq : decide (x ∈ acc.take q) = mq at HIN ⊢
                clear hmq
                cases mq with
                | true =>
                  go_wp2
                  go_quiet (fail)
                  go_wp2
                  go_roundg (acc.length - (q + 1))
                  case measure => have := A3.out; omega
                  case rel =>
                    refine ⟨q + 1, nn + nq, by omega, rfl, by go_num, by rw [HIN.out]; rfl, rfl⟩
                | false =>
                  go_wp2
                  go_quiet (fail)
                  go_wp2
                  go_roundg (acc.length - (q + 1))
                  case measure => have := A3.out; omega
                  case rel =>
                    refine ⟨q + 1, nn + nq, by omega, rfl, by go_num, by rw [HIN.out]; rfl, rfl⟩
              · have hqe : q = acc.length := by omega
                have hqn : ¬ (q : Int) < acc.length := by omega
                subst hqe
                rw [List.take_of_length_le (Nat.le_refl _)]
                clear hlast
                have hs4 := hs2.drewN nn
                have hxc' : (w3.drewN nn).cell? _ = _ := hxc
                generalize w3.drewN nn = w4 at hs4 hxc' ⊢
                clear hs2 hxc
                obtain ⟨hgk, hR⟩ := A.out
                have hd := hit_keyd hR
                have hb := hit_mem hR HA.out x
                have hs5 := hs4.take (lruP TL TI L M (1 + m) ns)
                have hhas := has_any L M (1 + m) ns x _ w4 hs5 hd
                have huse := use_any L M (1 + m) ns x _ w4 hs5 hd
                clear hgk hR
                by_cases hmem : x ∈ acc
                · have hd1 : decide (x ∈ acc) = true := by simpa using hmem
                  rw [hd1] at hb
                  rw [hb] at hhas huse
                  rw [hd1]
                  clear hd1 hb
                  go_wp2_with (go_at_call 20; refine hhas.mono ?_; rintro e w' ⟨rfl, rfl⟩)
                  refine huse.mono ?_
                  rintro e w5 ⟨rfl, hs6⟩
                  clear hhas huse hs5 hs4 hxc'
                  go_wp2
                  go_roundg (keys.length - (j + 1))
                  case measure => have := A.out.1; omega
                  case rel =>
                    exact ⟨j + 1, useL ns x, by go_num, by omega, ⟨rfl, hit_use A.out.2 hx (HA.out ▸ hmem)⟩, (hs6.take (rw 3 1 (.slice a acc.length c) (acc.map ival))).right⟩
                · have hd1 : decide (x ∈ acc) = false := by simpa using hmem
                  rw [hd1] at hb
                  rw [hb] at hhas
                  rw [hb, useL_no hb] at huse
                  rw [hd1]
                  have HM : Aside (x ∉ acc) := hmem
                  clear hd1 hb hmem
                  go_wp2_with (go_at_call 20; refine hhas.mono ?_; rintro e w' ⟨rfl, rfl⟩)
                  refine huse.mono ?_
                  rintro e w5 ⟨rfl, hs6⟩
                  clear hhas huse hs5 hs4 hxc'
                  obtain ⟨_, _, e1, hxc5⟩ := (hv.old (hs6.take (old w))).at hx
                  cases e1
                  go_wp2_with fail
                  refine (add_any L M (1 + m) ns x _ w5 hs6 hd).mono ?_
                  rintro e w6 ⟨g, hh, c1, ns', rfl, hA, hs7⟩
                  obtain ⟨rfl, hR', hres⟩ := hit_add A.out.2 HA.out hx HM.out (by omega) hA
                  have hlast := Ints.of_rw (hs7.take (rw 3 1 (.slice a acc.length c) (acc.map ival)))
                  have HR' : Aside (HitRel keys (j + 1) (1 + m) ns') := hR'
                  clear hA hs6 hxc5 hR'
                  rcases hres with ⟨hlt, rfl⟩ | ⟨hle, rfl, hg⟩
                  · have hlt2 : ((acc.length : Int) == 1 + m) = false := by simp; omega
                    clear hlast
                    go_wp2
                    go_roundg (keys.length - (j + 1))
                    case measure => have := A.out.1; omega
                    case rel =>
                      exact ⟨j + 1, ns', by go_num, by omega, ⟨rfl, HR'.out⟩, (hs7.take (rw 3 1 (.slice a acc.length c) (acc.map ival))).right⟩
                  · have hlt2 : ((acc.length : Int) == 1 + m) = true := by simp; omega
                    obtain ⟨gb, go, rfl, hgc⟩ := hlast.at hg
                    have hpos : 1 ≤ acc.length := by omega
                    have hle' : (acc.length : Int) - 1 < acc.length := by omega
                    have i5 : ((acc.length : Int) - 1).toNat = acc.length - 1 := by omega
                    have i6 : 0 ≤ (acc.length : Int) - 1 := by omega
                    clear hlast hle
                    go_wp2
                    go_roundg (keys.length - (j + 1))
                    case measure => have := A.out.1; omega
                    case rel =>
                      exact ⟨j + 1, ns', by go_num, by omega, ⟨rfl, HR'.out⟩, (hs7.take (rw 3 1 (.slice (some ⟨gb, go, none⟩) acc.length c) (acc.map ival))).right⟩
      · have hj4 : ¬ (j : Int) < 120 := by omega
        have hj3 : (j : Int) < keys.length := by omega
        go_wp2
        go_ret
        exact ⟨rfl, (hs.take (old w)).old_below⟩
    · have hj3 : ¬ (j : Int) < keys.length := by omega
      go_wp2
      go_ret
      exact ⟨rfl, (hs.take (old w)).old_below⟩

end Go.Proofs.Ytjhkmmpgjiciiaa
