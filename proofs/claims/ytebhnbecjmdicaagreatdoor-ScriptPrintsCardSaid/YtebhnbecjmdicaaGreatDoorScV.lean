/-
  Walks: are numbers, bytes, commands alike?
  Walks: bytes that are copied, lent, and kept.
-/
import Derived.Test.YtebhnbecjmdicaaGreatDoorScH
import Derived.Deep.DrawnRows
namespace Go.Proofs.YtebhnbecjmdicaaGreatDoor
set_option linter.unusedSimpArgs false
set_option linter.unusedVariables false
open Go.RowKit Go.Sl Go.Sc
attribute [local go_sem] Go.Sl.cell_sat Go.Sl.frozen_sat Go.Sc.str_toList Go.Sc.str_size Go.Sc.str_extract
theorem take_snoc' {α : Type} {l : List α} {i : Nat} {x : α} (h : l[i]? = some x) : l.take (i + 1) = l.take i ++ [x] := by
  obtain ⟨hi, rfl⟩ := List.getElem?_eq_some_iff.1 h
  rw [List.take_succ_eq_append_getElem hi]

set_option maxHeartbeats 400000 in
theorem same_any (v1 v2 : Value) (z1 z2 : List UInt8) (w : World) (h1 : Byt w v1 z1) (h2 : Byt w v2 z2) :
    Calls Tryz.prog 23 #[v1, v2] w fun e w' => e = .returned (.bool (decide (z1 = z2))) ∧ ∃ n, w' = w.drewN n := by
  obtain ⟨a1, c1, rfl, hc1, hm1⟩ := h1.len
  obtain ⟨a2, c2, rfl, hc2, hm2⟩ := h2.len
  have hz1 : z1.length ≤ 9223372036854775807 := by have : c1 ≤ 9223372036854775807 := by simpa [maxLen] using hm1
                                                   omega
  have hz2 : z2.length ≤ 9223372036854775807 := by have : c2 ≤ 9223372036854775807 := by simpa [maxLen] using hm2
                                                   omega
  by_cases hl : z1.length = z2.length
  · have hne2 : ((z1.length : Int) != (z2.length : Int)) = false := by simp; omega
    have HL : Aside (z1.length = z2.length) := hl
    clear hl
    go_enter Tryz.func23, Tryz.ntmps23
    go_wp2
    go_loopg [5] z1.length (fun k i wr => ∃ j : Nat, i = .int .i64 j ∧ j ≤ z1.length ∧ Aside (k = z1.length - j ∧ z1.take j = z2.take j) ∧ ∃ n, w.drewN n = wr)
    case atStart => exact ⟨0, rfl, by omega, ⟨rfl, rfl⟩, 0, rfl⟩
    case round =>
      obtain ⟨j, rfl, hj, A, nn, rfl⟩ := hrel
      by_cases hlt : j < z1.length
      · have hlt2 : j < z2.length := by have := HL.out; omega
        obtain ⟨y1, hy1⟩ : ∃ y, z1[j]? = some y := ⟨z1[j], by simp [hlt]⟩
        obtain ⟨y2, hy2⟩ : ∃ y, z2[j]? = some y := ⟨z2[j], by simp [hlt2]⟩
        obtain ⟨b1, o1, rfl, x1⟩ := h1.at hy1
        obtain ⟨b2, o2, rfl, x2⟩ := h2.at hy2
        have HY : Aside (z1[j]? = some y1 ∧ z2[j]? = some y2) := ⟨hy1, hy2⟩
        clear h1 h2 hne2 hy1 hy2
        have hlt3 : (j : Int) < z1.length := by omega
        have hlt4 : (j : Int) < z2.length := by omega
        by_cases he : y1 = y2
        · subst he
          go_wp2
          go_quiet (fail)
          go_wp2
          go_roundg (z1.length - (j + 1))
          case measure => have := A.out.1; omega
          case rel =>
            refine ⟨j + 1, by go_num, by omega, ⟨rfl, ?_⟩, nn + nq, rfl⟩
            rw [take_snoc' HY.out.1, take_snoc' HY.out.2, A.out.2]
        · have he0 : y1.toNat ≠ y2.toNat := fun e => he (UInt8.toNat_inj.1 e)
          have he1 : ((y1.toNat : Int) != (y2.toNat : Int)) = true := by rw [bne_iff_ne]; omega
          have he2 : (y1.toNat != y2.toNat) = true := by simpa using he0
          have HE : Aside (y1 ≠ y2) := he
          clear he
          go_wp2
          go_quiet (fail)
          go_wp2
          go_ret
          have : z1 ≠ z2 := fun e => HE.out (by have h3 := HY.out.1; rw [e, HY.out.2] at h3; exact (Option.some.inj h3).symm)
          exact ⟨by simp [this], nn + nq, by rw [World.drewN_drewN]⟩
      · have : j = z1.length := by omega
        subst this
        clear hlt hne2 h1 h2
        go_wp2
        go_ret
        have e : z1 = z2 := by
          have := A.out.2
          rw [List.take_of_length_le (Nat.le_refl _), List.take_of_length_le (by have := HL.out; omega)] at this
          exact this
        exact ⟨by simp [e], nn, rfl⟩
  · have hne : z1 ≠ z2 := fun e => hl (by rw [e])
    have hne2 : ((z1.length : Int) != (z2.length : Int)) = true := by simp; omega
    have e : decide (z1 = z2) = false := by simpa using hne
    rw [e]
    clear e hne h1 h2 hl
    go_enter Tryz.func23, Tryz.ntmps23
    go_wp2
    go_ret
    exact ⟨rfl, 0, rfl⟩

set_option maxHeartbeats 400000 in
theorem ints_any (v1 v2 : Value) (z1 z2 : List Int) (w : World) (h1 : Zat w v1 z1) (h2 : Zat w v2 z2) :
    Calls Tryz.prog 22 #[v1, v2] w fun e w' => e = .returned (.bool (decide (z1 = z2))) ∧ ∃ n, w' = w.drewN n := by
  obtain ⟨a1, c1, rfl, hc1, hm1⟩ := h1.len
  obtain ⟨a2, c2, rfl, hc2, hm2⟩ := h2.len
  have hz1 : z1.length ≤ 9223372036854775807 := by have : c1 ≤ 9223372036854775807 := by simpa [maxLen] using hm1
                                                   omega
  have hz2 : z2.length ≤ 9223372036854775807 := by have : c2 ≤ 9223372036854775807 := by simpa [maxLen] using hm2
                                                   omega
  by_cases hl : z1.length = z2.length
  · have hne2 : ((z1.length : Int) != (z2.length : Int)) = false := by simp; omega
    have HL : Aside (z1.length = z2.length) := hl
    clear hl
    go_enter Tryz.func22, Tryz.ntmps22
    go_wp2
    go_loopg [5] z1.length (fun k i wr => ∃ j : Nat, i = .int .i64 j ∧ j ≤ z1.length ∧ Aside (k = z1.length - j ∧ z1.take j = z2.take j) ∧ ∃ n, w.drewN n = wr)
    case atStart => exact ⟨0, rfl, by omega, ⟨rfl, rfl⟩, 0, rfl⟩
    case round =>
      obtain ⟨j, rfl, hj, A, nn, rfl⟩ := hrel
      by_cases hlt : j < z1.length
      · have hlt2 : j < z2.length := by have := HL.out; omega
        obtain ⟨y1, hy1⟩ : ∃ y, z1[j]? = some y := ⟨z1[j], by simp [hlt]⟩
        obtain ⟨y2, hy2⟩ : ∃ y, z2[j]? = some y := ⟨z2[j], by simp [hlt2]⟩
        obtain ⟨b1, o1, rfl, x1⟩ := h1.at hy1
        obtain ⟨b2, o2, rfl, x2⟩ := h2.at hy2
        have HY : Aside (z1[j]? = some y1 ∧ z2[j]? = some y2) := ⟨hy1, hy2⟩
        clear h1 h2 hne2 hy1 hy2
        have hlt3 : (j : Int) < z1.length := by omega
        have hlt4 : (j : Int) < z2.length := by omega
        by_cases he : y1 = y2
        · subst he
          go_wp2
          go_quiet (fail)
          go_wp2
          go_roundg (z1.length - (j + 1))
          case measure => have := A.out.1; omega
          case rel =>
            refine ⟨j + 1, by go_num, by omega, ⟨rfl, ?_⟩, nn + nq, rfl⟩
            rw [take_snoc' HY.out.1, take_snoc' HY.out.2, A.out.2]
        · have he1 : (y1 != y2) = true := by rw [bne_iff_ne]; exact he
          have he3 : ¬ y1 = y2 := he
          have HE : Aside (y1 ≠ y2) := he
          go_wp2
          go_quiet (fail)
          go_wp2
          go_ret
          have : z1 ≠ z2 := fun e => HE.out (by have h3 := HY.out.1; rw [e, HY.out.2] at h3; exact (Option.some.inj h3).symm)
          exact ⟨by simp [this], nn + nq, by rw [World.drewN_drewN]⟩
      · have : j = z1.length := by omega
        subst this
        clear hlt hne2 h1 h2
        go_wp2
        go_ret
        have e : z1 = z2 := by
          have := A.out.2
          rw [List.take_of_length_le (Nat.le_refl _), List.take_of_length_le (by have := HL.out; omega)] at this
          exact this
        exact ⟨by simp [e], nn, rfl⟩
  · have hne : z1 ≠ z2 := fun e => hl (by rw [e])
    have hne2 : ((z1.length : Int) != (z2.length : Int)) = true := by simp; omega
    have e : decide (z1 = z2) = false := by simpa using hne
    rw [e]
    clear e hne h1 h2 hl
    go_enter Tryz.func22, Tryz.ntmps22
    go_wp2
    go_ret
    exact ⟨rfl, 0, rfl⟩

set_option maxHeartbeats 800000 in
theorem sameC_any (c : Cmd) (va vb : Value) (w : World) (ha : CmdAt w va c) (hb : CmdAt w vb c) :
    Calls Tryz.prog 10 #[va, vb] w fun e w' => e = .returned (.bool true) ∧ Below w.heap.size w w' := by
  obtain ⟨x1, x2, rfl, hz, ht⟩ := ha
  obtain ⟨y1, y2, rfl, kz, kt⟩ := hb
  obtain ⟨p1, d1, rfl, _, _⟩ := hz.len
  obtain ⟨p2, d2, rfl, _, _⟩ := ht.len
  obtain ⟨q1, e1, rfl, _, _⟩ := kz.len
  obtain ⟨q2, e2, rfl, _, _⟩ := kt.len
  have hi : ∀ w', Below w.heap.size w w' → Calls Tryz.prog 22 #[.slice p1 c.nums.length d1, .slice q1 c.nums.length e1] w' fun e w'' => e = .returned (.bool true) ∧ Below w'.heap.size w' w'' := fun w' hb => by
    refine (ints_any _ _ c.nums c.nums w' (hz.below hb) (kz.below hb)).mono ?_
    rintro e w'' ⟨rfl, n, rfl⟩
    exact ⟨by simp, Go.Sl.below_drewN _ _⟩
  have hs : ∀ w', Below w.heap.size w w' → Calls Tryz.prog 23 #[.slice p2 c.text.length d2, .slice q2 c.text.length e2] w' fun e w'' => e = .returned (.bool true) ∧ Below w'.heap.size w' w'' := fun w' hb => by
    refine (same_any _ _ c.text c.text w' (ht.below hb) (kt.below hb)).mono ?_
    rintro e w'' ⟨rfl, n, rfl⟩
    exact ⟨by simp, Go.Sl.below_drewN _ _⟩
  clear hz ht kz kt
  have HI : Aside (∀ w', Below w.heap.size w w' → Calls Tryz.prog 22 #[.slice p1 c.nums.length d1, .slice q1 c.nums.length e1] w' fun e w'' => e = .returned (.bool true) ∧ Below w'.heap.size w' w'') := hi
  have HS : Aside (∀ w', Below w.heap.size w w' → Calls Tryz.prog 23 #[.slice p2 c.text.length d2, .slice q2 c.text.length e2] w' fun e w'' => e = .returned (.bool true) ∧ Below w'.heap.size w' w'') := hs
  clear hi hs
  have hs0 : Sat (block (w.heap.size + 1) TCm [.string (str c.word), .slice q1 c.nums.length e1, .slice q2 c.text.length e2] * (block w.heap.size TCm [.string (str c.word), .slice p1 c.nums.length d1, .slice p2 c.text.length d2] * old w)) ((w.alloc (Obj.cells #[.string (str c.word), .slice p1 c.nums.length d1, .slice p2 c.text.length d2] TCm)).alloc (Obj.cells #[.string (str c.word), .slice q1 c.nums.length e1, .slice q2 c.text.length e2] TCm)) := by
    have h1 := ((Sat.old_self w).alloc #[.string (str c.word), .slice p1 c.nums.length d1, .slice p2 c.text.length d2] TCm).alloc #[.string (str c.word), .slice q1 c.nums.length e1, .slice q2 c.text.length e2] TCm
    have e : (w.alloc (Obj.cells #[.string (str c.word), .slice p1 c.nums.length d1, .slice p2 c.text.length d2] TCm)).heap.size = w.heap.size + 1 := by
      show (w.heap.push _).size = _
      simp
    rw [e] at h1
    exact h1
  haveI := hs0.i
  have beq : (c.word == c.word) = true := by simp
  go_enter Tryz.func10, Tryz.ntmps10
  go_wp2_with fail
  refine (HI.out _ (hs0.take (old w)).old_below).mono ?_
  rintro e w2 ⟨rfl, hb2⟩
  have hs2 := hs0.below hb2
  haveI := hs2.i
  clear hs0
  go_wp2_with fail
  refine (HS.out _ (hs2.take (old w)).old_below).mono ?_
  rintro e w3 ⟨rfl, hb3⟩
  have hs3 := hs2.below hb3
  go_wp2
  go_ret
  exact ⟨rfl, (hs3.take (old w)).old_below⟩

end Go.Proofs.YtebhnbecjmdicaaGreatDoor

namespace Go.Proofs.YtebhnbecjmdicaaGreatDoor
set_option linter.unusedSimpArgs false
set_option linter.unusedVariables false
open Go.RowKit Go.Sl Go.Sc
attribute [local go_sem] Go.Sl.cell_sat Go.Sl.frozen_sat

/-- a row that is not empty has a block -/
theorem row_some {e s : Nat} {a : Option Addr} {n c : Nat} {xs : List Value} {F : Assn} {w : World} (hs : Sat (rw e s (.slice a n c) xs * F) w) (hn : 0 < n) : ∃ g, a = some ⟨g, 0, none⟩ := by
  rcases hs.rw_open with ⟨h1, _⟩ | ⟨g', n', cap, sp, h1, _⟩
  · cases h1; omega
  · cases h1; exact ⟨_, rfl⟩
theorem rw_max {e s : Nat} {a : Option Addr} {n c : Nat} {xs : List Value} {F : Assn} {w : World} (hs : Sat (rw e s (.slice a n c) xs * F) w) : xs.length = n * s ∧ n ≤ c ∧ c ≤ 9223372036854775807 := by
  rcases hs.rw_open with ⟨h1, h2, _⟩ | ⟨g', n', cap, sp, h1, h2, h3, h4, h5, _⟩
  · cases h1; subst h2; simp
  · cases h1; exact ⟨h2, h4, by simpa [maxLen] using h5⟩

set_option maxHeartbeats 400000 in
theorem copy_ref (v : Value) (l : List UInt8) (B F : Assn) (w : World) (hB : Reads B v l) (hs : Sat (B * F) w) (hl : l.length ≤ 35184372088832) :
    Calls Tryz.prog 15 #[v] w fun e w' => ∃ a c, e = .returned (.slice a l.length c) ∧ Sat (rw TBy 1 (.slice a l.length c) (bys l) * (B * F)) w' := by
  obtain ⟨i0, E⟩ := elemBy
  obtain ⟨va, vc, rfl, _, _⟩ := (hB F w hs).len
  go_enter Tryz.func15, Tryz.ntmps15
  go_wp2
  go_loopg [3, 4] l.length (fun k t i wr => ∃ (j : Nat) (a : Option Addr) (c : Nat), i = .int .i64 j ∧ t = .slice a j c ∧ j ≤ l.length ∧ Aside (k = l.length - j) ∧ Sat (rw TBy 1 (.slice a j c) (bys (l.take j)) * (B * F)) wr)
  case atStart => exact ⟨0, none, 0, rfl, rfl, by omega, rfl, by simpa [bys] using hs.rw_nil⟩
  case round =>
    obtain ⟨j, a, c, rfl, rfl, hj, A, hsr⟩ := hrel
    clear hs
    by_cases hlt : j < l.length
    · have hlt' : (j : Int) < l.length := by omega
      obtain ⟨x, hx⟩ : ∃ x, l[j]? = some x := ⟨l[j], by simp [hlt]⟩
      obtain ⟨b, o, rfl, hc⟩ := (hB _ _ (hsr.take B)).at hx
      have HT : Aside (l.take (j + 1) = l.take j ++ [x]) := take_snoc' hx
      have hs4 := hsr.alloc #[.int .u8 x.toNat] TBy
      have hs5 := hs4.take (rw TBy 1 (.slice a j c) (bys (l.take j)))
      have hsrc := Src.one_new (P := Tryz.prog) hs4 rfl
      clear hs4 hx
      go_wp2_with (at_builtin; refine wpl_append_same E rfl (.tmp 11) (.tmp 16) rfl rfl rfl hs5 hsrc (by unfold maxLen; omega) (by omega) ?_; intro a' c' w' hs6 hnil; clear hnil hs5 hsrc)
      go_roundg (l.length - (j + 1))
      case measure => have := A.out; omega
      case rel =>
        refine ⟨j + 1, a', c', by go_num, rfl, by omega, rfl, ?_⟩
        rw [HT.out, bys_append]
        refine Sat.weak (B := block wr.heap.size TBy [.int .u8 x.toNat]) (hs6.eq ?_)
        rw [show bys [x] = [Value.int .u8 x.toNat] from rfl]
        ac_rfl
    · have hlt' : ¬ (j : Int) < l.length := by omega
      have hje : j = l.length := by omega
      subst hje
      rw [List.take_of_length_le (Nat.le_refl _)] at hsr
      clear hlt hlt' hj
      go_wp2
      go_ret
      exact ⟨a, c, rfl, hsr⟩

def lentL (l : List UInt8) : List UInt8 := l ++ [165, 90, 165]
theorem lentL_len (l : List UInt8) : (lentL l).length = l.length + 3 := by simp [lentL]
theorem reads_lent (g c : Nat) (l : List UInt8) : Reads (rw TBy 1 (.slice (some ⟨g, 0, none⟩) (l.length + 3) c) (bys (lentL l))) (.slice (some ⟨g, 0, none⟩) l.length c) l := by
  intro F w hs
  have h0 : Byt w (.slice (some ⟨g, 0, none⟩) (l.length + 3) c) (lentL l) := Reads.rw F w hs
  have h := h0.cut 0 l.length (by omega) (by omega)
  rw [cutA_zero] at h
  simpa [lentL] using h

set_option maxHeartbeats 800000 in
theorem lent_any (v : Value) (l : List UInt8) (B F : Assn) (w : World) (hB : Reads B v l) (hs : Sat (B * F) w) (hl : l.length ≤ 1099511627776) :
    Calls Tryz.prog 5 #[v] w fun e w' => ∃ g c, e = .returned (.slice (some ⟨g, 0, none⟩) l.length c) ∧ Sat (rw TBy 1 (.slice (some ⟨g, 0, none⟩) (l.length + 3) c) (bys (lentL l)) * (B * F)) w' := by
  obtain ⟨i0, E⟩ := elemBy
  obtain ⟨va, vc, rfl, _, _⟩ := (hB F w hs).len
  have hco := copy_ref _ l B F w hB hs (by omega)
  go_enter Tryz.func5, Tryz.ntmps5
  go_wp2_with fail
  refine hco.mono ?_
  rintro e w1 ⟨a1, c1, rfl, hs1⟩
  clear hco hs
  haveI := hs1.i
  have hb3 : bys [165, 90, 165] = [Value.int .u8 165, .int .u8 90, .int .u8 165] := rfl
  have hsb : Sat (block w1.heap.size TBy (bys [165, 90, 165]) * _) (w1.alloc (.cells #[.int .u8 165, .int .u8 90, .int .u8 165] TBy)) := hs1.alloc #[.int .u8 165, .int .u8 90, .int .u8 165] TBy
  have hsrc := ((Reads.block0 (l := [165, 90, 165]) (by unfold maxLen; decide)) _ _ hsb).src (P := Tryz.prog)
  have hs5 := hsb.take (rw TBy 1 (.slice a1 l.length c1) (bys l))
  go_wp2_with (at_builtin; refine wpl_append_same E rfl (.tmp 5) (.tmp 6) rfl rfl rfl hs5 hsrc (by unfold maxLen; simp; omega) (by simp; omega) ?_; intro a2 c2 w2 hs6 hnil; clear hnil hs5 hsrc; obtain ⟨g, rfl⟩ := row_some hs6 (by simp); have hcc := (rw_max hs6).2.1; simp only [List.length_cons, List.length_nil, Nat.zero_add, Nat.reduceAdd] at hcc hs6 ⊢; have hlc : (l.length : Int) ≤ c2 := by omega)
  go_ret
  rw [← bys_append] at hs6
  exact ⟨g, c2, rfl, Sat.weak (B := block w1.heap.size TBy (bys [165, 90, 165])) (hs6.eq (by show _ = rw TBy 1 (.slice (some ⟨g, 0, none⟩) (l.length + 3) c2) (bys (l ++ [165, 90, 165])) * _ * _; ac_rfl))⟩

set_option maxHeartbeats 800000 in
theorem kept_any (v : Value) (l : List UInt8) (g c : Nat) (B F : Assn) (w : World) (hB : Reads B v l) (hs : Sat (rw TBy 1 (.slice (some ⟨g, 0, none⟩) (l.length + 3) c) (bys (lentL l)) * (B * F)) w) (hl : l.length ≤ 1099511627776) :
    Calls Tryz.prog 11 #[.slice (some ⟨g, 0, none⟩) l.length c, v] w fun e w' => e = .returned (.bool true) ∧ Sat (rw TBy 1 (.slice (some ⟨g, 0, none⟩) (l.length + 3) c) (bys (lentL l)) * (B * F)) w' := by
  obtain ⟨i0, E⟩ := elemBy
  have hb2 := hB _ _ (hs.take B)
  obtain ⟨va, vc, rfl, _, _⟩ := hb2.len
  obtain ⟨_, hcc, hcm⟩ := rw_max hs
  have hsm := same_any (.slice (some ⟨g, 0, none⟩) l.length c) (.slice va l.length vc) l l w ((reads_lent g c l) _ _ hs) hb2
  rw [decide_eq_true (rfl : l = l)] at hsm
  go_enter Tryz.func11, Tryz.ntmps11
  go_wp2_with fail
  refine hsm.mono ?_
  rintro e w1 ⟨rfl, n, rfl⟩
  clear hsm hb2
  have hs1 := hs.drewN n
  generalize w.drewN n = w1 at hs1 ⊢
  clear hs
  have hto := at_to (P := Tryz.prog) E (a := some ⟨g, 0, none⟩) (n := l.length) (c := c) (l.length + 3) (by omega)
  rw [cutA_zero, Int.natCast_add] at hto
  have hlt : ¬ (c : Int) < (l.length : Int) + 3 := by omega
  have g0 : (lentL l)[l.length]? = some 165 := by simp [lentL]
  have g1 : (lentL l)[l.length + 1]? = some 90 := by simp [lentL]
  have g2 : (lentL l)[l.length + 2]? = some 165 := by simp [lentL]
  haveI : At (bys (lentL l)) l.length (.int .u8 165) := ⟨by unfold bys; rw [List.getElem?_map, g0]; rfl⟩
  haveI : At (bys (lentL l)) (l.length + 1) (.int .u8 90) := ⟨by unfold bys; rw [List.getElem?_map, g1]; rfl⟩
  haveI : At (bys (lentL l)) (l.length + 2) (.int .u8 165) := ⟨by unfold bys; rw [List.getElem?_map, g2]; rfl⟩
  haveI := hs1.i
  clear g0 g1 g2
  go_wp2
  go_ret
  exact ⟨rfl, satI⟩

end Go.Proofs.YtebhnbecjmdicaaGreatDoor
