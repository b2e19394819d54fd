/-
  ScriptParses: every line is parsed as the command that it is, or refused.
-/
import Derived.Test.YtefcphflpbopiaaGreatDoorScR
import Derived.Test.YtefcphflpbopiaaGreatDoorEv25a
import Derived.Deep.DrawnRows
namespace Go.Proofs.YtefcphflpbopiaaGreatDoor
set_option linter.unusedSimpArgs false
set_option linter.unusedVariables false
open Go.RowKit Go.Sl Go.Sc
attribute [local go_sem] Go.Sl.cell_sat Go.Sl.frozen_sat Go.Sc.str_toList Go.Sc.str_size Go.Sc.str_extract
theorem take_snoc' {α : Type} {l : List α} {i : Nat} {x : α} (h : l[i]? = some x) : l.take (i + 1) = l.take i ++ [x] := by
  obtain ⟨hi, rfl⟩ := List.getElem?_eq_some_iff.1 h
  rw [List.take_succ_eq_append_getElem hi]

set_option maxHeartbeats 400000 in
theorem same_any (v1 v2 : Value) (z1 z2 : List UInt8) (w : World) (h1 : Byt w v1 z1) (h2 : Byt w v2 z2) :
    Calls Tryz.prog 21 #[v1, v2] w fun e w' => e = .returned (.bool (decide (z1 = z2))) ∧ ∃ n, w' = w.drewN n := by
  obtain ⟨a1, c1, rfl, hc1, hm1⟩ := h1.len
  obtain ⟨a2, c2, rfl, hc2, hm2⟩ := h2.len
  have hz1 : z1.length ≤ 9223372036854775807 := by have : c1 ≤ 9223372036854775807 := by simpa [maxLen] using hm1
                                                   omega
  have hz2 : z2.length ≤ 9223372036854775807 := by have : c2 ≤ 9223372036854775807 := by simpa [maxLen] using hm2
                                                   omega
  by_cases hl : z1.length = z2.length
  · have hne2 : ((z1.length : Int) != (z2.length : Int)) = false := by simp; omega
    have HL : Aside (z1.length = z2.length) := hl
    clear hl
    go_enter Tryz.func21, Tryz.ntmps21
    go_wp2
    go_loopg [5] z1.length (fun k i wr => ∃ j : Nat, i = .int .i64 j ∧ j ≤ z1.length ∧ Aside (k = z1.length - j ∧ z1.take j = z2.take j) ∧ ∃ n, w.drewN n = wr)
    case atStart => exact ⟨0, rfl, by omega, ⟨rfl, rfl⟩, 0, rfl⟩
    case round =>
      obtain ⟨j, rfl, hj, A, nn, rfl⟩ := hrel
      by_cases hlt : j < z1.length
      · have hlt2 : j < z2.length := by have := HL.out; omega
        obtain ⟨y1, hy1⟩ : ∃ y, z1[j]? = some y := ⟨z1[j], by simp [hlt]⟩
        obtain ⟨y2, hy2⟩ : ∃ y, z2[j]? = some y := ⟨z2[j], by simp [hlt2]⟩
        obtain ⟨b1, o1, rfl, x1⟩ := h1.at hy1
        obtain ⟨b2, o2, rfl, x2⟩ := h2.at hy2
        have HY : Aside (z1[j]? = some y1 ∧ z2[j]? = some y2) := ⟨hy1, hy2⟩
        clear h1 h2 hne2 hy1 hy2
        have hlt3 : (j : Int) < z1.length := by omega
        have hlt4 : (j : Int) < z2.length := by omega
        by_cases he : y1 = y2
        · subst he
          go_wp2
          go_quiet (fail)
          go_wp2
          go_roundg (z1.length - (j + 1))
          case measure => have := A.out.1; omega
          case rel =>
            refine ⟨j + 1, by go_num, by omega, ⟨rfl, ?_⟩, nn + nq, rfl⟩
            rw [take_snoc' HY.out.1, take_snoc' HY.out.2, A.out.2]
        · have he0 : y1.toNat ≠ y2.toNat := fun e => he (UInt8.toNat_inj.1 e)
          have he1 : ((y1.toNat : Int) != (y2.toNat : Int)) = true := by rw [bne_iff_ne]; omega
          have he2 : (y1.toNat != y2.toNat) = true := by simpa using he0
          have HE : Aside (y1 ≠ y2) := he
          clear he
          go_wp2
          go_quiet (fail)
          go_wp2
          go_ret
          have : z1 ≠ z2 := fun e => HE.out (by have h3 := HY.out.1; rw [e, HY.out.2] at h3; exact (Option.some.inj h3).symm)
          exact ⟨by simp [this], nn + nq, by rw [World.drewN_drewN]⟩
      · have : j = z1.length := by omega
        subst this
        clear hlt hne2 h1 h2
        go_wp2
        go_ret
        have e : z1 = z2 := by
          have := A.out.2
          rw [List.take_of_length_le (Nat.le_refl _), List.take_of_length_le (by have := HL.out; omega)] at this
          exact this
        exact ⟨by simp [e], nn, rfl⟩
  · have hne : z1 ≠ z2 := fun e => hl (by rw [e])
    have hne2 : ((z1.length : Int) != (z2.length : Int)) = true := by simp; omega
    have e : decide (z1 = z2) = false := by simpa using hne
    rw [e]
    clear e hne h1 h2 hl
    go_enter Tryz.func21, Tryz.ntmps21
    go_wp2
    go_ret
    exact ⟨rfl, 0, rfl⟩

set_option maxHeartbeats 400000 in
theorem ints_any (v1 v2 : Value) (z1 z2 : List Int) (w : World) (h1 : Zat w v1 z1) (h2 : Zat w v2 z2) :
    Calls Tryz.prog 20 #[v1, v2] w fun e w' => e = .returned (.bool (decide (z1 = z2))) ∧ ∃ n, w' = w.drewN n := by
  obtain ⟨a1, c1, rfl, hc1, hm1⟩ := h1.len
  obtain ⟨a2, c2, rfl, hc2, hm2⟩ := h2.len
  have hz1 : z1.length ≤ 9223372036854775807 := by have : c1 ≤ 9223372036854775807 := by simpa [maxLen] using hm1
                                                   omega
  have hz2 : z2.length ≤ 9223372036854775807 := by have : c2 ≤ 9223372036854775807 := by simpa [maxLen] using hm2
                                                   omega
  by_cases hl : z1.length = z2.length
  · have hne2 : ((z1.length : Int) != (z2.length : Int)) = false := by simp; omega
    have HL : Aside (z1.length = z2.length) := hl
    clear hl
    go_enter Tryz.func20, Tryz.ntmps20
    go_wp2
    go_loopg [5] z1.length (fun k i wr => ∃ j : Nat, i = .int .i64 j ∧ j ≤ z1.length ∧ Aside (k = z1.length - j ∧ z1.take j = z2.take j) ∧ ∃ n, w.drewN n = wr)
    case atStart => exact ⟨0, rfl, by omega, ⟨rfl, rfl⟩, 0, rfl⟩
    case round =>
      obtain ⟨j, rfl, hj, A, nn, rfl⟩ := hrel
      by_cases hlt : j < z1.length
      · have hlt2 : j < z2.length := by have := HL.out; omega
        obtain ⟨y1, hy1⟩ : ∃ y, z1[j]? = some y := ⟨z1[j], by simp [hlt]⟩
        obtain ⟨y2, hy2⟩ : ∃ y, z2[j]? = some y := ⟨z2[j], by simp [hlt2]⟩
        obtain ⟨b1, o1, rfl, x1⟩ := h1.at hy1
        obtain ⟨b2, o2, rfl, x2⟩ := h2.at hy2
        have HY : Aside (z1[j]? = some y1 ∧ z2[j]? = some y2) := ⟨hy1, hy2⟩
        clear h1 h2 hne2 hy1 hy2
        have hlt3 : (j : Int) < z1.length := by omega
        have hlt4 : (j : Int) < z2.length := by omega
        by_cases he : y1 = y2
        · subst he
          go_wp2
          go_quiet (fail)
          go_wp2
          go_roundg (z1.length - (j + 1))
          case measure => have := A.out.1; omega
          case rel =>
            refine ⟨j + 1, by go_num, by omega, ⟨rfl, ?_⟩, nn + nq, rfl⟩
            rw [take_snoc' HY.out.1, take_snoc' HY.out.2, A.out.2]
        · have he1 : (y1 != y2) = true := by rw [bne_iff_ne]; exact he
          have he3 : ¬ y1 = y2 := he
          have HE : Aside (y1 ≠ y2) := he
          go_wp2
          go_quiet (fail)
          go_wp2
          go_ret
          have : z1 ≠ z2 := fun e => HE.out (by have h3 := HY.out.1; rw [e, HY.out.2] at h3; exact (Option.some.inj h3).symm)
          exact ⟨by simp [this], nn + nq, by rw [World.drewN_drewN]⟩
      · have : j = z1.length := by omega
        subst this
        clear hlt hne2 h1 h2
        go_wp2
        go_ret
        have e : z1 = z2 := by
          have := A.out.2
          rw [List.take_of_length_le (Nat.le_refl _), List.take_of_length_le (by have := HL.out; omega)] at this
          exact this
        exact ⟨by simp [e], nn, rfl⟩
  · have hne : z1 ≠ z2 := fun e => hl (by rw [e])
    have hne2 : ((z1.length : Int) != (z2.length : Int)) = true := by simp; omega
    have e : decide (z1 = z2) = false := by simpa using hne
    rw [e]
    clear e hne h1 h2 hl
    go_enter Tryz.func20, Tryz.ntmps20
    go_wp2
    go_ret
    exact ⟨rfl, 0, rfl⟩

set_option maxHeartbeats 800000 in
theorem sameC_any (c : Cmd) (va vb : Value) (w : World) (ha : CmdAt w va c) (hb : CmdAt w vb c) :
    Calls Tryz.prog 7 #[va, vb] w fun e w' => e = .returned (.bool true) ∧ Below w.heap.size w w' := by
  obtain ⟨x1, x2, rfl, hz, ht⟩ := ha
  obtain ⟨y1, y2, rfl, kz, kt⟩ := hb
  obtain ⟨p1, d1, rfl, _, _⟩ := hz.len
  obtain ⟨p2, d2, rfl, _, _⟩ := ht.len
  obtain ⟨q1, e1, rfl, _, _⟩ := kz.len
  obtain ⟨q2, e2, rfl, _, _⟩ := kt.len
  have hi : ∀ w', Below w.heap.size w w' → Calls Tryz.prog 20 #[.slice p1 c.nums.length d1, .slice q1 c.nums.length e1] w' fun e w'' => e = .returned (.bool true) ∧ Below w'.heap.size w' w'' := fun w' hb => by
    refine (ints_any _ _ c.nums c.nums w' (hz.below hb) (kz.below hb)).mono ?_
    rintro e w'' ⟨rfl, n, rfl⟩
    exact ⟨by simp, Go.Sl.below_drewN _ _⟩
  have hs : ∀ w', Below w.heap.size w w' → Calls Tryz.prog 21 #[.slice p2 c.text.length d2, .slice q2 c.text.length e2] w' fun e w'' => e = .returned (.bool true) ∧ Below w'.heap.size w' w'' := fun w' hb => by
    refine (same_any _ _ c.text c.text w' (ht.below hb) (kt.below hb)).mono ?_
    rintro e w'' ⟨rfl, n, rfl⟩
    exact ⟨by simp, Go.Sl.below_drewN _ _⟩
  clear hz ht kz kt
  have HI : Aside (∀ w', Below w.heap.size w w' → Calls Tryz.prog 20 #[.slice p1 c.nums.length d1, .slice q1 c.nums.length e1] w' fun e w'' => e = .returned (.bool true) ∧ Below w'.heap.size w' w'') := hi
  have HS : Aside (∀ w', Below w.heap.size w w' → Calls Tryz.prog 21 #[.slice p2 c.text.length d2, .slice q2 c.text.length e2] w' fun e w'' => e = .returned (.bool true) ∧ Below w'.heap.size w' w'') := hs
  clear hi hs
  have hs0 : Sat (block (w.heap.size + 1) TCm [.string (str c.word), .slice q1 c.nums.length e1, .slice q2 c.text.length e2] * (block w.heap.size TCm [.string (str c.word), .slice p1 c.nums.length d1, .slice p2 c.text.length d2] * old w)) ((w.alloc (Obj.cells #[.string (str c.word), .slice p1 c.nums.length d1, .slice p2 c.text.length d2] TCm)).alloc (Obj.cells #[.string (str c.word), .slice q1 c.nums.length e1, .slice q2 c.text.length e2] TCm)) := by
    have h1 := ((Sat.old_self w).alloc #[.string (str c.word), .slice p1 c.nums.length d1, .slice p2 c.text.length d2] TCm).alloc #[.string (str c.word), .slice q1 c.nums.length e1, .slice q2 c.text.length e2] TCm
    have e : (w.alloc (Obj.cells #[.string (str c.word), .slice p1 c.nums.length d1, .slice p2 c.text.length d2] TCm)).heap.size = w.heap.size + 1 := by
      show (w.heap.push _).size = _
      simp
    rw [e] at h1
    exact h1
  haveI := hs0.i
  have beq : (c.word == c.word) = true := by simp
  go_enter Tryz.func7, Tryz.ntmps7
  go_wp2_with fail
  refine (HI.out _ (hs0.take (old w)).old_below).mono ?_
  rintro e w2 ⟨rfl, hb2⟩
  have hs2 := hs0.below hb2
  haveI := hs2.i
  clear hs0
  go_wp2_with fail
  refine (HS.out _ (hs2.take (old w)).old_below).mono ?_
  rintro e w3 ⟨rfl, hb3⟩
  have hs3 := hs2.below hb3
  go_wp2
  go_ret
  exact ⟨rfl, (hs3.take (old w)).old_below⟩

theorem awake25_any (w : World) : Calls Tryz.prog 4 #[] w fun e w' => e = .returned (.bool true) ∧ Below w.heap.size w w' :=
  (awake25_tru w).mono fun _ _ ⟨he, hs⟩ => ⟨he, hs.below⟩
/-- both ways of ending, as one -/
theorem parR_at {r : Option Cmd} {e : Ending} {w' : World} (h : ParR r e w') : ∃ (c : Cmd) (v : Value) (n : Int), (r.getD ⟨[], [], []⟩ = c ∧ n = if r.isSome then 0 else 16) ∧ e = .returned (.tuple #[v, .int .i64 n]) ∧ CmdAt w' v c := by
  rcases h with ⟨c, v, rfl, rfl, hv⟩ | ⟨rfl, rfl⟩
  · exact ⟨c, v, 0, ⟨rfl, rfl⟩, rfl, hv⟩
  · exact ⟨_, zeroC, 16, ⟨rfl, rfl⟩, rfl, zeroC_at w'⟩

set_option maxHeartbeats 1600000 in
theorem parses_any (l : Bs) (w : World) (hc : Ctx w) : Calls Tryz.prog 3 #[.string (str l)] w fun e w' => e = .returned (.bool true) ∧ Below w.heap.size w w' := by
  have haw := awake25_any w
  by_cases hl : 3000 < l.length
  · have hl' : (3000 : Int) < l.length := by omega
    go_enter Tryz.func3, Tryz.ntmps3
    go_wp2_with fail
    refine haw.mono ?_
    rintro e w1 ⟨rfl, hb1⟩
    have haw2 := awake25_any w1
    go_wp2_with fail
    refine haw2.mono ?_
    rintro e w2 ⟨rfl, hb2⟩
    go_wp2
    go_ret
    exact ⟨rfl, hb1.trans (hb2.mono hb1.size)⟩
  · have hl' : ¬ (3000 : Int) < l.length := by omega
    have HC : Aside (Ctx w) := hc
    clear hc
    go_enter Tryz.func3, Tryz.ntmps3
    go_wp2_with fail
    refine haw.mono ?_
    rintro e w1 ⟨rfl, hb1⟩
    go_wp2_with fail
    refine (parse_any l (by omega) w1 (HC.out.below hb1)).mono ?_
    rintro e w2 ⟨hp, hb2⟩
    obtain ⟨c, v, n, hcn, rfl, hv⟩ := parR_at hp
    have HQ : Aside ((parseP l).getD ⟨[], [], []⟩ = c ∧ n = if (parseP l).isSome then 0 else 16) := hcn
    obtain ⟨x1, x2, rfl, hz, ht⟩ := id hv
    obtain ⟨p1, d1, rfl, _, _⟩ := hz.len
    obtain ⟨p2, d2, rfl, _, _⟩ := ht.len
    have hs2 : Sat (block w2.heap.size TCm [.string (str c.word), .slice p1 c.nums.length d1, .slice p2 c.text.length d2] * old w2) (w2.alloc (Obj.cells #[.string (str c.word), .slice p1 c.nums.length d1, .slice p2 c.text.length d2] TCm)) := (Sat.old_self w2).alloc #[.string (str c.word), .slice p1 c.nums.length d1, .slice p2 c.text.length d2] TCm
    have HV : Aside (CmdAt w2 (cmdV c.word (.slice p1 c.nums.length d1) (.slice p2 c.text.length d2)) c) := hv
    have HB : Aside (Below w.heap.size w w2) := hb1.trans (hb2.mono hb1.size)
    clear hp hz ht hv hb1 hb2 hcn
    go_wp2_with fail
    refine (refParse_any l (by omega) _).mono ?_
    rintro e w3 ⟨hp3, hb3⟩
    obtain ⟨c', v', n', ⟨hcq', hnq'⟩, rfl, hv'⟩ := parR_at hp3
    obtain ⟨hcq, hnq⟩ := HQ.out
    rw [← parse_same l] at hcq' hnq'
    obtain rfl : c' = c := hcq'.symm.trans hcq
    obtain rfl : n' = n := hnq'.trans hnq.symm
    have hs3 := hs2.below hb3
    have HV3 : Aside (CmdAt w3 (cmdV c'.word (.slice p1 c'.nums.length d1) (.slice p2 c'.text.length d2)) c') := HV.out.below (hs3.take (old w2)).old_below
    obtain ⟨y1, y2, rfl, kz, kt⟩ := id hv'
    obtain ⟨q1, e1, rfl, _, _⟩ := kz.len
    obtain ⟨q2, e2, rfl, _, _⟩ := kt.len
    have HV4 : Aside (CmdAt w3 (cmdV c'.word (.slice q1 c'.nums.length e1) (.slice q2 c'.text.length e2)) c') := hv'
    have hs4 : Sat (block w3.heap.size TCm [.string (str c'.word), .slice q1 c'.nums.length e1, .slice q2 c'.text.length e2] * (block w2.heap.size TCm [.string (str c'.word), .slice p1 c'.nums.length d1, .slice p2 c'.text.length d2] * old w2)) (w3.alloc (Obj.cells #[.string (str c'.word), .slice q1 c'.nums.length e1, .slice q2 c'.text.length e2] TCm)) := hs3.alloc #[.string (str c'.word), .slice q1 c'.nums.length e1, .slice q2 c'.text.length e2] TCm
    have hb4 : Below w3.heap.size w3 (w3.alloc (Obj.cells #[.string (str c'.word), .slice q1 c'.nums.length e1, .slice q2 c'.text.length e2] TCm)) := (Below.refl _ w3).alloc (Nat.le_refl _) _
    haveI := hs4.i
    clear hp3 kz kt hv' hs2 hs3 hcq hnq hcq' hnq' hb3 HQ
    go_wp2_with fail
    refine (sameC_any c' _ _ _ (HV3.out.below hb4) (HV4.out.below hb4)).mono ?_
    rintro e w5 ⟨rfl, hb5⟩
    have hs5 := hs4.below hb5
    clear hs4
    go_wp2
    go_ret
    exact ⟨by simp, HB.out.trans ((hs5.take (old w2)).old_below.mono HB.out.size)⟩
theorem scriptParses_walk (s : ByteArray) (w : World) (hc : Ctx w) : Calls Tryz.prog 3 #[.string s] w fun e w' => e = .returned (.bool true) ∧ Below w.heap.size w w' := by
  rw [str_eta s]
  exact parses_any _ w hc
end Go.Proofs.YtefcphflpbopiaaGreatDoor
