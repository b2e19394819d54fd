/-
  The document's own checksum, walked; told to the reckoning.
-/
import Derived.Test.YtjclpdlijblpjaaGreatEvc
namespace Go.Ev
noncomputable def hkRef (f : Nat) : Hk := fun g args h => bif Nat.beq g f then (match args with
  | [.slice (some a) n _] => match rd h a.block a.off n with
    | some l => match natsOf l with
      | some bs => bif Nat.blt bs.length 1000000 then some (.ret (.int .u32 (Int.ofNat (Nat.xor (crcRun 4294967295 bs) 4294967295))) h) else none
      | none => none
    | none => none
  | _ => none) else none
end Go.Ev
namespace Go.Proofs.YtjclpdlijblpjaaGreat
set_option linter.unusedSimpArgs false
set_option linter.unusedVariables false
open Go.RowKit Go.Sl Go.Ev
attribute [local go_sem ↓] Go.wp_at_zero Go.wp_at_succ

set_option maxHeartbeats 800000 in
theorem move_any (s : Nat) (hs : s < 4294967296) (w : World) :
    Calls Tryz.prog 374 #[.int .u32 s] w fun e w' => e = .returned (.int .u32 (Ev.crcSteps 8 s : Nat)) ∧ w = w' := by
  go_enter Tryz.func374, Tryz.ntmps374
  go_wp2
  go_loopg [0, 3] 8 (fun g t0 t3 wr => ∃ i s2 : Nat, t0 = .int .u32 s2 ∧ t3 = .int .i64 i ∧ i ≤ 8 ∧ s2 < 4294967296 ∧ Aside (g = 8 - i ∧ s2 = Ev.crcSteps i s) ∧ w = wr)
  case atStart => exact ⟨0, s, rfl, rfl, by omega, hs, ⟨rfl, rfl⟩, rfl⟩
  case round =>
    obtain ⟨i, s2, rfl, rfl, hi, hs2, A, rfl⟩ := hrel
    by_cases hi8 : i < 8
    · have hi8' : (i : Int) < 8 := by omega
      have HS : Aside (Ev.crcSteps (i + 1) s = Ev.crcStep s2) := (by rw [crcSteps_snoc, ← A.out.2] : _ = _)
      have hx := xor32 (s2 / 2) 3988292384 (by omega) (by omega)
      by_cases h : s2 % 2 = 1
      · have e : Ev.crcStep s2 = (s2 / 2) ^^^ 3988292384 := by rw [crcStep_eq, if_pos h]
        have hlt := crcStep_lt hs2
        rw [e] at HS hlt
        have hx2 : bits .xor .u32 ((s2 : Int) / 2) 3988292384 = ((s2 / 2 ^^^ 3988292384 : Nat) : Int) := hx
        have hm : (s2 : Int) % 2 = 1 := by omega
        obtain ⟨s3, hs3⟩ : ∃ z, s2 / 2 ^^^ 3988292384 = z := ⟨_, rfl⟩
        rw [hs3] at HS hlt hx2
        clear hs3 hx e h
        go_wp2
        go_roundg (8 - (i + 1))
        case measure => have := A.out.1; omega
        case rel => exact ⟨i + 1, s3, rfl, by go_num, by omega, hlt, ⟨rfl, HS.out.symm⟩, rfl⟩
      · have e : Ev.crcStep s2 = s2 / 2 := by rw [crcStep_eq, if_neg h]
        have hlt := crcStep_lt hs2
        rw [e] at HS hlt
        have hm : ¬ (s2 : Int) % 2 = 1 := by omega
        clear hx e h
        go_wp2
        go_roundg (8 - (i + 1))
        case measure => have := A.out.1; omega
        case rel => exact ⟨i + 1, s2 / 2, rfl, by go_num, by omega, hlt, ⟨rfl, HS.out.symm⟩, rfl⟩
    · have hi8' : ¬ (i : Int) < 8 := by omega
      have HS : Aside (Ev.crcSteps 8 s = s2) := (by
        have h8 : i = 8 := by omega
        have h9 := A.out.2
        rw [h8] at h9
        exact h9.symm : _ = _)
      clear A hi8
      go_wp2
      go_ret
      refine ⟨?_, rfl⟩
      rw [HS.out]
      rfl

set_option maxHeartbeats 800000 in
theorem refOf_any (v : Value) (l : List Nat) (w : World) (hp : Byc w v l) :
    Calls Tryz.prog 356 #[v] w fun e w' => e = .returned (.int .u32 (Ev.crcRun 4294967295 l ^^^ 4294967295 : Nat)) ∧ w = w' := by
  obtain ⟨pa, pc, rfl, hpm, _⟩ := id hp
  have HB : Aside (Byc w (.slice pa l.length pc) l) := hp
  clear hp
  go_enter Tryz.func356, Tryz.ntmps356
  go_wp2
  go_loopg [3, 4] l.length (fun g t3 t4 wq => ∃ j s2 : Nat, t3 = .int .u32 s2 ∧ t4 = .int .i64 j ∧ j ≤ l.length ∧ s2 < 4294967296 ∧ Aside (g = l.length - j ∧ s2 = Ev.crcRun 4294967295 (l.take j)) ∧ w = wq)
  case atStart => exact ⟨0, 4294967295, rfl, rfl, by omega, by omega, ⟨rfl, by simp [Ev.crcRun]⟩, rfl⟩
  case round =>
    obtain ⟨j, s2, rfl, rfl, hj, hs2, A2, rfl⟩ := hrel
    by_cases hjl : j < l.length
    · have hjl' : (j : Int) < l.length := by omega
      obtain ⟨x, hx⟩ : ∃ x, l[j]? = some x := ⟨l[j], by simp [hjl]⟩
      obtain ⟨hx8, b2, o2, rfl, hc2⟩ := HB.out.at hx
      have hxo := xor32 s2 x hs2 (by omega)
      have hlt2 : s2 ^^^ x < 4294967296 := Nat.xor_lt_two_pow (n := 32) (by omega) (by omega)
      have HS : Aside (Ev.crcRun 4294967295 (l.take (j + 1)) = Ev.crcSteps 8 (s2 ^^^ x)) := (by rw [takeSnoc hx, crcRun_snoc, ← A2.out.2]; rfl : _ = _)
      obtain ⟨s3, hs3⟩ : ∃ z, s2 ^^^ x = z := ⟨_, rfl⟩
      rw [hs3] at hxo hlt2 HS
      have hmv := move_any s3 hlt2 w
      have hlt4 := crcSteps_lt 8 hlt2
      obtain ⟨s4, hs4⟩ : ∃ z, Ev.crcSteps 8 s3 = z := ⟨_, rfl⟩
      rw [hs4] at hmv HS hlt4
      clear hx hs3 hs4
      go_wp2_with fail
      refine hmv.mono ?_
      rintro e w' ⟨rfl, rfl⟩
      go_wp2
      go_roundg (l.length - (j + 1))
      case measure => have := A2.out.1; omega
      case rel => exact ⟨j + 1, s4, rfl, by go_num, by omega, hlt4, ⟨rfl, HS.out.symm⟩, rfl⟩
    · have hjl' : ¬ (j : Int) < l.length := by omega
      have HS : Aside (Ev.crcRun 4294967295 l = s2) := (by
        have h9 := A2.out.2
        rw [List.take_of_length_le (by omega)] at h9
        exact h9.symm : _ = _)
      have hxo := xor32 s2 4294967295 hs2 (by omega)
      clear A2
      go_wp2
      go_ret
      refine ⟨?_, rfl⟩
      rw [HS.out, ← hxo]
      rfl

theorem hkRef_ok : HkOk Tryz.prog (hkRef 356) := by
  intro f args h r e m w args' hr hf ha
  unfold hkRef at e
  cases hb : Nat.beq f 356 with
  | false => rw [hb] at e; cases e
  | true =>
    rw [hb, cond_true] at e
    obtain rfl := Nat.eq_of_beq_eq_true hb
    refine ⟨Tryz.call356 _ _, ?_⟩
    split at e
    · rename_i a n c
      split at e
      · rename_i l hl
        split at e
        · rename_i bs hbs
          cases hb2 : Nat.blt bs.length 1000000 with
          | false => rw [hb2] at e; cases e
          | true =>
            rw [hb2] at e
            cases e
            cases ha with
            | cons r1 r2 =>
              cases r2
              obtain ⟨b, q, hq, rfl, hm⟩ := r1.slice_inv
              obtain ⟨l3, g1, g2, g3, _⟩ := rd_ok hr hl hm
              obtain ⟨n1, n2⟩ := natsOf_ok hbs g1
              have hn : n = bs.length := by rw [n1, ← g1.len, g2]
              have hby : Byc w (.slice (some ⟨b, a.off, none⟩) n (c + q)) bs := by
                refine ⟨some ⟨b, a.off, none⟩, c + q, by rw [hn], Nat.blt_eq.mp hb2, fun i z e => ?_⟩
                obtain ⟨m1, m2⟩ := n2 i z e
                refine ⟨m1, b, a.off, rfl, ?_⟩
                have := g3 i _ m2
                rw [Ev.Addr.add_none] at this
                exact this
              refine (refOf_any _ bs w hby).mono ?_
              rintro en w' ⟨rfl, rfl⟩
              exact ⟨m, _, rfl, .scal rfl, hr, hf, Stp.refl _ _ _ _ _, Nat.le_refl _⟩
        · cases e
      · cases e
    · cases e
end Go.Proofs.YtjclpdlijblpjaaGreat
