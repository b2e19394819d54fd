/-
  Versions are found sound just if they are in the words of the document. No condition. (part 17)
-/
import Derived.Test.YtfhbmblbidcmmaaGreatWa7
import Derived.Deep.DrawnRows
import Derived.Test.YtfhbmblbidcmmaaGreatWa15
set_option linter.unusedSimpArgs false
set_option linter.unusedVariables false
namespace Go.Proofs.YtfhbmblbidcmmaaGreat
set_option linter.unusedSimpArgs false
set_option linter.unusedVariables false
open Go.RowKit Go.Sl Go.Tr
attribute [local go_sem ↓] Go.wp_at_zero Go.wp_at_succ
theorem bv32 (a : Nat) (h : a < 4294967296) : (BitVec.ofInt 32 (a : Int)).toNat = a := by
 rw [BitVec.toNat_ofInt]
 omega
theorem xor32 (a b : Nat) (ha : a < 4294967296) (hb : b < 4294967296) : bits .xor .u32 (a : Int) (b : Int) = ((a ^^^ b : Nat) : Int) := by
 show IntKind.u32.wrap (((BitVec.ofInt 32 (a : Int) ^^^ BitVec.ofInt 32 (b : Int)).toNat : Nat) : Int) = _
 rw [BitVec.toNat_xor, bv32 a ha, bv32 b hb]
 have h := Nat.xor_lt_two_pow (n := 32) (x := a) (y := b) (by omega) (by omega)
 simp [IntKind.wrap, IntKind.bits, IntKind.signed]
 omega
theorem and32 (a : Nat) (ha : a < 4294967296) : bits .and .u32 (a : Int) 1 = ((a % 2 : Nat) : Int) := by
 show IntKind.u32.wrap (((BitVec.ofInt 32 (a : Int) &&& BitVec.ofInt 32 (1 : Int)).toNat : Nat) : Int) = _
 rw [BitVec.toNat_and, bv32 a ha, show (BitVec.ofInt 32 (1 : Int)).toNat = 1 from rfl, Nat.and_one_is_mod]
 simp [IntKind.wrap, IntKind.bits, IntKind.signed]
 omega
theorem crcStep_any (s : Nat) (hs : s < 4294967296) (w : World) :
 Calls Tryz.prog 231 #[.int .u32 s] w fun e w' => e = .returned (.int .u32 (crcStep s : Nat)) ∧ w = w' := by
 have ha := and32 s hs
 have hx := xor32 (s / 2) 3988292384 (by omega) (by omega)
 by_cases h : s % 2 = 1
 · have e : crcStep s = (s / 2) ^^^ 3988292384 := by unfold crcStep; rw [if_pos h]
   rw [e]
   rw [h] at ha
   have hx2 : bits .xor .u32 ((s : Int) / 2) 3988292384 = ((s / 2 ^^^ 3988292384 : Nat) : Int) := hx
   clear e h hx
   go_enter Tryz.func231, Tryz.ntmps231
   go_wp2
   go_ret
   exact ⟨rfl, rfl⟩
 · have e : crcStep s = s / 2 := by unfold crcStep; rw [if_neg h]
   rw [e]
   rw [show s % 2 = 0 by omega] at ha
   clear e h hx
   go_enter Tryz.func231, Tryz.ntmps231
   go_wp2
   go_ret
   exact ⟨rfl, rfl⟩
def PartsAt (w : World) (v : Value) (ls : List (List UInt8)) : Prop :=
 ∃ a c, v = .slice a ls.length c ∧ ls.length ≤ 9223372036854775807 ∧ ∀ i l, ls[i]? = some l → ∃ b o u, a = some ⟨b, o, none⟩ ∧ w.cell? ⟨b, o + i, none⟩ = some u ∧ Byt w u l
theorem flat_snoc {ls : List (List UInt8)} {i : Nat} {l : List UInt8} (h : ls[i]? = some l) : (ls.take (i + 1)).flatten = (ls.take i).flatten ++ l := by
 rw [take_snoc' h]; simp
theorem crcRun_snoc (s : Nat) (a : List UInt8) (x : UInt8) : crcRun s (a ++ [x]) = crcByte (crcRun s a) x := by rw [crcRun_append]; rfl
theorem crcSteps_snoc (k s : Nat) : crcSteps (k + 1) s = crcStep (crcSteps k s) := by
 induction k generalizing s with
 | zero => rfl
 | succ k ih => show crcSteps (k + 1) (crcStep s) = _; rw [ih]; rfl
set_option maxHeartbeats 800000 in
theorem crcOf_any (v : Value) (ls : List (List UInt8)) (w : World) (hp : PartsAt w v ls) :
 Calls Tryz.prog 183 #[v] w fun e w' => e = .returned (.int .u32 (crc ls.flatten : Nat)) ∧ w = w' := by
 obtain ⟨a, c, rfl, hll, hcell⟩ := hp
 have HC : Aside (∀ i l, ls[i]? = some l → ∃ b o u, a = some ⟨b, o, none⟩ ∧ w.cell? ⟨b, o + i, none⟩ = some u ∧ Byt w u l) := hcell
 clear hcell
 go_enter Tryz.func183, Tryz.ntmps183
 go_wp2
 go_loopg [3, 10] ls.length (fun g t3 t10 wr => ∃ i s : Nat, t3 = .int .u32 s ∧ t10 = .int .i64 i ∧ i ≤ ls.length ∧ s < 4294967296 ∧ Aside (g = ls.length - i ∧ s = crcRun 4294967295 (ls.take i).flatten) ∧ w = wr)
 case atStart => exact ⟨0, 4294967295, rfl, rfl, by omega, by omega, ⟨rfl, rfl⟩, rfl⟩
 case round =>
  obtain ⟨i, s, rfl, rfl, hi, hs, A, rfl⟩ := hrel
  by_cases hlt : i < ls.length
  · have hlt' : (i : Int) < ls.length := by omega
    obtain ⟨l, hl⟩ : ∃ l, ls[i]? = some l := ⟨ls[i], by simp [hlt]⟩
    obtain ⟨b, o, u, rfl, hc, hb⟩ := HC.out i l hl
    obtain ⟨pa, pc, rfl, hpc, hpm⟩ := hb.len
    have HF : Aside ((ls.take (i + 1)).flatten = (ls.take i).flatten ++ l) := flat_snoc hl
    have hpm' : l.length ≤ 9223372036854775807 := by have : pc ≤ 9223372036854775807 := by simpa [maxLen] using hpm
                                                     omega
    have HB : Aside (Byt w (.slice pa l.length pc) l) := hb
    clear hl hb hpm
    go_wp2
    go_loopg [3, 16] l.length (fun g t3 t16 wq => ∃ j s2 : Nat, t3 = .int .u32 s2 ∧ t16 = .int .i64 j ∧ j ≤ l.length ∧ s2 < 4294967296 ∧ Aside (g = l.length - j ∧ s2 = crcRun s (l.take j)) ∧ w = wq)
    case atStart => exact ⟨0, s, rfl, rfl, by omega, hs, ⟨rfl, by simp [crcRun]⟩, rfl⟩
    case round =>
     obtain ⟨j, s2, rfl, rfl, hj, hs2, A2, rfl⟩ := hrel
     by_cases hjl : j < l.length
     · have hjl' : (j : Int) < l.length := by omega
       obtain ⟨x, hx⟩ : ∃ x, l[j]? = some x := ⟨l[j], by simp [hjl]⟩
       obtain ⟨b2, o2, rfl, hc2⟩ := HB.out.at hx
       have hx8 := x.toNat_lt
       have hxo := xor32 s2 x.toNat hs2 (by omega)
       have hlt2 : s2 ^^^ x.toNat < 4294967296 := Nat.xor_lt_two_pow (n := 32) (by omega) (by omega)
       obtain ⟨s3, hs3⟩ : ∃ z, s2 ^^^ x.toNat = z := ⟨_, rfl⟩
       rw [hs3] at hxo hlt2
       have HS3 : Aside (s2 ^^^ x.toNat = s3 ∧ l.take (j + 1) = l.take j ++ [x]) := ⟨hs3, take_snoc' hx⟩
       clear hx hs3
       go_wp2
       go_loopg [3, 24] 8 (fun g t3 t24 wq => ∃ k s4 : Nat, t3 = .int .u32 s4 ∧ t24 = .int .i64 k ∧ k ≤ 8 ∧ s4 < 4294967296 ∧ Aside (g = 8 - k ∧ s4 = crcSteps k s3) ∧ w = wq)
       case atStart => exact ⟨0, s3, rfl, rfl, by omega, hlt2, ⟨rfl, rfl⟩, rfl⟩
       case round =>
        obtain ⟨k, s4, rfl, rfl, hk, hs4, A3, rfl⟩ := hrel
        by_cases hk8 : k < 8
        · have hk8' : (k : Int) < 8 := by omega
          have hst := crcStep_any s4 hs4 w
          have hs5 := crcStep_lt hs4
          have HS : Aside (crcSteps (k + 1) s3 = crcStep s4) := (by rw [crcSteps_snoc, ← A3.out.2] : _ = _)
          obtain ⟨s5, hs5e⟩ : ∃ z, crcStep s4 = z := ⟨_, rfl⟩
          rw [hs5e] at hst hs5 HS
          clear hs5e
          go_wp2_with fail
          refine hst.mono ?_
          rintro e w' ⟨rfl, rfl⟩
          go_wp2
          go_roundg (8 - (k + 1))
          case measure => have := A3.out.1; omega
          case rel => exact ⟨k + 1, s5, rfl, by go_num, by omega, hs5, ⟨rfl, HS.out.symm⟩, rfl⟩
        · have hk8' : ¬ (k : Int) < 8 := by omega
          obtain rfl : k = 8 := by omega
          have HS : Aside (crcRun s (l.take (j + 1)) = s4) := (by rw [HS3.out.2, crcRun_snoc, ← A2.out.2, A3.out.2]; unfold crcByte; rw [HS3.out.1] : _ = _)
          clear A3
          go_wp2
          go_roundg (l.length - (j + 1))
          case measure => have := A2.out.1; omega
          case rel => exact ⟨j + 1, s4, rfl, by go_num, by omega, hs4, ⟨rfl, HS.out.symm⟩, rfl⟩
     · have hjl' : ¬ (j : Int) < l.length := by omega
       have HS : Aside (crcRun 4294967295 (ls.take (i + 1)).flatten = s2) := (by
        have h9 := A2.out.2
        rw [List.take_of_length_le (by omega)] at h9
        rw [HF.out, crcRun_append, ← A.out.2, h9] : _ = _)
       clear A2
       go_wp2
       go_roundg (ls.length - (i + 1))
       case measure => have := A.out.1; omega
       case rel => exact ⟨i + 1, s2, rfl, by go_num, by omega, hs2, ⟨rfl, HS.out.symm⟩, rfl⟩
  · have hlt' : ¬ (i : Int) < ls.length := by omega
    have HS : Aside (crcRun 4294967295 ls.flatten = s) := (by
     have h9 := A.out.2
     rw [List.take_of_length_le (by omega)] at h9
     exact h9.symm : _ = _)
    have hxo := xor32 4294967295 s (by omega) hs
    clear A
    go_wp2
    go_ret
    refine ⟨?_, rfl⟩
    unfold crc
    rw [HS.out, ← hxo]
    rfl
end Go.Proofs.YtfhbmblbidcmmaaGreat
