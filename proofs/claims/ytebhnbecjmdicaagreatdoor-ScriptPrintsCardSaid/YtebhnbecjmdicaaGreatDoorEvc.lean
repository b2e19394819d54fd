/-
  The common checksum, walked; told to the reckoning.
-/
import Derived.Test.YtebhnbecjmdicaaGreatDoorEv17
import Derived.Deep.DrawnRows
import Derived.Test.YtebhnbecjmdicaaGreatDoorChecked
namespace Go.Ev
variable {X : Type}
noncomputable def crcStep (s : Nat) : Nat := bif Nat.beq (s % 2) 1 then Nat.xor (s / 2) 3988292384 else s / 2
noncomputable def crcSteps : Nat → Nat → Nat
  | 0, s => s
  | k + 1, s => crcSteps k (crcStep s)
noncomputable def crcByte (s b : Nat) : Nat := crcSteps 8 (Nat.xor s b)
noncomputable def crcRun : Nat → List Nat → Nat
  | s, [] => s
  | s, b :: l => crcRun (crcByte s b) l
noncomputable def natsOf : List Value → Option (List Nat)
  | [] => some []
  | .int .u8 n :: l => bif decide (0 ≤ n) && decide (n < 256) then (match natsOf l with
    | some r => some (n.toNat :: r)
    | none => none) else none
  | _ => none
noncomputable def partsOf (h : Hp X) : List Value → Option (List (List Nat))
  | [] => some []
  | .slice none n _ :: l => bif Nat.beq n 0 then (match partsOf h l with
    | some y => some ([] :: y)
    | none => none) else none
  | .slice (some a) n _ :: l => match rd h a.block a.off n with
    | some cs => match natsOf cs, partsOf h l with
      | some x, some y => bif Nat.blt x.length 1000000 then some (x :: y) else none
      | _, _ => none
    | none => none
  | _ => none
noncomputable def hkCrc (f : Nat) : Hk X := fun g args h => bif Nat.beq g f then (match args with
  | [.slice (some a) n _] => match rd h a.block a.off n with
    | some l => match partsOf h l with
      | some bs => bif Nat.blt bs.length 1000000 then some (.ret (.int .u32 (Int.ofNat (Nat.xor 4294967295 (crcRun 4294967295 bs.flatten)))) h) else none
      | none => none
    | none => none
  | _ => none) else none
end Go.Ev
namespace Go.Proofs.YtebhnbecjmdicaaGreatDoor
set_option linter.unusedSimpArgs false
set_option linter.unusedVariables false
open Go.RowKit Go.Sl Go.Ev
attribute [local go_sem ↓] Go.wp_at_zero Go.wp_at_succ

theorem crcStep_eq (s : Nat) : Ev.crcStep s = if s % 2 = 1 then (s / 2) ^^^ 3988292384 else s / 2 := by
  unfold Ev.crcStep
  cases h : Nat.beq (s % 2) 1 with
  | true => rw [if_pos (Nat.eq_of_beq_eq_true h)]; rfl
  | false => rw [if_neg (fun c => by rw [c] at h; cases h)]; rfl
theorem crcStep_lt {s : Nat} (h : s < 4294967296) : Ev.crcStep s < 4294967296 := by
  rw [crcStep_eq]
  split
  · exact Nat.xor_lt_two_pow (n := 32) (by omega) (by omega)
  · omega
theorem crcSteps_lt (k : Nat) : ∀ {s : Nat}, s < 4294967296 → Ev.crcSteps k s < 4294967296 := by
  induction k with
  | zero => exact fun h => h
  | succ k ih => exact fun h => ih (crcStep_lt h)
theorem crcRun_append : ∀ (a b : List Nat) (s : Nat), Ev.crcRun s (a ++ b) = Ev.crcRun (Ev.crcRun s a) b
  | [], b, s => rfl
  | x :: a, b, s => crcRun_append a b _
theorem crcRun_lt : ∀ (l : List Nat) {s : Nat}, (∀ x ∈ l, x < 256) → s < 4294967296 → Ev.crcRun s l < 4294967296
  | [], s, h, hs => hs
  | x :: l, s, h, hs => crcRun_lt l (fun y hy => h y (List.mem_cons_of_mem _ hy)) (crcSteps_lt 8 (Nat.xor_lt_two_pow (n := 32) hs (by have := h x List.mem_cons_self; omega)))

theorem bv32 (a : Nat) (h : a < 4294967296) : (BitVec.ofInt 32 (a : Int)).toNat = a := by
  rw [BitVec.toNat_ofInt]
  omega
theorem xor32 (a b : Nat) (ha : a < 4294967296) (hb : b < 4294967296) : bits .xor .u32 (a : Int) (b : Int) = ((a ^^^ b : Nat) : Int) := by
  show IntKind.u32.wrap (((BitVec.ofInt 32 (a : Int) ^^^ BitVec.ofInt 32 (b : Int)).toNat : Nat) : Int) = _
  rw [BitVec.toNat_xor, bv32 a ha, bv32 b hb]
  have h := Nat.xor_lt_two_pow (n := 32) (x := a) (y := b) (by omega) (by omega)
  simp [IntKind.wrap, IntKind.bits, IntKind.signed]
  omega
theorem and32 (a : Nat) (ha : a < 4294967296) : bits .and .u32 (a : Int) 1 = ((a % 2 : Nat) : Int) := by
  show IntKind.u32.wrap (((BitVec.ofInt 32 (a : Int) &&& BitVec.ofInt 32 (1 : Int)).toNat : Nat) : Int) = _
  rw [BitVec.toNat_and, bv32 a ha, show (BitVec.ofInt 32 (1 : Int)).toNat = 1 from rfl, Nat.and_one_is_mod]
  simp [IntKind.wrap, IntKind.bits, IntKind.signed]
  omega

theorem crcStep_any (s : Nat) (hs : s < 4294967296) (w : World) :
    Calls Tryz.prog 280 #[.int .u32 s] w fun e w' => e = .returned (.int .u32 (Ev.crcStep s : Nat)) ∧ w = w' := by
  have ha := and32 s hs
  have hx := xor32 (s / 2) 3988292384 (by omega) (by omega)
  by_cases h : s % 2 = 1
  · have e : Ev.crcStep s = (s / 2) ^^^ 3988292384 := by rw [crcStep_eq, if_pos h]
    rw [e]
    rw [h] at ha
    have hx2 : bits .xor .u32 ((s : Int) / 2) 3988292384 = ((s / 2 ^^^ 3988292384 : Nat) : Int) := hx
    clear e h hx
    go_enter Tryz.func280, Tryz.ntmps280
    go_wp2
    go_ret
    exact ⟨rfl, rfl⟩
  · have e : Ev.crcStep s = s / 2 := by rw [crcStep_eq, if_neg h]
    rw [e]
    rw [show s % 2 = 0 by omega] at ha
    clear e h hx
    go_enter Tryz.func280, Tryz.ntmps280
    go_wp2
    go_ret
    exact ⟨rfl, rfl⟩

noncomputable def Byc (w : World) (v : Value) (l : List Nat) : Prop :=
  ∃ a c, v = .slice a l.length c ∧ l.length < 1000000 ∧ ∀ i x, l[i]? = some x → x < 256 ∧ ∃ b o, a = some ⟨b, o, none⟩ ∧ w.cell? ⟨b, o + i, none⟩ = some (.int .u8 (x : Nat))
theorem Byc.at {w : World} {a : Option Addr} {n c q : Nat} {l : List Nat} {x : Nat} (h : Byc w (.slice a n c) l) (hq : l[q]? = some x) : x < 256 ∧ ∃ b o, a = some ⟨b, o, none⟩ ∧ w.cell? ⟨b, o + q, none⟩ = some (.int .u8 (x : Nat)) := by
  obtain ⟨a', c', h1, _, h2⟩ := h
  cases h1
  exact h2 q x hq
noncomputable def PartsAt (w : World) (v : Value) (ls : List (List Nat)) : Prop :=
  ∃ a c, v = .slice a ls.length c ∧ ls.length < 1000000 ∧ ∀ i l, ls[i]? = some l → ∃ b o u, a = some ⟨b, o, none⟩ ∧ w.cell? ⟨b, o + i, none⟩ = some u ∧ Byc w u l

theorem takeSnoc {α : Type} {l : List α} {i : Nat} {x : α} (h : l[i]? = some x) : l.take (i + 1) = l.take i ++ [x] := by
  rw [List.take_add_one, h]; rfl
theorem flat_snoc {ls : List (List Nat)} {i : Nat} {l : List Nat} (h : ls[i]? = some l) : (ls.take (i + 1)).flatten = (ls.take i).flatten ++ l := by
  rw [takeSnoc h]; simp
theorem crcRun_snoc (s : Nat) (a : List Nat) (x : Nat) : Ev.crcRun s (a ++ [x]) = Ev.crcByte (Ev.crcRun s a) x := by rw [crcRun_append]; rfl
theorem crcSteps_snoc (k s : Nat) : Ev.crcSteps (k + 1) s = Ev.crcStep (Ev.crcSteps k s) := by
  induction k generalizing s with
  | zero => rfl
  | succ k ih => show Ev.crcSteps (k + 1) (Ev.crcStep s) = _; rw [ih]; rfl

set_option maxHeartbeats 800000 in
theorem crcOf_any (v : Value) (ls : List (List Nat)) (w : World) (hp : PartsAt w v ls) :
    Calls Tryz.prog 218 #[v] w fun e w' => e = .returned (.int .u32 (4294967295 ^^^ Ev.crcRun 4294967295 ls.flatten : Nat)) ∧ w = w' := by
  obtain ⟨a, c, rfl, hll, hcell⟩ := hp
  have HC : Aside (∀ i l, ls[i]? = some l → ∃ b o u, a = some ⟨b, o, none⟩ ∧ w.cell? ⟨b, o + i, none⟩ = some u ∧ Byc w u l) := hcell
  clear hcell
  go_enter Tryz.func218, Tryz.ntmps218
  go_wp2
  go_loopg [3, 10] ls.length (fun g t3 t10 wr => ∃ i s : Nat, t3 = .int .u32 s ∧ t10 = .int .i64 i ∧ i ≤ ls.length ∧ s < 4294967296 ∧ Aside (g = ls.length - i ∧ s = Ev.crcRun 4294967295 (ls.take i).flatten) ∧ w = wr)
  case atStart => exact ⟨0, 4294967295, rfl, rfl, by omega, by omega, ⟨rfl, rfl⟩, rfl⟩
  case round =>
    obtain ⟨i, s, rfl, rfl, hi, hs, A, rfl⟩ := hrel
    by_cases hlt : i < ls.length
    · have hlt' : (i : Int) < ls.length := by omega
      obtain ⟨l, hl⟩ : ∃ l, ls[i]? = some l := ⟨ls[i], by simp [hlt]⟩
      obtain ⟨b, o, u, rfl, hc, hb⟩ := HC.out i l hl
      obtain ⟨pa, pc, rfl, hpm, _⟩ := id hb
      have HF : Aside ((ls.take (i + 1)).flatten = (ls.take i).flatten ++ l) := flat_snoc hl
      have HB : Aside (Byc w (.slice pa l.length pc) l) := hb
      clear hl hb
      go_wp2
      go_loopg [3, 16] l.length (fun g t3 t16 wq => ∃ j s2 : Nat, t3 = .int .u32 s2 ∧ t16 = .int .i64 j ∧ j ≤ l.length ∧ s2 < 4294967296 ∧ Aside (g = l.length - j ∧ s2 = Ev.crcRun s (l.take j)) ∧ w = wq)
      case atStart => exact ⟨0, s, rfl, rfl, by omega, hs, ⟨rfl, by simp [Ev.crcRun]⟩, rfl⟩
      case round =>
        obtain ⟨j, s2, rfl, rfl, hj, hs2, A2, rfl⟩ := hrel
        by_cases hjl : j < l.length
        · have hjl' : (j : Int) < l.length := by omega
          obtain ⟨x, hx⟩ : ∃ x, l[j]? = some x := ⟨l[j], by simp [hjl]⟩
          obtain ⟨hx8, b2, o2, rfl, hc2⟩ := HB.out.at hx
          have hxo := xor32 s2 x hs2 (by omega)
          have hlt2 : s2 ^^^ x < 4294967296 := Nat.xor_lt_two_pow (n := 32) (by omega) (by omega)
          obtain ⟨s3, hs3⟩ : ∃ z, s2 ^^^ x = z := ⟨_, rfl⟩
          rw [hs3] at hxo hlt2
          have HS3 : Aside (s2 ^^^ x = s3 ∧ l.take (j + 1) = l.take j ++ [x]) := ⟨hs3, takeSnoc hx⟩
          clear hx hs3
          go_wp2
          go_loopg [3, 24] 8 (fun g t3 t24 wq => ∃ k s4 : Nat, t3 = .int .u32 s4 ∧ t24 = .int .i64 k ∧ k ≤ 8 ∧ s4 < 4294967296 ∧ Aside (g = 8 - k ∧ s4 = Ev.crcSteps k s3) ∧ w = wq)
          case atStart => exact ⟨0, s3, rfl, rfl, by omega, hlt2, ⟨rfl, rfl⟩, rfl⟩
          case round =>
            obtain ⟨k, s4, rfl, rfl, hk, hs4, A3, rfl⟩ := hrel
            by_cases hk8 : k < 8
            · have hk8' : (k : Int) < 8 := by omega
              have hst := crcStep_any s4 hs4 w
              have hs5 := crcStep_lt hs4
              have HS : Aside (Ev.crcSteps (k + 1) s3 = Ev.crcStep s4) := (by rw [crcSteps_snoc, ← A3.out.2] : _ = _)
              obtain ⟨s5, hs5e⟩ : ∃ z, Ev.crcStep s4 = z := ⟨_, rfl⟩
              rw [hs5e] at hst hs5 HS
              clear hs5e
              go_wp2_with fail
              refine hst.mono ?_
              rintro e w' ⟨rfl, rfl⟩
              go_wp2
              go_roundg (8 - (k + 1))
              case measure => have := A3.out.1; omega
              case rel => exact ⟨k + 1, s5, rfl, by go_num, by omega, hs5, ⟨rfl, HS.out.symm⟩, rfl⟩
            · have hk8' : ¬ (k : Int) < 8 := by omega
              obtain rfl : k = 8 := by omega
              have HS : Aside (Ev.crcRun s (l.take (j + 1)) = s4) := (by
                rw [HS3.out.2, crcRun_snoc, ← A2.out.2, A3.out.2]; unfold Ev.crcByte
                have := HS3.out.1
                show Ev.crcSteps 8 (s2 ^^^ x) = _
                rw [this] : _ = _)
              clear A3
              go_wp2
              go_roundg (l.length - (j + 1))
              case measure => have := A2.out.1; omega
              case rel => exact ⟨j + 1, s4, rfl, by go_num, by omega, hs4, ⟨rfl, HS.out.symm⟩, rfl⟩
        · have hjl' : ¬ (j : Int) < l.length := by omega
          have HS : Aside (Ev.crcRun 4294967295 (ls.take (i + 1)).flatten = s2) := (by
            have h9 := A2.out.2
            rw [List.take_of_length_le (by omega)] at h9
            rw [HF.out, crcRun_append, ← A.out.2, h9] : _ = _)
          clear A2
          go_wp2
          go_roundg (ls.length - (i + 1))
          case measure => have := A.out.1; omega
          case rel => exact ⟨i + 1, s2, rfl, by go_num, by omega, hs2, ⟨rfl, HS.out.symm⟩, rfl⟩
    · have hlt' : ¬ (i : Int) < ls.length := by omega
      have HS : Aside (Ev.crcRun 4294967295 ls.flatten = s) := (by
        have h9 := A.out.2
        rw [List.take_of_length_le (by omega)] at h9
        exact h9.symm : _ = _)
      have hxo := xor32 4294967295 s (by omega) hs
      clear A
      go_wp2
      go_ret
      refine ⟨?_, rfl⟩
      rw [HS.out, ← hxo]
      rfl

theorem natsOf_ok {m : Mp} : ∀ {l l' : List Value} {r : List Nat}, natsOf l = some r → RVs m l l' → r.length = l.length ∧ ∀ (i : Nat) (x : Nat), r[i]? = some x → x < 256 ∧ l'[i]? = some (.int .u8 (x : Nat))
  | [], l', r, h, hr => by cases h; exact ⟨rfl, fun i x e => by simp at e⟩
  | v :: l, l', r, h, hr => by
    unfold natsOf at h
    split at h
    · rename_i e; cases e
    · rename_i n l2 e
      cases e
      cases hb : (decide (0 ≤ n) && decide (n < 256)) with
      | false => rw [hb] at h; cases h
      | true =>
        rw [hb, cond_true] at h
        simp only [Bool.and_eq_true, decide_eq_true_eq] at hb
        split at h
        · rename_i r' hr'
          cases h
          cases hr with
          | cons r1 r2 =>
            obtain ⟨h1, h2⟩ := natsOf_ok hr' r2
            refine ⟨by simp [h1], fun i x e => ?_⟩
            cases i with
            | zero =>
              simp at e
              subst e
              rw [r1.int_inv]
              refine ⟨by omega, ?_⟩
              have : ((n.toNat : Nat) : Int) = n := Int.toNat_of_nonneg hb.1
              simp only [List.getElem?_cons_zero, this]
            | succ i => simpa using h2 i x (by simpa using e)
        · cases h
    · cases h
theorem partsOf_ok {X : Type} [ExtA X] {P : Program} {m : Mp} {h : Ev.Hp X} {w : World} (hr : Rep P m h.at w) : ∀ {l l' : List Value} {ls : List (List Nat)}, partsOf h l = some ls → RVs m l l' → ls.length = l.length ∧ ∀ (i : Nat) (x : List Nat), ls[i]? = some x → ∃ u, l'[i]? = some u ∧ Byc w u x
  | [], l', ls, e, hl => by cases e; exact ⟨rfl, fun i x c => by simp at c⟩
  | v :: l, l', ls, e, hl => by
    cases hl with
    | cons r1 r2 =>
      unfold partsOf at e
      split at e
      · rename_i c; cases c
      · rename_i n c2 l2 c
        cases c
        cases hb : Nat.beq n 0 with
        | false => rw [hb] at e; cases e
        | true =>
          rw [hb, cond_true] at e
          obtain rfl := Nat.eq_of_beq_eq_true hb
          split at e
          · rename_i y hy
            cases e
            obtain ⟨h1, h2⟩ := partsOf_ok hr hy r2
            refine ⟨by simp [h1], fun i x c => ?_⟩
            cases i with
            | zero =>
              simp at c
              subst c
              cases r1.slice_none
              exact ⟨_, rfl, none, _, rfl, by simp, fun i x c => by simp at c⟩
            | succ i => simpa using h2 i x (by simpa using c)
          · cases e
      · rename_i a n c2 l2 c
        cases c
        split at e
        · rename_i cs hcs
          split at e
          · rename_i x y hx hy
            cases hb : Nat.blt x.length 1000000 with
            | false => rw [hb] at e; cases e
            | true =>
              rw [hb] at e
              cases e
              obtain ⟨h1, h2⟩ := partsOf_ok hr hy r2
              refine ⟨by simp [h1], fun i z c => ?_⟩
              cases i with
              | zero =>
                simp at c
                subst c
                obtain ⟨b, q, ha, rfl, hm⟩ := r1.slice_inv
                obtain ⟨l3, g1, g2, g3, _⟩ := rd_ok hr hcs hm
                obtain ⟨n1, n2⟩ := natsOf_ok hx g1
                have hn : n = x.length := by rw [n1, ← g1.len, g2]
                refine ⟨_, rfl, some ⟨b, a.off, none⟩, c2 + q, by rw [hn], Nat.blt_eq.mp hb, fun i z e => ?_⟩
                obtain ⟨m1, m2⟩ := n2 i z e
                refine ⟨m1, b, a.off, rfl, ?_⟩
                have := g3 i _ m2
                rw [Ev.Addr.add_none] at this
                exact this
              | succ i => simpa using h2 i z (by simpa using c)
          · cases e
        · cases e
      · cases e

theorem hkCrc_ok {X : Type} [ExtA X] : HkOk Tryz.prog (hkCrc 218 : Hk X) := by
  intro f args h r e m w args' hr hf ht ha
  unfold hkCrc at e
  cases hb : Nat.beq f 218 with
  | false => rw [hb] at e; cases e
  | true =>
    rw [hb, cond_true] at e
    obtain rfl := Nat.eq_of_beq_eq_true hb
    refine ⟨Tryz.call218 _ _, ?_⟩
    split at e
    · rename_i a n c
      split at e
      · rename_i l hl
        split at e
        · rename_i bs hbs
          cases hb2 : Nat.blt bs.length 1000000 with
          | false => rw [hb2] at e; cases e
          | true =>
            rw [hb2] at e
            cases e
            cases ha with
            | cons r1 r2 =>
              cases r2
              obtain ⟨b, q, hq, rfl, hm⟩ := r1.slice_inv
              obtain ⟨l3, g1, g2, g3, _⟩ := rd_ok hr hl hm
              obtain ⟨p1, p2⟩ := partsOf_ok hr hbs g1
              have hn : n = bs.length := by rw [p1, ← g1.len, g2]
              have hpa : PartsAt w (.slice (some ⟨b, a.off, none⟩) n (c + q)) bs := by
                refine ⟨some ⟨b, a.off, none⟩, c + q, by rw [hn], Nat.blt_eq.mp hb2, fun i x e => ?_⟩
                obtain ⟨u, u1, u2⟩ := p2 i x e
                refine ⟨b, a.off, u, rfl, ?_, u2⟩
                have := g3 i _ u1
                rw [Ev.Addr.add_none] at this
                exact this
              refine (crcOf_any _ bs w hpa).mono ?_
              rintro en w' ⟨rfl, rfl⟩
              exact ⟨m, _, rfl, .scal rfl, hr, hf, Stp.refl _ _ _ _ _, Nat.le_refl _, ht⟩
        · cases e
      · cases e
    · cases e

/-- what is true of a world behind a reckoned call -/
structure Same (w w' : World) : Prop where
  heap : ∀ b, b < w.heap.size → w'.heap[b]? = w.heap[b]?
  size : w.heap.size ≤ w'.heap.size
  os : w'.os = w.os
  tape : w'.tape = w.tape
  out : w'.output = w.output
end Go.Proofs.YtebhnbecjmdicaaGreatDoor
