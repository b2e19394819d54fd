/-
  A run reckoned out: bytes.Count of one byte, told by its contract.
-/
import Derived.Test.YtebhnbecjmdicaaGreatDoorEv17
import Derived.Lib.Bytealg
import Derived.Lib.Bytes
namespace Go.Ev
set_option linter.unusedVariables false
set_option linter.unusedSimpArgs false
set_option linter.unusedSectionVars false
variable {X : Type}

noncomputable def cntB (y : Nat) : List Value → Option Nat
  | [] => some 0
  | .int .u8 (.ofNat x) :: l => match cntB y l with
    | some n => bif Nat.blt x 256 then some (bif Nat.beq x y then n + 1 else n) else none
    | none => none
  | _ => none
noncomputable def nums : List Value → List Int
  | [] => []
  | .int _ n :: l => n :: nums l
  | _ :: l => 0 :: nums l
theorem cntB_ok {m : Mp} {y : Nat} (hy : y < 256) : ∀ {l l' : List Value} {n : Nat}, cntB y l = some n → RVs m l l' →
    (nums l).length = l.length ∧ (∀ i, i < l.length → l'[i]? = some (.int .u8 ((nums l).getD i 0))) ∧ Go.Lib.countByte (Go.Lib.bytesOf (nums l)) (Int.ofNat y).toNat.toUInt8 = n
  | [], l', n, e, h => by
    cases e
    exact ⟨rfl, fun i hi => by simp at hi, rfl⟩
  | v :: l, l', n, e, h => by
    cases h with
    | cons r1 r2 =>
      unfold cntB at e
      split at e
      · rename_i c; cases c
      · rename_i x l2 c
        cases c
        split at e
        · rename_i k hk
          cases hb : Nat.blt x 256 with
          | false => rw [hb] at e; cases e
          | true =>
            rw [hb, cond_true] at e
            have hx := Nat.blt_eq.mp hb
            obtain ⟨h1, h2, h3⟩ := cntB_ok hy hk r2
            refine ⟨by simp [nums, h1], fun i hi => ?_, ?_⟩
            · cases i with
              | zero =>
                cases r1.int_inv
                simp [nums]
              | succ i =>
                have := h2 i (by simpa using hi)
                simpa [nums] using this
            · unfold Go.Lib.countByte Go.Lib.bytesOf at h3 ⊢
              simp only [nums, List.map_cons]
              rw [List.count_cons, h3]
              cases e
              have : ((UInt8.ofNat (Int.ofNat x).toNat == (Int.ofNat y).toNat.toUInt8) = Nat.beq x y) := by
                rw [Bool.eq_iff_iff]
                simp only [beq_iff_eq, Nat.beq_eq]
                constructor
                · intro h
                  have := congrArg UInt8.toNat h
                  simp at this
                  omega
                · intro h; subst h; rfl
              rw [this]
              cases Nat.beq x y <;> rfl
        · cases e
      · cases e

noncomputable def hkCnt (f : Nat) : Hk X := fun g args h => bif Nat.beq g f then (match args with
  | [.slice (some a) n _, .slice (some b) 1 _] => match rd h a.block a.off n, rd h b.block b.off 1 with
    | some l, some [.int .u8 (.ofNat y)] => bif Nat.blt y 256 then (match cntB y l with
      | some k => some (.ret (.int .i64 (Int.ofNat k)) h)
      | none => none) else none
    | _, _ => none
  | [.slice none 0 0, .slice (some b) 1 _] => match rd h b.block b.off 1 with
    | some [.int .u8 (.ofNat y)] => some (.ret (.int .i64 0) h)
    | _ => none
  | _ => none) else none

theorem hkCnt_ok [ExtA X] {P : Program} {f : Nat} (hc : ∀ args w, (callFunc f args).run P w = .ok (.enter f args) w)
    (h1 : ∀ (a : Addr) (n c b2 o2 d : Nat) (xs : List Int) (cv : Int) (w : World), xs.length = n → (∀ i, i < n → w.cell? (a.add i) = some (.int .u8 (xs.getD i 0))) → w.cell? ⟨b2, o2, none⟩ = some (.int .u8 cv) →
      Calls P f #[.slice (some a) n c, .slice (some ⟨b2, o2, none⟩) 1 d] w fun e w' => e = .returned (.int .i64 (Go.Lib.countByte (Go.Lib.bytesOf xs) cv.toNat.toUInt8)) ∧ w' = w)
    (h2 : ∀ (b2 o2 d : Nat) (cv : Int) (w : World), w.cell? ⟨b2, o2, none⟩ = some (.int .u8 cv) →
      Calls P f #[.slice none 0 0, .slice (some ⟨b2, o2, none⟩) 1 d] w fun e w' => e = .returned (.int .i64 0) ∧ w' = w) : HkOk P (hkCnt f : Hk X) := by
  intro g args h r e m w args' hr hf ht ha
  unfold hkCnt at e
  cases hb : Nat.beq g f with
  | false => rw [hb] at e; cases e
  | true =>
    rw [hb, cond_true] at e
    obtain rfl := Nat.eq_of_beq_eq_true hb
    refine ⟨hc _ _, ?_⟩
    split at e
    · rename_i a n c b d
      split at e
      · rename_i l y hl hy
        cases hb2 : Nat.blt y 256 with
        | false => rw [hb2] at e; cases e
        | true =>
          rw [hb2, cond_true] at e
          split at e
          · rename_i k hk
            cases e
            cases ha with
            | cons r1 r2 =>
              cases r2 with
              | cons r2 r3 =>
                cases r3
                obtain ⟨b1, q1, _, rfl, hm1⟩ := r1.slice_inv
                obtain ⟨b2, q2, _, rfl, hm2⟩ := r2.slice_inv
                obtain ⟨l3, g1, g2, g3, _⟩ := rd_ok hr hl hm1
                obtain ⟨l4, p1, p2, p3, _⟩ := rd_ok hr hy hm2
                obtain ⟨c1, c2, c3⟩ := cntB_ok (Nat.blt_eq.mp hb2) hk g1
                have hn : l.length = n := by rw [← g2]; exact g1.len.symm
                have hcell : w.cell? ⟨b2, b.off, none⟩ = some (.int .u8 (Int.ofNat y)) := by
                  cases p1 with
                  | cons s1 s2 =>
                    cases s1.int_inv
                    have := p3 0 _ rfl
                    simpa [Addr.add] using this
                refine (h1 ⟨b1, a.off, none⟩ n _ b2 b.off _ (nums l) (Int.ofNat y) w (by rw [c1, hn]) (fun i hi => g3 i _ (c2 i (by rw [hn]; exact hi))) hcell).mono ?_
                rintro en w' ⟨rfl, rfl⟩
                rw [c3]
                exact ⟨m, _, rfl, .scal rfl, hr, hf, Stp.refl _ _ _ _ _, Nat.le_refl _, ht⟩
          · cases e
      · cases e
    · rename_i b d
      split at e
      · rename_i y hy
        cases e
        cases ha with
        | cons r1 r2 =>
          cases r2 with
          | cons r2 r3 =>
            cases r3
            obtain ⟨b2, q2, _, rfl, hm2⟩ := r2.slice_inv
            obtain ⟨l4, p1, p2, p3, _⟩ := rd_ok hr hy hm2
            have hcell : w.cell? ⟨b2, b.off, none⟩ = some (.int .u8 (Int.ofNat y)) := by
              cases p1 with
              | cons s1 s2 =>
                cases s1.int_inv
                have := p3 0 _ rfl
                simpa [Addr.add] using this
            cases r1.slice_none
            refine (h2 b2 b.off _ (Int.ofNat y) w hcell).mono ?_
            rintro en w' ⟨rfl, rfl⟩
            exact ⟨m, _, rfl, .scal rfl, hr, hf, Stp.refl _ _ _ _ _, Nat.le_refl _, ht⟩
      · cases e
    · cases e
end Go.Ev
