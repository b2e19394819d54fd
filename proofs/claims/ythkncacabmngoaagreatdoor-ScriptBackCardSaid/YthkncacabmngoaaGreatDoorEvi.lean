/-
  A run reckoned out: the place of one byte in a string (stringslite.Index), told by its contract.
-/
import Derived.Test.YthkncacabmngoaaGreatDoorEv17
import Derived.Lib.Bytealg
namespace Go.Ev
set_option linter.unusedVariables false
set_option linter.unusedSimpArgs false
set_option linter.unusedSectionVars false
variable {X : Type} [ExtA X]
noncomputable def idxB (c : UInt8) : List UInt8 → Nat → Int
  | [], _ => -1
  | b :: l, k => bif Nat.beq b.toNat c.toNat then .ofNat k else idxB c l (k + 1)
theorem idxB_eq (c : UInt8) : ∀ (l : List UInt8) (k : Nat), idxB c l k = bif Lib.indexByte l c == -1 then -1 else Lib.indexByte l c + k
  | [], k => rfl
  | b :: l, k => by
    unfold idxB Lib.indexByte
    cases h : Nat.beq b.toNat c.toNat with
    | true =>
      have e : b = c := UInt8.toNat_inj.mp (Nat.eq_of_beq_eq_true h)
      subst e
      simp
    | false =>
      have e : (b == c) = false := by
        rw [beq_eq_false_iff_ne]
        intro q
        subst q
        simp at h
      have hg := Lib.indexByte_ge l c
      rw [e, cond_false, idxB_eq c l (k + 1)]
      cases h1 : (Lib.indexByte l c == -1) with
      | true => simp
      | false =>
        have h2 : ¬ Lib.indexByte l c = -1 := by simpa using h1
        have h3 : (Lib.indexByte l c + 1 == -1) = false := by
          rw [beq_eq_false_iff_ne]
          omega
        simp [h3]
        omega
noncomputable def hkIdx (f : Nat) : Hk X := fun g args h => bif Nat.beq g f then (match args with
  | [.string s, .string ⟨⟨[c]⟩⟩] => some (.ret (.int .i64 (idxB c s.data.toList 0)) h)
  | _ => none) else none
theorem hkIdx_ok {P : Program} {f : Nat} (hc : ∀ args w, (callFunc f args).run P w = .ok (.enter f args) w)
    (h1 : ∀ (s : ByteArray) (c : UInt8) (w : World), Calls P f #[.string s, .string ⟨#[c]⟩] w fun e w' => e = .returned (.int .i64 (Lib.indexByte s.data.toList c)) ∧ w' = w) : HkOk P (hkIdx f : Hk X) := by
  intro g args h r e m w args' hr hf ht ha
  unfold hkIdx at e
  cases hb : Nat.beq g f with
  | false => rw [hb] at e; cases e
  | true =>
    rw [hb, cond_true] at e
    obtain rfl := Nat.eq_of_beq_eq_true hb
    refine ⟨hc _ _, ?_⟩
    split at e
    · rename_i s c
      cases e
      cases ha with
      | cons r1 r2 =>
        cases r2 with
        | cons r2 r3 =>
          cases r3
          cases r1.string_inv
          cases r2.string_inv
          refine (h1 s c w).mono ?_
          rintro en w' ⟨rfl, rfl⟩
          have : idxB c s.data.toList 0 = Lib.indexByte s.data.toList c := by
            rw [idxB_eq]
            cases h1 : (Lib.indexByte s.data.toList c == -1) with
            | true => simpa using (beq_iff_eq.mp h1).symm
            | false => simp
          rw [← this]
          exact ⟨m, _, rfl, .scal rfl, hr, hf, Stp.refl _ _ _ _ _, Nat.le_refl _, ht⟩
    · cases e
end Go.Ev
