/-
  A run reckoned out, used: what is true of every world; functions that are known to answer true; numbers of which the bounds are known.
-/
import Derived.Test.YtebhnbecjmdicaaGreatDoorEvq
import Derived.Test.YtebhnbecjmdicaaGreatDoorEvm
import Derived.Test.YtebhnbecjmdicaaGreatDoorEvc
import Derived.Below
import Derived.ProofKit
namespace Go.Proofs.YtebhnbecjmdicaaGreatDoor
set_option linter.unusedSimpArgs false
set_option linter.unusedVariables false
open Go.Ev Go.RowKit
set_option linter.unusedSectionVars false
variable {X : Type} [ExtA X]

noncomputable def isTrueR : Option (En X) → Bool
  | some (.ret (.bool true) _) => true
  | _ => false
theorem isTrueR_some {x : Option (En X)} (h : isTrueR x = true) : ∃ h, x = some (.ret (.bool true) h) := by
  unfold isTrueR at h
  split at h
  · exact ⟨_, rfl⟩
  · cases h

noncomputable def orHk (A B : Hk X) : Hk X := fun f a h => match A f a h with
  | some e => some e
  | none => B f a h
theorem orHk_ok {P : Program} {A B : Hk X} (hA : HkOk P A) (hB : HkOk P B) : HkOk P (orHk A B) := by
  intro f args h r e m w args' hr hf htp ha
  unfold orHk at e
  split at e
  · rename_i e1 h1
    cases e
    exact hA _ _ _ _ h1 m w args' hr hf htp ha
  · exact hB _ _ _ _ e m w args' hr hf htp ha

/-- a function that answers true, and leaves all as it was -/
noncomputable def Tru (f : Nat) : Prop := ∀ w, Calls Tryz.prog f #[] w fun e w' => e = .returned (.bool true) ∧ Same w w'
noncomputable def hkTrue (f : Nat) : Hk X := fun g args h => bif Nat.beq g f then (match args with
  | [] => some (.ret (.bool true) h)
  | _ => none) else none
theorem hkTrue_ok {f : Nat} (ht : Tru f) (hc : ∀ args w, (callFunc f args).run Tryz.prog w = .ok (.enter f args) w) : HkOk Tryz.prog (hkTrue f : Hk X) := by
  intro g args h r e m w args' hr hf htp ha
  unfold hkTrue at e
  cases hb : Nat.beq g f with
  | false => rw [hb] at e; cases e
  | true =>
    rw [hb, cond_true] at e
    obtain rfl := Nat.eq_of_beq_eq_true hb
    refine ⟨hc _ _, ?_⟩
    split at e
    · cases e
      cases ha
      refine (ht w).mono ?_
      rintro en w' ⟨rfl, s⟩
      exact ⟨m, _, rfl, .scal rfl, Mo.below hr hf htp ⟨s.os, s.tape, s.out, s.size, s.heap⟩⟩
    · cases e

/-- no numbers, no knowledge -/
def noMp : Mp := { num := fun _ => none, kn := fun _ => none, ter := fun _ _ => False }
theorem noMp_rep (k : Nat) (w : World) : Rep Tryz.prog noMp (emp k : Hp X).at w :=
  ⟨fun k o e => (by cases e), fun k k' b x x' e => absurd rfl e, fun k sz t b n e => (by cases e), fun b vs s t e => (by cases e), fun k o b x e => (by cases e), fun k x e => (by cases e), fun k b x e => absurd rfl e, fun k x b e => (by cases e)⟩
theorem same_of {K : Hk Empty} (hK : HkOk Tryz.prog K) {n f : Nat} {args args' : List Value} (e : isTrueR (call evT evF K n f args (emp 0)) = true) (ha : RVs noMp args args') (w : World) :
    Calls Tryz.prog f args'.toArray w fun e w' => e = .returned (.bool true) ∧ Same w w' := by
  obtain ⟨h, e⟩ := isTrueR_some e
  have key := (exec_ok evT_ok evF_ok hK rfl n).2 f args (emp 0) _ e noMp w args' (noMp_rep 0 w) (fun _ _ => rfl) (fun _ _ => rfl) ha
  refine key.2.mono ?_
  rintro en w' ⟨m', v', rfl, r1, r2⟩
  refine ⟨by rw [r1.bool_inv], fun b hb => (r2.stp.keep b hb (fun k x c => absurd rfl c) (fun k x c => by cases c)).1, r2.stp.size, r2.stp.os, r2.stp.tape, r2.stp.out⟩
theorem Same.below {w w' : World} (s : Same w w') : Below w.heap.size w w' := ⟨s.os, s.tape, s.out, s.size, s.heap⟩

/-- a number between bounds -/
theorem rv_itv {m : Mp} {n : Int} (lo hi : Nat) (h1 : (lo : Int) ≤ n + 9223372036854775808) (h2 : n + 9223372036854775808 ≤ (hi : Int)) : RV m (itv lo hi) (.int .i64 n) := .itv h1 h2
theorem wf_bounds {n : Int} (h : (Lit.int .i64 n).wf = true) : -9223372036854775808 ≤ n ∧ n < 9223372036854775808 := by
  have e1 : IntKind.i64.min = -9223372036854775808 := rfl
  have e2 : IntKind.i64.max = 9223372036854775807 := rfl
  simp [Lit.wf] at h
  omega
end Go.Proofs.YtebhnbecjmdicaaGreatDoor
