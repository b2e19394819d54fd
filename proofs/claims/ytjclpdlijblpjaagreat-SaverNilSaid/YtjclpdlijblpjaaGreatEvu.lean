/-
  A run reckoned out, used: what is true of every world; functions that are known to answer true; numbers of which the bounds are known.
-/
import Derived.Test.YtjclpdlijblpjaaGreatEvq
import Derived.Below
import Derived.ProofKit
namespace Go.Proofs.YtjclpdlijblpjaaGreat
set_option linter.unusedSimpArgs false
set_option linter.unusedVariables false
open Go.Ev Go.RowKit

noncomputable def isTrueR : Option En → Bool
  | some (.ret (.bool true) _) => true
  | _ => false
theorem isTrueR_some {x : Option En} (h : isTrueR x = true) : ∃ h, x = some (.ret (.bool true) h) := by
  unfold isTrueR at h
  split at h
  · exact ⟨_, rfl⟩
  · cases h

noncomputable def orHk (A B : Hk) : Hk := fun f a h => match A f a h with
  | some e => some e
  | none => B f a h
theorem orHk_ok {P : Program} {A B : Hk} (hA : HkOk P A) (hB : HkOk P B) : HkOk P (orHk A B) := by
  intro f args h r e m w args' hr hf ha
  unfold orHk at e
  split at e
  · rename_i e1 h1
    cases e
    exact hA _ _ _ _ h1 m w args' hr hf ha
  · exact hB _ _ _ _ e m w args' hr hf ha

/-- a function that answers true, and leaves all as it was -/
noncomputable def Tru (f : Nat) : Prop := ∀ w, Calls Tryz.prog f #[] w fun e w' => e = .returned (.bool true) ∧ Same w w'
noncomputable def hkTrue (f : Nat) : Hk := fun g args h => bif Nat.beq g f then (match args with
  | [] => some (.ret (.bool true) h)
  | _ => none) else none
theorem hkTrue_ok {f : Nat} (ht : Tru f) (hc : ∀ args w, (callFunc f args).run Tryz.prog w = .ok (.enter f args) w) : HkOk Tryz.prog (hkTrue f) := by
  intro g args h r e m w args' hr hf ha
  unfold hkTrue at e
  cases hb : Nat.beq g f with
  | false => rw [hb] at e; cases e
  | true =>
    rw [hb, cond_true] at e
    obtain rfl := Nat.eq_of_beq_eq_true hb
    refine ⟨hc _ _, ?_⟩
    split at e
    · cases e
      cases ha
      refine (ht w).mono ?_
      rintro en w' ⟨rfl, s⟩
      refine ⟨m, _, rfl, .scal rfl, ⟨?_, hf, ?_, Nat.le_refl _⟩⟩
      · refine ⟨fun k o e => ?_, hr.inj⟩
        obtain ⟨b, x, h1, h2⟩ := hr.obj k o e
        refine ⟨b, x, h1, ?_⟩
        rw [s.heap b (hr.lt (by rw [e]; simp) h1)]
        exact h2
      · exact ⟨m.le_refl, fun j e => absurd rfl e, fun j b y e e1 => .inl ⟨j, y, e, e1⟩, fun j e => .inl e, fun b hb _ => s.heap b hb, s.size, s.os, s.tape, s.out⟩
    · cases e

theorem same_of {K : Hk} (hK : HkOk Tryz.prog K) {n f : Nat} {args args' : List Value} (e : isTrueR (call evT evF K n f args (emp 0)) = true) (ha : RVs (fun _ => none) args args') (w : World) :
    Calls Tryz.prog f args'.toArray w fun e w' => e = .returned (.bool true) ∧ Same w w' := by
  obtain ⟨h, e⟩ := isTrueR_some e
  have key := (exec_ok evT_ok evF_ok hK rfl n).2 f args (emp 0) _ e (fun _ => none) w args' (Rep.empty 0) (fun _ _ => rfl) ha
  refine key.2.mono ?_
  rintro en w' ⟨m', v', rfl, r1, r2⟩
  refine ⟨by rw [r1.bool_inv], fun b hb => r2.stp.keep b hb fun k x c => absurd rfl c, r2.stp.size, r2.stp.os, r2.stp.tape, r2.stp.out⟩
theorem Same.below {w w' : World} (s : Same w w') : Below w.heap.size w w' := ⟨s.os, s.tape, s.out, s.size, s.heap⟩

/-- a number between bounds -/
theorem rv_itv {m : Mp} {n : Int} (lo hi : Nat) (h1 : (lo : Int) ≤ n + 9223372036854775808) (h2 : n + 9223372036854775808 ≤ (hi : Int)) : RV m (itv lo hi) (.int .i64 n) := .itv h1 h2
theorem wf_bounds {n : Int} (h : (Lit.int .i64 n).wf = true) : -9223372036854775808 ≤ n ∧ n < 9223372036854775808 := by
  have e1 : IntKind.i64.min = -9223372036854775808 := rfl
  have e2 : IntKind.i64.max = 9223372036854775807 := rfl
  simp [Lit.wf] at h
  omega
end Go.Proofs.YtjclpdlijblpjaaGreat
