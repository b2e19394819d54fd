/-
  A parameter that is a struct of two whole numbers: opened.
-/
import Derived.Test.YteffkpgilmpbeaaGreatEvu
import Derived.ChangeShapes
import Derived.WideKeyArr2
namespace Go.Ev
open Go.ChangeShapes Go.WideShapes
set_option linter.unusedVariables false
section
variable {H : Type} {enc : TypeId × Value → H} {P : Program} {t : TypeId} {W : World} {base : Nat} {sp : Nat → Bool} {held : Bool}
theorem open_two {f0 f1 : Field} {r : Reach} {b0 : Nat} {v : Value} {d : DataW H} {ps : List MemPlace} (ht : P.underlying t = some (.struct #[f0, f1])) (h0 : P.underlying f0.type = some (.int .i64)) (h1 : P.underlying f1.type = some (.int .i64))
    (o0 : f0.offset = 0) (o1 : f1.offset = 1) (c0 : P.cellsOf f0.type = 1) (c1 : P.cellsOf f1.type = 1) (ct : P.cellsOf t = 2)
    (hval : Value.okWide P W r b0 t v) (hd : DataW.Trod enc P W base sp held t v d ps) : ∃ a0 a1, v = .agg #[.int .i64 a0, .int .i64 a1] ∧ (Lit.int .i64 a0).wf = true ∧ (Lit.int .i64 a1).wf = true := by
  simp only [Value.okWide, ht] at hval
  obtain ⟨cs, rfl, hs, _⟩ := hval
  obtain ⟨fuel, hf⟩ := hd
  cases fuel with
  | zero => simp [DataW.trod] at hf
  | succ m =>
    rw [DataW.trod_step] at hf
    unfold DataW.trodStep at hf
    simp only [ht, Value.cells] at hf
    rw [ct] at hs
    obtain ⟨l⟩ := cs
    match l, hs with
    | [x, y], _ =>
      simp only [ct, List.length_cons, List.length_nil, if_true, List.mapM_cons, List.mapM_nil, o0, o1, c0, c1, Option.map_eq_some_iff, bind, Option.bind_eq_some_iff, pure, Option.some.injEq] at hf
      obtain ⟨xs, ⟨p0, e0, l1, ⟨p1, e1, l2, rfl, rfl⟩, rfl⟩, _⟩ := hf
      simp at e0 e1
      obtain ⟨a, ea, _, wa⟩ := DataW.trod_int h0 e0
      obtain ⟨b, eb, _, wb⟩ := DataW.trod_int h1 e1
      cases ea
      cases eb
      exact ⟨a, b, rfl, wa, wb⟩
end
end Go.Ev
