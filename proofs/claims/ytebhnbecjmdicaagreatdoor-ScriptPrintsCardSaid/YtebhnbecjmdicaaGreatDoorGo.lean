/-
  No goroutine: a program in which no function starts one.
-/
import Derived.Test.YtebhnbecjmdicaaGreatDoorRows
import Derived.Test.YtebhnbecjmdicaaGreatDoorCards
import Derived.SevenTiedAt
namespace Go.Proofs.YtebhnbecjmdicaaGreatDoor
theorem goes_none {P : Program} (h : P.funcs.toList.any Func.goes = false) (func : String) : P.goesAt .entering func = false := by
  have hm : ∀ fn ∈ P.funcs.toList, fn.goes = false := fun fn hf => by simpa using (List.any_eq_false.1 h) fn hf
  have h1 : ∀ g : Nat, (P.funcs[g]?).any Func.goes = false := fun g => by
    cases hg : P.funcs[g]? with
    | none => rfl
    | some fn =>
      have : fn ∈ P.funcs.toList := by
        rw [← Array.getElem?_toList] at hg
        exact List.mem_of_getElem? hg
      simpa using hm fn this
  have h2 : P.funcs.any Func.goes = false := by
    rw [← Array.any_toList]
    exact h
  unfold Program.goesAt Program.goesFrom
  cases P.funcNamed func with
  | none => rfl
  | some f =>
    show (P.goes f || false) = false
    unfold Program.goes
    rw [h2]
    simp only [Bool.and_false, Bool.or_false]
    rw [List.any_eq_false]
    intro g _
    rw [h1 g]
    simp
theorem no_go : Tryz.prog.funcs.toList.any Func.goes = false := by kernel_rfl
end Go.Proofs.YtebhnbecjmdicaaGreatDoor
