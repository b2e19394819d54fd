/-
  ScriptBack, the card: for every input the law returns true, and each argument reads afterwards as it read before. No condition: what is listed of package variables is tied to the program's text.
-/
import Derived.Test.YthkncacabmngoaaGreatDoorPScriptBack0
import Derived.Test.YthkncacabmngoaaGreatDoorGo
namespace Go.Proofs.YthkncacabmngoaaGreatDoor.scriptBack
open Go.RowKit
set_option linter.unusedVariables false
/-- THE STATEMENT -/
theorem proved : Rows.ScriptBackCardSaid :=
  Claim7.holds_tied_plain_at .later [] [.data, .data, .data, .sentinel, .sentinel] true (true, "b5bf946bbd8e822295e8a8487a84ef3f27cce1ea5de48f2107d4cbed43deabf2") true
    held (fun _ h => by cases h) (by kernel_rfl) (fun _ h => by cases h) scriptBack_row_tie rfl ⟨rfl, rfl⟩ (by kernel_rfl) rfl
    (fun f fn hf hfn => by
      obtain rfl : f = 3 := Option.some.inj ((show Tryz.prog.funcNamed "octavo/octavolaw25.ScriptBack" = some 3 by kernel_rfl).symm.trans hf) |>.symm
      obtain rfl : fn = Tryz.f3 := (Option.some.inj (Tryz.func3.symm.trans hfn)).symm
      exact ⟨by kernel_rfl, fun j t ht => by
        rw [Tryz.params3] at ht
        have hm : t ∈ [9] := by simpa using Array.mem_of_getElem? ht
        have hall : ([9].all fun u => !Tryz.prog.wantsStandIn u) = true := by kernel_rfl
        exact (show Tryz.prog.wantsStandIn t = false by simpa using List.all_eq_true.1 hall t hm)⟩)
    (show false = Tryz.prog.goesAt .entering "octavo/octavolaw25.ScriptBack" from (goes_none no_go _).symm)
#print axioms proved
end Go.Proofs.YthkncacabmngoaaGreatDoor.scriptBack
