/-
  ScriptPrints, the card: for every input the law returns true, and each argument reads afterwards as it read before. No condition: what is listed of package variables is tied to the program's text.
-/
import Derived.Test.YtebhnbecjmdicaaGreatDoorPScriptPrints0
import Derived.Test.YtebhnbecjmdicaaGreatDoorGo
namespace Go.Proofs.YtebhnbecjmdicaaGreatDoor.scriptPrints
open Go.RowKit
set_option linter.unusedVariables false
/-- THE STATEMENT -/
theorem proved : Rows.ScriptPrintsCardSaid :=
  Claim7.holds_tied_plain_at .later [] [.data, .data, .data, .sentinel, .sentinel] true (true, "887ca66add1551dfb1bd3b7695e954f6c6f16ecd3f10a02772241947069b6c36") true
    held (fun _ h => by cases h) (by kernel_rfl) (fun _ h => by cases h) scriptPrints_row_tie rfl ⟨rfl, rfl⟩ (by kernel_rfl) rfl
    (fun f fn hf hfn => by
      obtain rfl : f = 3 := Option.some.inj ((show Tryz.prog.funcNamed "octavo/octavolaw25.ScriptPrints" = some 3 by kernel_rfl).symm.trans hf) |>.symm
      obtain rfl : fn = Tryz.f3 := (Option.some.inj (Tryz.func3.symm.trans hfn)).symm
      exact ⟨by kernel_rfl, fun j t ht => by
        rw [Tryz.params3] at ht
        have hm : t ∈ [25] := by simpa using Array.mem_of_getElem? ht
        have hall : ([25].all fun u => !Tryz.prog.wantsStandIn u) = true := by kernel_rfl
        exact (show Tryz.prog.wantsStandIn t = false by simpa using List.all_eq_true.1 hall t hm)⟩)
    (show false = Tryz.prog.goesAt .entering "octavo/octavolaw25.ScriptPrints" from (goes_none no_go _).symm)
#print axioms proved
end Go.Proofs.YtebhnbecjmdicaaGreatDoor.scriptPrints
