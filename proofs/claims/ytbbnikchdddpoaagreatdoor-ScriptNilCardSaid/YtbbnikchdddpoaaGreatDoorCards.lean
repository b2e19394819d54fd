/-
  DERIVED. GIVEN WITH THE SEED: THE CARDS: each row of YtbbnikchdddpoaaGreatDoorRows.lean that lists a variable, with what it lists TIED to the program's text (the seventh form; the later family's looks); each row that meets fmt, with fmt's text TOLD by the authors' own Lean function (tested against real Go, not proved from fmt's source: count such statements apart). THE CARD IS WHAT COUNTS. Prove the row's statement (the work); the ties are given (YtbbnikchdddpoaaGreatDoorTie.lean); close each card by the builder's one call (the guide's Derived/Test/ToyasCard.lean, 'card_holds'). Laid BY PROGRAM, IN A SANDBOX (cutbox-door.mjs). By AI agents, Wed Nov 11 2026. No macro, syntax, notation, axiom, sorry.
-/
import Derived.Test.YtbbnikchdddpoaaGreatDoorRows
import GoSem.ClaimSeven
namespace Go.Proofs.YtbbnikchdddpoaaGreatDoor
namespace Rows

/-- THE TIED CARD OF 'octavolaw25.ScriptNil'. -/
def scriptNilCard : Claim7 := { stood := { row := scriptNilRow, standIns := [], harness := (true, "a86f1d43e704642f3d464a7ca50eb16b78289892edb208e02800c2c6c82e1dfa"), looks := true }, kinds := [], alts := [], laidByText := true, laidKinds := [.data, .data, .data, .sentinel, .sentinel], laidTests := true, laidLooks := .later }
def ScriptNilCardSaid : Prop := Claim7.holds Tryz.pinned (.plain (OpenSpec.ofChange scriptNilSpec)) scriptNilCard

/-- THE SECOND FORM's CARD OF 'octavolaw25.ScriptNil'. -/
def scriptNilUptoCard : Claim7 := { stood := { row := scriptNilUptoRow, standIns := [], harness := (true, "a86f1d43e704642f3d464a7ca50eb16b78289892edb208e02800c2c6c82e1dfa"), looks := true }, kinds := [], alts := [], laidByText := true, laidKinds := [.data, .data, .data, .sentinel, .sentinel], laidTests := true, laidLooks := .later }
def ScriptNilUptoCardSaid : Prop := Claim7.holds Tryz.pinned (.plain (OpenSpec.upto scriptNilSpec)) scriptNilUptoCard
end Rows
end Go.Proofs.YtbbnikchdddpoaaGreatDoor
