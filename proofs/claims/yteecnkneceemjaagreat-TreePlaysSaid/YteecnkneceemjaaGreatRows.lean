/-
  No cell of these rows narrows 'for every input' (looked for: loops, veiled, ifaces, maps, wideKeys, modest, calm, conditions, laid).
  DERIVED. THE GIVEN ROWS OF THIS SEAT. 6 by the template 'for every input the law returns true; each argument reads behind the call as it read before'; 0 by the template 'total and deterministic' (their statements: YteecnkneceemjaaGreatTotals.lean).
  GIVEN WITH THE SEED: the statements are not yours to turn. If you find one false, say at which input.
  Laid BY PROGRAM, IN A SANDBOX (cutbox-rows.mjs): the forced cells as the released guide's own fill.sh prints them over the translation 10d9d0d7ed25bb3a… (all of the seat's roots in one cut). By AI agents, Wed Nov 11 2026. No macro, syntax, notation, axiom, sorry.
-/
import Derived.Test.YteecnkneceemjaaGreatChecked
import GoSem.Claim
import GoSem.ClaimJoined
import GoSem.ClaimMapViews
import Derived.JoinedTies
import Derived.KernelRfl
namespace Go.Proofs.YteecnkneceemjaaGreat
/- THE CELL 'sum', in the pinned program and in every row, IS THE sha256 OF THE DUMP (.gsa) THAT YteecnkneceemjaaGreatProg.lean LOADS. Nothing in Lean hashes anything: it is a label: what it is worth is what the hold of that sum in a sandbox is worth. -/
noncomputable def Tryz.pinned : Pinned := { name := "yteecnkneceemjaagreat", sum := "10d9d0d7ed25bb3afb6b63bef867af79554a377a68389550d5b1992c3689180c", checked := Tryz.checked }
namespace Rows
def none {H : Type} : Left H := { results := [], args := [] }

/-- 'octavolaw14.TreePlays': WHATEVER THE INPUT: true; the input reads as it did. -/
def treePlaysSpec : ChangeSpec := { name := "treePlays", fn := fun _ => fun
  | [d1, d2] => { results := [.lit (.bool true)], args := [d1, d2] }
  | _ => none }
def treePlaysRow : OpenClaim := { program := "yteecnkneceemjaagreat", sum := "10d9d0d7ed25bb3afb6b63bef867af79554a377a68389550d5b1992c3689180c", func := "octavo/octavolaw14.TreePlays", spec := "treePlays", unfollowed := true, recurses := true, apart := false }
def TreePlaysSaid : Prop := treePlaysRow.holds Tryz.pinned (OpenSpec.ofChange treePlaysSpec)

/-- ITS FALSE NEIGHBOUR: 'it returns false'. Refute it at one input. -/
def treePlaysWrong : ChangeSpec := { name := "treePlays", fn := fun _ => fun
  | [d1, d2] => { results := [.lit (.bool false)], args := [d1, d2] }
  | _ => none }
def TreePlaysWrongFalsely : Prop := treePlaysRow.holds Tryz.pinned (OpenSpec.ofChange treePlaysWrong)

/-- 'octavolaw14.TreeReads': WHATEVER THE INPUT: true; the input reads as it did. -/
def treeReadsSpec : ChangeSpec := { name := "treeReads", fn := fun _ => fun
  | [d1, d2, d3, d4] => { results := [.lit (.bool true)], args := [d1, d2, d3, d4] }
  | _ => none }
def treeReadsRow : OpenClaim := { program := "yteecnkneceemjaagreat", sum := "10d9d0d7ed25bb3afb6b63bef867af79554a377a68389550d5b1992c3689180c", func := "octavo/octavolaw14.TreeReads", spec := "treeReads", unfollowed := true, recurses := true, apart := false }
def TreeReadsSaid : Prop := treeReadsRow.holds Tryz.pinned (OpenSpec.ofChange treeReadsSpec)

/-- ITS FALSE NEIGHBOUR: 'it returns false'. Refute it at one input. -/
def treeReadsWrong : ChangeSpec := { name := "treeReads", fn := fun _ => fun
  | [d1, d2, d3, d4] => { results := [.lit (.bool false)], args := [d1, d2, d3, d4] }
  | _ => none }
def TreeReadsWrongFalsely : Prop := treeReadsRow.holds Tryz.pinned (OpenSpec.ofChange treeReadsWrong)

/-- 'octavolaw14.TreeChecks': WHATEVER THE INPUT: true; the input reads as it did. -/
def treeChecksSpec : ChangeSpec := { name := "treeChecks", fn := fun _ => fun
  | [d1, d2] => { results := [.lit (.bool true)], args := [d1, d2] }
  | _ => none }
def treeChecksRow : OpenClaim := { program := "yteecnkneceemjaagreat", sum := "10d9d0d7ed25bb3afb6b63bef867af79554a377a68389550d5b1992c3689180c", func := "octavo/octavolaw14.TreeChecks", spec := "treeChecks", unfollowed := true, recurses := true, apart := false }
def TreeChecksSaid : Prop := treeChecksRow.holds Tryz.pinned (OpenSpec.ofChange treeChecksSpec)

/-- ITS FALSE NEIGHBOUR: 'it returns false'. Refute it at one input. -/
def treeChecksWrong : ChangeSpec := { name := "treeChecks", fn := fun _ => fun
  | [d1, d2] => { results := [.lit (.bool false)], args := [d1, d2] }
  | _ => none }
def TreeChecksWrongFalsely : Prop := treeChecksRow.holds Tryz.pinned (OpenSpec.ofChange treeChecksWrong)

/-- 'octavolaw14.TreeFails': WHATEVER THE INPUT: true; the input reads as it did. -/
def treeFailsSpec : ChangeSpec := { name := "treeFails", fn := fun _ => fun
  | [d1, d2, d3, d4, d5, d6] => { results := [.lit (.bool true)], args := [d1, d2, d3, d4, d5, d6] }
  | _ => none }
def treeFailsRow : OpenClaim := { program := "yteecnkneceemjaagreat", sum := "10d9d0d7ed25bb3afb6b63bef867af79554a377a68389550d5b1992c3689180c", func := "octavo/octavolaw14.TreeFails", spec := "treeFails", inPlace := ["internal/reflectlite.ValueOf", "internal/reflectlite.Swapper", "(internal/reflectlite.Value).Len"], unfollowed := true, recurses := true, apart := false }
def TreeFailsSaid : Prop := treeFailsRow.holds Tryz.pinned (OpenSpec.ofChange treeFailsSpec)

/-- ITS FALSE NEIGHBOUR: 'it returns false'. Refute it at one input. -/
def treeFailsWrong : ChangeSpec := { name := "treeFails", fn := fun _ => fun
  | [d1, d2, d3, d4, d5, d6] => { results := [.lit (.bool false)], args := [d1, d2, d3, d4, d5, d6] }
  | _ => none }
def TreeFailsWrongFalsely : Prop := treeFailsRow.holds Tryz.pinned (OpenSpec.ofChange treeFailsWrong)

/-- 'octavolaw14.TreeNil': WHATEVER THE INPUT: true; the input reads as it did. -/
def treeNilSpec : ChangeSpec := { name := "treeNil", fn := fun _ => fun
  | [d1, d2] => { results := [.lit (.bool true)], args := [d1, d2] }
  | _ => none }
def treeNilRow : OpenClaim := { program := "yteecnkneceemjaagreat", sum := "10d9d0d7ed25bb3afb6b63bef867af79554a377a68389550d5b1992c3689180c", func := "octavo/octavolaw14.TreeNil", spec := "treeNil", inPlace := ["internal/reflectlite.ValueOf", "internal/reflectlite.Swapper", "(internal/reflectlite.Value).Len"], unfollowed := true, recurses := true, apart := false }
def TreeNilSaid : Prop := treeNilRow.holds Tryz.pinned (OpenSpec.ofChange treeNilSpec)

/-- ITS FALSE NEIGHBOUR: 'it returns false'. Refute it at one input. -/
def treeNilWrong : ChangeSpec := { name := "treeNil", fn := fun _ => fun
  | [d1, d2] => { results := [.lit (.bool false)], args := [d1, d2] }
  | _ => none }
def TreeNilWrongFalsely : Prop := treeNilRow.holds Tryz.pinned (OpenSpec.ofChange treeNilWrong)

/-- 'octavolaw14.TreeShape': WHATEVER THE INPUT: true; the input reads as it did. -/
def treeShapeSpec : ChangeSpec := { name := "treeShape", fn := fun _ => fun
  | [d] => { results := [.lit (.bool true)], args := [d] }
  | _ => none }
def treeShapeRow : OpenClaim := { program := "yteecnkneceemjaagreat", sum := "10d9d0d7ed25bb3afb6b63bef867af79554a377a68389550d5b1992c3689180c", func := "octavo/octavolaw14.TreeShape", spec := "treeShape", inPlace := ["internal/reflectlite.ValueOf", "internal/reflectlite.Swapper", "(internal/reflectlite.Value).Len"], unfollowed := true, recurses := true, apart := false }
def TreeShapeSaid : Prop := treeShapeRow.holds Tryz.pinned (OpenSpec.ofChange treeShapeSpec)

/-- ITS FALSE NEIGHBOUR: 'it returns false'. Refute it at one input. -/
def treeShapeWrong : ChangeSpec := { name := "treeShape", fn := fun _ => fun
  | [d] => { results := [.lit (.bool false)], args := [d] }
  | _ => none }
def TreeShapeWrongFalsely : Prop := treeShapeRow.holds Tryz.pinned (OpenSpec.ofChange treeShapeWrong)

/- THE SECOND FORM. 'bulk': how many values and letters a reading holds, each counted each time it is reached (what is shared counts as often as it is met; a slice's spare places count too). A statement '..UptoSaid' is the law's where the arguments, and the package variables that the reading takes, are together of bulk at most 1048576: NARROWER than '..Said'. Prove '..Said' where nothing that the law and all that it calls make is longer than what came in: it says more and counts as full. Else prove '..UptoSaid'. A law counts once. -/
mutual
def uptoBulk {H : Type} : DataW H → Nat
  | .lit (.string bytes) => bytes.length + 1
  | .lit _ => 1
  | .nil => 1
  | .ptr d => uptoBulk d + 1
  | .slice elems spare => uptoBulkAll elems + uptoBulkAll spare + 1
  | .agg parts => uptoBulkAll parts + 1
  | .iface _ d => uptoBulk d + 1
  | .map entries => uptoBulkEntries entries + 1
  | .held _ => 1
def uptoBulkAll {H : Type} : List (DataW H) → Nat
  | [] => 0
  | d :: r => uptoBulk d + uptoBulkAll r
def uptoBulkEntries {H : Type} : List (Lit × DataW H) → Nat
  | [] => 0
  | x :: r => uptoBulkEntry x + uptoBulkEntries r
def uptoBulkEntry {H : Type} : Lit × DataW H → Nat
  | (.string bytes, d) => bytes.length + uptoBulk d + 1
  | (_, d) => uptoBulk d + 1
 end
def uptoSmall : (H : Type) → List (DataW H) → Bool := fun _ ds => decide (uptoBulkAll ds ≤ 1048576)
def OpenSpec.upto (s : _root_.Go.ChangeSpec) : _root_.Go.OpenSpec := { _root_.Go.OpenSpec.ofChange s with cond := some uptoSmall }

/-- 'octavolaw14.TreePlays', WHERE WHAT IT READS IS OF BULK AT MOST 1048576: true; the input reads as it did. -/
def treePlaysUptoRow : OpenClaim := { program := "yteecnkneceemjaagreat", sum := "10d9d0d7ed25bb3afb6b63bef867af79554a377a68389550d5b1992c3689180c", func := "octavo/octavolaw14.TreePlays", spec := "treePlays", unfollowed := true, recurses := true, apart := false, narrowed := true }
def TreePlaysUptoSaid : Prop := treePlaysUptoRow.holds Tryz.pinned (OpenSpec.upto treePlaysSpec)

/-- 'octavolaw14.TreeReads', WHERE WHAT IT READS IS OF BULK AT MOST 1048576: true; the input reads as it did. -/
def treeReadsUptoRow : OpenClaim := { program := "yteecnkneceemjaagreat", sum := "10d9d0d7ed25bb3afb6b63bef867af79554a377a68389550d5b1992c3689180c", func := "octavo/octavolaw14.TreeReads", spec := "treeReads", unfollowed := true, recurses := true, apart := false, narrowed := true }
def TreeReadsUptoSaid : Prop := treeReadsUptoRow.holds Tryz.pinned (OpenSpec.upto treeReadsSpec)

/-- 'octavolaw14.TreeChecks', WHERE WHAT IT READS IS OF BULK AT MOST 1048576: true; the input reads as it did. -/
def treeChecksUptoRow : OpenClaim := { program := "yteecnkneceemjaagreat", sum := "10d9d0d7ed25bb3afb6b63bef867af79554a377a68389550d5b1992c3689180c", func := "octavo/octavolaw14.TreeChecks", spec := "treeChecks", unfollowed := true, recurses := true, apart := false, narrowed := true }
def TreeChecksUptoSaid : Prop := treeChecksUptoRow.holds Tryz.pinned (OpenSpec.upto treeChecksSpec)

/-- 'octavolaw14.TreeFails', WHERE WHAT IT READS IS OF BULK AT MOST 1048576: true; the input reads as it did. -/
def treeFailsUptoRow : OpenClaim := { program := "yteecnkneceemjaagreat", sum := "10d9d0d7ed25bb3afb6b63bef867af79554a377a68389550d5b1992c3689180c", func := "octavo/octavolaw14.TreeFails", spec := "treeFails", inPlace := ["internal/reflectlite.ValueOf", "internal/reflectlite.Swapper", "(internal/reflectlite.Value).Len"], unfollowed := true, recurses := true, apart := false, narrowed := true }
def TreeFailsUptoSaid : Prop := treeFailsUptoRow.holds Tryz.pinned (OpenSpec.upto treeFailsSpec)

/-- 'octavolaw14.TreeNil', WHERE WHAT IT READS IS OF BULK AT MOST 1048576: true; the input reads as it did. -/
def treeNilUptoRow : OpenClaim := { program := "yteecnkneceemjaagreat", sum := "10d9d0d7ed25bb3afb6b63bef867af79554a377a68389550d5b1992c3689180c", func := "octavo/octavolaw14.TreeNil", spec := "treeNil", inPlace := ["internal/reflectlite.ValueOf", "internal/reflectlite.Swapper", "(internal/reflectlite.Value).Len"], unfollowed := true, recurses := true, apart := false, narrowed := true }
def TreeNilUptoSaid : Prop := treeNilUptoRow.holds Tryz.pinned (OpenSpec.upto treeNilSpec)

/-- 'octavolaw14.TreeShape', WHERE WHAT IT READS IS OF BULK AT MOST 1048576: true; the input reads as it did. -/
def treeShapeUptoRow : OpenClaim := { program := "yteecnkneceemjaagreat", sum := "10d9d0d7ed25bb3afb6b63bef867af79554a377a68389550d5b1992c3689180c", func := "octavo/octavolaw14.TreeShape", spec := "treeShape", inPlace := ["internal/reflectlite.ValueOf", "internal/reflectlite.Swapper", "(internal/reflectlite.Value).Len"], unfollowed := true, recurses := true, apart := false, narrowed := true }
def TreeShapeUptoSaid : Prop := treeShapeUptoRow.holds Tryz.pinned (OpenSpec.upto treeShapeSpec)

end Rows
end Go.Proofs.YteecnkneceemjaaGreat
