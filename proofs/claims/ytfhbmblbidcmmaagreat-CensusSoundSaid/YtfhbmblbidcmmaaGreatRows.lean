/-
  No cell of these rows narrows 'for every input' (looked for: loops, veiled, ifaces, maps, wideKeys, modest, calm, conditions, laid).
  DERIVED. THE GIVEN ROWS OF THIS SEAT. 8 by the template 'for every input the law returns true; each argument reads behind the call as it read before'; 0 by the template 'total and deterministic' (their statements: YtfhbmblbidcmmaaGreatTotals.lean).
  GIVEN WITH THE SEED: the statements are not yours to turn. If you find one false, say at which input.
  Laid BY PROGRAM, IN A SANDBOX (cutbox-rows.mjs): the forced cells as the released guide's own fill.sh prints them over the translation e211d2e9095bd5cf… (all of the seat's roots in one cut). By AI agents, Wed Nov 11 2026. No macro, syntax, notation, axiom, sorry.
-/
import Derived.Test.YtfhbmblbidcmmaaGreatChecked
import GoSem.Claim
import GoSem.ClaimJoined
import GoSem.ClaimMapViews
import Derived.JoinedTies
import Derived.KernelRfl
namespace Go.Proofs.YtfhbmblbidcmmaaGreat
/- THE CELL 'sum', in the pinned program and in every row, IS THE sha256 OF THE DUMP (.gsa) THAT YtfhbmblbidcmmaaGreatProg.lean LOADS. Nothing in Lean hashes anything: it is a label: what it is worth is what the hold of that sum in a sandbox is worth. -/
noncomputable def Tryz.pinned : Pinned := { name := "ytfhbmblbidcmmaagreat", sum := "e211d2e9095bd5cf05833ebb933319a3758c48f6ce4032fc8f7171e8c8699450", checked := Tryz.checked }
namespace Rows
def none {H : Type} : Left H := { results := [], args := [] }

/-- 'octavolaw14.TreeChecks': WHATEVER THE INPUT: true; the input reads as it did. -/
def treeChecksSpec : ChangeSpec := { name := "treeChecks", fn := fun _ => fun
  | [d1, d2] => { results := [.lit (.bool true)], args := [d1, d2] }
  | _ => none }
def treeChecksRow : OpenClaim := { program := "ytfhbmblbidcmmaagreat", sum := "e211d2e9095bd5cf05833ebb933319a3758c48f6ce4032fc8f7171e8c8699450", func := "octavo/octavolaw14.TreeChecks", spec := "treeChecks", unfollowed := true, recurses := true, plainKeys := false, apart := false }
def TreeChecksSaid : Prop := treeChecksRow.holds Tryz.pinned (OpenSpec.ofChange treeChecksSpec)

/-- ITS FALSE NEIGHBOUR: 'it returns false'. Refute it at one input. -/
def treeChecksWrong : ChangeSpec := { name := "treeChecks", fn := fun _ => fun
  | [d1, d2] => { results := [.lit (.bool false)], args := [d1, d2] }
  | _ => none }
def TreeChecksWrongFalsely : Prop := treeChecksRow.holds Tryz.pinned (OpenSpec.ofChange treeChecksWrong)

/-- 'octavolaw15.LinesAsks': WHATEVER THE INPUT: true; the input reads as it did. -/
def linesAsksSpec : ChangeSpec := { name := "linesAsks", fn := fun _ => fun
  | [d1, d2, d3, d4] => { results := [.lit (.bool true)], args := [d1, d2, d3, d4] }
  | _ => none }
def linesAsksRow : OpenClaim := { program := "ytfhbmblbidcmmaagreat", sum := "e211d2e9095bd5cf05833ebb933319a3758c48f6ce4032fc8f7171e8c8699450", func := "octavo/octavolaw15.LinesAsks", spec := "linesAsks", inPlace := ["internal/bytealg.Count", "internal/bytealg.IndexByte", "internal/bytealg.Index"], unfollowed := true, recurses := true, named := ["internal/bytealg.MaxLen"], plainKeys := false, apart := false }
def LinesAsksSaid : Prop := linesAsksRow.holds Tryz.pinned (OpenSpec.ofChange linesAsksSpec)

/-- ITS FALSE NEIGHBOUR: 'it returns false'. Refute it at one input. -/
def linesAsksWrong : ChangeSpec := { name := "linesAsks", fn := fun _ => fun
  | [d1, d2, d3, d4] => { results := [.lit (.bool false)], args := [d1, d2, d3, d4] }
  | _ => none }
def LinesAsksWrongFalsely : Prop := linesAsksRow.holds Tryz.pinned (OpenSpec.ofChange linesAsksWrong)

/-- 'octavolaw15.LinesLazy': WHATEVER THE INPUT: true; the input reads as it did. -/
def linesLazySpec : ChangeSpec := { name := "linesLazy", fn := fun _ => fun
  | [d1, d2] => { results := [.lit (.bool true)], args := [d1, d2] }
  | _ => none }
def linesLazyRow : OpenClaim := { program := "ytfhbmblbidcmmaagreat", sum := "e211d2e9095bd5cf05833ebb933319a3758c48f6ce4032fc8f7171e8c8699450", func := "octavo/octavolaw15.LinesLazy", spec := "linesLazy", inPlace := ["internal/bytealg.Count", "internal/bytealg.IndexByte", "internal/bytealg.Index"], unfollowed := true, recurses := true, named := ["internal/bytealg.MaxLen"], plainKeys := false, apart := false }
def LinesLazySaid : Prop := linesLazyRow.holds Tryz.pinned (OpenSpec.ofChange linesLazySpec)

/-- ITS FALSE NEIGHBOUR: 'it returns false'. Refute it at one input. -/
def linesLazyWrong : ChangeSpec := { name := "linesLazy", fn := fun _ => fun
  | [d1, d2] => { results := [.lit (.bool false)], args := [d1, d2] }
  | _ => none }
def LinesLazyWrongFalsely : Prop := linesLazyRow.holds Tryz.pinned (OpenSpec.ofChange linesLazyWrong)

/-- 'octavolaw15.LinesEdits': WHATEVER THE INPUT: true; the input reads as it did. -/
def linesEditsSpec : ChangeSpec := { name := "linesEdits", fn := fun _ => fun
  | [d1, d2, d3, d4, d5] => { results := [.lit (.bool true)], args := [d1, d2, d3, d4, d5] }
  | _ => none }
def linesEditsRow : OpenClaim := { program := "ytfhbmblbidcmmaagreat", sum := "e211d2e9095bd5cf05833ebb933319a3758c48f6ce4032fc8f7171e8c8699450", func := "octavo/octavolaw15.LinesEdits", spec := "linesEdits", inPlace := ["internal/bytealg.Count", "internal/bytealg.IndexByte", "internal/bytealg.Index"], unfollowed := true, recurses := true, named := ["internal/bytealg.MaxLen"], plainKeys := false, apart := false }
def LinesEditsSaid : Prop := linesEditsRow.holds Tryz.pinned (OpenSpec.ofChange linesEditsSpec)

/-- ITS FALSE NEIGHBOUR: 'it returns false'. Refute it at one input. -/
def linesEditsWrong : ChangeSpec := { name := "linesEdits", fn := fun _ => fun
  | [d1, d2, d3, d4, d5] => { results := [.lit (.bool false)], args := [d1, d2, d3, d4, d5] }
  | _ => none }
def LinesEditsWrongFalsely : Prop := linesEditsRow.holds Tryz.pinned (OpenSpec.ofChange linesEditsWrong)

/-- 'octavolaw14.TreeFails': WHATEVER THE INPUT: true; the input reads as it did. -/
def treeFailsSpec : ChangeSpec := { name := "treeFails", fn := fun _ => fun
  | [d1, d2, d3, d4, d5, d6] => { results := [.lit (.bool true)], args := [d1, d2, d3, d4, d5, d6] }
  | _ => none }
def treeFailsRow : OpenClaim := { program := "ytfhbmblbidcmmaagreat", sum := "e211d2e9095bd5cf05833ebb933319a3758c48f6ce4032fc8f7171e8c8699450", func := "octavo/octavolaw14.TreeFails", spec := "treeFails", inPlace := ["internal/reflectlite.ValueOf", "internal/reflectlite.Swapper", "(internal/reflectlite.Value).Len"], unfollowed := true, recurses := true, plainKeys := false, apart := false }
def TreeFailsSaid : Prop := treeFailsRow.holds Tryz.pinned (OpenSpec.ofChange treeFailsSpec)

/-- ITS FALSE NEIGHBOUR: 'it returns false'. Refute it at one input. -/
def treeFailsWrong : ChangeSpec := { name := "treeFails", fn := fun _ => fun
  | [d1, d2, d3, d4, d5, d6] => { results := [.lit (.bool false)], args := [d1, d2, d3, d4, d5, d6] }
  | _ => none }
def TreeFailsWrongFalsely : Prop := treeFailsRow.holds Tryz.pinned (OpenSpec.ofChange treeFailsWrong)

/-- 'octavolaw14.TreeShape': WHATEVER THE INPUT: true; the input reads as it did. -/
def treeShapeSpec : ChangeSpec := { name := "treeShape", fn := fun _ => fun
  | [d] => { results := [.lit (.bool true)], args := [d] }
  | _ => none }
def treeShapeRow : OpenClaim := { program := "ytfhbmblbidcmmaagreat", sum := "e211d2e9095bd5cf05833ebb933319a3758c48f6ce4032fc8f7171e8c8699450", func := "octavo/octavolaw14.TreeShape", spec := "treeShape", inPlace := ["internal/reflectlite.ValueOf", "internal/reflectlite.Swapper", "(internal/reflectlite.Value).Len"], unfollowed := true, recurses := true, plainKeys := false, apart := false }
def TreeShapeSaid : Prop := treeShapeRow.holds Tryz.pinned (OpenSpec.ofChange treeShapeSpec)

/-- ITS FALSE NEIGHBOUR: 'it returns false'. Refute it at one input. -/
def treeShapeWrong : ChangeSpec := { name := "treeShape", fn := fun _ => fun
  | [d] => { results := [.lit (.bool false)], args := [d] }
  | _ => none }
def TreeShapeWrongFalsely : Prop := treeShapeRow.holds Tryz.pinned (OpenSpec.ofChange treeShapeWrong)

/-- 'octavolaw18.CensusPages': WHATEVER THE INPUT: true; the input reads as it did. -/
def censusPagesSpec : ChangeSpec := { name := "censusPages", fn := fun _ => fun
  | [d1, d2] => { results := [.lit (.bool true)], args := [d1, d2] }
  | _ => none }
def censusPagesRow : OpenClaim := { program := "ytfhbmblbidcmmaagreat", sum := "e211d2e9095bd5cf05833ebb933319a3758c48f6ce4032fc8f7171e8c8699450", func := "octavo/octavolaw18.CensusPages", spec := "censusPages", inPlace := ["internal/reflectlite.ValueOf", "internal/reflectlite.Swapper", "(internal/reflectlite.Value).Len", "internal/bytealg.Count", "internal/bytealg.IndexByte", "internal/bytealg.Index"], unfollowed := true, recurses := true, named := ["internal/bytealg.MaxLen"], plainKeys := false, apart := false }
def CensusPagesSaid : Prop := censusPagesRow.holds Tryz.pinned (OpenSpec.ofChange censusPagesSpec)

/-- ITS FALSE NEIGHBOUR: 'it returns false'. Refute it at one input. -/
def censusPagesWrong : ChangeSpec := { name := "censusPages", fn := fun _ => fun
  | [d1, d2] => { results := [.lit (.bool false)], args := [d1, d2] }
  | _ => none }
def CensusPagesWrongFalsely : Prop := censusPagesRow.holds Tryz.pinned (OpenSpec.ofChange censusPagesWrong)

/-- 'octavolaw18.CensusSound': WHATEVER THE INPUT: true; the input reads as it did. -/
def censusSoundSpec : ChangeSpec := { name := "censusSound", fn := fun _ => fun
  | [d1, d2, d3, d4] => { results := [.lit (.bool true)], args := [d1, d2, d3, d4] }
  | _ => none }
def censusSoundRow : OpenClaim := { program := "ytfhbmblbidcmmaagreat", sum := "e211d2e9095bd5cf05833ebb933319a3758c48f6ce4032fc8f7171e8c8699450", func := "octavo/octavolaw18.CensusSound", spec := "censusSound", inPlace := ["internal/reflectlite.ValueOf", "internal/reflectlite.Swapper", "(internal/reflectlite.Value).Len", "internal/bytealg.Count", "internal/bytealg.IndexByte", "internal/bytealg.Index"], unfollowed := true, recurses := true, named := ["internal/bytealg.MaxLen"], plainKeys := false, apart := false }
def CensusSoundSaid : Prop := censusSoundRow.holds Tryz.pinned (OpenSpec.ofChange censusSoundSpec)

/-- ITS FALSE NEIGHBOUR: 'it returns false'. Refute it at one input. -/
def censusSoundWrong : ChangeSpec := { name := "censusSound", fn := fun _ => fun
  | [d1, d2, d3, d4] => { results := [.lit (.bool false)], args := [d1, d2, d3, d4] }
  | _ => none }
def CensusSoundWrongFalsely : Prop := censusSoundRow.holds Tryz.pinned (OpenSpec.ofChange censusSoundWrong)

/- THE SECOND FORM. 'bulk': how many values and letters a reading holds, each counted each time it is reached (what is shared counts as often as it is met; a slice's spare places count too). A statement '..UptoSaid' is the law's where the arguments, and the package variables that the reading takes, are together of bulk at most 1048576: NARROWER than '..Said'. Prove '..Said' where nothing that the law and all that it calls make is longer than what came in: it says more and counts as full. Else prove '..UptoSaid'. A law counts once. -/
mutual
def uptoBulk {H : Type} : DataW H → Nat
  | .lit (.string bytes) => bytes.length + 1
  | .lit _ => 1
  | .nil => 1
  | .ptr d => uptoBulk d + 1
  | .slice elems spare => uptoBulkAll elems + uptoBulkAll spare + 1
  | .agg parts => uptoBulkAll parts + 1
  | .iface _ d => uptoBulk d + 1
  | .map entries => uptoBulkEntries entries + 1
  | .held _ => 1
def uptoBulkAll {H : Type} : List (DataW H) → Nat
  | [] => 0
  | d :: r => uptoBulk d + uptoBulkAll r
def uptoBulkEntries {H : Type} : List (Lit × DataW H) → Nat
  | [] => 0
  | x :: r => uptoBulkEntry x + uptoBulkEntries r
def uptoBulkEntry {H : Type} : Lit × DataW H → Nat
  | (.string bytes, d) => bytes.length + uptoBulk d + 1
  | (_, d) => uptoBulk d + 1
 end
def uptoSmall : (H : Type) → List (DataW H) → Bool := fun _ ds => decide (uptoBulkAll ds ≤ 1048576)
def OpenSpec.upto (s : _root_.Go.ChangeSpec) : _root_.Go.OpenSpec := { _root_.Go.OpenSpec.ofChange s with cond := some uptoSmall }

/-- 'octavolaw14.TreeChecks', WHERE WHAT IT READS IS OF BULK AT MOST 1048576: true; the input reads as it did. -/
def treeChecksUptoRow : OpenClaim := { program := "ytfhbmblbidcmmaagreat", sum := "e211d2e9095bd5cf05833ebb933319a3758c48f6ce4032fc8f7171e8c8699450", func := "octavo/octavolaw14.TreeChecks", spec := "treeChecks", unfollowed := true, recurses := true, plainKeys := false, apart := false, narrowed := true }
def TreeChecksUptoSaid : Prop := treeChecksUptoRow.holds Tryz.pinned (OpenSpec.upto treeChecksSpec)

/-- 'octavolaw15.LinesAsks', WHERE WHAT IT READS IS OF BULK AT MOST 1048576: true; the input reads as it did. -/
def linesAsksUptoRow : OpenClaim := { program := "ytfhbmblbidcmmaagreat", sum := "e211d2e9095bd5cf05833ebb933319a3758c48f6ce4032fc8f7171e8c8699450", func := "octavo/octavolaw15.LinesAsks", spec := "linesAsks", inPlace := ["internal/bytealg.Count", "internal/bytealg.IndexByte", "internal/bytealg.Index"], unfollowed := true, recurses := true, named := ["internal/bytealg.MaxLen"], plainKeys := false, apart := false, narrowed := true }
def LinesAsksUptoSaid : Prop := linesAsksUptoRow.holds Tryz.pinned (OpenSpec.upto linesAsksSpec)

/-- 'octavolaw15.LinesLazy', WHERE WHAT IT READS IS OF BULK AT MOST 1048576: true; the input reads as it did. -/
def linesLazyUptoRow : OpenClaim := { program := "ytfhbmblbidcmmaagreat", sum := "e211d2e9095bd5cf05833ebb933319a3758c48f6ce4032fc8f7171e8c8699450", func := "octavo/octavolaw15.LinesLazy", spec := "linesLazy", inPlace := ["internal/bytealg.Count", "internal/bytealg.IndexByte", "internal/bytealg.Index"], unfollowed := true, recurses := true, named := ["internal/bytealg.MaxLen"], plainKeys := false, apart := false, narrowed := true }
def LinesLazyUptoSaid : Prop := linesLazyUptoRow.holds Tryz.pinned (OpenSpec.upto linesLazySpec)

/-- 'octavolaw15.LinesEdits', WHERE WHAT IT READS IS OF BULK AT MOST 1048576: true; the input reads as it did. -/
def linesEditsUptoRow : OpenClaim := { program := "ytfhbmblbidcmmaagreat", sum := "e211d2e9095bd5cf05833ebb933319a3758c48f6ce4032fc8f7171e8c8699450", func := "octavo/octavolaw15.LinesEdits", spec := "linesEdits", inPlace := ["internal/bytealg.Count", "internal/bytealg.IndexByte", "internal/bytealg.Index"], unfollowed := true, recurses := true, named := ["internal/bytealg.MaxLen"], plainKeys := false, apart := false, narrowed := true }
def LinesEditsUptoSaid : Prop := linesEditsUptoRow.holds Tryz.pinned (OpenSpec.upto linesEditsSpec)

/-- 'octavolaw14.TreeFails', WHERE WHAT IT READS IS OF BULK AT MOST 1048576: true; the input reads as it did. -/
def treeFailsUptoRow : OpenClaim := { program := "ytfhbmblbidcmmaagreat", sum := "e211d2e9095bd5cf05833ebb933319a3758c48f6ce4032fc8f7171e8c8699450", func := "octavo/octavolaw14.TreeFails", spec := "treeFails", inPlace := ["internal/reflectlite.ValueOf", "internal/reflectlite.Swapper", "(internal/reflectlite.Value).Len"], unfollowed := true, recurses := true, plainKeys := false, apart := false, narrowed := true }
def TreeFailsUptoSaid : Prop := treeFailsUptoRow.holds Tryz.pinned (OpenSpec.upto treeFailsSpec)

/-- 'octavolaw14.TreeShape', WHERE WHAT IT READS IS OF BULK AT MOST 1048576: true; the input reads as it did. -/
def treeShapeUptoRow : OpenClaim := { program := "ytfhbmblbidcmmaagreat", sum := "e211d2e9095bd5cf05833ebb933319a3758c48f6ce4032fc8f7171e8c8699450", func := "octavo/octavolaw14.TreeShape", spec := "treeShape", inPlace := ["internal/reflectlite.ValueOf", "internal/reflectlite.Swapper", "(internal/reflectlite.Value).Len"], unfollowed := true, recurses := true, plainKeys := false, apart := false, narrowed := true }
def TreeShapeUptoSaid : Prop := treeShapeUptoRow.holds Tryz.pinned (OpenSpec.upto treeShapeSpec)

/-- 'octavolaw18.CensusPages', WHERE WHAT IT READS IS OF BULK AT MOST 1048576: true; the input reads as it did. -/
def censusPagesUptoRow : OpenClaim := { program := "ytfhbmblbidcmmaagreat", sum := "e211d2e9095bd5cf05833ebb933319a3758c48f6ce4032fc8f7171e8c8699450", func := "octavo/octavolaw18.CensusPages", spec := "censusPages", inPlace := ["internal/reflectlite.ValueOf", "internal/reflectlite.Swapper", "(internal/reflectlite.Value).Len", "internal/bytealg.Count", "internal/bytealg.IndexByte", "internal/bytealg.Index"], unfollowed := true, recurses := true, named := ["internal/bytealg.MaxLen"], plainKeys := false, apart := false, narrowed := true }
def CensusPagesUptoSaid : Prop := censusPagesUptoRow.holds Tryz.pinned (OpenSpec.upto censusPagesSpec)

/-- 'octavolaw18.CensusSound', WHERE WHAT IT READS IS OF BULK AT MOST 1048576: true; the input reads as it did. -/
def censusSoundUptoRow : OpenClaim := { program := "ytfhbmblbidcmmaagreat", sum := "e211d2e9095bd5cf05833ebb933319a3758c48f6ce4032fc8f7171e8c8699450", func := "octavo/octavolaw18.CensusSound", spec := "censusSound", inPlace := ["internal/reflectlite.ValueOf", "internal/reflectlite.Swapper", "(internal/reflectlite.Value).Len", "internal/bytealg.Count", "internal/bytealg.IndexByte", "internal/bytealg.Index"], unfollowed := true, recurses := true, named := ["internal/bytealg.MaxLen"], plainKeys := false, apart := false, narrowed := true }
def CensusSoundUptoSaid : Prop := censusSoundUptoRow.holds Tryz.pinned (OpenSpec.upto censusSoundSpec)

end Rows
end Go.Proofs.YtfhbmblbidcmmaaGreat
