/-
  No cell of these rows narrows 'for every input' (looked for: loops, veiled, ifaces, maps, wideKeys, modest, calm, conditions, laid).
  DERIVED. THE GIVEN ROWS OF THIS SEAT. 2 by the template 'for every input the law returns true; each argument reads behind the call as it read before'; 0 by the template 'total and deterministic' (their statements: YtjclpdlijblpjaaGreatTotals.lean).
  GIVEN WITH THE SEED: the statements are not yours to turn. If you find one false, say at which input.
  Laid BY PROGRAM, IN A SANDBOX (cutbox-rows.mjs): the forced cells as the released guide's own fill.sh prints them over the translation 4153e21bc00f0dd7… (all of the seat's roots in one cut). By AI agents, Wed Nov 11 2026. No macro, syntax, notation, axiom, sorry.
-/
import Derived.Test.YtjclpdlijblpjaaGreatChecked
import GoSem.Claim
import GoSem.ClaimJoined
import GoSem.ClaimMapViews
import Derived.JoinedTies
import Derived.KernelRfl
namespace Go.Proofs.YtjclpdlijblpjaaGreat
/- THE CELL 'sum', in the pinned program and in every row, IS THE sha256 OF THE DUMP (.gsa) THAT YtjclpdlijblpjaaGreatProg.lean LOADS. Nothing in Lean hashes anything: it is a label: what it is worth is what the hold of that sum in a sandbox is worth. -/
noncomputable def Tryz.pinned : Pinned := { name := "ytjclpdlijblpjaagreat", sum := "4153e21bc00f0dd71ba8a78cd9d50fa34103f22f175acbe11dcbad13a1caf89d", checked := Tryz.checked }
namespace Rows
def none {H : Type} : Left H := { results := [], args := [] }

/-- 'octavolaw23.SaverNil': WHATEVER THE INPUT: true; the input reads as it did. -/
def saverNilSpec : ChangeSpec := { name := "saverNil", fn := fun _ => fun
  | [d] => { results := [.lit (.bool true)], args := [d] }
  | _ => none }
def saverNilRow : OpenClaim := { program := "ytjclpdlijblpjaagreat", sum := "4153e21bc00f0dd71ba8a78cd9d50fa34103f22f175acbe11dcbad13a1caf89d", func := "octavo/octavolaw23.SaverNil", spec := "saverNil", inPlace := ["internal/reflectlite.ValueOf", "internal/reflectlite.Swapper", "(internal/reflectlite.Value).Len", "internal/bytealg.Count", "internal/bytealg.IndexByte", "internal/bytealg.Index"], unfollowed := true, recurses := true, named := ["internal/bytealg.MaxLen"], plainKeys := false, apart := false }
def SaverNilSaid : Prop := saverNilRow.holds Tryz.pinned (OpenSpec.ofChange saverNilSpec)

/-- ITS FALSE NEIGHBOUR: 'it returns false'. Refute it at one input. -/
def saverNilWrong : ChangeSpec := { name := "saverNil", fn := fun _ => fun
  | [d] => { results := [.lit (.bool false)], args := [d] }
  | _ => none }
def SaverNilWrongFalsely : Prop := saverNilRow.holds Tryz.pinned (OpenSpec.ofChange saverNilWrong)

/-- 'octavolaw24.EditorNil': WHATEVER THE INPUT: true; the input reads as it did. -/
def editorNilSpec : ChangeSpec := { name := "editorNil", fn := fun _ => fun
  | [d1, d2, d3, d4] => { results := [.lit (.bool true)], args := [d1, d2, d3, d4] }
  | _ => none }
def editorNilRow : OpenClaim := { program := "ytjclpdlijblpjaagreat", sum := "4153e21bc00f0dd71ba8a78cd9d50fa34103f22f175acbe11dcbad13a1caf89d", func := "octavo/octavolaw24.EditorNil", spec := "editorNil", inPlace := ["internal/reflectlite.ValueOf", "internal/reflectlite.Swapper", "(internal/reflectlite.Value).Len", "internal/bytealg.Count", "internal/bytealg.IndexByte", "internal/bytealg.Index"], unfollowed := true, recurses := true, named := ["internal/bytealg.MaxLen"], plainKeys := false, apart := false }
def EditorNilSaid : Prop := editorNilRow.holds Tryz.pinned (OpenSpec.ofChange editorNilSpec)

/-- ITS FALSE NEIGHBOUR: 'it returns false'. Refute it at one input. -/
def editorNilWrong : ChangeSpec := { name := "editorNil", fn := fun _ => fun
  | [d1, d2, d3, d4] => { results := [.lit (.bool false)], args := [d1, d2, d3, d4] }
  | _ => none }
def EditorNilWrongFalsely : Prop := editorNilRow.holds Tryz.pinned (OpenSpec.ofChange editorNilWrong)

/- THE SECOND FORM. 'bulk': how many values and letters a reading holds, each counted each time it is reached (what is shared counts as often as it is met; a slice's spare places count too). A statement '..UptoSaid' is the law's where the arguments, and the package variables that the reading takes, are together of bulk at most 1048576: NARROWER than '..Said'. Prove '..Said' where nothing that the law and all that it calls make is longer than what came in: it says more and counts as full. Else prove '..UptoSaid'. A law counts once. -/
mutual
def uptoBulk {H : Type} : DataW H → Nat
  | .lit (.string bytes) => bytes.length + 1
  | .lit _ => 1
  | .nil => 1
  | .ptr d => uptoBulk d + 1
  | .slice elems spare => uptoBulkAll elems + uptoBulkAll spare + 1
  | .agg parts => uptoBulkAll parts + 1
  | .iface _ d => uptoBulk d + 1
  | .map entries => uptoBulkEntries entries + 1
  | .held _ => 1
def uptoBulkAll {H : Type} : List (DataW H) → Nat
  | [] => 0
  | d :: r => uptoBulk d + uptoBulkAll r
def uptoBulkEntries {H : Type} : List (Lit × DataW H) → Nat
  | [] => 0
  | x :: r => uptoBulkEntry x + uptoBulkEntries r
def uptoBulkEntry {H : Type} : Lit × DataW H → Nat
  | (.string bytes, d) => bytes.length + uptoBulk d + 1
  | (_, d) => uptoBulk d + 1
 end
def uptoSmall : (H : Type) → List (DataW H) → Bool := fun _ ds => decide (uptoBulkAll ds ≤ 1048576)
def OpenSpec.upto (s : _root_.Go.ChangeSpec) : _root_.Go.OpenSpec := { _root_.Go.OpenSpec.ofChange s with cond := some uptoSmall }

/-- 'octavolaw23.SaverNil', WHERE WHAT IT READS IS OF BULK AT MOST 1048576: true; the input reads as it did. -/
def saverNilUptoRow : OpenClaim := { program := "ytjclpdlijblpjaagreat", sum := "4153e21bc00f0dd71ba8a78cd9d50fa34103f22f175acbe11dcbad13a1caf89d", func := "octavo/octavolaw23.SaverNil", spec := "saverNil", inPlace := ["internal/reflectlite.ValueOf", "internal/reflectlite.Swapper", "(internal/reflectlite.Value).Len", "internal/bytealg.Count", "internal/bytealg.IndexByte", "internal/bytealg.Index"], unfollowed := true, recurses := true, named := ["internal/bytealg.MaxLen"], plainKeys := false, apart := false, narrowed := true }
def SaverNilUptoSaid : Prop := saverNilUptoRow.holds Tryz.pinned (OpenSpec.upto saverNilSpec)

/-- 'octavolaw24.EditorNil', WHERE WHAT IT READS IS OF BULK AT MOST 1048576: true; the input reads as it did. -/
def editorNilUptoRow : OpenClaim := { program := "ytjclpdlijblpjaagreat", sum := "4153e21bc00f0dd71ba8a78cd9d50fa34103f22f175acbe11dcbad13a1caf89d", func := "octavo/octavolaw24.EditorNil", spec := "editorNil", inPlace := ["internal/reflectlite.ValueOf", "internal/reflectlite.Swapper", "(internal/reflectlite.Value).Len", "internal/bytealg.Count", "internal/bytealg.IndexByte", "internal/bytealg.Index"], unfollowed := true, recurses := true, named := ["internal/bytealg.MaxLen"], plainKeys := false, apart := false, narrowed := true }
def EditorNilUptoSaid : Prop := editorNilUptoRow.holds Tryz.pinned (OpenSpec.upto editorNilSpec)

end Rows
end Go.Proofs.YtjclpdlijblpjaaGreat
