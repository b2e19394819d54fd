/-
  No cell of these rows narrows 'for every input' (looked for: loops, veiled, ifaces, maps, wideKeys, modest, calm, conditions, laid).
  DERIVED. THE GIVEN ROWS OF THIS SEAT. 14 by the template 'for every input the law returns true; each argument reads behind the call as it read before'; 0 by the template 'total and deterministic' (their statements: YtjhkmmpgjiciiaaTotals.lean).
  GIVEN WITH THE SEED: the statements are not yours to turn. If you find one false, say at which input.
  Laid BY PROGRAM, IN A SANDBOX (cutbox-rows.mjs): the forced cells as the released guide's own fill.sh prints them over the translation 3e72f2d95fb2d281… (all of the seat's roots in one cut). By AI agents, Wed Nov 11 2026. No macro, syntax, notation, axiom, sorry.
-/
import Derived.Test.YtjhkmmpgjiciiaaChecked
import GoSem.Claim
import GoSem.ClaimJoined
import GoSem.ClaimMapViews
import Derived.JoinedTies
import Derived.KernelRfl
namespace Go.Proofs.Ytjhkmmpgjiciiaa
/- THE CELL 'sum', in the pinned program and in every row, IS THE sha256 OF THE DUMP (.gsa) THAT YtjhkmmpgjiciiaaProg.lean LOADS. Nothing in Lean hashes anything: it is a label: what it is worth is what the hold of that sum in a sandbox is worth. -/
noncomputable def Try.pinned : Pinned := { name := "ytjhkmmpgjiciiaa", sum := "3e72f2d95fb2d281cabb2cdd4ed6e2080489f6aca28784eb3403a9df279894ee", checked := Try.checked }
namespace Rows
def none {H : Type} : Left H := { results := [], args := [] }

/-- 'octavolaw06.LruHits': WHATEVER THE INPUT: true; the input reads as it did. -/
def lruHitsSpec : ChangeSpec := { name := "lruHits", fn := fun _ => fun
  | [d1, d2] => { results := [.lit (.bool true)], args := [d1, d2] }
  | _ => none }
def lruHitsRow : OpenClaim := { program := "ytjhkmmpgjiciiaa", sum := "3e72f2d95fb2d281cabb2cdd4ed6e2080489f6aca28784eb3403a9df279894ee", func := "octavo/octavolaw06.LruHits", spec := "lruHits", apart := false }
def LruHitsSaid : Prop := lruHitsRow.holds Try.pinned (OpenSpec.ofChange lruHitsSpec)

/-- ITS FALSE NEIGHBOUR: 'it returns false'. Refute it at one input. -/
def lruHitsWrong : ChangeSpec := { name := "lruHits", fn := fun _ => fun
  | [d1, d2] => { results := [.lit (.bool false)], args := [d1, d2] }
  | _ => none }
def LruHitsWrongFalsely : Prop := lruHitsRow.holds Try.pinned (OpenSpec.ofChange lruHitsWrong)

/-- 'octavolaw06.LruPinned': WHATEVER THE INPUT: true; the input reads as it did. -/
def lruPinnedSpec : ChangeSpec := { name := "lruPinned", fn := fun _ => fun
  | [d1, d2, d3] => { results := [.lit (.bool true)], args := [d1, d2, d3] }
  | _ => none }
def lruPinnedRow : OpenClaim := { program := "ytjhkmmpgjiciiaa", sum := "3e72f2d95fb2d281cabb2cdd4ed6e2080489f6aca28784eb3403a9df279894ee", func := "octavo/octavolaw06.LruPinned", spec := "lruPinned", apart := false }
def LruPinnedSaid : Prop := lruPinnedRow.holds Try.pinned (OpenSpec.ofChange lruPinnedSpec)

/-- ITS FALSE NEIGHBOUR: 'it returns false'. Refute it at one input. -/
def lruPinnedWrong : ChangeSpec := { name := "lruPinned", fn := fun _ => fun
  | [d1, d2, d3] => { results := [.lit (.bool false)], args := [d1, d2, d3] }
  | _ => none }
def LruPinnedWrongFalsely : Prop := lruPinnedRow.holds Try.pinned (OpenSpec.ofChange lruPinnedWrong)

/-- 'octavolaw04.DiskSectors': WHATEVER THE INPUT: true; the input reads as it did. -/
def diskSectorsSpec : ChangeSpec := { name := "diskSectors", fn := fun _ => fun
  | [d1, d2] => { results := [.lit (.bool true)], args := [d1, d2] }
  | _ => none }
def diskSectorsRow : OpenClaim := { program := "ytjhkmmpgjiciiaa", sum := "3e72f2d95fb2d281cabb2cdd4ed6e2080489f6aca28784eb3403a9df279894ee", func := "octavo/octavolaw04.DiskSectors", spec := "diskSectors", apart := false }
def DiskSectorsSaid : Prop := diskSectorsRow.holds Try.pinned (OpenSpec.ofChange diskSectorsSpec)

/-- ITS FALSE NEIGHBOUR: 'it returns false'. Refute it at one input. -/
def diskSectorsWrong : ChangeSpec := { name := "diskSectors", fn := fun _ => fun
  | [d1, d2] => { results := [.lit (.bool false)], args := [d1, d2] }
  | _ => none }
def DiskSectorsWrongFalsely : Prop := diskSectorsRow.holds Try.pinned (OpenSpec.ofChange diskSectorsWrong)

/-- 'octavolaw04.DiskSafe': WHATEVER THE INPUT: true; the input reads as it did. -/
def diskSafeSpec : ChangeSpec := { name := "diskSafe", fn := fun _ => fun
  | [d1, d2, d3] => { results := [.lit (.bool true)], args := [d1, d2, d3] }
  | _ => none }
def diskSafeRow : OpenClaim := { program := "ytjhkmmpgjiciiaa", sum := "3e72f2d95fb2d281cabb2cdd4ed6e2080489f6aca28784eb3403a9df279894ee", func := "octavo/octavolaw04.DiskSafe", spec := "diskSafe", apart := false }
def DiskSafeSaid : Prop := diskSafeRow.holds Try.pinned (OpenSpec.ofChange diskSafeSpec)

/-- ITS FALSE NEIGHBOUR: 'it returns false'. Refute it at one input. -/
def diskSafeWrong : ChangeSpec := { name := "diskSafe", fn := fun _ => fun
  | [d1, d2, d3] => { results := [.lit (.bool false)], args := [d1, d2, d3] }
  | _ => none }
def DiskSafeWrongFalsely : Prop := diskSafeRow.holds Try.pinned (OpenSpec.ofChange diskSafeWrong)

/-- 'octavolaw06.LruMarks': WHATEVER THE INPUT: true; the input reads as it did. -/
def lruMarksSpec : ChangeSpec := { name := "lruMarks", fn := fun _ => fun
  | [d] => { results := [.lit (.bool true)], args := [d] }
  | _ => none }
def lruMarksRow : OpenClaim := { program := "ytjhkmmpgjiciiaa", sum := "3e72f2d95fb2d281cabb2cdd4ed6e2080489f6aca28784eb3403a9df279894ee", func := "octavo/octavolaw06.LruMarks", spec := "lruMarks", recurses := true, apart := false }
def LruMarksSaid : Prop := lruMarksRow.holds Try.pinned (OpenSpec.ofChange lruMarksSpec)

/-- ITS FALSE NEIGHBOUR: 'it returns false'. Refute it at one input. -/
def lruMarksWrong : ChangeSpec := { name := "lruMarks", fn := fun _ => fun
  | [d] => { results := [.lit (.bool false)], args := [d] }
  | _ => none }
def LruMarksWrongFalsely : Prop := lruMarksRow.holds Try.pinned (OpenSpec.ofChange lruMarksWrong)

/-- 'octavolaw06.LruPlays': WHATEVER THE INPUT: true; the input reads as it did. -/
def lruPlaysSpec : ChangeSpec := { name := "lruPlays", fn := fun _ => fun
  | [d1, d2] => { results := [.lit (.bool true)], args := [d1, d2] }
  | _ => none }
def lruPlaysRow : OpenClaim := { program := "ytjhkmmpgjiciiaa", sum := "3e72f2d95fb2d281cabb2cdd4ed6e2080489f6aca28784eb3403a9df279894ee", func := "octavo/octavolaw06.LruPlays", spec := "lruPlays", recurses := true, apart := false }
def LruPlaysSaid : Prop := lruPlaysRow.holds Try.pinned (OpenSpec.ofChange lruPlaysSpec)

/-- ITS FALSE NEIGHBOUR: 'it returns false'. Refute it at one input. -/
def lruPlaysWrong : ChangeSpec := { name := "lruPlays", fn := fun _ => fun
  | [d1, d2] => { results := [.lit (.bool false)], args := [d1, d2] }
  | _ => none }
def LruPlaysWrongFalsely : Prop := lruPlaysRow.holds Try.pinned (OpenSpec.ofChange lruPlaysWrong)

/-- 'octavolaw06.LruNil': WHATEVER THE INPUT: true; the input reads as it did. -/
def lruNilSpec : ChangeSpec := { name := "lruNil", fn := fun _ => fun
  | [d] => { results := [.lit (.bool true)], args := [d] }
  | _ => none }
def lruNilRow : OpenClaim := { program := "ytjhkmmpgjiciiaa", sum := "3e72f2d95fb2d281cabb2cdd4ed6e2080489f6aca28784eb3403a9df279894ee", func := "octavo/octavolaw06.LruNil", spec := "lruNil", recurses := true, apart := false }
def LruNilSaid : Prop := lruNilRow.holds Try.pinned (OpenSpec.ofChange lruNilSpec)

/-- ITS FALSE NEIGHBOUR: 'it returns false'. Refute it at one input. -/
def lruNilWrong : ChangeSpec := { name := "lruNil", fn := fun _ => fun
  | [d] => { results := [.lit (.bool false)], args := [d] }
  | _ => none }
def LruNilWrongFalsely : Prop := lruNilRow.holds Try.pinned (OpenSpec.ofChange lruNilWrong)

/-- 'octavolaw04.DiskRooms': WHATEVER THE INPUT: true; the input reads as it did. -/
def diskRoomsSpec : ChangeSpec := { name := "diskRooms", fn := fun _ => fun
  | [d1, d2] => { results := [.lit (.bool true)], args := [d1, d2] }
  | _ => none }
def diskRoomsRow : OpenClaim := { program := "ytjhkmmpgjiciiaa", sum := "3e72f2d95fb2d281cabb2cdd4ed6e2080489f6aca28784eb3403a9df279894ee", func := "octavo/octavolaw04.DiskRooms", spec := "diskRooms", recurses := true, apart := false }
def DiskRoomsSaid : Prop := diskRoomsRow.holds Try.pinned (OpenSpec.ofChange diskRoomsSpec)

/-- ITS FALSE NEIGHBOUR: 'it returns false'. Refute it at one input. -/
def diskRoomsWrong : ChangeSpec := { name := "diskRooms", fn := fun _ => fun
  | [d1, d2] => { results := [.lit (.bool false)], args := [d1, d2] }
  | _ => none }
def DiskRoomsWrongFalsely : Prop := diskRoomsRow.holds Try.pinned (OpenSpec.ofChange diskRoomsWrong)

/-- 'octavolaw04.DiskPlays': WHATEVER THE INPUT: true; the input reads as it did. -/
def diskPlaysSpec : ChangeSpec := { name := "diskPlays", fn := fun _ => fun
  | [d1, d2] => { results := [.lit (.bool true)], args := [d1, d2] }
  | _ => none }
def diskPlaysRow : OpenClaim := { program := "ytjhkmmpgjiciiaa", sum := "3e72f2d95fb2d281cabb2cdd4ed6e2080489f6aca28784eb3403a9df279894ee", func := "octavo/octavolaw04.DiskPlays", spec := "diskPlays", recurses := true, apart := false }
def DiskPlaysSaid : Prop := diskPlaysRow.holds Try.pinned (OpenSpec.ofChange diskPlaysSpec)

/-- ITS FALSE NEIGHBOUR: 'it returns false'. Refute it at one input. -/
def diskPlaysWrong : ChangeSpec := { name := "diskPlays", fn := fun _ => fun
  | [d1, d2] => { results := [.lit (.bool false)], args := [d1, d2] }
  | _ => none }
def DiskPlaysWrongFalsely : Prop := diskPlaysRow.holds Try.pinned (OpenSpec.ofChange diskPlaysWrong)

/-- 'octavolaw04.DiskNil': WHATEVER THE INPUT: true; the input reads as it did. -/
def diskNilSpec : ChangeSpec := { name := "diskNil", fn := fun _ => fun
  | [d1, d2] => { results := [.lit (.bool true)], args := [d1, d2] }
  | _ => none }
def diskNilRow : OpenClaim := { program := "ytjhkmmpgjiciiaa", sum := "3e72f2d95fb2d281cabb2cdd4ed6e2080489f6aca28784eb3403a9df279894ee", func := "octavo/octavolaw04.DiskNil", spec := "diskNil", recurses := true, apart := false }
def DiskNilSaid : Prop := diskNilRow.holds Try.pinned (OpenSpec.ofChange diskNilSpec)

/-- ITS FALSE NEIGHBOUR: 'it returns false'. Refute it at one input. -/
def diskNilWrong : ChangeSpec := { name := "diskNil", fn := fun _ => fun
  | [d1, d2] => { results := [.lit (.bool false)], args := [d1, d2] }
  | _ => none }
def DiskNilWrongFalsely : Prop := diskNilRow.holds Try.pinned (OpenSpec.ofChange diskNilWrong)

/-- 'octavolaw07.CacheFull': WHATEVER THE INPUT: true; the input reads as it did. -/
def cacheFullSpec : ChangeSpec := { name := "cacheFull", fn := fun _ => fun
  | [d] => { results := [.lit (.bool true)], args := [d] }
  | _ => none }
def cacheFullRow : OpenClaim := { program := "ytjhkmmpgjiciiaa", sum := "3e72f2d95fb2d281cabb2cdd4ed6e2080489f6aca28784eb3403a9df279894ee", func := "octavo/octavolaw07.CacheFull", spec := "cacheFull", recurses := true, apart := false }
def CacheFullSaid : Prop := cacheFullRow.holds Try.pinned (OpenSpec.ofChange cacheFullSpec)

/-- ITS FALSE NEIGHBOUR: 'it returns false'. Refute it at one input. -/
def cacheFullWrong : ChangeSpec := { name := "cacheFull", fn := fun _ => fun
  | [d] => { results := [.lit (.bool false)], args := [d] }
  | _ => none }
def CacheFullWrongFalsely : Prop := cacheFullRow.holds Try.pinned (OpenSpec.ofChange cacheFullWrong)

/-- 'octavolaw07.CacheReads': WHATEVER THE INPUT: true; the input reads as it did. -/
def cacheReadsSpec : ChangeSpec := { name := "cacheReads", fn := fun _ => fun
  | [d1, d2] => { results := [.lit (.bool true)], args := [d1, d2] }
  | _ => none }
def cacheReadsRow : OpenClaim := { program := "ytjhkmmpgjiciiaa", sum := "3e72f2d95fb2d281cabb2cdd4ed6e2080489f6aca28784eb3403a9df279894ee", func := "octavo/octavolaw07.CacheReads", spec := "cacheReads", recurses := true, apart := false }
def CacheReadsSaid : Prop := cacheReadsRow.holds Try.pinned (OpenSpec.ofChange cacheReadsSpec)

/-- ITS FALSE NEIGHBOUR: 'it returns false'. Refute it at one input. -/
def cacheReadsWrong : ChangeSpec := { name := "cacheReads", fn := fun _ => fun
  | [d1, d2] => { results := [.lit (.bool false)], args := [d1, d2] }
  | _ => none }
def CacheReadsWrongFalsely : Prop := cacheReadsRow.holds Try.pinned (OpenSpec.ofChange cacheReadsWrong)

/-- 'octavolaw07.CacheSafe': WHATEVER THE INPUT: true; the input reads as it did. -/
def cacheSafeSpec : ChangeSpec := { name := "cacheSafe", fn := fun _ => fun
  | [d1, d2, d3, d4] => { results := [.lit (.bool true)], args := [d1, d2, d3, d4] }
  | _ => none }
def cacheSafeRow : OpenClaim := { program := "ytjhkmmpgjiciiaa", sum := "3e72f2d95fb2d281cabb2cdd4ed6e2080489f6aca28784eb3403a9df279894ee", func := "octavo/octavolaw07.CacheSafe", spec := "cacheSafe", recurses := true, apart := false }
def CacheSafeSaid : Prop := cacheSafeRow.holds Try.pinned (OpenSpec.ofChange cacheSafeSpec)

/-- ITS FALSE NEIGHBOUR: 'it returns false'. Refute it at one input. -/
def cacheSafeWrong : ChangeSpec := { name := "cacheSafe", fn := fun _ => fun
  | [d1, d2, d3, d4] => { results := [.lit (.bool false)], args := [d1, d2, d3, d4] }
  | _ => none }
def CacheSafeWrongFalsely : Prop := cacheSafeRow.holds Try.pinned (OpenSpec.ofChange cacheSafeWrong)

/-- 'octavolaw07.CacheNil': WHATEVER THE INPUT: true; the input reads as it did. -/
def cacheNilSpec : ChangeSpec := { name := "cacheNil", fn := fun _ => fun
  | [d1, d2] => { results := [.lit (.bool true)], args := [d1, d2] }
  | _ => none }
def cacheNilRow : OpenClaim := { program := "ytjhkmmpgjiciiaa", sum := "3e72f2d95fb2d281cabb2cdd4ed6e2080489f6aca28784eb3403a9df279894ee", func := "octavo/octavolaw07.CacheNil", spec := "cacheNil", recurses := true, apart := false }
def CacheNilSaid : Prop := cacheNilRow.holds Try.pinned (OpenSpec.ofChange cacheNilSpec)

/-- ITS FALSE NEIGHBOUR: 'it returns false'. Refute it at one input. -/
def cacheNilWrong : ChangeSpec := { name := "cacheNil", fn := fun _ => fun
  | [d1, d2] => { results := [.lit (.bool false)], args := [d1, d2] }
  | _ => none }
def CacheNilWrongFalsely : Prop := cacheNilRow.holds Try.pinned (OpenSpec.ofChange cacheNilWrong)

/- THE SECOND FORM. 'bulk': how many values and letters a reading holds, each counted each time it is reached (what is shared counts as often as it is met; a slice's spare places count too). A statement '..UptoSaid' is the law's where the arguments, and the package variables that the reading takes, are together of bulk at most 1048576: NARROWER than '..Said'. Prove '..Said' where nothing that the law and all that it calls make is longer than what came in: it says more and counts as full. Else prove '..UptoSaid'. A law counts once. -/
mutual
def uptoBulk {H : Type} : DataW H → Nat
  | .lit (.string bytes) => bytes.length + 1
  | .lit _ => 1
  | .nil => 1
  | .ptr d => uptoBulk d + 1
  | .slice elems spare => uptoBulkAll elems + uptoBulkAll spare + 1
  | .agg parts => uptoBulkAll parts + 1
  | .iface _ d => uptoBulk d + 1
  | .map entries => uptoBulkEntries entries + 1
  | .held _ => 1
def uptoBulkAll {H : Type} : List (DataW H) → Nat
  | [] => 0
  | d :: r => uptoBulk d + uptoBulkAll r
def uptoBulkEntries {H : Type} : List (Lit × DataW H) → Nat
  | [] => 0
  | x :: r => uptoBulkEntry x + uptoBulkEntries r
def uptoBulkEntry {H : Type} : Lit × DataW H → Nat
  | (.string bytes, d) => bytes.length + uptoBulk d + 1
  | (_, d) => uptoBulk d + 1
 end
def uptoSmall : (H : Type) → List (DataW H) → Bool := fun _ ds => decide (uptoBulkAll ds ≤ 1048576)
def OpenSpec.upto (s : _root_.Go.ChangeSpec) : _root_.Go.OpenSpec := { _root_.Go.OpenSpec.ofChange s with cond := some uptoSmall }

/-- 'octavolaw06.LruHits', WHERE WHAT IT READS IS OF BULK AT MOST 1048576: true; the input reads as it did. -/
def lruHitsUptoRow : OpenClaim := { program := "ytjhkmmpgjiciiaa", sum := "3e72f2d95fb2d281cabb2cdd4ed6e2080489f6aca28784eb3403a9df279894ee", func := "octavo/octavolaw06.LruHits", spec := "lruHits", apart := false, narrowed := true }
def LruHitsUptoSaid : Prop := lruHitsUptoRow.holds Try.pinned (OpenSpec.upto lruHitsSpec)

/-- 'octavolaw06.LruPinned', WHERE WHAT IT READS IS OF BULK AT MOST 1048576: true; the input reads as it did. -/
def lruPinnedUptoRow : OpenClaim := { program := "ytjhkmmpgjiciiaa", sum := "3e72f2d95fb2d281cabb2cdd4ed6e2080489f6aca28784eb3403a9df279894ee", func := "octavo/octavolaw06.LruPinned", spec := "lruPinned", apart := false, narrowed := true }
def LruPinnedUptoSaid : Prop := lruPinnedUptoRow.holds Try.pinned (OpenSpec.upto lruPinnedSpec)

/-- 'octavolaw04.DiskSectors', WHERE WHAT IT READS IS OF BULK AT MOST 1048576: true; the input reads as it did. -/
def diskSectorsUptoRow : OpenClaim := { program := "ytjhkmmpgjiciiaa", sum := "3e72f2d95fb2d281cabb2cdd4ed6e2080489f6aca28784eb3403a9df279894ee", func := "octavo/octavolaw04.DiskSectors", spec := "diskSectors", apart := false, narrowed := true }
def DiskSectorsUptoSaid : Prop := diskSectorsUptoRow.holds Try.pinned (OpenSpec.upto diskSectorsSpec)

/-- 'octavolaw04.DiskSafe', WHERE WHAT IT READS IS OF BULK AT MOST 1048576: true; the input reads as it did. -/
def diskSafeUptoRow : OpenClaim := { program := "ytjhkmmpgjiciiaa", sum := "3e72f2d95fb2d281cabb2cdd4ed6e2080489f6aca28784eb3403a9df279894ee", func := "octavo/octavolaw04.DiskSafe", spec := "diskSafe", apart := false, narrowed := true }
def DiskSafeUptoSaid : Prop := diskSafeUptoRow.holds Try.pinned (OpenSpec.upto diskSafeSpec)

/-- 'octavolaw06.LruMarks', WHERE WHAT IT READS IS OF BULK AT MOST 1048576: true; the input reads as it did. -/
def lruMarksUptoRow : OpenClaim := { program := "ytjhkmmpgjiciiaa", sum := "3e72f2d95fb2d281cabb2cdd4ed6e2080489f6aca28784eb3403a9df279894ee", func := "octavo/octavolaw06.LruMarks", spec := "lruMarks", recurses := true, apart := false, narrowed := true }
def LruMarksUptoSaid : Prop := lruMarksUptoRow.holds Try.pinned (OpenSpec.upto lruMarksSpec)

/-- 'octavolaw06.LruPlays', WHERE WHAT IT READS IS OF BULK AT MOST 1048576: true; the input reads as it did. -/
def lruPlaysUptoRow : OpenClaim := { program := "ytjhkmmpgjiciiaa", sum := "3e72f2d95fb2d281cabb2cdd4ed6e2080489f6aca28784eb3403a9df279894ee", func := "octavo/octavolaw06.LruPlays", spec := "lruPlays", recurses := true, apart := false, narrowed := true }
def LruPlaysUptoSaid : Prop := lruPlaysUptoRow.holds Try.pinned (OpenSpec.upto lruPlaysSpec)

/-- 'octavolaw06.LruNil', WHERE WHAT IT READS IS OF BULK AT MOST 1048576: true; the input reads as it did. -/
def lruNilUptoRow : OpenClaim := { program := "ytjhkmmpgjiciiaa", sum := "3e72f2d95fb2d281cabb2cdd4ed6e2080489f6aca28784eb3403a9df279894ee", func := "octavo/octavolaw06.LruNil", spec := "lruNil", recurses := true, apart := false, narrowed := true }
def LruNilUptoSaid : Prop := lruNilUptoRow.holds Try.pinned (OpenSpec.upto lruNilSpec)

/-- 'octavolaw04.DiskRooms', WHERE WHAT IT READS IS OF BULK AT MOST 1048576: true; the input reads as it did. -/
def diskRoomsUptoRow : OpenClaim := { program := "ytjhkmmpgjiciiaa", sum := "3e72f2d95fb2d281cabb2cdd4ed6e2080489f6aca28784eb3403a9df279894ee", func := "octavo/octavolaw04.DiskRooms", spec := "diskRooms", recurses := true, apart := false, narrowed := true }
def DiskRoomsUptoSaid : Prop := diskRoomsUptoRow.holds Try.pinned (OpenSpec.upto diskRoomsSpec)

/-- 'octavolaw04.DiskPlays', WHERE WHAT IT READS IS OF BULK AT MOST 1048576: true; the input reads as it did. -/
def diskPlaysUptoRow : OpenClaim := { program := "ytjhkmmpgjiciiaa", sum := "3e72f2d95fb2d281cabb2cdd4ed6e2080489f6aca28784eb3403a9df279894ee", func := "octavo/octavolaw04.DiskPlays", spec := "diskPlays", recurses := true, apart := false, narrowed := true }
def DiskPlaysUptoSaid : Prop := diskPlaysUptoRow.holds Try.pinned (OpenSpec.upto diskPlaysSpec)

/-- 'octavolaw04.DiskNil', WHERE WHAT IT READS IS OF BULK AT MOST 1048576: true; the input reads as it did. -/
def diskNilUptoRow : OpenClaim := { program := "ytjhkmmpgjiciiaa", sum := "3e72f2d95fb2d281cabb2cdd4ed6e2080489f6aca28784eb3403a9df279894ee", func := "octavo/octavolaw04.DiskNil", spec := "diskNil", recurses := true, apart := false, narrowed := true }
def DiskNilUptoSaid : Prop := diskNilUptoRow.holds Try.pinned (OpenSpec.upto diskNilSpec)

/-- 'octavolaw07.CacheFull', WHERE WHAT IT READS IS OF BULK AT MOST 1048576: true; the input reads as it did. -/
def cacheFullUptoRow : OpenClaim := { program := "ytjhkmmpgjiciiaa", sum := "3e72f2d95fb2d281cabb2cdd4ed6e2080489f6aca28784eb3403a9df279894ee", func := "octavo/octavolaw07.CacheFull", spec := "cacheFull", recurses := true, apart := false, narrowed := true }
def CacheFullUptoSaid : Prop := cacheFullUptoRow.holds Try.pinned (OpenSpec.upto cacheFullSpec)

/-- 'octavolaw07.CacheReads', WHERE WHAT IT READS IS OF BULK AT MOST 1048576: true; the input reads as it did. -/
def cacheReadsUptoRow : OpenClaim := { program := "ytjhkmmpgjiciiaa", sum := "3e72f2d95fb2d281cabb2cdd4ed6e2080489f6aca28784eb3403a9df279894ee", func := "octavo/octavolaw07.CacheReads", spec := "cacheReads", recurses := true, apart := false, narrowed := true }
def CacheReadsUptoSaid : Prop := cacheReadsUptoRow.holds Try.pinned (OpenSpec.upto cacheReadsSpec)

/-- 'octavolaw07.CacheSafe', WHERE WHAT IT READS IS OF BULK AT MOST 1048576: true; the input reads as it did. -/
def cacheSafeUptoRow : OpenClaim := { program := "ytjhkmmpgjiciiaa", sum := "3e72f2d95fb2d281cabb2cdd4ed6e2080489f6aca28784eb3403a9df279894ee", func := "octavo/octavolaw07.CacheSafe", spec := "cacheSafe", recurses := true, apart := false, narrowed := true }
def CacheSafeUptoSaid : Prop := cacheSafeUptoRow.holds Try.pinned (OpenSpec.upto cacheSafeSpec)

/-- 'octavolaw07.CacheNil', WHERE WHAT IT READS IS OF BULK AT MOST 1048576: true; the input reads as it did. -/
def cacheNilUptoRow : OpenClaim := { program := "ytjhkmmpgjiciiaa", sum := "3e72f2d95fb2d281cabb2cdd4ed6e2080489f6aca28784eb3403a9df279894ee", func := "octavo/octavolaw07.CacheNil", spec := "cacheNil", recurses := true, apart := false, narrowed := true }
def CacheNilUptoSaid : Prop := cacheNilUptoRow.holds Try.pinned (OpenSpec.upto cacheNilSpec)

end Rows
end Go.Proofs.Ytjhkmmpgjiciiaa
