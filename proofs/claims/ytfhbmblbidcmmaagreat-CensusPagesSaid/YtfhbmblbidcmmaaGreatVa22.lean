/-
  Of all versions the pages that are told are just those of their trees in the file in the form of the document, and a root that is none is refused. No condition. (part 22)
-/
import Derived.Test.YtfhbmblbidcmmaaGreatVa13
import Derived.Test.YtfhbmblbidcmmaaGreatVa16
import Derived.Test.YtfhbmblbidcmmaaGreatVa20
import Derived.Test.YtfhbmblbidcmmaaGreatVa21
set_option linter.unusedSimpArgs false
set_option linter.unusedVariables false
namespace Go.Proofs.YtfhbmblbidcmmaaGreat
set_option linter.unusedSimpArgs false
set_option linter.unusedVariables false
open Go.RowKit Go.Sl Go.Dk Go.Tr
structure TS where
 ck : Ck
 sp : Sp
 ops : Nat
def opsMax : Nat := 134217700
structure TsI (s : TS) : Prop where
 ck : ∃ m, CkOk m s.ck
 num : Num s.ops s.ck
 ops : s.ops ≤ opsMax + 3
 res : 0 ≤ s.sp.reserved ∧ s.sp.reserved ≤ 1048576
 taken : s.sp.taken.length ≤ s.ops
theorem TsI.ok {s : TS} (h : TsI s) : CkOk 137438953472 s.ck := by
 obtain ⟨m, hm⟩ := h.ck
 exact h.num.ok hm (by have := h.ops; unfold opsMax at this; omega)
def mGet (no : Int) : M TS (Int × List UInt8) := fun s =>
 if s.ops < opsMax then .ok ((s.ck.get no).1, (s.ck.get no).2.1) ⟨(s.ck.get no).2.2, s.sp, s.ops + 2⟩ else .bad
def mPut (no : Int) (b : List UInt8) : M TS Int := fun s => .ok (s.ck.put no b).1 ⟨(s.ck.put no b).2, s.sp, s.ops + 1⟩
def mTake : M TS (Int × Int) := fun s => if s.ops < opsMax then .ok s.sp.take.1 ⟨s.ck, s.sp.take.2, s.ops + 1⟩ else .bad
def mFail (e : Int) : M TS Unit := if e = 0 then M.pure () else M.fail e
def openNd (no : Int) (b : List UInt8) : Option Nd :=
 if (pageOpen no b).2.2 = 0 then
  if (ndOpen (pageOpen no b).1 (pageOpen no b).2.1).2 = 0 then some (ndOpen (pageOpen no b).1 (pageOpen no b).2.1).1 else none
 else none
def tRead (no : Int) : M TS Nd := M.bind (mGet no) fun r => M.bind (mFail (if r.1 = 6 ∨ r.1 = 1 then 13 else r.1)) fun _ => match openNd no r.2 with
 | some n => M.pure n
 | none => M.fail 13
def tWrite (n : Nd) : M TS Kd := if (ndPack n).2.2 ≠ 0 then M.fail 13 else
 M.bind mTake fun t => M.bind (mFail (if t.2 = 9 then 7 else t.2)) fun _ =>
 M.bind (mFail (pagePack t.1 (ndPack n).1 (ndPack n).2.1).2) fun _ =>
 M.bind (mPut t.1 (pagePack t.1 (ndPack n).1 (ndPack n).2.1).1) fun e => M.bind (mFail e) fun _ =>
 M.pure ⟨t.1, (ndSum n).1, (ndSum n).2.1, (ndSum n).2.2⟩
abbrev TTr : TypeId := 172
abbrev TFa : TypeId := 219
def treeA (t C S D : Nat) (s : TS) : Assn := Sl.block t TTr [.pointer (some ⟨C, 0, none⟩), .pointer (some ⟨S, 0, none⟩)] * (cacheP C D s.ck * spaceP S s.sp)
structure Th where
 t : Nat
 C : Nat
 S : Nat
 D : Nat
def treeP (h : Th) (s : TS) : Assn := pur (TsI s) * treeA h.t h.C h.S h.D s
theorem Sat.tree_open {h : Th} {s : TS} {F : Assn} {w : World} (hs : Sat (treeP h s * F) w) : TsI s ∧ Sat (treeA h.t h.C h.S h.D s * F) w := by
 unfold treeP at hs
 rw [sep_assoc] at hs
 exact hs.pur_open
theorem Sat.tree_shut {h : Th} {s : TS} {F : Assn} {w : World} (hi : TsI s) (hs : Sat (treeA h.t h.C h.S h.D s * F) w) : Sat (treeP h s * F) w := by
 unfold treeP
 rw [sep_assoc]
 exact hs.pur_shut hi
def faultC (e : Int) : List PanicEntry := [{ v := .iface TFa (.agg #[.int .i64 e]), recovered := false }]
def TEnds {α : Type} (h : Th) (G : Assn) (r : Res TS α) (R : α → Value → Assn → Prop) (e : Ending) (w' : World) : Prop := match r with
 | .ok a s => ∃ v B, e = .returned v ∧ R a v B ∧ Sat (treeP h s * (B * G)) w'
 | .fault n s => e = .panicked (faultC n) ∧ Sat (treeP h s * G) w'
 | .bad => False
end Go.Proofs.YtfhbmblbidcmmaaGreat
