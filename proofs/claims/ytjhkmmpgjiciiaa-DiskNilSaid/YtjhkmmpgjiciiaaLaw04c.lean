/-
  DiskNil: the walk.
-/
import Derived.Test.YtjhkmmpgjiciiaaLaw04b
namespace Go.Proofs.Ytjhkmmpgjiciiaa
set_option linter.unusedSimpArgs false
set_option linter.unusedVariables false
open Go.RowKit Go.Sl Go.Dk

set_option maxRecDepth 100000 in
set_option maxHeartbeats 400000 in
theorem nilRead (nm : ByteArray) (k n : Int) (w : World) :
    Calls Try.prog 35 #[.pointer none, .string nm, .int .i64 k, .int .i64 n] w fun e w' => e = .returned (.tuple #[.slice none 0 0, .int .i64 1]) ∧ w = w' := by
  go_enter Try.func35, Try.ntmps35
  go_wp2_with (go_at_call 73; refine (may_nil _ _ _).mono ?_; rintro e w' ⟨rfl, rfl⟩)
  go_ret2
  exact ⟨rfl, rfl⟩

set_option maxRecDepth 100000 in
set_option maxHeartbeats 400000 in
theorem nilWrite (nm : ByteArray) (k : Int) (a : Option Addr) (n c : Nat) (w : World) :
    Calls Try.prog 32 #[.pointer none, .string nm, .int .i64 k, .slice a n c] w fun e w' => e = .returned (.int .i64 1) ∧ w = w' := by
  go_enter Try.func32, Try.ntmps32
  go_wp2_with (go_at_call 73; refine (may_nil _ _ _).mono ?_; rintro e w' ⟨rfl, rfl⟩)
  go_ret
  exact ⟨rfl, rfl⟩

set_option maxRecDepth 100000 in
set_option maxHeartbeats 400000 in
theorem nilCut (nm : ByteArray) (n : Int) (w : World) :
    Calls Try.prog 47 #[.pointer none, .string nm, .int .i64 n] w fun e w' => e = .returned (.int .i64 1) ∧ w = w' := by
  go_enter Try.func47, Try.ntmps47
  go_wp2_with (go_at_call 73; refine (may_nil _ _ _).mono ?_; rintro e w' ⟨rfl, rfl⟩)
  go_ret
  exact ⟨rfl, rfl⟩

set_option maxRecDepth 100000 in
set_option maxHeartbeats 400000 in
theorem nilSync (nm : ByteArray) (w : World) :
    Calls Try.prog 33 #[.pointer none, .string nm] w fun e w' => e = .returned (.int .i64 1) ∧ w = w' := by
  go_enter Try.func33, Try.ntmps33
  go_wp2_with (go_at_call 73; refine (may_nil _ _ _).mono ?_; rintro e w' ⟨rfl, rfl⟩)
  go_ret
  exact ⟨rfl, rfl⟩

set_option maxRecDepth 100000 in
set_option maxHeartbeats 400000 in
theorem nilSize (nm : ByteArray) (w : World) :
    Calls Try.prog 36 #[.pointer none, .string nm] w fun e w' => e = .returned (.int .i64 (-1)) ∧ w = w' := by
  go_enter Try.func36, Try.ntmps36
  go_wp2_with (go_at_call 73; refine (may_nil _ _ _).mono ?_; rintro e w' ⟨rfl, rfl⟩)
  go_ret
  exact ⟨rfl, rfl⟩

set_option maxRecDepth 100000 in
set_option maxHeartbeats 400000 in
theorem nilLoad (nm : ByteArray) (a : Option Addr) (n c : Nat) (w : World) :
    Calls Try.prog 30 #[.pointer none, .string nm, .slice a n c] w fun e w' => e = .returned (.int .i64 1) ∧ w = w' := by
  go_enter Try.func30, Try.ntmps30
  go_wp2
  go_ret
  exact ⟨rfl, rfl⟩

set_option maxRecDepth 100000 in
set_option maxHeartbeats 400000 in
theorem nilNames  (w : World) :
    Calls Try.prog 48 #[.pointer none] w fun e w' => e = .returned (.slice none 0 0) ∧ w = w' := by
  go_enter Try.func48, Try.ntmps48
  go_wp2
  go_ret
  exact ⟨rfl, rfl⟩

set_option maxRecDepth 100000 in
set_option maxHeartbeats 400000 in
theorem nilFree  (w : World) :
    Calls Try.prog 45 #[.pointer none] w fun e w' => e = .returned (.int .i64 0) ∧ w = w' := by
  go_enter Try.func45, Try.ntmps45
  go_wp2
  go_ret
  exact ⟨rfl, rfl⟩

set_option maxRecDepth 100000 in
set_option maxHeartbeats 400000 in
theorem nilChanges  (w : World) :
    Calls Try.prog 50 #[.pointer none] w fun e w' => e = .returned (.int .i64 0) ∧ w = w' := by
  go_enter Try.func50, Try.ntmps50
  go_wp2
  go_ret
  exact ⟨rfl, rfl⟩

set_option maxRecDepth 100000 in
set_option maxHeartbeats 400000 in
theorem nilArm (n : Int) (w : World) :
    Calls Try.prog 51 #[.pointer none, .int .i64 n] w fun e w' => e = .returned (.int .i64 1) ∧ w = w' := by
  go_enter Try.func51, Try.ntmps51
  go_wp2
  go_ret
  exact ⟨rfl, rfl⟩

set_option maxRecDepth 100000 in
set_option maxHeartbeats 400000 in
theorem nilDown  (w : World) :
    Calls Try.prog 52 #[.pointer none] w fun e w' => e = .returned (.bool false) ∧ w = w' := by
  go_enter Try.func52, Try.ntmps52
  go_wp2
  go_ret
  exact ⟨rfl, rfl⟩

set_option maxRecDepth 100000 in
set_option maxHeartbeats 400000 in
theorem nilCrash (a : Option Addr) (n c : Nat) (w : World) :
    Calls Try.prog 34 #[.pointer none, .slice a n c] w fun e w' => e = .returned (.tuple #[]) ∧ w = w' := by
  go_enter Try.func34, Try.ntmps34
  go_wp2
  exact bodyPost_ret (v := .tuple #[]) (by simp [results, Try.results34, go_sem]) rfl ⟨rfl, rfl⟩

set_option maxRecDepth 100000 in
set_option maxHeartbeats 1000000 in
theorem diskNil_walk (nm : ByteArray) (n : Int) (w : World) :
    Calls Try.prog 12 #[.string nm, .int .i64 n] w fun e w' => e = .returned (.bool true) ∧ Below w.heap.size w w' := by
  have hs := (Sat.old_self w).alloc #[.int .i64 n] 3
  have haw := awake04 _ _ hs
  clear hs
  go_enter Try.func12, Try.ntmps12
  go_wp2_with fail
  refine (nilRead _ _ _ _).mono ?_
  rintro e w' ⟨rfl, rfl⟩
  go_wp2_with fail
  refine (nilCrash _ _ _ _).mono ?_
  rintro e w' ⟨rfl, rfl⟩
  go_wp2_with fail
  refine haw.mono ?_
  rintro e w1 ⟨rfl, hs1⟩
  clear haw
  go_wp2_with first
    | (go_at_call 32; refine (nilWrite _ _ _ _ _ _).mono ?_; rintro e w' ⟨rfl, rfl⟩)
    | (go_at_call 47; refine (nilCut _ _ _).mono ?_; rintro e w' ⟨rfl, rfl⟩)
    | (go_at_call 33; refine (nilSync _ _).mono ?_; rintro e w' ⟨rfl, rfl⟩)
    | (go_at_call 36; refine (nilSize _ _).mono ?_; rintro e w' ⟨rfl, rfl⟩)
    | (go_at_call 30; refine (nilLoad _ _ _ _ _).mono ?_; rintro e w' ⟨rfl, rfl⟩)
    | (go_at_call 48; refine (nilNames _).mono ?_; rintro e w' ⟨rfl, rfl⟩)
    | (go_at_call 45; refine (nilFree _).mono ?_; rintro e w' ⟨rfl, rfl⟩)
    | (go_at_call 50; refine (nilChanges _).mono ?_; rintro e w' ⟨rfl, rfl⟩)
    | (go_at_call 51; refine (nilArm _ _).mono ?_; rintro e w' ⟨rfl, rfl⟩)
    | (go_at_call 52; refine (nilDown _).mono ?_; rintro e w' ⟨rfl, rfl⟩)
  go_ret
  exact ⟨rfl, (hs1.take (old w)).old_below⟩

end Go.Proofs.Ytjhkmmpgjiciiaa
