/-
  ScriptNil, reckoned out, whatever the line is.
-/
import Derived.Test.YtbbnikchdddpoaaGreatDoorEv25a
namespace Go.Proofs.YtbbnikchdddpoaaGreatDoor
open Go.Ev Go.RowKit
set_option maxRecDepth 1000000
noncomputable def kn25 : Hk Empty := orHk (hkTrue 5) hkLib
theorem kn25_ok : HkOk Tryz.prog kn25 := orHk_ok (hkTrue_ok awake25_tru Tryz.call5) hkLib_ok
theorem scriptNil_run (s : ByteArray) : isTrueR (call evT evF kn25 100000 3 [.string s] (emp 0)) = true := by kernel_rfl
theorem scriptNil_walk (s : ByteArray) (w : World) : Calls Tryz.prog 3 #[.string s] w fun e w' => e = .returned (.bool true) ∧ Below w.heap.size w w' :=
  (same_of kn25_ok (scriptNil_run s) (.cons (.scal rfl) .nil) w).mono fun e w' ⟨he, hs⟩ => ⟨he, hs.below⟩
end Go.Proofs.YtbbnikchdddpoaaGreatDoor
