/-
  SaverNil: the law, reckoned out.
-/
import Derived.Test.YtjclpdlijblpjaaGreatEv23a
namespace Go.Proofs.YtjclpdlijblpjaaGreat
open Go.Ev Go.RowKit
set_option maxRecDepth 1000000
noncomputable def hk23 : Hk := orHk (hkTrue 8) hkLib
theorem hk23_ok : HkOk Tryz.prog hk23 := orHk_ok (hkTrue_ok awake23_tru Tryz.call8) hkLib_ok
theorem saverNil_run : isTrueR (call evT evF hk23 100000 3 [itv 0 18446744073709551615] (emp 0)) = true := by kernel_rfl
theorem saverNil_walk (a0 : Int) (w : World) (h0 : (Lit.int .i64 a0).wf = true) :
    Calls Tryz.prog 3 #[.int .i64 a0] w fun e w' => e = .returned (.bool true) ∧ Below w.heap.size w w' := by
  have b0 := wf_bounds h0
  have := same_of hk23_ok saverNil_run (args' := [.int .i64 a0]) (.cons (rv_itv _ _ (by omega) (by omega)) .nil) w
  exact this.mono fun e w' ⟨x, s⟩ => ⟨x, s.below⟩
end Go.Proofs.YtjclpdlijblpjaaGreat
