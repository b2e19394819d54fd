/-
  LinesNil: the law, reckoned out.
-/
import Derived.Test.YteffkpgilmpbeaaGreatEv15a
namespace Go.Proofs.YteffkpgilmpbeaaGreat
open Go.Ev Go.RowKit
set_option maxRecDepth 1000000
noncomputable def hk15 : Hk := orHk (hkTrue 11) hkLib
theorem hk15_ok : HkOk Tryz.prog hk15 := orHk_ok (hkTrue_ok awake15_tru Tryz.call11) hkLib_ok
theorem linesNil_run : isTrueR (call evT evF hk15 100000 3 [itv 0 18446744073709551615, itv 0 18446744073709551615] (emp 0)) = true := by kernel_rfl
theorem linesNil_walk (a0 a1 : Int) (w : World) (h0 : (Lit.int .i64 a0).wf = true) (h1 : (Lit.int .i64 a1).wf = true) :
    Calls Tryz.prog 3 #[.int .i64 a0, .int .i64 a1] w fun e w' => e = .returned (.bool true) ∧ Below w.heap.size w w' := by
  have b0 := wf_bounds h0
  have b1 := wf_bounds h1
  have := same_of hk15_ok linesNil_run (args' := [.int .i64 a0, .int .i64 a1]) (.cons (rv_itv _ _ (by omega) (by omega)) (.cons (rv_itv _ _ (by omega) (by omega)) .nil)) w
  exact this.mono fun e w' ⟨x, s⟩ => ⟨x, s.below⟩
end Go.Proofs.YteffkpgilmpbeaaGreat
