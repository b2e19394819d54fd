/-
  CensusNil: the law, reckoned out.
-/
import Derived.Test.YteffkpgilmpbeaaGreatEv18a
import Derived.Test.YteffkpgilmpbeaaGreatEvp
namespace Go.Proofs.YteffkpgilmpbeaaGreat
open Go.Ev Go.RowKit
set_option maxRecDepth 1000000
noncomputable def hk18 : Hk := orHk (hkTrue 14) hkLib
theorem hk18_ok : HkOk Tryz.prog hk18 := orHk_ok (hkTrue_ok awake18_tru Tryz.call14) hkLib_ok
theorem censusNil_run : isTrueR (call evT evF hk18 100000 4 [.agg #[itv 0 18446744073709551615, itv 0 18446744073709551615]] (emp 0)) = true := by kernel_rfl
theorem censusNil_walk (a0 b0 : Int) (w : World) (h0 : (Lit.int .i64 a0).wf = true) (h1 : (Lit.int .i64 b0).wf = true) :
    Calls Tryz.prog 4 #[.agg #[.int .i64 a0, .int .i64 b0]] w fun e w' => e = .returned (.bool true) ∧ Below w.heap.size w w' := by
  have c0 := wf_bounds h0
  have c1 := wf_bounds h1
  have := same_of hk18_ok censusNil_run (args' := [.agg #[.int .i64 a0, .int .i64 b0]]) (.cons (.agg (.cons (rv_itv _ _ (by omega) (by omega)) (.cons (rv_itv _ _ (by omega) (by omega)) .nil))) .nil) w
  exact this.mono fun e w' ⟨x, s⟩ => ⟨x, s.below⟩
end Go.Proofs.YteffkpgilmpbeaaGreat
