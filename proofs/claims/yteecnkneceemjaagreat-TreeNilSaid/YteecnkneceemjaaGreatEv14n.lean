/-
  TreeNil: the law, reckoned out.
-/
import Derived.Test.YteecnkneceemjaaGreatEv14a
namespace Go.Proofs.YteecnkneceemjaaGreat
open Go.Ev Go.RowKit
set_option maxRecDepth 1000000
def hk14 : Hk := orHk (hkTrue 11) (hkCrc 138)
theorem hk14_ok : HkOk Tryz.prog hk14 := orHk_ok (hkTrue_ok awake14_tru Tryz.call11) hkCrc_ok
theorem treeNil_lo : isTrueR (call evT evF hk14 100000 7 [itv 0 9223372036854775807, itv 0 18446744073709551615] (emp 0)) = true := by kernel_rfl
theorem treeNil_mid : isTrueR (call evT evF hk14 100000 7 [itv 9223372036854775808 9223372036855824383, itv 0 18446744073709551615] (emp 0)) = true := by kernel_rfl
theorem treeNil_hi : isTrueR (call evT evF hk14 100000 7 [itv 9223372036855824384 18446744073709551615, itv 0 18446744073709551615] (emp 0)) = true := by kernel_rfl
theorem treeNil_walk (a0 a1 : Int) (w : World) (h0 : (Lit.int .i64 a0).wf = true) (h1 : (Lit.int .i64 a1).wf = true) :
    Calls Tryz.prog 7 #[.int .i64 a0, .int .i64 a1] w fun e w' => e = .returned (.bool true) ∧ Below w.heap.size w w' := by
  have b0 := wf_bounds h0
  have b1 := wf_bounds h1
  have r1 : RV (fun _ => none) (itv 0 18446744073709551615) (.int .i64 a1) := rv_itv _ _ (by omega) (by omega)
  have fin : ∀ {lo hi : Nat}, isTrueR (call evT evF hk14 100000 7 [itv lo hi, itv 0 18446744073709551615] (emp 0)) = true → (lo : Int) ≤ a0 + 9223372036854775808 → a0 + 9223372036854775808 ≤ (hi : Int) →
      Calls Tryz.prog 7 #[.int .i64 a0, .int .i64 a1] w fun e w' => e = .returned (.bool true) ∧ Below w.heap.size w w' := by
    intro lo hi e l1 l2
    have := same_of hk14_ok e (args' := [.int .i64 a0, .int .i64 a1]) (.cons (rv_itv _ _ l1 l2) (.cons r1 .nil)) w
    exact this.mono fun e w' ⟨x, s⟩ => ⟨x, s.below⟩
  by_cases c1 : a0 < 0
  · exact fin treeNil_lo (by omega) (by omega)
  · by_cases c2 : a0 < 1048576
    · exact fin treeNil_mid (by omega) (by omega)
    · exact fin treeNil_hi (by omega) (by omega)
end Go.Proofs.YteecnkneceemjaaGreat
