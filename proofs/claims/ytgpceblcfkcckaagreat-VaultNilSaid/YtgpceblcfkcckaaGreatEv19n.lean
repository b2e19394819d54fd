/-
  VaultNil: the law, reckoned out.
-/
import Derived.Test.YtgpceblcfkcckaaGreatEv19a
namespace Go.Proofs.YtgpceblcfkcckaaGreat
open Go.Ev Go.RowKit
set_option maxRecDepth 1000000
noncomputable def hk19 : Hk := orHk (hkTrue 7) hkLib
theorem hk19_ok : HkOk Tryz.prog hk19 := orHk_ok (hkTrue_ok awake19_tru Tryz.call7) hkLib_ok
noncomputable def any64 : Value := itv 0 18446744073709551615
theorem vaultNil_run0 : isTrueR (call evT evF hk19 100000 3 [any64, itv 0 9223372036854775811] (emp 0)) = true := by kernel_rfl
theorem vaultNil_run1 : isTrueR (call evT evF hk19 100000 3 [any64, itv 9223372036854775812 9223372036854779904] (emp 0)) = true := by kernel_rfl
theorem vaultNil_run2 : isTrueR (call evT evF hk19 100000 3 [any64, itv 9223372036854779905 18446744073709551615] (emp 0)) = true := by kernel_rfl
theorem vaultNil_walk (a0 a1 : Int) (w : World) (h0 : (Lit.int .i64 a0).wf = true) (h1 : (Lit.int .i64 a1).wf = true) :
    Calls Tryz.prog 3 #[.int .i64 a0, .int .i64 a1] w fun e w' => e = .returned (.bool true) ∧ Below w.heap.size w w' := by
  have b0 := wf_bounds h0
  have b1 := wf_bounds h1
  have r0 : RV (fun _ => none) any64 (.int .i64 a0) := rv_itv _ _ (by omega) (by omega)
  have fin : ∀ {l2 u2 : Nat}, isTrueR (call evT evF hk19 100000 3 [any64, itv l2 u2] (emp 0)) = true → (l2 : Int) ≤ a1 + 9223372036854775808 → a1 + 9223372036854775808 ≤ (u2 : Int) →
      Calls Tryz.prog 3 #[.int .i64 a0, .int .i64 a1] w fun e w' => e = .returned (.bool true) ∧ Below w.heap.size w w' := by
    intro l2 u2 e x1 x2
    have := same_of hk19_ok e (args' := [.int .i64 a0, .int .i64 a1]) (.cons r0 (.cons (rv_itv _ _ x1 x2) .nil)) w
    exact this.mono fun e w' ⟨x, s⟩ => ⟨x, s.below⟩
  have c2 : a1 ≤ 3 ∨ (4 ≤ a1 ∧ a1 ≤ 4096) ∨ 4097 ≤ a1 := by omega
  rcases c2 with c2 | ⟨c2, c2'⟩ | c2
  · exact fin vaultNil_run0 (by omega) (by omega)
  · exact fin vaultNil_run1 (by omega) (by omega)
  · exact fin vaultNil_run2 (by omega) (by omega)
end Go.Proofs.YtgpceblcfkcckaaGreat
