/-
  EditorNil: the law, reckoned out.
-/
import Derived.Test.YtjclpdlijblpjaaGreatEv24a
namespace Go.Proofs.YtjclpdlijblpjaaGreat
open Go.Ev Go.RowKit
set_option maxRecDepth 1000000
noncomputable def hk24 : Hk := orHk (hkTrue 14) hkLib
theorem hk24_ok : HkOk Tryz.prog hk24 := orHk_ok (hkTrue_ok awake24_tru Tryz.call14) hkLib_ok
noncomputable def any64 : Value := itv 0 18446744073709551615
theorem editorNil_run00 : isTrueR (call evT evF hk24 100000 4 [any64, any64, itv 0 9223372036854775811, itv 0 9223372036854775808] (emp 0)) = true := by kernel_rfl
theorem editorNil_run01 : isTrueR (call evT evF hk24 100000 4 [any64, any64, itv 0 9223372036854775811, itv 9223372036854775809 9223372036854775824] (emp 0)) = true := by kernel_rfl
theorem editorNil_run02 : isTrueR (call evT evF hk24 100000 4 [any64, any64, itv 0 9223372036854775811, itv 9223372036854775825 18446744073709551615] (emp 0)) = true := by kernel_rfl
theorem editorNil_run10 : isTrueR (call evT evF hk24 100000 4 [any64, any64, itv 9223372036854775812 9223372036854779904, itv 0 9223372036854775808] (emp 0)) = true := by kernel_rfl
theorem editorNil_run11 : isTrueR (call evT evF hk24 100000 4 [any64, any64, itv 9223372036854775812 9223372036854779904, itv 9223372036854775809 9223372036854775824] (emp 0)) = true := by kernel_rfl
theorem editorNil_run12 : isTrueR (call evT evF hk24 100000 4 [any64, any64, itv 9223372036854775812 9223372036854779904, itv 9223372036854775825 18446744073709551615] (emp 0)) = true := by kernel_rfl
theorem editorNil_run20 : isTrueR (call evT evF hk24 100000 4 [any64, any64, itv 9223372036854779905 18446744073709551615, itv 0 9223372036854775808] (emp 0)) = true := by kernel_rfl
theorem editorNil_run21 : isTrueR (call evT evF hk24 100000 4 [any64, any64, itv 9223372036854779905 18446744073709551615, itv 9223372036854775809 9223372036854775824] (emp 0)) = true := by kernel_rfl
theorem editorNil_run22 : isTrueR (call evT evF hk24 100000 4 [any64, any64, itv 9223372036854779905 18446744073709551615, itv 9223372036854775825 18446744073709551615] (emp 0)) = true := by kernel_rfl
theorem editorNil_walk (a0 a1 a2 a3 : Int) (w : World) (h0 : (Lit.int .i64 a0).wf = true) (h1 : (Lit.int .i64 a1).wf = true) (h2 : (Lit.int .i64 a2).wf = true) (h3 : (Lit.int .i64 a3).wf = true) :
    Calls Tryz.prog 4 #[.int .i64 a0, .int .i64 a1, .int .i64 a2, .int .i64 a3] w fun e w' => e = .returned (.bool true) ∧ Below w.heap.size w w' := by
  have b0 := wf_bounds h0
  have b1 := wf_bounds h1
  have b2 := wf_bounds h2
  have b3 := wf_bounds h3
  have r0 : RV (fun _ => none) any64 (.int .i64 a0) := rv_itv _ _ (by omega) (by omega)
  have r1 : RV (fun _ => none) any64 (.int .i64 a1) := rv_itv _ _ (by omega) (by omega)
  have fin : ∀ {l2 u2 l3 u3 : Nat}, isTrueR (call evT evF hk24 100000 4 [any64, any64, itv l2 u2, itv l3 u3] (emp 0)) = true → (l2 : Int) ≤ a2 + 9223372036854775808 → a2 + 9223372036854775808 ≤ (u2 : Int) → (l3 : Int) ≤ a3 + 9223372036854775808 → a3 + 9223372036854775808 ≤ (u3 : Int) →
      Calls Tryz.prog 4 #[.int .i64 a0, .int .i64 a1, .int .i64 a2, .int .i64 a3] w fun e w' => e = .returned (.bool true) ∧ Below w.heap.size w w' := by
    intro l2 u2 l3 u3 e x1 x2 x3 x4
    have := same_of hk24_ok e (args' := [.int .i64 a0, .int .i64 a1, .int .i64 a2, .int .i64 a3]) (.cons r0 (.cons r1 (.cons (rv_itv _ _ x1 x2) (.cons (rv_itv _ _ x3 x4) .nil)))) w
    exact this.mono fun e w' ⟨x, s⟩ => ⟨x, s.below⟩
  have c2 : a2 ≤ 3 ∨ (4 ≤ a2 ∧ a2 ≤ 4096) ∨ 4097 ≤ a2 := by omega
  have c3 : a3 ≤ 0 ∨ (1 ≤ a3 ∧ a3 ≤ 16) ∨ 17 ≤ a3 := by omega
  rcases c2 with c2 | ⟨c2, c2'⟩ | c2 <;> rcases c3 with c3 | ⟨c3, c3'⟩ | c3
  · exact fin editorNil_run00 (by omega) (by omega) (by omega) (by omega)
  · exact fin editorNil_run01 (by omega) (by omega) (by omega) (by omega)
  · exact fin editorNil_run02 (by omega) (by omega) (by omega) (by omega)
  · exact fin editorNil_run10 (by omega) (by omega) (by omega) (by omega)
  · exact fin editorNil_run11 (by omega) (by omega) (by omega) (by omega)
  · exact fin editorNil_run12 (by omega) (by omega) (by omega) (by omega)
  · exact fin editorNil_run20 (by omega) (by omega) (by omega) (by omega)
  · exact fin editorNil_run21 (by omega) (by omega) (by omega) (by omega)
  · exact fin editorNil_run22 (by omega) (by omega) (by omega) (by omega)
end Go.Proofs.YtjclpdlijblpjaaGreat
