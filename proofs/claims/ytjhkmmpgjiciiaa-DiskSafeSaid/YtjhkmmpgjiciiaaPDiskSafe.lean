/-
  DiskSafe: for every input the law returns true, and each argument reads afterwards as it read before. No condition.
  (The frame is typed after the kit's proof-skeleton.mjs; the walk is ours.)
-/
import Derived.Test.YtjhkmmpgjiciiaaRows
import Derived.Test.YtjhkmmpgjiciiaaLaw04k
import Derived.Test.YtjhkmmpgjiciiaaSkel9
import Derived.WalkKit
import Derived.ProofKit
import Derived.OpenShut
import Derived.ShutString
import Derived.ChangeOld
import Derived.Below
namespace Go.Proofs.Ytjhkmmpgjiciiaa.diskSafe
open Go.ChangeShapes Go.WideShapes Go.ChangeAt Go.RowKit
open Go.ChangeMaps (open_string shut_string)
set_option linter.unusedVariables false

theorem own : ownKnob Try.prog.godebug = none := by kernel_rfl
theorem laidOut : laidOutB Try.prog = true := by kernel_rfl

theorem walk {H : Type} (enc : TypeId × Value → H) (al0 : Option Addr) (len0 cap0 : Nat) (al1 : Option Addr) (len1 cap1 : Nat) (al2 : Option Addr) (len2 cap2 : Nat) (w : World) (r0 : ∃ fuel x, DataW.trod enc Try.prog w 0 (fun _ => true) true fuel 45 [.slice al0 len0 cap0] = some x) (r1 : ∃ fuel x, DataW.trod enc Try.prog w 0 (fun _ => true) true fuel 58 [.slice al1 len1 cap1] = some x) (r2 : ∃ fuel x, DataW.trod enc Try.prog w 0 (fun _ => true) true fuel 22 [.slice al2 len2 cap2] = some x) :
    Calls Try.prog 6 #[.slice al0 len0 cap0, .slice al1 len1 cap1, .slice al2 len2 cap2] w fun e w' => e = .returned (.bool true) ∧ Below w.heap.size w w' := by
  obtain ⟨l, h0⟩ := bytes_in r0
  obtain ⟨cs, h1, h2, h3, h4⟩ := calls04_in r1
  obtain ⟨zs, g1, g2, g3, _⟩ := picks_in r2
  exact diskSafe_walk _ l _ cs _ zs w h0 h1 (by omega) h4 g1 (by omega)

set_option maxRecDepth 100000 in
theorem lifted (os : Os) (started : os.Started) (H : Type) (enc : TypeId × Value → H) :
    ReturnsInHanded {} Try.checked os 6 .any (Rows.diskSafeSpec.pre6 enc Try.prog Try.f6 Rows.diskSafeRow.domain false) (Rows.diskSafeSpec.post enc Try.prog Try.f6 false true false false) := by
  refine returnsInHanded_of_change (C := Try.checked) own started (by kernel_rfl) Try.func6
    (ChangeSpec.witness6 (enc := enc) (C := Try.checked) false ⟨#[], #[.slice none 0 0, .slice none 0 0, .slice none 0 0], []⟩ 8 (by kernel_rfl) (by kernel_rfl) (by kernel_rfl) (by kernel_rfl)) ?_
  intro W base args ds gs before hval0 hW hcnd _
  have hval : ∀ (j : Nat) t v, Try.f6.params[j]? = some t → args[j]? = some v → Value.okWide Try.prog W .any base t v := hval0
  have hW' := hW
  obtain ⟨p, q, hA0, hV, rfl, hfz, hnd⟩ := hW
  have hA : DataW.TrodAll enc Try.prog W 0 (fun _ => true) true Try.f6.params.toList args.toList ds p := hA0
  rw [Try.params6] at hA hval
  obtain ⟨v0, vs0, d0, ds0, p0, q0, hargs, rfl, rfl, h0, t0⟩ := trodAll_cons hA
  obtain ⟨v1, vs1, d1, ds1, p1, q1, rfl, rfl, rfl, h1, t1⟩ := trodAll_cons t0
  obtain ⟨v2, vs2, d2, ds2, p2, q2, rfl, rfl, rfl, h2, t2⟩ := trodAll_cons t1
  obtain ⟨rfl, rfl, rfl⟩ := trodAll_nil t2
  obtain rfl : args = #[v0, v1, v2] := by cases args; simp_all
  obtain ⟨rfl, rfl⟩ := trodVars_none hV
  obtain ⟨al0, len0, cap0, rfl⟩ := okWide_slice Try.underlying45 (hval 0 45 v0 rfl rfl)
  have k0 := h0
  have lt0 : ∀ x ∈ p0, x.block < W.heap.size := by obtain ⟨m, hm⟩ := k0; exact DataW.trod_lt m _ _ _ hm
  have r0 : ∃ fuel x, DataW.trod enc Try.prog W 0 (fun _ => true) true fuel 45 [.slice al0 len0 cap0] = some x := by obtain ⟨m, hm⟩ := h0; exact ⟨m, _, hm⟩
  obtain ⟨al1, len1, cap1, rfl⟩ := okWide_slice Try.underlying58 (hval 1 58 v1 rfl rfl)
  have k1 := h1
  have lt1 : ∀ x ∈ p1, x.block < W.heap.size := by obtain ⟨m, hm⟩ := k1; exact DataW.trod_lt m _ _ _ hm
  have r1 : ∃ fuel x, DataW.trod enc Try.prog W 0 (fun _ => true) true fuel 58 [.slice al1 len1 cap1] = some x := by obtain ⟨m, hm⟩ := h1; exact ⟨m, _, hm⟩
  obtain ⟨al2, len2, cap2, rfl⟩ := okWide_slice Try.underlying22 (hval 2 22 v2 rfl rfl)
  have k2 := h2
  have lt2 : ∀ x ∈ p2, x.block < W.heap.size := by obtain ⟨m, hm⟩ := k2; exact DataW.trod_lt m _ _ _ hm
  have r2 : ∃ fuel x, DataW.trod enc Try.prog W 0 (fun _ => true) true fuel 22 [.slice al2 len2 cap2] = some x := by obtain ⟨m, hm⟩ := h2; exact ⟨m, _, hm⟩
  clear hA0 hval0
  refine (walk enc al0 len0 cap0 al1 len1 cap1 al2 len2 cap2 W r0 r1 r2).mono fun e W' ⟨he, bel⟩ => ?_
  subst he
  exact ⟨_, rfl, _, _, _, [], _, [], hW', trodAll_mk1 (shut_bool Try.underlying4 _), (trodAll_cons_mk (Below.trod laidOut (by kernel_rfl) (of_decide_eq_true (by kernel_rfl)) k0 bel lt0) (trodAll_cons_mk (Below.trod laidOut (by kernel_rfl) (of_decide_eq_true (by kernel_rfl)) k1 bel lt1) (trodAll_cons_mk (Below.trod laidOut (by kernel_rfl) (of_decide_eq_true (by kernel_rfl)) k2 bel lt2) trodAll_mk0))), rfl, bel.frame _, fun h => by cases h⟩

theorem over : Rows.diskSafeRow.holds Try.pinned (OpenSpec.ofChange Rows.diskSafeSpec) :=
  OpenClaim.holds_of_wide 6 Try.f6 rfl rfl rfl rfl rfl rfl rfl ⟨rfl, rfl, rfl, rfl, rfl⟩ rfl rfl rfl rfl rfl (by kernel_rfl) Try.func6 (by kernel_rfl)
    (of_decide_eq_true (by kernel_rfl)) (by unfold Func.isWrapper; first | (rw [if_pos (by decide +kernel)]; kernel_rfl) | (rw [if_neg (by decide +kernel)]; exact ⟨rfl, rfl⟩))
    (fun os started H enc _ => lifted os started H enc)

/-- THE STATEMENT -/
theorem proved : Rows.DiskSafeSaid := over
#print axioms proved
end Go.Proofs.Ytjhkmmpgjiciiaa.diskSafe
