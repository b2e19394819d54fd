/-
  CacheSafe: for every input the law returns true, and each argument reads afterwards as it read before. No condition.
  (The frame is typed after the kit's proof-skeleton.mjs; the walk is ours.)
-/
import Derived.Test.YtjhkmmpgjiciiaaRows
import Derived.Test.YtjhkmmpgjiciiaaLaw07e
import Derived.Test.YtjhkmmpgjiciiaaSkel7
import Derived.WalkKit
import Derived.ProofKit
import Derived.OpenShut
import Derived.ShutString
import Derived.ChangeOld
import Derived.Below
namespace Go.Proofs.Ytjhkmmpgjiciiaa.cacheSafe
open Go.ChangeShapes Go.WideShapes Go.ChangeAt Go.RowKit
open Go.ChangeMaps (open_string shut_string)
set_option linter.unusedVariables false

theorem own : ownKnob Try.prog.godebug = none := by kernel_rfl
theorem laidOut : laidOutB Try.prog = true := by kernel_rfl

theorem walk {H : Type} (enc : TypeId × Value → H) (a0 : Int) (al1 : Option Addr) (len1 cap1 : Nat) (al2 : Option Addr) (len2 cap2 : Nat) (al3 : Option Addr) (len3 cap3 : Nat) (w : World) (w0 : (Lit.int .i64 a0).wf = true) (r1 : ∃ fuel x, DataW.trod enc Try.prog w 0 (fun _ => true) true fuel 89 [.slice al1 len1 cap1] = some x) (r2 : ∃ fuel x, DataW.trod enc Try.prog w 0 (fun _ => true) true fuel 89 [.slice al2 len2 cap2] = some x) (r3 : ∃ fuel x, DataW.trod enc Try.prog w 0 (fun _ => true) true fuel 22 [.slice al3 len3 cap3] = some x) :
    Calls Try.prog 15 #[.int .i64 a0, .slice al1 len1 cap1, .slice al2 len2 cap2, .slice al3 len3 cap3] w fun e w' => e = .returned (.bool true) ∧ Below w.heap.size w w' := by
  obtain ⟨cs, h1, h2, h3, _⟩ := calls07_in r1
  obtain ⟨ds, g1, g2, g3, _⟩ := calls07_in r2
  obtain ⟨zs, k1, k2, k3, _⟩ := picks_in r3
  exact cacheSafe_walk a0 _ _ _ cs ds zs w h1 g1 k1 (by omega) (by omega) (by omega)

set_option maxRecDepth 100000 in
theorem lifted (os : Os) (started : os.Started) (H : Type) (enc : TypeId × Value → H) :
    ReturnsInHanded {} Try.checked os 15 .any (Rows.cacheSafeSpec.pre6 enc Try.prog Try.f15 Rows.cacheSafeRow.domain false) (Rows.cacheSafeSpec.post enc Try.prog Try.f15 false true false false) := by
  refine returnsInHanded_of_change (C := Try.checked) own started (by kernel_rfl) Try.func15
    (ChangeSpec.witness6 (enc := enc) (C := Try.checked) false ⟨#[], #[.int .i64 0, .slice none 0 0, .slice none 0 0, .slice none 0 0], []⟩ 8 (by kernel_rfl) (by kernel_rfl) (by kernel_rfl) (by kernel_rfl)) ?_
  intro W base args ds gs before hval0 hW hcnd _
  have hval : ∀ (j : Nat) t v, Try.f15.params[j]? = some t → args[j]? = some v → Value.okWide Try.prog W .any base t v := hval0
  have hW' := hW
  obtain ⟨p, q, hA0, hV, rfl, hfz, hnd⟩ := hW
  have hA : DataW.TrodAll enc Try.prog W 0 (fun _ => true) true Try.f15.params.toList args.toList ds p := hA0
  rw [Try.params15] at hA hval
  obtain ⟨v0, vs0, d0, ds0, p0, q0, hargs, rfl, rfl, h0, t0⟩ := trodAll_cons hA
  obtain ⟨v1, vs1, d1, ds1, p1, q1, rfl, rfl, rfl, h1, t1⟩ := trodAll_cons t0
  obtain ⟨v2, vs2, d2, ds2, p2, q2, rfl, rfl, rfl, h2, t2⟩ := trodAll_cons t1
  obtain ⟨v3, vs3, d3, ds3, p3, q3, rfl, rfl, rfl, h3, t3⟩ := trodAll_cons t2
  obtain ⟨rfl, rfl, rfl⟩ := trodAll_nil t3
  obtain rfl : args = #[v0, v1, v2, v3] := by cases args; simp_all
  obtain ⟨rfl, rfl⟩ := trodVars_none hV
  obtain ⟨a0, rfl, rfl, rfl, w0⟩ := open_int Try.underlying3 (hval 0 3 v0 rfl rfl) h0
  obtain ⟨al1, len1, cap1, rfl⟩ := okWide_slice Try.underlying89 (hval 1 89 v1 rfl rfl)
  have k1 := h1
  have lt1 : ∀ x ∈ p1, x.block < W.heap.size := by obtain ⟨m, hm⟩ := k1; exact DataW.trod_lt m _ _ _ hm
  have r1 : ∃ fuel x, DataW.trod enc Try.prog W 0 (fun _ => true) true fuel 89 [.slice al1 len1 cap1] = some x := by obtain ⟨m, hm⟩ := h1; exact ⟨m, _, hm⟩
  obtain ⟨al2, len2, cap2, rfl⟩ := okWide_slice Try.underlying89 (hval 2 89 v2 rfl rfl)
  have k2 := h2
  have lt2 : ∀ x ∈ p2, x.block < W.heap.size := by obtain ⟨m, hm⟩ := k2; exact DataW.trod_lt m _ _ _ hm
  have r2 : ∃ fuel x, DataW.trod enc Try.prog W 0 (fun _ => true) true fuel 89 [.slice al2 len2 cap2] = some x := by obtain ⟨m, hm⟩ := h2; exact ⟨m, _, hm⟩
  obtain ⟨al3, len3, cap3, rfl⟩ := okWide_slice Try.underlying22 (hval 3 22 v3 rfl rfl)
  have k3 := h3
  have lt3 : ∀ x ∈ p3, x.block < W.heap.size := by obtain ⟨m, hm⟩ := k3; exact DataW.trod_lt m _ _ _ hm
  have r3 : ∃ fuel x, DataW.trod enc Try.prog W 0 (fun _ => true) true fuel 22 [.slice al3 len3 cap3] = some x := by obtain ⟨m, hm⟩ := h3; exact ⟨m, _, hm⟩
  clear hA0 hval0
  refine (walk enc a0 al1 len1 cap1 al2 len2 cap2 al3 len3 cap3 W w0 r1 r2 r3).mono fun e W' ⟨he, bel⟩ => ?_
  subst he
  exact ⟨_, rfl, _, _, _, [], _, [], hW', trodAll_mk1 (shut_bool Try.underlying4 _), (trodAll_cons_mk (shut_int Try.underlying3 w0) (trodAll_cons_mk (Below.trod laidOut (by kernel_rfl) (of_decide_eq_true (by kernel_rfl)) k1 bel lt1) (trodAll_cons_mk (Below.trod laidOut (by kernel_rfl) (of_decide_eq_true (by kernel_rfl)) k2 bel lt2) (trodAll_cons_mk (Below.trod laidOut (by kernel_rfl) (of_decide_eq_true (by kernel_rfl)) k3 bel lt3) trodAll_mk0)))), rfl, bel.frame _, fun h => by cases h⟩

theorem over : Rows.cacheSafeRow.holds Try.pinned (OpenSpec.ofChange Rows.cacheSafeSpec) :=
  OpenClaim.holds_of_wide 15 Try.f15 rfl rfl rfl rfl rfl rfl rfl ⟨rfl, rfl, rfl, rfl, rfl⟩ rfl rfl rfl rfl rfl (by kernel_rfl) Try.func15 (by kernel_rfl)
    (of_decide_eq_true (by kernel_rfl)) (by unfold Func.isWrapper; first | (rw [if_pos (by decide +kernel)]; kernel_rfl) | (rw [if_neg (by decide +kernel)]; exact ⟨rfl, rfl⟩))
    (fun os started H enc _ => lifted os started H enc)

/-- THE STATEMENT -/
theorem proved : Rows.CacheSafeSaid := over
#print axioms proved
end Go.Proofs.Ytjhkmmpgjiciiaa.cacheSafe
