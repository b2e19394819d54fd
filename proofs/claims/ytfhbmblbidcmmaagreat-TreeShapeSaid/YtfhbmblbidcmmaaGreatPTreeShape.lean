/-
 TreeShape: for every input the law returns true, and each argument reads afterwards as it read before. No condition.
 (The frame is typed after the kit's proof-skeleton.mjs; the walk is ours.)
-/
import Derived.Test.YtfhbmblbidcmmaaGreatRows
import Derived.Test.YtfhbmblbidcmmaaGreatSk55
import Derived.WalkKit
import Derived.ProofKit
import Derived.OpenShut
import Derived.ShutString
import Derived.ChangeOld
import Derived.Below
namespace Go.Proofs.YtfhbmblbidcmmaaGreat.treeShape
open Go.ChangeShapes Go.WideShapes Go.ChangeAt Go.RowKit
open Go.ChangeMaps (open_string shut_string)
set_option linter.unusedVariables false
theorem own : ownKnob Tryz.prog.godebug = none := by kernel_rfl
theorem laidOut : laidOutB Tryz.prog = true := by kernel_rfl
theorem walk {H : Type} (enc : TypeId × Value → H) (al0 : Option Addr) (len0 cap0 : Nat) (w : World) (r0 : ∃ fuel x, DataW.trod enc Tryz.prog w 0 (fun _ => true) true fuel 101 [.slice al0 len0 cap0] = some x) :
 Calls Tryz.prog 8 #[.slice al0 len0 cap0] w fun e w' => e = .returned (.bool true) ∧ Below w.heap.size w w' := by
 obtain ⟨cs, h1, h2, h3, h4⟩ := calls14_in r0
 subst h2
 exact treeShape_walk _ cs w h1 h3 h4
set_option maxRecDepth 100000 in
theorem lifted (os : Os) (started : os.Started) (H : Type) (enc : TypeId × Value → H) :
 ReturnsInHanded {} Tryz.checked os 8 .any (Rows.treeShapeSpec.pre6 enc Tryz.prog Tryz.f8 Rows.treeShapeRow.domain false) (Rows.treeShapeSpec.post enc Tryz.prog Tryz.f8 false true false false) := by
 refine returnsInHanded_of_change (C := Tryz.checked) own started (by kernel_rfl) Tryz.func8
  (ChangeSpec.witness6 (enc := enc) (C := Tryz.checked) false ⟨#[], #[.slice none 0 0], []⟩ 8 (by kernel_rfl) (by kernel_rfl) (by kernel_rfl) (by kernel_rfl)) ?_
 intro W base args ds gs before hval0 hW hcnd _
 have hval : ∀ (j : Nat) t v, Tryz.f8.params[j]? = some t → args[j]? = some v → Value.okWide Tryz.prog W .any base t v := hval0
 have hW' := hW
 obtain ⟨p, q, hA0, hV, rfl, hfz, hnd⟩ := hW
 have hA : DataW.TrodAll enc Tryz.prog W 0 (fun _ => true) true Tryz.f8.params.toList args.toList ds p := hA0
 rw [Tryz.params8] at hA hval
 obtain ⟨v0, vs0, d0, ds0, p0, q0, hargs, rfl, rfl, h0, t0⟩ := trodAll_cons hA
 obtain ⟨rfl, rfl, rfl⟩ := trodAll_nil t0
 obtain rfl : args = #[v0] := by cases args; simp_all
 obtain ⟨rfl, rfl⟩ := trodVars_none hV
 obtain ⟨al0, len0, cap0, rfl⟩ := okWide_slice Tryz.underlying101 (hval 0 101 v0 rfl rfl)
 have k0 := h0
 have lt0 : ∀ x ∈ p0, x.block < W.heap.size := by obtain ⟨m, hm⟩ := k0; exact DataW.trod_lt m _ _ _ hm
 have r0 : ∃ fuel x, DataW.trod enc Tryz.prog W 0 (fun _ => true) true fuel 101 [.slice al0 len0 cap0] = some x := by obtain ⟨m, hm⟩ := h0; exact ⟨m, _, hm⟩
 clear hA0 hval0
 refine (walk enc al0 len0 cap0 W r0).mono fun e W' ⟨he, bel⟩ => ?_
 subst he
 exact ⟨_, rfl, _, _, _, [], _, [], hW', trodAll_mk1 (shut_bool Tryz.underlying4 _), (trodAll_cons_mk (Below.trod laidOut (by kernel_rfl) (of_decide_eq_true (by kernel_rfl)) k0 bel lt0) trodAll_mk0), rfl, bel.frame _, fun h => by cases h⟩
set_option maxRecDepth 1000000 in
set_option maxHeartbeats 1000000000 in
theorem closed : joinedFacts Tryz.pinned.checked.prog 8 Tryz.f8 Rows.treeShapeSpec Rows.treeShapeRow = true := by
 unfold joinedFacts
 simp only [Bool.and_eq_true]
 repeat' apply And.intro
 all_goals (as_aux_lemma => kernel_rfl)
theorem over : Rows.treeShapeRow.holds Tryz.pinned (OpenSpec.ofChange Rows.treeShapeSpec) :=
 OpenClaim.holds_of_wide 8 Tryz.f8 rfl rfl rfl rfl rfl rfl rfl ⟨rfl, rfl, rfl, rfl, rfl⟩ rfl rfl rfl rfl rfl (by kernel_rfl) Tryz.func8 closed
  (of_decide_eq_true (by kernel_rfl)) (by unfold Func.isWrapper; first | (rw [if_pos (by decide +kernel)]; kernel_rfl) | (rw [if_neg (by decide +kernel)]; exact ⟨rfl, rfl⟩))
  (fun os started H enc _ => lifted os started H enc)
theorem proved : Rows.TreeShapeSaid := over
#print axioms proved
end Go.Proofs.YtfhbmblbidcmmaaGreat.treeShape
