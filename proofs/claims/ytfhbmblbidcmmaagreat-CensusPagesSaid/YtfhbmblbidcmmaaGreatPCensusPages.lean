/-
 CensusPages: for every input the law returns true, and each argument reads afterwards as it read before. No condition.
 (The frame is typed after the kit's proof-skeleton.mjs; the walk is ours.)
-/
import Derived.Test.YtfhbmblbidcmmaaGreatRows
import Derived.Test.YtfhbmblbidcmmaaGreatVa55
import Derived.WalkKit
import Derived.ProofKit
import Derived.OpenShut
import Derived.ShutString
import Derived.ChangeOld
import Derived.Below
namespace Go.Proofs.YtfhbmblbidcmmaaGreat.censusPages
open Go.ChangeShapes Go.WideShapes Go.ChangeAt Go.RowKit
open Go.ChangeMaps (open_string shut_string)
set_option linter.unusedVariables false
theorem own : ownKnob Tryz.prog.godebug = none := by kernel_rfl
theorem laidOut : laidOutB Tryz.prog = true := by kernel_rfl
theorem walk {H : Type} (enc : TypeId × Value → H) (x0 y0 : Value) (al1 : Option Addr) (len1 cap1 : Nat) (w : World) (r0 : (∃ fuel z, DataW.trod enc Tryz.prog w 0 (fun _ => true) true fuel 26 [x0] = some z) ∧ (∃ fuel z, DataW.trod enc Tryz.prog w 0 (fun _ => true) true fuel 26 [y0] = some z)) (r1 : ∃ fuel x, DataW.trod enc Tryz.prog w 0 (fun _ => true) true fuel 117 [.slice al1 len1 cap1] = some x) :
 Calls Tryz.prog 9 #[.agg #[x0, y0], .slice al1 len1 cap1] w fun e w' => e = .returned (.bool true) ∧ Below w.heap.size w w' := by
 obtain ⟨aO, nO, cO, O, rfl, hO⟩ := bytesL_in r0.1
 obtain ⟨aT, nT, cT, T, rfl, hT⟩ := bytesL_in r0.2
 obtain ⟨cs, rfl, hM, hM3, hM2⟩ := makes18_in r1
 exact censusPages_walk O T aO nO cO aT nT cT _ cs w (Sl.Reads.old hO) (Sl.Reads.old hT) hM hM2 hM3
set_option maxRecDepth 100000 in
theorem lifted (os : Os) (started : os.Started) (H : Type) (enc : TypeId × Value → H) :
 ReturnsInHanded {} Tryz.checked os 9 .any (Rows.censusPagesSpec.pre6 enc Tryz.prog Tryz.f9 Rows.censusPagesRow.domain false) (Rows.censusPagesSpec.post enc Tryz.prog Tryz.f9 false true false false) := by
 refine returnsInHanded_of_change (C := Tryz.checked) own started (by kernel_rfl) Tryz.func9
  (ChangeSpec.witness6 (enc := enc) (C := Tryz.checked) false ⟨#[], #[.agg #[.slice none 0 0, .slice none 0 0], .slice none 0 0], []⟩ 8 (by kernel_rfl) (by kernel_rfl) (by kernel_rfl) (by kernel_rfl)) ?_
 intro W base args ds gs before hval0 hW hcnd _
 have hval : ∀ (j : Nat) t v, Tryz.f9.params[j]? = some t → args[j]? = some v → Value.okWide Tryz.prog W .any base t v := hval0
 have hW' := hW
 obtain ⟨p, q, hA0, hV, rfl, hfz, hnd⟩ := hW
 have hA : DataW.TrodAll enc Tryz.prog W 0 (fun _ => true) true Tryz.f9.params.toList args.toList ds p := hA0
 rw [Tryz.params9] at hA hval
 obtain ⟨v0, vs0, d0, ds0, p0, q0, hargs, rfl, rfl, h0, t0⟩ := trodAll_cons hA
 obtain ⟨v1, vs1, d1, ds1, p1, q1, rfl, rfl, rfl, h1, t1⟩ := trodAll_cons t0
 obtain ⟨rfl, rfl, rfl⟩ := trodAll_nil t1
 obtain rfl : args = #[v0, v1] := by cases args; simp_all
 obtain ⟨rfl, rfl⟩ := trodVars_none hV
 have k0 := h0
 have lt0 : ∀ x ∈ p0, x.block < W.heap.size := by obtain ⟨m, hm⟩ := k0; exact DataW.trod_lt m _ _ _ hm
 obtain ⟨x0, y0, rfl, r0, u0⟩ := open_twoL Tryz.underlying116 rfl rfl (by kernel_rfl) (by kernel_rfl) (by kernel_rfl) (hval 0 116 v0 rfl rfl) h0
 obtain ⟨al1, len1, cap1, rfl⟩ := okWide_slice Tryz.underlying117 (hval 1 117 v1 rfl rfl)
 have k1 := h1
 have lt1 : ∀ x ∈ p1, x.block < W.heap.size := by obtain ⟨m, hm⟩ := k1; exact DataW.trod_lt m _ _ _ hm
 have r1 : ∃ fuel x, DataW.trod enc Tryz.prog W 0 (fun _ => true) true fuel 117 [.slice al1 len1 cap1] = some x := by obtain ⟨m, hm⟩ := h1; exact ⟨m, _, hm⟩
 clear hA0 hval0
 refine (walk enc x0 y0 al1 len1 cap1 W ⟨r0, u0⟩ r1).mono fun e W' ⟨he, bel⟩ => ?_
 subst he
 exact ⟨_, rfl, _, _, _, [], _, [], hW', trodAll_mk1 (shut_bool Tryz.underlying4 _), (trodAll_cons_mk (Below.trod laidOut (by kernel_rfl) (of_decide_eq_true (by kernel_rfl)) k0 bel lt0) (trodAll_cons_mk (Below.trod laidOut (by kernel_rfl) (of_decide_eq_true (by kernel_rfl)) k1 bel lt1) trodAll_mk0)), rfl, bel.frame _, fun h => by cases h⟩
set_option maxRecDepth 1000000 in
set_option maxHeartbeats 1000000000 in
theorem closed : joinedFacts Tryz.pinned.checked.prog 9 Tryz.f9 Rows.censusPagesSpec Rows.censusPagesRow = true := by
 unfold joinedFacts
 simp only [Bool.and_eq_true]
 repeat' apply And.intro
 all_goals (as_aux_lemma => kernel_rfl)
theorem over : Rows.censusPagesRow.holds Tryz.pinned (OpenSpec.ofChange Rows.censusPagesSpec) :=
 OpenClaim.holds_of_wide 9 Tryz.f9 rfl rfl rfl rfl rfl rfl rfl ⟨rfl, rfl, rfl, rfl, rfl⟩ rfl rfl rfl rfl rfl (by kernel_rfl) Tryz.func9 closed
  (of_decide_eq_true (by kernel_rfl)) (by unfold Func.isWrapper; first | (rw [if_pos (by decide +kernel)]; kernel_rfl) | (rw [if_neg (by decide +kernel)]; exact ⟨rfl, rfl⟩))
  (fun os started H enc _ => lifted os started H enc)
theorem proved : Rows.CensusPagesSaid := over
#print axioms proved
end Go.Proofs.YtfhbmblbidcmmaaGreat.censusPages
