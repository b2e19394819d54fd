/-
  LinesLazy: for every input the law returns true, and each argument reads afterwards as it read before. No condition.
  (The frame is typed after the kit's proof-skeleton.mjs; the walk is ours.)
-/
import Derived.Test.YtfhbmblbidcmmaaGreatRows
import Derived.Test.YtfhbmblbidcmmaaGreatRm1
import Derived.Test.YtfhbmblbidcmmaaGreatRl53
import Derived.WalkKit
import Derived.SizedLaws
import Derived.ChangeArms
import Derived.ProofKit
import Derived.OpenShut
import Derived.ShutString
import Derived.ChangeOld
import Derived.Below
namespace Go.Proofs.YtfhbmblbidcmmaaGreat.linesLazy
open Go.ChangeShapes Go.WideShapes Go.ChangeAt Go.RowKit
open Go.ChangeMaps (open_string shut_string)
set_option linter.unusedVariables false

theorem own : ownKnob Tryz.prog.godebug = none := by kernel_rfl
theorem sized_part {H : Type} {enc : TypeId × Value → H} {P : Program} {w : World} {base : Nat} {spare : Nat → Bool} {held : Bool} {t e : TypeId} {al : Option Addr} {len cap : Nat} {d : DataW H} {ps : List MemPlace} {ts : List TypeId} {ds : List (DataW H)} (hu : P.underlying t = some (.slice e)) (hb : P.bytesOf e = 32)
    (hsz : (DataW.weightsEach P ts ds).all (· ≤ reachBytes) = true) {j : Nat} (ht : ts[j]? = some t) (hd : ds[j]? = some d) (h : DataW.Trod enc P w base spare held t (.slice al len cap) d ps) : len * 32 ≤ 140737488355328 := by
  obtain ⟨fuel, h⟩ := h
  have h : DataW.trod enc P w base spare held fuel t [.slice al len cap] = some (d, ps) := h
  rcases DataW.trod_slice hu h with ⟨h1, h2⟩ | ⟨a, l, c, elems, rest, n, _, h1, h2, _, _, _, h3, _⟩
  · simp only [List.cons.injEq, Value.slice.injEq, and_true] at h1
    omega
  · simp only [List.cons.injEq, Value.slice.injEq, and_true] at h1
    simp only [Prod.mk.injEq] at h2
    obtain ⟨rfl, _⟩ := h2
    have hq := sized_slice hsz ht hd hu
    have hr := reachBytes_lt
    rw [hb] at hq
    simp only [List.length_map] at hq
    have h9 : len = l := h1.2.1
    rw [h3] at hq
    have hm : l * 32 ≤ (l + rest.length) * 32 := Nat.mul_le_mul_right 32 (Nat.le_add_right _ _)
    rw [h9]
    omega

theorem laidOut : laidOutB Tryz.prog = true := by kernel_rfl

theorem walk {H : Type} (enc : TypeId × Value → H) (x0 y0 : Value) (al1 : Option Addr) (len1 cap1 : Nat) (w : World) (r0 : (∃ fuel z, DataW.trod enc Tryz.prog w 0 (fun _ => true) true fuel 26 [x0] = some z) ∧ (∃ fuel z, DataW.trod enc Tryz.prog w 0 (fun _ => true) true fuel 26 [y0] = some z)) (r1 : ∃ fuel x, DataW.trod enc Tryz.prog w 0 (fun _ => true) true fuel 53 [.slice al1 len1 cap1] = some x) (q1 : len1 * 32 ≤ 140737488355328) :
    Calls Tryz.prog 5 #[.agg #[x0, y0], .slice al1 len1 cap1] w fun e w' => e = .returned (.bool true) ∧ Below w.heap.size w w' := by
  obtain ⟨aO, nO, cO, O, rfl, hO⟩ := bytesL_in r0.1
  obtain ⟨aT, nT, cT, T, rfl, hT⟩ := bytesL_in r0.2
  obtain ⟨ps, rfl, hP⟩ := partsL_in r1
  refine (linesLazy_walk O T aO aT nO cO nT cT _ cap1 ps (Sl.old w) 1 w (Sl.Reads.old hO) (Sl.Reads.old hT) hP q1 ((Sl.Sat.old_self w).eq (Sl.sep_one _).symm)).mono ?_
  rintro e w' ⟨h1, h2⟩
  exact ⟨h1, h2.old_below⟩

set_option maxRecDepth 100000 in
theorem lifted (os : Os) (started : os.Started) (H : Type) (enc : TypeId × Value → H) :
    ReturnsInHanded {} Tryz.checked os 5 .any (Rows.linesLazySpec.pre6 enc Tryz.prog Tryz.f5 Rows.linesLazyRow.domain false) (Rows.linesLazySpec.post enc Tryz.prog Tryz.f5 false true false false) := by
  refine returnsInHanded_of_change_sized (C := Tryz.checked) own started (by kernel_rfl) Tryz.func5
    (ChangeSpec.witness6 (enc := enc) (C := Tryz.checked) false ⟨#[], #[.agg #[.slice none 0 0, .slice none 0 0], .slice none 0 0], []⟩ 8 (by kernel_rfl) (by kernel_rfl) (by kernel_rfl) (by kernel_rfl)) ?_
  intro W base args ds gs before hval0 hW hcnd hsz0 _
  have hsz : (DataW.weightsEach Tryz.prog (Tryz.f5.params.toList ++ []) (ds ++ gs)).all (· ≤ reachBytes) = true := hsz0
  have hval : ∀ (j : Nat) t v, Tryz.f5.params[j]? = some t → args[j]? = some v → Value.okWide Tryz.prog W .any base t v := hval0
  have hW' := hW
  obtain ⟨p, q, hA0, hV, rfl, hfz, hnd⟩ := hW
  have hA : DataW.TrodAll enc Tryz.prog W 0 (fun _ => true) true Tryz.f5.params.toList args.toList ds p := hA0
  rw [Tryz.params5] at hA hval
  obtain ⟨v0, vs0, d0, ds0, p0, q0, hargs, rfl, rfl, h0, t0⟩ := trodAll_cons hA
  obtain ⟨v1, vs1, d1, ds1, p1, q1, rfl, rfl, rfl, h1, t1⟩ := trodAll_cons t0
  obtain ⟨rfl, rfl, rfl⟩ := trodAll_nil t1
  obtain rfl : args = #[v0, v1] := by cases args; simp_all
  obtain ⟨rfl, rfl⟩ := trodVars_none hV
  have k0 := h0
  have lt0 : ∀ x ∈ p0, x.block < W.heap.size := by obtain ⟨m, hm⟩ := k0; exact DataW.trod_lt m _ _ _ hm
  obtain ⟨x0, y0, rfl, r0, u0⟩ := open_twoL Tryz.underlying52 rfl rfl (by kernel_rfl) (by kernel_rfl) (by kernel_rfl) (hval 0 52 v0 rfl rfl) h0
  obtain ⟨al1, len1, cap1, rfl⟩ := okWide_slice Tryz.underlying53 (hval 1 53 v1 rfl rfl)
  have k1 := h1
  have lt1 : ∀ x ∈ p1, x.block < W.heap.size := by obtain ⟨m, hm⟩ := k1; exact DataW.trod_lt m _ _ _ hm
  have r1 : ∃ fuel x, DataW.trod enc Tryz.prog W 0 (fun _ => true) true fuel 53 [.slice al1 len1 cap1] = some x := by obtain ⟨m, hm⟩ := h1; exact ⟨m, _, hm⟩
  have q1 : len1 * 32 ≤ 140737488355328 := sized_part Tryz.underlying53 (by kernel_rfl) (spare := fun _ => true) (held := true) hsz (j := 1) rfl rfl h1
  clear hA0 hval0
  refine (walk enc x0 y0 al1 len1 cap1 W ⟨r0, u0⟩ r1 q1).mono fun e W' ⟨he, bel⟩ => ?_
  subst he
  exact ⟨_, rfl, _, _, _, [], _, [], hW', trodAll_mk1 (shut_bool Tryz.underlying4 _), (trodAll_cons_mk (Below.trod laidOut (by kernel_rfl) (of_decide_eq_true (by kernel_rfl)) k0 bel lt0) (trodAll_cons_mk (Below.trod laidOut (by kernel_rfl) (of_decide_eq_true (by kernel_rfl)) k1 bel lt1) trodAll_mk0)), rfl, bel.frame _, fun h => by cases h⟩

set_option maxRecDepth 1000000 in
set_option maxHeartbeats 1000000000 in
theorem closed : joinedFacts Tryz.pinned.checked.prog 5 Tryz.f5 Rows.linesLazySpec Rows.linesLazyRow = true := by
  unfold joinedFacts
  simp only [Bool.and_eq_true]
  repeat' apply And.intro
  all_goals (as_aux_lemma => kernel_rfl)

theorem over : Rows.linesLazyRow.holds Tryz.pinned (OpenSpec.ofChange Rows.linesLazySpec) :=
  OpenClaim.holds_of_wide 5 Tryz.f5 rfl rfl rfl rfl rfl rfl rfl ⟨rfl, rfl, rfl, rfl, rfl⟩ rfl rfl rfl rfl rfl (by kernel_rfl) Tryz.func5 closed
    (of_decide_eq_true (by kernel_rfl)) (by unfold Func.isWrapper; first | (rw [if_pos (by decide +kernel)]; kernel_rfl) | (rw [if_neg (by decide +kernel)]; exact ⟨rfl, rfl⟩))
    (fun os started H enc _ => lifted os started H enc)

/-- THE STATEMENT -/
theorem proved : Rows.LinesLazySaid := over
#print axioms proved
end Go.Proofs.YtfhbmblbidcmmaaGreat.linesLazy
