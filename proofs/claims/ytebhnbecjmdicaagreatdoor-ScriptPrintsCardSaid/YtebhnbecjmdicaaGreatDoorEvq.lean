/-
  The structs of whole numbers that are held against one another, or are keys of maps: what their comparison says. Printed by a program.
-/
import Derived.Test.YtebhnbecjmdicaaGreatDoorEvt
import Derived.RowKit
namespace Go.Proofs.YtebhnbecjmdicaaGreatDoor
set_option linter.unusedSimpArgs false
set_option linter.unusedVariables false
open Go.Ev Go.RowKit
section
variable (w : World) (d : Nat)
theorem int_in (a0 b0 : Int) : (Op.equalIn (d + 1) 3 (.int .i64 a0) (.int .i64 b0)).run Tryz.prog w = .ok (a0 == b0) w := by
  rw [Op.equalIn]
  simp [run_underlying Tryz.underlying3]
theorem int_part (cs : Array Value) (i : Nat) (v : Value) (h : cs[i]? = some v) : (part 3 cs i).run Tryz.prog w = .ok v w := by
  simp [part, Tryz.isAgg3, h]
theorem int_check (e : Bool) (a : Int) : (Instr.checkKey e (d + 1) 3 (.int .i64 a)).run Tryz.prog w = .ok () w := by rw [Instr.checkKey]; simp [run_underlying Tryz.underlying3]
theorem int_guard (a b : Int) : (Op.eqGuardIn (d + 1) 3 (.int .i64 a) (.int .i64 b)).run Tryz.prog w = .ok false w := by rw [Op.eqGuardIn]; simp [run_underlying Tryz.underlying3]
set_option maxHeartbeats 4000000 in
theorem in_api_range (a0 a1 b0 b1 : Int) : (Op.equalIn (d + 2) 348 (.agg #[.int .i64 a0, .int .i64 a1]) (.agg #[.int .i64 b0, .int .i64 b1])).run Tryz.prog w = .ok ((a0 == b0 && (a1 == b1 && true))) w := by
  have h1 : Tryz.prog.stoodInHeld 348 = false := by kernel_rfl
  rw [Op.equalIn]
  simp only [Sem.run_bind, run_underlying Tryz.underlying348, Result.andThen_ok]
  simp [h1, int_part, int_in]
  by_cases e0 : a0 = b0 <;> by_cases e1 : a1 = b1 <;> simp [e0, e1]
theorem check_api_range (e : Bool) (a0 a1 : Int) : (Instr.checkKey e (d + 2) 348 (.agg #[.int .i64 a0, .int .i64 a1])).run Tryz.prog w = .ok () w := by
  rw [Instr.checkKey]
  simp only [Sem.run_bind, run_underlying Tryz.underlying348, Result.andThen_ok]
  simp [int_part, int_check]
theorem guard_api_range (a0 a1 b0 b1 : Int) : (Op.eqGuardIn (d + 2) 348 (.agg #[.int .i64 a0, .int .i64 a1]) (.agg #[.int .i64 b0, .int .i64 b1])).run Tryz.prog w = .ok false w := by
  rw [Op.eqGuardIn]
  simp only [Sem.run_bind, run_underlying Tryz.underlying348, Result.andThen_ok]
  simp [int_part, int_guard]
theorem kinds_cons {k : IntKind} {ks : List IntKind} {l : List Value} (h : kindsAre (k :: ks) l = true) : ∃ n l', l = .int k n :: l' ∧ kindsAre ks l' = true := by
  cases l with
  | nil => simp [kindsAre] at h
  | cons x l =>
    cases x <;> first | (simp [kindsAre] at h; done) | skip
    simp only [kindsAre, Bool.and_eq_true, decide_eq_true_eq] at h
    obtain ⟨rfl, h⟩ := h
    exact ⟨_, _, rfl, h⟩
theorem kinds_nil {l : List Value} (h : kindsAre [] l = true) : l = [] := by
  cases l with
  | nil => rfl
  | cons x l => simp [kindsAre] at h
theorem kinds2 {a : Array Value} (h : kindsAre [.i64, .i64] a.toList = true) : ∃ a0 a1, a = #[.int .i64 a0, .int .i64 a1] := by
  obtain ⟨l⟩ := a
  have g0 : kindsAre [.i64, .i64] l = true := h
  obtain ⟨a0, l0, rfl, g1⟩ := kinds_cons g0
  obtain ⟨a1, l1, rfl, g2⟩ := kinds_cons g1
  obtain rfl := kinds_nil g2
  exact ⟨_, _, rfl⟩
/-- what is asked of a struct's comparison -/
structure EqOk (t : TypeId) (ks : List IntKind) : Prop where
  eq : ∀ (a b : Array Value) (w : World), kindsAre ks a.toList = true → kindsAre ks b.toList = true → (Op.equal t (.agg a) (.agg b)).run Tryz.prog w = .ok (sameI a.toList b.toList) w
  chk : ∀ (a : Array Value) (w : World), kindsAre ks a.toList = true → ∀ e, (Instr.checkKey e 10000 t (.agg a)).run Tryz.prog w = .ok () w
  grd : ∀ (a b : Array Value) (w : World), kindsAre ks a.toList = true → kindsAre ks b.toList = true → (Op.eqGuardIn Op.maxDepth t (.agg a) (.agg b)).run Tryz.prog w = .ok false w
theorem EqOk.bin {t : TypeId} {ks : List IntKind} (E : EqOk t ks) (a b : Array Value) (op : BinOp) (r : Value) (x y : Operand) (w : World) (ha : kindsAre ks a.toList = true) (hb : kindsAre ks b.toList = true) (e : boolOp op (sameI a.toList b.toList) = some r) :
    (do eqGuard op t x y (.agg a) (.agg b); binOp op t (.agg a) (.agg b) : Sem Value).run Tryz.prog w = .ok r w := by
  have h1 := E.eq a b w ha hb
  have h2 := E.grd a b w ha hb
  have hg : ∀ op, (eqGuard op t x y (.agg a) (.agg b)).run Tryz.prog w = .ok () w := fun op => by
    unfold eqGuard
    generalize Op.maxDepth = dd at h2 ⊢
    cases op
    case eql =>
      simp only [Bool.not_true, Bool.false_eq_true, if_false, program, Sem.run_bind, Sem.run, Result.andThen_ok]
      by_cases hq : (!Tryz.prog.eqGuardType Tryz.prog.depth t) = true
      · simp [hq]
      · simp [hq, h2]
    case neq =>
      simp only [Bool.not_true, Bool.false_eq_true, if_false, program, Sem.run_bind, Sem.run, Result.andThen_ok]
      by_cases hq : (!Tryz.prog.eqGuardType Tryz.prog.depth t) = true
      · simp [hq]
      · simp [hq, h2]
    all_goals rfl
  cases op <;> first | (cases e; done) | skip
  all_goals
    cases e
    simp [hg, binOp, h1]
end
theorem eqok_api_range : EqOk 348 [.i64, .i64] where
  eq := fun a b w ha hb => by
    obtain ⟨a0, a1, rfl⟩ := kinds2 ha
    obtain ⟨b0, b1, rfl⟩ := kinds2 hb
    exact in_api_range w 9998 _ _ _ _
  chk := fun a w ha e => by
    obtain ⟨a0, a1, rfl⟩ := kinds2 ha
    exact check_api_range w 9998 e _ _
  grd := fun a b w ha hb => by
    obtain ⟨a0, a1, rfl⟩ := kinds2 ha
    obtain ⟨b0, b1, rfl⟩ := kinds2 hb
    exact guard_api_range w 9998 _ _ _ _
def evEq : TypeId → Option (List IntKind) := fun t => bif Nat.beq t 348 then some [.i64, .i64] else none
theorem evEq_ok (t : TypeId) (ks : List IntKind) (e : evEq t = some ks) : EqOk t ks := by
  unfold evEq at e
  cases h : Nat.beq t 348 with
  | true =>
    rw [h] at e
    obtain rfl := Nat.eq_of_beq_eq_true h
    cases e
    exact eqok_api_range
  | false =>
    rw [h, cond_false] at e
    cases e
noncomputable def evT : Tb := ⟨tyOf evTys, evEq, fun t => evKds.get t⟩
theorem evT_ok : TbOk Tryz.prog evT := tyOf_ok evTys_ok evEq _ (fun t ks e a b op r x y w => (evEq_ok t ks e).bin a b op r x y w) (fun t ks e a b w ha hb => ⟨(evEq_ok t ks e).chk a w ha, (evEq_ok t ks e).eq a b w ha hb⟩)
end Go.Proofs.YtebhnbecjmdicaaGreatDoor
