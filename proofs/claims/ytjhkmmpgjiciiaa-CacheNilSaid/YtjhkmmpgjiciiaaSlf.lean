/-
  Strings that are equal or not, in the walk's own spelling.
-/
import Derived.Test.YtjhkmmpgjiciiaaSle
namespace Go.Sl
set_option linter.unusedSimpArgs false
set_option linter.unusedVariables false

theorem tl_beq (a b : ByteArray) : (a.toList == b.toList) = decide (a = b) := by
  rw [Bool.eq_iff_iff]
  simp only [beq_iff_eq, decide_eq_true_eq, ByteArray.toList_eq]
  constructor
  · intro h
    cases a; cases b
    simp at h
    rw [h]
  · intro h; rw [h]
theorem str_eq {a b : ByteArray} (h : a = b) : (a.toList == b.toList) = true := by rw [tl_beq]; simpa using h
theorem str_ne {a b : ByteArray} (h : a ≠ b) : (a.toList == b.toList) = false := by rw [tl_beq]; simpa using h

theorem wpl_copy' {P : Program} {t e bytes : Nat} {i : TypeInfo} {z : Value} (E : ElemOk P t e 1 bytes i z)
    {ops : Array Oper} {Q : Exit → Act → World → Prop} {rest : List Oper} {d : Tmp} {sop xop : Operand} {ty : TypeId} {pos : String} {after : Array Edge} {a : Act}
    {b : Option Addr} {n cap lo : Nat} {xs : List Value} {x : Value} {l : List UInt8} {F : Assn} {w : World} (hsv : a.eval sop = .slice (cutA b cap lo 1) (n - lo) (cap - lo)) (hxv : a.eval xop = x)
    (hs : Sat (rw e 1 (.slice b n cap) xs * F) w) (hx : Byt w x l) (hlo : lo + l.length ≤ n)
    (h : ∀ w', Sat (rw e 1 (.slice b n cap) (xs.take lo ++ bys l ++ xs.drop (lo + l.length)) * F) w' → wpList P ops Q rest (a.put (some d) (.int .i64 l.length)) w') :
    wpList P ops Q (⟨some d, .call { callee := .builtin .copy, args := #[sop, xop], argTypes := #[t, t] }, ty, pos, after, none⟩ :: rest) a w :=
  wpl_copy E rfl sop xop rfl hsv hxv hs hx hlo h

theorem run_sliceAt {P : Program} {t e s bytes : Nat} {i : TypeInfo} {z : Value} (E : ElemOk P t e s bytes i z) (x : Value) (l h m : Option Value) (w : World) : (Instr.sliceAt t x l h m).run P w = (Instr.slice t x l h m).run P w := by
  unfold Instr.sliceAt
  simp [underlying, E.und]
theorem at_from {P : Program} {t e s bytes : Nat} {i : TypeInfo} {z : Value} (E : ElemOk P t e s bytes i z) {a : Option Addr} {n c : Nat} (lo : Nat) (h1 : lo ≤ n) (w : World) :
    (Instr.sliceAt t (.slice a n c) (some (.int .i64 lo)) none none).run P w = .ok (.slice (cutA a c lo s) (n - lo) (c - lo)) w := (run_sliceAt E _ _ _ _ w).trans (run_cut_from E lo h1 w)
theorem at_to {P : Program} {t e s bytes : Nat} {i : TypeInfo} {z : Value} (E : ElemOk P t e s bytes i z) {a : Option Addr} {n c : Nat} (hi : Nat) (h1 : hi ≤ c) (w : World) :
    (Instr.sliceAt t (.slice a n c) none (some (.int .i64 hi)) none).run P w = .ok (.slice (cutA a c 0 s) hi c) w := (run_sliceAt E _ _ _ _ w).trans (run_cut_to E hi h1 w)
theorem at_cut {P : Program} {t e s bytes : Nat} {i : TypeInfo} {z : Value} (E : ElemOk P t e s bytes i z) {a : Option Addr} {n c : Nat} (lo hi : Nat) (h1 : lo ≤ hi) (h2 : hi ≤ c) (w : World) :
    (Instr.sliceAt t (.slice a n c) (some (.int .i64 lo)) (some (.int .i64 hi)) none).run P w = .ok (.slice (cutA a c lo s) (hi - lo) (c - lo)) w := (run_sliceAt E _ _ _ _ w).trans (run_cut E lo hi h1 h2 w)

/-- 'x[lo:]', 'x[:hi]', 'x[lo:hi]' of a slice, as operations of a list -/
theorem wpl_from' {P : Program} {t e s bytes : Nat} {i : TypeInfo} {z : Value} (E : ElemOk P t e s bytes i z)
    {ops : Array Oper} {Q : Exit → Act → World → Prop} {rest : List Oper} {d : Tmp} {xop lop : Operand} {ty : TypeId} {pos : String} {after : Array Edge} {a : Act} {w : World}
    {b : Option Addr} {n c lo : Nat} (hv : a.eval xop = .slice b n c) (hl : a.eval lop = .int .i64 lo) (h1 : lo ≤ n)
    (h : wpList P ops Q rest (a.put (some d) (.slice (cutA b c lo s) (n - lo) (c - lo))) w) :
    wpList P ops Q (⟨some d, .slice t xop (some lop) none none, ty, pos, after, none⟩ :: rest) a w := by
  refine wpList_plain rfl fun K hK => ?_
  unfold Oper.wp
  simp [execOp, hv, hl, at_from E lo h1, Result.andThen]
  exact hK _ _ h
theorem wpl_to' {P : Program} {t e s bytes : Nat} {i : TypeInfo} {z : Value} (E : ElemOk P t e s bytes i z)
    {ops : Array Oper} {Q : Exit → Act → World → Prop} {rest : List Oper} {d : Tmp} {xop hop : Operand} {ty : TypeId} {pos : String} {after : Array Edge} {a : Act} {w : World}
    {b : Option Addr} {n c hi : Nat} (hv : a.eval xop = .slice b n c) (hl : a.eval hop = .int .i64 hi) (h1 : hi ≤ c)
    (h : wpList P ops Q rest (a.put (some d) (.slice (cutA b c 0 s) hi c)) w) :
    wpList P ops Q (⟨some d, .slice t xop none (some hop) none, ty, pos, after, none⟩ :: rest) a w := by
  refine wpList_plain rfl fun K hK => ?_
  unfold Oper.wp
  simp [execOp, hv, hl, at_to E hi h1, Result.andThen]
  exact hK _ _ h
theorem wpl_cut' {P : Program} {t e s bytes : Nat} {i : TypeInfo} {z : Value} (E : ElemOk P t e s bytes i z)
    {ops : Array Oper} {Q : Exit → Act → World → Prop} {rest : List Oper} {d : Tmp} {xop lop hop : Operand} {ty : TypeId} {pos : String} {after : Array Edge} {a : Act} {w : World}
    {b : Option Addr} {n c lo hi : Nat} (hv : a.eval xop = .slice b n c) (hl : a.eval lop = .int .i64 lo) (hh : a.eval hop = .int .i64 hi) (h1 : lo ≤ hi) (h2 : hi ≤ c)
    (h : wpList P ops Q rest (a.put (some d) (.slice (cutA b c lo s) (hi - lo) (c - lo))) w) :
    wpList P ops Q (⟨some d, .slice t xop (some lop) (some hop) none, ty, pos, after, none⟩ :: rest) a w := by
  refine wpList_plain rfl fun K hK => ?_
  unfold Oper.wp
  simp [execOp, hv, hl, hh, at_cut E lo hi h1 h2, Result.andThen]
  exact hK _ _ h

end Go.Sl
