/-
  Finding and changing an atom of an assertion by instances; what a world's cells say then.
-/
import Derived.Test.YtjhkmmpgjiciiaaSl
namespace Go.Sl
set_option linter.unusedSimpArgs false
set_option linter.unusedVariables false

class HasC (A : Assn) (b i : Nat) (v : outParam Value) : Prop where
  out : ∃ F, A = Sl.cell b i v * F

class HasR (A : Assn) (b : Nat) (o : outParam Obj) : Prop where
  out : ∃ F, A = raw b o * F

class HasH (A : Assn) (b : Nat) (t : outParam TypeId) (n : outParam Nat) : Prop where
  out : ∃ F, A = hdr b t n * F

class Upd (A : Assn) (b i : Nat) (v' : Value) (A' : outParam Assn) : Prop where
  out : ∃ v F, A = Sl.cell b i v * F ∧ A' = Sl.cell b i v' * F

class UpdR (A : Assn) (b : Nat) (o' : Obj) (A' : outParam Assn) : Prop where
  out : ∃ o F, A = raw b o * F ∧ A' = raw b o' * F

class Take (S A : Assn) (R : outParam Assn) : Prop where
  out : S = A * R

instance (b i : Nat) (v : Value) : HasC (Sl.cell b i v) b i v := ⟨1, (sep_one _).symm⟩
instance (A B : Assn) (b i : Nat) (v : Value) [h : HasC A b i v] : HasC (A * B) b i v := let ⟨F, e⟩ := h.out; ⟨F * B, by rw [e, sep_assoc]⟩
instance (A B : Assn) (b i : Nat) (v : Value) [h : HasC B b i v] : HasC (A * B) b i v := let ⟨F, e⟩ := h.out; ⟨A * F, by rw [e, sep_left]⟩

instance (b : Nat) (o : Obj) : HasR (raw b o) b o := ⟨1, (sep_one _).symm⟩
instance (A B : Assn) (b : Nat) (o : Obj) [h : HasR A b o] : HasR (A * B) b o := let ⟨F, e⟩ := h.out; ⟨F * B, by rw [e, sep_assoc]⟩
instance (A B : Assn) (b : Nat) (o : Obj) [h : HasR B b o] : HasR (A * B) b o := let ⟨F, e⟩ := h.out; ⟨A * F, by rw [e, sep_left]⟩

instance (b n : Nat) (t : TypeId) : HasH (hdr b t n) b t n := ⟨1, (sep_one _).symm⟩
instance (A B : Assn) (b n : Nat) (t : TypeId) [h : HasH A b t n] : HasH (A * B) b t n := let ⟨F, e⟩ := h.out; ⟨F * B, by rw [e, sep_assoc]⟩
instance (A B : Assn) (b n : Nat) (t : TypeId) [h : HasH B b t n] : HasH (A * B) b t n := let ⟨F, e⟩ := h.out; ⟨A * F, by rw [e, sep_left]⟩

instance (b i : Nat) (v v' : Value) : Upd (Sl.cell b i v) b i v' (Sl.cell b i v') := ⟨v, 1, (sep_one _).symm, (sep_one _).symm⟩
instance (A B A' : Assn) (b i : Nat) (v' : Value) [h : Upd A b i v' A'] : Upd (A * B) b i v' (A' * B) := let ⟨v, F, e, e'⟩ := h.out; ⟨v, F * B, by rw [e, sep_assoc], by rw [e', sep_assoc]⟩
instance (A B B' : Assn) (b i : Nat) (v' : Value) [h : Upd B b i v' B'] : Upd (A * B) b i v' (A * B') := let ⟨v, F, e, e'⟩ := h.out; ⟨v, A * F, by rw [e, sep_left], by rw [e', sep_left]⟩

instance (b : Nat) (o o' : Obj) : UpdR (raw b o) b o' (raw b o') := ⟨o, 1, (sep_one _).symm, (sep_one _).symm⟩
instance (A B A' : Assn) (b : Nat) (o' : Obj) [h : UpdR A b o' A'] : UpdR (A * B) b o' (A' * B) := let ⟨v, F, e, e'⟩ := h.out; ⟨v, F * B, by rw [e, sep_assoc], by rw [e', sep_assoc]⟩
instance (A B B' : Assn) (b : Nat) (o' : Obj) [h : UpdR B b o' B'] : UpdR (A * B) b o' (A * B') := let ⟨v, F, e, e'⟩ := h.out; ⟨v, A * F, by rw [e, sep_left], by rw [e', sep_left]⟩

instance (A : Assn) : Take A A 1 := ⟨(sep_one _).symm⟩
instance (A B X R : Assn) [h : Take A X R] : Take (A * B) X (R * B) := ⟨by rw [h.out, sep_assoc]⟩
instance (A B X R : Assn) [h : Take B X R] : Take (A * B) X (A * R) := ⟨by rw [h.out, sep_left]⟩
instance (priority := high) (A B : Assn) : Take (A * B) A B := ⟨rfl⟩
instance (priority := high) (A B : Assn) : Take (A * B) B A := ⟨sep_comm _ _⟩

theorem Sat.take {S : Assn} {w : World} (hs : Sat S w) (A : Assn) {R : Assn} [h : Take S A R] : Sat (A * R) w := hs.eq h.out

theorem Sat.keep2 {S : Assn} {w : World} (hs : Sat S w) (A B : Assn) {R R' : Assn} [h : Take S A R] [h' : Take R B R'] : Sat (A * B) w :=
  Sat.weak (B := R') (hs.eq (by rw [h.out, h'.out, sep_assoc]))

theorem Sat.c {A : Assn} {w : World} (hs : Sat A w) (b i : Nat) {v : Value} [h : HasC A b i v] : w.cell? ⟨b, i, none⟩ = some v := by
  obtain ⟨F, rfl⟩ := h.out; exact hs.cell
theorem Sat.f {A : Assn} {w : World} (hs : Sat A w) (b i : Nat) {v : Value} [h : HasC A b i v] : w.frozen? ⟨b, i, none⟩ = false := by
  obtain ⟨F, rfl⟩ := h.out; exact hs.free i
theorem Sat.r {A : Assn} {w : World} (hs : Sat A w) (b : Nat) {o : Obj} [h : HasR A b o] : w.heap[b]? = some o := by
  obtain ⟨F, rfl⟩ := h.out; exact hs.obj
theorem Sat.upd {A A' : Assn} {w : World} (hs : Sat A w) (b i : Nat) (v' : Value) [h : Upd A b i v' A'] : Sat A' (w.setCell ⟨b, i, none⟩ v') := by
  obtain ⟨v, F, rfl, rfl⟩ := h.out; exact hs.setCell v'
theorem Sat.updR {A A' : Assn} {w : World} (hs : Sat A w) (b : Nat) (o' : Obj) [h : UpdR A b o' A'] : Sat A' { w with heap := w.heap.setIfInBounds b o' } := by
  obtain ⟨v, F, rfl, rfl⟩ := h.out; exact hs.setRaw o'

end Go.Sl
