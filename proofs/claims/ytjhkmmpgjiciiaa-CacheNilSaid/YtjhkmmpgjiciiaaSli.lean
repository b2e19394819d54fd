/-
  What a world holds, found by instances: the walk reads cells and writes them with no fact laid by hand.
-/
import Derived.Test.YtjhkmmpgjiciiaaSlh
namespace Go.Sl
set_option linter.unusedSimpArgs false
set_option linter.unusedVariables false

class SatI (A : outParam Assn) (w : World) : Prop where
  out : Sat A w

/-- a cell that an assertion lets one read -/
class RdC (A : Assn) (b i : Nat) (v : outParam Value) : Prop where
  out : ∀ F w, Sat (A * F) w → w.cell? ⟨b, i, none⟩ = some v
/-- a cell that was there before -/
class OldAt (w : World) (b i : Nat) (v : outParam Value) : Prop where
  out : w.cell? ⟨b, i, none⟩ = some v
instance (A : Assn) (b i : Nat) (v : Value) [h : HasC A b i v] : RdC A b i v := ⟨fun F w hs => by obtain ⟨G, rfl⟩ := h.out; exact (hs.eq (sep_assoc _ _ _)).cell⟩
instance (w0 : World) (b i : Nat) (v : Value) [h : OldAt w0 b i v] : RdC (old w0) b i v := ⟨fun F w hs => hs.old_cell h.out⟩
instance (A B : Assn) (b i : Nat) (v : Value) [h : RdC A b i v] : RdC (A * B) b i v := ⟨fun F w hs => h.out (B * F) w (hs.eq (sep_assoc _ _ _))⟩
instance (A B : Assn) (b i : Nat) (v : Value) [h : RdC B b i v] : RdC (A * B) b i v := ⟨fun F w hs => h.out (A * F) w (hs.eq (by ac_rfl))⟩

theorem cell_sat (w : World) (b i : Nat) {A : Assn} {v : Value} [h : SatI A w] [h2 : RdC A b i v] : w.cell? ⟨b, i, none⟩ = some v := h2.out 1 w (by rw [sep_one]; exact h.out)
theorem frozen_sat (w : World) (b i : Nat) {A : Assn} {v : Value} [h : SatI A w] [h2 : HasC A b i v] : w.frozen? ⟨b, i, none⟩ = false := h.out.f b i

instance {A : Assn} {w : World} [h : SatI A w] : SatI A w.drew := ⟨h.out.drew⟩
instance {A : Assn} {w : World} (n : Nat) [h : SatI A w] : SatI A (w.drewN n) := ⟨h.out.drewN n⟩
instance {A A' : Assn} {w : World} {b i : Nat} {v' : Value} [h : SatI A w] [h2 : Upd A b i v' A'] : SatI A' (w.setCell ⟨b, i, none⟩ v') := ⟨h.out.upd b i v'⟩
instance {A : Assn} {w : World} {c : Array Value} {t : TypeId} [h : SatI A w] : SatI (Sl.block w.heap.size t c.toList * A) (w.alloc (.cells c t)) := ⟨h.out.alloc c t⟩

instance (priority := high) alloc_list {A : Assn} {w : World} {l : List Value} {t : TypeId} [h : SatI A w] : SatI (Sl.block w.heap.size t l * A) (w.alloc (.cells l.toArray t)) := ⟨h.out.alloc l.toArray t⟩

/-- an element of a row, at a place that is a letter -/
class At (vs : List Value) (k : Nat) (v : outParam Value) : Prop where
  out : vs[k]? = some v

theorem cells_at_split (b : Nat) : ∀ (vs : List Value) (i k : Nat) (v : Value), vs[k]? = some v → ∃ F, cells b i vs = Sl.cell b (i + k) v * F ∧ ∀ v', cells b i (vs.set k v') = Sl.cell b (i + k) v' * F
  | [], i, k, v, h => by simp at h
  | u :: vs, i, 0, v, h => by
    simp at h; subst h
    exact ⟨cells b (i + 1) vs, rfl, fun v' => rfl⟩
  | u :: vs, i, k + 1, v, h => by
    simp at h
    obtain ⟨F, h1, h2⟩ := cells_at_split b vs (i + 1) k v h
    have e : i + 1 + k = i + (k + 1) := by omega
    refine ⟨Sl.cell b i u * F, ?_, fun v' => ?_⟩
    · show Sl.cell b i u * cells b (i + 1) vs = _
      rw [h1, e]; ac_rfl
    · show Sl.cell b i u * cells b (i + 1) (vs.set k v') = _
      rw [h2, e]; ac_rfl

instance (b t k : Nat) (vs : List Value) (v : Value) [h : At vs k v] : HasC (block b t vs) b k v := by
  obtain ⟨F, h1, h2⟩ := cells_at_split b vs 0 k v h.out
  rw [Nat.zero_add] at h1
  exact ⟨hdr b t vs.length * F, by unfold block; rw [h1]; ac_rfl⟩
instance (b t k : Nat) (vs : List Value) (v v' : Value) [h : At vs k v] : Upd (block b t vs) b k v' (block b t (vs.set k v')) := by
  obtain ⟨F, h1, h2⟩ := cells_at_split b vs 0 k v h.out
  rw [Nat.zero_add] at h1 h2
  exact ⟨v, hdr b t vs.length * F, by unfold block; rw [h1]; ac_rfl, by unfold block; rw [h2, List.length_set]; ac_rfl⟩

theorem Sat.i {A : Assn} {w : World} (h : Sat A w) : SatI A w := ⟨h⟩


theorem SatI.take {A : Assn} {w : World} (h : SatI A w) (X : Assn) {R : Assn} [t : Take A X R] : Sat (X * R) w := h.out.take X
theorem satI {A : Assn} {w : World} [h : SatI A w] : Sat A w := h.out
theorem takeI {A : Assn} {w : World} [h : SatI A w] (X : Assn) {R : Assn} [t : Take A X R] : Sat (X * R) w := h.out.take X

theorem Sat.take2 {S : Assn} {w : World} (hs : Sat S w) (A B : Assn) {R R' : Assn} [h : Take S A R] [h' : Take R B R'] : Sat (A * (B * R')) w := hs.eq (by rw [h.out, h'.out])
theorem Sat.take3 {S : Assn} {w : World} (hs : Sat S w) (A B C : Assn) {R R' R'' : Assn} [h : Take S A R] [h' : Take R B R'] [h'' : Take R' C R''] : Sat (A * (B * (C * R''))) w := hs.eq (by rw [h.out, h'.out, h''.out])
theorem Sat.drop {S : Assn} {w : World} (hs : Sat S w) (A : Assn) {R : Assn} [h : Take S A R] : Sat R w := (hs.take A).right

theorem satI_weak {A B C : Assn} {w : World} [h : SatI A w] (e : A = B * C) : Sat B w := Sat.weak (B := C) (h.out.eq e)
theorem satI_eq {A B : Assn} {w : World} [h : SatI A w] (e : A = B) : Sat B w := h.out.eq e

instance rwo_rd (e n c g o k : Nat) (xs : List Value) (v : Value) [h : At xs k v] : RdC (rwo e 1 (.slice (some ⟨g, o, none⟩) n c) xs) g (o + k) v := ⟨fun F w hs => by
  rcases hs.rwo_open with ⟨h1, _⟩ | ⟨g', pre, n', cap, sp, h1, h2, h3, h4, h5, h6⟩
  · cases h1
  · cases h1
    have hl := (List.getElem?_eq_some_iff.1 h.out).1
    refine (h6.at_get (k := pre.length + k) (v := v) ?_).1
    rw [List.getElem?_append_right (by omega), Nat.add_sub_cancel_left, List.getElem?_append_left hl]
    exact h.out⟩
instance rw_rd (e n c g k : Nat) (xs : List Value) (v : Value) [h : At xs k v] : RdC (rw e 1 (.slice (some ⟨g, 0, none⟩) n c) xs) g k v := ⟨fun F w hs => by
  rcases hs.rw_open with ⟨h1, _⟩ | ⟨g', n', cap, sp, h1, h2, h3, h4, h5, h6⟩
  · cases h1
  · cases h1
    have hl := (List.getElem?_eq_some_iff.1 h.out).1
    refine (h6.at_get (k := k) (v := v) ?_).1
    rw [List.getElem?_append_left hl]
    exact h.out⟩
theorem Sat.rwo_v {e : Nat} {v : Value} {xs : List Value} {F : Assn} {w : World} (hs : Sat (rwo e 1 v xs * F) w) : ∃ a c, v = .slice a xs.length c ∧ (xs ≠ [] → ∃ g o, a = some ⟨g, o, none⟩) ∧ xs.length ≤ c ∧ c ≤ 9223372036854775807 := by
  rcases hs.rwo_open with ⟨h1, h2, h3⟩ | ⟨g, pre, n, cap, sp, h1, h2, h3, h4, h5, h6⟩
  · subst h2; exact ⟨none, 0, h1, fun h => absurd rfl h, by simp, by omega⟩
  · rw [Nat.mul_one] at h2
    subst h2
    exact ⟨_, cap, h1, fun _ => ⟨g, pre.length, rfl⟩, h4, by simpa [maxLen] using h5⟩

theorem Reads.block0 {b e : Nat} {l : List UInt8} (hm : l.length ≤ maxLen) : Reads (Sl.block b e (bys l)) (.slice (some ⟨b, 0, none⟩) l.length l.length) l := by
  have h := Reads.block (b := b) (e := e) (c := l.length) (l := l) (sp := []) (Nat.le_refl _) hm
  rw [List.append_nil] at h
  exact h

theorem rw_empty {A R : Assn} {w : World} {b e : Nat} [h : SatI A w] [t : Take A (Sl.block b e []) R] : Sat (rw e 1 (.slice (some ⟨b, 0, none⟩) 0 0) [] * R) w :=
  Sat.rw_shut (sp := []) rfl rfl (Nat.le_refl _) (by unfold maxLen; omega) (h.out.take (Sl.block b e []))

theorem Reads.srcI {P : Program} {B : Assn} {v : Value} {l : List UInt8} (hB : Reads B v l) {n : Nat} (hn : l.length = n) {A R : Assn} {w : World} [h : SatI A w] [t : Take A B R] : Src P 1 w v n (bys l) := by
  subst hn
  exact (hB _ _ (h.out.take B)).src

/-- append to a row that may begin inside its block, as one step of a region that draws its order -/
theorem step_append_slo {P : Program} {t e s bytes : Nat} {i : TypeInfo} {z : Value} (E : ElemOk P t e s bytes i z) {ops : Array Oper} {o : Oper} {a : Act} {w : World} {K : Act → World → Prop} {Q : Exit → Act → World → Prop} {X : Prop}
    (hgd : o.guard = none) (sop xop : Operand) (ho : o.op = .call { callee := .builtin .append, args := #[sop, xop], argTypes := #[t, t] })
    {base : Option Addr} {n cap m : Nat} {xs news : List Value} {x : Value} {F : Assn} (hsv : a.eval sop = .slice base n cap) (hxv : a.eval xop = x)
    (hs : Sat (rwo e s (.slice base n cap) xs * F) w) (hx : Src P s w x m news) (h63 : n + m ≤ maxLen) (hbound : (n + m) * bytes ≤ 140737488355328)
    (h : ∀ a' c' w', Sat (rwo e s (.slice a' (n + m) c') (xs ++ news) * F) w' → (a' = none ↔ base = none ∧ m = 0) → K (a.put o.dst (.slice a' (n + m) c')) w') :
    if Region.wanted o (yielded ops a.tmps) = true then Oper.wp P o a w K Q else X := by
  have hw : Region.wanted o (yielded ops a.tmps) = true := by simp [Region.wanted, hgd]
  rw [if_pos hw]
  obtain ⟨a', c', w', r1, r2, r3⟩ := run_append_slo E E.und (fun k hk => by cases hk) o.type hs hx h63 hbound
  unfold Oper.wp
  simp [execOp, ho, resolve, invoke, builtin, hsv, hxv, r1, Result.andThen]
  exact h a' c' w' r2 r3

end Go.Sl
