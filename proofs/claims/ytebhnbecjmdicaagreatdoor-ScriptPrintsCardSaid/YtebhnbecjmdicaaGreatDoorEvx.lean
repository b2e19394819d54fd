/-
  A run reckoned out: what a call leaves that keeps all that was there, or changes one object of which nothing more is known then.
-/
import Derived.Test.YtebhnbecjmdicaaGreatDoorEv17
import Derived.Below
namespace Go.Ev
open Go.RowKit
set_option linter.unusedVariables false
set_option linter.unusedSimpArgs false
set_option linter.unusedSectionVars false
section
variable {X : Type} [ExtA X] {P : Program} {m : Mp} {h : Hp X} {w w' : World}
/-- a block of which nothing is known may change; all others stay -/
theorem Rep.other {g : G X} (hr : Rep P m g w) {b : Nat} (h1 : ∀ k x, g k ≠ none → m k ≠ .some (b, x)) (h2 : m.kn b = none) (h3 : ∀ k x, g k = .some (.ext x) → ¬ m.ter k b) (hk : ∀ b', b' ≠ b → b' < w.heap.size → w'.heap[b']? = w.heap[b']?) (hs : w.heap.size ≤ w'.heap.size) : Rep P m g w' := by
  refine ⟨fun k o e ec => ?_, hr.inj, hr.tok, fun b' vs s t e => ?_, hr.apart, fun k x e => ?_, fun k b' x e e1 => Nat.lt_of_lt_of_le (hr.lt k b' x e e1) hs, fun k x b' e e1 => ?_⟩
  · obtain ⟨b', x, f1, f2⟩ := hr.obj k o e ec
    refine ⟨b', x, f1, ?_⟩
    rw [hk b' (fun c => by subst c; exact h1 k x (by rw [e]; simp) f1) (hr.lt k b' x (by rw [e]; simp) f1)]
    exact f2
  · rw [hk b' (fun c => by subst c; rw [h2] at e; cases e) (hr.klt e)]
    exact hr.kn b' vs s t e
  · obtain ⟨hp, f1, f2⟩ := hr.ext k x e
    refine ⟨hp, f1, fun key r hq => ?_⟩
    obtain ⟨g1, b', g2, g3⟩ := f2 key r hq
    exact ⟨has_same g2 (hk b' (fun c => by subst c; exact h3 k x e g3) (hr.ter k x b' e g3).1) g1, b', g2, g3⟩
  · obtain ⟨q1, q2, q3, q4⟩ := hr.ter k x b' e e1
    exact ⟨Nat.lt_of_lt_of_le q1 hs, q2, q3, q4⟩
theorem Rep.kept {g : G X} (hr : Rep P m g w) (hk : ∀ b', b' < w.heap.size → w'.heap[b']? = w.heap[b']?) (hs : w.heap.size ≤ w'.heap.size) : Rep P m g w' :=
  hr.other (b := w.heap.size) (fun k x e c => absurd (hr.lt k _ x e c) (Nat.lt_irrefl _)) (by
    cases hq : m.kn w.heap.size with
    | none => rfl
    | some q => exact absurd (hr.klt hq) (Nat.lt_irrefl _)) (fun k x e c => absurd (hr.ter k x _ e c).1 (Nat.lt_irrefl _)) (fun b' _ hl => hk b' hl) hs
/-- all that was there stays -/
theorem Mo.below (hr : Rep P m h.at w) (hf : ∀ k, h.nx ≤ k → m k = none) (ht : ∀ k, h.nx ≤ k → h.at k = none) (hb : Below w.heap.size w w') : Mo P ⟨h, m, w⟩ h m w' where
  rep := hr.kept (fun b hl => hb.block b hl) hb.size
  fresh := hf
  stp := ⟨m.le_refl, fun _ h => absurd rfl h, fun k b x h e => .inl ⟨k, x, h, e⟩, fun k h => .inl h, fun b hlt _ _ => ⟨hb.block b hlt, rfl⟩, fun k x b e e1 => .inl ⟨k, x, e, e1⟩, fun _ _ _ => rfl, hb.size, hb.os, hb.tape, hb.output⟩
  nx := Nat.le_refl _
  top := ht
/-- an object of which nothing more is known; all others stay -/
theorem Mo.lose (hr : Rep P m h.at w) (hf : ∀ k, h.nx ≤ k → m k = none) (ht : ∀ k, h.nx ≤ k → h.at k = none) {k b x : Nat} {o : Ob X} (hk : h.at k = .some o) (ho : isCell o = true) (hm : m k = .some (b, x)) (hk1 : k < 1000000)
    (hkeep : ∀ b', b' ≠ b → w'.heap[b']? = w.heap[b']?) (hs : w.heap.size ≤ w'.heap.size) (h1 : w'.os = w.os) (h2 : w'.tape = w.tape) (h3 : w'.output = w.output) : Mo P ⟨h, m, w⟩ (h.set k none) m w' := by
  have hkn : h.at k ≠ none := by rw [hk]; simp
  obtain ⟨f1, f2⟩ := hr.forget hk1
  have hat := fun j => Hp.at_set (h := h) (o := none) hk1 j
  have hne : ∀ j x, (h.set k none).at j ≠ none → m j ≠ some (b, x) := fun j x g1 g2 => by
    rw [hat] at g1
    split at g1
    · exact g1 rfl
    · rename_i hj
      exact hj (hr.inj j k b _ _ g1 hkn g2 hm)
  have hter : ∀ j x, (h.set k none).at j = .some (.ext x) → ¬ m.ter j b := fun j x g1 g2 => by
    rw [hat] at g1
    split at g1
    · cases g1
    · rename_i hj
      exact (hr.ter j x b g1 g2).2.2.1 k _ hkn (fun c => hj c.symm) hm
  refine ⟨f1.other hne (hr.apart k o b x hk ho hm) hter (fun b' q _ => hkeep b' q) hs, hf, ?_, Nat.le_refl _, fun j hj => ?_⟩
  · exact ⟨m.le_refl, fun _ h => absurd rfl h, f2.own, f2.dom, fun b' hlt q1 q2 => ⟨hkeep b' (fun c => by subst c; exact q1 k x hkn hm), rfl⟩, f2.ter, fun _ _ _ => rfl, hs, h1, h2, h3⟩
  · rw [hat]
    split
    · rfl
    · exact ht j hj
end

end Go.Ev
