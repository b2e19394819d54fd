/-
  Of any pages in a file a root is found to be a tree just if it is one in the form of the document. No condition. (part 43)
-/
import Derived.Test.YtfhbmblbidcmmaaGreatRk26
set_option linter.unusedSimpArgs false
set_option linter.unusedVariables false
namespace Go.Tr
set_option linter.unusedSimpArgs false
set_option linter.unusedVariables false
section
variable {σ : Type} {α β : Type} {P : σ → σ → Prop}
structure Goes (P : σ → σ → Prop) : Prop where
 same : ∀ s, P s s
 next : ∀ a b c, P a b → P b c → P a c
def Keeps (P : σ → σ → Prop) (m : M σ α) : Prop := ∀ s, match m s with
 | .ok _ s' => P s s'
 | .fault _ s' => P s s'
 | .bad => True
theorem Keeps.pure (h : Goes P) (a : α) : Keeps P (M.pure a) := fun s => h.same s
theorem Keeps.fail (h : Goes P) (e : Int) : Keeps P (M.fail e : M σ α) := fun s => h.same s
theorem Keeps.bad : Keeps P (M.bad : M σ α) := fun s => trivial
theorem Keeps.bind (h : Goes P) {m : M σ α} {f : α → M σ β} (hm : Keeps P m) (hf : ∀ a, Keeps P (f a)) : Keeps P (M.bind m f) := fun s => by
 have h1 := hm s
 unfold M.bind
 cases hr : m s with
 | bad => trivial
 | fault e s1 => rw [hr] at h1; exact h1
 | ok a s1 =>
   rw [hr] at h1
   have h2 := hf a s1
   simp only [Res.bind] at h1 ⊢
   cases hr2 : f a s1 with
   | bad => trivial
   | fault e s2 => rw [hr2] at h2; exact h.next _ _ _ h1 h2
   | ok b s2 => rw [hr2] at h2; exact h.next _ _ _ h1 h2
theorem Keeps.ite {c : Prop} [Decidable c] {m k : M σ α} (h1 : Keeps P m) (h2 : Keeps P k) : Keeps P (if c then m else k) := by
 split
 · exact h1
 · exact h2
theorem Keeps.ok {m : M σ α} {s s' : σ} {a : α} (h : Keeps P m) (e : m s = .ok a s') : P s s' := by
 have := h s
 rw [e] at this
 exact this
theorem Keeps.fault {m : M σ α} {s s' : σ} {n : Int} (h : Keeps P m) (e : m s = .fault n s') : P s s' := by
 have := h s
 rw [e] at this
 exact this
variable (h : Goes P) {rd : Int → M σ Nd} {wt : Nd → M σ Kd} (hr : ∀ p, Keeps P (rd p)) (hw : ∀ n, Keeps P (wt n))
include h
include hw in
theorem spreadFrom_keeps (n : Nd) (pages : Nat) : ∀ (c i a : Nat) (out : List Kd), Keeps P (spreadFrom wt n pages c i a out)
 | 0, _, _, _ => Keeps.pure h _
 | c + 1, i, a, out => Keeps.bind h (hw _) fun k => spreadFrom_keeps n pages c _ _ _
include hw in
theorem tSpread_keeps (n : Nd) : Keeps P (tSpread wt n) := spreadFrom_keeps h hw n _ _ _ _ _
include hw in
theorem tGrown_keeps : ∀ (f : Nat) (ks : List Kd) (x : Int), Keeps P (tGrown wt f ks x)
 | 0, [], x => Keeps.pure h _
 | f + 1, [], x => Keeps.pure h _
 | 0, [k], x => Keeps.pure h _
 | f + 1, [k], x => Keeps.pure h _
 | 0, a :: b :: l, x => Keeps.bad
 | f + 1, a :: b :: l, x => Keeps.bind h (tSpread_keeps h hw _) fun ks => tGrown_keeps f ks _
include hw in
theorem grown_keeps (ks : List Kd) (x : Int) : Keeps P (grown wt ks x) := tGrown_keeps h hw _ _ _
include hw in
theorem tLeaves_keeps (l : List Ent) : Keeps P (tLeaves wt l) := Keeps.bind h (tSpread_keeps h hw _) fun ks => grown_keeps h hw _ _
include hr in
theorem rootedTo_keeps : ∀ (f : Nat) (n : Nd) (x : Int), Keeps P (rootedTo rd f n x)
 | 0, n, x => by
   unfold rootedTo
   exact Keeps.ite (Keeps.pure h _) (Keeps.fail h _)
 | f + 1, n, x => by
   unfold rootedTo
   refine Keeps.ite (Keeps.pure h _) ?_
   simp only
   split
   · exact Keeps.bad
   · exact Keeps.bind h (hr _) fun m => rootedTo_keeps f m _
include hr in
theorem tRooted_keeps (r : Int) : Keeps P (tRooted rd r) := Keeps.ite (Keeps.pure h _) (Keeps.bind h (hr _) fun n => Keeps.bind h (rootedTo_keeps h hr _ _ _) fun x => Keeps.pure h _)
include hr in
theorem seekTo_keeps : ∀ (f : Nat) (n : Nd) (x a : Int), Keeps P (seekTo rd f n x a)
 | 0, n, x, a => Keeps.fail h _
 | f + 1, n, x, a => by
   unfold seekTo
   split
   · exact Keeps.pure h _
   · exact Keeps.fail h _
   · exact Keeps.bind h (hr _) fun m => seekTo_keeps f m _ _
include hr in
theorem tSeek_keeps (r x : Int) : Keeps P (tSeek rd r x) := Keeps.bind h (hr _) fun n => seekTo_keeps h hr _ _ _ _
include hr in
theorem tRank_keeps : ∀ (f : Nat) (x : Tall) (n : Int), Keeps P (tRank rd f x n)
 | 0, x, n => by
   unfold tRank
   exact Keeps.ite (Keeps.pure h _) (Keeps.ite (Keeps.pure h _) Keeps.bad)
 | f + 1, x, n => by
   unfold tRank
   refine Keeps.ite (Keeps.pure h _) (Keeps.ite (Keeps.pure h _) (Keeps.bind h (hr _) fun y => ?_))
   split
   · exact Keeps.pure h _
   · exact Keeps.bind h (tRank_keeps f _ _) fun z => Keeps.pure h _
include hr in
theorem leftOf_keeps (r x : Int) : Keeps P (leftOf rd r x) := Keeps.ite (Keeps.bind h (tSeek_keeps h hr _ _) fun p => Keeps.pure h _) (Keeps.pure h _)
include hr in
theorem rightOf_keeps (r x a : Int) : Keeps P (rightOf rd r x a) := Keeps.ite (Keeps.bind h (tSeek_keeps h hr _ _) fun p => Keeps.pure h _) (Keeps.pure h _)
end
end Go.Tr
