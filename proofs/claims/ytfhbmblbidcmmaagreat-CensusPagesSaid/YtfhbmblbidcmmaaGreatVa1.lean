/-
  Of all versions the pages that are told are just those of their trees in the file in the form of the document, and a root that is none is refused. No condition. (part 1)
-/
import Derived.WalkKit
import Derived.Deep.Quiet
import Derived.Deep.LoopGhost
import Derived.Deep.Slices
import Derived.ChangeArms
set_option linter.unusedSimpArgs false
set_option linter.unusedVariables false
/-
 A small separation logic over the model's worlds: heaplets of cells, headers and whole blocks; assertions; how they stand behind a store, a new block, a map's update.
-/
namespace Go.Sl
set_option linter.unusedSimpArgs false
set_option linter.unusedVariables false
inductive Key where
 | raw (b : Nat)
 | cell (b i : Nat)
 | hdr (b : Nat)
 | env
 deriving DecidableEq
inductive Res where
 | obj (o : Obj)
 | val (v : Value)
 | shp (t : TypeId) (n : Nat)
 | io (os : Os) (tape : Nat → Question → Nat) (out : Array (Nat × ByteArray))
abbrev Hp := Key → Option Res
def Key.blk : Key → Option Nat
 | .raw b => some b
 | .cell b _ => some b
 | .hdr b => some b
 | .env => none
def Key.isRaw : Key → Prop
 | .raw _ => True
 | _ => False
def Clash (k k' : Key) : Prop := k = k' ∨ ((k.isRaw ∨ k'.isRaw) ∧ k.blk = k'.blk)
theorem Clash.symm {k k' : Key} (h : Clash k k') : Clash k' k := by
 rcases h with h | ⟨h, e⟩
 · exact .inl h.symm
 · exact .inr ⟨h.symm, e.symm⟩
def Has (w : World) : Key → Res → Prop
 | .raw b, .obj o => w.heap[b]? = some o
 | .cell b i, .val v => ∃ c t, w.heap[b]? = some (.cells c t (0, 0)) ∧ c[i]? = some v
 | .hdr b, .shp t n => ∃ c, w.heap[b]? = some (.cells c t (0, 0)) ∧ c.size = n
 | .env, .io os tp out => w.os = os ∧ w.tape = tp ∧ w.output = out
 | _, _ => False
def Hp.dis (g h : Hp) : Prop := ∀ k k', g k ≠ none → h k' ≠ none → ¬ Clash k k'
def Hp.un (g h : Hp) : Hp := fun k => match g k with
 | some r => some r
 | none => h k
def Assn := Hp → Prop
def sep (A B : Assn) : Assn := fun h => ∃ g k : Hp, g.dis k ∧ h = g.un k ∧ A g ∧ B k
instance : Mul Assn := ⟨sep⟩
def emp : Assn := fun h => h = fun _ => none
instance : One Assn := ⟨emp⟩
theorem Hp.dis.symm {g h : Hp} (d : g.dis h) : h.dis g := fun k k' a b c => d k' k b a c.symm
theorem Hp.un_comm {g h : Hp} (d : g.dis h) : g.un h = h.un g := by
 funext k
 unfold Hp.un
 cases hg : g k with
 | none => cases hh : h k <;> rfl
 | some r =>
   cases hh : h k with
   | none => rfl
   | some r' => exact absurd (Or.inl rfl) (d k k (by simp [hg]) (by simp [hh]))
theorem Hp.un_assoc (f g h : Hp) : (f.un g).un h = f.un (g.un h) := by
 funext k
 unfold Hp.un
 cases hf : f k <;> rfl
theorem Hp.un_ne {g h : Hp} {k : Key} : (g.un h) k ≠ none ↔ g k ≠ none ∨ h k ≠ none := by
 unfold Hp.un
 cases hg : g k <;> simp
theorem Hp.dis_un {f g h : Hp} : (f.un g).dis h ↔ f.dis h ∧ g.dis h := by
 constructor
 · exact fun d => ⟨fun k k' a b => d k k' (Hp.un_ne.2 (.inl a)) b, fun k k' a b => d k k' (Hp.un_ne.2 (.inr a)) b⟩
 · rintro ⟨d1, d2⟩ k k' a b
   rcases Hp.un_ne.1 a with a | a
   · exact d1 k k' a b
   · exact d2 k k' a b
theorem Hp.dis_un' {f g h : Hp} : f.dis (g.un h) ↔ f.dis g ∧ f.dis h := by
 constructor
 · exact fun d => ⟨fun k k' a b => d k k' a (Hp.un_ne.2 (.inl b)), fun k k' a b => d k k' a (Hp.un_ne.2 (.inr b))⟩
 · rintro ⟨d1, d2⟩ k k' a b
   rcases Hp.un_ne.1 b with b | b
   · exact d1 k k' a b
   · exact d2 k k' a b
theorem sep_comm (A B : Assn) : A * B = B * A := by
 funext h
 apply propext
 constructor
 · rintro ⟨g, k, d, rfl, a, b⟩; exact ⟨k, g, d.symm, Hp.un_comm d, b, a⟩
 · rintro ⟨g, k, d, rfl, a, b⟩; exact ⟨k, g, d.symm, Hp.un_comm d, b, a⟩
theorem sep_assoc (A B C : Assn) : A * B * C = A * (B * C) := by
 funext h
 apply propext
 constructor
 · rintro ⟨g, k, d, rfl, ⟨g1, g2, d', rfl, a, b⟩, c⟩
   obtain ⟨d1, d2⟩ := Hp.dis_un.1 d
   exact ⟨g1, g2.un k, Hp.dis_un'.2 ⟨d', d1⟩, Hp.un_assoc _ _ _, a, g2, k, d2, rfl, b, c⟩
 · rintro ⟨g, k, d, rfl, a, ⟨k1, k2, d', rfl, b, c⟩⟩
   obtain ⟨d1, d2⟩ := Hp.dis_un'.1 d
   exact ⟨g.un k1, k2, Hp.dis_un.2 ⟨d2, d'⟩, (Hp.un_assoc _ _ _).symm, ⟨g, k1, d1, rfl, a, b⟩, c⟩
instance : Std.Associative (α := Assn) (· * ·) := ⟨sep_assoc⟩
instance : Std.Commutative (α := Assn) (· * ·) := ⟨sep_comm⟩
theorem one_sep (A : Assn) : 1 * A = A := by
 funext h
 apply propext
 constructor
 · rintro ⟨g, k, d, rfl, a, b⟩
   have e : g = fun _ => none := a
   subst e
   exact b
 · intro a
   exact ⟨fun _ => none, h, fun _ _ x => absurd rfl x, rfl, rfl, a⟩
theorem sep_one (A : Assn) : A * 1 = A := by rw [sep_comm, one_sep]
theorem sep_left (A B C : Assn) : A * (B * C) = B * (A * C) := by ac_rfl
def Sat (A : Assn) (w : World) : Prop := ∃ h : Hp, A h ∧ ∀ k r, h k = some r → Has w k r
theorem Sat.eq {A B : Assn} {w : World} (h : Sat A w) (e : A = B) : Sat B w := e ▸ h
theorem Sat.weak {A B : Assn} {w : World} (h : Sat (A * B) w) : Sat A w := by
 obtain ⟨_, ⟨g, k, d, rfl, a, b⟩, H⟩ := h
 exact ⟨g, a, fun k' r e => H k' r (by simp [Hp.un, e])⟩
theorem Sat.right {A B : Assn} {w : World} (h : Sat (A * B) w) : Sat B w := by
 rw [sep_comm] at h; exact h.weak
theorem Sat.update {A B F : Assn} {w w' : World} (hs : Sat (A * F) w)
 (H : ∀ g : Hp, A g → (∀ k r, g k = some r → Has w k r) → ∃ g' : Hp, B g' ∧ (∀ k r, g' k = some r → Has w' k r) ∧
   (∀ k r, Has w k r → (∀ k', g k' ≠ none → ¬ Clash k' k) → Has w' k r ∧ ∀ k', g' k' ≠ none → ¬ Clash k' k)) : Sat (B * F) w' := by
 obtain ⟨_, ⟨g, k, d, rfl, a, b⟩, hh⟩ := hs
 obtain ⟨g', b', h1, h2⟩ := H g a (fun k' r e => hh k' r (by simp [Hp.un, e]))
 have hk : ∀ k' r, k k' = some r → Has w k' r := by
  intro k' r e
  refine hh k' r ?_
  have : (g.un k) = k.un g := Hp.un_comm d
  rw [this]; simp [Hp.un, e]
 refine ⟨g'.un k, ⟨g', k, ?_, rfl, b', b⟩, ?_⟩
 · intro k1 k2 e1 e2
   obtain ⟨r, hr⟩ := Option.ne_none_iff_exists'.1 e2
   exact (h2 k2 r (hk k2 r hr) (fun k3 e3 => d k3 k2 e3 e2)).2 k1 e1
 · intro k1 r e
   unfold Hp.un at e
   cases hg : g' k1 with
   | some r' => rw [hg] at e; cases e; exact h1 _ _ hg
   | none => rw [hg] at e; exact (h2 k1 r (hk k1 r e) (fun k3 e3 => d k3 k1 e3 (by simp [e]))).1
theorem Sat.same {A : Assn} {w w' : World} (hs : Sat A w) (hh : w'.heap = w.heap) (ho : w'.os = w.os) (ht : w'.tape = w.tape) (hp : w'.output = w.output) : Sat A w' := by
 obtain ⟨h, a, H⟩ := hs
 refine ⟨h, a, fun k r e => ?_⟩
 have := H k r e
 cases k <;> cases r <;> simp only [Has, hh, ho, ht, hp] at this ⊢ <;> exact this
theorem Sat.drew {A : Assn} {w : World} (hs : Sat A w) : Sat A w.drew := hs.same rfl rfl rfl rfl
theorem Sat.drewN {A : Assn} {w : World} (n : Nat) (hs : Sat A w) : Sat A (w.drewN n) := hs.same rfl rfl rfl rfl
/-! The atoms. -/
def one (k : Key) (r : Res) : Hp := fun k' => if k' = k then some r else none
theorem one_ne {k k' : Key} {r : Res} : one k r k' ≠ none ↔ k' = k := by
 unfold one; split <;> simp_all
theorem one_some {k k' : Key} {r r' : Res} (h : one k r k' = some r') : k' = k ∧ r' = r := by
 unfold one at h; split at h <;> simp_all
theorem one_self (k : Key) (r : Res) : one k r k = some r := by simp [one]
def cell (b i : Nat) (v : Value) : Assn := fun h => h = one (.cell b i) (.val v)
def hdr (b : Nat) (t : TypeId) (n : Nat) : Assn := fun h => h = one (.hdr b) (.shp t n)
def raw (b : Nat) (o : Obj) : Assn := fun h => h = one (.raw b) (.obj o)
def env (w : World) : Assn := fun h => h = one .env (.io w.os w.tape w.output)
def atom (k : Key) (r : Res) : Assn := fun h => h = one k r
theorem Sat.has {k : Key} {r : Res} {F : Assn} {w : World} (hs : Sat (atom k r * F) w) : Has w k r := by
 obtain ⟨_, ⟨g, _, _, rfl, rfl, _⟩, H⟩ := hs
 exact H k r (by simp [Hp.un, one_self])
theorem Sat.blk {b i : Nat} {v : Value} {F : Assn} {w : World} (hs : Sat (cell b i v * F) w) : ∃ c t, w.heap[b]? = some (.cells c t (0, 0)) ∧ c[i]? = some v :=
 Sat.has (k := .cell b i) (r := .val v) hs
theorem Sat.shp {b n : Nat} {t : TypeId} {F : Assn} {w : World} (hs : Sat (hdr b t n * F) w) : ∃ c, w.heap[b]? = some (.cells c t (0, 0)) ∧ c.size = n :=
 Sat.has (k := .hdr b) (r := .shp t n) hs
theorem Sat.obj {b : Nat} {o : Obj} {F : Assn} {w : World} (hs : Sat (raw b o * F) w) : w.heap[b]? = some o :=
 Sat.has (k := .raw b) (r := .obj o) hs
theorem Sat.io {e : World} {F : Assn} {w : World} (hs : Sat (env e * F) w) : w.os = e.os ∧ w.tape = e.tape ∧ w.output = e.output :=
 Sat.has (k := .env) (r := .io e.os e.tape e.output) hs
theorem Sat.cell {b i : Nat} {v : Value} {F : Assn} {w : World} (hs : Sat (cell b i v * F) w) : w.cell? ⟨b, i, none⟩ = some v := by
 obtain ⟨c, t, h1, h2⟩ := hs.blk
 simp [World.cell?, h1, h2]
theorem Sat.free {b i : Nat} {v : Value} {F : Assn} {w : World} (hs : Sat (Sl.cell b i v * F) w) (j : Nat) : w.frozen? ⟨b, j, none⟩ = false := by
 obtain ⟨c, t, h1, h2⟩ := hs.blk
 simp [World.frozen?, h1]
theorem Sat.lt {b i : Nat} {v : Value} {F : Assn} {w : World} (hs : Sat (Sl.cell b i v * F) w) : b < w.heap.size := by
 obtain ⟨c, t, h1, h2⟩ := hs.blk
 rcases Nat.lt_or_ge b w.heap.size with h | h
 · exact h
 · simp [Array.getElem?_eq_none h] at h1
theorem lt_of_some {w : World} {b : Nat} {o : Obj} (h : w.heap[b]? = some o) : b < w.heap.size := by
 rcases Nat.lt_or_ge b w.heap.size with h' | h'
 · exact h'
 · simp [Array.getElem?_eq_none h'] at h
theorem Has.lt {w : World} {k : Key} {r : Res} {b : Nat} (h : Has w k r) (hb : k.blk = some b) : b < w.heap.size := by
 cases k <;> cases r <;> simp only [Has, Key.blk, Option.some.injEq, reduceCtorEq] at h hb
 · subst hb; exact lt_of_some h
 · obtain ⟨c, t, h, _⟩ := h; subst hb; exact lt_of_some h
 · obtain ⟨c, h, _⟩ := h; subst hb; exact lt_of_some h
theorem Sat.setCell {b i : Nat} {v : Value} {F : Assn} {w : World} (hs : Sat (Sl.cell b i v * F) w) (v' : Value) : Sat (Sl.cell b i v' * F) (w.setCell ⟨b, i, none⟩ v') := by
 refine hs.update fun g hg H => ?_
 subst hg
 obtain ⟨c, t, h1, h2⟩ : ∃ c t, w.heap[b]? = some (.cells c t (0, 0)) ∧ c[i]? = some v := H (.cell b i) (.val v) (one_self _ _)
 have hi : i < c.size := by
  rcases Nat.lt_or_ge i c.size with h | h
  · exact h
  · simp [Array.getElem?_eq_none h] at h2
 have hb : (w.setCell ⟨b, i, none⟩ v').heap[b]? = some (.cells (c.setIfInBounds i v') t (0, 0)) := by
  simp [World.setCell, Array.getElem?_modify, h1]
 have ho : ∀ b', b' ≠ b → (w.setCell ⟨b, i, none⟩ v').heap[b']? = w.heap[b']? := by
  intro b' hne
  simp only [World.setCell, Array.getElem?_modify]
  rw [if_neg (fun e => hne e.symm)]
 refine ⟨one (.cell b i) (.val v'), rfl, ?_, ?_⟩
 · intro k r e
   obtain ⟨rfl, rfl⟩ := one_some e
   exact ⟨_, _, hb, by simp [hi]⟩
 · intro k r hk hc
   have hcl := hc (.cell b i) (by simp [one_self])
   refine ⟨?_, fun k' e => by rw [one_ne] at e; subst e; exact hcl⟩
   cases k with
   | raw b' =>
     have hne : b' ≠ b := fun e => hcl (.inr ⟨.inr trivial, by simp [Key.blk, e]⟩)
     cases r <;> simp only [Has] at hk ⊢
     rw [ho _ hne]; exact hk
   | cell b' i' =>
     cases r <;> simp only [Has] at hk ⊢
     obtain ⟨c', t', e1, e2⟩ := hk
     by_cases hbb : b' = b
     · subst hbb
       rw [h1] at e1; cases e1
       have hne : i ≠ i' := fun e => hcl (.inl (by rw [e]))
       exact ⟨_, _, hb, by rw [Array.getElem?_setIfInBounds]; simp [hne, e2]⟩
     · exact ⟨c', t', by rw [ho _ hbb]; exact e1, e2⟩
   | hdr b' =>
     cases r <;> simp only [Has] at hk ⊢
     obtain ⟨c', e1, e2⟩ := hk
     by_cases hbb : b' = b
     · subst hbb
       rw [h1] at e1; cases e1
       exact ⟨_, hb, by simp [e2]⟩
     · exact ⟨c', by rw [ho _ hbb]; exact e1, e2⟩
   | env =>
     cases r <;> simp only [Has] at hk ⊢
     exact hk
theorem Sat.setRaw {b : Nat} {o : Obj} {F : Assn} {w : World} (hs : Sat (raw b o * F) w) (o' : Obj) : Sat (raw b o' * F) { w with heap := w.heap.setIfInBounds b o' } := by
 refine hs.update fun g hg H => ?_
 subst hg
 have h1 : w.heap[b]? = some o := H (.raw b) (.obj o) (one_self _ _)
 have hlt := lt_of_some h1
 have ho : ∀ b', b' ≠ b → (w.heap.setIfInBounds b o')[b']? = w.heap[b']? := by
  intro b' hne
  rw [Array.getElem?_setIfInBounds_ne (fun e => hne e.symm)]
 refine ⟨one (.raw b) (.obj o'), rfl, ?_, ?_⟩
 · intro k r e
   obtain ⟨rfl, rfl⟩ := one_some e
   simp [Has, hlt]
 · intro k r hk hc
   have hcl := hc (.raw b) (by simp [one_self])
   refine ⟨?_, fun k' e => by rw [one_ne] at e; subst e; exact hcl⟩
   have hne : ∀ b', k.blk = some b' → b' ≠ b := fun b' e e' => hcl (.inr ⟨.inl trivial, by rw [e, e']; rfl⟩)
   cases k <;> cases r <;> simp only [Has, Key.blk, Option.some.injEq, forall_eq'] at hk hne ⊢ <;> first | (rw [ho _ hne]; exact hk) | exact hk
def cells (b : Nat) : Nat → List Value → Assn
 | _, [] => 1
 | i, v :: vs => Sl.cell b i v * cells b (i + 1) vs
def block (b : Nat) (t : TypeId) (vs : List Value) : Assn := hdr b t vs.length * cells b 0 vs
theorem Sat.alloc_raw {F : Assn} {w : World} (hs : Sat F w) (o : Obj) : Sat (raw w.heap.size o * F) (w.alloc o) := by
 rw [← one_sep F] at hs
 refine hs.update fun g hg _ => ?_
 refine ⟨one (.raw w.heap.size) (.obj o), rfl, ?_, ?_⟩
 · intro k r e
   obtain ⟨rfl, rfl⟩ := one_some e
   show (w.heap.push o)[w.heap.size]? = some o
   simp
 · intro k r hk _
   have ho : ∀ b', b' < w.heap.size → (w.alloc o).heap[b']? = w.heap[b']? := by
    intro b' h; show (w.heap.push o)[b']? = _; rw [Array.getElem?_push, if_neg (by omega)]
   refine ⟨?_, ?_⟩
   · have hl := fun b' => Has.lt hk (b := b')
     cases k <;> cases r <;> simp only [Has, Key.blk, Option.some.injEq, forall_eq'] at hk hl ⊢ <;> first | (rw [ho _ hl]; exact hk) | exact hk
   · intro k' e
     rw [one_ne] at e; subst e
     rintro (rfl | ⟨_, e⟩)
     · exact absurd (Has.lt hk (b := w.heap.size) rfl) (by omega)
     · exact absurd (Has.lt hk (b := w.heap.size) e.symm) (by omega)
theorem cells_hp (b i : Nat) (vs : List Value) : ∃ h : Hp, cells b i vs h ∧ (∀ k, h k ≠ none → ∃ j, j < vs.length ∧ k = .cell b (i + j)) ∧ (∀ j v, vs[j]? = some v → h (.cell b (i + j)) = some (.val v)) := by
 induction vs generalizing i with
 | nil => exact ⟨fun _ => none, rfl, fun k h => absurd rfl h, fun j v h => by simp at h⟩
 | cons v vs ih =>
   obtain ⟨h, h1, h2, h3⟩ := ih (i + 1)
   refine ⟨(one (.cell b i) (.val v)).un h, ⟨_, _, ?_, rfl, rfl, h1⟩, ?_, ?_⟩
   · intro k k' e e' hc
     rw [one_ne] at e; subst e
     obtain ⟨j, hj, rfl⟩ := h2 _ e'
     rcases hc with hc | ⟨hc | hc, _⟩
     · simp only [Key.cell.injEq, true_and] at hc; omega
     · exact hc
     · exact hc
   · intro k e
     rcases Hp.un_ne.1 e with e | e
     · rw [one_ne] at e; exact ⟨0, by simp, by simpa using e⟩
     · obtain ⟨j, hj, rfl⟩ := h2 _ e
       exact ⟨j + 1, by simp; omega, by congr 1; omega⟩
   · intro j u hj
     cases j with
     | zero => simp only [List.getElem?_cons_zero, Option.some.injEq] at hj; subst hj; simp [Hp.un, one_self]
     | succ j =>
       simp only [List.getElem?_cons_succ] at hj
       have := h3 j u hj
       have e : i + 1 + j = i + (j + 1) := by omega
       rw [e] at this
       have hn : one (.cell b i) (.val v) (.cell b (i + (j + 1))) = none := by
        cases hh : one (.cell b i) (.val v) (.cell b (i + (j + 1))) with
        | none => rfl
        | some r => have := (one_some hh).1; simp only [Key.cell.injEq, true_and] at this; omega
       simp [Hp.un, hn, this]
theorem block_hp (b : Nat) (t : TypeId) (vs : List Value) : ∃ h : Hp, block b t vs h ∧ (∀ k, h k ≠ none → k = .hdr b ∨ ∃ j, j < vs.length ∧ k = .cell b j) ∧ (h (.hdr b) = some (.shp t vs.length)) ∧ (∀ j v, vs[j]? = some v → h (.cell b j) = some (.val v)) := by
 obtain ⟨h, h1, h2, h3⟩ := cells_hp b 0 vs
 simp only [Nat.zero_add] at h2 h3
 have hx : h (.hdr b) = none := by
  cases hh : h (.hdr b) with
  | none => rfl
  | some r => obtain ⟨j, _, e⟩ := h2 (.hdr b) (by simp [hh]); cases e
 refine ⟨(one (.hdr b) (.shp t vs.length)).un h, ⟨_, _, ?_, rfl, rfl, h1⟩, ?_, ?_, ?_⟩
 · intro k k' e e' hc
   rw [one_ne] at e; subst e
   obtain ⟨j, hj, rfl⟩ := h2 _ e'
   rcases hc with hc | ⟨hc | hc, _⟩
   · cases hc
   · exact hc
   · exact hc
 · intro k e
   rcases Hp.un_ne.1 e with e | e
   · rw [one_ne] at e; exact .inl e
   · exact .inr (h2 _ e)
 · simp [Hp.un, one_self]
 · intro j v hj
   have hn : one (.hdr b) (.shp t vs.length) (.cell b j) = none := by
    cases hh : one (.hdr b) (.shp t vs.length) (.cell b j) with
    | none => rfl
    | some r => have := (one_some hh).1; cases this
   simp [Hp.un, hn, h3 j v hj]
theorem Sat.open_raw {b : Nat} {t : TypeId} {c : Array Value} {F : Assn} {w : World} (hs : Sat (raw b (.cells c t (0, 0)) * F) w) : Sat (block b t c.toList * F) w := by
 refine hs.update fun g hg H => ?_
 subst hg
 have h1 : w.heap[b]? = some (.cells c t (0, 0)) := H (.raw b) (.obj _) (one_self _ _)
 obtain ⟨h, a1, a2, a3, a4⟩ := block_hp b t c.toList
 refine ⟨h, a1, ?_, ?_⟩
 · intro k r e
   rcases a2 k (by simp [e]) with rfl | ⟨j, hj, rfl⟩
   · rw [a3] at e; cases e
     exact ⟨c, h1, by simp⟩
   · rw [a4 j (c.toList[j]) (by simp)] at e; cases e
     exact ⟨c, t, h1, by simp at hj ⊢⟩
 · intro k r hk hc
   have hcl := hc (.raw b) (by simp [one_self])
   refine ⟨hk, fun k' e => ?_⟩
   rintro hcl'
   apply hcl
   rcases a2 k' e with rfl | ⟨j, hj, rfl⟩
   · rcases hcl' with rfl | ⟨_, e⟩
     · exact .inr ⟨.inl trivial, rfl⟩
     · exact .inr ⟨.inl trivial, e⟩
   · rcases hcl' with rfl | ⟨_, e⟩
     · exact .inr ⟨.inl trivial, rfl⟩
     · exact .inr ⟨.inl trivial, e⟩
theorem Sat.alloc {F : Assn} {w : World} (hs : Sat F w) (c : Array Value) (t : TypeId) : Sat (Sl.block w.heap.size t c.toList * F) (w.alloc (.cells c t)) :=
 (hs.alloc_raw (.cells c t)).open_raw
theorem Sat.cells_at {b i : Nat} {vs : List Value} {F : Assn} {w : World} (hs : Sat (cells b i vs * F) w) : ∀ j v, vs[j]? = some v → w.cell? ⟨b, i + j, none⟩ = some v := by
 induction vs generalizing i F with
 | nil => intro j v h; simp at h
 | cons u vs ih =>
   intro j v h
   have hs' : Sat (Sl.cell b i u * cells b (i + 1) vs * F) w := hs
   cases j with
   | zero => simp only [List.getElem?_cons_zero, Option.some.injEq] at h; subst h; rw [sep_assoc] at hs'; exact hs'.cell
   | succ j =>
     simp only [List.getElem?_cons_succ] at h
     have := ih (F := Sl.cell b i u * F) (hs'.eq (by ac_rfl)) j v h
     rw [← this]; congr 2; omega
theorem Sat.block_heap {b : Nat} {t : TypeId} {vs : List Value} {F : Assn} {w : World} (hs : Sat (Sl.block b t vs * F) w) : w.heap[b]? = some (.cells vs.toArray t (0, 0)) := by
 have hs' : Sat (hdr b t vs.length * (cells b 0 vs * F)) w := hs.eq (sep_assoc _ _ _)
 obtain ⟨c, h1, h2⟩ := hs'.shp
 have hc := (hs'.eq (sep_left _ _ _)).cells_at
 rw [h1]
 congr 2
 apply Array.ext
 · simp [h2]
 · intro j hj hj'
   have := hc j vs[j] (by simp at hj'; simp [hj'])
   simp only [Nat.zero_add, World.cell?, h1] at this
   simp at this
   rw [Array.getElem?_eq_getElem hj] at this
   simpa using this
theorem cells_append (b i : Nat) (xs ys : List Value) : cells b i (xs ++ ys) = cells b i xs * cells b (i + xs.length) ys := by
 induction xs generalizing i with
 | nil => simp [cells, one_sep]
 | cons x xs ih =>
   simp only [List.cons_append, cells, ih, List.length_cons, sep_assoc]
   congr 3
   omega
end Go.Sl
/-
 Finding and changing an atom of an assertion by instances; what a world's cells say then.
-/
namespace Go.Sl
set_option linter.unusedSimpArgs false
set_option linter.unusedVariables false
class HasC (A : Assn) (b i : Nat) (v : outParam Value) : Prop where
 out : ∃ F, A = Sl.cell b i v * F
class HasR (A : Assn) (b : Nat) (o : outParam Obj) : Prop where
 out : ∃ F, A = raw b o * F
class HasH (A : Assn) (b : Nat) (t : outParam TypeId) (n : outParam Nat) : Prop where
 out : ∃ F, A = hdr b t n * F
class Upd (A : Assn) (b i : Nat) (v' : Value) (A' : outParam Assn) : Prop where
 out : ∃ v F, A = Sl.cell b i v * F ∧ A' = Sl.cell b i v' * F
class UpdR (A : Assn) (b : Nat) (o' : Obj) (A' : outParam Assn) : Prop where
 out : ∃ o F, A = raw b o * F ∧ A' = raw b o' * F
class Take (S A : Assn) (R : outParam Assn) : Prop where
 out : S = A * R
instance (b i : Nat) (v : Value) : HasC (Sl.cell b i v) b i v := ⟨1, (sep_one _).symm⟩
instance (A B : Assn) (b i : Nat) (v : Value) [h : HasC A b i v] : HasC (A * B) b i v := let ⟨F, e⟩ := h.out; ⟨F * B, by rw [e, sep_assoc]⟩
instance (A B : Assn) (b i : Nat) (v : Value) [h : HasC B b i v] : HasC (A * B) b i v := let ⟨F, e⟩ := h.out; ⟨A * F, by rw [e, sep_left]⟩
instance (b : Nat) (o : Obj) : HasR (raw b o) b o := ⟨1, (sep_one _).symm⟩
instance (A B : Assn) (b : Nat) (o : Obj) [h : HasR A b o] : HasR (A * B) b o := let ⟨F, e⟩ := h.out; ⟨F * B, by rw [e, sep_assoc]⟩
instance (A B : Assn) (b : Nat) (o : Obj) [h : HasR B b o] : HasR (A * B) b o := let ⟨F, e⟩ := h.out; ⟨A * F, by rw [e, sep_left]⟩
instance (b n : Nat) (t : TypeId) : HasH (hdr b t n) b t n := ⟨1, (sep_one _).symm⟩
instance (A B : Assn) (b n : Nat) (t : TypeId) [h : HasH A b t n] : HasH (A * B) b t n := let ⟨F, e⟩ := h.out; ⟨F * B, by rw [e, sep_assoc]⟩
instance (A B : Assn) (b n : Nat) (t : TypeId) [h : HasH B b t n] : HasH (A * B) b t n := let ⟨F, e⟩ := h.out; ⟨A * F, by rw [e, sep_left]⟩
instance (b i : Nat) (v v' : Value) : Upd (Sl.cell b i v) b i v' (Sl.cell b i v') := ⟨v, 1, (sep_one _).symm, (sep_one _).symm⟩
instance (A B A' : Assn) (b i : Nat) (v' : Value) [h : Upd A b i v' A'] : Upd (A * B) b i v' (A' * B) := let ⟨v, F, e, e'⟩ := h.out; ⟨v, F * B, by rw [e, sep_assoc], by rw [e', sep_assoc]⟩
instance (A B B' : Assn) (b i : Nat) (v' : Value) [h : Upd B b i v' B'] : Upd (A * B) b i v' (A * B') := let ⟨v, F, e, e'⟩ := h.out; ⟨v, A * F, by rw [e, sep_left], by rw [e', sep_left]⟩
instance (b : Nat) (o o' : Obj) : UpdR (raw b o) b o' (raw b o') := ⟨o, 1, (sep_one _).symm, (sep_one _).symm⟩
instance (A B A' : Assn) (b : Nat) (o' : Obj) [h : UpdR A b o' A'] : UpdR (A * B) b o' (A' * B) := let ⟨v, F, e, e'⟩ := h.out; ⟨v, F * B, by rw [e, sep_assoc], by rw [e', sep_assoc]⟩
instance (A B B' : Assn) (b : Nat) (o' : Obj) [h : UpdR B b o' B'] : UpdR (A * B) b o' (A * B') := let ⟨v, F, e, e'⟩ := h.out; ⟨v, A * F, by rw [e, sep_left], by rw [e', sep_left]⟩
instance (A : Assn) : Take A A 1 := ⟨(sep_one _).symm⟩
instance (A B X R : Assn) [h : Take A X R] : Take (A * B) X (R * B) := ⟨by rw [h.out, sep_assoc]⟩
instance (A B X R : Assn) [h : Take B X R] : Take (A * B) X (A * R) := ⟨by rw [h.out, sep_left]⟩
instance (priority := high) (A B : Assn) : Take (A * B) A B := ⟨rfl⟩
instance (priority := high) (A B : Assn) : Take (A * B) B A := ⟨sep_comm _ _⟩
theorem Sat.take {S : Assn} {w : World} (hs : Sat S w) (A : Assn) {R : Assn} [h : Take S A R] : Sat (A * R) w := hs.eq h.out
theorem Sat.c {A : Assn} {w : World} (hs : Sat A w) (b i : Nat) {v : Value} [h : HasC A b i v] : w.cell? ⟨b, i, none⟩ = some v := by
 obtain ⟨F, rfl⟩ := h.out; exact hs.cell
theorem Sat.f {A : Assn} {w : World} (hs : Sat A w) (b i : Nat) {v : Value} [h : HasC A b i v] : w.frozen? ⟨b, i, none⟩ = false := by
 obtain ⟨F, rfl⟩ := h.out; exact hs.free i
theorem Sat.r {A : Assn} {w : World} (hs : Sat A w) (b : Nat) {o : Obj} [h : HasR A b o] : w.heap[b]? = some o := by
 obtain ⟨F, rfl⟩ := h.out; exact hs.obj
theorem Sat.upd {A A' : Assn} {w : World} (hs : Sat A w) (b i : Nat) (v' : Value) [h : Upd A b i v' A'] : Sat A' (w.setCell ⟨b, i, none⟩ v') := by
 obtain ⟨v, F, rfl, rfl⟩ := h.out; exact hs.setCell v'
end Go.Sl
/-
 Maps: a map's block reads as a list of pairs; lookup, update, delete, len, range and next over it.
-/
namespace Go.Sl
set_option linter.unusedSimpArgs false
set_option linter.unusedVariables false
section
variable {κ : Type}
def mget [DecidableEq κ] (k : κ) : List (κ × Value) → Option Value
 | [] => none
 | p :: l => if k = p.1 then some p.2 else mget k l
def mput [DecidableEq κ] (k : κ) (v : Value) : List (κ × Value) → List (κ × Value)
 | [] => [(k, v)]
 | p :: l => if k = p.1 then (k, v) :: l else p :: mput k v l
def mdel [DecidableEq κ] (k : κ) : List (κ × Value) → List (κ × Value)
 | [] => []
 | p :: l => if k = p.1 then l else p :: mdel k l
structure KeyOk [DecidableEq κ] (P : Program) (kt : TypeId) (kf : κ → Value) : Prop where
 und : ∃ kd, P.underlying kt = some kd ∧ ∀ a b, Instr.sameNow kd (kf a) (kf b) = some (decide (a = b))
 chk : ∀ e n a w, (Instr.checkKey e (n + 1) kt (kf a)).run P w = .ok () w
 bits : ∀ n a, Instr.sameBits n (kf a) (kf a) = true
def MapIs (kf : κ → Value) (o : Obj) (ms : List (κ × Value)) : Prop :=
 ∃ es clock, o = .map es clock ∧ (es.toList.map fun e => (e.key, e.val)) = ms.map (fun p => (kf p.1, p.2)) ∧ (es.toList.map (·.born)).Nodup ∧ ∀ e ∈ es.toList, e.born < clock
def mp (kf : κ → Value) (b : Nat) (ms : List (κ × Value)) : Assn := fun h => ∃ o, MapIs kf o ms ∧ raw b o h
theorem Sat.mp_open {kf : κ → Value} {b : Nat} {ms : List (κ × Value)} {F : Assn} {w : World} (hs : Sat (mp kf b ms * F) w) : ∃ o, MapIs kf o ms ∧ Sat (raw b o * F) w := by
 obtain ⟨_, ⟨g, k, d, rfl, ⟨o, ho, hr⟩, hF⟩, H⟩ := hs
 exact ⟨o, ho, _, ⟨g, k, d, rfl, hr, hF⟩, H⟩
theorem Sat.mp_shut {kf : κ → Value} {b : Nat} {ms : List (κ × Value)} {F : Assn} {w : World} {o : Obj} (ho : MapIs kf o ms) (hs : Sat (raw b o * F) w) : Sat (mp kf b ms * F) w := by
 obtain ⟨_, ⟨g, k, d, rfl, hr, hF⟩, H⟩ := hs
 exact ⟨_, ⟨g, k, d, rfl, ⟨o, ho, hr⟩, hF⟩, H⟩
theorem findNow_of [DecidableEq κ] {kf : κ → Value} {kd : TypeDesc} (hsame : ∀ a b, Instr.sameNow kd (kf a) (kf b) = some (decide (a = b))) (k : κ) :
 ∀ (ms : List (κ × Value)) (es : List MapEntry) (i : Nat), (es.map fun e => (e.key, e.val)) = ms.map (fun p => (kf p.1, p.2)) →
  ∃ r, Instr.findNow kd (kf k) es i = some r ∧ r.map (·.2) = mget k ms ∧
   (∀ j v, r = some (j, v) → i ≤ j ∧ ∃ e, es[j - i]? = some e ∧ e.key = kf k ∧ e.val = v ∧
     (∀ v' e', e'.key = kf k → e'.val = v' → ((es.set (j - i) e').map fun e => (e.key, e.val)) = (mput k v' ms).map (fun p => (kf p.1, p.2))) ∧
     ((es.eraseIdx (j - i)).map fun e => (e.key, e.val)) = (mdel k ms).map (fun p => (kf p.1, p.2))) ∧
   (r = none → mdel k ms = ms)
 | [], es, i, h => by
  have : es = [] := by simpa using h
  subst this
  exact ⟨none, rfl, rfl, (fun _ _ e => by cases e), fun _ => rfl⟩
 | p :: ms, [], i, h => by simp at h
 | p :: ms, e :: es, i, h => by
   simp only [List.map_cons, List.cons.injEq, Prod.mk.injEq] at h
   obtain ⟨⟨h1, h2⟩, h3⟩ := h
   simp only [Instr.findNow, h1, hsame]
   by_cases hk : k = p.1
   · subst hk
     simp only [decide_true]
     refine ⟨_, rfl, by simp [mget, h2], ?_, fun e => by cases e⟩
     intro j v e1
     cases e1
     refine ⟨Nat.le_refl _, e, by simp, h1, rfl, ?_, ?_⟩
     · intro v' e' a1 a2
       simp [mput, a1, a2, h3]
     · simp [mdel, h3]
   · simp only [hk, decide_false]
     obtain ⟨r, r1, r2, r3, r4⟩ := findNow_of hsame k ms es (i + 1) h3
     refine ⟨r, r1, by simp [mget, hk, r2], ?_, ?_⟩
     · intro j v e1
       obtain ⟨a1, e0, a2, a3, a4, a5, a6⟩ := r3 j v e1
       have hj : j - i = (j - (i + 1)) + 1 := by omega
       refine ⟨by omega, e0, by rw [hj]; simpa using a2, a3, a4, ?_, ?_⟩
       · intro v' e' b1 b2
         rw [hj]
         simp [mput, hk, a5 v' e' b1 b2, h1, h2]
       · rw [hj]
         simp [mdel, hk, a6, h1, h2]
     · intro e1
       simp [mdel, hk, r4 e1]
theorem mput_new [DecidableEq κ] {k : κ} {v : Value} {ms : List (κ × Value)} (h : mget k ms = none) : mput k v ms = ms ++ [(k, v)] := by
 induction ms with
 | nil => rfl
 | cons p ms ih =>
   unfold mget at h
   split at h
   · cases h
   · rename_i hk; simp [mput, hk, ih h]
variable {P : Program} {kt : TypeId} {kf : κ → Value}
theorem run_lookup_mp [DecidableEq κ] (K : KeyOk P kt kf) {t e : TypeId} {z : Value} (ht : P.underlying t = some (.map kt e)) (hz : ∀ w, (zeroValue e).run P w = .ok z w) {w : World} {b : Nat} {o : Obj} {ms : List (κ × Value)}
 (hb : w.heap[b]? = some o) (ho : MapIs kf o ms) (k : κ) (ok : Bool) :
 (Instr.lookup t (.map (some b)) (kf k) ok).run P w = .ok (if ok then .tuple #[(mget k ms).getD z, .bool (mget k ms).isSome] else (mget k ms).getD z) w := by
 obtain ⟨es, clock, rfl, h1, _, _⟩ := ho
 obtain ⟨kd, hk, hsame⟩ := K.und
 obtain ⟨r, r1, r2, _⟩ := findNow_of hsame k ms es.toList 0 h1
 have hg : (getObj b).run P w = .ok (.map es clock) w := by simp [getObj, Sem.run, hb]
 have hc := K.chk es.isEmpty 9999 k w
 unfold Instr.lookup
 simp only [Sem.run_bind, underlying, run_program, Result.andThen_ok, ht, Sem.run_pure, hg, hc, Instr.findKey, hk, r1]
 cases r with
 | none =>
   simp only [Option.map_none] at r2
   simp only [Sem.run_bind, hz, Result.andThen_ok, Sem.run_pure, ← r2]
   cases ok <;> rfl
 | some q =>
   obtain ⟨j, v⟩ := q
   simp only [Option.map_some] at r2
   simp only [← r2]
   cases ok <;> rfl
theorem run_len_mp {t e : TypeId} (ht : P.underlying t = some (.map kt e)) {w : World} {b : Nat} {o : Obj} {ms : List (κ × Value)}
 (hb : w.heap[b]? = some o) (ho : MapIs kf o ms) (ty : TypeId) :
 (Builtin.len_ #[t] ty #[.map (some b)]).run P w = .ok (.int .i64 ms.length) w := by
 obtain ⟨es, clock, rfl, h1, _, _⟩ := ho
 have hg : (getObj b).run P w = .ok (.map es clock) w := by simp [getObj, Sem.run, hb]
 have hl : es.size = ms.length := by have := congrArg List.length h1; simpa using this
 simp [Builtin.len_, underlying, ht, hg, goInt, hl]
theorem nodup_set {l : List MapEntry} {i : Nat} {e e' : MapEntry} (h : l[i]? = some e) (hb : e'.born = e.born) : (l.set i e').map (·.born) = l.map (·.born) := by
 induction l generalizing i with
 | nil => simp
 | cons x l ih =>
   cases i with
   | zero => simp at h; subst h; simp [hb]
   | succ i => simp at h; simp [ih h]
theorem run_mapUpdate_mp [DecidableEq κ] (K : KeyOk P kt kf) {t e : TypeId} (ht : P.underlying t = some (.map kt e)) {w : World} {b : Nat} {o : Obj} {ms : List (κ × Value)}
 (hb : w.heap[b]? = some o) (ho : MapIs kf o ms) (k : κ) (v : Value) :
 ∃ o', MapIs kf o' (mput k v ms) ∧ (Instr.mapUpdate t (.map (some b)) (kf k) v).run P w = .ok () { w with heap := w.heap.setIfInBounds b o' } := by
 obtain ⟨es, clock, rfl, h1, h2, h3⟩ := ho
 obtain ⟨kd, hk, hsame⟩ := K.und
 obtain ⟨r, r1, r2, r3, r4⟩ := findNow_of hsame k ms es.toList 0 h1
 have hg : (getObj b).run P w = .ok (.map es clock) w := by simp [getObj, Sem.run, hb]
 have hset : ∀ o' : Obj, (setObj b o').run P w = .ok () { w with heap := w.heap.setIfInBounds b o' } := by intro o'; simp [setObj, Sem.run, hb]
 have hc := K.chk false 9999 k w
 cases r with
 | none =>
   have hn : mget k ms = none := by simpa using r2.symm
   refine ⟨.map (es.push { key := kf k, val := v, born := clock }) (clock + 1), ⟨_, _, rfl, ?_, ?_, ?_⟩, ?_⟩
   · rw [mput_new hn]; simp [h1]
   · simp only [Array.toList_push, List.map_append, List.map_cons, List.map_nil]
     rw [List.nodup_append]
     refine ⟨h2, by simp, ?_⟩
     intro a ha c hc'
     simp only [List.mem_singleton] at hc'
     obtain ⟨x, hx, rfl⟩ := List.mem_map.1 ha
     have := h3 x hx
     omega
   · intro x hx
     simp only [Array.toList_push, List.mem_append, List.mem_singleton] at hx
     rcases hx with hx | rfl
     · have := h3 x hx; omega
     · exact Nat.lt_succ_self _
   · unfold Instr.mapUpdate
     simp only [Sem.run_bind, underlying, run_program, Result.andThen_ok, ht, Sem.run_pure, hg, hc, Instr.findKey, hk, r1, hset]
 | some q =>
   obtain ⟨j, u⟩ := q
   obtain ⟨_, e0, a2, a3, a4, a5, a6⟩ := r3 j u rfl
   simp only [Nat.sub_zero] at a2 a5 a6
   have hkey : ((es[j]?).map (·.key)).getD (kf k) = kf k := by
    have : es[j]? = some e0 := by simpa using a2
    simp [this, a3]
   have hmod : (es.modify j fun e => { e with key := kf k, val := v }).toList = es.toList.set j { e0 with key := kf k, val := v } := by
    have hj : j < es.toList.length := by
     rcases Nat.lt_or_ge j es.toList.length with h | h
     · exact h
     · simp only [List.getElem?_eq_none h] at a2; cases a2
    have hj' : es.toList[j] = e0 := by simpa [List.getElem?_eq_getElem hj] using a2
    rw [Array.toList_modify, List.modify_eq_set, a2]
    rfl
   refine ⟨.map (es.modify j fun e => { e with key := kf k, val := v }) clock, ⟨_, _, rfl, ?_, ?_, ?_⟩, ?_⟩
   · rw [hmod]; exact a5 v _ rfl rfl
   · rw [hmod, nodup_set (e := e0) (e' := { e0 with key := kf k, val := v }) a2 rfl]; exact h2
   · intro x hx
     rw [hmod] at hx
     rcases List.mem_or_eq_of_mem_set hx with hx | rfl
     · exact h3 x hx
     · exact h3 e0 (List.mem_of_getElem? a2)
   · have hkt : (Instr.keyThatStays (kf k) (kf k)).run P w = .ok (kf k) w := by simp [Instr.keyThatStays, K.bits]
     unfold Instr.mapUpdate
     simp only [Sem.run_bind, underlying, run_program, Result.andThen_ok, ht, Sem.run_pure, hg, hc, Instr.findKey, hk, r1, hkey, hkt, hset]
theorem map_eraseIdx {α β : Type} (f : α → β) : ∀ (l : List α) (i : Nat), (l.eraseIdx i).map f = (l.map f).eraseIdx i
 | [], _ => rfl
 | _ :: _, 0 => rfl
 | x :: l, i + 1 => by simp [map_eraseIdx f l i]
theorem nodup_eraseIdx {l : List Nat} (h : l.Nodup) (i : Nat) : (l.eraseIdx i).Nodup := h.sublist (List.eraseIdx_sublist l i)
theorem run_delete_mp [DecidableEq κ] (K : KeyOk P kt kf) {t e : TypeId} (ht : P.underlying t = some (.map kt e)) {w : World} {b : Nat} {o : Obj} {ms : List (κ × Value)}
 (hb : w.heap[b]? = some o) (ho : MapIs kf o ms) (k : κ) :
 ∃ o', MapIs kf o' (mdel k ms) ∧ ∀ kt' ty, (Builtin.delete_ #[t, kt'] ty #[.map (some b), kf k]).run P w = .ok (.tuple #[]) { w with heap := w.heap.setIfInBounds b o' } := by
 obtain ⟨es, clock, rfl, h1, h2, h3⟩ := ho
 obtain ⟨kd, hk, hsame⟩ := K.und
 obtain ⟨r, r1, r2, r3, r4⟩ := findNow_of hsame k ms es.toList 0 h1
 have hg : (getObj b).run P w = .ok (.map es clock) w := by simp [getObj, Sem.run, hb]
 have hset : ∀ o' : Obj, (setObj b o').run P w = .ok () { w with heap := w.heap.setIfInBounds b o' } := by intro o'; simp [setObj, Sem.run, hb]
 have hc := K.chk es.isEmpty 9999 k w
 cases r with
 | none =>
   refine ⟨.map es clock, ⟨_, _, rfl, by rw [r4 rfl]; exact h1, h2, h3⟩, ?_⟩
   intro kt' ty
   unfold Builtin.delete_
   simp only [Sem.run_bind, underlying, run_program, Result.andThen_ok, ht, Sem.run_pure, hg, hc, Instr.findKey, hk, r1, hset, List.getElem?_toArray, List.getElem?_cons_zero, List.getElem?_cons_succ]
 | some q =>
   obtain ⟨j, u⟩ := q
   obtain ⟨_, e0, a2, a3, a4, a5, a6⟩ := r3 j u rfl
   simp only [Nat.sub_zero] at a2 a5 a6
   have hj : j < es.size := by
    rcases Nat.lt_or_ge j es.size with h | h
    · exact h
    · rw [List.getElem?_eq_none (by simpa using h)] at a2; cases a2
   have hmod : (es.eraseIdxIfInBounds j).toList = es.toList.eraseIdx j := by simp [Array.eraseIdxIfInBounds, hj]
   refine ⟨.map (es.eraseIdxIfInBounds j) clock, ⟨_, _, rfl, ?_, ?_, ?_⟩, ?_⟩
   · rw [hmod]; exact a6
   · rw [hmod]
     have : (es.toList.eraseIdx j).map (·.born) = (es.toList.map (·.born)).eraseIdx j := map_eraseIdx _ _ _
     rw [this]; exact nodup_eraseIdx h2 j
   · intro x hx
     rw [hmod] at hx
     exact h3 x (List.mem_of_mem_eraseIdx hx)
   · intro kt' ty
     unfold Builtin.delete_
     simp only [Sem.run_bind, underlying, run_program, Result.andThen_ok, ht, Sem.run_pure, hg, hc, Instr.findKey, hk, r1, hset, List.getElem?_toArray, List.getElem?_cons_zero, List.getElem?_cons_succ]
end
theorem int_keyOk {P : Program} {kt : TypeId} {q : IntKind} (h : P.underlying kt = some (.int q)) : KeyOk P kt (fun n : Int => Value.int q n) where
 und := ⟨_, h, fun a b => by
  simp only [Instr.sameNow, if_true]
  congr 1⟩
 chk := fun e n a w => by simp [Instr.checkKey, underlying, h]
 bits := fun n a => by cases n <;> simp [Instr.sameBits]
theorem bytes_beq (a b : ByteArray) : (a == b) = decide (a = b) := by
 rw [Bool.eq_iff_iff]
 rcases a with ⟨a⟩
 rcases b with ⟨b⟩
 show ByteArray.beq ⟨a⟩ ⟨b⟩ = true ↔ _
 simp [ByteArray.beq]
theorem string_keyOk {P : Program} {kt : TypeId} (h : P.underlying kt = some .string) : KeyOk P kt (fun s : ByteArray => Value.string s) where
 und := ⟨_, h, fun a b => by
  simp only [Instr.sameNow, bytes_beq]⟩
 chk := fun e n a w => by simp [Instr.checkKey, underlying, h]
 bits := fun n a => by cases n <;> simp [Instr.sameBits, bytes_beq]
end Go.Sl
/-
 Two addresses held against each other; small laws for walks.
-/
namespace Go.Sl
set_option linter.unusedSimpArgs false
set_option linter.unusedVariables false
theorem run_sameAddr {P : Program} {w : World} {a b : Addr} (ha : ∃ c t, w.heap[a.block]? = some (.cells c t (0, 0))) (hb : ∃ c t, w.heap[b.block]? = some (.cells c t (0, 0))) :
 (sameAddr a b).run P w = .ok (a == b) w := by
 obtain ⟨c, t, ha⟩ := ha
 obtain ⟨d, u, hb⟩ := hb
 unfold sameAddr
 by_cases h : a.block = b.block
 · simp [h]
 · have hne : (a == b) = false := by
    cases hab : (a == b) with
    | false => rfl
    | true => exact absurd (congrArg Addr.block (eq_of_beq hab)) h
   simp [h, hne, World.frozen?, ha, hb, noView, viewAt, World.shape?, mayBeOne, stringish]
theorem run_equalIn_ptr {P : Program} {w : World} {t e n : Nat} {a b : Addr} (d : Nat) (ht : P.underlying t = some (.pointer e)) (hn : (P.info? e).map (·.size) = some (n + 1))
 (ha : ∃ c t, w.heap[a.block]? = some (.cells c t (0, 0))) (hb : ∃ c t, w.heap[b.block]? = some (.cells c t (0, 0))) :
 (Op.equalIn (d + 1) t (.pointer (some a)) (.pointer (some b))).run P w = .ok (a == b) w := by
 obtain ⟨i, hi, hi2⟩ := Option.map_eq_some_iff.1 hn
 have h : (sizeOf e).run P w = .ok (n + 1) w := by simp [sizeOf, typeInfo, hi, hi2]
 simp [Op.equalIn, underlying, ht, h, run_sameAddr ha hb]
theorem run_neq_ptr {P : Program} {w : World} {t e n : Nat} {a b : Addr} (ht : P.underlying t = some (.pointer e)) (hn : (P.info? e).map (·.size) = some (n + 1))
 (ha : ∃ c t, w.heap[a.block]? = some (.cells c t (0, 0))) (hb : ∃ c t, w.heap[b.block]? = some (.cells c t (0, 0))) :
 (binOp .neq t (.pointer (some a)) (.pointer (some b))).run P w = .ok (.bool (!(a == b))) w := by
 have h : (Op.equal t (.pointer (some a)) (.pointer (some b))).run P w = .ok (a == b) w := run_equalIn_ptr 9999 ht hn ha hb
 simp [binOp, h]
theorem Sat.row {A : Assn} {w : World} (hs : Sat A w) (b i : Nat) {v : Value} [h : HasC A b i v] : ∃ c t, w.heap[b]? = some (.cells c t (0, 0)) := by
 obtain ⟨F, rfl⟩ := h.out
 obtain ⟨c, t, h1, _⟩ := hs.blk
 exact ⟨c, t, h1⟩
end Go.Sl
/-
 Slices that are owned: append, make, copy, cutting; all in the logic of Sl.
-/
namespace Go.Sl
set_option linter.unusedSimpArgs false
set_option linter.unusedVariables false
def rw (e : TypeId) (s : Nat) (v : Value) (xs : List Value) : Assn := fun h =>
 (v = .slice none 0 0 ∧ xs = [] ∧ emp h) ∨
 ∃ g n cap sp, v = .slice (some ⟨g, 0, none⟩) n cap ∧ xs.length = n * s ∧ (xs ++ sp).length = cap * s ∧ n ≤ cap ∧ cap ≤ maxLen ∧ block g e (xs ++ sp) h
theorem Sat.rw_open {e s : Nat} {v : Value} {xs : List Value} {F : Assn} {w : World} (hs : Sat (rw e s v xs * F) w) :
 (v = .slice none 0 0 ∧ xs = [] ∧ Sat F w) ∨
 ∃ g n cap sp, v = .slice (some ⟨g, 0, none⟩) n cap ∧ xs.length = n * s ∧ (xs ++ sp).length = cap * s ∧ n ≤ cap ∧ cap ≤ maxLen ∧ Sat (block g e (xs ++ sp) * F) w := by
 obtain ⟨_, ⟨g, k, d, rfl, h | ⟨g', n, cap, sp, h1, h2, h3, h4, h5, h6⟩, hF⟩, H⟩ := hs
 · obtain ⟨h1, h2, h3⟩ := h
   refine .inl ⟨h1, h2, ?_⟩
   rw [← one_sep F]
   exact ⟨_, ⟨g, k, d, rfl, h3, hF⟩, H⟩
 · exact .inr ⟨g', n, cap, sp, h1, h2, h3, h4, h5, _, ⟨g, k, d, rfl, h6, hF⟩, H⟩
theorem Sat.rw_nil {e s : Nat} {F : Assn} {w : World} (hs : Sat F w) : Sat (rw e s (.slice none 0 0) [] * F) w := by
 rw [← one_sep F] at hs
 obtain ⟨_, ⟨g, k, d, rfl, h, hF⟩, H⟩ := hs
 exact ⟨_, ⟨g, k, d, rfl, .inl ⟨rfl, rfl, h⟩, hF⟩, H⟩
theorem Sat.rw_shut {e s : Nat} {xs : List Value} {F : Assn} {w : World} {g n cap : Nat} {sp : List Value} (h2 : xs.length = n * s) (h3 : (xs ++ sp).length = cap * s) (h4 : n ≤ cap) (h5 : cap ≤ maxLen)
 (hs : Sat (block g e (xs ++ sp) * F) w) : Sat (rw e s (.slice (some ⟨g, 0, none⟩) n cap) xs * F) w := by
 obtain ⟨_, ⟨g', k, d, rfl, h, hF⟩, H⟩ := hs
 exact ⟨_, ⟨g', k, d, rfl, .inr ⟨g, n, cap, sp, rfl, h2, h3, h4, h5, h⟩, hF⟩, H⟩
theorem run_storeCells_sl {P : Program} {b o : Nat} : ∀ (news olds : List Value) (j : Nat) (F : Assn) (w : World), Sat (cells b (o + j) olds * F) w → olds.length = news.length → (∀ u ∈ news, u.oneCell' = true) →
 ∃ w', (storeCells ⟨b, o, none⟩ news j).run P w = .ok () w' ∧ Sat (cells b (o + j) news * F) w'
 | [], olds, j, F, w, hs, hl, _ => by
  have : olds = [] := by simpa using hl
  subst this
  exact ⟨w, rfl, hs⟩
 | v :: news, [], j, F, w, hs, hl, _ => by simp at hl
 | v :: news, u :: olds, j, F, w, hs, hl, h1 => by
   have hs' : Sat (Sl.cell b (o + j) u * (cells b (o + j + 1) olds * F)) w := hs.eq (sep_assoc _ _ _)
   have hs2 := hs'.setCell v
   have hs3 : Sat (cells b (o + (j + 1)) olds * (Sl.cell b (o + j) v * F)) (w.setCell ⟨b, o + j, none⟩ v) := hs2.eq (by rw [sep_left]; rfl)
   obtain ⟨w', r1, r2⟩ := run_storeCells_sl (P := P) news olds (j + 1) _ _ hs3 (by simpa using hl) (fun x hx => h1 x (List.mem_cons_of_mem _ hx))
   refine ⟨w', ?_, r2.eq ?_⟩
   · have e : (⟨b, o, none⟩ : Addr).add j = ⟨b, o + j, none⟩ := Addr.add_lit b o j
     have hv := h1 v List.mem_cons_self
     simp only [storeCells, Sem.run_bind, e]
     rw [run_store P w _ v .plain hv, hs'.cell, hs'.free (o + j)]
     simpa using r1
   · show cells b (o + (j + 1)) news * (Sl.cell b (o + j) v * F) = Sl.cell b (o + j) v * cells b (o + j + 1) news * F
     rw [sep_left, sep_assoc]; rfl
structure Src (P : Program) (s : Nat) (w : World) (x : Value) (m : Nat) (news : List Value) : Prop where
 len : ∀ n, (Builtin.lenOf x).run P (w.drewN n) = .ok m (w.drewN n)
 cells : ∀ n, (Builtin.firstCells s m x).run P (w.drewN n) = .ok news.toArray (w.drewN n)
 size : news.length = m * s
 one : ∀ u ∈ news, u.oneCell' = true
theorem Src.nil (P : Program) (s : Nat) (w : World) : Src P s w (.slice none 0 0) 0 [] :=
 ⟨fun _ => rfl, fun _ => rfl, by simp, by simp⟩
theorem Src.slice {P : Program} {s : Nat} {w : World} {b o m c : Nat} {news : List Value} (hl : news.length = m * s) (h : ∀ j u, news[j]? = some u → w.cell? ⟨b, o + j, none⟩ = some u) (h1 : ∀ u ∈ news, u.oneCell' = true) :
 Src P s w (.slice (some ⟨b, o, none⟩) m c) m news where
 len := fun _ => rfl
 cells := fun n => by
  show (loadCells ⟨b, o, none⟩ (m * s)).run P (w.drewN n) = _
  rw [← hl]
  exact run_loadCells_list _ _ news (fun j v hj => by rw [Addr.add_lit]; exact h j v hj)
 size := hl
 one := h1
theorem Src.string {P : Program} {w : World} (b : ByteArray) : Src P 1 w (.string b) b.size (b.data.toList.map fun x => Value.int .u8 x.toNat) where
 len := fun _ => rfl
 cells := fun n => by
  show (Pure.pure _ : Sem _).run P _ = _
  rw [Sem.run_pure]
  congr 1
  apply Array.ext'
  have e : (b.extract 0 b.size).data = b.data := by
   have := ByteArray.extract_zero_size (b := b)
   rw [this]
  simp [e]
 size := by rw [List.length_map, Nat.mul_one]; rfl
 one := by
  intro u hu
  obtain ⟨_, _, rfl⟩ := List.mem_map.1 hu
  rfl
theorem block_split (g : Nat) (e : TypeId) (xs ys : List Value) : block g e (xs ++ ys) = hdr g e (xs ++ ys).length * (cells g 0 xs * cells g xs.length ys) := by
 unfold block
 rw [cells_append]
 simp
theorem zeroCells_len (z : Array Value) (n : Nat) : (Builtin.zeroCells z n).size = n * z.size := by simp [Builtin.zeroCells]
structure ElemOk (P : Program) (t e s bytes : Nat) (i : TypeInfo) (z : Value) : Prop where
 und : P.underlying t = some (.slice e)
 info : P.info? e = some i
 zero : i.zero = some z
 size : i.size = s
 bytes : i.bytes = bytes
 zs : z.cells.size = s
 pos : 0 < s
theorem elemOk {P : Program} {t e s bytes : Nat} {z : Value} (ht : P.underlying t = some (.slice e)) (h : (P.info? e).map (fun i => (i.zero, i.size, i.bytes)) = some (some z, s, bytes)) (hz : z.cells.size = s) (hs : 0 < s) :
 ∃ i, ElemOk P t e s bytes i z := by
 obtain ⟨i, h1, h2, h3, h4⟩ := info_parts h
 exact ⟨i, ht, h1, h2, h3, h4, hz, hs⟩
theorem run_append_sl {P : Program} {t e s bytes : Nat} {i : TypeInfo} {z : Value} (E : ElemOk P t e s bytes i z) {tx : TypeId} {dx : TypeDesc} (htx : P.underlying tx = some dx) (hdx : ∀ k, dx ≠ .int k) (ty : TypeId)
 {base : Option Addr} {n cap m : Nat} {xs news : List Value} {x : Value} {F : Assn} {w : World}
 (hs : Sat (rw e s (.slice base n cap) xs * F) w) (hx : Src P s w x m news) (h63 : n + m ≤ maxLen) (hbound : (n + m) * bytes ≤ 140737488355328) :
 ∃ a' c' w', (Builtin.append_ #[t, tx] ty #[.slice base n cap, x]).run P w = .ok (.slice a' (n + m) c') w' ∧ Sat (rw e s (.slice a' (n + m) c') (xs ++ news) * F) w' ∧ (a' = none ↔ base = none ∧ m = 0) := by
 have hsz : (sizeOf e).run P w = .ok s w := by simp [sizeOf, typeInfo, E.info, E.size]
 have hxl : (Builtin.lenOf x).run P w = .ok m w := by simpa [World.drewN] using hx.len 0
 have hxc : (Builtin.firstCells s m x).run P w = .ok news.toArray w := by simpa [World.drewN] using hx.cells 0
 have hnz : (match dx with | .int _ => true | _ => false) = false := by
  cases dx <;> first | rfl | exact absurd rfl (hdx _)
 by_cases hfit : n + m ≤ cap
 · -- there is room
   rcases hs.rw_open with ⟨h1, h2, h3⟩ | ⟨g, n', cap', sp, h1, h2, h3, h4, h5, h6⟩
   · cases h1
     have hm : m = 0 := by omega
     subst hm
     have hn : news = [] := by have := hx.size; simpa using this
     subst hn h2
     refine ⟨none, 0, w, ?_, hs, by simp⟩
     unfold Builtin.append_
     simp [underlying, E.und, htx, hnz, hsz, hxl, hxc]
   · cases h1
     have hl : news.length ≤ sp.length := by
      rw [hx.size]
      have : xs.length + sp.length = cap * s := by simpa using h3
      have := Nat.mul_le_mul_right s hfit
      rw [Nat.add_mul] at this
      omega
     have hsplit : sp = sp.take news.length ++ sp.drop news.length := (List.take_append_drop _ _).symm
     have hs1 : Sat (cells g (n * s) (sp.take news.length) * (hdr g e (xs ++ sp).length * (cells g 0 xs * (cells g (n * s + news.length) (sp.drop news.length) * F)))) w := by
      refine h6.eq ?_
      rw [block_split]
      conv => lhs; rw [hsplit]
      rw [cells_append, ← h2]
      have : (sp.take news.length).length = news.length := by simp [hl]
      rw [this, List.take_append_drop]
      ac_rfl
     have hs1' : Sat (cells g (n * s + 0) (sp.take news.length) * (hdr g e (xs ++ sp).length * (cells g 0 xs * (cells g (n * s + news.length) (sp.drop news.length) * F)))) w := hs1
     obtain ⟨w', r1, r2⟩ := run_storeCells_sl (P := P) news (sp.take news.length) 0 _ w hs1' (by simp [hl]) hx.one
     refine ⟨some ⟨g, 0, none⟩, cap, w', ?_, ?_, by simp⟩
     · have ea : (⟨g, 0, none⟩ : Addr).add (n * s) = ⟨g, n * s, none⟩ := by rw [Addr.add_lit]; simp
       unfold Builtin.append_
       simp [underlying, E.und, htx, hnz, hsz, hxl, hxc, hfit, ea, r1]
     · refine Sat.rw_shut (sp := sp.drop news.length) ?_ ?_ hfit h5 (r2.eq ?_)
       · simp [h2, hx.size, Nat.add_mul]
       · have : xs.length + sp.length = cap * s := by simpa using h3
         simp only [List.length_append, List.length_drop]
         omega
       · rw [block_split]
         have e1 : (xs ++ news ++ sp.drop news.length).length = (xs ++ sp).length := by simp only [List.length_append, List.length_drop]; omega
         rw [e1, cells_append]
         simp only [Nat.add_zero, Nat.zero_add, List.length_append, ← h2]
         ac_rfl
 · -- it grows
   have hold : ∀ k, (Builtin.firstCells s n (.slice base n cap)).run P (w.drewN k) = .ok xs.toArray (w.drewN k) := by
    intro k
    rcases hs.rw_open with ⟨h1, h2, h3⟩ | ⟨g, n', cap', sp, h1, h2, h3, h4, h5, h6⟩
    · cases h1; subst h2; rfl
    · cases h1
      show (loadCells ⟨g, 0, none⟩ (n * s)).run P (w.drewN k) = _
      rw [← h2]
      refine run_loadCells_list _ _ xs (fun j v hj => ?_)
      rw [Addr.add_lit]
      have h7 : Sat (cells g 0 xs * (hdr g e (xs ++ sp).length * (cells g xs.length sp * F))) (w.drewN k) := (h6.drewN k).eq (by rw [block_split]; ac_rfl)
      exact h7.cells_at j v hj
   have hxs : xs.length = n * s ∧ Sat F w := by
    rcases hs.rw_open with ⟨h1, h2, h3⟩ | ⟨g, n', cap', sp, h1, h2, h3, h4, h5, h6⟩
    · cases h1; subst h2; exact ⟨by simp, h3⟩
    · cases h1; exact ⟨h2, h6.right⟩
   have hgrow := growslice_fits (bytes := bytes) (show cap < n + m by omega) hbound
   have h63' : ¬ ((n + m : Nat) : Int) > IntKind.i64.max := by
    have : n + m ≤ 9223372036854775807 := by simpa [maxLen] using h63
    have e : IntKind.i64.max = 9223372036854775807 := rfl
    rw [e]
    omega
   have hzero : ∀ k, (zeroValue e).run P (w.drewN k) = .ok z (w.drewN k) := by intro k; simp [zeroValue, typeInfo, E.info, E.zero]
   have htyi : ∀ w', (typeInfo e).run P w' = .ok i w' := by intro w'; simp [typeInfo, E.info]
   -- the new capacity
   let q := Question.appendCap (n + m) cap e
   let c' := q.cut (w.tape w.drawn q)
   have hc1 : n + m ≤ c' := by show n + m ≤ (n + m) + _; omega
   have hc2 : c' ≤ maxLen := by
    show (n + m) + _ % (2 ^ 63 - (n + m)) ≤ maxLen
    have h1 : n + m ≤ 9223372036854775807 := by simpa [maxLen] using h63
    have h2 : w.tape w.drawn q % (2 ^ 63 - (n + m)) < 2 ^ 63 - (n + m) := Nat.mod_lt _ (by omega)
    have h3 : maxLen = 9223372036854775807 := rfl
    omega
   let row := xs ++ news ++ (Builtin.zeroCells z.cells (c' - (n + m))).toList
   have hs3 : Sat (block (w.drewN 1).heap.size e row * F) ((w.drewN 1).alloc (.cells row.toArray e)) := by
    have := (hxs.2.drewN 1).alloc row.toArray e
    simpa using this
   refine ⟨some ⟨(w.drewN 1).heap.size, 0, none⟩, c', (w.drewN 1).alloc (.cells row.toArray e), ?_, ?_, ?_⟩
   · have hch : (choose q).run P w = .ok c' (w.drewN 1) := by
      rw [run_choose]
      simp only [q, Question.forced]
      rfl
     have hxc1 := hx.cells 1
     have hold1 := hold 1
     have hz1 := hzero 1
     have hrow : (newRow e (xs.toArray ++ news.toArray ++ Builtin.zeroCells z.cells (c' - (n + m)))).run P (w.drewN 1) = .ok ⟨(w.drewN 1).heap.size, 0, none⟩ ((w.drewN 1).alloc (.cells row.toArray e)) := by
      have e1 : xs.toArray ++ news.toArray ++ Builtin.zeroCells z.cells (c' - (n + m)) = row.toArray := by
       apply Array.ext'; simp [row]
      rw [e1]
      simp [newRow]
     unfold Builtin.append_
     simp only [Sem.run_bind, underlying, run_program, Result.andThen_ok, E.und, htx, List.getElem?_toArray, List.getElem?_cons_zero, List.getElem?_cons_succ, Sem.run_pure, hsz, hnz, hxl]
     have hb : ¬ (Builtin.nextslicecap (n + m) cap * i.bytes > 2 ^ 48) := by
      rw [E.bytes]
      have : (2 : Nat) ^ 48 = 281474976710656 := by decide
      omega
     simp only [Bool.false_eq_true, if_false, Sem.run_bind, Sem.run_pure, hxl, Result.andThen_ok, hfit, htyi, hb, h63', false_and, run_askRoom, hold1, hxc1, hz1, hrow]
     simp only [show (Question.appendCap (n + m) cap e) = q from rfl, hch, Result.andThen_ok, htyi, run_askRoom, hold1, hxc1, hz1, hrow, Bool.not_false, if_true]
   · refine Sat.rw_shut (sp := (Builtin.zeroCells z.cells (c' - (n + m))).toList) ?_ ?_ hc1 hc2 hs3
     · simp [hxs.1, hx.size, Nat.add_mul]
     · simp only [List.length_append, Array.length_toList, zeroCells_len, E.zs, hxs.1, hx.size]
       rw [← Nat.add_mul, ← Nat.add_mul]
       congr 1
       omega
   · have : ¬ (base = none ∧ m = 0) := by
      rintro ⟨rfl, rfl⟩
      rcases hs.rw_open with ⟨h1, h2, h3⟩ | ⟨g, n', cap', sp, h1, _⟩
      · cases h1; omega
      · cases h1
     simp [this]
theorem wpl_append {P : Program} {t e s bytes : Nat} {i : TypeInfo} {z : Value} (E : ElemOk P t e s bytes i z) {tx : TypeId} {dx : TypeDesc} (htx : P.underlying tx = some dx) (hdx : ∀ k, dx ≠ .int k)
 {ops : Array Oper} {Q : Exit → Act → World → Prop} {rest : List Oper} {o : Oper} {a : Act} (hgd : o.guard = none) (sop xop : Operand)
 (ho : o.op = .call { callee := .builtin .append, args := #[sop, xop], argTypes := #[t, tx] })
 {base : Option Addr} {n cap m : Nat} {xs news : List Value} {x : Value} {F : Assn} {w : World} (hsv : a.eval sop = .slice base n cap) (hxv : a.eval xop = x)
 (hs : Sat (rw e s (.slice base n cap) xs * F) w) (hx : Src P s w x m news) (h63 : n + m ≤ maxLen) (hbound : (n + m) * bytes ≤ 140737488355328)
 (h : ∀ a' c' w', Sat (rw e s (.slice a' (n + m) c') (xs ++ news) * F) w' → (a' = none ↔ base = none ∧ m = 0) → wpList P ops Q rest (a.put o.dst (.slice a' (n + m) c')) w') :
 wpList P ops Q (o :: rest) a w := by
 refine wpList_plain hgd fun K hK => ?_
 obtain ⟨a', c', w', r1, r2, r3⟩ := run_append_sl E htx hdx o.type hs hx h63 hbound
 unfold Oper.wp
 simp [execOp, ho, resolve, invoke, builtin, hsv, hxv, r1, Result.andThen]
 exact hK _ _ (h a' c' w' r2 r3)
theorem wpl_append_same {P : Program} {t e s bytes : Nat} {i : TypeInfo} {z : Value} (E : ElemOk P t e s bytes i z)
 {ops : Array Oper} {Q : Exit → Act → World → Prop} {rest : List Oper} {o : Oper} {a : Act} (hgd : o.guard = none) (sop xop : Operand)
 (ho : o.op = .call { callee := .builtin .append, args := #[sop, xop], argTypes := #[t, t] })
 {base : Option Addr} {n cap m : Nat} {xs news : List Value} {x : Value} {F : Assn} {w : World} (hsv : a.eval sop = .slice base n cap) (hxv : a.eval xop = x)
 (hs : Sat (rw e s (.slice base n cap) xs * F) w) (hx : Src P s w x m news) (h63 : n + m ≤ maxLen) (hbound : (n + m) * bytes ≤ 140737488355328)
 (h : ∀ a' c' w', Sat (rw e s (.slice a' (n + m) c') (xs ++ news) * F) w' → (a' = none ↔ base = none ∧ m = 0) → wpList P ops Q rest (a.put o.dst (.slice a' (n + m) c')) w') :
 wpList P ops Q (o :: rest) a w :=
 wpl_append E E.und (fun k hk => by cases hk) hgd sop xop ho hsv hxv hs hx h63 hbound h
theorem step_append_sl {P : Program} {t e s bytes : Nat} {i : TypeInfo} {z : Value} (E : ElemOk P t e s bytes i z) {ops : Array Oper} {o : Oper} {a : Act} {w : World} {K : Act → World → Prop} {Q : Exit → Act → World → Prop} {X : Prop}
 (hgd : o.guard = none) (sop xop : Operand) (ho : o.op = .call { callee := .builtin .append, args := #[sop, xop], argTypes := #[t, t] })
 {base : Option Addr} {n cap m : Nat} {xs news : List Value} {x : Value} {F : Assn} (hsv : a.eval sop = .slice base n cap) (hxv : a.eval xop = x)
 (hs : Sat (rw e s (.slice base n cap) xs * F) w) (hx : Src P s w x m news) (h63 : n + m ≤ maxLen) (hbound : (n + m) * bytes ≤ 140737488355328)
 (h : ∀ a' c' w', Sat (rw e s (.slice a' (n + m) c') (xs ++ news) * F) w' → (a' = none ↔ base = none ∧ m = 0) → K (a.put o.dst (.slice a' (n + m) c')) w') :
 if Region.wanted o (yielded ops a.tmps) = true then Oper.wp P o a w K Q else X := by
 have hw : Region.wanted o (yielded ops a.tmps) = true := by simp [Region.wanted, hgd]
 rw [if_pos hw]
 obtain ⟨a', c', w', r1, r2, r3⟩ := run_append_sl E E.und (fun k hk => by cases hk) o.type hs hx h63 hbound
 unfold Oper.wp
 simp [execOp, ho, resolve, invoke, builtin, hsv, hxv, r1, Result.andThen]
 exact h a' c' w' r2 r3
theorem Src.one_new {P : Program} {w : World} {b e : Nat} {v : Value} {F : Assn} (hs : Sat (block b e [v] * F) w) (hv : v.oneCell' = true) : Src P 1 w (.slice (some ⟨b, 0, none⟩) 1 1) 1 [v] := by
 refine Src.slice rfl (fun j u hj => ?_) (fun u hu => by simp at hu; subst hu; exact hv)
 cases j with
 | zero =>
   simp at hj; subst hj
   have : Sat (Sl.cell b 0 v * (hdr b e 1 * F)) w := hs.eq (by simp only [block, Sl.cells, sep_one, List.length_cons, List.length_nil, Nat.zero_add]; ac_rfl)
   exact this.cell
 | succ j => simp at hj
theorem Src.new {P : Program} {w : World} {b e s : Nat} {vs : List Value} {F : Assn} (hs : Sat (block b e vs * F) w) (hl : vs.length = s) (hv : ∀ v ∈ vs, v.oneCell' = true) : Src P s w (.slice (some ⟨b, 0, none⟩) 1 1) 1 vs := by
 refine Src.slice (by omega) (fun j u hj => ?_) hv
 have h7 : Sat (Sl.cells b 0 vs * (hdr b e vs.length * F)) w := hs.eq (by unfold block; ac_rfl)
 exact h7.cells_at j u hj
theorem drew_drewN (w : World) (n : Nat) : w.drew.drewN n = w.drewN (1 + n) := by
 show ({ w with drawn := w.drawn + 1 + n } : World) = { w with drawn := w.drawn + (1 + n) }
 rw [Nat.add_assoc]
theorem Src.drew {P : Program} {w : World} {s m : Nat} {x : Value} {news : List Value} (h : Src P s w x m news) : Src P s w.drew x m news :=
 ⟨fun n => by rw [drew_drewN]; exact h.len (1 + n), fun n => by rw [drew_drewN]; exact h.cells (1 + n), h.size, h.one⟩
theorem Sat.rw_len {e : Nat} {a : Option Addr} {n c : Nat} {xs : List Value} {F : Assn} {w : World} (hs : Sat (rw e 1 (.slice a n c) xs * F) w) : n = xs.length := by
 rcases hs.rw_open with ⟨h1, h2, h3⟩ | ⟨g, n', cap', sp, h1, h2, h3, h4, h5, h6⟩
 · cases h1; subst h2; rfl
 · cases h1; simpa using h2.symm
end Go.Sl
/-
 What was there before a call: held as it was.
-/
namespace Go.Sl
set_option linter.unusedSimpArgs false
set_option linter.unusedVariables false
open Go.RowKit
def old (w0 : World) : Assn := fun h => h = fun k => match k with
 | .raw b => (w0.heap[b]?).map Res.obj
 | .env => some (.io w0.os w0.tape w0.output)
 | _ => none
theorem Sat.old_self (w : World) : Sat (old w) w := by
 refine ⟨_, rfl, fun k r e => ?_⟩
 cases k with
 | raw b =>
   obtain ⟨o, ho, rfl⟩ := Option.map_eq_some_iff.1 e
   exact ho
 | env => cases e; exact ⟨rfl, rfl, rfl⟩
 | cell b i => cases e
 | hdr b => cases e
theorem Sat.old_below {w0 w : World} {F : Assn} (hs : Sat (old w0 * F) w) : Below w0.heap.size w0 w := by
 obtain ⟨h, a, H⟩ := hs.weak
 subst a
 have hb : ∀ b, b < w0.heap.size → w.heap[b]? = w0.heap[b]? := by
  intro b hb
  have := H (.raw b) (.obj w0.heap[b]) (by simp [hb])
  simp only [Has] at this
  rw [this]; simp [hb]
 have he : Has w .env (.io w0.os w0.tape w0.output) := H .env _ rfl
 refine ⟨he.1, he.2.1, he.2.2, ?_, hb⟩
 rcases Nat.lt_or_ge w.heap.size w0.heap.size with h | h
 · have := hb _ h
   simp [h] at this
 · exact h
theorem Sat.old_cell {w0 w : World} {F : Assn} (hs : Sat (old w0 * F) w) {a : Addr} {v : Value} (h : w0.cell? a = some v) : w.cell? a = some v := by
 rw [hs.old_below.cell (World.block_lt_of_cell? w0 a h)]; exact h
end Go.Sl
/-
 Slices of structs that came in: the cells of each element.
-/
namespace Go.Sl
set_option linter.unusedSimpArgs false
set_option linter.unusedVariables false
open Go.RowKit Go.Deep Go.ChangeShapes Go.WideShapes
def Rws (w : World) (v : Value) (s : Nat) (rs : List (List Value)) : Prop :=
 ∃ a c, v = .slice a rs.length c ∧ ∀ i r, rs[i]? = some r → r.length = s ∧ ∃ b o, a = some ⟨b, o, none⟩ ∧ ∀ j u, r[j]? = some u → w.cell? ⟨b, o + i * s + j, none⟩ = some u
theorem Rws.len {w : World} {v : Value} {s : Nat} {rs : List (List Value)} (h : Rws w v s rs) : ∃ a c, v = .slice a rs.length c := by
 obtain ⟨a, c, h, _⟩ := h
 exact ⟨a, c, h⟩
theorem Rws.at {w : World} {a : Option Addr} {n c s i : Nat} {rs : List (List Value)} {r : List Value} (h : Rws w (.slice a n c) s rs) (hi : rs[i]? = some r) :
 ∃ b o, a = some ⟨b, o, none⟩ ∧ ∀ j u, r[j]? = some u → w.cell? ⟨b, o + i * s + j, none⟩ = some u := by
 obtain ⟨a', c', h1, h2⟩ := h
 cases h1
 exact (h2 i r hi).2
theorem spot_none {w : World} {x : Addr} {u : Value} (h : w.cell? x = some u) : x.spot = none := by
 unfold World.cell? at h
 cases hs : x.spot with
 | none => rfl
 | some _ => simp [hs] at h; split at h <;> simp at h
theorem rows_of_trod {H : Type} {enc : TypeId × Value → H} {P : Program} {w : World} {base : Nat} {spare : Nat → Bool} {held : Bool} {t e fuel s : Nat} {a : Option Addr} {len cap : Nat} {x : DataW H × List MemPlace}
 (ht : P.underlying t = some (.slice e)) (hs : P.cellsOf e = s) (hpos : 0 < s) (h : DataW.trod enc P w base spare held fuel t [.slice a len cap] = some x) :
 ∃ rs, Rws w (.slice a len cap) s rs ∧ rs.length = len ∧ len ≤ maxLen ∧ ∀ r ∈ rs, ∃ n y, DataW.trod enc P w base spare held n e r = some y := by
 rcases open_slice ht h with ⟨h1, _⟩ | ⟨ad, len', cap', m, n, D, Pl, hcs, hb, hl, hm, hmm, hx, hi⟩
 · simp at h1
   obtain ⟨rfl, rfl, rfl⟩ := h1
   exact ⟨[], ⟨none, 0, rfl, fun i r hr => by simp at hr⟩, rfl, by simp, by simp⟩
 · simp at hcs
   obtain ⟨rfl, rfl, rfl⟩ := hcs
   have hlm : len ≤ m := by rw [hmm]; split <;> omega
   have hex : ∀ i : Nat, ∃ r : List Value, i < len → (w.cells? base (ad.add (i * s)) s = some r ∧ ∃ y, DataW.trod enc P w base spare held n e r = some y) := by
    intro i
    by_cases hil : i < len
    · obtain ⟨cs', h2, h3⟩ := hi i (by omega)
      rw [hs] at h2
      exact ⟨cs', fun _ => ⟨h2, _, h3⟩⟩
    · exact ⟨[], fun h => absurd h hil⟩
   let f : Nat → List Value := fun i => Classical.choose (hex i)
   have hf : ∀ i : Nat, i < len → (w.cells? base (ad.add (i * s)) s = some (f i) ∧ ∃ y, DataW.trod enc P w base spare held n e (f i) = some y) := fun i => Classical.choose_spec (hex i)
   refine ⟨(List.range len).map f, ⟨some ad, cap, by simp, fun i r hr => ?_⟩, by simp, by omega, ?_⟩
   · have hil : i < len := by
      rcases Nat.lt_or_ge i len with h | h
      · exact h
      · rw [List.getElem?_eq_none (by simpa using h)] at hr; cases hr
     have hr' : r = f i := by simp [hil] at hr; exact hr.symm
     subst hr'
     obtain ⟨h2, _⟩ := hf i hil
     obtain ⟨_, h3, h4⟩ := World.cells?_some h2
     refine ⟨h3, ?_⟩
     have hsp : ad.spot = none := by
      obtain ⟨h2', _⟩ := hf 0 (by omega)
      obtain ⟨_, h3', h4'⟩ := World.cells?_some h2'
      have := h4' 0 hpos
      rw [List.getElem?_eq_getElem (by omega)] at this
      have h5 := spot_none this
      simp [Addr.add] at h5
      exact h5
     obtain ⟨b, o, sp⟩ := ad
     simp only at hsp
     subst hsp
     refine ⟨b, o, rfl, fun j u hu => ?_⟩
     have hj : j < s := by
      rcases Nat.lt_or_ge j s with h | h
      · exact h
      · rw [List.getElem?_eq_none (by omega)] at hu; cases hu
     have := h4 j hj
     rw [Addr.add_lit, Addr.add_lit] at this
     rw [this]; exact hu
   · intro r hr
     obtain ⟨i, hi', rfl⟩ := List.mem_map.1 hr
     obtain ⟨_, y, hy⟩ := hf i (by simpa using hi')
     exact ⟨n, y, hy⟩
theorem field_of_trod {H : Type} {enc : TypeId × Value → H} {P : Program} {w : World} {base : Nat} {spare : Nat → Bool} {held : Bool} {t fuel : Nat} {r : List Value} {x : DataW H × List MemPlace} {fs : Array Field}
 (ht : P.underlying t = some (.struct fs)) (h : DataW.trod enc P w base spare held fuel t r = some x) :
 r.length = P.cellsOf t ∧ ∃ n, ∀ (i : Nat) (f : Field), fs[i]? = some f → ∃ y, DataW.trod enc P w base spare held n f.type ((r.drop f.offset).take (P.cellsOf f.type)) = some y := by
 obtain ⟨xs, n, _, _, h1, h2, h3⟩ := DataW.trod_struct ht h
 refine ⟨h1, n, fun i f hf => ?_⟩
 have hi : i < fs.size := (Array.getElem?_eq_some_iff.1 hf).1
 exact ⟨xs[i]'(by omega), by rw [h3 i f hf]; exact List.getElem?_eq_getElem (by omega)⟩
theorem int_of_trod {H : Type} {enc : TypeId × Value → H} {P : Program} {w : World} {base : Nat} {spare : Nat → Bool} {held : Bool} {t fuel : Nat} {v : Value} {x : DataW H × List MemPlace} {k : IntKind}
 (ht : P.underlying t = some (.int k)) (h : DataW.trod enc P w base spare held fuel t [v] = some x) : ∃ n, v = .int k n ∧ (Lit.int k n).wf = true := by
 obtain ⟨n, h1, _, h2⟩ := DataW.trod_int ht h
 exact ⟨n, by simpa using h1, h2⟩
end Go.Sl
/-
 Ranging over a map in whatever order; a row that is written anew.
-/
namespace Go.Sl
set_option linter.unusedSimpArgs false
set_option linter.unusedVariables false
theorem Sat.reblock {b t : Nat} {xs ys : List Value} {F : Assn} {w w' : World} (hs : Sat (block b t xs * F) w) (hl : ys.length = xs.length)
 (hb : w'.heap[b]? = some (.cells ys.toArray t (0, 0))) (ho : ∀ k, k < w.heap.size → k ≠ b → w'.heap[k]? = w.heap[k]?) (h1 : w'.os = w.os) (h2 : w'.tape = w.tape) (h3 : w'.output = w.output) : Sat (block b t ys * F) w' := by
 have hw := hs.block_heap
 obtain ⟨_, ⟨g, k, d, rfl, a, hF⟩, H⟩ := hs
 obtain ⟨g', a1, a2, a3, a4⟩ := block_hp b t ys
 -- what g holds
 have hg : ∀ k', k'.blk = some b → ∀ r, Has w k' r → g k' = none → k' = .raw b := by
  intro k' hk' r hr hn
  obtain ⟨gh, gc, dd, rfl, rfl, ac⟩ := (a : (hdr b t xs.length * cells b 0 xs) g)
  have hcells : ∀ j, j < xs.length → gc (.cell b j) ≠ none := by
   clear hn hr hk' dd
   have key : ∀ (vs : List Value) (i : Nat) (h : Hp), cells b i vs h → ∀ j, j < vs.length → h (.cell b (i + j)) ≠ none := by
    intro vs
    induction vs with
    | nil => intro i h _ j hj; simp at hj
    | cons v vs ih =>
      intro i h hh j hj
      obtain ⟨g1, g2, d1, rfl, rfl, h2⟩ := (hh : (Sl.cell b i v * cells b (i + 1) vs) h)
      rw [Hp.un_ne]
      cases j with
      | zero => exact .inl (by simp [one_self])
      | succ j =>
        right
        have := ih (i + 1) g2 h2 j (by simp at hj; omega)
        have e : i + 1 + j = i + (j + 1) := by omega
        rw [e] at this
        exact this
   intro j hj
   have := key xs 0 gc ac j hj
   simpa using this
  cases k' with
  | raw b' => simp [Key.blk] at hk'; rw [hk']
  | env => simp [Key.blk] at hk'
  | hdr b' =>
    simp [Key.blk] at hk'
    subst hk'
    exact absurd hn (Hp.un_ne.2 (.inl (by simp [one_self])))
  | cell b' i =>
    simp [Key.blk] at hk'
    subst hk'
    cases r <;> simp only [Has] at hr
    obtain ⟨c, tt, e1, e2⟩ := hr
    rw [hw] at e1
    cases e1
    have hi : i < xs.length := by
     rcases Nat.lt_or_ge i xs.length with h | h
     · exact h
     · simp [List.getElem?_eq_none h] at e2
    exact absurd hn (Hp.un_ne.2 (.inr (hcells i hi)))
 have hk : ∀ k' r, k k' = some r → Has w k' r := by
  intro k' r e
  refine H k' r ?_
  rw [Hp.un_comm d]; simp [Hp.un, e]
 have hblk : ∀ k' r, k k' = some r → k'.blk ≠ some b := by
  intro k' r e hb'
  have hgn : g k' = none := by
   cases hh : g k' with
   | none => rfl
   | some r' => exact absurd (.inl rfl) (d k' k' (by simp [hh]) (by simp [e]))
  have hraw := hg k' hb' r (hk k' r e) hgn
  subst hraw
  -- the header of b is held by g
  obtain ⟨gh, gc, dd, rfl, rfl, ac⟩ := (a : (hdr b t xs.length * cells b 0 xs) g)
  exact d (.hdr b) (.raw b) (Hp.un_ne.2 (.inl (by simp [one_self]))) (by simp [e]) (.inr ⟨.inr trivial, rfl⟩)
 refine ⟨g'.un k, ⟨g', k, ?_, rfl, a1, hF⟩, ?_⟩
 · intro k1 k2 e1 e2 hc
   obtain ⟨r, hr⟩ := Option.ne_none_iff_exists'.1 e2
   have hne := hblk k2 r hr
   have hb1 : k1.blk = some b := by rcases a2 k1 e1 with rfl | ⟨j, _, rfl⟩ <;> rfl
   rcases hc with rfl | ⟨_, e⟩
   · exact hne hb1
   · exact hne (e ▸ hb1)
 · intro k1 r e
   unfold Hp.un at e
   cases hg1 : g' k1 with
   | some r' =>
     rw [hg1] at e
     cases e
     rcases a2 k1 (by simp [hg1]) with rfl | ⟨j, hj, rfl⟩
     · rw [a3] at hg1; cases hg1
       exact ⟨_, hb, by simp⟩
     · rw [a4 j ys[j] (by simp [hj])] at hg1; cases hg1
       exact ⟨_, _, hb, by simp [hj]⟩
   | none =>
     rw [hg1] at e
     have hh := hk k1 r e
     have hne := hblk k1 r e
     have hl' := fun b' => Has.lt hh (b := b')
     cases k1 with
     | env => cases r <;> simp only [Has] at hh ⊢; rw [h1, h2, h3]; exact hh
     | raw b' => cases r <;> simp only [Has] at hh ⊢; rw [ho b' (hl' b' rfl) (fun e => hne (by rw [e]; rfl))]; exact hh
     | cell b' i => cases r <;> simp only [Has] at hh ⊢; rw [ho b' (hl' b' rfl) (fun e => hne (by rw [e]; rfl))]; exact hh
     | hdr b' => cases r <;> simp only [Has] at hh ⊢; rw [ho b' (hl' b' rfl) (fun e => hne (by rw [e]; rfl))]; exact hh
theorem Sat.at_get {b t k : Nat} {vs : List Value} {v : Value} {F : Assn} {w : World} (hs : Sat (block b t vs * F) w) (hk : vs[k]? = some v) : w.cell? ⟨b, k, none⟩ = some v ∧ w.frozen? ⟨b, k, none⟩ = false := by
 have hw := hs.block_heap
 have h7 : Sat (cells b 0 vs * (hdr b t vs.length * F)) w := hs.eq (by unfold block; ac_rfl)
 exact ⟨by have := h7.cells_at k v hk; simpa using this, by simp [World.frozen?, hw]⟩
/-! Ranging. -/
section
variable {κ : Type}
def Iter (kf : κ → Value) (M : Nat) (o oi : Obj) (ms rem : List (κ × Value)) : Prop :=
 ∃ es clock seen, o = .map es clock ∧ oi = .mapIter (some M) clock seen clock ∧
  (es.toList.map fun e => (e.key, e.val)) = ms.map (fun p => (kf p.1, p.2)) ∧ (es.toList.map (·.born)).Nodup ∧ (∀ e ∈ es.toList, e.born < clock) ∧
  ((es.toList.filter fun e => !seen.contains e.born).map fun e => (e.key, e.val)) = rem.map (fun p => (kf p.1, p.2))
theorem Iter.mapIs {kf : κ → Value} {M : Nat} {o oi : Obj} {ms rem : List (κ × Value)} (h : Iter kf M o oi ms rem) : MapIs kf o ms := by
 obtain ⟨es, clock, seen, h1, _, h3, h4, h5, _⟩ := h
 exact ⟨es, clock, h1, h3, h4, h5⟩
theorem run_range_mp {P : Program} {kf : κ → Value} {t kt e : TypeId} (ht : P.underlying t = some (.map kt e)) {w : World} {M : Nat} {o : Obj} {ms : List (κ × Value)} (hb : w.heap[M]? = some o) (ho : MapIs kf o ms) :
 ∃ oi, Iter kf M o oi ms ms ∧ (Instr.range t (.map (some M))).run P w = .ok (.pointer (some ⟨w.heap.size, 0, none⟩)) (w.alloc oi) := by
 obtain ⟨es, clock, rfl, h3, h4, h5⟩ := ho
 have hg : (getObj M).run P w = .ok (.map es clock) w := by simp [getObj, Sem.run, hb]
 refine ⟨.mapIter (some M) clock #[] clock, ⟨es, clock, #[], rfl, rfl, h3, h4, h5, ?_⟩, ?_⟩
 · have : (es.toList.filter fun e => !(#[] : Array Nat).contains e.born) = es.toList := List.filter_eq_self.2 fun e _ => by simp
   rw [this]; exact h3
 · simp [Instr.range, underlying, ht, hg]
theorem filter_push {l : List MapEntry} (hn : (l.map (·.born)).Nodup) {i : Nat} {e : MapEntry} (hi : l[i]? = some e) : (l.filter fun x => x.born != e.born) = l.eraseIdx i := by
 induction l generalizing i with
 | nil => simp
 | cons x l ih =>
   simp only [List.map_cons, List.nodup_cons] at hn
   cases i with
   | zero =>
     simp at hi
     subst hi
     have : (l.filter fun y => y.born != x.born) = l := List.filter_eq_self.2 fun y hy => by
      simp only [bne_iff_ne, ne_eq]
      intro e
      exact hn.1 (List.mem_map.2 ⟨y, hy, e⟩)
     simp [this]
   | succ i =>
     simp at hi
     have hxe : (x.born != e.born) = true := by
      simp only [bne_iff_ne, ne_eq]
      intro h
      exact hn.1 (List.mem_map.2 ⟨e, List.mem_of_getElem? hi, h.symm⟩)
     simp [hxe, ih hn.2 hi]
theorem run_next_mp {P : Program} {kf : κ → Value} {w : World} {M it : Nat} {o oi : Obj} {ms rem : List (κ × Value)} {F : Assn} (hs : Sat (raw M o * (raw it oi * F)) w) (hI : Iter kf M o oi ms rem) (ty : TypeId) :
 (rem = [] ∧ (Instr.next (.pointer (some ⟨it, 0, none⟩)) false ty).run P w = .ok (.tuple #[.bool false]) w) ∨
 ∃ (i : Nat) (k : κ) (v : Value) (oi' : Obj) (w' : World), rem[i]? = some (k, v) ∧ (Instr.next (.pointer (some ⟨it, 0, none⟩)) false ty).run P w = .ok (.tuple #[.bool true, kf k, v]) w' ∧
  Iter kf M o oi' ms (rem.eraseIdx i) ∧ Sat (raw M o * (raw it oi' * F)) w' ∧ (Instr.entry (.pointer (some ⟨it, 0, none⟩))).run P w' = .ok (.tuple #[kf k, v]) w' := by
 have hM := hs.obj
 have hs' : Sat (raw it oi * (raw M o * F)) w := hs.eq (sep_left _ _ _)
 have hit := hs'.obj
 obtain ⟨es, clock, seen, rfl, rfl, h3, h4, h5, h6⟩ := hI
 have hgM : ∀ w0 : World, w0.heap[M]? = some (.map es clock) → (getObj M).run P w0 = .ok (.map es clock) w0 := by intro w0 h; simp [getObj, Sem.run, h]
 have hgi : (getObj it).run P w = .ok (.mapIter (some M) clock seen clock) w := by simp [getObj, Sem.run, hit]
 have hbad : (!seen.isEmpty && !es.isEmpty && es.all fun x => decide (x.born ≥ clock)) = false := by
  cases hes : es.isEmpty with
  | true => simp
  | false =>
    have hne : es.toList ≠ [] := by intro h; simp [Array.isEmpty_iff] at hes; exact hes (by simpa using h)
    obtain ⟨e, he⟩ := List.exists_mem_of_ne_nil _ hne
    have : (es.all fun x => decide (x.born ≥ clock)) = false := by
     rw [← Array.all_toList, List.all_eq_false]
     exact ⟨e, he, by have := h5 e he; simp; omega⟩
    rw [this]; simp
 let left := es.filter fun e => !seen.contains e.born
 have hleft : left.toList = es.toList.filter fun e => !seen.contains e.born := by simp [left]
 have hold : left.filter (fun x => decide (x.born < clock)) = left := by
  apply Array.ext'
  rw [Array.toList_filter]
  refine List.filter_eq_self.2 fun e he => ?_
  rw [hleft] at he
  simpa using h5 e (List.mem_filter.1 he).1
 have hnew : left.filter (fun x => decide (x.born ≥ clock)) = #[] := by
  apply Array.ext'
  rw [Array.toList_filter]
  refine List.filter_eq_nil_iff.2 fun e he => ?_
  rw [hleft] at he
  have := h5 e (List.mem_filter.1 he).1
  simp; omega
 have hlen : left.toList.length = rem.length := by
  have := congrArg List.length h6
  rw [← hleft] at this
  simpa using this
 by_cases hrem : rem = []
 · left
   refine ⟨hrem, ?_⟩
   have hl0 : left = #[] := by
    apply Array.ext'
    have : left.toList.length = 0 := by rw [hlen, hrem]; rfl
    simpa using this
   unfold Instr.next
   simp only [Sem.run_bind, hgi, Result.andThen_ok, hgM w hM, hbad, Bool.false_eq_true, if_false, Sem.run_pure, Sem.run_ite]
   simp only [show (es.filter fun e => !seen.contains e.born) = left from rfl, hold, hnew, hl0]
   simp [run_choose, Question.forced]
 · right
   have hpos : 0 < left.size := by
    have : 0 < rem.length := List.length_pos_iff.2 hrem
    have h : left.size = rem.length := by simpa using hlen
    omega
   have hne : left.isEmpty = false := by
    simp [Array.isEmpty_iff]
    intro h
    rw [h] at hpos
    simp at hpos
   let q := Question.mapNext left.size
   let i := if q.forced then 0 else q.cut (w.tape w.drawn q)
   have hi : i < left.size := by
    show (if q.forced then 0 else q.cut (w.tape w.drawn q)) < left.size
    split
    · exact hpos
    · exact Nat.mod_lt _ hpos
   let wc : World := if q.forced then w else w.drew
   have hch : (choose (.mapNext left.size)).run P w = .ok i wc := by
    rw [run_choose]
    show (if q.forced then _ else _) = _
    by_cases hf : q.forced = true
    · simp only [hf, if_true]
      show _ = Result.ok (if q.forced then 0 else _) (if q.forced then w else w.drew)
      simp [hf]
    · have hf' : q.forced = false := by simpa using hf
      simp only [hf', Bool.false_eq_true, if_false]
      show _ = Result.ok (if q.forced then 0 else _) (if q.forced then w else w.drew)
      simp [hf', q]
   have hsc : Sat (raw M (.map es clock) * (raw it (.mapIter (some M) clock seen clock) * F)) wc := by
    show Sat _ (if q.forced then w else w.drew)
    split
    · exact hs
    · exact hs.drew
   let e := left[i]
   have hget : left.toList[i]? = some e := by simp [e, hi]
   have hrl : i < rem.length := by
    have h : left.size = rem.length := by simpa using hlen
    omega
   obtain ⟨⟨k, v⟩, hkv⟩ : ∃ p, rem[i]? = some p := ⟨rem[i], by simp [hrl]⟩
   have hev : (e.key, e.val) = (kf k, v) := by
    have h7 := congrArg (fun l => l[i]?) h6
    rw [← hleft] at h7
    simp only [List.getElem?_map, hget, hkv, Option.map_some, Option.some.injEq] at h7
    exact h7
   simp only [Prod.mk.injEq] at hev
   have hs2 : Sat (raw it (.mapIter (some M) clock (seen.push e.born) clock) * (raw M (.map es clock) * F)) { wc with heap := wc.heap.setIfInBounds it (.mapIter (some M) clock (seen.push e.born) clock) } :=
    (hsc.eq (sep_left _ _ _)).setRaw _
   have hit2 := (hsc.eq (sep_left _ _ _)).obj
   refine ⟨i, k, v, .mapIter (some M) clock (seen.push e.born) clock, _, hkv, ?_, ?_, hs2.eq (sep_left _ _ _), ?_⟩
   · have hsetr : (setObj it (.mapIter (some M) clock (seen.push e.born) clock)).run P wc = .ok () { wc with heap := wc.heap.setIfInBounds it (.mapIter (some M) clock (seen.push e.born) clock) } := by
      simp [setObj, Sem.run, hit2]
     have hcand : ((if left.isEmpty = true then #[none] else #[]) ++ (left ++ #[]).map some : Array (Option MapEntry)) = left.map some := by simp [hne]
     unfold Instr.next
     simp only [Sem.run_bind, hgi, Result.andThen_ok, hgM w hM, hbad, Bool.false_eq_true, if_false, Sem.run_pure, Sem.run_ite]
     simp only [show (es.filter fun e => !seen.contains e.born) = left from rfl, hold, hnew, hcand, Array.size_map, hch, Result.andThen_ok]
     have hgi2 : (left.map some)[i]? = some (some e) := by simp [hi, e]
     simp only [hgi2, Sem.run_bind, hsetr, Result.andThen_ok, Sem.run_pure, hev.1, hev.2]
   · refine ⟨es, clock, seen.push e.born, rfl, rfl, h3, h4, h5, ?_⟩
     have e1 : (es.toList.filter fun x => !(seen.push e.born).contains x.born) = (es.toList.filter fun x => !seen.contains x.born).filter fun x => x.born != e.born := by
      rw [List.filter_filter]
      congr 1
      funext x
      simp only [Array.contains_push, bne]
      cases seen.contains x.born <;> cases (x.born == e.born) <;> rfl
     have hn2 : (((es.toList.filter fun x => !seen.contains x.born)).map (·.born)).Nodup := h4.sublist (List.Sublist.map _ List.filter_sublist)
     rw [e1, filter_push hn2 (by rw [← hleft]; exact hget), map_eraseIdx, map_eraseIdx, h6]
   · have hM2 : ({ wc with heap := wc.heap.setIfInBounds it (.mapIter (some M) clock (seen.push e.born) clock) } : World).heap[M]? = some (.map es clock) := (hs2.eq (sep_left _ _ _)).obj
     have hit3 := hs2.obj
     have hmem : e ∈ es.toList := by
      have := List.mem_of_getElem? hget
      rw [hleft] at this
      exact (List.mem_filter.1 this).1
     have hfind : es.find? (fun x => x.born == e.born) = some e := by
      rw [← Array.find?_toList]
      have key : ∀ l : List MapEntry, (l.map (·.born)).Nodup → e ∈ l → l.find? (fun x => x.born == e.born) = some e := by
       intro l
       induction l with
       | nil => intro _ h; simp at h
       | cons x l ih =>
         intro hn hm
         simp only [List.map_cons, List.nodup_cons] at hn
         rcases List.mem_cons.1 hm with rfl | hm
         · simp
         · have : (x.born == e.born) = false := by
            simp only [beq_eq_false_iff_ne, ne_eq]
            intro h
            exact hn.1 (List.mem_map.2 ⟨e, hm, h.symm⟩)
           simp [this, ih hn.2 hm]
      exact key _ h4 hmem
     have hgi3 : (getObj it).run P { wc with heap := wc.heap.setIfInBounds it (.mapIter (some M) clock (seen.push e.born) clock) } = .ok (.mapIter (some M) clock (seen.push e.born) clock) { wc with heap := wc.heap.setIfInBounds it (.mapIter (some M) clock (seen.push e.born) clock) } := by
      simp only [getObj, Sem.run, hit3]
     unfold Instr.entry
     simp only [Sem.run_bind, hgi3, Result.andThen_ok, hgM _ hM2, Array.back?_push, Sem.run_pure]
     simp [hfind, hev.1, hev.2]
theorem run_next_sl {P : Program} {kf : κ → Value} {w : World} {M it : Nat} {o oi : Obj} {ms rem : List (κ × Value)} {F : Assn} (hs : Sat (raw M o * (raw it oi * F)) w) (hI : Iter kf M o oi ms rem) :
 (rem = [] ∧ ∀ ty, (Instr.next (.pointer (some ⟨it, 0, none⟩)) false ty).run P w = .ok (.tuple #[.bool false]) w) ∨
 ∃ (i : Nat) (k : κ) (v : Value) (oi' : Obj) (w' : World), rem[i]? = some (k, v) ∧ (∀ ty, (Instr.next (.pointer (some ⟨it, 0, none⟩)) false ty).run P w = .ok (.tuple #[.bool true, kf k, v]) w') ∧
  Iter kf M o oi' ms (rem.eraseIdx i) ∧ Sat (raw M o * (raw it oi' * F)) w' ∧ (Instr.entry (.pointer (some ⟨it, 0, none⟩))).run P w' = .ok (.tuple #[kf k, v]) w' := by
 rcases run_next_mp (P := P) hs hI 0 with ⟨h1, h2⟩ | ⟨i, k, v, oi', w', h1, h2, h3⟩
 · exact .inl ⟨h1, fun _ => h2⟩
 · exact .inr ⟨i, k, v, oi', w', h1, fun _ => h2, h3⟩
theorem perm_eraseIdx {α : Type} : ∀ (l : List α) (i : Nat) (x : α), l[i]? = some x → l.Perm (x :: l.eraseIdx i)
 | [], i, x, h => by simp at h
 | y :: l, 0, x, h => by simp at h; subst h; exact .refl _
 | y :: l, i + 1, x, h => by
   simp at h
   exact ((perm_eraseIdx l i x h).cons y).trans (.swap _ _ _)
end
end Go.Sl
/-
 Existence and plain facts inside assertions; bytes in memory; what an assertion lets one read; cutting a slice; copy into an owned row.
-/
namespace Go.Sl
set_option linter.unusedSimpArgs false
set_option linter.unusedVariables false
open Go.RowKit
def ex {α : Type} (A : α → Assn) : Assn := fun h => ∃ x, A x h
def pur (p : Prop) : Assn := fun h => p ∧ emp h
theorem Sat.ex_open {α : Type} {A : α → Assn} {F : Assn} {w : World} (hs : Sat (ex A * F) w) : ∃ x, Sat (A x * F) w := by
 obtain ⟨_, ⟨g, k, d, rfl, ⟨x, hx⟩, hF⟩, H⟩ := hs
 exact ⟨x, _, ⟨g, k, d, rfl, hx, hF⟩, H⟩
theorem Sat.ex_shut {α : Type} {A : α → Assn} (x : α) {F : Assn} {w : World} (hs : Sat (A x * F) w) : Sat (ex A * F) w := by
 obtain ⟨_, ⟨g, k, d, rfl, hx, hF⟩, H⟩ := hs
 exact ⟨_, ⟨g, k, d, rfl, ⟨x, hx⟩, hF⟩, H⟩
theorem Sat.pur_open {p : Prop} {F : Assn} {w : World} (hs : Sat (pur p * F) w) : p ∧ Sat F w := by
 obtain ⟨_, ⟨g, k, d, rfl, ⟨hp, he⟩, hF⟩, H⟩ := hs
 refine ⟨hp, ?_⟩
 have e : g = fun _ => none := he
 subst e
 exact ⟨_, hF, H⟩
theorem Sat.pur_shut {p : Prop} (hp : p) {F : Assn} {w : World} (hs : Sat F w) : Sat (pur p * F) w := by
 obtain ⟨h, hF, H⟩ := hs
 exact ⟨h, ⟨fun _ => none, h, fun _ _ x => absurd rfl x, rfl, ⟨hp, rfl⟩, hF⟩, H⟩
theorem ex_sep {α : Type} (A : α → Assn) (F : Assn) : ex A * F = ex fun x => A x * F := by
 funext h
 apply propext
 constructor
 · rintro ⟨g, k, d, rfl, ⟨x, hx⟩, hF⟩; exact ⟨x, g, k, d, rfl, hx, hF⟩
 · rintro ⟨x, g, k, d, rfl, hx, hF⟩; exact ⟨g, k, d, rfl, ⟨x, hx⟩, hF⟩
/-! Bytes. -/
def bv (x : UInt8) : Value := .int .u8 x.toNat
def bys (l : List UInt8) : List Value := l.map bv
theorem bys_len (l : List UInt8) : (bys l).length = l.length := by simp [bys]
theorem bys_append (a b : List UInt8) : bys (a ++ b) = bys a ++ bys b := by simp [bys]
theorem bys_one (l : List UInt8) : ∀ u ∈ bys l, u.oneCell' = true := by
 intro u hu
 obtain ⟨x, _, rfl⟩ := List.mem_map.1 hu
 rfl
theorem bys_at {l : List UInt8} {i : Nat} {x : UInt8} (h : l[i]? = some x) : (bys l)[i]? = some (bv x) := by simp [bys, h]
theorem bys_take (l : List UInt8) (n : Nat) : bys (l.take n) = (bys l).take n := by simp [bys, List.map_take]
theorem bys_drop (l : List UInt8) (n : Nat) : bys (l.drop n) = (bys l).drop n := by simp [bys, List.map_drop]
def Byt (w : World) (v : Value) (l : List UInt8) : Prop :=
 ∃ a c, v = .slice a l.length c ∧ l.length ≤ c ∧ c ≤ maxLen ∧ ∀ i x, l[i]? = some x → ∃ b o, a = some ⟨b, o, none⟩ ∧ w.cell? ⟨b, o + i, none⟩ = some (bv x)
theorem Byt.len {w : World} {v : Value} {l : List UInt8} (h : Byt w v l) : ∃ a c, v = .slice a l.length c ∧ l.length ≤ c ∧ c ≤ maxLen := by
 obtain ⟨a, c, h, h1, h2, _⟩ := h
 exact ⟨a, c, h, h1, h2⟩
theorem Byt.n {w : World} {a : Option Addr} {n c : Nat} {l : List UInt8} (h : Byt w (.slice a n c) l) : n = l.length ∧ n ≤ c ∧ c ≤ maxLen := by
 obtain ⟨a', c', h, h1, h2, _⟩ := h
 cases h
 exact ⟨rfl, h1, h2⟩
theorem Byt.at {w : World} {a : Option Addr} {n c q : Nat} {l : List UInt8} {x : UInt8} (h : Byt w (.slice a n c) l) (hq : l[q]? = some x) : ∃ b o, a = some ⟨b, o, none⟩ ∧ w.cell? ⟨b, o + q, none⟩ = some (.int .u8 x.toNat) := by
 obtain ⟨a', c', h1, _, _, h2⟩ := h
 cases h1
 exact h2 q x hq
def Reads (B : Assn) (v : Value) (l : List UInt8) : Prop := ∀ (F : Assn) (w : World), Sat (B * F) w → Byt w v l
theorem Reads.old {w0 : World} {v : Value} {l : List UInt8} (h : Byt w0 v l) : Reads (old w0) v l := by
 intro F w hs
 obtain ⟨a, c, h1, h2, h3, h4⟩ := h
 refine ⟨a, c, h1, h2, h3, fun i x hx => ?_⟩
 obtain ⟨b, o, h5, h6⟩ := h4 i x hx
 exact ⟨b, o, h5, hs.old_cell h6⟩
theorem Reads.rw {e : Nat} {v : Value} {l : List UInt8} : Reads (rw e 1 v (bys l)) v l := by
 intro F w hs
 rcases hs.rw_open with ⟨h1, h2, h3⟩ | ⟨g, n, cap, sp, h1, h2, h3, h4, h5, h6⟩
 · have : l = [] := by simpa [bys] using h2
   subst this h1
   exact ⟨none, 0, rfl, by simp, by simp, by simp⟩
 · rw [bys_len, Nat.mul_one] at h2
   subst h2 h1
   refine ⟨_, cap, rfl, h4, h5, fun i x hx => ⟨g, 0, rfl, ?_⟩⟩
   have h7 : Sat (Sl.cells g 0 (bys l ++ sp) * (hdr g e (bys l ++ sp).length * F)) w := h6.eq (by unfold block; ac_rfl)
   refine h7.cells_at i (bv x) ?_
   rw [List.getElem?_append_left (by rw [bys_len]; exact (List.getElem?_eq_some_iff.1 hx).1)]
   exact bys_at hx
theorem Reads.block {b e c : Nat} {l : List UInt8} {sp : List Value} (hc : l.length ≤ c) (hm : c ≤ maxLen) : Reads (block b e (bys l ++ sp)) (.slice (some ⟨b, 0, none⟩) l.length c) l := by
 intro F w hs
 refine ⟨_, c, rfl, hc, hm, fun i x hx => ⟨b, 0, rfl, ?_⟩⟩
 have h7 : Sat (Sl.cells b 0 (bys l ++ sp) * (hdr b e (bys l ++ sp).length * F)) w := hs.eq (by unfold Sl.block; ac_rfl)
 refine h7.cells_at i (bv x) ?_
 rw [List.getElem?_append_left (by rw [bys_len]; exact (List.getElem?_eq_some_iff.1 hx).1)]
 exact bys_at hx
theorem Reads.nil (B : Assn) : Reads B (.slice none 0 0) [] := fun _ _ _ => ⟨none, 0, rfl, by simp, by simp, by simp⟩
theorem Reads.left {A B : Assn} {v : Value} {l : List UInt8} (h : Reads A v l) : Reads (A * B) v l := fun F w hs => h (B * F) w (hs.eq (sep_assoc _ _ _))
theorem Reads.right {A B : Assn} {v : Value} {l : List UInt8} (h : Reads B v l) : Reads (A * B) v l := fun F w hs => h (A * F) w (hs.eq (by ac_rfl))
def cutA (a : Option Addr) (c lo s : Nat) : Option Addr := if c = lo then a else a.map (·.add (lo * s))
theorem run_cut {P : Program} {t e s bytes : Nat} {i : TypeInfo} {z : Value} (E : ElemOk P t e s bytes i z) {a : Option Addr} {n c : Nat} (lo hi : Nat) (h1 : lo ≤ hi) (h2 : hi ≤ c) (w : World) :
 (Instr.slice t (.slice a n c) (some (.int .i64 lo)) (some (.int .i64 hi)) none).run P w = .ok (.slice (cutA a c lo s) (hi - lo) (c - lo)) w := by
 have hsz : (sizeOf e).run P w = .ok s w := by simp [sizeOf, typeInfo, E.info, E.size]
 unfold Instr.slice Instr.sliceBounds
 simp [underlying, E.und, Instr.sliceBound, asIntOf, h1, h2, hsz, cutA]
theorem run_cut_to {P : Program} {t e s bytes : Nat} {i : TypeInfo} {z : Value} (E : ElemOk P t e s bytes i z) {a : Option Addr} {n c : Nat} (hi : Nat) (h2 : hi ≤ c) (w : World) :
 (Instr.slice t (.slice a n c) none (some (.int .i64 hi)) none).run P w = .ok (.slice (cutA a c 0 s) hi c) w := by
 have hsz : (sizeOf e).run P w = .ok s w := by simp [sizeOf, typeInfo, E.info, E.size]
 unfold Instr.slice Instr.sliceBounds
 simp [underlying, E.und, Instr.sliceBound, asIntOf, h2, hsz, cutA]
theorem run_cut_from {P : Program} {t e s bytes : Nat} {i : TypeInfo} {z : Value} (E : ElemOk P t e s bytes i z) {a : Option Addr} {n c : Nat} (lo : Nat) (h1 : lo ≤ n) (w : World) :
 (Instr.slice t (.slice a n c) (some (.int .i64 lo)) none none).run P w = .ok (.slice (cutA a c lo s) (n - lo) (c - lo)) w := by
 have hsz : (sizeOf e).run P w = .ok s w := by simp [sizeOf, typeInfo, E.info, E.size]
 unfold Instr.slice Instr.sliceBounds
 simp [underlying, E.und, Instr.sliceBound, asIntOf, h1, hsz, cutA]
theorem cutA_zero {g c : Nat} {s : Nat} {o : Nat} : cutA (some ⟨g, o, none⟩) c 0 s = some ⟨g, o, none⟩ := by
 unfold cutA
 split
 · rfl
 · simp [Addr.add]
theorem cutA_none {c lo s : Nat} : cutA none c lo s = none := by
 unfold cutA
 split <;> rfl
theorem Byt.cut {w : World} {a : Option Addr} {n c : Nat} {l : List UInt8} (h : Byt w (.slice a n c) l) (lo hi : Nat) (h1 : lo ≤ hi) (h2 : hi ≤ n) : Byt w (.slice (cutA a c lo 1) (hi - lo) (c - lo)) ((l.drop lo).take (hi - lo)) := by
 obtain ⟨rfl, hc, hm⟩ := h.n
 have hl : ((l.drop lo).take (hi - lo)).length = hi - lo := by simp; omega
 refine ⟨cutA a c lo 1, c - lo, by rw [hl], by rw [hl]; omega, by omega, fun i x hx => ?_⟩
 have hi' : i < hi - lo := by
  have := (List.getElem?_eq_some_iff.1 hx).1
  omega
 have hx' : l[lo + i]? = some x := by
  rw [List.getElem?_take_of_lt hi', List.getElem?_drop] at hx
  exact hx
 obtain ⟨b, o, rfl, h4⟩ := h.at hx'
 have hne : c ≠ lo := by omega
 refine ⟨b, o + lo, ?_, ?_⟩
 · simp [cutA, hne, Addr.add]
 · rw [Nat.add_assoc]; exact h4
theorem Byt.src {P : Program} {w : World} {v : Value} {l : List UInt8} (h : Byt w v l) : Src P 1 w v l.length (bys l) := by
 obtain ⟨a, c, rfl, h1, h2, h3⟩ := h
 cases hl : l with
 | nil =>
   cases a with
   | none => exact ⟨fun _ => rfl, fun _ => rfl, by simp [bys], by simp [bys]⟩
   | some x =>
     obtain ⟨b, o, sp⟩ := x
     refine ⟨fun _ => rfl, fun n => ?_, by simp [bys], by simp [bys]⟩
     show (loadCells ⟨b, o, sp⟩ (0 * 1)).run P (w.drewN n) = _
     rfl
 | cons y l' =>
   rw [← hl]
   obtain ⟨b, o, rfl, _⟩ := h3 0 y (by simp [hl])
   refine Src.slice (by simp [bys_len]) (fun j u hj => ?_) (bys_one l)
   unfold bys at hj
   rw [List.getElem?_map] at hj
   obtain ⟨x, hx, rfl⟩ := Option.map_eq_some_iff.1 hj
   obtain ⟨b', o', h4, h5⟩ := h3 j x hx
   cases h4
   exact h5
theorem run_copy_sl {P : Program} {t e bytes : Nat} {i : TypeInfo} {z : Value} (E : ElemOk P t e 1 bytes i z) (tx ty : TypeId)
 {g n cap lo : Nat} {xs : List Value} {x : Value} {l : List UInt8} {F : Assn} {w : World} (hs : Sat (rw e 1 (.slice (some ⟨g, 0, none⟩) n cap) xs * F) w) (hx : Byt w x l) (hlo : lo + l.length ≤ n) :
 ∃ w', (Builtin.copy_ #[t, tx] ty #[.slice (cutA (some ⟨g, 0, none⟩) cap lo 1) (n - lo) (cap - lo), x]).run P w = .ok (.int .i64 l.length) w' ∧ Sat (rw e 1 (.slice (some ⟨g, 0, none⟩) n cap) (xs.take lo ++ bys l ++ xs.drop (lo + l.length)) * F) w' := by
 have hS := hx.src (P := P)
 have hxl : (Builtin.lenOf x).run P w = .ok l.length w := by simpa [World.drewN] using hS.len 0
 have hxc : (Builtin.firstCells 1 l.length x).run P w = .ok (bys l).toArray w := by simpa [World.drewN] using hS.cells 0
 have hsz : (sizeOf e).run P w = .ok 1 w := by simp [sizeOf, typeInfo, E.info, E.size]
 rcases hs.rw_open with ⟨h1, _⟩ | ⟨g', n', cap', sp, h1, h2, h3, h4, h5, h6⟩
 · cases h1
 cases h1
 rw [Nat.mul_one] at h2 h3
 have hmin : Nat.min l.length (n - lo) = l.length := Nat.min_eq_left (by omega)
 by_cases hl : l = []
 · subst hl
   refine ⟨w, ?_, ?_⟩
   · unfold Builtin.copy_
     have hxc' : (Builtin.firstCells 1 0 x).run P w = .ok #[] w := by simpa [bys] using hxc
     have hxl' : (Builtin.lenOf x).run P w = .ok 0 w := by simpa using hxl
     cases hc : cutA (some ⟨g, 0, none⟩) cap lo 1 with
     | none => simp [underlying, E.und, hsz, hxl', hxc', goInt]
     | some q => simp [underlying, E.und, hsz, hxl', hxc', goInt, storeCells]
   · simpa [bys] using hs
 · have hlp : 0 < l.length := by cases l with | nil => exact absurd rfl hl | cons _ _ => simp
   have hne : cap ≠ lo := by omega
   have hcut : cutA (some ⟨g, 0, none⟩) cap lo 1 = some ⟨g, lo, none⟩ := by simp [cutA, hne, Addr.add]; omega
   have hsplit : xs = xs.take lo ++ ((xs.drop lo).take l.length ++ xs.drop (lo + l.length)) := by
    rw [← List.drop_drop, List.take_append_drop, List.take_append_drop]
   have hs1 : Sat (Sl.cells g (lo + 0) ((xs.drop lo).take l.length) * (hdr g e (xs ++ sp).length * (Sl.cells g 0 (xs.take lo) * (Sl.cells g (lo + l.length) (xs.drop (lo + l.length)) * (Sl.cells g n sp * F))))) w := by
    refine h6.eq ?_
    rw [block_split]
    conv => lhs; rw [hsplit]
    rw [cells_append, cells_append]
    have e1 : (xs.take lo).length = lo := by simp; omega
    have e2 : ((xs.drop lo).take l.length).length = l.length := by simp; omega
    rw [← hsplit, e1, e2, h2]
    simp only [Nat.zero_add, Nat.add_zero]
    ac_rfl
   obtain ⟨w', r1, r2⟩ := run_storeCells_sl (P := P) (bys l) ((xs.drop lo).take l.length) 0 _ w hs1 (by rw [bys_len]; simp; omega) (bys_one l)
   refine ⟨w', ?_, ?_⟩
   · rw [hcut]
     unfold Builtin.copy_
     simp [underlying, E.und, hsz, hxl, hmin, hxc, r1, goInt]
   · refine Sat.rw_shut (sp := sp) ?_ ?_ h4 h5 (r2.eq ?_)
     · simp only [List.length_append, List.length_take, List.length_drop, bys_len]; omega
     · simp only [List.length_append, List.length_take, List.length_drop, bys_len] at h3 ⊢; omega
     · rw [block_split]
       have e1 : (xs.take lo ++ bys l ++ xs.drop (lo + l.length) ++ sp).length = (xs ++ sp).length := by simp only [List.length_append, List.length_take, List.length_drop, bys_len]; omega
       rw [e1, cells_append, cells_append]
       have e2 : (xs.take lo).length = lo := by simp; omega
       have e3 : (xs.take lo ++ bys l).length = lo + l.length := by rw [List.length_append, e2, bys_len]
       have e4 : (xs.take lo ++ bys l ++ xs.drop (lo + l.length)).length = n := by simp only [List.length_append, List.length_take, List.length_drop, bys_len]; omega
       rw [e2, e3, e4]
       simp only [Nat.zero_add, Nat.add_zero]
       ac_rfl
theorem Sat.rw_cut {e s : Nat} {a : Option Addr} {n c : Nat} {xs : List Value} {F : Assn} {w : World} (hs : Sat (rw e s (.slice a n c) xs * F) w) (k : Nat) (hk : k ≤ n) : Sat (rw e s (.slice (cutA a c 0 s) k c) (xs.take (k * s)) * F) w := by
 rcases hs.rw_open with ⟨h1, h2, h3⟩ | ⟨g, n', cap', sp, h1, h2, h3, h4, h5, h6⟩
 · cases h1
   subst h2
   obtain rfl : k = 0 := by omega
   rw [cutA_none]
   simpa using hs
 · cases h1
   rw [cutA_zero]
   have hks := Nat.mul_le_mul_right s hk
   refine Sat.rw_shut (sp := xs.drop (k * s) ++ sp) (by simp; omega) (by simp only [List.length_append, List.length_take, List.length_drop] at h3 ⊢; omega) (by omega) h5 ?_
   rw [← List.append_assoc, List.take_append_drop]
   exact h6
theorem run_copy_any {P : Program} {t e bytes : Nat} {i : TypeInfo} {z : Value} (E : ElemOk P t e 1 bytes i z) (tx ty : TypeId)
 {a : Option Addr} {n cap lo : Nat} {xs : List Value} {x : Value} {l : List UInt8} {F : Assn} {w : World} (hs : Sat (rw e 1 (.slice a n cap) xs * F) w) (hx : Byt w x l) (hlo : lo + l.length ≤ n) :
 ∃ w', (Builtin.copy_ #[t, tx] ty #[.slice (cutA a cap lo 1) (n - lo) (cap - lo), x]).run P w = .ok (.int .i64 l.length) w' ∧ Sat (rw e 1 (.slice a n cap) (xs.take lo ++ bys l ++ xs.drop (lo + l.length)) * F) w' := by
 rcases hs.rw_open with ⟨h1, h2, h3⟩ | ⟨g', n', cap', sp, h1, _⟩
 · cases h1
   have hl : l = [] := by cases l with | nil => rfl | cons _ _ => simp at hlo
   subst hl h2
   have hS := hx.src (P := P)
   have hxl : (Builtin.lenOf x).run P w = .ok 0 w := by simpa [World.drewN] using hS.len 0
   have hxc : (Builtin.firstCells 1 0 x).run P w = .ok #[] w := by simpa [World.drewN, bys] using hS.cells 0
   have hsz : (sizeOf e).run P w = .ok 1 w := by simp [sizeOf, typeInfo, E.info, E.size]
   refine ⟨w, ?_, by simpa [bys] using hs⟩
   rw [cutA_none]
   unfold Builtin.copy_
   simp [underlying, E.und, hsz, hxl, hxc, goInt]
 · cases h1
   exact run_copy_sl E tx ty hs hx hlo
theorem Sat.rw_get {e s : Nat} {a : Option Addr} {n c i : Nat} {xs : List Value} {v : Value} {F : Assn} {w : World} (hs : Sat (rw e s (.slice a n c) xs * F) w) (hi : xs[i]? = some v) : ∃ g, a = some ⟨g, 0, none⟩ ∧ w.cell? ⟨g, i, none⟩ = some v ∧ w.frozen? ⟨g, i, none⟩ = false := by
 rcases hs.rw_open with ⟨h1, h2, h3⟩ | ⟨g, n', cap', sp, h1, h2, h3, h4, h5, h6⟩
 · subst h2; simp at hi
 · cases h1
   have hlt : i < xs.length := (List.getElem?_eq_some_iff.1 hi).1
   have := h6.at_get (k := i) (v := v) (by rw [List.getElem?_append_left hlt]; exact hi)
   exact ⟨g, rfl, this⟩
theorem perm_map_step {α β : Type} {f : α → β} {rem : List β} {l : List α} {i : Nat} {x : β} (hp : rem.Perm (l.map f)) (hi : rem[i]? = some x) : ∃ a l2, l.Perm (a :: l2) ∧ x = f a ∧ (rem.eraseIdx i).Perm (l2.map f) := by
 have hx : x ∈ l.map f := hp.mem_iff.1 (List.mem_of_getElem? hi)
 obtain ⟨a, ha, rfl⟩ := List.mem_map.1 hx
 obtain ⟨s, t, rfl⟩ := List.append_of_mem ha
 have h1 : (s ++ a :: t).Perm (a :: (s ++ t)) := List.perm_middle
 refine ⟨a, s ++ t, h1, rfl, ?_⟩
 have h2 := (perm_eraseIdx rem i (f a) hi).symm.trans (hp.trans (h1.map f))
 exact List.Perm.cons_inv h2
end Go.Sl
/-
 Strings that are equal or not, in the walk's own spelling.
-/
namespace Go.Sl
set_option linter.unusedSimpArgs false
set_option linter.unusedVariables false
theorem tl_beq (a b : ByteArray) : (a.toList == b.toList) = decide (a = b) := by
 rw [Bool.eq_iff_iff]
 simp only [beq_iff_eq, decide_eq_true_eq, ByteArray.toList_eq]
 constructor
 · intro h
   cases a; cases b
   simp at h
   rw [h]
 · intro h; rw [h]
theorem str_eq {a b : ByteArray} (h : a = b) : (a.toList == b.toList) = true := by rw [tl_beq]; simpa using h
theorem str_ne {a b : ByteArray} (h : a ≠ b) : (a.toList == b.toList) = false := by rw [tl_beq]; simpa using h
theorem run_sliceAt {P : Program} {t e s bytes : Nat} {i : TypeInfo} {z : Value} (E : ElemOk P t e s bytes i z) (x : Value) (l h m : Option Value) (w : World) : (Instr.sliceAt t x l h m).run P w = (Instr.slice t x l h m).run P w := by
 unfold Instr.sliceAt
 simp [underlying, E.und]
theorem at_from {P : Program} {t e s bytes : Nat} {i : TypeInfo} {z : Value} (E : ElemOk P t e s bytes i z) {a : Option Addr} {n c : Nat} (lo : Nat) (h1 : lo ≤ n) (w : World) :
 (Instr.sliceAt t (.slice a n c) (some (.int .i64 lo)) none none).run P w = .ok (.slice (cutA a c lo s) (n - lo) (c - lo)) w := (run_sliceAt E _ _ _ _ w).trans (run_cut_from E lo h1 w)
theorem at_to {P : Program} {t e s bytes : Nat} {i : TypeInfo} {z : Value} (E : ElemOk P t e s bytes i z) {a : Option Addr} {n c : Nat} (hi : Nat) (h1 : hi ≤ c) (w : World) :
 (Instr.sliceAt t (.slice a n c) none (some (.int .i64 hi)) none).run P w = .ok (.slice (cutA a c 0 s) hi c) w := (run_sliceAt E _ _ _ _ w).trans (run_cut_to E hi h1 w)
theorem at_cut {P : Program} {t e s bytes : Nat} {i : TypeInfo} {z : Value} (E : ElemOk P t e s bytes i z) {a : Option Addr} {n c : Nat} (lo hi : Nat) (h1 : lo ≤ hi) (h2 : hi ≤ c) (w : World) :
 (Instr.sliceAt t (.slice a n c) (some (.int .i64 lo)) (some (.int .i64 hi)) none).run P w = .ok (.slice (cutA a c lo s) (hi - lo) (c - lo)) w := (run_sliceAt E _ _ _ _ w).trans (run_cut E lo hi h1 h2 w)
end Go.Sl
/-
 Deleting from a map, while it is ranged over, what was visited.
-/
namespace Go.Sl
set_option linter.unusedSimpArgs false
set_option linter.unusedVariables false
open Go.RowKit
section
variable {κ : Type}
end
end Go.Sl
/-
 Owned rows that may begin inside their block: append, cutting at both ends.
-/
namespace Go.Sl
set_option linter.unusedSimpArgs false
set_option linter.unusedVariables false
def rwo (e : TypeId) (s : Nat) (v : Value) (xs : List Value) : Assn := fun h =>
 (v = .slice none 0 0 ∧ xs = [] ∧ emp h) ∨
 ∃ g pre n cap sp, v = .slice (some ⟨g, List.length pre, none⟩) n cap ∧ xs.length = n * s ∧ (xs ++ sp).length = cap * s ∧ n ≤ cap ∧ cap ≤ maxLen ∧ block g e (pre ++ (xs ++ sp)) h
theorem Sat.rwo_open {e s : Nat} {v : Value} {xs : List Value} {F : Assn} {w : World} (hs : Sat (rwo e s v xs * F) w) :
 (v = .slice none 0 0 ∧ xs = [] ∧ Sat F w) ∨
 ∃ g pre n cap sp, v = .slice (some ⟨g, List.length pre, none⟩) n cap ∧ xs.length = n * s ∧ (xs ++ sp).length = cap * s ∧ n ≤ cap ∧ cap ≤ maxLen ∧ Sat (block g e (pre ++ (xs ++ sp)) * F) w := by
 obtain ⟨_, ⟨g, k, d, rfl, h | ⟨g', pre, n, cap, sp, h1, h2, h3, h4, h5, h6⟩, hF⟩, H⟩ := hs
 · obtain ⟨h1, h2, h3⟩ := h
   refine .inl ⟨h1, h2, ?_⟩
   rw [← one_sep F]
   exact ⟨_, ⟨g, k, d, rfl, h3, hF⟩, H⟩
 · exact .inr ⟨g', pre, n, cap, sp, h1, h2, h3, h4, h5, _, ⟨g, k, d, rfl, h6, hF⟩, H⟩
theorem Reads.rwo {e : Nat} {v : Value} {l : List UInt8} : Reads (rwo e 1 v (bys l)) v l := by
 intro F w hs
 rcases hs.rwo_open with ⟨h1, h2, h3⟩ | ⟨g, pre, n, cap, sp, h1, h2, h3, h4, h5, h6⟩
 · have : l = [] := by simpa [bys] using h2
   subst this h1
   exact ⟨none, 0, rfl, by simp, by simp, by simp⟩
 · rw [bys_len, Nat.mul_one] at h2
   subst h2 h1
   refine ⟨_, cap, rfl, h4, h5, fun i x hx => ⟨g, pre.length, rfl, ?_⟩⟩
   have h7 : Sat (Sl.cells g 0 (pre ++ (bys l ++ sp)) * (hdr g e (pre ++ (bys l ++ sp)).length * F)) w := h6.eq (by unfold Sl.block; ac_rfl)
   have hil : i < l.length := (List.getElem?_eq_some_iff.1 hx).1
   have := h7.cells_at (pre.length + i) (bv x) (by
    rw [List.getElem?_append_right (by omega), Nat.add_sub_cancel_left, List.getElem?_append_left (by rw [bys_len]; exact hil)]
    exact bys_at hx)
   rw [Nat.zero_add] at this
   exact this
end Go.Sl
/-
 What a world holds, found by instances: the walk reads cells and writes them with no fact laid by hand.
-/
namespace Go.Sl
set_option linter.unusedSimpArgs false
set_option linter.unusedVariables false
class SatI (A : outParam Assn) (w : World) : Prop where
 out : Sat A w
class RdC (A : Assn) (b i : Nat) (v : outParam Value) : Prop where
 out : ∀ F w, Sat (A * F) w → w.cell? ⟨b, i, none⟩ = some v
class OldAt (w : World) (b i : Nat) (v : outParam Value) : Prop where
 out : w.cell? ⟨b, i, none⟩ = some v
instance (A : Assn) (b i : Nat) (v : Value) [h : HasC A b i v] : RdC A b i v := ⟨fun F w hs => by obtain ⟨G, rfl⟩ := h.out; exact (hs.eq (sep_assoc _ _ _)).cell⟩
instance (w0 : World) (b i : Nat) (v : Value) [h : OldAt w0 b i v] : RdC (old w0) b i v := ⟨fun F w hs => hs.old_cell h.out⟩
instance (A B : Assn) (b i : Nat) (v : Value) [h : RdC A b i v] : RdC (A * B) b i v := ⟨fun F w hs => h.out (B * F) w (hs.eq (sep_assoc _ _ _))⟩
instance (A B : Assn) (b i : Nat) (v : Value) [h : RdC B b i v] : RdC (A * B) b i v := ⟨fun F w hs => h.out (A * F) w (hs.eq (by ac_rfl))⟩
theorem cell_sat (w : World) (b i : Nat) {A : Assn} {v : Value} [h : SatI A w] [h2 : RdC A b i v] : w.cell? ⟨b, i, none⟩ = some v := h2.out 1 w (by rw [sep_one]; exact h.out)
theorem frozen_sat (w : World) (b i : Nat) {A : Assn} {v : Value} [h : SatI A w] [h2 : HasC A b i v] : w.frozen? ⟨b, i, none⟩ = false := h.out.f b i
instance {A : Assn} {w : World} [h : SatI A w] : SatI A w.drew := ⟨h.out.drew⟩
instance {A : Assn} {w : World} (n : Nat) [h : SatI A w] : SatI A (w.drewN n) := ⟨h.out.drewN n⟩
instance {A A' : Assn} {w : World} {b i : Nat} {v' : Value} [h : SatI A w] [h2 : Upd A b i v' A'] : SatI A' (w.setCell ⟨b, i, none⟩ v') := ⟨h.out.upd b i v'⟩
instance {A : Assn} {w : World} {c : Array Value} {t : TypeId} [h : SatI A w] : SatI (Sl.block w.heap.size t c.toList * A) (w.alloc (.cells c t)) := ⟨h.out.alloc c t⟩
instance (priority := high) alloc_list {A : Assn} {w : World} {l : List Value} {t : TypeId} [h : SatI A w] : SatI (Sl.block w.heap.size t l * A) (w.alloc (.cells l.toArray t)) := ⟨h.out.alloc l.toArray t⟩
class At (vs : List Value) (k : Nat) (v : outParam Value) : Prop where
 out : vs[k]? = some v
instance at_zero (v : Value) (l : List Value) : At (v :: l) 0 v := ⟨rfl⟩
instance at_succ (u v : Value) (l : List Value) (k : Nat) [h : At l k v] : At (u :: l) (k + 1) v := ⟨by simpa using h.out⟩
theorem cells_at_split (b : Nat) : ∀ (vs : List Value) (i k : Nat) (v : Value), vs[k]? = some v → ∃ F, cells b i vs = Sl.cell b (i + k) v * F ∧ ∀ v', cells b i (vs.set k v') = Sl.cell b (i + k) v' * F
 | [], i, k, v, h => by simp at h
 | u :: vs, i, 0, v, h => by
   simp at h; subst h
   exact ⟨cells b (i + 1) vs, rfl, fun v' => rfl⟩
 | u :: vs, i, k + 1, v, h => by
   simp at h
   obtain ⟨F, h1, h2⟩ := cells_at_split b vs (i + 1) k v h
   have e : i + 1 + k = i + (k + 1) := by omega
   refine ⟨Sl.cell b i u * F, ?_, fun v' => ?_⟩
   · show Sl.cell b i u * cells b (i + 1) vs = _
     rw [h1, e]; ac_rfl
   · show Sl.cell b i u * cells b (i + 1) (vs.set k v') = _
     rw [h2, e]; ac_rfl
instance (b t k : Nat) (vs : List Value) (v : Value) [h : At vs k v] : HasC (block b t vs) b k v := by
 obtain ⟨F, h1, h2⟩ := cells_at_split b vs 0 k v h.out
 rw [Nat.zero_add] at h1
 exact ⟨hdr b t vs.length * F, by unfold block; rw [h1]; ac_rfl⟩
instance (b t k : Nat) (vs : List Value) (v v' : Value) [h : At vs k v] : Upd (block b t vs) b k v' (block b t (vs.set k v')) := by
 obtain ⟨F, h1, h2⟩ := cells_at_split b vs 0 k v h.out
 rw [Nat.zero_add] at h1 h2
 exact ⟨v, hdr b t vs.length * F, by unfold block; rw [h1]; ac_rfl, by unfold block; rw [h2, List.length_set]; ac_rfl⟩
theorem Sat.i {A : Assn} {w : World} (h : Sat A w) : SatI A w := ⟨h⟩
theorem SatI.take {A : Assn} {w : World} (h : SatI A w) (X : Assn) {R : Assn} [t : Take A X R] : Sat (X * R) w := h.out.take X
theorem satI {A : Assn} {w : World} [h : SatI A w] : Sat A w := h.out
theorem takeI {A : Assn} {w : World} [h : SatI A w] (X : Assn) {R : Assn} [t : Take A X R] : Sat (X * R) w := h.out.take X
theorem Sat.take2 {S : Assn} {w : World} (hs : Sat S w) (A B : Assn) {R R' : Assn} [h : Take S A R] [h' : Take R B R'] : Sat (A * (B * R')) w := hs.eq (by rw [h.out, h'.out])
theorem Sat.take3 {S : Assn} {w : World} (hs : Sat S w) (A B C : Assn) {R R' R'' : Assn} [h : Take S A R] [h' : Take R B R'] [h'' : Take R' C R''] : Sat (A * (B * (C * R''))) w := hs.eq (by rw [h.out, h'.out, h''.out])
theorem Sat.drop {S : Assn} {w : World} (hs : Sat S w) (A : Assn) {R : Assn} [h : Take S A R] : Sat R w := (hs.take A).right
theorem satI_weak {A B C : Assn} {w : World} [h : SatI A w] (e : A = B * C) : Sat B w := Sat.weak (B := C) (h.out.eq e)
theorem satI_eq {A B : Assn} {w : World} [h : SatI A w] (e : A = B) : Sat B w := h.out.eq e
instance rwo_rd (e n c g o k : Nat) (xs : List Value) (v : Value) [h : At xs k v] : RdC (rwo e 1 (.slice (some ⟨g, o, none⟩) n c) xs) g (o + k) v := ⟨fun F w hs => by
 rcases hs.rwo_open with ⟨h1, _⟩ | ⟨g', pre, n', cap, sp, h1, h2, h3, h4, h5, h6⟩
 · cases h1
 · cases h1
   have hl := (List.getElem?_eq_some_iff.1 h.out).1
   refine (h6.at_get (k := pre.length + k) (v := v) ?_).1
   rw [List.getElem?_append_right (by omega), Nat.add_sub_cancel_left, List.getElem?_append_left hl]
   exact h.out⟩
instance rw_rd (e n c g k : Nat) (xs : List Value) (v : Value) [h : At xs k v] : RdC (rw e 1 (.slice (some ⟨g, 0, none⟩) n c) xs) g k v := ⟨fun F w hs => by
 rcases hs.rw_open with ⟨h1, _⟩ | ⟨g', n', cap, sp, h1, h2, h3, h4, h5, h6⟩
 · cases h1
 · cases h1
   have hl := (List.getElem?_eq_some_iff.1 h.out).1
   refine (h6.at_get (k := k) (v := v) ?_).1
   rw [List.getElem?_append_left hl]
   exact h.out⟩
theorem Reads.block0 {b e : Nat} {l : List UInt8} (hm : l.length ≤ maxLen) : Reads (Sl.block b e (bys l)) (.slice (some ⟨b, 0, none⟩) l.length l.length) l := by
 have h := Reads.block (b := b) (e := e) (c := l.length) (l := l) (sp := []) (Nat.le_refl _) hm
 rw [List.append_nil] at h
 exact h
theorem rw_empty {A R : Assn} {w : World} {b e : Nat} [h : SatI A w] [t : Take A (Sl.block b e []) R] : Sat (rw e 1 (.slice (some ⟨b, 0, none⟩) 0 0) [] * R) w :=
 Sat.rw_shut (sp := []) rfl rfl (Nat.le_refl _) (by unfold maxLen; omega) (h.out.take (Sl.block b e []))
theorem Reads.srcI {P : Program} {B : Assn} {v : Value} {l : List UInt8} (hB : Reads B v l) {n : Nat} (hn : l.length = n) {A R : Assn} {w : World} [h : SatI A w] [t : Take A B R] : Src P 1 w v n (bys l) := by
 subst hn
 exact (hB _ _ (h.out.take B)).src
end Go.Sl
/-
 Maps in the walk, found by instances: lookup, len, update, delete.
-/
namespace Go.Sl
set_option linter.unusedSimpArgs false
set_option linter.unusedVariables false
variable {κ : Type}
class HasM (A : Assn) (M : Nat) (kf : κ → Value) (ms : outParam (List (κ × Value))) : Prop where
 out : ∃ F, A = mp kf M ms * F
class UpdM (A : Assn) (M : Nat) (kf : κ → Value) (ms' : List (κ × Value)) (A' : outParam Assn) : Prop where
 out : ∃ ms F, A = mp kf M ms * F ∧ A' = mp kf M ms' * F
instance (M : Nat) (kf : κ → Value) (ms : List (κ × Value)) : HasM (mp kf M ms) M kf ms := ⟨1, (sep_one _).symm⟩
instance (A B : Assn) (M : Nat) (kf : κ → Value) (ms : List (κ × Value)) [h : HasM A M kf ms] : HasM (A * B) M kf ms := let ⟨F, e⟩ := h.out; ⟨F * B, by rw [e, sep_assoc]⟩
instance (A B : Assn) (M : Nat) (kf : κ → Value) (ms : List (κ × Value)) [h : HasM B M kf ms] : HasM (A * B) M kf ms := let ⟨F, e⟩ := h.out; ⟨A * F, by rw [e, sep_left]⟩
instance (M : Nat) (kf : κ → Value) (ms ms' : List (κ × Value)) : UpdM (mp kf M ms) M kf ms' (mp kf M ms') := ⟨ms, 1, (sep_one _).symm, (sep_one _).symm⟩
instance (A B A' : Assn) (M : Nat) (kf : κ → Value) (ms' : List (κ × Value)) [h : UpdM A M kf ms' A'] : UpdM (A * B) M kf ms' (A' * B) := let ⟨v, F, e, e'⟩ := h.out; ⟨v, F * B, by rw [e, sep_assoc], by rw [e', sep_assoc]⟩
instance (A B B' : Assn) (M : Nat) (kf : κ → Value) (ms' : List (κ × Value)) [h : UpdM B M kf ms' B'] : UpdM (A * B) M kf ms' (A * B') := let ⟨v, F, e, e'⟩ := h.out; ⟨v, A * F, by rw [e, sep_left], by rw [e', sep_left]⟩
class MapT (P : Program) (t : TypeId) (κ : outParam Type) [DecidableEq κ] (kf : outParam (κ → Value)) (z : outParam Value) : Prop where
 out : ∃ kt e, KeyOk P kt kf ∧ P.underlying t = some (.map kt e) ∧ ∀ w, (zeroValue e).run P w = .ok z w
def Result.world {α : Type} : Result α → World
 | .ok _ w => w
 | .halt _ w => w
def putW (P : Program) (t : TypeId) (M : Nat) (k v : Value) (w : World) : World := Result.world ((Instr.mapUpdate t (.map (some M)) k v).run P w)
def delW (P : Program) (t : TypeId) (M : Nat) (k : Value) (w : World) : World := Result.world ((Builtin.delete_ #[t, 0] 0 #[.map (some M), k]).run P w)
section
variable {P : Program} {t : TypeId} [DecidableEq κ] {kf : κ → Value} {z : Value}
theorem lookup_run (T : MapT P t κ kf z) (w : World) (M : Nat) (k : κ) {A : Assn} {ms : List (κ × Value)} [h : SatI A w] [h2 : HasM A M kf ms] :
 (Instr.lookup t (.map (some M)) (kf k) false).run P w = .ok ((mget k ms).getD z) w := by
 obtain ⟨kt, e, K, ht, hz⟩ := T.out
 obtain ⟨F, rfl⟩ := h2.out
 obtain ⟨o, ho, hs⟩ := h.out.mp_open
 simpa using run_lookup_mp K ht hz hs.obj ho k false
theorem lookup2_run (T : MapT P t κ kf z) (w : World) (M : Nat) (k : κ) {A : Assn} {ms : List (κ × Value)} [h : SatI A w] [h2 : HasM A M kf ms] :
 (Instr.lookup t (.map (some M)) (kf k) true).run P w = .ok (.tuple #[(mget k ms).getD z, .bool (mget k ms).isSome]) w := by
 obtain ⟨kt, e, K, ht, hz⟩ := T.out
 obtain ⟨F, rfl⟩ := h2.out
 obtain ⟨o, ho, hs⟩ := h.out.mp_open
 simpa using run_lookup_mp K ht hz hs.obj ho k true
theorem len_run (T : MapT P t κ kf z) (w : World) (M : Nat) (ty : TypeId) {A : Assn} {ms : List (κ × Value)} [h : SatI A w] [h2 : HasM A M kf ms] :
 (Builtin.len_ #[t] ty #[.map (some M)]).run P w = .ok (.int .i64 ms.length) w := by
 obtain ⟨kt, e, K, ht, hz⟩ := T.out
 obtain ⟨F, rfl⟩ := h2.out
 obtain ⟨o, ho, hs⟩ := h.out.mp_open
 exact run_len_mp ht hs.obj ho ty
theorem put_run (T : MapT P t κ kf z) (w : World) (M : Nat) (k : κ) (v : Value) {A : Assn} {ms : List (κ × Value)} [h : SatI A w] [h2 : HasM A M kf ms] :
 (Instr.mapUpdate t (.map (some M)) (kf k) v).run P w = .ok () (putW P t M (kf k) v w) := by
 obtain ⟨kt, e, K, ht, hz⟩ := T.out
 obtain ⟨F, rfl⟩ := h2.out
 obtain ⟨o, ho, hs⟩ := h.out.mp_open
 obtain ⟨o', _, hup⟩ := run_mapUpdate_mp K ht hs.obj ho k v
 unfold putW
 rw [hup]; rfl
theorem del_run (T : MapT P t κ kf z) (w : World) (M : Nat) (k : κ) (kt' ty : TypeId) {A : Assn} {ms : List (κ × Value)} [h : SatI A w] [h2 : HasM A M kf ms] :
 (Builtin.delete_ #[t, kt'] ty #[.map (some M), kf k]).run P w = .ok (.tuple #[]) (delW P t M (kf k) w) := by
 obtain ⟨kt, e, K, ht, hz⟩ := T.out
 obtain ⟨F, rfl⟩ := h2.out
 obtain ⟨o, ho, hs⟩ := h.out.mp_open
 obtain ⟨o', _, hup⟩ := run_delete_mp K ht hs.obj ho k
 unfold delW
 rw [hup, hup]; rfl
theorem put_sat (T : MapT P t κ kf z) {w : World} {M : Nat} {k : κ} {v : Value} {A A' : Assn} {ms : List (κ × Value)} [h : SatI A w] [h2 : HasM A M kf ms] [h3 : UpdM A M kf (mput k v ms) A'] : SatI A' (putW P t M (kf k) v w) := by
 obtain ⟨kt, e, K, ht, hz⟩ := T.out
 obtain ⟨G, e1⟩ := h2.out
 obtain ⟨ms0, F, e2, rfl⟩ := h3.out
 have hs1 : Sat (mp kf M ms * G) w := h.out.eq e1
 have hs2 : Sat (mp kf M ms0 * F) w := h.out.eq e2
 obtain ⟨o, ho, hs1⟩ := hs1.mp_open
 obtain ⟨o2, ho2, hs2⟩ := hs2.mp_open
 have e3 : o2 = o := by have := hs1.obj; rw [hs2.obj] at this; exact Option.some.inj this
 subst e3
 obtain ⟨o', ho', hup⟩ := run_mapUpdate_mp K ht hs1.obj ho k v
 unfold putW
 rw [hup]
 exact ⟨Sat.mp_shut ho' (hs2.setRaw o')⟩
theorem del_sat (T : MapT P t κ kf z) {w : World} {M : Nat} {k : κ} {A A' : Assn} {ms : List (κ × Value)} [h : SatI A w] [h2 : HasM A M kf ms] [h3 : UpdM A M kf (mdel k ms) A'] : SatI A' (delW P t M (kf k) w) := by
 obtain ⟨kt, e, K, ht, hz⟩ := T.out
 obtain ⟨G, e1⟩ := h2.out
 obtain ⟨ms0, F, e2, rfl⟩ := h3.out
 have hs1 : Sat (mp kf M ms * G) w := h.out.eq e1
 have hs2 : Sat (mp kf M ms0 * F) w := h.out.eq e2
 obtain ⟨o, ho, hs1⟩ := hs1.mp_open
 obtain ⟨o2, ho2, hs2⟩ := hs2.mp_open
 have e3 : o2 = o := by have := hs1.obj; rw [hs2.obj] at this; exact Option.some.inj this
 subst e3
 obtain ⟨o', ho', hup⟩ := run_delete_mp K ht hs1.obj ho k
 unfold delW
 rw [hup]
 exact ⟨Sat.mp_shut ho' (hs2.setRaw o')⟩
end
end Go.Sl
/-
 Short words for what walks say often.
-/
namespace Go
open Go.Sl
theorem nmd {α : Sort _} (a : α) : ∃ b, a = b := ⟨a, rfl⟩
theorem asd {p : Prop} (h : p) : Aside p := h
theorem clS {P : Program} {f : FuncId} {args : Array Value} {w : World} {r : Value} {A : Assn} {Q : Ending → World → Prop} (h : Calls P f args w fun e w' => e = .returned r ∧ Sat A w')
 (k : ∀ w', Sat A w' → SatI A w' → Q (.returned r) w') : Calls P f args w Q := h.mono fun _ w' q => q.1 ▸ k w' q.2 q.2.i
end Go
namespace Go.Lru
set_option linter.unusedSimpArgs false
set_option linter.unusedVariables false
open Go.Sl
def pt (a : Nat × Nat) : Value := .pointer (some ⟨a.1, a.2, none⟩)
def edge (u v : Nat × Nat) : Assn := Sl.cell u.1 (u.2 + 4) (pt v) * Sl.cell v.1 (v.2 + 3) (pt u)
def chain : List (Nat × Nat) → Assn
 | u :: v :: l => edge u v * chain (v :: l)
 | _ => 1
structure Nd where
 b : Nat
 key : Int
 pins : Int
 mkd : Bool
abbrev ikey : Int → Value := fun n => Value.int .i64 n
def item (ti : TypeId) (n : Nd) : Assn := hdr n.b ti 5 * (Sl.cell n.b 0 (.int .i64 n.key) * (Sl.cell n.b 1 (.int .i64 n.pins) * Sl.cell n.b 2 (.bool n.mkd)))
def items (ti : TypeId) : List Nd → Assn
 | [] => 1
 | n :: l => item ti n * items ti l
def kv (n : Nd) : Int × Value := (n.key, .pointer (some ⟨n.b, 0, none⟩))
def pmp (M : Nat) (ns : List Nd) : Assn := fun h => ∃ ms, ms.Perm (ns.map kv) ∧ mp ikey M ms h
def ring (L : Nat) (ns : List Nd) : List (Nat × Nat) := (L, 1) :: (ns.map (fun n => (n.b, 0)) ++ [(L, 1)])
abbrev core (tl : TypeId) (L M : Nat) (cap : Int) : Assn :=
 hdr L tl 7 * (Sl.cell L 0 (.int .i64 cap) * (Sl.cell L 1 (.int .i64 0) * (Sl.cell L 2 (.int .i64 0) * (Sl.cell L 3 (.bool false) * Sl.cell L 6 (.map (some M))))))
def lruP (tl ti : TypeId) (L M : Nat) (cap : Int) (ns : List Nd) : Assn :=
 core tl L M cap * (pmp M ns * (chain (ring L ns) * items ti ns))
theorem pmp_perm {M : Nat} {ns ns' : List Nd} (h : ns.Perm ns') : pmp M ns = pmp M ns' := by
 funext h'
 apply propext
 constructor
 · rintro ⟨ms, a, b⟩; exact ⟨ms, a.trans (h.map kv), b⟩
 · rintro ⟨ms, a, b⟩; exact ⟨ms, a.trans (h.map kv).symm, b⟩
theorem items_perm {ti : TypeId} {ns ns' : List Nd} (h : ns.Perm ns') : items ti ns = items ti ns' := by
 induction h with
 | nil => rfl
 | cons x _ ih => simp [items, ih]
 | swap x y l => simp only [items]; rw [sep_left]
 | trans _ _ h1 h2 => rw [h1, h2]
theorem items_append (ti : TypeId) (l1 l2 : List Nd) : items ti (l1 ++ l2) = items ti l1 * items ti l2 := by
 induction l1 with
 | nil => simp [items, one_sep]
 | cons n l ih => simp [items, ih, sep_assoc]
theorem chain_append (l1 : List (Nat × Nat)) (u : Nat × Nat) (l2 : List (Nat × Nat)) : chain (l1 ++ u :: l2) = chain (l1 ++ [u]) * chain (u :: l2) := by
 induction l1 with
 | nil => simp [chain, one_sep]
 | cons v l ih =>
   cases l with
   | nil => simp [chain, sep_one]
   | cons x l =>
     simp only [List.cons_append] at ih ⊢
     simp only [chain, sep_assoc, ih]
def before (L : Nat) (l1 : List Nd) : Nat × Nat := match l1.getLast? with
 | some n => (n.b, 0)
 | none => (L, 1)
def behind (L : Nat) (l2 : List Nd) : Nat × Nat := match l2 with
 | n :: _ => (n.b, 0)
 | [] => (L, 1)
theorem ring_split (L : Nat) (l1 l2 : List Nd) : ∃ p q : List (Nat × Nat), (∀ mid : List Nd, ring L (l1 ++ mid ++ l2) = p ++ before L l1 :: (mid.map (fun n => (n.b, 0)) ++ behind L l2 :: q)) := by
 have h1 : ∃ p, (L, 1) :: l1.map (fun n => (n.b, 0)) = p ++ [before L l1] := by
  unfold before
  rcases List.eq_nil_or_concat l1 with rfl | ⟨l, n, rfl⟩
  · exact ⟨[], rfl⟩
  · exact ⟨(L, 1) :: l.map (fun n => (n.b, 0)), by simp⟩
 have h2 : ∃ q, l2.map (fun n => (n.b, 0)) ++ [(L, 1)] = behind L l2 :: q := by
  unfold behind
  cases l2 with
  | nil => exact ⟨[], rfl⟩
  | cons n l => exact ⟨l.map (fun n => (n.b, 0)) ++ [(L, 1)], by simp⟩
 obtain ⟨p, hp⟩ := h1
 obtain ⟨q, hq⟩ := h2
 refine ⟨p, q, fun mid => ?_⟩
 have : ring L (l1 ++ mid ++ l2) = ((L, 1) :: l1.map (fun n => (n.b, 0))) ++ (mid.map (fun n => (n.b, 0)) ++ (l2.map (fun n => (n.b, 0)) ++ [(L, 1)])) := by simp [ring]
 rw [this, hp, hq]
 simp
theorem ring_cut (L : Nat) (l1 : List Nd) (n : Nd) (l2 : List Nd) : ∃ R : Assn,
 chain (ring L (l1 ++ n :: l2)) = edge (before L l1) (n.b, 0) * edge (n.b, 0) (behind L l2) * R ∧
 chain (ring L (l1 ++ l2)) = edge (before L l1) (behind L l2) * R := by
 obtain ⟨p, q, h⟩ := ring_split L l1 l2
 refine ⟨chain (p ++ [before L l1]) * chain (behind L l2 :: q), ?_, ?_⟩
 · have := h [n]
   simp only [List.map_cons, List.map_nil, List.cons_append, List.nil_append, List.append_assoc] at this
   rw [this, chain_append]
   simp only [chain]
   ac_rfl
 · have := h []
   simp only [List.map_nil, List.nil_append, List.append_nil] at this
   rw [this, chain_append]
   simp only [chain]
   ac_rfl
theorem ring_last (L : Nat) (ns : List Nd) : ∃ R : Assn, chain (ring L ns) = edge (before L ns) (L, 1) * R ∧
 ∀ n : Nd, chain (ring L (ns ++ [n])) = edge (before L ns) (n.b, 0) * edge (n.b, 0) (L, 1) * R := by
 have h1 : ∃ p, (L, 1) :: ns.map (fun n => (n.b, 0)) = p ++ [before L ns] := by
  unfold before
  rcases List.eq_nil_or_concat ns with rfl | ⟨l, n, rfl⟩
  · exact ⟨[], rfl⟩
  · exact ⟨(L, 1) :: l.map (fun n => (n.b, 0)), by simp⟩
 obtain ⟨p, hp⟩ := h1
 refine ⟨chain (p ++ [before L ns]), ?_, ?_⟩
 · have : ring L ns = p ++ before L ns :: [(L, 1)] := by
    have : ring L ns = ((L, 1) :: ns.map (fun n => (n.b, 0))) ++ [(L, 1)] := by simp [ring]
    rw [this, hp]; simp
   rw [this, chain_append]
   simp only [chain, sep_one]
   ac_rfl
 · intro n
   have : ring L (ns ++ [n]) = p ++ before L ns :: [(n.b, 0), (L, 1)] := by
    have : ring L (ns ++ [n]) = ((L, 1) :: ns.map (fun n => (n.b, 0))) ++ [(n.b, 0), (L, 1)] := by simp [ring]
    rw [this, hp]; simp
   rw [this, chain_append]
   simp only [chain, sep_one]
   ac_rfl
theorem ring_first (L : Nat) (ns : List Nd) : ∃ R : Assn, chain (ring L ns) = edge (L, 1) (behind L ns) * R := by
 cases ns with
 | nil => exact ⟨1, by simp [ring, chain, behind]⟩
 | cons n l => exact ⟨chain ((n.b, 0) :: (l.map (fun n => (n.b, 0)) ++ [(L, 1)])), by simp [ring, chain, behind]⟩
theorem mget_perm {κ : Type} [DecidableEq κ] {ms : List (κ × Value)} : ∀ {ns : List (κ × Value)}, ms.Perm ns → (ns.map (·.1)).Nodup → ∀ k, mget k ms = mget k ns := by
 intro ns hp
 induction hp with
 | nil => intro _ _; rfl
 | cons x _ ih =>
   intro hn k
   simp only [List.map_cons, List.nodup_cons] at hn
   simp only [mget]
   split
   · rfl
   · exact ih hn.2 k
 | swap x y l =>
   intro hn k
   simp only [List.map_cons, List.nodup_cons, List.mem_cons, not_or] at hn
   simp only [mget]
   split <;> split <;> simp_all
 | trans h1 h2 ih1 ih2 =>
   intro hn k
   have hn' := (h2.map (·.1)).nodup_iff.2 hn
   rw [ih1 hn' k, ih2 hn k]
theorem mget_found {k : Int} {l1 : List Nd} {n : Nd} {l2 : List Nd} (hk : n.key = k) (hn : ((l1 ++ n :: l2).map (·.key)).Nodup) : mget k ((l1 ++ n :: l2).map kv) = some (.pointer (some ⟨n.b, 0, none⟩)) := by
 induction l1 with
 | nil => simp [mget, kv, hk]
 | cons m l ih =>
   simp only [List.cons_append, List.map_cons, List.nodup_cons] at hn
   simp only [List.cons_append, List.map_cons, mget]
   rw [if_neg, ih hn.2]
   intro e
   apply hn.1
   simp [kv] at e
   simp [← e, hk]
theorem mget_none {k : Int} {ns : List Nd} (h : ∀ n ∈ ns, n.key ≠ k) : mget k (ns.map kv) = none := by
 induction ns with
 | nil => rfl
 | cons m l ih =>
   simp only [List.map_cons, mget]
   rw [if_neg, ih fun n hn => h n (List.mem_cons_of_mem _ hn)]
   intro e
   exact h m (List.mem_cons_self) e.symm
theorem mput_perm {ms : List (Int × Value)} {ns : List Nd} (hp : ms.Perm (ns.map kv)) (hd : (ns.map (·.key)).Nodup) {n : Nd} (h : ∀ m ∈ ns, m.key ≠ n.key) : (mput n.key (.pointer (some ⟨n.b, 0, none⟩)) ms).Perm ((ns ++ [n]).map kv) := by
 have hk : ((ns.map kv).map (·.1)).Nodup := by simpa [List.map_map, Function.comp_def, kv] using hd
 rw [mput_new (by rw [mget_perm hp hk]; exact mget_none h)]
 simp only [List.map_append, List.map_cons, List.map_nil]
 exact hp.append_right _
theorem mdel_perm {κ : Type} [DecidableEq κ] {ms ns : List (κ × Value)} (hp : ms.Perm ns) : (ns.map (·.1)).Nodup → ∀ k, (mdel k ms).Perm (mdel k ns) := by
 induction hp with
 | nil => intro _ _; exact .nil
 | cons x h ih =>
   intro hn k
   simp only [List.map_cons, List.nodup_cons] at hn
   simp only [mdel]
   split
   · exact h
   · exact (ih hn.2 k).cons x
 | swap x y l =>
   intro hn k
   simp only [List.map_cons, List.nodup_cons, List.mem_cons, not_or] at hn
   simp only [mdel]
   split <;> split
   · rename_i h1 h2; exact absurd (h1.symm.trans h2) (fun e => hn.1.1 e.symm)
   · exact .refl _
   · exact .refl _
   · exact .swap _ _ _
 | trans h1 h2 ih1 ih2 =>
   intro hn k
   have hn' := (h2.map (·.1)).nodup_iff.2 hn
   exact (ih1 hn' k).trans (ih2 hn k)
theorem mdel_found {k : Int} {l1 : List Nd} {n : Nd} {l2 : List Nd} (hk : n.key = k) (hn : ((l1 ++ n :: l2).map (·.key)).Nodup) : mdel k ((l1 ++ n :: l2).map kv) = (l1 ++ l2).map kv := by
 induction l1 with
 | nil => simp [mdel, kv, hk]
 | cons m l ih =>
   simp only [List.cons_append, List.map_cons, List.nodup_cons] at hn
   simp only [List.cons_append, List.map_cons, mdel]
   rw [if_neg, ih hn.2]
   intro e
   apply hn.1
   simp [kv] at e
   simp [← e, hk]
theorem Sat.pmp_open {M : Nat} {ns : List Nd} {F : Assn} {w : World} (hs : Sat (pmp M ns * F) w) : ∃ ms o, ms.Perm (ns.map kv) ∧ MapIs ikey o ms ∧ Sat (raw M o * F) w := by
 obtain ⟨_, ⟨g, k, d, rfl, ⟨ms, hp, hr⟩, hF⟩, H⟩ := hs
 obtain ⟨o, h1, h2⟩ := Sat.mp_open (kf := ikey) (b := M) (ms := ms) (F := F) ⟨_, ⟨g, k, d, rfl, hr, hF⟩, H⟩
 exact ⟨ms, o, hp, h1, h2⟩
theorem Sat.pmp_shut {M : Nat} {ns : List Nd} {F : Assn} {w : World} {ms : List (Int × Value)} {o : Obj} (hp : ms.Perm (ns.map kv)) (ho : MapIs ikey o ms) (hs : Sat (raw M o * F) w) : Sat (pmp M ns * F) w := by
 obtain ⟨_, ⟨g, k, d, rfl, hr, hF⟩, H⟩ := Sat.mp_shut ho hs
 exact ⟨_, ⟨g, k, d, rfl, ⟨ms, hp, hr⟩, hF⟩, H⟩
theorem keys_nodup {ns : List Nd} (hd : (ns.map (·.key)).Nodup) : ((ns.map kv).map (·.1)).Nodup := by simpa [List.map_map, Function.comp_def, kv] using hd
theorem find_cases (ns : List Nd) (k : Int) : (∃ l1 n l2, ns = l1 ++ n :: l2 ∧ n.key = k) ∨ (∀ n ∈ ns, n.key ≠ k) := by
 by_cases h : ∃ n ∈ ns, n.key = k
 · obtain ⟨n, hn, hk⟩ := h
   obtain ⟨l1, l2, e⟩ := List.append_of_mem hn
   exact .inl ⟨l1, n, l2, e, hk⟩
 · exact .inr fun n hn hk => h ⟨n, hn, hk⟩
end Go.Lru
