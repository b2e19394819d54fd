/-
  A small separation logic over the model's worlds: heaplets of cells, headers and whole blocks; assertions; how they stand behind a store, a new block, a map's update.
-/
import Derived.WalkKit
import Derived.Deep.Quiet
namespace Go.Sl
set_option linter.unusedSimpArgs false
set_option linter.unusedVariables false

inductive Key where
  | raw (b : Nat)
  | cell (b i : Nat)
  | hdr (b : Nat)
  | env
  deriving DecidableEq

inductive Res where
  | obj (o : Obj)
  | val (v : Value)
  | shp (t : TypeId) (n : Nat)
  | io (os : Os) (tape : Nat → Question → Nat) (out : Array (Nat × ByteArray))

abbrev Hp := Key → Option Res

def Key.blk : Key → Option Nat
  | .raw b => some b
  | .cell b _ => some b
  | .hdr b => some b
  | .env => none

def Key.isRaw : Key → Prop
  | .raw _ => True
  | _ => False

def Clash (k k' : Key) : Prop := k = k' ∨ ((k.isRaw ∨ k'.isRaw) ∧ k.blk = k'.blk)

theorem Clash.symm {k k' : Key} (h : Clash k k') : Clash k' k := by
  rcases h with h | ⟨h, e⟩
  · exact .inl h.symm
  · exact .inr ⟨h.symm, e.symm⟩

def Has (w : World) : Key → Res → Prop
  | .raw b, .obj o => w.heap[b]? = some o
  | .cell b i, .val v => ∃ c t, w.heap[b]? = some (.cells c t (0, 0)) ∧ c[i]? = some v
  | .hdr b, .shp t n => ∃ c, w.heap[b]? = some (.cells c t (0, 0)) ∧ c.size = n
  | .env, .io os tp out => w.os = os ∧ w.tape = tp ∧ w.output = out
  | _, _ => False

def Hp.dis (g h : Hp) : Prop := ∀ k k', g k ≠ none → h k' ≠ none → ¬ Clash k k'

def Hp.un (g h : Hp) : Hp := fun k => match g k with
  | some r => some r
  | none => h k

def Assn := Hp → Prop

def sep (A B : Assn) : Assn := fun h => ∃ g k : Hp, g.dis k ∧ h = g.un k ∧ A g ∧ B k

instance : Mul Assn := ⟨sep⟩

def emp : Assn := fun h => h = fun _ => none

instance : One Assn := ⟨emp⟩

theorem Hp.dis.symm {g h : Hp} (d : g.dis h) : h.dis g := fun k k' a b c => d k' k b a c.symm

theorem Hp.un_comm {g h : Hp} (d : g.dis h) : g.un h = h.un g := by
  funext k
  unfold Hp.un
  cases hg : g k with
  | none => cases hh : h k <;> rfl
  | some r =>
    cases hh : h k with
    | none => rfl
    | some r' => exact absurd (Or.inl rfl) (d k k (by simp [hg]) (by simp [hh]))

theorem Hp.un_assoc (f g h : Hp) : (f.un g).un h = f.un (g.un h) := by
  funext k
  unfold Hp.un
  cases hf : f k <;> rfl

theorem Hp.un_ne {g h : Hp} {k : Key} : (g.un h) k ≠ none ↔ g k ≠ none ∨ h k ≠ none := by
  unfold Hp.un
  cases hg : g k <;> simp

theorem Hp.dis_un {f g h : Hp} : (f.un g).dis h ↔ f.dis h ∧ g.dis h := by
  constructor
  · exact fun d => ⟨fun k k' a b => d k k' (Hp.un_ne.2 (.inl a)) b, fun k k' a b => d k k' (Hp.un_ne.2 (.inr a)) b⟩
  · rintro ⟨d1, d2⟩ k k' a b
    rcases Hp.un_ne.1 a with a | a
    · exact d1 k k' a b
    · exact d2 k k' a b

theorem Hp.dis_un' {f g h : Hp} : f.dis (g.un h) ↔ f.dis g ∧ f.dis h := by
  constructor
  · exact fun d => ⟨fun k k' a b => d k k' a (Hp.un_ne.2 (.inl b)), fun k k' a b => d k k' a (Hp.un_ne.2 (.inr b))⟩
  · rintro ⟨d1, d2⟩ k k' a b
    rcases Hp.un_ne.1 b with b | b
    · exact d1 k k' a b
    · exact d2 k k' a b

theorem sep_comm (A B : Assn) : A * B = B * A := by
  funext h
  apply propext
  constructor
  · rintro ⟨g, k, d, rfl, a, b⟩; exact ⟨k, g, d.symm, Hp.un_comm d, b, a⟩
  · rintro ⟨g, k, d, rfl, a, b⟩; exact ⟨k, g, d.symm, Hp.un_comm d, b, a⟩

theorem sep_assoc (A B C : Assn) : A * B * C = A * (B * C) := by
  funext h
  apply propext
  constructor
  · rintro ⟨g, k, d, rfl, ⟨g1, g2, d', rfl, a, b⟩, c⟩
    obtain ⟨d1, d2⟩ := Hp.dis_un.1 d
    exact ⟨g1, g2.un k, Hp.dis_un'.2 ⟨d', d1⟩, Hp.un_assoc _ _ _, a, g2, k, d2, rfl, b, c⟩
  · rintro ⟨g, k, d, rfl, a, ⟨k1, k2, d', rfl, b, c⟩⟩
    obtain ⟨d1, d2⟩ := Hp.dis_un'.1 d
    exact ⟨g.un k1, k2, Hp.dis_un.2 ⟨d2, d'⟩, (Hp.un_assoc _ _ _).symm, ⟨g, k1, d1, rfl, a, b⟩, c⟩

instance : Std.Associative (α := Assn) (· * ·) := ⟨sep_assoc⟩
instance : Std.Commutative (α := Assn) (· * ·) := ⟨sep_comm⟩

theorem one_sep (A : Assn) : 1 * A = A := by
  funext h
  apply propext
  constructor
  · rintro ⟨g, k, d, rfl, a, b⟩
    have e : g = fun _ => none := a
    subst e
    exact b
  · intro a
    exact ⟨fun _ => none, h, fun _ _ x => absurd rfl x, rfl, rfl, a⟩

theorem sep_one (A : Assn) : A * 1 = A := by rw [sep_comm, one_sep]

theorem sep_left (A B C : Assn) : A * (B * C) = B * (A * C) := by ac_rfl

/-- A world meets an assertion: some heaplet of it does. -/
def Sat (A : Assn) (w : World) : Prop := ∃ h : Hp, A h ∧ ∀ k r, h k = some r → Has w k r

theorem Sat.eq {A B : Assn} {w : World} (h : Sat A w) (e : A = B) : Sat B w := e ▸ h

theorem Sat.weak {A B : Assn} {w : World} (h : Sat (A * B) w) : Sat A w := by
  obtain ⟨_, ⟨g, k, d, rfl, a, b⟩, H⟩ := h
  exact ⟨g, a, fun k' r e => H k' r (by simp [Hp.un, e])⟩

theorem Sat.right {A B : Assn} {w : World} (h : Sat (A * B) w) : Sat B w := by
  rw [sep_comm] at h; exact h.weak

/-- The one law behind all others: what holds A turns to B, and every resource that does not clash with A's stays and does not clash with B's. -/
theorem Sat.update {A B F : Assn} {w w' : World} (hs : Sat (A * F) w)
    (H : ∀ g : Hp, A g → (∀ k r, g k = some r → Has w k r) → ∃ g' : Hp, B g' ∧ (∀ k r, g' k = some r → Has w' k r) ∧
      (∀ k r, Has w k r → (∀ k', g k' ≠ none → ¬ Clash k' k) → Has w' k r ∧ ∀ k', g' k' ≠ none → ¬ Clash k' k)) : Sat (B * F) w' := by
  obtain ⟨_, ⟨g, k, d, rfl, a, b⟩, hh⟩ := hs
  obtain ⟨g', b', h1, h2⟩ := H g a (fun k' r e => hh k' r (by simp [Hp.un, e]))
  have hk : ∀ k' r, k k' = some r → Has w k' r := by
    intro k' r e
    refine hh k' r ?_
    have : (g.un k) = k.un g := Hp.un_comm d
    rw [this]; simp [Hp.un, e]
  refine ⟨g'.un k, ⟨g', k, ?_, rfl, b', b⟩, ?_⟩
  · intro k1 k2 e1 e2
    obtain ⟨r, hr⟩ := Option.ne_none_iff_exists'.1 e2
    exact (h2 k2 r (hk k2 r hr) (fun k3 e3 => d k3 k2 e3 e2)).2 k1 e1
  · intro k1 r e
    unfold Hp.un at e
    cases hg : g' k1 with
    | some r' => rw [hg] at e; cases e; exact h1 _ _ hg
    | none => rw [hg] at e; exact (h2 k1 r (hk k1 r e) (fun k3 e3 => d k3 k1 e3 (by simp [e]))).1

theorem Sat.same {A : Assn} {w w' : World} (hs : Sat A w) (hh : w'.heap = w.heap) (ho : w'.os = w.os) (ht : w'.tape = w.tape) (hp : w'.output = w.output) : Sat A w' := by
  obtain ⟨h, a, H⟩ := hs
  refine ⟨h, a, fun k r e => ?_⟩
  have := H k r e
  cases k <;> cases r <;> simp only [Has, hh, ho, ht, hp] at this ⊢ <;> exact this

theorem Sat.drew {A : Assn} {w : World} (hs : Sat A w) : Sat A w.drew := hs.same rfl rfl rfl rfl
theorem Sat.drewN {A : Assn} {w : World} (n : Nat) (hs : Sat A w) : Sat A (w.drewN n) := hs.same rfl rfl rfl rfl

/-! The atoms. -/

def one (k : Key) (r : Res) : Hp := fun k' => if k' = k then some r else none

theorem one_ne {k k' : Key} {r : Res} : one k r k' ≠ none ↔ k' = k := by
  unfold one; split <;> simp_all

theorem one_some {k k' : Key} {r r' : Res} (h : one k r k' = some r') : k' = k ∧ r' = r := by
  unfold one at h; split at h <;> simp_all

theorem one_self (k : Key) (r : Res) : one k r k = some r := by simp [one]

def cell (b i : Nat) (v : Value) : Assn := fun h => h = one (.cell b i) (.val v)
def hdr (b : Nat) (t : TypeId) (n : Nat) : Assn := fun h => h = one (.hdr b) (.shp t n)
def raw (b : Nat) (o : Obj) : Assn := fun h => h = one (.raw b) (.obj o)
def env (w : World) : Assn := fun h => h = one .env (.io w.os w.tape w.output)

def atom (k : Key) (r : Res) : Assn := fun h => h = one k r

theorem Sat.has {k : Key} {r : Res} {F : Assn} {w : World} (hs : Sat (atom k r * F) w) : Has w k r := by
  obtain ⟨_, ⟨g, _, _, rfl, rfl, _⟩, H⟩ := hs
  exact H k r (by simp [Hp.un, one_self])

theorem Sat.blk {b i : Nat} {v : Value} {F : Assn} {w : World} (hs : Sat (cell b i v * F) w) : ∃ c t, w.heap[b]? = some (.cells c t (0, 0)) ∧ c[i]? = some v :=
  Sat.has (k := .cell b i) (r := .val v) hs

theorem Sat.shp {b n : Nat} {t : TypeId} {F : Assn} {w : World} (hs : Sat (hdr b t n * F) w) : ∃ c, w.heap[b]? = some (.cells c t (0, 0)) ∧ c.size = n :=
  Sat.has (k := .hdr b) (r := .shp t n) hs

theorem Sat.obj {b : Nat} {o : Obj} {F : Assn} {w : World} (hs : Sat (raw b o * F) w) : w.heap[b]? = some o :=
  Sat.has (k := .raw b) (r := .obj o) hs

theorem Sat.io {e : World} {F : Assn} {w : World} (hs : Sat (env e * F) w) : w.os = e.os ∧ w.tape = e.tape ∧ w.output = e.output :=
  Sat.has (k := .env) (r := .io e.os e.tape e.output) hs

theorem Sat.cell {b i : Nat} {v : Value} {F : Assn} {w : World} (hs : Sat (cell b i v * F) w) : w.cell? ⟨b, i, none⟩ = some v := by
  obtain ⟨c, t, h1, h2⟩ := hs.blk
  simp [World.cell?, h1, h2]

theorem Sat.free {b i : Nat} {v : Value} {F : Assn} {w : World} (hs : Sat (Sl.cell b i v * F) w) (j : Nat) : w.frozen? ⟨b, j, none⟩ = false := by
  obtain ⟨c, t, h1, h2⟩ := hs.blk
  simp [World.frozen?, h1]

theorem Sat.lt {b i : Nat} {v : Value} {F : Assn} {w : World} (hs : Sat (Sl.cell b i v * F) w) : b < w.heap.size := by
  obtain ⟨c, t, h1, h2⟩ := hs.blk
  rcases Nat.lt_or_ge b w.heap.size with h | h
  · exact h
  · simp [Array.getElem?_eq_none h] at h1

theorem lt_of_some {w : World} {b : Nat} {o : Obj} (h : w.heap[b]? = some o) : b < w.heap.size := by
  rcases Nat.lt_or_ge b w.heap.size with h' | h'
  · exact h'
  · simp [Array.getElem?_eq_none h'] at h

theorem Has.lt {w : World} {k : Key} {r : Res} {b : Nat} (h : Has w k r) (hb : k.blk = some b) : b < w.heap.size := by
  cases k <;> cases r <;> simp only [Has, Key.blk, Option.some.injEq, reduceCtorEq] at h hb
  · subst hb; exact lt_of_some h
  · obtain ⟨c, t, h, _⟩ := h; subst hb; exact lt_of_some h
  · obtain ⟨c, h, _⟩ := h; subst hb; exact lt_of_some h

/-- Two cells that are held apart are not one. -/
theorem cell_ne {b i b' i' : Nat} {v v' : Value} {F : Assn} {w : World} (hs : Sat (Sl.cell b i v * (Sl.cell b' i' v' * F)) w) : ¬ (b = b' ∧ i = i') := by
  rintro ⟨rfl, rfl⟩
  obtain ⟨_, ⟨g, k, d, rfl, rfl, ⟨g', k', d', rfl, rfl, _⟩⟩, H⟩ := hs
  exact d (.cell b i) (.cell b i) (by simp [one_self]) (by simp [Hp.un, one_self]) (.inl rfl)

theorem hdr_ne {b b' n n' : Nat} {t t' : TypeId} {F : Assn} {w : World} (hs : Sat (hdr b t n * (hdr b' t' n' * F)) w) : b ≠ b' := by
  rintro rfl
  obtain ⟨_, ⟨g, k, d, rfl, rfl, ⟨g', k', d', rfl, rfl, _⟩⟩, H⟩ := hs
  exact d (.hdr b) (.hdr b) (by simp [one_self]) (by simp [Hp.un, one_self]) (.inl rfl)

theorem Sat.setCell {b i : Nat} {v : Value} {F : Assn} {w : World} (hs : Sat (Sl.cell b i v * F) w) (v' : Value) : Sat (Sl.cell b i v' * F) (w.setCell ⟨b, i, none⟩ v') := by
  refine hs.update fun g hg H => ?_
  subst hg
  obtain ⟨c, t, h1, h2⟩ : ∃ c t, w.heap[b]? = some (.cells c t (0, 0)) ∧ c[i]? = some v := H (.cell b i) (.val v) (one_self _ _)
  have hi : i < c.size := by
    rcases Nat.lt_or_ge i c.size with h | h
    · exact h
    · simp [Array.getElem?_eq_none h] at h2
  have hb : (w.setCell ⟨b, i, none⟩ v').heap[b]? = some (.cells (c.setIfInBounds i v') t (0, 0)) := by
    simp [World.setCell, Array.getElem?_modify, h1]
  have ho : ∀ b', b' ≠ b → (w.setCell ⟨b, i, none⟩ v').heap[b']? = w.heap[b']? := by
    intro b' hne
    simp only [World.setCell, Array.getElem?_modify]
    rw [if_neg (fun e => hne e.symm)]
  refine ⟨one (.cell b i) (.val v'), rfl, ?_, ?_⟩
  · intro k r e
    obtain ⟨rfl, rfl⟩ := one_some e
    exact ⟨_, _, hb, by simp [hi]⟩
  · intro k r hk hc
    have hcl := hc (.cell b i) (by simp [one_self])
    refine ⟨?_, fun k' e => by rw [one_ne] at e; subst e; exact hcl⟩
    cases k with
    | raw b' =>
      have hne : b' ≠ b := fun e => hcl (.inr ⟨.inr trivial, by simp [Key.blk, e]⟩)
      cases r <;> simp only [Has] at hk ⊢
      rw [ho _ hne]; exact hk
    | cell b' i' =>
      cases r <;> simp only [Has] at hk ⊢
      obtain ⟨c', t', e1, e2⟩ := hk
      by_cases hbb : b' = b
      · subst hbb
        rw [h1] at e1; cases e1
        have hne : i ≠ i' := fun e => hcl (.inl (by rw [e]))
        exact ⟨_, _, hb, by rw [Array.getElem?_setIfInBounds]; simp [hne, e2]⟩
      · exact ⟨c', t', by rw [ho _ hbb]; exact e1, e2⟩
    | hdr b' =>
      cases r <;> simp only [Has] at hk ⊢
      obtain ⟨c', e1, e2⟩ := hk
      by_cases hbb : b' = b
      · subst hbb
        rw [h1] at e1; cases e1
        exact ⟨_, hb, by simp [e2]⟩
      · exact ⟨c', by rw [ho _ hbb]; exact e1, e2⟩
    | env =>
      cases r <;> simp only [Has] at hk ⊢
      exact hk

theorem Sat.setRaw {b : Nat} {o : Obj} {F : Assn} {w : World} (hs : Sat (raw b o * F) w) (o' : Obj) : Sat (raw b o' * F) { w with heap := w.heap.setIfInBounds b o' } := by
  refine hs.update fun g hg H => ?_
  subst hg
  have h1 : w.heap[b]? = some o := H (.raw b) (.obj o) (one_self _ _)
  have hlt := lt_of_some h1
  have ho : ∀ b', b' ≠ b → (w.heap.setIfInBounds b o')[b']? = w.heap[b']? := by
    intro b' hne
    rw [Array.getElem?_setIfInBounds_ne (fun e => hne e.symm)]
  refine ⟨one (.raw b) (.obj o'), rfl, ?_, ?_⟩
  · intro k r e
    obtain ⟨rfl, rfl⟩ := one_some e
    simp [Has, hlt]
  · intro k r hk hc
    have hcl := hc (.raw b) (by simp [one_self])
    refine ⟨?_, fun k' e => by rw [one_ne] at e; subst e; exact hcl⟩
    have hne : ∀ b', k.blk = some b' → b' ≠ b := fun b' e e' => hcl (.inr ⟨.inl trivial, by rw [e, e']; rfl⟩)
    cases k <;> cases r <;> simp only [Has, Key.blk, Option.some.injEq, forall_eq'] at hk hne ⊢ <;> first | (rw [ho _ hne]; exact hk) | exact hk

/-- cells one behind the other -/
def cells (b : Nat) : Nat → List Value → Assn
  | _, [] => 1
  | i, v :: vs => Sl.cell b i v * cells b (i + 1) vs

def block (b : Nat) (t : TypeId) (vs : List Value) : Assn := hdr b t vs.length * cells b 0 vs

theorem Sat.alloc_raw {F : Assn} {w : World} (hs : Sat F w) (o : Obj) : Sat (raw w.heap.size o * F) (w.alloc o) := by
  rw [← one_sep F] at hs
  refine hs.update fun g hg _ => ?_
  refine ⟨one (.raw w.heap.size) (.obj o), rfl, ?_, ?_⟩
  · intro k r e
    obtain ⟨rfl, rfl⟩ := one_some e
    show (w.heap.push o)[w.heap.size]? = some o
    simp
  · intro k r hk _
    have ho : ∀ b', b' < w.heap.size → (w.alloc o).heap[b']? = w.heap[b']? := by
      intro b' h; show (w.heap.push o)[b']? = _; rw [Array.getElem?_push, if_neg (by omega)]
    refine ⟨?_, ?_⟩
    · have hl := fun b' => Has.lt hk (b := b')
      cases k <;> cases r <;> simp only [Has, Key.blk, Option.some.injEq, forall_eq'] at hk hl ⊢ <;> first | (rw [ho _ hl]; exact hk) | exact hk
    · intro k' e
      rw [one_ne] at e; subst e
      rintro (rfl | ⟨_, e⟩)
      · exact absurd (Has.lt hk (b := w.heap.size) rfl) (by omega)
      · exact absurd (Has.lt hk (b := w.heap.size) e.symm) (by omega)

/-- A whole block of cells is its header and its cells. -/
theorem cells_hp (b i : Nat) (vs : List Value) : ∃ h : Hp, cells b i vs h ∧ (∀ k, h k ≠ none → ∃ j, j < vs.length ∧ k = .cell b (i + j)) ∧ (∀ j v, vs[j]? = some v → h (.cell b (i + j)) = some (.val v)) := by
  induction vs generalizing i with
  | nil => exact ⟨fun _ => none, rfl, fun k h => absurd rfl h, fun j v h => by simp at h⟩
  | cons v vs ih =>
    obtain ⟨h, h1, h2, h3⟩ := ih (i + 1)
    refine ⟨(one (.cell b i) (.val v)).un h, ⟨_, _, ?_, rfl, rfl, h1⟩, ?_, ?_⟩
    · intro k k' e e' hc
      rw [one_ne] at e; subst e
      obtain ⟨j, hj, rfl⟩ := h2 _ e'
      rcases hc with hc | ⟨hc | hc, _⟩
      · simp only [Key.cell.injEq, true_and] at hc; omega
      · exact hc
      · exact hc
    · intro k e
      rcases Hp.un_ne.1 e with e | e
      · rw [one_ne] at e; exact ⟨0, by simp, by simpa using e⟩
      · obtain ⟨j, hj, rfl⟩ := h2 _ e
        exact ⟨j + 1, by simp; omega, by congr 1; omega⟩
    · intro j u hj
      cases j with
      | zero => simp only [List.getElem?_cons_zero, Option.some.injEq] at hj; subst hj; simp [Hp.un, one_self]
      | succ j =>
        simp only [List.getElem?_cons_succ] at hj
        have := h3 j u hj
        have e : i + 1 + j = i + (j + 1) := by omega
        rw [e] at this
        have hn : one (.cell b i) (.val v) (.cell b (i + (j + 1))) = none := by
          cases hh : one (.cell b i) (.val v) (.cell b (i + (j + 1))) with
          | none => rfl
          | some r => have := (one_some hh).1; simp only [Key.cell.injEq, true_and] at this; omega
        simp [Hp.un, hn, this]

theorem block_hp (b : Nat) (t : TypeId) (vs : List Value) : ∃ h : Hp, block b t vs h ∧ (∀ k, h k ≠ none → k = .hdr b ∨ ∃ j, j < vs.length ∧ k = .cell b j) ∧ (h (.hdr b) = some (.shp t vs.length)) ∧ (∀ j v, vs[j]? = some v → h (.cell b j) = some (.val v)) := by
  obtain ⟨h, h1, h2, h3⟩ := cells_hp b 0 vs
  simp only [Nat.zero_add] at h2 h3
  have hx : h (.hdr b) = none := by
    cases hh : h (.hdr b) with
    | none => rfl
    | some r => obtain ⟨j, _, e⟩ := h2 (.hdr b) (by simp [hh]); cases e
  refine ⟨(one (.hdr b) (.shp t vs.length)).un h, ⟨_, _, ?_, rfl, rfl, h1⟩, ?_, ?_, ?_⟩
  · intro k k' e e' hc
    rw [one_ne] at e; subst e
    obtain ⟨j, hj, rfl⟩ := h2 _ e'
    rcases hc with hc | ⟨hc | hc, _⟩
    · cases hc
    · exact hc
    · exact hc
  · intro k e
    rcases Hp.un_ne.1 e with e | e
    · rw [one_ne] at e; exact .inl e
    · exact .inr (h2 _ e)
  · simp [Hp.un, one_self]
  · intro j v hj
    have hn : one (.hdr b) (.shp t vs.length) (.cell b j) = none := by
      cases hh : one (.hdr b) (.shp t vs.length) (.cell b j) with
      | none => rfl
      | some r => have := (one_some hh).1; cases this
    simp [Hp.un, hn, h3 j v hj]

/-- a whole block of cells, taken apart -/
theorem Sat.open_raw {b : Nat} {t : TypeId} {c : Array Value} {F : Assn} {w : World} (hs : Sat (raw b (.cells c t (0, 0)) * F) w) : Sat (block b t c.toList * F) w := by
  refine hs.update fun g hg H => ?_
  subst hg
  have h1 : w.heap[b]? = some (.cells c t (0, 0)) := H (.raw b) (.obj _) (one_self _ _)
  obtain ⟨h, a1, a2, a3, a4⟩ := block_hp b t c.toList
  refine ⟨h, a1, ?_, ?_⟩
  · intro k r e
    rcases a2 k (by simp [e]) with rfl | ⟨j, hj, rfl⟩
    · rw [a3] at e; cases e
      exact ⟨c, h1, by simp⟩
    · rw [a4 j (c.toList[j]) (by simp)] at e; cases e
      exact ⟨c, t, h1, by simp at hj ⊢⟩
  · intro k r hk hc
    have hcl := hc (.raw b) (by simp [one_self])
    refine ⟨hk, fun k' e => ?_⟩
    rintro hcl'
    apply hcl
    rcases a2 k' e with rfl | ⟨j, hj, rfl⟩
    · rcases hcl' with rfl | ⟨_, e⟩
      · exact .inr ⟨.inl trivial, rfl⟩
      · exact .inr ⟨.inl trivial, e⟩
    · rcases hcl' with rfl | ⟨_, e⟩
      · exact .inr ⟨.inl trivial, rfl⟩
      · exact .inr ⟨.inl trivial, e⟩

theorem Sat.alloc {F : Assn} {w : World} (hs : Sat F w) (c : Array Value) (t : TypeId) : Sat (Sl.block w.heap.size t c.toList * F) (w.alloc (.cells c t)) :=
  (hs.alloc_raw (.cells c t)).open_raw

/-- all cells of a block, in the world -/
theorem Sat.cells_at {b i : Nat} {vs : List Value} {F : Assn} {w : World} (hs : Sat (cells b i vs * F) w) : ∀ j v, vs[j]? = some v → w.cell? ⟨b, i + j, none⟩ = some v := by
  induction vs generalizing i F with
  | nil => intro j v h; simp at h
  | cons u vs ih =>
    intro j v h
    have hs' : Sat (Sl.cell b i u * cells b (i + 1) vs * F) w := hs
    cases j with
    | zero => simp only [List.getElem?_cons_zero, Option.some.injEq] at h; subst h; rw [sep_assoc] at hs'; exact hs'.cell
    | succ j =>
      simp only [List.getElem?_cons_succ] at h
      have := ih (F := Sl.cell b i u * F) (hs'.eq (by ac_rfl)) j v h
      rw [← this]; congr 2; omega

theorem Sat.block_heap {b : Nat} {t : TypeId} {vs : List Value} {F : Assn} {w : World} (hs : Sat (Sl.block b t vs * F) w) : w.heap[b]? = some (.cells vs.toArray t (0, 0)) := by
  have hs' : Sat (hdr b t vs.length * (cells b 0 vs * F)) w := hs.eq (sep_assoc _ _ _)
  obtain ⟨c, h1, h2⟩ := hs'.shp
  have hc := (hs'.eq (sep_left _ _ _)).cells_at
  rw [h1]
  congr 2
  apply Array.ext
  · simp [h2]
  · intro j hj hj'
    have := hc j vs[j] (by simp at hj'; simp [hj'])
    simp only [Nat.zero_add, World.cell?, h1] at this
    simp at this
    rw [Array.getElem?_eq_getElem hj] at this
    simpa using this

theorem Hp.ext_of {g h : Hp} (H : ∀ k r, g k = some r ↔ h k = some r) : g = h := by
  funext k
  cases hg : g k with
  | none =>
    cases hh : h k with
    | none => rfl
    | some r => rw [(H k r).2 hh] at hg; cases hg
  | some r => exact ((H k r).1 hg).symm

/-- put together again -/
theorem cells_only {b i : Nat} {vs : List Value} {h : Hp} (a : cells b i vs h) : ∀ k, h k ≠ none → ∃ j, j < vs.length ∧ k = .cell b (i + j) := by
  induction vs generalizing i h with
  | nil => intro k e; have : h = fun _ => none := a; rw [this] at e; exact absurd rfl e
  | cons v vs ih =>
    obtain ⟨g, k, d, rfl, rfl, a2⟩ := (a : (Sl.cell b i v * cells b (i + 1) vs) h)
    intro k' e
    rcases Hp.un_ne.1 e with e | e
    · rw [one_ne] at e; exact ⟨0, by simp, by simpa using e⟩
    · obtain ⟨j, hj, rfl⟩ := ih a2 _ e
      exact ⟨j + 1, by simp; omega, by congr 1; omega⟩


theorem cells_append (b i : Nat) (xs ys : List Value) : cells b i (xs ++ ys) = cells b i xs * cells b (i + xs.length) ys := by
  induction xs generalizing i with
  | nil => simp [cells, one_sep]
  | cons x xs ih =>
    simp only [List.cons_append, cells, ih, List.length_cons, sep_assoc]
    congr 3
    omega

end Go.Sl
