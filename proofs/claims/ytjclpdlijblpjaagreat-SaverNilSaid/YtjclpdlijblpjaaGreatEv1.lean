/-
  A run reckoned out: how its values and its memory stand for real ones; trees; steps.
-/
import Derived.Test.YtjclpdlijblpjaaGreatEv0
import Derived.Test.YtjclpdlijblpjaaGreatSlb
namespace Go.Ev
set_option linter.unusedVariables false
set_option linter.unusedSimpArgs false

theorem Tr.get_put {α : Type} (v : Option α) : ∀ (d : Nat) (t : Tr α) (k k' : Nat), k + 1 < 2 ^ d → (t.put v d k).get k' = if k' = k then v else t.get k'
  | 0, t, k, k', h => by simp at h
  | d + 1, t, k, k', h => by
    have h2 : (k - 1) / 2 + 1 < 2 ^ d ∨ k = 0 := by
      rw [Nat.pow_succ] at h
      omega
    have nilget : ∀ j, (Tr.nil : Tr α).get j = none := fun j => rfl
    cases t with
    | nil =>
      cases hk : Nat.beq k 0 with
      | true =>
        have hk0 : k = 0 := Nat.eq_of_beq_eq_true hk
        subst hk0
        simp only [Tr.put_nil, Tr.put_node, hk, cond_true, Tr.get_nil, Tr.get_node]
        cases hk' : Nat.beq k' 0 with
        | true => rw [if_pos (Nat.eq_of_beq_eq_true hk')]; rfl
        | false =>
          rw [if_neg (fun e => by subst e; cases hk')]
          cases Nat.beq ((k' - 1) % 2) 0 <;> rfl
      | false =>
        have hk0 : k ≠ 0 := fun e => by subst e; cases hk
        have h3 := h2.resolve_right hk0
        have ih := Tr.get_put v d .nil ((k - 1) / 2) ((k' - 1) / 2) h3
        cases hb : Nat.beq ((k - 1) % 2) 0 with
        | true =>
          simp only [Tr.put_nil, Tr.put_node, hk, hb, cond_true, cond_false, Tr.get_nil, Tr.get_node]
          cases hk' : Nat.beq k' 0 with
          | true => rw [if_neg (fun e => by rw [← e] at hk0; exact hk0 (Nat.eq_of_beq_eq_true hk'))]; rfl
          | false =>
            have hk'0 : k' ≠ 0 := fun e => by subst e; cases hk'
            have e1 := Nat.eq_of_beq_eq_true hb
            cases hb' : Nat.beq ((k' - 1) % 2) 0 with
            | true =>
              have e2 := Nat.eq_of_beq_eq_true hb'
              simp only [cond_true, cond_false, ih, nilget]
              congr 1
              apply propext; constructor <;> intro e <;> omega
            | false =>
              have e2 : (k' - 1) % 2 ≠ 0 := fun e => by rw [e] at hb'; cases hb'
              simp only [cond_true, cond_false, nilget]
              rw [if_neg (by intro e; subst e; exact e2 e1)]
        | false =>
          have e1 : (k - 1) % 2 ≠ 0 := fun e => by rw [e] at hb; cases hb
          simp only [Tr.put_nil, Tr.put_node, hk, hb, cond_true, cond_false, Tr.get_nil, Tr.get_node]
          cases hk' : Nat.beq k' 0 with
          | true => rw [if_neg (fun e => by rw [← e] at hk0; exact hk0 (Nat.eq_of_beq_eq_true hk'))]; rfl
          | false =>
            have hk'0 : k' ≠ 0 := fun e => by subst e; cases hk'
            cases hb' : Nat.beq ((k' - 1) % 2) 0 with
            | true =>
              have e2 := Nat.eq_of_beq_eq_true hb'
              simp only [cond_true, cond_false, nilget]
              rw [if_neg (by intro e; subst e; exact e1 e2)]
            | false =>
              have e2 : (k' - 1) % 2 ≠ 0 := fun e => by rw [e] at hb'; cases hb'
              simp only [cond_true, cond_false, ih, nilget]
              congr 1
              apply propext; constructor <;> intro e <;> omega
    | node l u r =>
      cases hk : Nat.beq k 0 with
      | true =>
        have hk0 : k = 0 := Nat.eq_of_beq_eq_true hk
        subst hk0
        simp only [Tr.put_nil, Tr.put_node, hk, cond_true, Tr.get_nil, Tr.get_node]
        cases hk' : Nat.beq k' 0 with
        | true => rw [if_pos (Nat.eq_of_beq_eq_true hk')]; rfl
        | false => rw [if_neg (fun e => by subst e; cases hk')]; rfl
      | false =>
        have hk0 : k ≠ 0 := fun e => by subst e; cases hk
        have h3 := h2.resolve_right hk0
        cases hb : Nat.beq ((k - 1) % 2) 0 with
        | true =>
          have ih := Tr.get_put v d l ((k - 1) / 2) ((k' - 1) / 2) h3
          simp only [Tr.put_nil, Tr.put_node, hk, hb, cond_true, cond_false, Tr.get_nil, Tr.get_node]
          cases hk' : Nat.beq k' 0 with
          | true => rw [if_neg (fun e => by rw [← e] at hk0; exact hk0 (Nat.eq_of_beq_eq_true hk'))]; rfl
          | false =>
            have hk'0 : k' ≠ 0 := fun e => by subst e; cases hk'
            have e1 := Nat.eq_of_beq_eq_true hb
            cases hb' : Nat.beq ((k' - 1) % 2) 0 with
            | true =>
              have e2 := Nat.eq_of_beq_eq_true hb'
              simp only [cond_true, cond_false, ih]
              congr 1
              apply propext; constructor <;> intro e <;> omega
            | false =>
              have e2 : (k' - 1) % 2 ≠ 0 := fun e => by rw [e] at hb'; cases hb'
              simp only [cond_true, cond_false]
              rw [if_neg (by intro e; subst e; exact e2 e1)]
        | false =>
          have ih := Tr.get_put v d r ((k - 1) / 2) ((k' - 1) / 2) h3
          have e1 : (k - 1) % 2 ≠ 0 := fun e => by rw [e] at hb; cases hb
          simp only [Tr.put_nil, Tr.put_node, hk, hb, cond_true, cond_false, Tr.get_nil, Tr.get_node]
          cases hk' : Nat.beq k' 0 with
          | true => rw [if_neg (fun e => by rw [← e] at hk0; exact hk0 (Nat.eq_of_beq_eq_true hk'))]; rfl
          | false =>
            have hk'0 : k' ≠ 0 := fun e => by subst e; cases hk'
            cases hb' : Nat.beq ((k' - 1) % 2) 0 with
            | true =>
              have e2 := Nat.eq_of_beq_eq_true hb'
              simp only [cond_true, cond_false]
              rw [if_neg (by intro e; subst e; exact e1 e2)]
            | false =>
              have e2 : (k' - 1) % 2 ≠ 0 := fun e => by rw [e] at hb'; cases hb'
              simp only [cond_true, cond_false, ih]
              congr 1
              apply propext; constructor <;> intro e <;> omega

theorem Tr.get_put20 {α : Type} (v : Option α) (t : Tr α) (k k' : Nat) (h : k < 1000001) : (t.put v 20 k).get k' = if k' = k then v else t.get k' :=
  Tr.get_put v 20 t k k' (by omega)

/-! what a value stands for -/
abbrev Mp := Nat → Option (Nat × Nat)
def Mp.le (m m' : Mp) : Prop := ∀ k p, m k = some p → m' k = some p
theorem Mp.le_refl (m : Mp) : m.le m := fun _ _ h => h
theorem Mp.le_trans {a b c : Mp} (h : a.le b) (h' : b.le c) : a.le c := fun k p e => h' k p (h k p e)

mutual
inductive RV (m : Mp) : Value → Value → Prop where
  | scal {v : Value} : scal v = true → RV m v v
  | itv {n : Int} {lo hi : Nat} : (lo : Int) ≤ n + 9223372036854775808 → n + 9223372036854775808 ≤ (hi : Int) → RV m (.complex .f64 lo hi) (.int .i64 n)
  | nowh {y c : Nat} {a : Option Addr} : RV m (.complex .f32 0 y) (.slice a 0 c)
  | loose {k y b x c : Nat} : m k = some (b, x) → RV m (.complex .f32 (k + 1) y) (.slice (some ⟨b, y / 4294967296, none⟩) (y % 4294967296) c)
  | ptr {k o b x : Nat} : m k = some (b, x) → RV m (.pointer (some ⟨k, o, none⟩)) (.pointer (some ⟨b, o, none⟩))
  | slice {k o b x l c : Nat} : m k = some (b, x) → RV m (.slice (some ⟨k, o, none⟩) l c) (.slice (some ⟨b, o, none⟩) l (c + x))
  | map {k b x : Nat} : m k = some (b, x) → RV m (.map (some k)) (.map (some b))
  | iface {t : TypeId} {v v' : Value} : RV m v v' → RV m (.iface t v) (.iface t v')
  | agg {c c' : Array Value} : RVs m c.toList c'.toList → RV m (.agg c) (.agg c')
  | tuple {c c' : Array Value} : RVs m c.toList c'.toList → RV m (.tuple c) (.tuple c')
  | func {f : FuncId} {a b a' b' : Array Value} : RVs m a.toList a'.toList → RVs m b.toList b'.toList → RV m (.func (.func f) a b) (.func (.func f) a' b')
inductive RVs (m : Mp) : List Value → List Value → Prop where
  | nil : RVs m [] []
  | cons {v v' : Value} {l l' : List Value} : RV m v v' → RVs m l l' → RVs m (v :: l) (v' :: l')
end

mutual
theorem RV.mono {m m' : Mp} (h : m.le m') : ∀ {v v' : Value}, RV m v v' → RV m' v v'
  | _, _, .scal e => .scal e
  | _, _, .itv e e' => .itv e e'
  | _, _, .nowh => .nowh
  | _, _, .loose e => .loose (h _ _ e)
  | _, _, .ptr e => .ptr (h _ _ e)
  | _, _, .slice e => .slice (h _ _ e)
  | _, _, .map e => .map (h _ _ e)
  | _, _, .iface e => .iface (RV.mono h e)
  | _, _, .agg e => .agg (RVs.mono h e)
  | _, _, .tuple e => .tuple (RVs.mono h e)
  | _, _, .func e e' => .func (RVs.mono h e) (RVs.mono h e')
theorem RVs.mono {m m' : Mp} (h : m.le m') : ∀ {v v' : List Value}, RVs m v v' → RVs m' v v'
  | _, _, .nil => .nil
  | _, _, .cons e e' => .cons (RV.mono h e) (RVs.mono h e')
end

section
variable {m : Mp}
theorem RVs.len : ∀ {l l' : List Value}, RVs m l l' → l'.length = l.length
  | _, _, .nil => rfl
  | _, _, .cons _ h => by simp [RVs.len h]
theorem RVs.at : ∀ {l l' : List Value}, RVs m l l' → ∀ {i : Nat} {v : Value}, l[i]? = some v → ∃ v', l'[i]? = some v' ∧ RV m v v'
  | _, _, .nil, i, v, h => by simp at h
  | _, _, .cons e r, 0, v, h => by simp at h; subst h; exact ⟨_, rfl, e⟩
  | _, _, .cons e r, i + 1, v, h => by simp at h; obtain ⟨v', h1, h2⟩ := RVs.at r h; exact ⟨v', by simpa using h1, h2⟩
theorem RVs.of_at : ∀ {l l' : List Value}, l'.length = l.length → (∀ (i : Nat) (v : Value), l[i]? = some v → ∃ v', l'[i]? = some v' ∧ RV m v v') → RVs m l l'
  | [], [], _, _ => .nil
  | [], _ :: _, h, _ => by simp at h
  | _ :: _, [], h, _ => by simp at h
  | v :: l, v' :: l', h, ha => by
    refine .cons ?_ (RVs.of_at (by simpa using h) fun i u hu => ?_)
    · obtain ⟨u, h1, h2⟩ := ha 0 v rfl
      simp at h1; subst h1; exact h2
    · obtain ⟨u', h1, h2⟩ := ha (i + 1) u (by simpa using hu)
      exact ⟨u', by simpa using h1, h2⟩
theorem RVs.scal : ∀ {l : List Value}, l.all Ev.scal = true → RVs m l l
  | [], _ => .nil
  | v :: l, h => by
    simp only [List.all_cons, Bool.and_eq_true] at h
    exact .cons (.scal h.1) (RVs.scal h.2)
theorem RV.plain {v : Value} (h : plain v = true) : RV m v v := by
  cases v with
  | agg cs => exact .agg (RVs.scal h)
  | tuple cs => exact .tuple (RVs.scal h)
  | _ => exact .scal h
theorem RVs.append : ∀ {a a' b b' : List Value}, RVs m a a' → RVs m b b' → RVs m (a ++ b) (a' ++ b')
  | _, _, _, _, .nil, h => h
  | _, _, _, _, .cons e r, h => .cons e (RVs.append r h)
theorem RVs.drop : ∀ {l l' : List Value} (n : Nat), RVs m l l' → RVs m (l.drop n) (l'.drop n)
  | _, _, 0, h => h
  | _, _, _ + 1, .nil => .nil
  | _, _, n + 1, .cons _ r => RVs.drop n r
theorem RVs.take : ∀ {l l' : List Value} (n : Nat), RVs m l l' → RVs m (l.take n) (l'.take n)
  | _, _, 0, _ => .nil
  | _, _, _ + 1, .nil => .nil
  | _, _, n + 1, .cons e r => .cons e (RVs.take n r)
theorem RV.one {v v' : Value} (h : RV m v v') : Ev.one v' = Ev.one v := by
  cases h <;> rfl
theorem RVs.ones : ∀ {l l' : List Value}, RVs m l l' → l'.all Ev.one = l.all Ev.one
  | _, _, .nil => rfl
  | _, _, .cons e r => by simp only [List.all_cons, e.one, RVs.ones r]
theorem RV.cells {v v' : Value} (h : RV m v v') : RVs m v.cells.toList v'.cells.toList := by
  cases h with
  | agg r => exact r
  | scal e =>
    cases v <;> first | exact .cons (.scal e) .nil | (simp [Ev.scal] at e)
  | itv e e' => exact .cons (.itv e e') .nil
  | nowh => exact .cons .nowh .nil
  | loose e => exact .cons (.loose e) .nil
  | ptr e => exact .cons (.ptr e) .nil
  | slice e => exact .cons (.slice e) .nil
  | map e => exact .cons (.map e) .nil
  | iface e => exact .cons (.iface e) .nil
  | tuple e => exact .cons (.tuple e) .nil
  | func e e' => exact .cons (.func e e') .nil

theorem RV.int_inv {k : IntKind} {n : Int} {v : Value} (h : RV m (.int k n) v) : v = .int k n := by cases h; rfl
theorem RV.itv_inv {lo hi : Nat} {v : Value} (h : RV m (.complex .f64 lo hi) v) : ∃ n : Int, v = .int .i64 n ∧ (lo : Int) ≤ n + 9223372036854775808 ∧ n + 9223372036854775808 ≤ (hi : Int) := by
  cases h with
  | itv a b => exact ⟨_, rfl, a, b⟩
  | scal e => simp [Ev.scal] at e
theorem RV.loose_inv {k y : Nat} {v : Value} (h : RV m (.complex .f32 (k + 1) y) v) : ∃ b x c, v = .slice (some ⟨b, y / 4294967296, none⟩) (y % 4294967296) c ∧ m k = some (b, x) := by
  cases h with
  | loose e => exact ⟨_, _, _, rfl, e⟩
  | scal e => simp [Ev.scal] at e
theorem RV.nowh_inv {y : Nat} {v : Value} (h : RV m (.complex .f32 0 y) v) : ∃ a c, v = .slice a 0 c := by
  cases h with
  | nowh => exact ⟨_, _, rfl⟩
  | scal e => simp [Ev.scal] at e
theorem RV.bool_inv {b : Bool} {v : Value} (h : RV m (.bool b) v) : v = .bool b := by cases h; rfl
theorem RV.string_inv {b : ByteArray} {v : Value} (h : RV m (.string b) v) : v = .string b := by cases h; rfl
theorem RV.scal_inv {u v : Value} (h : RV m u v) (hs : Ev.scal u = true) : v = u := by
  cases h <;> first | rfl | (simp [Ev.scal] at hs)
theorem RV.agg_inv {c : Array Value} {v : Value} (h : RV m (.agg c) v) : ∃ c', v = .agg c' ∧ RVs m c.toList c'.toList := by
  cases h with
  | agg r => exact ⟨_, rfl, r⟩
  | scal e => simp [Ev.scal] at e
theorem RV.tuple_inv {c : Array Value} {v : Value} (h : RV m (.tuple c) v) : ∃ c', v = .tuple c' ∧ RVs m c.toList c'.toList := by
  cases h with
  | tuple r => exact ⟨_, rfl, r⟩
  | scal e => simp [Ev.scal] at e
theorem RV.iface_inv {t : TypeId} {u v : Value} (h : RV m (.iface t u) v) : ∃ u', v = .iface t u' ∧ RV m u u' := by
  cases h with
  | iface r => exact ⟨_, rfl, r⟩
  | scal e => simp [Ev.scal] at e
theorem RV.func_inv {f : FuncId} {a b : Array Value} {v : Value} (h : RV m (.func (.func f) a b) v) : ∃ a' b', v = .func (.func f) a' b' ∧ RVs m a.toList a'.toList ∧ RVs m b.toList b'.toList := by
  cases h with
  | func r s => exact ⟨_, _, rfl, r, s⟩
  | scal e => simp [Ev.scal] at e
theorem RV.ptr_inv {a : Addr} {v : Value} (h : RV m (.pointer (some a)) v) : ∃ b x, a = ⟨a.block, a.off, none⟩ ∧ v = .pointer (some ⟨b, a.off, none⟩) ∧ m a.block = some (b, x) := by
  cases h with
  | ptr e => exact ⟨_, _, rfl, rfl, e⟩
  | scal e => simp [Ev.scal] at e
theorem RV.slice_inv {a : Addr} {l c : Nat} {v : Value} (h : RV m (.slice (some a) l c) v) : ∃ b x, a = ⟨a.block, a.off, none⟩ ∧ v = .slice (some ⟨b, a.off, none⟩) l (c + x) ∧ m a.block = some (b, x) := by
  cases h with
  | slice e => exact ⟨_, _, rfl, rfl, e⟩
  | scal e => simp [Ev.scal] at e
theorem RV.slice_none {l c : Nat} {v : Value} (h : RV m (.slice none l c) v) : v = .slice none l c := by cases h; rfl
theorem RV.map_inv {k : Nat} {v : Value} (h : RV m (.map (some k)) v) : ∃ b x, v = .map (some b) ∧ m k = some (b, x) := by
  cases h with
  | map e => exact ⟨_, _, rfl, e⟩
  | scal e => simp [Ev.scal] at e
end

/-! memory -/
def esz (P : Program) (t : TypeId) : Nat := match P.info? t with
  | some i => i.size
  | none => 0

structure RE (m : Mp) (e e' : MapEntry) : Prop where
  key : RV m e.key e'.key
  val : RV m e.val e'.val
  born : e'.born = e.born
inductive REs (m : Mp) : List MapEntry → List MapEntry → Prop where
  | nil : REs m [] []
  | cons {e e' : MapEntry} {l l' : List MapEntry} : RE m e e' → REs m l l' → REs m (e :: l) (e' :: l')
theorem RE.mono {m m' : Mp} (h : m.le m') {e e' : MapEntry} (r : RE m e e') : RE m' e e' := ⟨r.key.mono h, r.val.mono h, r.born⟩
theorem REs.mono {m m' : Mp} (h : m.le m') : ∀ {e e' : List MapEntry}, REs m e e' → REs m' e e'
  | _, _, .nil => .nil
  | _, _, .cons r s => .cons (r.mono h) (REs.mono h s)

/-- what of a block is frozen: nothing, or the mark behind its last cell -/
def Fz (fz : Nat × Nat) (n : Nat) : Prop := fz = (0, 0) ∨ fz = (n, n + 1)
theorem Fz.free {fz : Nat × Nat} {n : Nat} (h : Fz fz n) : ∀ i, i < n → ¬ (fz.1 ≤ i ∧ i < fz.2) := fun i hi hh => by
  rcases h with rfl | rfl
  · have := hh.2; simp at this
  · have := hh.1; simp at this; omega
/-- what an object stands for -/
def RO (P : Program) (m : Mp) (x : Nat) (o' : Option Obj) : Ob → Prop
  | .cells c t ex => ∃ c' fz, o' = some (.cells c' t fz) ∧ Fz fz c'.size ∧ c'.size = c.length + x * esz P t ∧ (∃ sp, RVs m c (c'.toList.take c.length) ∧ sp = c'.toList.drop c.length) ∧ (ex = true → x = 0 ∧ fz = (0, 0))
  | .map es ck => ∃ es', o' = some (.map es' ck) ∧ REs m es es'.toList
  | .mit mo since seen last => ∃ mo', o' = some (.mapIter mo' since seen.toArray last) ∧ (match mo with
    | none => mo' = none
    | some k => ∃ b x, m k = some (b, x) ∧ mo' = some b)

theorem RO.mono {P : Program} {m m' : Mp} (h : m.le m') {x : Nat} {o' : Option Obj} {o : Ob} (r : RO P m x o' o) : RO P m' x o' o := by
  cases o with
  | cells c t ex => obtain ⟨c', fz, h1, h2, h3, ⟨sp, h4, h5⟩, h6⟩ := r; exact ⟨c', fz, h1, h2, h3, ⟨sp, h4.mono h, h5⟩, h6⟩
  | map es ck => obtain ⟨es', h1, h2⟩ := r; exact ⟨es', h1, h2.mono h⟩
  | mit mo since seen last =>
    obtain ⟨mo', h1, h2⟩ := r
    refine ⟨mo', h1, ?_⟩
    cases mo with
    | none => exact h2
    | some k => obtain ⟨b, x, h3, h4⟩ := h2; exact ⟨b, x, h _ _ h3, h4⟩

abbrev G := Nat → Option Ob
structure Rep (P : Program) (m : Mp) (g : G) (w : World) : Prop where
  obj : ∀ k o, g k = some o → ∃ b x, m k = some (b, x) ∧ RO P m x w.heap[b]? o
  inj : ∀ k k' b x x', g k ≠ none → g k' ≠ none → m k = some (b, x) → m k' = some (b, x') → k = k'

theorem Rep.less {P : Program} {m : Mp} {g g' : G} {w : World} (h : Rep P m g w) (hg : ∀ k o, g' k = some o → g k = some o) : Rep P m g' w :=
  ⟨fun k o e => h.obj k o (hg k o e), fun k k' b x x' e e' => h.inj k k' b x x'
    (fun c => by cases hh : g' k with
      | none => exact e hh
      | some o => rw [hg k o hh] at c; cases c)
    (fun c => by cases hh : g' k' with
      | none => exact e' hh
      | some o => rw [hg k' o hh] at c; cases c)⟩
theorem Rep.drew {P : Program} {m : Mp} {g : G} {w w' : World} (h : Rep P m g w) (hw : w'.heap = w.heap) : Rep P m g w' :=
  ⟨fun k o e => by rw [hw]; exact h.obj k o e, h.inj⟩

/-- a step: what is new has numbers from lo up to hi; what is not its own stays -/
structure Stp (g : G) (m : Mp) (w : World) (g' : G) (m' : Mp) (w' : World) (lo hi : Nat) : Prop where
  le : m.le m'
  new : ∀ k, m' k ≠ m k → lo ≤ k ∧ k < hi
  own : ∀ k b x, g' k ≠ none → m' k = some (b, x) → (∃ k0 x0, g k0 ≠ none ∧ m k0 = some (b, x0)) ∨ w.heap.size ≤ b
  dom : ∀ k, g' k ≠ none → g k ≠ none ∨ (lo ≤ k ∧ k < hi)
  keep : ∀ b, b < w.heap.size → (∀ k x, g k ≠ none → m k ≠ some (b, x)) → w'.heap[b]? = w.heap[b]?
  size : w.heap.size ≤ w'.heap.size
  os : w'.os = w.os
  tape : w'.tape = w.tape
  out : w'.output = w.output

theorem Stp.refl (g : G) (m : Mp) (w : World) (lo hi : Nat) : Stp g m w g m w lo hi :=
  ⟨m.le_refl, fun _ h => absurd rfl h, fun k b x h e => .inl ⟨k, x, h, e⟩, fun k h => .inl h, fun _ _ _ => rfl, Nat.le_refl _, rfl, rfl, rfl⟩

theorem Stp.trans {g : G} {m : Mp} {w : World} {g1 : G} {m1 : Mp} {w1 : World} {g2 : G} {m2 : Mp} {w2 : World} {a b c : Nat}
    (h : Stp g m w g1 m1 w1 a b) (h' : Stp g1 m1 w1 g2 m2 w2 b c) (hab : a ≤ b) (hbc : b ≤ c) : Stp g m w g2 m2 w2 a c where
  le := Mp.le_trans h.le h'.le
  new := fun k e => by
    by_cases e1 : m1 k = m k
    · have := h'.new k (by rw [e1]; exact e); omega
    · have := h.new k e1; omega
  own := fun k b' x e1 e2 => by
    rcases h'.own k b' x e1 e2 with ⟨k0, x0, f1, f2⟩ | f
    · rcases h.own k0 b' x0 f1 f2 with r | r
      · exact .inl r
      · exact .inr r
    · exact .inr (Nat.le_trans h.size f)
  dom := fun k e => by
    rcases h'.dom k e with e | e
    · rcases h.dom k e with e | e
      · exact .inl e
      · exact .inr ⟨e.1, by omega⟩
    · exact .inr ⟨by omega, e.2⟩
  keep := fun b' e1 e2 => by
    rw [h'.keep b' (Nat.lt_of_lt_of_le e1 h.size) ?_, h.keep b' e1 e2]
    intro k x f1 f2
    rcases h.own k b' x f1 f2 with ⟨k0, x0, r1, r2⟩ | r
    · exact e2 k0 x0 r1 r2
    · omega
  size := Nat.le_trans h.size h'.size
  os := h'.os.trans h.os
  tape := h'.tape.trans h.tape
  out := h'.out.trans h.out

/-- what the step does not know of stays, too -/
theorem Rep.frame {P : Program} {m : Mp} {g r : G} {w : World} {g' : G} {m' : Mp} {w' : World} {lo hi : Nat} (s : Stp g m w g' m' w' lo hi) (h' : Rep P m' g' w')
    (h : ∀ k o, r k = some o → ∃ b x, m k = some (b, x) ∧ RO P m x w.heap[b]? o) (hw : ∀ k b x, r k ≠ none → m k = some (b, x) → b < w.heap.size)
    (hi : ∀ k k' b x x', r k ≠ none → r k' ≠ none → m k = some (b, x) → m k' = some (b, x') → k = k')
    (ha : ∀ k k' b x x', r k ≠ none → g k' ≠ none → m k = some (b, x) → m k' ≠ some (b, x')) :
    Rep P m' (fun k => match r k with | some o => some o | none => g' k) w' := by
  have kp : ∀ k b x, r k ≠ none → m k = some (b, x) → w'.heap[b]? = w.heap[b]? := fun k b x e1 e2 =>
    s.keep b (hw k b x e1 e2) fun k' x' f1 f2 => ha k k' b x x' e1 f1 e2 f2
  have rm : ∀ k o, r k = some o → ∃ b x, m k = some (b, x) := fun k o e => let ⟨b, x, e1, _⟩ := h k o e; ⟨b, x, e1⟩
  have cross : ∀ k k' b x x', r k ≠ none → g' k' ≠ none → m' k = some (b, x) → m' k' = some (b, x') → False := by
    intro k k' b x x' e1 e2 e3 e4
    obtain ⟨o, ho⟩ := Option.ne_none_iff_exists'.1 e1
    obtain ⟨b1, x1, f1⟩ := rm k o ho
    have f2 := s.le _ _ f1
    rw [e3] at f2
    cases f2
    rcases s.own k' b x' e2 e4 with ⟨k0, x0, r1, r2⟩ | q
    · exact ha k k0 b x x0 e1 r1 f1 r2
    · have := hw k b x e1 f1
      omega
  refine ⟨fun k o e => ?_, fun k k' b x x' e e' e1 e2 => ?_⟩
  · cases hr : r k with
    | some u =>
      simp only [hr] at e
      have e0 : u = o := by injection e
      subst e0
      obtain ⟨b, x, e1, e2⟩ := h k u hr
      refine ⟨b, x, s.le _ _ e1, ?_⟩
      rw [kp k b x (by rw [hr]; simp) e1]
      exact e2.mono s.le
    | none =>
      simp only [hr] at e
      exact h'.obj k o e
  · cases hr : r k with
    | some u =>
      cases hr' : r k' with
      | some u' =>
        obtain ⟨b1, x1, f1⟩ := rm k u hr
        obtain ⟨b2, x2, f2⟩ := rm k' u' hr'
        have g1 := s.le _ _ f1
        have g2 := s.le _ _ f2
        rw [e1] at g1
        rw [e2] at g2
        cases g1
        cases g2
        exact hi k k' b x x' (by rw [hr]; simp) (by rw [hr']; simp) f1 f2
      | none =>
        simp only [hr'] at e'
        exact (cross k k' b x x' (by rw [hr]; simp) e' e1 e2).elim
    | none =>
      simp only [hr] at e
      cases hr' : r k' with
      | some u' => exact (cross k' k b x' x (by rw [hr']; simp) e e2 e1).elim
      | none =>
        simp only [hr'] at e'
        exact h'.inj k k' b x x' e e' e1 e2

end Go.Ev
