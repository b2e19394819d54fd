/-
  A run reckoned out: how its values and its memory stand for real ones; trees; steps.
-/
import Derived.Test.YtebhnbecjmdicaaGreatDoorEv0
import Derived.Test.YtebhnbecjmdicaaGreatDoorSlb
namespace Go.Ev
set_option linter.unusedVariables false
set_option linter.unusedSimpArgs false
variable {X : Type}

theorem Tr.get_put {α : Type} (v : Option α) : ∀ (d : Nat) (t : Tr α) (k k' : Nat), k + 1 < 2 ^ d → (t.put v d k).get k' = if k' = k then v else t.get k'
  | 0, t, k, k', h => by simp at h
  | d + 1, t, k, k', h => by
    have h2 : (k - 1) / 2 + 1 < 2 ^ d ∨ k = 0 := by
      rw [Nat.pow_succ] at h
      omega
    have nilget : ∀ j, (Tr.nil : Tr α).get j = none := fun j => rfl
    cases t with
    | nil =>
      cases hk : Nat.beq k 0 with
      | true =>
        have hk0 : k = 0 := Nat.eq_of_beq_eq_true hk
        subst hk0
        simp only [Tr.put_nil, Tr.put_node, hk, cond_true, Tr.get_nil, Tr.get_node]
        cases hk' : Nat.beq k' 0 with
        | true => rw [if_pos (Nat.eq_of_beq_eq_true hk')]; rfl
        | false =>
          rw [if_neg (fun e => by subst e; cases hk')]
          cases Nat.beq ((k' - 1) % 2) 0 <;> rfl
      | false =>
        have hk0 : k ≠ 0 := fun e => by subst e; cases hk
        have h3 := h2.resolve_right hk0
        have ih := Tr.get_put v d .nil ((k - 1) / 2) ((k' - 1) / 2) h3
        cases hb : Nat.beq ((k - 1) % 2) 0 with
        | true =>
          simp only [Tr.put_nil, Tr.put_node, hk, hb, cond_true, cond_false, Tr.get_nil, Tr.get_node]
          cases hk' : Nat.beq k' 0 with
          | true => rw [if_neg (fun e => by rw [← e] at hk0; exact hk0 (Nat.eq_of_beq_eq_true hk'))]; rfl
          | false =>
            have hk'0 : k' ≠ 0 := fun e => by subst e; cases hk'
            have e1 := Nat.eq_of_beq_eq_true hb
            cases hb' : Nat.beq ((k' - 1) % 2) 0 with
            | true =>
              have e2 := Nat.eq_of_beq_eq_true hb'
              simp only [cond_true, cond_false, ih, nilget]
              congr 1
              apply propext; constructor <;> intro e <;> omega
            | false =>
              have e2 : (k' - 1) % 2 ≠ 0 := fun e => by rw [e] at hb'; cases hb'
              simp only [cond_true, cond_false, nilget]
              rw [if_neg (by intro e; subst e; exact e2 e1)]
        | false =>
          have e1 : (k - 1) % 2 ≠ 0 := fun e => by rw [e] at hb; cases hb
          simp only [Tr.put_nil, Tr.put_node, hk, hb, cond_true, cond_false, Tr.get_nil, Tr.get_node]
          cases hk' : Nat.beq k' 0 with
          | true => rw [if_neg (fun e => by rw [← e] at hk0; exact hk0 (Nat.eq_of_beq_eq_true hk'))]; rfl
          | false =>
            have hk'0 : k' ≠ 0 := fun e => by subst e; cases hk'
            cases hb' : Nat.beq ((k' - 1) % 2) 0 with
            | true =>
              have e2 := Nat.eq_of_beq_eq_true hb'
              simp only [cond_true, cond_false, nilget]
              rw [if_neg (by intro e; subst e; exact e1 e2)]
            | false =>
              have e2 : (k' - 1) % 2 ≠ 0 := fun e => by rw [e] at hb'; cases hb'
              simp only [cond_true, cond_false, ih, nilget]
              congr 1
              apply propext; constructor <;> intro e <;> omega
    | node l u r =>
      cases hk : Nat.beq k 0 with
      | true =>
        have hk0 : k = 0 := Nat.eq_of_beq_eq_true hk
        subst hk0
        simp only [Tr.put_nil, Tr.put_node, hk, cond_true, Tr.get_nil, Tr.get_node]
        cases hk' : Nat.beq k' 0 with
        | true => rw [if_pos (Nat.eq_of_beq_eq_true hk')]; rfl
        | false => rw [if_neg (fun e => by subst e; cases hk')]; rfl
      | false =>
        have hk0 : k ≠ 0 := fun e => by subst e; cases hk
        have h3 := h2.resolve_right hk0
        cases hb : Nat.beq ((k - 1) % 2) 0 with
        | true =>
          have ih := Tr.get_put v d l ((k - 1) / 2) ((k' - 1) / 2) h3
          simp only [Tr.put_nil, Tr.put_node, hk, hb, cond_true, cond_false, Tr.get_nil, Tr.get_node]
          cases hk' : Nat.beq k' 0 with
          | true => rw [if_neg (fun e => by rw [← e] at hk0; exact hk0 (Nat.eq_of_beq_eq_true hk'))]; rfl
          | false =>
            have hk'0 : k' ≠ 0 := fun e => by subst e; cases hk'
            have e1 := Nat.eq_of_beq_eq_true hb
            cases hb' : Nat.beq ((k' - 1) % 2) 0 with
            | true =>
              have e2 := Nat.eq_of_beq_eq_true hb'
              simp only [cond_true, cond_false, ih]
              congr 1
              apply propext; constructor <;> intro e <;> omega
            | false =>
              have e2 : (k' - 1) % 2 ≠ 0 := fun e => by rw [e] at hb'; cases hb'
              simp only [cond_true, cond_false]
              rw [if_neg (by intro e; subst e; exact e2 e1)]
        | false =>
          have ih := Tr.get_put v d r ((k - 1) / 2) ((k' - 1) / 2) h3
          have e1 : (k - 1) % 2 ≠ 0 := fun e => by rw [e] at hb; cases hb
          simp only [Tr.put_nil, Tr.put_node, hk, hb, cond_true, cond_false, Tr.get_nil, Tr.get_node]
          cases hk' : Nat.beq k' 0 with
          | true => rw [if_neg (fun e => by rw [← e] at hk0; exact hk0 (Nat.eq_of_beq_eq_true hk'))]; rfl
          | false =>
            have hk'0 : k' ≠ 0 := fun e => by subst e; cases hk'
            cases hb' : Nat.beq ((k' - 1) % 2) 0 with
            | true =>
              have e2 := Nat.eq_of_beq_eq_true hb'
              simp only [cond_true, cond_false]
              rw [if_neg (by intro e; subst e; exact e1 e2)]
            | false =>
              have e2 : (k' - 1) % 2 ≠ 0 := fun e => by rw [e] at hb'; cases hb'
              simp only [cond_true, cond_false, ih]
              congr 1
              apply propext; constructor <;> intro e <;> omega

theorem Tr.get_put20 {α : Type} (v : Option α) (t : Tr α) (k k' : Nat) (h : k < 1000001) : (t.put v 20 k).get k' = if k' = k then v else t.get k' :=
  Tr.get_put v 20 t k k' (by omega)

/-! what a value stands for -/
/-- what is known of a block that doesn't change but by growing: its first cells, its size, its type -/
abbrev Kn := Nat → Option (List Value × Nat × TypeId)
/-- a number's block, how many elements it has more than are known (for a right to grow: how many the list has); blocks that are known; the blocks of what stands for more than a block -/
structure Mp where
  num : Nat → Option (Nat × Nat)
  kn : Kn
  ter : Nat → Nat → Prop
instance : CoeFun Mp (fun _ => Nat → Option (Nat × Nat)) := ⟨Mp.num⟩
def Kn.le (p q : Kn) : Prop := ∀ b vs s t, p b = some (vs, s, t) → ∃ ws, q b = some (vs ++ ws, s, t)
theorem Kn.le_refl (p : Kn) : p.le p := fun b vs s t h => ⟨[], by rw [h, List.append_nil]⟩
theorem Kn.le_trans {p q r : Kn} (h : p.le q) (h' : q.le r) : p.le r := fun b vs s t e => by
  obtain ⟨ws, e1⟩ := h b vs s t e
  obtain ⟨us, e2⟩ := h' b _ s t e1
  exact ⟨ws ++ us, by rw [e2, List.append_assoc]⟩
structure Mp.le (m m' : Mp) : Prop where
  num : ∀ k p, m k = some p → m' k = some p
  kn : m.kn.le m'.kn
instance {m m' : Mp} : CoeFun (m.le m') (fun _ => ∀ k p, m k = some p → m' k = some p) := ⟨Mp.le.num⟩
theorem Mp.le_refl (m : Mp) : m.le m := ⟨fun _ _ h => h, Kn.le_refl _⟩
theorem Mp.le_trans {a b c : Mp} (h : a.le b) (h' : b.le c) : a.le c := ⟨fun k p e => h' k p (h k p e), Kn.le_trans h.kn h'.kn⟩

theorem flat_nil : flat [] = [] := rfl
theorem flat_cons (r : Value) (l : List Value) : flat (r :: l) = r.cells.toList ++ flat l := rfl
theorem flat_append (a b : List Value) : flat (a ++ b) = flat a ++ flat b := by unfold flat; exact List.flatMap_append
theorem flat_len {sz : Nat} : ∀ {l : List Value}, (∀ r ∈ l, r.cells.size = sz) → (flat l).length = l.length * sz
  | [], _ => by simp [flat]
  | r :: l, h => by
    rw [flat_cons, List.length_append, flat_len fun r' hr => h r' (List.mem_cons_of_mem _ hr), Array.length_toList, h r List.mem_cons_self, List.length_cons, Nat.add_mul, Nat.one_mul, Nat.add_comm]

/-! data: values that stay what they are, whatever numbers are forgotten -/
mutual
inductive DV (kn : Kn) : Value → Value → Prop where
  | scal {v : Value} : scal v = true → DV kn v v
  | agg {c c' : List Value} : DVs kn c c' → DV kn (.agg ⟨c⟩) (.agg ⟨c'⟩)
  | lst {sz : Nat} {tk : Array Value} {rows rows' : List Value} {b off s n c : Nat} {vs : List Value} {t : TypeId} : kn b = some (vs, s, t) → DVs kn rows rows' → (∀ r ∈ rows', r.cells.size = sz) → flat rows' <+: vs.drop off → n = rows.length → n ≤ c → DV kn (.func (.yield sz) tk ⟨rows⟩) (.slice (some ⟨b, off, none⟩) n c)
  | lst0 {sz : Nat} {tk : Array Value} {a : Option Addr} {c : Nat} : DV kn (.func (.yield sz) tk ⟨[]⟩) (.slice a 0 c)
inductive DVs (kn : Kn) : List Value → List Value → Prop where
  | nil : DVs kn [] []
  | cons {v v' : Value} {l l' : List Value} : DV kn v v' → DVs kn l l' → DVs kn (v :: l) (v' :: l')
end
theorem prefix_drop {a b c : List Value} {n : Nat} (h : a <+: b.drop n) : a <+: (b ++ c).drop n := by
  rw [List.drop_append]
  exact h.trans (List.prefix_append _ _)
mutual
theorem DV.mono {p q : Kn} (h : p.le q) : ∀ {v v' : Value}, DV p v v' → DV q v v'
  | _, _, .scal e => .scal e
  | _, _, .agg e => .agg (DVs.mono h e)
  | _, _, .lst e1 e2 e3 e4 e5 e6 => let ⟨ws, f⟩ := h _ _ _ _ e1; .lst f (DVs.mono h e2) e3 (prefix_drop e4) e5 e6
  | _, _, .lst0 => .lst0
theorem DVs.mono {p q : Kn} (h : p.le q) : ∀ {v v' : List Value}, DVs p v v' → DVs q v v'
  | _, _, .nil => .nil
  | _, _, .cons e e' => .cons (DV.mono h e) (DVs.mono h e')
end
/-- the right to grow: of an empty list, or of one that ends where the known cells of its block end -/
def TokV (m : Mp) (k sz n : Nat) (v' : Value) : Prop := (n = 0 ∧ v' = .slice none 0 0) ∨ ∃ b vs s t cap, m k = some (b, n) ∧ m.kn b = some (vs, s, t) ∧ s = cap * sz ∧ n ≤ cap ∧ v' = .slice (some ⟨b, 0, none⟩) n cap
theorem TokV.mono {m m' : Mp} (h : m.le m') {k sz n : Nat} {v' : Value} : TokV m k sz n v' → TokV m' k sz n v'
  | .inl h => .inl h
  | .inr ⟨b, vs, s, t, cap, h1, h2, h3, h4, h5⟩ => let ⟨ws, f⟩ := h.kn _ _ _ _ h2; .inr ⟨b, _, s, t, cap, h _ _ h1, f, h3, h4, h5⟩

mutual
inductive RV (m : Mp) : Value → Value → Prop where
  | scal {v : Value} : scal v = true → RV m v v
  | itv {n : Int} {lo hi : Nat} : (lo : Int) ≤ n + 9223372036854775808 → n + 9223372036854775808 ≤ (hi : Int) → RV m (.complex .f64 lo hi) (.int .i64 n)
  | nowh {y c : Nat} {a : Option Addr} : RV m (.complex .f32 0 y) (.slice a 0 c)
  | loose {k y b x c : Nat} : m k = some (b, x) → RV m (.complex .f32 (k + 1) y) (.slice (some ⟨b, y / 4294967296, none⟩) (y % 4294967296) c)
  | ptr {k o b x : Nat} : m k = some (b, x) → RV m (.pointer (some ⟨k, o, none⟩)) (.pointer (some ⟨b, o, none⟩))
  | slice {k o b x l c : Nat} : m k = some (b, x) → RV m (.slice (some ⟨k, o, none⟩) l c) (.slice (some ⟨b, o, none⟩) l (c + x))
  | map {k b x : Nat} : m k = some (b, x) → RV m (.map (some k)) (.map (some b))
  | iface {t : TypeId} {v v' : Value} : RV m v v' → RV m (.iface t v) (.iface t v')
  | agg {c c' : Array Value} : RVs m c.toList c'.toList → RV m (.agg c) (.agg c')
  | tuple {c c' : Array Value} : RVs m c.toList c'.toList → RV m (.tuple c) (.tuple c')
  | func {f : FuncId} {a b a' b' : Array Value} : RVs m a.toList a'.toList → RVs m b.toList b'.toList → RV m (.func (.func f) a b) (.func (.func f) a' b')
  | lst {sz : Nat} {tk rows : Array Value} {v' : Value} : DV m.kn (.func (.yield sz) tk rows) v' → RV m (.func (.yield sz) #[] rows) v'
  | tok {sz k : Nat} {rows : Array Value} {v' : Value} : DV m.kn (.func (.yield sz) #[] rows) v' → TokV m k sz rows.size v' → RV m (.func (.yield sz) ⟨[.int .i64 (.ofNat k)]⟩ rows) v'
  | elp {t : TypeId} {s : String} {x : Array Value} {cs : List Value} {b off sz : Nat} {vs cs' : List Value} {t' : TypeId} : m.kn b = some (vs, sz, t') → RVs m cs cs' → cs' <+: vs.drop off → RV m (.func (.methodOf t s) x ⟨cs⟩) (.pointer (some ⟨b, off, none⟩))
inductive RVs (m : Mp) : List Value → List Value → Prop where
  | nil : RVs m [] []
  | cons {v v' : Value} {l l' : List Value} : RV m v v' → RVs m l l' → RVs m (v :: l) (v' :: l')
end

mutual
theorem RV.mono {m m' : Mp} (h : m.le m') : ∀ {v v' : Value}, RV m v v' → RV m' v v'
  | _, _, .scal e => .scal e
  | _, _, .itv e e' => .itv e e'
  | _, _, .nowh => .nowh
  | _, _, .loose e => .loose (h _ _ e)
  | _, _, .ptr e => .ptr (h _ _ e)
  | _, _, .slice e => .slice (h _ _ e)
  | _, _, .map e => .map (h _ _ e)
  | _, _, .iface e => .iface (RV.mono h e)
  | _, _, .agg e => .agg (RVs.mono h e)
  | _, _, .tuple e => .tuple (RVs.mono h e)
  | _, _, .func e e' => .func (RVs.mono h e) (RVs.mono h e')
  | _, _, .lst e => .lst (e.mono h.kn)
  | _, _, .tok e e' => .tok (e.mono h.kn) (e'.mono h)
  | _, _, .elp e e' e3 => let ⟨ws, f⟩ := h.kn _ _ _ _ e; .elp f (RVs.mono h e') (prefix_drop e3)
theorem RVs.mono {m m' : Mp} (h : m.le m') : ∀ {v v' : List Value}, RVs m v v' → RVs m' v v'
  | _, _, .nil => .nil
  | _, _, .cons e e' => .cons (RV.mono h e) (RVs.mono h e')
end

section
variable {m : Mp}
theorem RVs.len : ∀ {l l' : List Value}, RVs m l l' → l'.length = l.length
  | _, _, .nil => rfl
  | _, _, .cons _ h => by simp [RVs.len h]
theorem RVs.at : ∀ {l l' : List Value}, RVs m l l' → ∀ {i : Nat} {v : Value}, l[i]? = some v → ∃ v', l'[i]? = some v' ∧ RV m v v'
  | _, _, .nil, i, v, h => by simp at h
  | _, _, .cons e r, 0, v, h => by simp at h; subst h; exact ⟨_, rfl, e⟩
  | _, _, .cons e r, i + 1, v, h => by simp at h; obtain ⟨v', h1, h2⟩ := RVs.at r h; exact ⟨v', by simpa using h1, h2⟩
theorem RVs.of_at : ∀ {l l' : List Value}, l'.length = l.length → (∀ (i : Nat) (v : Value), l[i]? = some v → ∃ v', l'[i]? = some v' ∧ RV m v v') → RVs m l l'
  | [], [], _, _ => .nil
  | [], _ :: _, h, _ => by simp at h
  | _ :: _, [], h, _ => by simp at h
  | v :: l, v' :: l', h, ha => by
    refine .cons ?_ (RVs.of_at (by simpa using h) fun i u hu => ?_)
    · obtain ⟨u, h1, h2⟩ := ha 0 v rfl
      simp at h1; subst h1; exact h2
    · obtain ⟨u', h1, h2⟩ := ha (i + 1) u (by simpa using hu)
      exact ⟨u', by simpa using h1, h2⟩
theorem RVs.scal : ∀ {l : List Value}, l.all Ev.scal = true → RVs m l l
  | [], _ => .nil
  | v :: l, h => by
    simp only [List.all_cons, Bool.and_eq_true] at h
    exact .cons (.scal h.1) (RVs.scal h.2)
theorem RV.plain {v : Value} (h : plain v = true) : RV m v v := by
  cases v with
  | agg cs => exact .agg (RVs.scal h)
  | tuple cs => exact .tuple (RVs.scal h)
  | _ => exact .scal h
theorem RVs.append : ∀ {a a' b b' : List Value}, RVs m a a' → RVs m b b' → RVs m (a ++ b) (a' ++ b')
  | _, _, _, _, .nil, h => h
  | _, _, _, _, .cons e r, h => .cons e (RVs.append r h)
theorem RVs.drop : ∀ {l l' : List Value} (n : Nat), RVs m l l' → RVs m (l.drop n) (l'.drop n)
  | _, _, 0, h => h
  | _, _, _ + 1, .nil => .nil
  | _, _, n + 1, .cons _ r => RVs.drop n r
theorem RVs.take : ∀ {l l' : List Value} (n : Nat), RVs m l l' → RVs m (l.take n) (l'.take n)
  | _, _, 0, _ => .nil
  | _, _, _ + 1, .nil => .nil
  | _, _, n + 1, .cons e r => .cons e (RVs.take n r)
theorem DV.lst_inv {kn : Kn} {sz : Nat} {tk : Array Value} {rows : List Value} {v : Value} (h : DV kn (.func (.yield sz) tk ⟨rows⟩) v) :
    ∃ a c, v = .slice a rows.length c ∧ rows.length ≤ c ∧ (rows = [] ∨ ∃ b off vs s t rows', a = some ⟨b, off, none⟩ ∧ kn b = some (vs, s, t) ∧ DVs kn rows rows' ∧ (∀ r ∈ rows', r.cells.size = sz) ∧ flat rows' <+: vs.drop off) := by
  cases h with
  | scal e => simp [Ev.scal] at e
  | lst h1 h2 h3 h4 h5 h6 => subst h5; exact ⟨_, _, rfl, h6, .inr ⟨_, _, _, _, _, _, rfl, h1, h2, h3, h4⟩⟩
  | lst0 => exact ⟨_, _, rfl, Nat.zero_le _, .inl rfl⟩
theorem DV.tk {kn : Kn} {sz : Nat} {tk tk' rows : Array Value} {v : Value} (h : DV kn (.func (.yield sz) tk rows) v) : DV kn (.func (.yield sz) tk' rows) v := by
  cases h with
  | scal e => simp [Ev.scal] at e
  | lst h1 h2 h3 h4 h5 h6 => exact .lst h1 h2 h3 h4 h5 h6
  | lst0 => exact .lst0
theorem DVs.len {kn : Kn} : ∀ {l l' : List Value}, DVs kn l l' → l'.length = l.length
  | _, _, .nil => rfl
  | _, _, .cons _ h => by simp [DVs.len h]
theorem RV.lst_inv {sz : Nat} {tk : Array Value} {rows : List Value} {v : Value} (h : RV m (.func (.yield sz) tk ⟨rows⟩) v) : DV m.kn (.func (.yield sz) #[] ⟨rows⟩) v := by
  cases h with
  | scal e => simp [Ev.scal] at e
  | lst e => exact e.tk
  | tok e e' => exact e
theorem RV.elp_inv {t : TypeId} {s : String} {x : Array Value} {cs : List Value} {v : Value} (h : RV m (.func (.methodOf t s) x ⟨cs⟩) v) :
    ∃ b off vs sz t' cs', v = .pointer (some ⟨b, off, none⟩) ∧ m.kn b = some (vs, sz, t') ∧ RVs m cs cs' ∧ cs' <+: vs.drop off := by
  cases h with
  | scal e => simp [Ev.scal] at e
  | elp h1 h2 h3 => exact ⟨_, _, _, _, _, _, rfl, h1, h2, h3⟩
theorem RV.one {v v' : Value} (h : RV m v v') : Ev.one v' = Ev.one v := by
  cases h with
  | lst e => obtain ⟨a, c, rfl, _⟩ := e.lst_inv; rfl
  | tok e e' => obtain ⟨a, c, rfl, _⟩ := e.lst_inv; rfl
  | _ => rfl
theorem RVs.ones : ∀ {l l' : List Value}, RVs m l l' → l'.all Ev.one = l.all Ev.one
  | _, _, .nil => rfl
  | _, _, .cons e r => by simp only [List.all_cons, e.one, RVs.ones r]
theorem RV.cells {v v' : Value} (h : RV m v v') : RVs m v.cells.toList v'.cells.toList := by
  cases h with
  | agg r => exact r
  | scal e =>
    cases v <;> first | exact .cons (.scal e) .nil | (simp [Ev.scal] at e)
  | itv e e' => exact .cons (.itv e e') .nil
  | nowh => exact .cons .nowh .nil
  | loose e => exact .cons (.loose e) .nil
  | ptr e => exact .cons (.ptr e) .nil
  | slice e => exact .cons (.slice e) .nil
  | map e => exact .cons (.map e) .nil
  | iface e => exact .cons (.iface e) .nil
  | tuple e => exact .cons (.tuple e) .nil
  | func e e' => exact .cons (.func e e') .nil
  | lst e => obtain ⟨a, c, rfl, _⟩ := e.lst_inv; exact .cons (.lst e) .nil
  | tok e e' => obtain ⟨a, c, rfl, _⟩ := e.lst_inv; exact .cons (.tok e e') .nil
  | elp e e' e3 => exact .cons (.elp e e' e3) .nil

theorem RV.int_inv {k : IntKind} {n : Int} {v : Value} (h : RV m (.int k n) v) : v = .int k n := by cases h; rfl
theorem RV.itv_inv {lo hi : Nat} {v : Value} (h : RV m (.complex .f64 lo hi) v) : ∃ n : Int, v = .int .i64 n ∧ (lo : Int) ≤ n + 9223372036854775808 ∧ n + 9223372036854775808 ≤ (hi : Int) := by
  cases h with
  | itv a b => exact ⟨_, rfl, a, b⟩
  | scal e => simp [Ev.scal] at e
theorem RV.loose_inv {k y : Nat} {v : Value} (h : RV m (.complex .f32 (k + 1) y) v) : ∃ b x c, v = .slice (some ⟨b, y / 4294967296, none⟩) (y % 4294967296) c ∧ m k = some (b, x) := by
  cases h with
  | loose e => exact ⟨_, _, _, rfl, e⟩
  | scal e => simp [Ev.scal] at e
theorem RV.nowh_inv {y : Nat} {v : Value} (h : RV m (.complex .f32 0 y) v) : ∃ a c, v = .slice a 0 c := by
  cases h with
  | nowh => exact ⟨_, _, rfl⟩
  | scal e => simp [Ev.scal] at e
theorem RV.bool_inv {b : Bool} {v : Value} (h : RV m (.bool b) v) : v = .bool b := by cases h; rfl
theorem RV.string_inv {b : ByteArray} {v : Value} (h : RV m (.string b) v) : v = .string b := by cases h; rfl
theorem RV.scal_inv {u v : Value} (h : RV m u v) (hs : Ev.scal u = true) : v = u := by
  cases h <;> first | rfl | (simp [Ev.scal] at hs)
theorem RV.agg_inv {c : Array Value} {v : Value} (h : RV m (.agg c) v) : ∃ c', v = .agg c' ∧ RVs m c.toList c'.toList := by
  cases h with
  | agg r => exact ⟨_, rfl, r⟩
  | scal e => simp [Ev.scal] at e
theorem RV.tuple_inv {c : Array Value} {v : Value} (h : RV m (.tuple c) v) : ∃ c', v = .tuple c' ∧ RVs m c.toList c'.toList := by
  cases h with
  | tuple r => exact ⟨_, rfl, r⟩
  | scal e => simp [Ev.scal] at e
theorem RV.iface_inv {t : TypeId} {u v : Value} (h : RV m (.iface t u) v) : ∃ u', v = .iface t u' ∧ RV m u u' := by
  cases h with
  | iface r => exact ⟨_, rfl, r⟩
  | scal e => simp [Ev.scal] at e
theorem RV.func_inv {f : FuncId} {a b : Array Value} {v : Value} (h : RV m (.func (.func f) a b) v) : ∃ a' b', v = .func (.func f) a' b' ∧ RVs m a.toList a'.toList ∧ RVs m b.toList b'.toList := by
  cases h with
  | func r s => exact ⟨_, _, rfl, r, s⟩
  | scal e => simp [Ev.scal] at e
theorem RV.ptr_inv {a : Addr} {v : Value} (h : RV m (.pointer (some a)) v) : ∃ b x, a = ⟨a.block, a.off, none⟩ ∧ v = .pointer (some ⟨b, a.off, none⟩) ∧ m a.block = some (b, x) := by
  cases h with
  | ptr e => exact ⟨_, _, rfl, rfl, e⟩
  | scal e => simp [Ev.scal] at e
theorem RV.slice_inv {a : Addr} {l c : Nat} {v : Value} (h : RV m (.slice (some a) l c) v) : ∃ b x, a = ⟨a.block, a.off, none⟩ ∧ v = .slice (some ⟨b, a.off, none⟩) l (c + x) ∧ m a.block = some (b, x) := by
  cases h with
  | slice e => exact ⟨_, _, rfl, rfl, e⟩
  | scal e => simp [Ev.scal] at e
theorem RV.slice_none {l c : Nat} {v : Value} (h : RV m (.slice none l c) v) : v = .slice none l c := by cases h; rfl
theorem RV.map_inv {k : Nat} {v : Value} (h : RV m (.map (some k)) v) : ∃ b x, v = .map (some b) ∧ m k = some (b, x) := by
  cases h with
  | map e => exact ⟨_, _, rfl, e⟩
  | scal e => simp [Ev.scal] at e
end

/-! memory -/
def esz (P : Program) (t : TypeId) : Nat := match P.info? t with
  | some i => i.size
  | none => 0

structure RE (m : Mp) (e e' : MapEntry) : Prop where
  key : RV m e.key e'.key
  val : RV m e.val e'.val
  born : e'.born = e.born
inductive REs (m : Mp) : List MapEntry → List MapEntry → Prop where
  | nil : REs m [] []
  | cons {e e' : MapEntry} {l l' : List MapEntry} : RE m e e' → REs m l l' → REs m (e :: l) (e' :: l')
theorem RE.mono {m m' : Mp} (h : m.le m') {e e' : MapEntry} (r : RE m e e') : RE m' e e' := ⟨r.key.mono h, r.val.mono h, r.born⟩
theorem REs.mono {m m' : Mp} (h : m.le m') : ∀ {e e' : List MapEntry}, REs m e e' → REs m' e e'
  | _, _, .nil => .nil
  | _, _, .cons r s => .cons (r.mono h) (REs.mono h s)

/-- what of a block is frozen: nothing, or the mark behind its last cell -/
def Fz (fz : Nat × Nat) (n : Nat) : Prop := fz = (0, 0) ∨ fz = (n, n + 1)
theorem Fz.free {fz : Nat × Nat} {n : Nat} (h : Fz fz n) : ∀ i, i < n → ¬ (fz.1 ≤ i ∧ i < fz.2) := fun i hi hh => by
  rcases h with rfl | rfl
  · have := hh.2; simp at this
  · have := hh.1; simp at this; omega
/-- what stands for more than a block -/
class ExtA (X : Type) where
  asn : X → Sl.Assn
instance : ExtA Empty := ⟨fun x => x.elim⟩
noncomputable def isCell : (Ob X) → Bool
  | .tok _ _ => false
  | .ext _ => false
  | _ => true
/-- what an object stands for -/
def RO (P : Program) (m : Mp) (x : Nat) (o' : Option Obj) : (Ob X) → Prop
  | .cells c t ex => ∃ c' fz, o' = some (.cells c' t fz) ∧ Fz fz c'.size ∧ c'.size = c.length + x * esz P t ∧ (∃ sp, RVs m c (c'.toList.take c.length) ∧ sp = c'.toList.drop c.length) ∧ (ex = true → x = 0 ∧ fz = (0, 0))
  | .map es ck => ∃ es', o' = some (.map es' ck) ∧ REs m es es'.toList
  | .mit mo since seen last => ∃ mo', o' = some (.mapIter mo' since seen.toArray last) ∧ (match mo with
    | none => mo' = none
    | some k => ∃ b x, m k = some (b, x) ∧ mo' = some b)
  | .tok _ _ => False
  | .ext _ => False

theorem RO.mono {P : Program} {m m' : Mp} (h : m.le m') {x : Nat} {o' : Option Obj} {o : (Ob X)} (r : RO P m x o' o) : RO P m' x o' o := by
  cases o with
  | cells c t ex => obtain ⟨c', fz, h1, h2, h3, ⟨sp, h4, h5⟩, h6⟩ := r; exact ⟨c', fz, h1, h2, h3, ⟨sp, h4.mono h, h5⟩, h6⟩
  | map es ck => obtain ⟨es', h1, h2⟩ := r; exact ⟨es', h1, h2.mono h⟩
  | mit mo since seen last =>
    obtain ⟨mo', h1, h2⟩ := r
    refine ⟨mo', h1, ?_⟩
    cases mo with
    | none => exact h2
    | some k => obtain ⟨b, x, h3, h4⟩ := h2; exact ⟨b, x, h _ _ h3, h4⟩
  | tok _ _ => exact r.elim
  | ext _ => exact r.elim

abbrev G (X : Type) := Nat → Option (Ob X)
/-- a step: what is new has numbers from lo up to hi; what is not its own stays -/
structure Stp (g : (G X)) (m : Mp) (w : World) (g' : (G X)) (m' : Mp) (w' : World) (lo hi : Nat) : Prop where
  le : m.le m'
  new : ∀ k, m' k ≠ m k → lo ≤ k ∧ k < hi
  own : ∀ k b x, g' k ≠ none → m' k = some (b, x) → (∃ k0 x0, g k0 ≠ none ∧ m k0 = some (b, x0)) ∨ w.heap.size ≤ b
  dom : ∀ k, g' k ≠ none → g k ≠ none ∨ (lo ≤ k ∧ k < hi)
  keep : ∀ b, b < w.heap.size → (∀ k x, g k ≠ none → m k ≠ some (b, x)) → (∀ k x, g k = some (.ext x) → ¬ m.ter k b) → w'.heap[b]? = w.heap[b]? ∧ m'.kn b = m.kn b
  ter : ∀ k x b, g' k = some (.ext x) → m'.ter k b → (∃ k0 x0, g k0 = some (.ext x0) ∧ m.ter k0 b) ∨ w.heap.size ≤ b
  nter : ∀ k, g k = none → k < lo ∨ hi ≤ k → m'.ter k = m.ter k
  size : w.heap.size ≤ w'.heap.size
  os : w'.os = w.os
  tape : w'.tape = w.tape
  out : w'.output = w.output

theorem Stp.refl (g : (G X)) (m : Mp) (w : World) (lo hi : Nat) : Stp g m w g m w lo hi :=
  ⟨m.le_refl, fun _ h => absurd rfl h, fun k b x h e => .inl ⟨k, x, h, e⟩, fun k h => .inl h, fun _ _ _ _ => ⟨rfl, rfl⟩, fun k x b e h => .inl ⟨k, x, e, h⟩, fun _ _ _ => rfl, Nat.le_refl _, rfl, rfl, rfl⟩

theorem Stp.trans {g : (G X)} {m : Mp} {w : World} {g1 : (G X)} {m1 : Mp} {w1 : World} {g2 : (G X)} {m2 : Mp} {w2 : World} {a b c : Nat}
    (h : Stp g m w g1 m1 w1 a b) (h' : Stp g1 m1 w1 g2 m2 w2 b c) (hab : a ≤ b) (hbc : b ≤ c) : Stp g m w g2 m2 w2 a c where
  le := Mp.le_trans h.le h'.le
  new := fun k e => by
    by_cases e1 : m1 k = m k
    · have := h'.new k (by rw [e1]; exact e); omega
    · have := h.new k e1; omega
  own := fun k b' x e1 e2 => by
    rcases h'.own k b' x e1 e2 with ⟨k0, x0, f1, f2⟩ | f
    · rcases h.own k0 b' x0 f1 f2 with r | r
      · exact .inl r
      · exact .inr r
    · exact .inr (Nat.le_trans h.size f)
  dom := fun k e => by
    rcases h'.dom k e with e | e
    · rcases h.dom k e with e | e
      · exact .inl e
      · exact .inr ⟨e.1, by omega⟩
    · exact .inr ⟨by omega, e.2⟩
  keep := fun b' e1 e2 e3 => by
    obtain ⟨q1, q2⟩ := h.keep b' e1 e2 e3
    obtain ⟨q3, q4⟩ := h'.keep b' (Nat.lt_of_lt_of_le e1 h.size) (by
      intro k x f1 f2
      rcases h.own k b' x f1 f2 with ⟨k0, x0, r1, r2⟩ | r
      · exact e2 k0 x0 r1 r2
      · omega) (by
      intro k x f1 f2
      rcases h.ter k x b' f1 f2 with ⟨k0, x0, r1, r2⟩ | r
      · exact e3 k0 x0 r1 r2
      · omega)
    exact ⟨q3.trans q1, q4.trans q2⟩
  ter := fun k x b' e1 e2 => by
    rcases h'.ter k x b' e1 e2 with ⟨k0, x0, f1, f2⟩ | f
    · rcases h.ter k0 x0 b' f1 f2 with r | r
      · exact .inl r
      · exact .inr r
    · exact .inr (Nat.le_trans h.size f)
  nter := fun k e1 e2 => by
    have : g1 k = none := by
      cases hg : g1 k with
      | none => rfl
      | some o =>
        rcases h.dom k (by rw [hg]; simp) with c | c
        · exact absurd e1 c
        · omega
    exact (h'.nter k this (by omega)).trans (h.nter k e1 (by omega))
  size := Nat.le_trans h.size h'.size
  os := h'.os.trans h.os
  tape := h'.tape.trans h.tape
  out := h'.out.trans h.out

theorem RO.some {P : Program} {m : Mp} {x : Nat} {o' : Option Obj} {o : (Ob X)} (r : RO P m x o' o) : ∃ q, o' = .some q := by
  cases o with
  | cells c t ex => obtain ⟨c', fz, h1, _⟩ := r; exact ⟨_, h1⟩
  | map es ck => obtain ⟨es', h1, _⟩ := r; exact ⟨_, h1⟩
  | mit mo a b c => obtain ⟨es', h1, _⟩ := r; exact ⟨_, h1⟩
  | tok _ _ => exact r.elim
  | ext _ => exact r.elim
variable [ExtA X]
structure Rep (P : Program) (m : Mp) (g : (G X)) (w : World) : Prop where
  obj : ∀ k o, g k = some o → isCell o = true → ∃ b x, m k = some (b, x) ∧ RO P m x w.heap[b]? o
  inj : ∀ k k' b x x', g k ≠ none → g k' ≠ none → m k = some (b, x) → m k' = some (b, x') → k = k'
  tok : ∀ k sz t b n, g k = some (.tok sz t) → m k = some (b, n) → ∃ vs s, m.kn b = some (vs, s, t) ∧ vs.length = n * sz
  kn : ∀ b vs s t, m.kn b = some (vs, s, t) → ∃ c' fz, w.heap[b]? = some (.cells c' t fz) ∧ Fz fz c'.size ∧ c'.size = s ∧ vs <+: c'.toList ∧ vs.all one = true
  apart : ∀ k o b x, g k = some o → isCell o = true → m k = some (b, x) → m.kn b = none
  ext : ∀ k x, g k = some (.ext x) → ∃ hp : Sl.Hp, ExtA.asn x hp ∧ ∀ key r, hp key = some r → Sl.Has w key r ∧ ∃ b, key.blk = some b ∧ m.ter k b
  lt : ∀ k b x, g k ≠ none → m k = some (b, x) → b < w.heap.size
  ter : ∀ k x b, g k = some (.ext x) → m.ter k b → b < w.heap.size ∧ m.kn b = none ∧ (∀ k' x', g k' ≠ none → k' ≠ k → m k' ≠ some (b, x')) ∧ (∀ k' x', g k' = some (.ext x') → k' ≠ k → ¬ m.ter k' b)

theorem Rep.less {P : Program} {m : Mp} {g g' : (G X)} {w : World} (h : Rep P m g w) (hg : ∀ k o, g' k = some o → g k = some o) : Rep P m g' w :=
  have hn : ∀ k, g' k ≠ none → g k ≠ none := fun k e c => by
    cases hh : g' k with
    | none => exact e hh
    | some o => rw [hg k o hh] at c; cases c
  ⟨fun k o e => h.obj k o (hg k o e), fun k k' b x x' e e' => h.inj k k' b x x' (hn k e) (hn k' e'),
    fun k sz t b n e => h.tok k sz t b n (hg _ _ e), h.kn, fun k o b x e => h.apart k o b x (hg _ _ e), fun k x e => h.ext k x (hg _ _ e),
    fun k b x e => h.lt k b x (hn _ e), fun k x b e e1 => let ⟨h1, h2, h3, h4⟩ := h.ter k x b (hg _ _ e) e1; ⟨h1, h2, fun k' x' f => h3 k' x' (hn _ f), fun k' x' f => h4 k' x' (hg _ _ f)⟩⟩
theorem has_same {w w' : World} {key : Sl.Key} {r : Sl.Res} {b : Nat} (hb : key.blk = some b) (hw : w'.heap[b]? = w.heap[b]?) (h : Sl.Has w key r) : Sl.Has w' key r := by
  cases key <;> cases hb <;> cases r <;> first | exact h.elim | (simp only [Sl.Has] at h ⊢; rw [hw]; exact h)
theorem Rep.drew {P : Program} {m : Mp} {g : (G X)} {w w' : World} (h : Rep P m g w) (hw : w'.heap = w.heap) : Rep P m g w' :=
  ⟨fun k o e => by rw [hw]; exact h.obj k o e, h.inj, h.tok, fun b vs s t e => by rw [hw]; exact h.kn b vs s t e, h.apart,
    fun k x e => let ⟨hp, h1, h2⟩ := h.ext k x e; ⟨hp, h1, fun key r hk => let ⟨f1, b, f2, f3⟩ := h2 key r hk; ⟨has_same f2 (by rw [hw]) f1, b, f2, f3⟩⟩,
    fun k b x e e1 => by rw [hw]; exact h.lt k b x e e1, fun k x b e e1 => by rw [hw]; exact h.ter k x b e e1⟩

theorem Rep.klt {P : Program} {m : Mp} {g : (G X)} {w : World} (hr : Rep P m g w) {b : Nat} {q : List Value × Nat × TypeId} (hk : m.kn b = .some q) : b < w.heap.size := by
  obtain ⟨vs, s, t⟩ := q
  obtain ⟨c', fz, h1, _⟩ := hr.kn b vs s t hk
  rcases Nat.lt_or_ge b w.heap.size with l | l
  · exact l
  · rw [Array.getElem?_eq_none l] at h1; cases h1
/-- what the step does not know of stays, too -/
theorem Rep.frame {P : Program} {m : Mp} {g r R : (G X)} {w : World} {g' : (G X)} {m' : Mp} {w' : World} {lo hi : Nat} (s : Stp g m w g' m' w' lo hi) (h' : Rep P m' g' w')
    (hR : Rep P m R w) (h1 : ∀ k o, r k = some o → R k = some o) (h2 : ∀ k o, g k = some o → R k = some o) (hd : ∀ k, r k ≠ none → g k = none) (hlo : ∀ k, r k ≠ none → k < lo ∨ hi ≤ k) :
    Rep P m' (fun k => match r k with | some o => some o | none => g' k) w' := by
  have n1 : ∀ k, r k ≠ none → R k ≠ none := fun k e c => by
    obtain ⟨o, ho⟩ := Option.ne_none_iff_exists'.1 e
    rw [h1 k o ho] at c; cases c
  have n2 : ∀ k, g k ≠ none → R k ≠ none := fun k e c => by
    obtain ⟨o, ho⟩ := Option.ne_none_iff_exists'.1 e
    rw [h2 k o ho] at c; cases c
  have ne : ∀ k k', r k ≠ none → g k' ≠ none → k' ≠ k := fun k k' e e' c => by subst c; exact e' (hd _ e)
  have mm : ∀ k, r k ≠ none → m' k = m k := fun k e => by
    rcases Decidable.em (m' k = m k) with c | c
    · exact c
    · have := s.new k c; have := hlo k e; omega
  have tt : ∀ k, r k ≠ none → m'.ter k = m.ter k := fun k e => s.nter k (hd k e) (hlo k e)
  have kb : ∀ k b x, r k ≠ none → m k = some (b, x) → w'.heap[b]? = w.heap[b]? ∧ m'.kn b = m.kn b := fun k b x e e1 =>
    s.keep b (hR.lt k b x (n1 k e) e1) (fun k' x' f1 f2 => ne k k' e f1 (hR.inj k' k b x' x (n2 k' f1) (n1 k e) f2 e1))
      (fun k' x' f1 f2 => (hR.ter k' x' b (h2 _ _ f1) f2).2.2.1 k x (n1 k e) (fun c => ne k k' e (by rw [f1]; simp) c.symm) e1)
  have kt : ∀ k x b, r k = some (.ext x) → m.ter k b → w'.heap[b]? = w.heap[b]? ∧ m'.kn b = m.kn b := fun k x b e e1 => by
    have ek : r k ≠ none := by rw [e]; simp
    obtain ⟨q1, q2, q3, q4⟩ := hR.ter k x b (h1 _ _ e) e1
    exact s.keep b q1 (fun k' x' f1 f2 => q3 k' x' (n2 _ f1) (ne k k' ek f1) f2) (fun k' x' f1 f2 => q4 k' x' (h2 _ _ f1) (ne k k' ek (by rw [f1]; simp)) f2)
  have cross : ∀ k k' b x x', r k ≠ none → g' k' ≠ none → m k = some (b, x) → m' k' = some (b, x') → False := by
    intro k k' b x x' e1 e2 e3 e4
    rcases s.own k' b x' e2 e4 with ⟨k0, x0, r1, r2⟩ | q
    · exact ne k k0 e1 r1 (hR.inj k0 k b x0 x (n2 _ r1) (n1 _ e1) r2 e3)
    · have := hR.lt k b x (n1 k e1) e3
      omega
  refine ⟨fun k o e ec => ?_, fun k k' b x x' e e' e1 e2 => ?_, fun k sz t b n e e1 => ?_, h'.kn, fun k o b x e ec e1 => ?_, fun k x e => ?_, fun k b x e e1 => ?_, fun k x b e e1 => ?_⟩
  · cases hr : r k with
    | some u =>
      simp only [hr] at e
      have e0 : u = o := by injection e
      subst e0
      obtain ⟨b, x, e1, e2⟩ := hR.obj k u (h1 _ _ hr) ec
      refine ⟨b, x, s.le _ _ e1, ?_⟩
      rw [(kb k b x (by rw [hr]; simp) e1).1]
      exact e2.mono s.le
    | none =>
      simp only [hr] at e
      exact h'.obj k o e ec
  · cases hr : r k with
    | some u =>
      have ek : r k ≠ none := by rw [hr]; simp
      rw [mm k ek] at e1
      cases hr' : r k' with
      | some u' =>
        have ek' : r k' ≠ none := by rw [hr']; simp
        rw [mm k' ek'] at e2
        exact hR.inj k k' b x x' (n1 _ ek) (n1 _ ek') e1 e2
      | none =>
        simp only [hr'] at e'
        exact (cross k k' b x x' ek e' e1 e2).elim
    | none =>
      simp only [hr] at e
      cases hr' : r k' with
      | some u' =>
        have ek' : r k' ≠ none := by rw [hr']; simp
        rw [mm k' ek'] at e2
        exact (cross k' k b x' x ek' e e2 e1).elim
      | none =>
        simp only [hr'] at e'
        exact h'.inj k k' b x x' e e' e1 e2
  · cases hr : r k with
    | some u =>
      have ek : r k ≠ none := by rw [hr]; simp
      simp only [hr] at e
      rw [mm k ek] at e1
      rw [e] at hr
      obtain ⟨vs, s', q1, q2⟩ := hR.tok k sz t b n (h1 _ _ hr) e1
      exact ⟨vs, s', by rw [(kb k b n ek e1).2]; exact q1, q2⟩
    | none =>
      simp only [hr] at e
      exact h'.tok k sz t b n e e1
  · cases hr : r k with
    | some u =>
      have ek : r k ≠ none := by rw [hr]; simp
      simp only [hr] at e
      rw [mm k ek] at e1
      rw [e] at hr
      rw [(kb k b x ek e1).2]
      exact hR.apart k o b x (h1 _ _ hr) ec e1
    | none =>
      simp only [hr] at e
      exact h'.apart k o b x e ec e1
  · cases hr : r k with
    | some u =>
      have ek : r k ≠ none := by rw [hr]; simp
      simp only [hr] at e
      rw [e] at hr
      obtain ⟨hp, q1, q2⟩ := hR.ext k x (h1 _ _ hr)
      refine ⟨hp, q1, fun key r' hk => ?_⟩
      obtain ⟨f1, b, f2, f3⟩ := q2 key r' hk
      exact ⟨has_same f2 (kt k x b hr f3).1 f1, b, f2, by rw [tt k ek]; exact f3⟩
    | none =>
      simp only [hr] at e
      exact h'.ext k x e
  · cases hr : r k with
    | some u =>
      have ek : r k ≠ none := by rw [hr]; simp
      rw [mm k ek] at e1
      exact Nat.lt_of_lt_of_le (hR.lt k b x (n1 _ ek) e1) s.size
    | none =>
      simp only [hr] at e
      exact h'.lt k b x e e1
  · cases hr : r k with
    | some u =>
      have ek : r k ≠ none := by rw [hr]; simp
      simp only [hr] at e
      rw [e] at hr
      rw [tt k ek] at e1
      obtain ⟨q1, q2, q3, q4⟩ := hR.ter k x b (h1 _ _ hr) e1
      refine ⟨Nat.lt_of_lt_of_le q1 s.size, by rw [(kt k x b hr e1).2]; exact q2, fun k' x' f hne f2 => ?_, fun k' x' f hne f2 => ?_⟩
      · cases hr' : r k' with
        | some u' =>
          have ek' : r k' ≠ none := by rw [hr']; simp
          rw [mm k' ek'] at f2
          exact q3 k' x' (n1 _ ek') hne f2
        | none =>
          simp only [hr'] at f
          rcases s.own k' b x' f f2 with ⟨k0, x0, r1, r2⟩ | q
          · exact q3 k0 x0 (n2 _ r1) (ne k k0 ek r1) r2
          · omega
      · cases hr' : r k' with
        | some u' =>
          have ek' : r k' ≠ none := by rw [hr']; simp
          simp only [hr'] at f
          rw [f] at hr'
          rw [tt k' ek'] at f2
          exact q4 k' x' (h1 _ _ hr') hne f2
        | none =>
          simp only [hr'] at f
          rcases s.ter k' x' b f f2 with ⟨k0, x0, r1, r2⟩ | q
          · exact q4 k0 x0 (h2 _ _ r1) (ne k k0 ek (by rw [r1]; simp)) r2
          · omega
    | none =>
      simp only [hr] at e
      obtain ⟨q1, q2, q3, q4⟩ := h'.ter k x b e e1
      refine ⟨q1, q2, fun k' x' f hne f2 => ?_, fun k' x' f hne f2 => ?_⟩
      · cases hr' : r k' with
        | some u' =>
          have ek' : r k' ≠ none := by rw [hr']; simp
          rw [mm k' ek'] at f2
          rcases s.ter k x b e e1 with ⟨k0, x0, r1, r2⟩ | q
          · exact (hR.ter k0 x0 b (h2 _ _ r1) r2).2.2.1 k' x' (n1 _ ek') (fun c => ne k' k0 ek' (by rw [r1]; simp) c.symm) f2
          · have := hR.lt k' b x' (n1 _ ek') f2
            omega
        | none =>
          simp only [hr'] at f
          exact q3 k' x' f hne f2
      · cases hr' : r k' with
        | some u' =>
          have ek' : r k' ≠ none := by rw [hr']; simp
          simp only [hr'] at f
          rw [f] at hr'
          rw [tt k' ek'] at f2
          rcases s.ter k x b e e1 with ⟨k0, x0, r1, r2⟩ | q
          · exact (hR.ter k0 x0 b (h2 _ _ r1) r2).2.2.2 k' x' (h1 _ _ hr') (fun c => ne k' k0 ek' (by rw [r1]; simp) c.symm) f2
          · have := (hR.ter k' x' b (h1 _ _ hr') f2).1
            omega
        | none =>
          simp only [hr'] at f
          exact q4 k' x' f hne f2
end Go.Ev
