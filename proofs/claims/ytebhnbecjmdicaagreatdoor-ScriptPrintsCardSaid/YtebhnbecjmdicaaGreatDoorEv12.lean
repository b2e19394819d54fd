/-
  A run reckoned out: regions whose order is open: what the reckoning's lists hold.
-/
import Derived.Test.YtebhnbecjmdicaaGreatDoorEv11
namespace Go.Ev
set_option linter.unusedVariables false
set_option linter.unusedSimpArgs false
set_option linter.unusedSectionVars false
variable {X : Type} [ExtA X]

theorem countP_lt : ∀ {l : List Nat} {p q : Nat → Bool}, (∀ x ∈ l, q x = true → p x = true) → ∀ i ∈ l, p i = true → q i = false → l.countP q < l.countP p
  | [], p, q, h, i, hi, h1, h2 => by cases hi
  | x :: l, p, q, h, i, hi, h1, h2 => by
    have hle : l.countP q ≤ l.countP p := List.countP_mono_left fun y hy hq => h y (List.mem_cons_of_mem _ hy) hq
    simp only [List.countP_cons]
    rcases List.mem_cons.1 hi with rfl | hi'
    · rw [if_pos h1, if_neg (by rw [h2]; simp)]
      omega
    · have ih := countP_lt (fun y hy => h y (List.mem_cons_of_mem _ hy)) i hi' h1 h2
      cases hq : q x with
      | true =>
        rw [if_pos rfl, if_pos (h x List.mem_cons_self hq)]
        omega
      | false =>
        rw [if_neg (by simp)]
        split <;> omega

/-- masks -/
theorem maskFold (g : Nat → Nat) : ∀ (l : List Edge) (s j : Nat), (l.foldl (fun s e => bif binds e then s ||| 2 ^ e.on ||| g e.on else s) s).testBit j = true → s.testBit j = true ∨ ∃ e ∈ l, binds e = true ∧ (j = e.on ∨ (g e.on).testBit j = true)
  | [], s, j, h => .inl h
  | e :: l, s, j, h => by
    rw [List.foldl_cons] at h
    rcases maskFold g l _ j h with h1 | ⟨e', h1, h2, h3⟩
    · cases hb : binds e with
      | false => rw [hb] at h1; exact .inl h1
      | true =>
        rw [hb, cond_true, Nat.testBit_or, Nat.testBit_or, Bool.or_eq_true, Bool.or_eq_true] at h1
        rcases h1 with (h1 | h1) | h1
        · exact .inl h1
        · refine .inr ⟨e, List.mem_cons_self, hb, .inl ?_⟩
          rw [Nat.testBit_two_pow] at h1
          exact (of_decide_eq_true h1).symm
        · exact .inr ⟨e, List.mem_cons_self, hb, .inr h1⟩
    · exact .inr ⟨e', List.mem_cons_of_mem _ h1, h2, h3⟩
theorem masks_spec : ∀ (l : List Oper) (acc : List Nat), ∃ tl, (masks l acc).reverse = acc.reverse ++ tl ∧ tl.length = l.length ∧
    ∀ (i : Nat) (o : Oper), l[i]? = some o → ∀ j, (((masks l acc).reverse).getD (acc.length + i) 0).testBit j = true → ∃ e ∈ o.after.toList, binds e = true ∧ (j = e.on ∨ (((masks l acc).reverse).getD e.on 0).testBit j = true)
  | [], acc => ⟨[], by simp [masks], rfl, fun i o h => by simp at h⟩
  | o :: l, acc => by
    let x := o.after.toList.foldl (fun s e => bif binds e then s ||| 2 ^ e.on ||| acc.reverse.getD e.on 0 else s) 0
    obtain ⟨tl, h1, h2, h3⟩ := masks_spec l (x :: acc)
    have hm : masks (o :: l) acc = masks l (x :: acc) := rfl
    refine ⟨x :: tl, ?_, by simp [h2], ?_⟩
    · rw [hm, h1, List.reverse_cons, List.append_assoc]; rfl
    · intro i o' ho j hj
      rw [hm] at hj ⊢
      cases i with
      | zero =>
        simp only [List.getElem?_cons_zero, Option.some.injEq] at ho
        subst ho
        have hx : ((masks l (x :: acc)).reverse).getD (acc.length + 0) 0 = x := by
          rw [h1, List.getD_eq_getElem?_getD]
          simp
        rw [hx] at hj
        rcases maskFold (fun k => acc.reverse.getD k 0) o.after.toList 0 j hj with h4 | ⟨e, h4, h5, h6⟩
        · simp at h4
        · refine ⟨e, h4, h5, h6.imp id fun h7 => ?_⟩
          have hlt : e.on < acc.reverse.length := by
            rcases Nat.lt_or_ge e.on acc.reverse.length with c | c
            · exact c
            · simp only [List.getD_eq_getElem?_getD, List.getElem?_eq_none c] at h7
              simp at h7
          rw [h1, List.reverse_cons, List.getD_eq_getElem?_getD, List.append_assoc, List.getElem?_append_left hlt]
          rw [List.getD_eq_getElem?_getD] at h7
          exact h7
      | succ i =>
        have := h3 i o' (by simpa using ho) j (by
          have e1 : (x :: acc).length + i = acc.length + (i + 1) := by simp; omega
          rw [e1]; exact hj)
        exact this

/-- what the look at a region says -/
structure Sta (ops : List Oper) (ms : List Nat) : Prop where
  mask : ∀ (i : Nat) (o : Oper), ops[i]? = some o → ∀ j, (ms.getD i 0).testBit j = true → ∃ e ∈ o.after.toList, binds e = true ∧ (j = e.on ∨ (ms.getD e.on 0).testBit j = true)
  edges : ∀ (i : Nat) (o : Oper), ops[i]? = some o → ∀ e ∈ o.after.toList, binds e = true → e.on < i
  guard : ∀ (i : Nat) (o : Oper), ops[i]? = some o → ∀ g b, o.guard = some (g, b) → (ms.getD i 0).testBit g = true
  dst : ∀ (i j : Nat) (x y : Oper), i < j → ops[i]? = some x → ops[j]? = some y → ∀ d, x.dst = some d → y.dst ≠ some d
  ord : ∀ (i j : Nat) (x y : Oper), i < j → ops[i]? = some x → ops[j]? = some y → (ms.getD j 0).testBit i = true ∨ ((∀ d, x.dst = some d → d ∉ looks ops y) ∧ (∀ d, y.dst = some d → d ∉ looks ops x))
theorem Sta.lt {ops : List Oper} {ms : List Nat} (s : Sta ops ms) : ∀ (i : Nat) (o : Oper), ops[i]? = some o → ∀ j, (ms.getD i 0).testBit j = true → j < i := by
  intro i
  induction i using Nat.strongRecOn with
  | ind i ih =>
    intro o ho j hj
    obtain ⟨e, h1, h2, h3⟩ := s.mask i o ho j hj
    have hlt := s.edges i o ho e h1 h2
    rcases h3 with rfl | h3
    · exact hlt
    · have hi := (List.getElem?_eq_some_iff.1 ho).1
      have : ops[e.on]? = some ops[e.on] := by simp
      have := ih e.on hlt _ this j h3
      omega
theorem stat_of {ops : List Oper} (h : pairsOk ops (masks ops []).reverse = true) : Sta ops (masks ops []).reverse := by
  unfold pairsOk at h
  rw [List.all_eq_true] at h
  have hz : ∀ i o, ops[i]? = some o → (o, i) ∈ ops.zipIdx := fun i o ho => by
    rw [List.mk_mem_zipIdx_iff_getElem?]; exact ho
  have hh := fun j y hy => h (y, j) (hz j y hy)
  simp only [Bool.and_eq_true, List.all_eq_true] at hh
  refine ⟨fun i o ho j hj => ?_, fun i o ho e he hb => ?_, fun i o ho g b hg => ?_, fun i j x y hij hx hy d hd => ?_, fun i j x y hij hx hy => ?_⟩
  · obtain ⟨tl, _, _, h3⟩ := masks_spec ops []
    have := h3 i o ho j (by simpa using hj)
    exact this
  · have h1 := (hh i o ho).1.1.2
    unfold edgesOk at h1
    rw [List.all_eq_true] at h1
    have := h1 e he
    rw [hb] at this
    simpa [Nat.blt_eq] using this
  · have h1 := (hh i o ho).1.2
    unfold guardOk at h1
    rw [hg] at h1
    simpa using h1
  · have h1 := (hh j y hy).2 (x, i) (hz i x hx)
    rw [show Nat.blt i j = true from Nat.blt_eq.mpr hij] at h1
    simp only [Bool.not_true, Bool.false_or, Bool.and_eq_true] at h1
    have h2 := h1.1
    unfold dstNe at h2
    rw [hd] at h2
    intro c
    rw [c] at h2
    simp at h2
  · have h1 := (hh j y hy).2 (x, i) (hz i x hx)
    rw [show Nat.blt i j = true from Nat.blt_eq.mpr hij] at h1
    simp only [Bool.not_true, Bool.false_or, Bool.and_eq_true, Bool.or_eq_true] at h1
    refine h1.2.imp id fun h2 => ?_
    unfold apart2 at h2
    rw [Bool.and_eq_true] at h2
    refine ⟨fun d hd => ?_, fun d hd => ?_⟩
    · have := h2.1; rw [hd] at this; simpa using this
    · have := h2.2; rw [hd] at this; simpa using this

/-! the lists -/
noncomputable def DOk (ops : List Oper) : Prop := ∀ (i : Nat) (o : Oper) (d : Nat), ops[i]? = some o → o.dst = some d → d < 1000000
theorem envR_get : ∀ {os : List Oper} {rs : List (Rc X)} {e : Tr Value} {t : Nat} {v : Value}, DOk os → (envR os rs e).get t = some v →
    (∃ (j : Nat) (o : Oper) (r : (Rc X)), os[j]? = some o ∧ rs[j]? = some r ∧ o.dst = some t ∧ v = r.v) ∨ ((∀ (j : Nat) (o : Oper) (r : (Rc X)), os[j]? = some o → rs[j]? = some r → o.dst ≠ some t) ∧ e.get t = some v)
  | [], rs, e, t, v, hd, h => .inr ⟨fun j o r h1 => by simp at h1, by simpa [envR] using h⟩
  | o :: os, [], e, t, v, hd, h => .inr ⟨fun j o r _ h1 => by simp at h1, by simpa [envR] using h⟩
  | o :: os, r :: rs, e, t, v, hd, h => by
    have hd' : DOk os := fun i o d h1 h2 => hd (i + 1) o d (by simpa using h1) h2
    unfold envR at h
    rcases envR_get hd' h with ⟨j, o', r', h1, h2, h3, h4⟩ | ⟨h1, h2⟩
    · exact .inl ⟨j + 1, o', r', by simpa using h1, by simpa using h2, h3, h4⟩
    · have hrest : o.dst ≠ some t → ∀ (j : Nat) (o' : Oper) (r' : (Rc X)), (o :: os)[j]? = some o' → (r :: rs)[j]? = some r' → o'.dst ≠ some t := by
        intro hne j o' r' g1 g2
        cases j with
        | zero => simp at g1; subst g1; exact hne
        | succ j => exact h1 j o' r' (by simpa using g1) (by simpa using g2)
      cases hdst : o.dst with
      | none =>
        rw [hdst] at h2
        exact .inr ⟨hrest (by rw [hdst]; simp), h2⟩
      | some d =>
        rw [hdst] at h2
        simp only at h2
        have hlt := hd 0 o d rfl hdst
        rw [Tr.get_put20 _ _ _ _ (by omega)] at h2
        split at h2
        · rename_i htd
          cases h2
          exact .inl ⟨0, o, r, rfl, rfl, by rw [hdst, htd], rfl⟩
        · rename_i htd
          exact .inr ⟨hrest (by rw [hdst]; intro c; cases c; exact htd rfl), h2⟩
theorem dropD_get : ∀ {os : List Oper} {e : Tr Value} {t : Nat} {v : Value}, DOk os → (dropD os e).get t = some v → (∀ (j : Nat) (o : Oper), os[j]? = some o → o.dst ≠ some t) ∧ e.get t = some v
  | [], e, t, v, hd, h => ⟨fun j o h1 => by simp at h1, h⟩
  | o :: os, e, t, v, hd, h => by
    have hd' : DOk os := fun i o d h1 h2 => hd (i + 1) o d (by simpa using h1) h2
    unfold dropD at h
    obtain ⟨h1, h2⟩ := dropD_get hd' h
    have hrest : o.dst ≠ some t → ∀ (j : Nat) (o' : Oper), (o :: os)[j]? = some o' → o'.dst ≠ some t := by
      intro hne j o' g1
      cases j with
      | zero => simp at g1; subst g1; exact hne
      | succ j => exact h1 j o' (by simpa using g1)
    cases hdst : o.dst with
    | none =>
      rw [hdst] at h2
      exact ⟨hrest (by rw [hdst]; simp), h2⟩
    | some d =>
      rw [hdst] at h2
      simp only at h2
      have hlt := hd 0 o d rfl hdst
      rw [Tr.get_put20 _ _ _ _ (by omega)] at h2
      split at h2
      · cases h2
      · rename_i htd
        exact ⟨hrest (by rw [hdst]; intro c; cases c; exact htd rfl), h2⟩

theorem effL_append : ∀ (a b : List (Rc X)) (i : Nat), effL i (a ++ b) = effL i a ++ effL (i + a.length) b
  | [], b, i => by simp [effL]
  | r :: a, b, i => by
    have := effL_append a b (i + 1)
    cases r <;> simp [effL, this, Nat.add_assoc, Nat.add_comm 1]
theorem effL_mem : ∀ {l : List (Rc X)} {i e : Nat} {h : (Hp X)}, (e, h) ∈ effL i l ↔ ∃ p v, e = i + p ∧ l[p]? = some (.eff v h)
  | [], i, e, h => by simp [effL]
  | r :: l, i, e, h => by
    have ih := @effL_mem l (i + 1) e h
    have push : (∃ p v, e = i + 1 + p ∧ l[p]? = some (.eff v h)) ↔ (∃ p v, e = i + (p + 1) ∧ (r :: l)[p + 1]? = some (.eff v h)) := by
      constructor
      · rintro ⟨p, v, h1, h2⟩; exact ⟨p, v, by omega, by simpa using h2⟩
      · rintro ⟨p, v, h1, h2⟩; exact ⟨p, v, by omega, by simpa using h2⟩
    cases r with
    | eff v h' =>
      simp only [effL, List.mem_cons, Prod.mk.injEq, ih, push]
      constructor
      · rintro (⟨rfl, rfl⟩ | ⟨p, v', h1, h2⟩)
        · exact ⟨0, v, rfl, rfl⟩
        · exact ⟨p + 1, v', h1, h2⟩
      · rintro ⟨p, v', h1, h2⟩
        cases p with
        | zero => simp at h2; exact .inl ⟨by omega, h2.2.symm⟩
        | succ p => exact .inr ⟨p, v', h1, h2⟩
    | val v b =>
      simp only [effL, ih, push]
      constructor
      · rintro ⟨p, v', h1, h2⟩; exact ⟨p + 1, v', h1, h2⟩
      · rintro ⟨p, v', h1, h2⟩
        cases p with
        | zero => simp at h2
        | succ p => exact ⟨p, v', h1, h2⟩
    | new v b =>
      simp only [effL, ih, push]
      constructor
      · rintro ⟨p, v', h1, h2⟩; exact ⟨p + 1, v', h1, h2⟩
      · rintro ⟨p, v', h1, h2⟩
        cases p with
        | zero => simp at h2
        | succ p => exact ⟨p, v', h1, h2⟩
theorem newL_mem : ∀ {l : List (Rc X)} {i e : Nat} {h : (Ob X)}, (e, h) ∈ newL i l ↔ ∃ p v, e = i + p ∧ l[p]? = some (.new v h)
  | [], i, e, h => by simp [newL]
  | r :: l, i, e, h => by
    have ih := @newL_mem l (i + 1) e h
    have push : (∃ p v, e = i + 1 + p ∧ l[p]? = some (.new v h)) ↔ (∃ p v, e = i + (p + 1) ∧ (r :: l)[p + 1]? = some (.new v h)) := by
      constructor
      · rintro ⟨p, v, h1, h2⟩; exact ⟨p, v, by omega, by simpa using h2⟩
      · rintro ⟨p, v, h1, h2⟩; exact ⟨p, v, by omega, by simpa using h2⟩
    cases r with
    | new v h' =>
      simp only [newL, List.mem_cons, Prod.mk.injEq, ih, push]
      constructor
      · rintro (⟨rfl, rfl⟩ | ⟨p, v', h1, h2⟩)
        · exact ⟨0, v, rfl, rfl⟩
        · exact ⟨p + 1, v', h1, h2⟩
      · rintro ⟨p, v', h1, h2⟩
        cases p with
        | zero => simp at h2; exact .inl ⟨by omega, h2.2.symm⟩
        | succ p => exact .inr ⟨p, v', h1, h2⟩
    | val v b =>
      simp only [newL, ih, push]
      constructor
      · rintro ⟨p, v', h1, h2⟩; exact ⟨p + 1, v', h1, h2⟩
      · rintro ⟨p, v', h1, h2⟩
        cases p with
        | zero => simp at h2
        | succ p => exact ⟨p, v', h1, h2⟩
    | eff v b =>
      simp only [newL, ih, push]
      constructor
      · rintro ⟨p, v', h1, h2⟩; exact ⟨p + 1, v', h1, h2⟩
      · rintro ⟨p, v', h1, h2⟩
        cases p with
        | zero => simp at h2
        | succ p => exact ⟨p, v', h1, h2⟩
theorem curH_append (h0 : (Hp X)) : ∀ (a : List (Nat × (Hp X))) (e : Nat) (h : (Hp X)), curH h0 (a ++ [(e, h)]) = h
  | [], e, h => rfl
  | (e', h') :: a, e, h => curH_append h' a e h

theorem mergeR_at (ms : List Nat) (m base : Nat) (es : List (Nat × (Hp X))) : ∀ (l : List (Nat × (Ob X))) (h : (Hp X)), (∀ i o, (i, o) ∈ l → base + i < 1000000) →
    (∀ x o, (mergeR ms m base es l h).at x = some o → h.at x = some o ∨ ∃ i, (i, o) ∈ l ∧ x = base + i ∧ m.testBit i = true ∧ mgd ms es i = false) ∧
    (∀ x, h.at x ≠ none → (mergeR ms m base es l h).at x ≠ none) ∧
    (∀ i o, (i, o) ∈ l → m.testBit i = true → mgd ms es i = false → (mergeR ms m base es l h).at (base + i) ≠ none) ∧ (mergeR ms m base es l h).nx = h.nx
  | [], h, hb => ⟨fun x o e => .inl e, fun x e => e, fun i o c => (by cases c), rfl⟩
  | (i, o) :: l, h, hb => by
    have hi := hb i o List.mem_cons_self
    obtain ⟨a1, a2, a3, a4⟩ := mergeR_at ms m base es l (bif m.testBit i && !(mgd ms es i) then h.set (base + i) (some o) else h) (fun j u hj => hb j u (List.mem_cons_of_mem _ hj))
    unfold mergeR
    cases hc : (m.testBit i && !(mgd ms es i)) with
    | false =>
      rw [hc, cond_false] at a1 a2 a3 a4
      refine ⟨fun x u e => (a1 x u e).imp id fun ⟨j, j1, j2⟩ => ⟨j, List.mem_cons_of_mem _ j1, j2⟩, a2, fun j u hj h1 h2 => ?_, a4⟩
      rcases List.mem_cons.1 hj with e | hj
      · cases e
        rw [h1, h2] at hc
        cases hc
      · exact a3 j u hj h1 h2
    | true =>
      rw [hc, cond_true] at a1 a2 a3 a4
      simp only [Bool.and_eq_true, Bool.not_eq_true'] at hc
      have hat := fun j => Hp.at_set (h := h) (o := some o) hi j
      refine ⟨fun x u e => ?_, fun x e => a2 x (by rw [hat]; split <;> simp [e]), fun j u hj h1 h2 => ?_, a4⟩
      · rcases a1 x u e with e1 | ⟨j, j1, j2⟩
        · rw [hat] at e1
          split at e1
          · rename_i hx
            cases e1
            exact .inr ⟨i, List.mem_cons_self, hx, hc.1, hc.2⟩
          · exact .inl e1
        · exact .inr ⟨j, List.mem_cons_of_mem _ j1, j2⟩
      · rcases List.mem_cons.1 hj with e | hj
        · cases e
          exact a2 _ (by rw [hat, if_pos rfl]; simp)
        · exact a3 j u hj h1 h2
theorem mergeAll_at (ms : List Nat) (base : Nat) (es : List (Nat × (Hp X))) : ∀ (l : List (Nat × (Ob X))) (h : (Hp X)), (∀ i o, (i, o) ∈ l → base + i < 1000000) →
    (∀ x o, (mergeAll ms base es l h).at x = some o → h.at x = some o ∨ ∃ i, (i, o) ∈ l ∧ x = base + i ∧ mgd ms es i = false) ∧ (mergeAll ms base es l h).nx = h.nx
  | [], h, hb => ⟨fun x o e => .inl e, rfl⟩
  | (i, o) :: l, h, hb => by
    have hi := hb i o List.mem_cons_self
    obtain ⟨a1, a4⟩ := mergeAll_at ms base es l (bif mgd ms es i then h else h.set (base + i) (some o)) (fun j u hj => hb j u (List.mem_cons_of_mem _ hj))
    unfold mergeAll
    cases hc : mgd ms es i with
    | true =>
      rw [hc, cond_true] at a1 a4
      exact ⟨fun x u e => (a1 x u e).imp id fun ⟨j, j1, j2⟩ => ⟨j, List.mem_cons_of_mem _ j1, j2⟩, a4⟩
    | false =>
      rw [hc, cond_false] at a1 a4
      have hat := fun j => Hp.at_set (h := h) (o := some o) hi j
      refine ⟨fun x u e => ?_, a4⟩
      rcases a1 x u e with e1 | ⟨j, j1, j2⟩
      · rw [hat] at e1
        split at e1
        · rename_i hx
          cases e1
          exact .inr ⟨i, List.mem_cons_self, hx, hc⟩
        · exact .inl e1
      · exact .inr ⟨j, List.mem_cons_of_mem _ j1, j2⟩

section
variable {T : Tb} {cal : (Cal X)} {base : Nat} {ops : List Oper} {ms : List Nat} {h0 : (Hp X)} {env0 : Tr Value}

/-- what the reckoning says of one operation -/
noncomputable def Cnd (T : Tb) (cal : (Cal X)) (base : Nat) (ops : List Oper) (ms : List Nat) (h0 : (Hp X)) (env0 : Tr Value) (R : List (Rc X)) (pan : (Pan X)) (j : Nat) (o : Oper) (r : (Rc X)) : Prop :=
  (stepR T cal base ops ms h0 env0 (R.take j) o = some (.go r) ∧ ∀ i ch h, pan = some (i, ch, h) → i ≠ j ∧ (i < j → notEff r = true)) ∨
  ∃ i ch h, pan = some (i, ch, h) ∧ notEff r = true ∧ ((j = i ∧ stepR T cal base ops ms h0 env0 (R.take j) o = some (.panic ch h)) ∨ (ms.getD j 0).testBit i = true)

theorem goR_spec : ∀ {rest : List Oper} {R0 : List (Rc X)} {p : (Pan X)} {R : List (Rc X)} {pan : (Pan X)}, goR T cal base ops ms h0 env0 rest R0 p = some (R, pan) → (∀ i ch h, p = some (i, ch, h) → i < R0.length) →
    ∃ R1, R = R0 ++ R1 ∧ R1.length = rest.length ∧ (∀ x, p = some x → pan = some x) ∧ (p = none → ∀ i ch h, pan = some (i, ch, h) → R0.length ≤ i) ∧
      ∀ (j : Nat) (o : Oper), rest[j]? = some o → ∃ r, R[R0.length + j]? = some r ∧ Cnd T cal base ops ms h0 env0 R pan (R0.length + j) o r
  | [], R0, p, R, pan, e, hp => by
    cases p with
    | none => cases e; exact ⟨[], by simp, rfl, fun x h => h, fun _ i ch h c => (by cases c), fun j o h => (by simp at h)⟩
    | some q => cases e; exact ⟨[], by simp, rfl, fun x h => h, fun c => (by cases c), fun j o h => (by simp at h)⟩
  | o :: rest, R0, p, R, pan, e, hp => by
    have shift : ∀ {r : (Rc X)} {p' : (Pan X)}, goR T cal base ops ms h0 env0 rest (R0 ++ [r]) p' = some (R, pan) → (∀ i ch h, p' = some (i, ch, h) → i < (R0 ++ [r]).length) →
        (∀ R1, R = (R0 ++ [r]) ++ R1 → R.take R0.length = R0 → (p' = none → ∀ i ch h, pan = some (i, ch, h) → R0.length + 1 ≤ i) → (∀ x, p' = some x → pan = some x) → Cnd T cal base ops ms h0 env0 R pan R0.length o r) →
        ∃ R1, R = R0 ++ R1 ∧ R1.length = (o :: rest).length ∧ (∀ x, p' = some x → pan = some x) ∧ (p' = none → ∀ i ch h, pan = some (i, ch, h) → R0.length + 1 ≤ i) ∧
          ∀ (j : Nat) (o' : Oper), (o :: rest)[j]? = some o' → ∃ r, R[R0.length + j]? = some r ∧ Cnd T cal base ops ms h0 env0 R pan (R0.length + j) o' r := by
      intro r p' e1 hp1 hc
      obtain ⟨R1, h1, h2, h3, h4, h5⟩ := goR_spec e1 hp1
      have htake : R.take R0.length = R0 := by rw [h1, List.append_assoc]; simp
      refine ⟨[r] ++ R1, by rw [h1, List.append_assoc], by simp [h2], h3, by simpa using h4, fun j o' ho => ?_⟩
      cases j with
      | zero =>
        simp only [List.getElem?_cons_zero, Option.some.injEq] at ho
        subst ho
        refine ⟨r, by rw [h1, List.append_assoc]; simp, ?_⟩
        exact hc R1 h1 htake (by simpa using h4) h3
      | succ j =>
        obtain ⟨r', g1, g2⟩ := h5 j o' (by simpa using ho)
        have e2 : (R0 ++ [r]).length + j = R0.length + (j + 1) := by simp; omega
        rw [e2] at g1 g2
        exact ⟨r', g1, g2⟩
    cases p with
    | none =>
      unfold goR at e
      split at e
      · rename_i r hs
        obtain ⟨R1, h1, h2, h3, h4, h5⟩ := shift e (fun i ch h c => by cases c) (fun R1 g1 g2 g3 g4 => .inl ⟨by rw [g2]; exact hs, fun i ch h c => by have := g3 rfl i ch h c; exact ⟨by omega, fun c => by omega⟩⟩)
        exact ⟨R1, h1, h2, fun x c => (by cases c), fun _ i ch h c => by have := h4 rfl i ch h c; omega, h5⟩
      · rename_i ch h hs
        obtain ⟨R1, h1, h2, h3, h4, h5⟩ := shift e (fun i ch h c => by cases c; simp) (fun R1 g1 g2 g3 g4 => .inr ⟨_, _, _, g4 _ rfl, rfl, .inl ⟨rfl, by rw [g2]; exact hs⟩⟩)
        refine ⟨R1, h1, h2, fun x c => (by cases c), fun _ i ch' h' c => ?_, h5⟩
        have := h3 _ rfl
        rw [this] at c
        cases c
        exact Nat.le_refl _
      · cases e
    | some q =>
      obtain ⟨i, ch, h⟩ := q
      have hi := hp i ch h rfl
      unfold goR at e
      cases hb : (ms.getD R0.length 0).testBit i with
      | true =>
        rw [hb, cond_true] at e
        obtain ⟨R1, h1, h2, h3, h4, h5⟩ := shift e (fun i ch h c => by cases c; simp; omega) (fun R1 g1 g2 g3 g4 => .inr ⟨_, _, _, g4 _ rfl, rfl, .inr hb⟩)
        exact ⟨R1, h1, h2, h3, fun c => (by cases c), h5⟩
      | false =>
        rw [hb, cond_false] at e
        split at e
        · rename_i r hs
          cases hn : notEff r with
          | false => rw [hn] at e; cases e
          | true =>
            rw [hn, cond_true] at e
            obtain ⟨R1, h1, h2, h3, h4, h5⟩ := shift e (fun i ch h c => by cases c; simp; omega) (fun R1 g1 g2 g3 g4 => .inl ⟨by rw [g2]; exact hs, fun i' ch' h' c => by
              have := g4 _ rfl
              rw [this] at c
              cases c
              exact ⟨by omega, fun _ => hn⟩⟩)
            exact ⟨R1, h1, h2, h3, fun c => (by cases c), h5⟩
        · cases e
end
end Go.Ev
