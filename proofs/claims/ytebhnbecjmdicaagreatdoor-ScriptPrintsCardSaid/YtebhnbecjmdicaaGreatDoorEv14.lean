/-
  A run reckoned out: open regions, the effects, and the whole.
-/
import Derived.Test.YtebhnbecjmdicaaGreatDoorEv13
namespace Go.Ev
set_option linter.unusedVariables false
set_option linter.unusedSimpArgs false
set_option linter.unusedSectionVars false
variable {X : Type} [ExtA X]

theorem effL_sorted : ∀ (l : List (Rc X)) (i : Nat), (effL i l).Pairwise fun a b => a.1 < b.1
  | [], i => .nil
  | r :: l, i => by
    have ih := effL_sorted l (i + 1)
    cases r with
    | eff v h =>
      refine .cons (fun x hx => ?_) ih
      obtain ⟨e, h2⟩ := x
      obtain ⟨p, v1, h3, _⟩ := effL_mem.1 hx
      show i < e
      omega
    | val v b => exact ih
    | new v b => exact ih
theorem mgd_append {ms : List Nat} {a : List (Nat × (Hp X))} {e : Nat} {h : (Hp X)} {i : Nat} : mgd ms (a ++ [(e, h)]) i = (mgd ms a i || (ms.getD e 0).testBit i) := by
  simp [mgd]

section
variable {c : (Cx X)} {D : Nat → Bool} {j i : Nat} {m m' : Mp} {a : Act} {w w' : World} {o : Oper} {r : (Rc X)} {v' : Value}

theorem Cx.take_es (c : (Cx X)) (i : Nat) : c.es.take (effL 0 (c.R.take i)).length = effL 0 (c.R.take i) := by
  have : c.es = effL 0 (c.R.take i) ++ effL (0 + (c.R.take i).length) (c.R.drop i) := by
    unfold Cx.es
    conv => lhs; rw [← List.take_append_drop i c.R]
    rw [effL_append]
  rw [this, List.take_left]

theorem Iv.len_eq (ok : c.Ok) (I : Iv c D j m a w) (hi : c.L[i]? = some o) (hD : D i = false) (hm : ∀ i', (c.ms.getD i 0).testBit i' = true → D i' = true) (hch : (effL 0 (c.R.take i)).all (fun e => (c.ms.getD i 0).testBit e.1) = true)
    (hnext : ∀ e h, c.es[(effL 0 (c.R.take i)).length]? = some (e, h) → D e = false) : j = (effL 0 (c.R.take i)).length := by
  have hge : (effL 0 (c.R.take i)).length ≤ j := by
    rcases Nat.eq_zero_or_pos (effL 0 (c.R.take i)).length with h0 | h0
    · omega
    · have hlt : (effL 0 (c.R.take i)).length - 1 < (effL 0 (c.R.take i)).length := by omega
      obtain ⟨⟨e, h⟩, he⟩ : ∃ x, (effL 0 (c.R.take i))[(effL 0 (c.R.take i)).length - 1]? = some x := ⟨_, List.getElem?_eq_getElem hlt⟩
      have he2 : c.es[(effL 0 (c.R.take i)).length - 1]? = some (e, h) := by
        rw [← c.take_es i, List.getElem?_take_of_lt (by rw [c.take_es i]; exact hlt)] at he
        rw [c.take_es i] at he
        exact he
      rw [List.all_eq_true] at hch
      have := hm e (hch (e, h) (List.mem_of_getElem? he))
      have := (I.pr _ e h he2).1 this
      omega
  have hle : j ≤ (effL 0 (c.R.take i)).length := by
    rcases Nat.lt_or_ge (effL 0 (c.R.take i)).length j with g | g
    · have hl : (effL 0 (c.R.take i)).length < c.es.length := Nat.lt_of_lt_of_le g I.je
      obtain ⟨⟨e, h⟩, he⟩ : ∃ x, c.es[(effL 0 (c.R.take i)).length]? = some x := ⟨_, List.getElem?_eq_getElem hl⟩
      have := (I.pr _ e h he).2 g
      rw [hnext e h he] at this
      cases this
    · exact g
  omega

noncomputable def Cx.B (c : (Cx X)) (i j : Nat) : (Hp X) := mergeR c.ms (c.ms.getD i 0) c.base (c.es.take j) (newL 0 (c.R.take i)) (c.H j)

theorem Cx.new_lt (ok : c.Ok) {i1 : Nat} {u : (Ob X)} (h : (i1, u) ∈ newL 0 (c.R.take i)) : i1 < i ∧ i1 < c.L.length ∧ newAt c.R i1 = some u ∧ c.base + i1 < 1000000 := by
  obtain ⟨p, v, h1, h2⟩ := newL_mem.1 h
  rw [Nat.zero_add] at h1
  subst h1
  have hl := (List.getElem?_eq_some_iff.1 h2).1
  simp only [List.length_take] at hl
  rw [List.getElem?_take_of_lt (by omega)] at h2
  have := ok.len
  have := ok.sm
  exact ⟨by omega, by omega, by unfold newAt; rw [h2], by omega⟩

theorem Iv.B1 (ok : c.Ok) (I : Iv c D j m a w) (hm : ∀ i', (c.ms.getD i 0).testBit i' = true → D i' = true) {x : Nat} {u : (Ob X)} (h : (c.B i j).at x = some u) : c.S D j x = some u := by
  obtain ⟨a1, _⟩ := mergeR_at c.ms (c.ms.getD i 0) c.base (c.es.take j) (newL 0 (c.R.take i)) (c.H j) (fun i1 u h => (c.new_lt ok h).2.2.2)
  rcases a1 x u h with e | ⟨i1, h1, rfl, h3, h4⟩
  · exact I.sub e
  · obtain ⟨_, _, g3, _⟩ := c.new_lt ok h1
    unfold Cx.S SD
    rw [if_pos ⟨Nat.le_add_right _ _, by rw [Nat.add_sub_cancel_left]; exact hm i1 h3, by rw [Nat.add_sub_cancel_left]; exact h4⟩, Nat.add_sub_cancel_left, g3]
theorem Iv.B3 (ok : c.Ok) (I : Iv c D j m a w) (hi : c.L[i]? = some o) {x : Nat} {u : (Ob X)} (h : c.S D j x = some u) (hB : (c.B i j).at x = none) :
    ∃ i1, x = c.base + i1 ∧ D i1 = true ∧ mgd c.ms (c.es.take j) i1 = false ∧ newAt c.R i1 = some u ∧ (c.ms.getD i 0).testBit i1 = false := by
  obtain ⟨_, a2, a3, _⟩ := mergeR_at c.ms (c.ms.getD i 0) c.base (c.es.take j) (newL 0 (c.R.take i)) (c.H j) (fun i1 u h => (c.new_lt ok h).2.2.2)
  have hH : (c.H j).at x = none := by
    cases hh : (c.H j).at x with
    | none => rfl
    | some u => exact absurd hB (a2 x (by rw [hh]; simp))
  unfold Cx.S SD at h
  split at h
  · rename_i hc
    obtain ⟨h1, h2, h3⟩ := hc
    split at h
    · rename_i u' hn
      cases h
      refine ⟨x - c.base, by omega, h2, h3, hn, ?_⟩
      cases hb : (c.ms.getD i 0).testBit (x - c.base) with
      | false => rfl
      | true =>
        exfalso
        have hlt := ok.sta.lt i o hi _ hb
        have hmem : (x - c.base, u) ∈ newL 0 (c.R.take i) := by
          unfold newAt at hn
          split at hn
          · rename_i v ob hr
            cases hn
            exact newL_mem.2 ⟨x - c.base, v, by omega, by rw [List.getElem?_take_of_lt hlt]; exact hr⟩
          · cases hn
        have := a3 _ _ hmem hb h3
        rw [show c.base + (x - c.base) = x by omega] at this
        exact this hB
    · have : (c.H j).at x = some u := h
      rw [hH] at this; cases this
  · have : (c.H j).at x = some u := h
    rw [hH] at this; cases this
theorem Iv.Bnx (ok : c.Ok) : (c.B i j).nx = (c.H j).nx :=
  (mergeR_at c.ms (c.ms.getD i 0) c.base (c.es.take j) (newL 0 (c.R.take i)) (c.H j) (fun i1 u h => (c.new_lt ok h).2.2.2)).2.2.2

theorem Iv.topB (ok : c.Ok) (I : Iv c D j m a w) (hm : ∀ i', (c.ms.getD i 0).testBit i' = true → D i' = true) : ∀ k, (c.H j).nx ≤ k → (c.B i j).at k = none := fun k hk => by
  cases hb : (c.B i j).at k with
  | none => rfl
  | some u =>
    have hS := I.B1 ok hm hb
    have := I.nx
    rcases I.stp.dom k (by rw [hS]; simp) with g | g
    · exact absurd (ok.top k (by omega)) g
    · omega

/-- an effect -/
theorem Iv.eff (ok : c.Ok) (I : Iv c D j m a w) (hi : c.L[i]? = some o) {v : Value} {h' : (Hp X)} (hr : c.R[i]? = some (.eff v h')) (hes : c.es[j]? = some (i, h')) (hD : D i = false) (hm : ∀ i', (c.ms.getD i 0).testBit i' = true → D i' = true) (hnp : ∀ i1 ch h, c.pan = some (i1, ch, h) → i1 ≠ i)
    (hv : RV m' v v') (hrep : Rep c.P m' h'.at w') (hs : Stp (c.B i j).at m w h'.at m' w' (c.B i j).nx h'.nx) (hn : (c.B i j).nx ≤ h'.nx) : Iv c (upd D i) (j + 1) m' (a.put o.dst v') w' := by
  obtain ⟨p1, p2, p3, p4⟩ := I.putv ok hi hr hs.le (r := .eff v h') hv
  have hBnx := Iv.Bnx (i := i) (j := j) ok
  have htake : c.es.take (j + 1) = c.es.take j ++ [(i, h')] := by rw [List.take_add_one, hes]; rfl
  have hH : c.H (j + 1) = h' := by
    unfold Cx.H HJ
    rw [htake, curH_append]
  have hmg : ∀ i1, mgd c.ms (c.es.take (j + 1)) i1 = (mgd c.ms (c.es.take j) i1 || (c.ms.getD i 0).testBit i1) := fun i1 => by rw [htake, mgd_append]
  obtain ⟨a1, a2, a3, _⟩ := mergeR_at c.ms (c.ms.getD i 0) c.base (c.es.take j) (newL 0 (c.R.take i)) (c.H j) (fun i1 u h => (c.new_lt ok h).2.2.2)
  have hnew : newAt c.R i = none := by unfold newAt; rw [hr]
  let r : (G X) := fun x => match (c.B i j).at x with | some _ => none | none => c.S D j x
  have hr1 : ∀ x u, r x = some u → c.S D j x = some u ∧ (c.B i j).at x = none := by
    intro x u hx
    simp only [r] at hx
    split at hx
    · cases hx
    · rename_i hb; exact ⟨hx, hb⟩
  have hr0 : ∀ x, r x ≠ none → ∃ u, c.S D j x = some u ∧ (c.B i j).at x = none := fun x hx => by
    obtain ⟨u, hu⟩ := Option.ne_none_iff_exists'.1 hx
    exact ⟨u, hr1 x u hu⟩
  have hS : c.S (upd D i) (j + 1) = fun x => match r x with | some u => some u | none => h'.at x := by
    funext x
    cases hx : r x with
    | some u =>
      obtain ⟨e1, e2⟩ := hr1 x u hx
      obtain ⟨i1, rfl, g2, g3, g4, g5⟩ := I.B3 ok hi e1 e2
      unfold Cx.S SD
      rw [if_pos ⟨Nat.le_add_right _ _, by rw [Nat.add_sub_cancel_left]; exact upd_iff.2 (.inr g2), by rw [Nat.add_sub_cancel_left, hmg, g3, g5]; rfl⟩, Nat.add_sub_cancel_left, g4]
    | none =>
      simp only
      unfold Cx.S SD
      have hH' : (HJ c.h0 c.es (j + 1)) = h' := hH
      rw [hH']
      split
      · rename_i hc
        obtain ⟨h1, h2, h3⟩ := hc
        rw [hmg, Bool.or_eq_false_iff] at h3
        split
        · rename_i u hn
          exfalso
          have hne : x - c.base ≠ i := fun e => by rw [e, hnew] at hn; cases hn
          rw [upd_ne hne] at h2
          have hSx : c.S D j x = some u := by
            unfold Cx.S SD
            rw [if_pos ⟨h1, h2, h3.1⟩, hn]
          have hBx : (c.B i j).at x = none := by
            cases hb : (c.B i j).at x with
            | none => rfl
            | some u2 =>
              rcases a1 x u2 hb with e | ⟨i1, e1, e2, e3, e4⟩
              · have := I.own (x - c.base) (I.cl _ h2).1 (by rw [show c.base + (x - c.base) = x by omega, e]; simp)
                rw [h3.1] at this; cases this
              · have : x - c.base = i1 := by omega
                rw [this] at h3
                rw [h3.2] at e3; cases e3
          simp only [r, hBx] at hx
          rw [hSx] at hx
          cases hx
        · rfl
      · rfl
  have hrlo : ∀ k o, r k = some o → (c.B i j).at k = none ∧ (k < (c.B i j).nx ∨ h'.nx ≤ k) := fun k o e => by
    obtain ⟨hu, hb⟩ := hr1 k o e
    refine ⟨hb, .inl ?_⟩
    rw [hBnx]
    have hIn := I.nx
    rcases I.stp.dom k (by rw [hu]; simp) with g | g
    · rcases Nat.lt_or_ge k c.base with l | l
      · omega
      · exact absurd (ok.top k l) g
    · omega
  have hframe := Rep.frame (r := r) hs hrep I.rep (fun k o e => (hr1 k o e).1) (fun k o e => I.B1 ok hm e) (fun k e => by
      obtain ⟨o, ho⟩ := Option.ne_none_iff_exists'.1 e
      exact (hrlo k o ho).1) (fun k e => by
      obtain ⟨o, ho⟩ := Option.ne_none_iff_exists'.1 e
      exact (hrlo k o ho).2)
  have hbes := hs.beside (r := r) (G1 := c.S D j) (fun k o hk => ⟨(hr1 k o hk).1, hrlo k o hk⟩) (fun k o hk => I.B1 ok hm hk)
  have hInx := I.nx
  refine ⟨I.closed hi hm, ?_, fun k e h he => ?_, fun i1 ch h hp => ?_, p1, p2, p3, p4, by rw [hS]; exact hframe, fun i1 h1 h2 => ?_, fun k hk => ?_, fun i1 h1 h2 => ?_, by rw [hH]; omega, ?_⟩
  · have := (List.getElem?_eq_some_iff.1 hes).1
    omega
  · by_cases hkj : k = j
    · subst hkj
      rw [hes] at he
      cases he
      exact ⟨fun _ => Nat.lt_succ_self _, fun _ => upd_iff.2 (.inl rfl)⟩
    · have hne : e ≠ i := by
        intro e1
        subst e1
        have hsorted := List.pairwise_iff_getElem.1 (effL_sorted c.R 0)
        obtain ⟨l1, g1⟩ := List.getElem?_eq_some_iff.1 he
        obtain ⟨l2, g2⟩ := List.getElem?_eq_some_iff.1 hes
        rcases Nat.lt_or_gt_of_ne hkj with g | g
        · have := hsorted k j l1 l2 g
          change (c.es[k]).1 < (c.es[j]).1 at this
          rw [g1, g2] at this
          exact Nat.lt_irrefl _ this
        · have := hsorted j k l2 l1 g
          change (c.es[j]).1 < (c.es[k]).1 at this
          rw [g1, g2] at this
          exact Nat.lt_irrefl _ this
      rw [upd_ne hne, I.pr k e h he]
      omega
  · rw [upd_ne (hnp i1 ch h hp)]
    exact I.np i1 ch h hp
  · rw [hH] at h2
    rw [hmg]
    rcases hs.dom _ h2 with g | g
    · obtain ⟨u, hu⟩ := Option.ne_none_iff_exists'.1 g
      rcases a1 _ u hu with e | ⟨i2, e1, e2, e3, e4⟩
      · rw [I.own i1 h1 (by rw [e]; simp)]; rfl
      · have : i1 = i2 := by omega
        subst this
        rw [e3, Bool.or_true]
    · omega
  · rw [hH] at hk
    rcases Decidable.em (m' k = m k) with e | e
    · rw [e]; exact I.fr1 k (by omega)
    · have := (hs.new k e).2; omega
  · have hne : i1 ≠ i := fun e => by subst e; rw [show upd D i1 i1 = true from upd_iff.2 (.inl rfl)] at h2; cases h2
    rw [upd_ne hne] at h2
    rcases Decidable.em (m' (c.base + i1) = m (c.base + i1)) with e | e
    · rw [e]; exact I.fr2 i1 h1 h2
    · have := (hs.new _ e).1; omega
  · rw [hS, hH]
    exact I.stp.trans2 hbes (by omega) (by omega) (Nat.le_refl _)
end
end Go.Ev
