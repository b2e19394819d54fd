/-
  A run reckoned out: open regions whole; code and calls whole.
-/
import Derived.Test.YtebhnbecjmdicaaGreatDoorEv14
namespace Go.Ev
set_option linter.unusedVariables false
set_option linter.unusedSimpArgs false
set_option linter.unusedSectionVars false
variable {X : Type} [ExtA X]

section
variable {c : (Cx X)} {D : Nat → Bool} {j i : Nat} {m m' : Mp} {a : Act} {w w' : World} {o : Oper} {r : (Rc X)} {v' : Value}

/-- what must hold where an operation of the region panics -/
noncomputable def PanQ (c : (Cx X)) (Q : Exit → Act → World → Prop) (D : Nat → Bool) (m : Mp) (a : Act) : Prop := ∀ i ch h, c.pan = some (i, ch, h) → ∀ m' c' w', RCh m' ch c' → Rep c.P m' h.at w' → Stp c.s.hp.at c.m0 c.w0 h.at m' w' c.base h.nx → (∀ k, h.nx ≤ k → m' k = none) → (∀ k, h.nx ≤ k → h.at k = none) → c.base ≤ h.nx → m.le m' → Q (.panic c') a w'

theorem RO.weak {P : Program} {m : Mp} {x : Nat} {o' : Option Obj} {o : (Ob X)} (b : Bool) (r : RO P m x o' o) : RO P m x o' (weakO b o) := by
  cases o with
  | cells c t ex =>
    obtain ⟨c', fz, h1, h2, h3, h4, h5⟩ := r
    refine ⟨c', fz, h1, h2, h3, h4, fun c => ?_⟩
    cases b with
    | true => cases c
    | false => exact h5 c
  | map es ck => exact r
  | mit mo since seen last => exact r
  | tok _ _ => exact r
  | ext _ => exact r
theorem weakO_cell (b : Bool) (o : (Ob X)) : isCell (weakO b o) = isCell o := by cases o <;> rfl
theorem weakO_not (b : Bool) {o : (Ob X)} (h : isCell o = false) : weakO b o = o := by cases o <;> first | rfl | cases h
theorem weak_ok {P : Program} {m0 m : Mp} {g0 : (G X)} {w0 w : World} {h : (Hp X)} {k lo hi : Nat} {ob : (Ob X)} (b : Bool) (hk : k < 1000000) (hat : h.at k = some ob) (hr : Rep P m h.at w) (hs : Stp g0 m0 w0 h.at m w lo hi) :
    (h.set k (some (weakO b ob))).at k = some (weakO b ob) ∧ Rep P m (h.set k (some (weakO b ob))).at w ∧ Stp g0 m0 w0 (h.set k (some (weakO b ob))).at m w lo hi := by
  have at' := fun j => Hp.at_set (h := h) (o := some (weakO b ob)) hk j
  have hne : ∀ j, (h.set k (some (weakO b ob))).at j ≠ none → h.at j ≠ none := fun j e => by
    rw [at'] at e
    split at e
    · rename_i hj; subst hj; rw [hat]; simp
    · exact e
  have hnc : ∀ j u, (h.set k (some (weakO b ob))).at j = some u → isCell u = false → h.at j = some u := fun j u e c => by
    rw [at'] at e
    split at e
    · rename_i hj
      cases e
      rw [weakO_cell] at c
      rw [weakO_not b c, hj]
      exact hat
    · exact e
  refine ⟨by rw [at', if_pos rfl], ⟨fun j u e ec => ?_, fun j j' b' y y' e e' => hr.inj j j' b' y y' (hne j e) (hne j' e'), fun j sz t b' n e => hr.tok j sz t b' n (hnc j _ e rfl), hr.kn, fun j u b' y e ec e1 => ?_, fun j y e => hr.ext j y (hnc j _ e rfl), fun j b' y e => hr.lt j b' y (hne j e),
      fun j y b' e e1 => let ⟨q1, q2, q3, q4⟩ := hr.ter j y b' (hnc j _ e rfl) e1; ⟨q1, q2, fun k' x' f => q3 k' x' (hne _ f), fun k' x' f => q4 k' x' (hnc k' _ f rfl)⟩⟩,
    ⟨hs.le, hs.new, fun j b' y e => hs.own j b' y (hne j e), fun j e => hs.dom j (hne j e), hs.keep, fun j y b' e => hs.ter j y b' (hnc j _ e rfl), hs.nter, hs.size, hs.os, hs.tape, hs.out⟩⟩
  · rw [at'] at e
    split at e
    · rename_i hj
      subst hj
      cases e
      rw [weakO_cell] at ec
      obtain ⟨b', y, f1, f2⟩ := hr.obj _ _ hat ec
      exact ⟨b', y, f1, f2.weak b⟩
    · exact hr.obj j u e ec
  · rw [at'] at e
    split at e
    · rename_i hj
      subst hj
      cases e
      rw [weakO_cell] at ec
      exact hr.apart _ _ b' y hat ec e1
    · exact hr.apart j u b' y e ec e1

/-- bytes are marked -/
theorem mark_ok {P : Program} {m : Mp} {g : (G X)} {w : World} (hr : Rep P m g w) {k b x : Nat} {cs : List Value} {t : TypeId} (hk : g k = some (.cells cs t false)) (hm : m k = some (b, x)) (off : Nat) :
    ∃ w', (markStringish ⟨b, off, none⟩).run P w = .ok () w' ∧ Rep P m g w' ∧ ∀ n, Stp g m w g m w' n n := by
  obtain ⟨c', fz, q1, q2, q3, q4, q5⟩ := hr.cellsF hk hm
  let w' : World := { w with heap := w.heap.setIfInBounds b (.cells c' t (c'.size, c'.size + 1)) }
  have hlt := hr.lt _ _ _ (by rw [hk]; simp) hm
  have hfz : w.freeze ⟨b, c'.size, none⟩ 1 = w' := by
    unfold World.freeze
    rw [if_neg (by decide)]
    show ({ w with heap := w.heap.modify b _ } : World) = _
    congr 1
    apply Array.ext_getElem?
    intro i
    simp only [Array.getElem?_modify, Array.getElem?_setIfInBounds]
    by_cases hib : b = i
    · subst hib
      have hgb : w.heap[b] = .cells c' t fz := (Array.getElem?_eq_some_iff.1 q1).2
      rcases q2 with rfl | rfl <;> simp [hlt, hgb]
    · simp [hib]
  have hsh : (markStringish ⟨b, off, none⟩).run P w = .ok () w' := by
    unfold markStringish
    have : w.shape? b = .some (t, c'.size) := by simp [World.shape?, q1]
    simp only [Sem.run_bind, Go.shape, Sem.run, this, Result.andThen_ok, Go.freeze, hfz]
  have hw'b : w'.heap[b]? = .some (.cells c' t (c'.size, c'.size + 1)) := by
    show (w.heap.setIfInBounds b _)[b]? = _
    rw [Array.getElem?_setIfInBounds, if_pos rfl, if_pos hlt]
  have hw'o : ∀ b', b' ≠ b → w'.heap[b']? = w.heap[b']? := fun b' e => by
    show (w.heap.setIfInBounds b _)[b']? = _
    rw [Array.getElem?_setIfInBounds, if_neg (fun c => e c.symm)]
  have hkn : ∀ b' q, m.kn b' = some q → b' ≠ b := fun b' q e c => by
    subst c
    rw [hr.apart k _ b' x hk rfl hm] at e; cases e
  have hws : w'.heap.size = w.heap.size := by show (w.heap.setIfInBounds b _).size = _; simp
  have hkne : g k ≠ none := by rw [hk]; simp
  refine ⟨w', hsh, ⟨fun k' u e ec => ?_, hr.inj, hr.tok, fun b' vs s t' e => ?_, hr.apart, fun k' y e => ?_, fun k' b' y e e1 => by rw [hws]; exact hr.lt k' b' y e e1, fun k' y b' e e1 => by rw [hws]; exact hr.ter k' y b' e e1⟩,
    fun n => ⟨m.le_refl, fun k e => absurd rfl e, fun k b' y e e1 => .inl ⟨k, y, e, e1⟩, fun k e => .inl e, fun b' hb hn _ => ⟨hw'o b' fun c => hn k x hkne (by rw [c]; exact hm), rfl⟩, fun k' y b' e e1 => .inl ⟨k', y, e, e1⟩, fun _ _ _ => rfl, by omega, rfl, rfl, rfl⟩⟩
  · obtain ⟨b', y, f1, f2⟩ := hr.obj k' u e ec
    refine ⟨b', y, f1, ?_⟩
    by_cases hb : b' = b
    · subst hb
      have := hr.inj k' k b' y x (by rw [e]; simp) hkne f1 hm
      subst this
      rw [hk] at e
      cases e
      rw [hm] at f1
      cases f1
      rw [hw'b]
      exact ⟨c', _, rfl, .inr rfl, q3, ⟨_, q4, rfl⟩, fun c => by cases c⟩
    · rw [hw'o b' hb]
      exact f2
  · obtain ⟨c2, fz2, f1, f2⟩ := hr.kn b' vs s t' e
    exact ⟨c2, fz2, by rw [hw'o b' (hkn b' _ e)]; exact f1, f2⟩
  · have hne : k' ≠ k := fun c => by rw [c, hk] at e; cases e
    obtain ⟨hp, f1, f2⟩ := hr.ext k' y e
    refine ⟨hp, f1, fun key r hkey => ?_⟩
    obtain ⟨g1, b', g2, g3⟩ := f2 key r hkey
    exact ⟨has_same g2 (hw'o b' (fun c => (hr.ter k' y b' e g3).2.2.1 k x hkne hne.symm (by rw [c]; exact hm))) g1, b', g2, g3⟩

theorem alone_at {i0 i : Nat} : ∀ {l : List Nat} {k : Nat}, alone i0 i k l = true → ∀ p mk, l[p]? = some mk → k + p ≠ i → mk.testBit i0 = true → mk.testBit i = true
  | [], k, h, p, mk, e, _, _ => by simp at e
  | x :: l, k, h, 0, mk, e, hne, hb => by
    simp only [alone, Bool.and_eq_true, Bool.or_eq_true, Bool.not_eq_true'] at h
    simp at e
    subst e
    rcases h.1 with (h1 | h1) | h1
    · exact absurd (Nat.eq_of_beq_eq_true h1) hne
    · rw [h1] at hb; cases hb
    · exact h1
  | x :: l, k, h, p + 1, mk, e, hne, hb => by
    simp only [alone, Bool.and_eq_true] at h
    exact alone_at h.2 p mk (by simpa using e) (by omega) hb

theorem markV_ok (ok : c.Ok) (I : Iv c D j m a w) (hi : c.L[i]? = some o) (hD : D i = false) (hm : ∀ i', (c.ms.getD i 0).testBit i' = true → D i' = true)
    {v : Value} (e : markV c.T c.base c.ms (c.R.take i) i (evL (looks c.L o) (envR c.L (c.R.take i) c.s.env)) o.op = some v) :
    ∃ v' w', RV m v v' ∧ (execOp a.eval o).run c.P w = .ok (.value v') w' ∧ Rep c.P m (c.S D j) w' ∧ Stp (c.S D j) m w (c.S D j) m w' (c.H j).nx (c.H j).nx := by
  have hev := I.evs ok hi hD hm
  obtain ⟨dst, op, ty, pos, af, gd⟩ := o
  unfold markV at e
  split at e
  · rename_i s d x heq
    have heq' : op = .convert s d x := heq
    subst heq'
    split at e
    · rename_i i1 e1 i2 e2 a0 n cc h1 h2 hx
      split at e
      · rename_i i3 cs t h3 hn
        cases hc : (Nat.beq s d && (Nat.ble c.base a0.block && ((c.ms.getD i 0).testBit (a0.block - c.base) && alone (a0.block - c.base) i 0 c.ms))) with
        | false => rw [hc] at e; cases e
        | true =>
          rw [hc] at e
          cases e
          simp only [Bool.and_eq_true] at hc
          obtain ⟨g1, g2, g3, g4⟩ := hc
          obtain rfl := Nat.eq_of_beq_eq_true g1
          have g2 := Nat.le_of_ble_eq_true g2
          obtain ⟨b, y, ha, hb, hmb⟩ := (hev _ _ hx).slice_inv
          have hD0 := hm _ g3
          have hnR : newAt c.R (a0.block - c.base) = some (.cells cs t false) := by
            unfold newAt at hn ⊢
            split at hn
            · rename_i v1 o1 hq
              have hlt : a0.block - c.base < i := by
                have := (List.getElem?_eq_some_iff.1 hq).1
                simp at this; omega
              rw [List.getElem?_take_of_lt hlt] at hq
              rw [hq]
              exact hn
            · cases hn
          have hnm : mgd c.ms (c.es.take j) (a0.block - c.base) = false := by
            cases hmg : mgd c.ms (c.es.take j) (a0.block - c.base) with
            | false => rfl
            | true =>
              unfold mgd at hmg
              rw [List.any_eq_true] at hmg
              obtain ⟨⟨e, h⟩, he, hbt⟩ := hmg
              obtain ⟨k, hk⟩ := List.getElem?_of_mem he
              have hkj : k < j := by
                have := (List.getElem?_eq_some_iff.1 hk).1
                simp at this; omega
              rw [List.getElem?_take_of_lt hkj] at hk
              have hDe := (I.pr k e h hk).2 hkj
              have hne : e ≠ i := fun c1 => by rw [c1, hD] at hDe; cases hDe
              have hbi : (c.ms.getD e 0).testBit i = true := by
                simp only at hbt
                rw [List.getD_eq_getElem?_getD] at hbt ⊢
                cases hq : c.ms[e]? with
                | none => rw [hq] at hbt; simp at hbt
                | some mk =>
                  rw [hq] at hbt
                  exact alone_at g4 e mk hq (by omega) hbt
              have := (I.cl e hDe).2 i hbi
              rw [hD] at this; cases this
          have hS : c.S D j a0.block = some (.cells cs t false) := by
            unfold Cx.S SD
            rw [if_pos ⟨g2, hD0, hnm⟩, hnR]
          obtain ⟨w', r1, r2, r3⟩ := mark_ok I.rep hS hmb a0.off
          refine ⟨.slice (some ⟨b, a0.off, none⟩) n (cc + y), w', ?_, ?_, r2, r3 _⟩
          · rw [ha]; exact .slice hmb
          · refine vwrap (s := convert s s (a.eval x)) ?_
            have hbeq : (s == s) = true := by simp
            have u2 := ok.hT.und h2
            simp only [convert, hb, Sem.run_bind, u2, Result.andThen_ok, hbeq, ok.hT.und h3, r1, Sem.run_pure]
      · cases e
    · cases e
  · cases e

theorem Iv.step (ok : c.Ok) (I : Iv c D j m a w) (hi : c.L[i]? = some o) (hD : D i = false) (hm : ∀ i', (c.ms.getD i 0).testBit i' = true → D i' = true) {Q : Exit → Act → World → Prop} (hQ : PanQ c Q D m a) :
    wpOp c.P c.L.toArray Q i (fun a' w' => ∃ j' m', Iv c (upd D i) j' m' a' w') a w := by
  obtain ⟨r, hr, hcnd⟩ := ok.cnd i o hi
  have hilt : i < c.L.length := (List.getElem?_eq_some_iff.1 hi).1
  have hlen : (c.R.take i).length = i := by rw [List.length_take, ok.len]; omega
  have hev := I.evs ok hi hD hm
  have hvals := I.vals ok hi hD hm
  have hoa : c.L.toArray[i]? = some o := by rw [List.getElem?_toArray]; exact hi
  -- the one that panics, and those behind it
  have hpanD : ∀ i1 ch h, c.pan = some (i1, ch, h) → (c.ms.getD i 0).testBit i1 = true → False := fun i1 ch h hp hb => by
    have := I.np i1 ch h hp
    rw [hm i1 hb] at this; cases this
  have hH0 : curH c.h0 (effL 0 (c.R.take i)) = HJ c.h0 c.es (effL 0 (c.R.take i)).length := by unfold HJ; rw [c.take_es i]
  -- effects
  have effs : ∀ (e : stepE c.T c.cal c.L c.s.env (c.ms.getD i 0) (c.R.take i) (c.B i j) o (evL (looks c.L o) (envR c.L (c.R.take i) c.s.env)) = some (.go r)) (hnp : ∀ i1 ch h, c.pan = some (i1, ch, h) → i1 ≠ i) (hjk : j = (effL 0 (c.R.take i)).length),
      o.wp c.P a w (fun a' w' => ∃ j' m', Iv c (upd D i) j' m' a' w') Q := by
    intro e hnp hjk
    have hBrep : Rep c.P m (c.B i j).at w := I.rep.less fun k u hu => I.B1 ok hm hu
    have hBnx := Iv.Bnx (i := i) (j := j) ok
    have hfr : ∀ k, (c.B i j).nx ≤ k → m k = none := fun k hk => I.fr1 k (by omega)
    have hBtop : ∀ k, (c.B i j).nx ≤ k → (c.B i j).at k = none := fun k hk => I.topB ok hm k (by omega)
    have hes : ∀ v h', r = .eff v h' → c.es[j]? = some (i, h') := by
      intro v h' hr'
      subst hr'
      have h1 : c.es = effL 0 (c.R.take i) ++ effL i (c.R.drop i) := by
        unfold Cx.es
        conv => lhs; rw [← List.take_append_drop i c.R]
        rw [effL_append, hlen, Nat.zero_add]
      have h2 : c.R.drop i = .eff v h' :: c.R.drop (i + 1) := by
        rw [List.drop_eq_getElem_cons (by rw [ok.len]; exact hilt)]
        congr 1
        have := (List.getElem?_eq_some_iff.1 hr).2
        exact this
      rw [h1, h2, hjk, List.getElem?_append_right (Nat.le_refl _)]
      simp [effL]
    unfold stepE at e
    split at e
    · rename_i v h' hx
      cases hro : readsOn c.T c.L c.s.env h' (c.ms.getD i 0) (c.R.take i) 0 (c.R.take i) with
      | false => rw [hro] at e; cases e
      | true =>
        rw [hro] at e
        cases e
        obtain ⟨v', w', m', h1, h2, h3, h4, h5⟩ := opx_ok ok.hT hBrep (hfr _ (Nat.le_refl _)) hev hx
        unfold Oper.wp
        rcases h1 with h1 | ⟨h1, rfl⟩
        · rw [h1]
          exact ⟨j + 1, m', I.eff ok hi hr (hes _ _ rfl) hD hm hnp h2 h3 h4 h5⟩
        · rw [h1]
          exact ⟨j + 1, m', I.eff ok hi hr (hes _ _ rfl) hD hm hnp h2 h3 h4 h5⟩
    · rename_i f args hx
      obtain ⟨args', h1, h2⟩ := opx_ok ok.hT hBrep (hfr _ (Nat.le_refl _)) hev hx
      split at e
      · rename_i v h' hcal
        cases hro : readsOn c.T c.L c.s.env h' (c.ms.getD i 0) (c.R.take i) 0 (c.R.take i) with
        | false => rw [hro] at e; cases e
        | true =>
          rw [hro] at e
          cases e
          obtain ⟨c1, c2⟩ := ok.hc _ _ _ _ hcal m w args' hBrep hfr hBtop h1
          unfold Oper.wp
          rw [h2, c1]
          refine c2.mono ?_
          rintro en w' ⟨m', v', rfl, r1, r2⟩
          exact ⟨j + 1, m', I.eff ok hi hr (hes _ _ rfl) hD hm hnp r1 r2.rep r2.stp r2.nx⟩
      · cases e
      · cases e
    · cases e
    · cases e
  have pans : ∀ ch h (e : stepE c.T c.cal c.L c.s.env (c.ms.getD i 0) (c.R.take i) (c.B i j) o (evL (looks c.L o) (envR c.L (c.R.take i) c.s.env)) = some (.panic ch h)) (hp : c.pan = some (i, ch, h)),
      o.wp c.P a w (fun a' w' => ∃ j' m', Iv c (upd D i) j' m' a' w') Q := by
    intro ch h e hp
    have hBrep : Rep c.P m (c.B i j).at w := I.rep.less fun k u hu => I.B1 ok hm hu
    have hBnx := Iv.Bnx (i := i) (j := j) ok
    have hfr : ∀ k, (c.B i j).nx ≤ k → m k = none := fun k hk => I.fr1 k (by omega)
    have hBtop : ∀ k, (c.B i j).nx ≤ k → (c.B i j).at k = none := fun k hk => I.topB ok hm k (by omega)
    have hI := I.nx
    have hBst : Stp c.s.hp.at c.m0 c.w0 (c.B i j).at m w c.base (c.B i j).nx := by
      rw [hBnx]
      exact I.stp.less fun k u hu => I.B1 ok hm hu
    unfold stepE at e
    split at e
    · revert e
      cases readsOn c.T c.L c.s.env _ (c.ms.getD i 0) (c.R.take i) 0 (c.R.take i) <;> intro e <;> cases e
    · rename_i f args hx
      obtain ⟨args', h1, h2⟩ := opx_ok ok.hT hBrep (hfr _ (Nat.le_refl _)) hev hx
      split at e
      · revert e
        cases readsOn c.T c.L c.s.env _ (c.ms.getD i 0) (c.R.take i) 0 (c.R.take i) <;> intro e <;> cases e
      · rename_i ch' h' hcal
        cases e
        obtain ⟨c1, c2⟩ := ok.hc _ _ _ _ hcal m w args' hBrep hfr hBtop h1
        unfold Oper.wp
        rw [h2, c1]
        refine c2.mono ?_
        rintro en w' ⟨m', c', rfl, r1, r2⟩
        exact hQ _ _ _ hp m' c' w' r1 r2.rep (hBst.trans r2.stp (by omega) r2.nx) r2.fresh r2.top (Nat.le_trans (show c.base ≤ (c.B i j).nx by omega) r2.nx) r2.stp.le
      · cases e
    · rename_i t v hx
      obtain ⟨v', h1, h2⟩ := opx_ok ok.hT hBrep (hfr _ (Nat.le_refl _)) hev hx
      cases e
      unfold Oper.wp
      rw [h2]
      exact hQ _ _ _ hp m _ w (.cons h1 .nil) hBrep hBst hfr hBtop (by omega) m.le_refl
    · cases e
  -- the steps
  rcases hcnd with ⟨hst, hnp⟩ | ⟨i1, ch, h, hp, hne, hc⟩
  · have hnp' : ∀ i1 ch h, c.pan = some (i1, ch, h) → i1 ≠ i := fun i1 ch h hp => (hnp i1 ch h hp).1
    unfold stepR at hst
    rw [hlen] at hst
    simp only at hst
    split at hst
    · cases hst
    · rename_i hw
      cases hst
      exact wpOp_of hoa (wantd_ok2 (fun k v h1 h2 => hvals k v h1 h2) hw) (fun c => by cases c) fun _ => ⟨j, m, I.val ok hi hr hD hm hnp' (.tuple .nil)⟩
    · rename_i hw
      refine wpOp_of hoa (wantd_ok2 (fun k v h1 h2 => hvals k v h1 h2) hw) (fun _ => ?_) (fun c => by cases c)
      split at hst
      · rename_i v hv
        cases hst
        obtain ⟨v', h1, h2⟩ := opv_ok ok.hT (Rep.empty I.rep 0) hev hv
        unfold Oper.wp
        rw [h2]
        exact ⟨j, m, I.val ok hi hr hD hm hnp' h1⟩
      · split at hst
        · rename_i v hv
          cases hrb : readsBack c.T (looks c.L o) (envR c.L (c.R.take i) c.s.env) o.op v (c.ms.getD i 0) c.h0 (effL 0 (c.R.take i)) with
          | false => rw [hrb] at hst; cases hst
          | true =>
            rw [hrb] at hst
            cases hst
            have hread : opv c.T (c.H j) (evL (looks c.L o) (envR c.L (c.R.take i) c.s.env)) o.op = some v := by
              rcases Nat.lt_or_ge (effL 0 (c.R.take i)).length j with hgt | hle
              · -- behind a later effect
                have hjl : j - 1 < c.es.length := by have := I.je; omega
                obtain ⟨⟨e, he'⟩, he⟩ : ∃ x, c.es[j - 1]? = some x := ⟨_, List.getElem?_eq_getElem hjl⟩
                have hDe := (I.pr _ e he' he).2 (by omega)
                have hmem : (e, he') ∈ effL i (c.R.drop i) := by
                  have h1 : c.es = effL 0 (c.R.take i) ++ effL i (c.R.drop i) := by
                    unfold Cx.es
                    conv => lhs; rw [← List.take_append_drop i c.R]
                    rw [effL_append, hlen, Nat.zero_add]
                  rw [h1, List.getElem?_append_right (by omega)] at he
                  exact List.mem_of_getElem? he
                obtain ⟨p, v1, g1, g2⟩ := effL_mem.1 hmem
                rw [List.getElem?_drop, ← g1] at g2
                have hne : e ≠ i := fun c1 => by rw [c1, hr] at g2; cases g2
                have hie : i < e := by omega
                have hel := (List.getElem?_eq_some_iff.1 g2).1
                rw [ok.len] at hel
                obtain ⟨oe, hoe⟩ : ∃ x, c.L[e]? = some x := ⟨_, List.getElem?_eq_getElem hel⟩
                obtain ⟨re, hre, hce⟩ := ok.cnd e oe hoe
                rw [g2] at hre
                cases hre
                have hle2 : (c.R.take e).length = e := by rw [List.length_take, ok.len]; omega
                have hon : readsOn c.T c.L c.s.env he' (c.ms.getD e 0) (c.R.take e) 0 (c.R.take e) = true := by
                  rcases hce with ⟨hst2, _⟩ | ⟨_, _, _, _, hn, _⟩
                  · have key : ∀ B ev, stepE c.T c.cal c.L c.s.env (c.ms.getD e 0) (c.R.take e) B oe ev = some (.go (.eff v1 he')) → readsOn c.T c.L c.s.env he' (c.ms.getD e 0) (c.R.take e) 0 (c.R.take e) = true := by
                      intro B ev hs
                      unfold stepE at hs
                      split at hs
                      · rename_i v2 h2 _
                        cases hro : readsOn c.T c.L c.s.env h2 (c.ms.getD e 0) (c.R.take e) 0 (c.R.take e) with
                        | false => rw [hro] at hs; cases hs
                        | true => rw [hro] at hs; cases hs; exact hro
                      · split at hs
                        · rename_i v2 h2 _
                          cases hro : readsOn c.T c.L c.s.env h2 (c.ms.getD e 0) (c.R.take e) 0 (c.R.take e) with
                          | false => rw [hro] at hs; cases hs
                          | true => rw [hro] at hs; cases hs; exact hro
                        · cases hs
                        · cases hs
                      · cases hs
                      · cases hs
                    unfold stepR at hst2
                    rw [hle2] at hst2
                    simp only at hst2
                    split at hst2
                    · cases hst2
                    · cases hst2
                    · split at hst2
                      · cases hst2
                      · split at hst2
                        · revert hst2
                          cases readsBack c.T (looks c.L oe) (envR c.L (c.R.take e) c.s.env) oe.op _ (c.ms.getD e 0) c.h0 (effL 0 (c.R.take e)) <;> intro hst2 <;> cases hst2
                        · split at hst2
                          · cases hst2
                          split at hst2
                          · split at hst2
                            · rename_i h2 _ _ _ _
                              revert hst2
                              cases Nat.beq h2.nx (c.base + e + 1) <;> intro hst2 <;> cases hst2
                            · cases hst2
                          · revert hst2
                            cases (effL 0 (c.R.take e)).all (fun x => (c.ms.getD e 0).testBit x.1) <;> intro hst2
                            · cases hst2
                            · exact key _ _ hst2
                  · cases hn
                have hri : (c.R.take e)[i]? = some (.val v true) := by rw [List.getElem?_take_of_lt hie]; exact hr
                rcases readsOn_at hon i v hri with hb | ⟨o2, ho2, hrd⟩
                · rw [Nat.zero_add] at hb
                  have := (I.cl e hDe).2 i hb
                  rw [hD] at this; cases this
                · rw [Nat.zero_add] at ho2 hrd
                  rw [hi] at ho2
                  cases ho2
                  rw [List.take_take, Nat.min_eq_left (by omega)] at hrd
                  have hHj : c.H j = he' := by
                    unfold Cx.H HJ
                    have : c.es.take j = c.es.take (j - 1) ++ [(e, he')] := by
                      conv => lhs; rw [show j = j - 1 + 1 by omega]
                      rw [List.take_add_one, he]; rfl
                    rw [this, curH_append]
                  rw [hHj]
                  exact reads_some hrd
              · have hcond : ∀ e h, (effL 0 (c.R.take i))[j]? = some (e, h) → (c.ms.getD i 0).testBit e = false := by
                  intro e h he
                  rw [← c.take_es i] at he
                  have hjl := (List.getElem?_eq_some_iff.1 he).1
                  rw [c.take_es i] at hjl
                  rw [List.getElem?_take_of_lt hjl] at he
                  cases hb : (c.ms.getD i 0).testBit e with
                  | false => rfl
                  | true =>
                    have := (I.pr j e h he).1 (hm e hb)
                    omega
                have := readsBack_at hrb j hle hcond
                have hHj : c.H j = curH c.h0 ((effL 0 (c.R.take i)).take j) := by
                  unfold Cx.H HJ
                  rw [← c.take_es i, List.take_take, Nat.min_eq_left hle]
                rw [hHj]
                exact reads_some this
            obtain ⟨v', h1, h2⟩ := opv_ok ok.hT I.repH hev hread
            unfold Oper.wp
            rw [h2]
            exact ⟨j, m, I.val ok hi hr hD hm hnp' h1⟩
        · split at hst
          · rename_i v hmk
            cases hst
            obtain ⟨v', w', h1, h2, h3, h4⟩ := markV_ok ok I hi hD hm hmk
            unfold Oper.wp
            rw [h2]
            exact ⟨j, m, I.mark ok hi hr hD hm hnp' h1 h3 h4⟩
          split at hst
          · rename_i v h1 hx
            split at hst
            · rename_i ob hat
              cases hb : Nat.beq h1.nx (c.base + i + 1) with
              | false => rw [hb] at hst; cases hst
              | true =>
                rw [hb] at hst
                cases hst
                have hb' := Nat.eq_of_beq_eq_true hb
                obtain ⟨v', w', m', q1, q2, q3, q4, q5⟩ := opx_ok ok.hT (Rep.empty I.rep (c.base + i)) (I.fr2 i hilt hD) hev hx
                rw [hb'] at q4
                obtain ⟨x1, x2, x3⟩ := weak_ok (toConv c.L o.dst) (by have := ok.sm; omega) hat q3 q4
                unfold Oper.wp
                rcases q1 with q1 | ⟨q1, rfl⟩
                · rw [q1]
                  exact ⟨j, m', I.newo ok hi hr hD hm hnp' x1 q2 x2 x3⟩
                · rw [q1]
                  exact ⟨j, m', I.newo ok hi hr hD hm hnp' x1 q2 x2 x3⟩
            · cases hst
          · cases hch : (effL 0 (c.R.take i)).all (fun x => (c.ms.getD i 0).testBit x.1) with
            | false => rw [hch] at hst; cases hst
            | true =>
              rw [hch, cond_true] at hst
              have hjk : j = (effL 0 (c.R.take i)).length := by
                refine I.len_eq ok hi hD hm hch fun e h he => ?_
                have h1 : c.es = effL 0 (c.R.take i) ++ effL i (c.R.drop i) := by
                  unfold Cx.es
                  conv => lhs; rw [← List.take_append_drop i c.R]
                  rw [effL_append, hlen, Nat.zero_add]
                -- what came to 'go' here is the effect
                have hre : ∃ v h', r = .eff v h' := by
                  unfold stepE at hst
                  split at hst
                  · revert hst
                    cases readsOn c.T c.L c.s.env _ (c.ms.getD i 0) (c.R.take i) 0 (c.R.take i) <;> intro hst
                    · cases hst
                    · cases hst; exact ⟨_, _, rfl⟩
                  · split at hst
                    · revert hst
                      cases readsOn c.T c.L c.s.env _ (c.ms.getD i 0) (c.R.take i) 0 (c.R.take i) <;> intro hst
                      · cases hst
                      · cases hst; exact ⟨_, _, rfl⟩
                    · cases hst
                    · cases hst
                  · cases hst
                  · cases hst
                obtain ⟨v, h', rfl⟩ := hre
                have h2 : c.R.drop i = .eff v h' :: c.R.drop (i + 1) := by
                  rw [List.drop_eq_getElem_cons (by rw [ok.len]; exact hilt)]
                  congr 1
                  exact (List.getElem?_eq_some_iff.1 hr).2
                rw [h1, h2, List.getElem?_append_right (Nat.le_refl _)] at he
                simp [effL] at he
                rw [← he.1]
                exact hD
              refine effs ?_ hnp' hjk
              rw [← hst]
              unfold Cx.B Cx.H
              rw [hH0, hjk, c.take_es i]
  · rcases hc with ⟨rfl, hst⟩ | hb
    · -- the one that panics
      unfold stepR at hst
      rw [hlen] at hst
      simp only at hst
      split at hst
      · cases hst
      · cases hst
      · rename_i hw
        refine wpOp_of hoa (wantd_ok2 (fun k v h1 h2 => hvals k v h1 h2) hw) (fun _ => ?_) (fun c => by cases c)
        split at hst
        · cases hst
        · split at hst
          · revert hst
            cases readsBack c.T (looks c.L o) (envR c.L (c.R.take i) c.s.env) o.op _ (c.ms.getD i 0) c.h0 (effL 0 (c.R.take i)) <;> intro hst <;> cases hst
          · split at hst
            · cases hst
            split at hst
            · split at hst
              · rename_i h2 _ _ _ _
                revert hst
                cases Nat.beq h2.nx (c.base + i + 1) <;> intro hst <;> cases hst
              · cases hst
            · cases hch : (effL 0 (c.R.take i)).all (fun x => (c.ms.getD i 0).testBit x.1) with
              | false => rw [hch] at hst; cases hst
              | true =>
                rw [hch, cond_true] at hst
                have hjk : j = (effL 0 (c.R.take i)).length := by
                  refine I.len_eq ok hi hD hm hch fun e h' he => ?_
                  -- behind it there is no effect
                  have h1 : c.es = effL 0 (c.R.take i) ++ effL i (c.R.drop i) := by
                    unfold Cx.es
                    conv => lhs; rw [← List.take_append_drop i c.R]
                    rw [effL_append, hlen, Nat.zero_add]
                  rw [h1, List.getElem?_append_right (Nat.le_refl _)] at he
                  obtain ⟨p, v1, g1, g2⟩ := effL_mem.1 (List.mem_of_getElem? he)
                  rw [List.getElem?_drop, ← g1] at g2
                  exfalso
                  have hel := (List.getElem?_eq_some_iff.1 g2).1
                  rw [ok.len] at hel
                  obtain ⟨oe, hoe⟩ : ∃ x, c.L[e]? = some x := ⟨_, List.getElem?_eq_getElem hel⟩
                  obtain ⟨re, hre, hce⟩ := ok.cnd e oe hoe
                  rw [g2] at hre
                  cases hre
                  rcases hce with ⟨_, hnn⟩ | ⟨_, _, _, _, hn, _⟩
                  · have := hnn _ _ _ hp
                    have h5 := this.2 (by omega)
                    cases h5
                  · cases hn
                refine pans ch h ?_ hp
                rw [← hst]
                unfold Cx.B Cx.H
                rw [hH0, hjk, c.take_es i]
    · exact (hpanD i1 ch h hp hb).elim
end
end Go.Ev
