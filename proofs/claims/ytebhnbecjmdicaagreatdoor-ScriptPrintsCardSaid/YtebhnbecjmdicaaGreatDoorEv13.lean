/-
  A run reckoned out: a region whose order is open comes to what the function says, whatever order is drawn.
-/
import Derived.Test.YtebhnbecjmdicaaGreatDoorEv12
namespace Go.Ev
set_option linter.unusedVariables false
set_option linter.unusedSimpArgs false
set_option linter.unusedSectionVars false
variable {X : Type} [ExtA X]

theorem Rep.empty {P : Program} {m : Mp} {g : (G X)} {w : World} (h : Rep P m g w) (k : Nat) : Rep P m (emp k : Hp X).at w := h.less fun k o e => by cases e
theorem Stp.less {g g' g'' : (G X)} {m m' : Mp} {w w' : World} {lo hi : Nat} (s : Stp g m w g' m' w' lo hi) (hs : ∀ k o, g'' k = some o → g' k = some o) : Stp g m w g'' m' w' lo hi :=
  have h : ∀ k, g'' k ≠ none → g' k ≠ none := fun k e => by
    obtain ⟨o, ho⟩ := Option.ne_none_iff_exists'.1 e
    rw [hs k o ho]; simp
  ⟨s.le, s.new, fun k b x e => s.own k b x (h k e), fun k e => s.dom k (h k e), s.keep, fun k x b e => s.ter k x b (hs _ _ e), s.nter, s.size, s.os, s.tape, s.out⟩
theorem Stp.trans2 {g : (G X)} {m : Mp} {w : World} {g1 : (G X)} {m1 : Mp} {w1 : World} {g2 : (G X)} {m2 : Mp} {w2 : World} {a b c d e : Nat}
    (h : Stp g m w g1 m1 w1 a b) (h' : Stp g1 m1 w1 g2 m2 w2 c d) (hac : a ≤ c) (hbe : b ≤ e) (hde : d ≤ e) : Stp g m w g2 m2 w2 a e where
  le := Mp.le_trans h.le h'.le
  new := fun k x => by
    by_cases e1 : m1 k = m k
    · have := h'.new k (by rw [e1]; exact x); omega
    · have := h.new k e1; omega
  own := fun k b' x e1 e2 => by
    rcases h'.own k b' x e1 e2 with ⟨k0, x0, f1, f2⟩ | f
    · rcases h.own k0 b' x0 f1 f2 with r | r
      · exact .inl r
      · exact .inr r
    · exact .inr (Nat.le_trans h.size f)
  dom := fun k x => by
    rcases h'.dom k x with x | x
    · rcases h.dom k x with x | x
      · exact .inl x
      · exact .inr ⟨x.1, by omega⟩
    · exact .inr ⟨by omega, by omega⟩
  keep := fun b' e1 e2 e3 => by
    obtain ⟨q1, q2⟩ := h.keep b' e1 e2 e3
    obtain ⟨q3, q4⟩ := h'.keep b' (Nat.lt_of_lt_of_le e1 h.size) (by
      intro k x f1 f2
      rcases h.own k b' x f1 f2 with ⟨k0, x0, r1, r2⟩ | r
      · exact e2 k0 x0 r1 r2
      · omega) (by
      intro k x f1 f2
      rcases h.ter k x b' f1 f2 with ⟨k0, x0, r1, r2⟩ | r
      · exact e3 k0 x0 r1 r2
      · omega)
    exact ⟨q3.trans q1, q4.trans q2⟩
  ter := fun k x b' e1 e2 => by
    rcases h'.ter k x b' e1 e2 with ⟨k0, x0, f1, f2⟩ | f
    · rcases h.ter k0 x0 b' f1 f2 with r | r
      · exact .inl r
      · exact .inr r
    · exact .inr (Nat.le_trans h.size f)
  nter := fun k e1 e2 => by
    have : g1 k = none := by
      cases hg : g1 k with
      | none => rfl
      | some o =>
        rcases h.dom k (by rw [hg]; simp) with c | c
        · exact absurd e1 c
        · omega
    exact (h'.nter k this (by omega)).trans (h.nter k e1 (by omega))
  size := Nat.le_trans h.size h'.size
  os := h'.os.trans h.os
  tape := h'.tape.trans h.tape
  out := h'.out.trans h.out
/-- a step beside objects that it doesn't know of -/
theorem Stp.beside {g g' r G1 : (G X)} {m m' : Mp} {w w' : World} {lo hi : Nat} (s : Stp g m w g' m' w' lo hi) (hr : ∀ k o, r k = some o → G1 k = some o ∧ g k = none ∧ (k < lo ∨ hi ≤ k)) (hg : ∀ k o, g k = some o → G1 k = some o) :
    Stp G1 m w (fun k => match r k with | some o => some o | none => g' k) m' w' lo hi where
  le := s.le
  new := s.new
  own := fun k b x e1 e2 => by
    cases hk : r k with
    | some o =>
      obtain ⟨h1, h2, h3⟩ := hr k o hk
      have hm : m' k = m k := by
        rcases Decidable.em (m' k = m k) with c | c
        · exact c
        · have := s.new k c; omega
      rw [hm] at e2
      exact .inl ⟨k, x, by rw [h1]; simp, e2⟩
    | none =>
      simp only [hk] at e1
      rcases s.own k b x e1 e2 with ⟨k0, x0, f1, f2⟩ | f
      · obtain ⟨o, ho⟩ := Option.ne_none_iff_exists'.1 f1
        exact .inl ⟨k0, x0, by rw [hg k0 o ho]; simp, f2⟩
      · exact .inr f
  dom := fun k e => by
    cases hk : r k with
    | some o => exact .inl (by rw [(hr k o hk).1]; simp)
    | none =>
      simp only [hk] at e
      refine (s.dom k e).imp (fun f => ?_) id
      obtain ⟨o, ho⟩ := Option.ne_none_iff_exists'.1 f
      rw [hg k o ho]; simp
  keep := fun b h1 h2 h3 => s.keep b h1 (fun k x e => by
    obtain ⟨o, ho⟩ := Option.ne_none_iff_exists'.1 e
    exact h2 k x (by rw [hg k o ho]; simp)) (fun k x e => h3 k x (hg _ _ e))
  ter := fun k x b e1 e2 => by
    cases hk : r k with
    | some o =>
      obtain ⟨h1, h2, h3⟩ := hr k o hk
      simp only [hk] at e1
      rw [e1] at h1
      rw [s.nter k h2 h3] at e2
      exact .inl ⟨k, x, h1, e2⟩
    | none =>
      simp only [hk] at e1
      rcases s.ter k x b e1 e2 with ⟨k0, x0, f1, f2⟩ | f
      · exact .inl ⟨k0, x0, hg _ _ f1, f2⟩
      · exact .inr f
  nter := fun k e1 e2 => s.nter k (by
    cases hgk : g k with
    | none => rfl
    | some o => rw [hg k o hgk] at e1; cases e1) e2
  size := s.size
  os := s.os
  tape := s.tape
  out := s.out

theorem readsBack_at {T : Tb} {ls : List Tmp} {env : Tr Value} {op : Op} {v : Value} {m : Nat} : ∀ {l : List (Nat × (Hp X))} {h0 : (Hp X)}, readsBack T ls env op v m h0 l = true → ∀ j, j ≤ l.length → (∀ e h, l[j]? = some (e, h) → m.testBit e = false) → reads T (curH h0 (l.take j)) ls env op v = true
  | [], h0, h, j, hj, hm => by
    have : j = 0 := by simpa using hj
    subst this
    exact h
  | (e, h1) :: l, h0, h, j, hj, hm => by
    unfold readsBack at h
    simp only [Bool.and_eq_true, Bool.or_eq_true] at h
    cases j with
    | zero =>
      have := hm e h1 rfl
      rcases h.1 with c | c
      · rw [this] at c; cases c
      · exact c
    | succ j =>
      rw [List.take_succ_cons]
      exact readsBack_at h.2 j (by simpa using hj) (fun e' h' he => hm e' h' (by simpa using he))
theorem readsOn_at {T : Tb} {ops : List Oper} {env0 : Tr Value} {h : (Hp X)} {m : Nat} {R : List (Rc X)} : ∀ {l : List (Rc X)} {i : Nat}, readsOn T ops env0 h m R i l = true → ∀ p v, l[p]? = some (.val v true) → m.testBit (i + p) = true ∨ ∃ o, ops[i + p]? = some o ∧ reads T h (looks ops o) (envR ops (R.take (i + p)) env0) o.op v = true
  | [], i, hh, p, v, hp => by simp at hp
  | r :: l, i, hh, p, v, hp => by
    cases p with
    | zero =>
      simp only [List.getElem?_cons_zero, Option.some.injEq] at hp
      subst hp
      unfold readsOn at hh
      simp only [Bool.and_eq_true, Bool.or_eq_true] at hh
      refine hh.1.imp id fun c => ?_
      split at c
      · rename_i o ho; exact ⟨o, ho, c⟩
      · cases c
    | succ p =>
      have e1 : i + (p + 1) = i + 1 + p := by omega
      rw [e1]
      have hl : readsOn T ops env0 h m R (i + 1) l = true := by
        unfold readsOn at hh
        split at hh
        · simp_all
        · simp only [Bool.and_eq_true] at hh; simp_all
        · simp_all
      exact readsOn_at hl p v (by simpa using hp)
theorem reads_some {T : Tb} {h : (Hp X)} {ls : List Tmp} {env : Tr Value} {op : Op} {v : Value} (e : reads T h ls env op v = true) : opv T h (evL ls env) op = some v := by
  unfold reads at e
  split at e
  · rename_i u hu; rw [hu, same_eq e]
  · cases e

theorem wantd_ok2 {m : Mp} {a : Act} {env : Tr Value} {ops : List Oper} {o : Oper} {want : Bool} (hv : ∀ k v, k ∈ looks ops o → env.get k = some v → RV m v (a.tmps.getD k undef)) (e : wantd ops env o = some want) : Region.wanted o (yielded ops.toArray a.tmps) = want := by
  unfold wantd at e
  unfold Region.wanted
  split at e
  · rename_i hg
    cases e
    rw [hg]
  · rename_i j wt hg
    rw [hg]
    split at e
    · rename_i t ht
      split at e
      · rename_i bb hb
        cases e
        have hr := (hv t _ (by unfold looks; rw [hg]; simp [ht]) hb).bool_inv
        have hy : yielded ops.toArray a.tmps j = some bb := by
          unfold yielded
          have : (ops.toArray[j]?).bind (·.dst) = some t := by
            unfold dstOf at ht
            split at ht
            · rename_i o' ho'
              rw [List.getElem?_toArray, ho']
              exact ht
            · cases ht
          rw [this]
          simp only [Option.bind_some]
          rw [Array.getD_eq_getD_getElem?] at hr
          cases hc : a.tmps[t]? with
          | none => rw [hc] at hr; cases hr
          | some u => rw [hc] at hr; simp at hr; rw [hr]
        simp only [hy]
        cases bb <;> cases wt <;> rfl
      · rename_i cs hb
        cases e
        obtain ⟨cs', hr, _⟩ := (hv t _ (by unfold looks; rw [hg]; simp [ht]) hb).tuple_inv
        have hy : yielded ops.toArray a.tmps j = none := by
          unfold yielded
          have : (ops.toArray[j]?).bind (·.dst) = some t := by
            unfold dstOf at ht
            split at ht
            · rename_i o' ho'
              rw [List.getElem?_toArray, ho']
              exact ht
            · cases ht
          rw [this]
          simp only [Option.bind_some]
          rw [Array.getD_eq_getD_getElem?] at hr
          cases hc : a.tmps[t]? with
          | none => rfl
          | some u => rw [hc] at hr; simp at hr; rw [hr]
        simp only [hy]
        rfl
      · cases e
    · cases e

theorem wpOp_of {P : Program} {ops : Array Oper} {Q : Exit → Act → World → Prop} {i : Nat} {o : Oper} {K : Act → World → Prop} {a : Act} {w : World} (hi : ops[i]? = some o) {want : Bool} (hw : Region.wanted o (yielded ops a.tmps) = want)
    (h1 : want = true → o.wp P a w K Q) (h2 : want = false → K (a.put o.dst undef) w) : wpOp P ops Q i K a w := by
  unfold wpOp
  simp only [hi, hw]
  cases want with
  | true => exact .inl (h1 rfl)
  | false => exact h2 rfl

noncomputable def HJ (h0 : (Hp X)) (es : List (Nat × (Hp X))) (j : Nat) : (Hp X) := curH h0 (es.take j)
/-- memory behind these operations -/
noncomputable def SD (ms : List Nat) (base : Nat) (R : List (Rc X)) (h0 : (Hp X)) (es : List (Nat × (Hp X))) (D : Nat → Bool) (j : Nat) : (G X) := fun k =>
  if base ≤ k ∧ D (k - base) = true ∧ mgd ms (es.take j) (k - base) = false then (match newAt R (k - base) with
    | some o => some o
    | none => (HJ h0 es j).at k) else (HJ h0 es j).at k

structure Cx (X : Type) where
  P : Program
  T : Tb
  cal : (Cal X)
  L : List Oper
  ms : List Nat
  s : (St X)
  m0 : Mp
  w0 : World
  R : List (Rc X)
  pan : (Pan X)
noncomputable def Cx.base (c : (Cx X)) : Nat := c.s.hp.nx
noncomputable def Cx.h0 (c : (Cx X)) : (Hp X) := ⟨c.s.hp.t, c.base + c.L.length⟩
noncomputable def Cx.es (c : (Cx X)) : List (Nat × (Hp X)) := effL 0 c.R
noncomputable def Cx.H (c : (Cx X)) (j : Nat) : (Hp X) := HJ c.h0 c.es j
noncomputable def Cx.S (c : (Cx X)) (D : Nat → Bool) (j : Nat) : (G X) := SD c.ms c.base c.R c.h0 c.es D j
structure Cx.Ok (c : (Cx X)) : Prop where
  hT : TbOk c.P c.T
  hc : CalOk c.P c.cal
  sta : Sta c.L c.ms
  dok : DOk c.L
  dn : ∀ (i : Nat) (o : Oper) (d : Nat), c.L[i]? = some o → o.dst = some d → d < c.s.n
  sm : c.base + c.L.length < 1000000
  top : ∀ k, c.base ≤ k → c.s.hp.at k = none
  len : c.R.length = c.L.length
  cnd : ∀ (j : Nat) (o : Oper), c.L[j]? = some o → ∃ r, c.R[j]? = some r ∧ Cnd c.T c.cal c.base c.L c.ms c.h0 c.s.env c.R c.pan j o r

structure Iv (c : (Cx X)) (D : Nat → Bool) (j : Nat) (m : Mp) (a : Act) (w : World) : Prop where
  cl : ∀ i, D i = true → i < c.L.length ∧ ∀ i', (c.ms.getD i 0).testBit i' = true → D i' = true
  je : j ≤ c.es.length
  pr : ∀ (k e : Nat) (h : (Hp X)), c.es[k]? = some (e, h) → (D e = true ↔ k < j)
  np : ∀ i ch h, c.pan = some (i, ch, h) → D i = false
  sz : a.tmps.size = c.s.n
  ds : RDs m c.s.ds a.defers
  ev1 : ∀ (i : Nat) (o : Oper) (r : (Rc X)) (t : Nat), c.L[i]? = some o → c.R[i]? = some r → D i = true → o.dst = some t → RV m r.v (a.tmps.getD t undef)
  ev2 : ∀ (t : Nat) (v : Value), (∀ (i : Nat) (o : Oper), c.L[i]? = some o → D i = true → o.dst ≠ some t) → c.s.env.get t = some v → RV m v (a.tmps.getD t undef)
  rep : Rep c.P m (c.S D j) w
  own : ∀ i, i < c.L.length → (c.H j).at (c.base + i) ≠ none → mgd c.ms (c.es.take j) i = true
  fr1 : ∀ k, (c.H j).nx ≤ k → m k = none
  fr2 : ∀ i, i < c.L.length → D i = false → m (c.base + i) = none
  nx : c.base + c.L.length ≤ (c.H j).nx
  stp : Stp c.s.hp.at c.m0 c.w0 (c.S D j) m w c.base (c.H j).nx

noncomputable def upd (D : Nat → Bool) (i : Nat) : Nat → Bool := fun k => decide (k = i) || D k
theorem upd_iff {D : Nat → Bool} {i k : Nat} : upd D i k = true ↔ k = i ∨ D k = true := by simp [upd]
theorem upd_ne {D : Nat → Bool} {i k : Nat} (h : k ≠ i) : upd D i k = D k := by simp [upd, h]

section
variable {c : (Cx X)} {D : Nat → Bool} {j i : Nat} {m m' : Mp} {a : Act} {w w' : World} {o : Oper} {r : (Rc X)} {v' : Value}

/-- what is in the memory behind the effects is there -/
theorem Iv.sub (I : Iv c D j m a w) {k : Nat} {u : (Ob X)} (h : (c.H j).at k = some u) : c.S D j k = some u := by
  unfold Cx.S SD
  split
  · rename_i hh
    obtain ⟨h1, h2, h3⟩ := hh
    have hlt := (I.cl _ h2).1
    have := I.own (k - c.base) hlt (by rw [show c.base + (k - c.base) = k by omega, h]; simp)
    rw [this] at h3
    cases h3
  · exact h
/-- what has not come yet is not there -/
theorem Iv.notYet {i : Nat} (I : Iv c D j m a w) (hi : i < c.L.length) (hD : D i = false) {u : (Ob X)} (h : c.S D j (c.base + i) = some u) : False := by
  unfold Cx.S SD at h
  rw [if_neg (fun x => by have := x.2.1; rw [Nat.add_sub_cancel_left, hD] at this; cases this)] at h
  have hmg := I.own i hi (by show (HJ c.h0 c.es j).at (c.base + i) ≠ none; rw [h]; simp)
  unfold mgd at hmg
  rw [List.any_eq_true] at hmg
  obtain ⟨⟨e, he⟩, h1, h2⟩ := hmg
  obtain ⟨k, hk⟩ := List.getElem?_of_mem h1
  have hkj : k < j := by
    have := (List.getElem?_eq_some_iff.1 hk).1
    rw [List.length_take] at this
    omega
  rw [List.getElem?_take_of_lt hkj] at hk
  have hDe := (I.pr k e he hk).2 hkj
  rw [(I.cl e hDe).2 i h2] at hD
  cases hD
theorem Iv.repH (I : Iv c D j m a w) : Rep c.P m (c.H j).at w := I.rep.less fun k o e => I.sub e

theorem Iv.vals (ok : c.Ok) (I : Iv c D j m a w) (hi : c.L[i]? = some o) (hD : D i = false) (hm : ∀ i', (c.ms.getD i 0).testBit i' = true → D i' = true) :
    ∀ t v, t ∈ looks c.L o → (envR c.L (c.R.take i) c.s.env).get t = some v → RV m v (a.tmps.getD t undef) := by
  intro t v ht hv
  have hilt : i < c.L.length := (List.getElem?_eq_some_iff.1 hi).1
  rcases envR_get ok.dok hv with ⟨i1, o1, r1, h1, h2, h3, rfl⟩ | ⟨h1, h2⟩
  · have hlt : i1 < i := by
      have := (List.getElem?_eq_some_iff.1 h2).1
      simp at this; omega
    rw [List.getElem?_take_of_lt hlt] at h2
    have hD1 : D i1 = true := by
      rcases ok.sta.ord i1 i o1 o hlt h1 hi with g | ⟨g, _⟩
      · exact hm _ g
      · exact absurd ht (g t h3)
    exact I.ev1 i1 o1 r1 t h1 h2 hD1 h3
  · refine I.ev2 t v (fun i1 o1 g1 g2 g3 => ?_) h2
    have hne : i1 ≠ i := fun e => by subst e; rw [hD] at g2; cases g2
    rcases Nat.lt_or_gt_of_ne hne with hlt | hgt
    · have hi1 : i1 < c.L.length := (List.getElem?_eq_some_iff.1 g1).1
      have hr : (c.R.take i)[i1]? = some (c.R[i1]'(by rw [ok.len]; exact hi1)) := by
        rw [List.getElem?_take_of_lt hlt]; simp
      exact h1 i1 o1 _ g1 hr g3
    · rcases ok.sta.ord i i1 o o1 hgt hi g1 with g | ⟨_, g⟩
      · have := (I.cl i1 g2).2 i g
        rw [hD] at this; cases this
      · exact g t g3 ht
theorem Iv.evs (ok : c.Ok) (I : Iv c D j m a w) (hi : c.L[i]? = some o) (hD : D i = false) (hm : ∀ i', (c.ms.getD i 0).testBit i' = true → D i' = true) :
    Evs m (evL (looks c.L o) (envR c.L (c.R.take i) c.s.env)) a.eval := by
  intro x v e
  cases x with
  | tmp k =>
    simp only [evL] at e
    cases hk : (looks c.L o).contains k with
    | false => rw [hk] at e; cases e
    | true =>
      rw [hk] at e
      exact I.vals ok hi hD hm k v (by simpa using hk) e
  | const u =>
    simp only [evL, evO] at e
    cases hp : plain u with
    | true => rw [hp] at e; cases e; exact RV.plain hp
    | false => rw [hp] at e; cases e
  | global g => cases e
  | func f => cases e; exact .func .nil .nil

theorem Iv.putv (ok : c.Ok) (I : Iv c D j m a w) (hi : c.L[i]? = some o) (hr : c.R[i]? = some r) (hle : m.le m') (hv : RV m' r.v v') :
    (a.put o.dst v').tmps.size = c.s.n ∧ RDs m' c.s.ds (a.put o.dst v').defers ∧
    (∀ (i1 : Nat) (o1 : Oper) (r1 : (Rc X)) (t : Nat), c.L[i1]? = some o1 → c.R[i1]? = some r1 → upd D i i1 = true → o1.dst = some t → RV m' r1.v ((a.put o.dst v').tmps.getD t undef)) ∧
    (∀ (t : Nat) (v : Value), (∀ (i1 : Nat) (o1 : Oper), c.L[i1]? = some o1 → upd D i i1 = true → o1.dst ≠ some t) → c.s.env.get t = some v → RV m' v ((a.put o.dst v').tmps.getD t undef)) := by
  have hds : RDs m' c.s.ds (a.put o.dst v').defers := by
    have := I.ds.mono hle
    cases o.dst <;> exact this
  cases hdst : o.dst with
  | none =>
    rw [hdst] at hds
    refine ⟨I.sz, hds, fun i1 o1 r1 t h1 h2 h3 h4 => ?_, fun t v h1 h2 => ?_⟩
    · rcases upd_iff.1 h3 with rfl | h3
      · rw [hi] at h1; cases h1; rw [hdst] at h4; cases h4
      · exact (I.ev1 i1 o1 r1 t h1 h2 h3 h4).mono hle
    · exact (I.ev2 t v (fun i1 o1 g1 g2 => h1 i1 o1 g1 (upd_iff.2 (.inr g2))) h2).mono hle
  | some d =>
    rw [hdst] at hds
    have hd : d < a.tmps.size := by rw [I.sz]; exact ok.dn i o d hi hdst
    refine ⟨by simp [Act.put, I.sz], hds, fun i1 o1 r1 t h1 h2 h3 h4 => ?_, fun t v h1 h2 => ?_⟩
    · show RV m' r1.v ((a.tmps.setIfInBounds d v').getD t undef)
      rw [getD_put hd]
      by_cases htd : t = d
      · rw [if_pos htd]
        subst htd
        have : i1 = i := by
          rcases Nat.lt_trichotomy i1 i with g | g | g
          · exact absurd hdst (ok.sta.dst i1 i o1 o g h1 hi t h4)
          · exact g
          · exact absurd h4 (ok.sta.dst i i1 o o1 g hi h1 t hdst)
        subst this
        rw [hr] at h2
        cases h2
        exact hv
      · rw [if_neg htd]
        rcases upd_iff.1 h3 with rfl | h3
        · rw [hi] at h1; cases h1; rw [hdst] at h4; cases h4; exact absurd rfl htd
        · exact (I.ev1 i1 o1 r1 t h1 h2 h3 h4).mono hle
    · show RV m' v ((a.tmps.setIfInBounds d v').getD t undef)
      rw [getD_put hd]
      by_cases htd : t = d
      · subst htd
        exact absurd hdst (h1 i o hi (upd_iff.2 (.inl rfl)))
      · rw [if_neg htd]
        exact (I.ev2 t v (fun i1 o1 g1 g2 => h1 i1 o1 g1 (upd_iff.2 (.inr g2))) h2).mono hle

theorem Iv.closed (I : Iv c D j m a w) (hi : c.L[i]? = some o) (hm : ∀ i', (c.ms.getD i 0).testBit i' = true → D i' = true) :
    ∀ k, upd D i k = true → k < c.L.length ∧ ∀ i', (c.ms.getD k 0).testBit i' = true → upd D i i' = true := by
  intro k hk
  rcases upd_iff.1 hk with rfl | hk
  · exact ⟨(List.getElem?_eq_some_iff.1 hi).1, fun i' h => upd_iff.2 (.inr (hm i' h))⟩
  · exact ⟨(I.cl k hk).1, fun i' h => upd_iff.2 (.inr ((I.cl k hk).2 i' h))⟩

/-- an operation that only reads, or isn't wanted -/
theorem Iv.val (ok : c.Ok) (I : Iv c D j m a w) (hi : c.L[i]? = some o) {v : Value} {rd : Bool} (hr : c.R[i]? = some (.val v rd)) (hD : D i = false) (hm : ∀ i', (c.ms.getD i 0).testBit i' = true → D i' = true) (hnp : ∀ i1 ch h, c.pan = some (i1, ch, h) → i1 ≠ i) (hv : RV m v v') :
    Iv c (upd D i) j m (a.put o.dst v') w := by
  obtain ⟨p1, p2, p3, p4⟩ := I.putv ok hi hr m.le_refl (r := .val v rd) hv
  have hS : c.S (upd D i) j = c.S D j := by
    funext k
    unfold Cx.S SD
    by_cases hk : k - c.base = i
    · have hn : newAt c.R (k - c.base) = none := by unfold newAt; rw [hk, hr]
      rw [hn]
      simp
    · rw [upd_ne hk]
  refine ⟨I.closed hi hm, I.je, fun k e h he => ?_, fun i1 ch h hp => ?_, p1, p2, p3, p4, by rw [hS]; exact I.rep, I.own, I.fr1, fun i1 h1 h2 => ?_, I.nx, by rw [hS]; exact I.stp⟩
  · have hne : e ≠ i := by
      intro e1
      subst e1
      obtain ⟨p, v1, g1, g2⟩ := effL_mem.1 (List.mem_of_getElem? he)
      rw [Nat.zero_add] at g1
      subst g1
      rw [hr] at g2
      cases g2
    rw [upd_ne hne]
    exact I.pr k e h he
  · rw [upd_ne (hnp i1 ch h hp)]
    exact I.np i1 ch h hp
  · have hne : i1 ≠ i := fun e => by subst e; rw [show upd D i1 i1 = true from upd_iff.2 (.inl rfl)] at h2; cases h2
    rw [upd_ne hne] at h2
    exact I.fr2 i1 h1 h2

/-- an operation that leaves a mark in the world, none in this memory -/
theorem Iv.mark (ok : c.Ok) (I : Iv c D j m a w) (hi : c.L[i]? = some o) {v : Value} {rd : Bool} (hr : c.R[i]? = some (.val v rd)) (hD : D i = false) (hm : ∀ i', (c.ms.getD i 0).testBit i' = true → D i' = true) (hnp : ∀ i1 ch h, c.pan = some (i1, ch, h) → i1 ≠ i) (hv : RV m v v')
    (hrep : Rep c.P m (c.S D j) w') (hst : Stp (c.S D j) m w (c.S D j) m w' (c.H j).nx (c.H j).nx) :
    Iv c (upd D i) j m (a.put o.dst v') w' := by
  obtain ⟨p1, p2, p3, p4⟩ := I.putv ok hi hr m.le_refl (r := .val v rd) hv
  have hS : c.S (upd D i) j = c.S D j := by
    funext k
    unfold Cx.S SD
    by_cases hk : k - c.base = i
    · have hn : newAt c.R (k - c.base) = none := by unfold newAt; rw [hk, hr]
      rw [hn]
      simp
    · rw [upd_ne hk]
  refine ⟨I.closed hi hm, I.je, fun k e h he => ?_, fun i1 ch h hp => ?_, p1, p2, p3, p4, by rw [hS]; exact hrep, I.own, I.fr1, fun i1 h1 h2 => ?_, I.nx, by rw [hS]; exact I.stp.trans hst (by have := I.nx; omega) (Nat.le_refl _)⟩
  · have hne : e ≠ i := by
      intro e1
      subst e1
      obtain ⟨p, v1, g1, g2⟩ := effL_mem.1 (List.mem_of_getElem? he)
      rw [Nat.zero_add] at g1
      subst g1
      rw [hr] at g2
      cases g2
    rw [upd_ne hne]
    exact I.pr k e h he
  · rw [upd_ne (hnp i1 ch h hp)]
    exact I.np i1 ch h hp
  · have hne : i1 ≠ i := fun e => by subst e; rw [show upd D i1 i1 = true from upd_iff.2 (.inl rfl)] at h2; cases h2
    rw [upd_ne hne] at h2
    exact I.fr2 i1 h1 h2

/-- a new object -/
theorem Iv.newo (ok : c.Ok) (I : Iv c D j m a w) (hi : c.L[i]? = some o) {v : Value} {ob : (Ob X)} (hr : c.R[i]? = some (.new v ob)) (hD : D i = false) (hm : ∀ i', (c.ms.getD i 0).testBit i' = true → D i' = true) (hnp : ∀ i1 ch h, c.pan = some (i1, ch, h) → i1 ≠ i)
    {h1 : (Hp X)} (hat : h1.at (c.base + i) = some ob) (hv : RV m' v v') (hrep : Rep c.P m' h1.at w') (hs : Stp (emp (c.base + i)).at m w h1.at m' w' (c.base + i) (c.base + i + 1)) :
    Iv c (upd D i) j m' (a.put o.dst v') w' := by
  have hilt : i < c.L.length := (List.getElem?_eq_some_iff.1 hi).1
  obtain ⟨p1, p2, p3, p4⟩ := I.putv ok hi hr hs.le (r := .new v ob) hv
  have hnm : mgd c.ms (c.es.take j) i = false := by
    cases hmg : mgd c.ms (c.es.take j) i with
    | false => rfl
    | true =>
      unfold mgd at hmg
      rw [List.any_eq_true] at hmg
      obtain ⟨⟨e, h⟩, he, hb⟩ := hmg
      obtain ⟨k, hk⟩ := List.getElem?_of_mem he
      have hkj : k < j := by
        have := (List.getElem?_eq_some_iff.1 hk).1
        simp at this; omega
      rw [List.getElem?_take_of_lt hkj] at hk
      have := (I.cl e ((I.pr k e h hk).2 hkj)).2 i hb
      rw [hD] at this; cases this
  have hSi : c.S D j (c.base + i) = none := by
    cases hh : c.S D j (c.base + i) with
    | none => rfl
    | some u => exact (I.notYet hilt hD hh).elim
  have hdom : ∀ k, h1.at k ≠ none → k = c.base + i := fun k hk => by
    rcases hs.dom k hk with g | g
    · exact absurd rfl g
    · omega
  have hS : c.S (upd D i) j = fun k => match c.S D j k with | some u => some u | none => h1.at k := by
    funext k
    by_cases hk : k = c.base + i
    · subst hk
      rw [hSi]
      simp only [hat]
      unfold Cx.S SD
      rw [if_pos ⟨Nat.le_add_right _ _, by rw [Nat.add_sub_cancel_left]; exact upd_iff.2 (.inl rfl), by rw [Nat.add_sub_cancel_left]; exact hnm⟩]
      rw [Nat.add_sub_cancel_left]
      unfold newAt
      rw [hr]
    · have h2 : h1.at k = none := by
        cases hh : h1.at k with
        | none => rfl
        | some u => exact absurd (hdom k (by rw [hh]; simp)) hk
      rw [h2]
      have h3 : c.S (upd D i) j k = c.S D j k := by
        unfold Cx.S SD
        by_cases hb : c.base ≤ k
        · rw [upd_ne (show k - c.base ≠ i by omega)]
        · rw [if_neg (fun x => hb x.1), if_neg (fun x => hb x.1)]
      rw [h3]
      cases c.S D j k <;> rfl
  refine ⟨I.closed hi hm, I.je, fun k e h he => ?_, fun i1 ch h hp => ?_, p1, p2, p3, p4, ?_, I.own, fun k hk => ?_, fun i1 h1' h2 => ?_, I.nx, ?_⟩
  · have hne : e ≠ i := by
      intro e1
      subst e1
      obtain ⟨p, v1, g1, g2⟩ := effL_mem.1 (List.mem_of_getElem? he)
      rw [Nat.zero_add] at g1
      subst g1
      rw [hr] at g2
      cases g2
    rw [upd_ne hne]
    exact I.pr k e h he
  · rw [upd_ne (hnp i1 ch h hp)]
    exact I.np i1 ch h hp
  · rw [hS]
    exact Rep.frame hs hrep I.rep (fun k o e => e) (fun k o e => by cases e) (fun k _ => rfl) (fun k e => by
      have : k ≠ c.base + i := fun c => by rw [c] at e; exact e hSi
      omega)
  · rcases Decidable.em (m' k = m k) with e | e
    · rw [e]; exact I.fr1 k hk
    · have := hs.new k e
      have := I.nx
      omega
  · have hne : i1 ≠ i := fun e => by subst e; rw [show upd D i1 i1 = true from upd_iff.2 (.inl rfl)] at h2; cases h2
    rw [upd_ne hne] at h2
    rcases Decidable.em (m' (c.base + i1) = m (c.base + i1)) with e | e
    · rw [e]; exact I.fr2 i1 h1' h2
    · have := hs.new _ e; omega
  · rw [hS]
    have hb := hs.beside (r := c.S D j) (G1 := c.S D j) (fun k o hk => ⟨hk, rfl, by
      have : k ≠ c.base + i := fun c => by rw [c, hSi] at hk; cases hk
      omega⟩) (fun k o hk => by cases hk)
    have := I.nx
    exact I.stp.trans2 hb (by omega) (Nat.le_refl _) (by omega)
end
end Go.Ev
