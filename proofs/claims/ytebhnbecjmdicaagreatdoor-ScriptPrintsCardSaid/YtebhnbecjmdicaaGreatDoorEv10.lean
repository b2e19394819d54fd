/-
  A run reckoned out: slots, one operation, regions in their order.
-/
import Derived.Test.YtebhnbecjmdicaaGreatDoorEv9
namespace Go.Ev
set_option linter.unusedVariables false
set_option linter.unusedSimpArgs false
set_option linter.unusedSectionVars false
variable {X : Type} [ExtA X]

structure RD (m : Mp) (d : Df) (d' : Deferred) : Prop where
  ex : ∃ args' cap' : List Value, d' = ⟨.fn (.func d.f) cap'.toArray, args'.toArray⟩ ∧ RVs m d.args args' ∧ RVs m d.cap cap'
inductive RDs (m : Mp) : List Df → List Deferred → Prop where
  | nil : RDs m [] []
  | cons {d : Df} {d' : Deferred} {l : List Df} {l' : List Deferred} : RD m d d' → RDs m l l' → RDs m (d :: l) (d' :: l')
theorem RD.mono {m m' : Mp} (h : m.le m') {d : Df} {d' : Deferred} (r : RD m d d') : RD m' d d' :=
  let ⟨a, c, e, r1, r2⟩ := r.ex; ⟨a, c, e, r1.mono h, r2.mono h⟩
theorem RDs.mono {m m' : Mp} (h : m.le m') : ∀ {l : List Df} {l' : List Deferred}, RDs m l l' → RDs m' l l'
  | _, _, .nil => .nil
  | _, _, .cons r s => .cons (r.mono h) (RDs.mono h s)

structure Ag (m : Mp) (s : (St X)) (a : Act) : Prop where
  size : a.tmps.size = s.n
  val : ∀ k v, s.env.get k = some v → RV m v (a.tmps.getD k undef)
  ds : RDs m s.ds a.defers
theorem Ag.mono {m m' : Mp} (h : m.le m') {s : (St X)} {a : Act} (r : Ag m s a) : Ag m' s a := ⟨r.size, fun k v e => (r.val k v e).mono h, r.ds.mono h⟩

theorem Ag.evs {m : Mp} {s : (St X)} {a : Act} (r : Ag m s a) : Evs m (evO s.env) a.eval := by
  intro x v e
  cases x with
  | tmp k => exact r.val k v e
  | const u =>
    simp only [evO] at e
    cases hp : plain u with
    | true => rw [hp] at e; cases e; exact RV.plain hp
    | false => rw [hp] at e; cases e
  | global g => cases e
  | func f => cases e; exact .func .nil .nil

theorem getD_put {a : Array Value} {d k : Nat} {v : Value} (hd : d < a.size) : (a.setIfInBounds d v).getD k undef = if k = d then v else a.getD k undef := by
  simp only [Array.getD_eq_getD_getElem?, Array.getElem?_setIfInBounds]
  by_cases h : d = k
  · subst h; simp [hd]
  · rw [if_neg h, if_neg (fun c => h c.symm)]

theorem Ag.putH {m : Mp} {s s' : (St X)} {a : Act} (r : Ag m s a) {d : Option Tmp} {v v' : Value} {h : (Hp X)} (e : s.put d v h = some s') (hv : RV m v v') : Ag m s' (a.put d v') ∧ s'.hp = h ∧ s'.n = s.n ∧ s'.ds = s.ds := by
  cases d with
  | none => cases e; exact ⟨⟨r.size, r.val, r.ds⟩, rfl, rfl, rfl⟩
  | some d =>
    rw [St.put_eq] at e
    simp only at e
    cases hb : (Nat.blt d s.n && Nat.blt d 1000000) with
    | false => rw [hb] at e; cases e
    | true =>
      rw [hb] at e
      cases e
      simp only [Bool.and_eq_true, Nat.blt_eq] at hb
      refine ⟨⟨by simp [Act.put, r.size], fun k u hk => ?_, r.ds⟩, rfl, rfl, rfl⟩
      show RV m u ((a.tmps.setIfInBounds d v').getD k undef)
      rw [getD_put (by rw [r.size]; exact hb.1)]
      rw [Tr.get_put20 _ _ _ _ (by omega)] at hk
      split at hk
      · rename_i hkd
        rw [if_pos hkd]
        cases hk
        exact hv
      · rename_i hkd
        rw [if_neg hkd]
        exact r.val k u hk

inductive RCh (m : Mp) : Ch → List PanicEntry → Prop where
  | nil : RCh m [] []
  | cons {t : TypeId} {v v' : Value} {r : Bool} {l : Ch} {l' : List PanicEntry} : RV m v v' → RCh m l l' → RCh m ((t, v, r) :: l) ({ v := .iface t v', recovered := r } :: l')
theorem RCh.mono {m m' : Mp} (h : m.le m') : ∀ {l : Ch} {l' : List PanicEntry}, RCh m l l' → RCh m' l l'
  | _, _, .nil => .nil
  | _, _, .cons r s => .cons (r.mono h) (RCh.mono h s)
theorem RCh.append {m : Mp} : ∀ {a b : Ch} {a' b' : List PanicEntry}, RCh m a a' → RCh m b b' → RCh m (a ++ b) (a' ++ b')
  | _, _, _, _, .nil, h => h
  | _, _, _, _, .cons r s, h => .cons r (RCh.append s h)

def ExR (m : Mp) : Ex → Exit → Prop
  | .normal, .normal => True
  | .exit i, .exit j => j = i
  | .ret, .ret => True
  | .panic ch, .panic c => RCh m ch c
  | _, _ => False

/-- where a run began -/
structure Bs (X : Type) where
  h : (Hp X)
  m : Mp
  w : World
/-- the state stands for the frame and the world -/
structure At (P : Program) (b : (Bs X)) (s : (St X)) (m : Mp) (a : Act) (w : World) : Prop where
  rep : Rep P m s.hp.at w
  ag : Ag m s a
  fresh : ∀ k, s.hp.nx ≤ k → m k = none
  stp : Stp b.h.at b.m b.w s.hp.at m w b.h.nx s.hp.nx
  nx : b.h.nx ≤ s.hp.nx
  top : ∀ k, s.hp.nx ≤ k → s.hp.at k = none

/-- memory behind a call -/
structure Mo (P : Program) (b : (Bs X)) (h' : (Hp X)) (m' : Mp) (w' : World) : Prop where
  rep : Rep P m' h'.at w'
  fresh : ∀ k, h'.nx ≤ k → m' k = none
  stp : Stp b.h.at b.m b.w h'.at m' w' b.h.nx h'.nx
  nx : b.h.nx ≤ h'.nx
  top : ∀ k, h'.nx ≤ k → h'.at k = none
def EnR (P : Program) (b : (Bs X)) : (En X) → Ending → World → Prop
  | .ret v h', e, w' => ∃ m' v', e = .returned v' ∧ RV m' v v' ∧ Mo P b h' m' w'
  | .panic ch h', e, w' => ∃ m' c, e = .panicked c ∧ RCh m' ch c ∧ Mo P b h' m' w'

def CalOk (P : Program) (cal : (Cal X)) : Prop := ∀ f args h r, cal f args h = some r → ∀ m w args', Rep P m h.at w → (∀ k, h.nx ≤ k → m k = none) → (∀ k, h.nx ≤ k → h.at k = none) → RVs m args args' →
  (callFunc f args'.toArray).run P w = .ok (.enter f args'.toArray) w ∧ Calls P f args'.toArray w (EnR P ⟨h, m, w⟩ r)

section
variable {P : Program} {T : Tb} {cal : (Cal X)} {b : (Bs X)} {s s' : (St X)} {m : Mp} {a : Act} {w : World}

theorem Stp.fresh {g g' : (G X)} {m m' : Mp} {w w' : World} {lo hi : Nat} (s : Stp g m w g' m' w' lo hi) (h : ∀ k, lo ≤ k → m k = none) (hlh : lo ≤ hi) : ∀ k, hi ≤ k → m' k = none := fun k hk => by
  rcases Decidable.em (m' k = m k) with e | e
  · rw [e]; exact h k (by omega)
  · have := (s.new k e).2; omega

theorem Stp.top {g g' : (G X)} {m m' : Mp} {w w' : World} {lo hi : Nat} (s : Stp g m w g' m' w' lo hi) (h : ∀ k, lo ≤ k → g k = none) (hlh : lo ≤ hi) : ∀ k, hi ≤ k → g' k = none := fun k hk => by
  cases hg : g' k with
  | none => rfl
  | some o =>
    rcases s.dom k (by rw [hg]; simp) with c | c
    · exact absurd (h k (by omega)) c
    · omega
theorem At.put (h : At P b s m a w) {d : Option Tmp} {v v' : Value} {h' : (Hp X)} {m' : Mp} {w' : World} (e : s.put d v h' = some s') (hv : RV m' v v') (hr : Rep P m' h'.at w') (hs : Stp s.hp.at m w h'.at m' w' s.hp.nx h'.nx) (hn : s.hp.nx ≤ h'.nx) :
    At P b s' m' (a.put d v') w' := by
  obtain ⟨h1, h2, h3, h4⟩ := (h.ag.mono hs.le).putH e hv
  refine ⟨by rw [h2]; exact hr, h1, by rw [h2]; exact hs.fresh h.fresh hn, ?_, by rw [h2]; exact Nat.le_trans h.nx hn, by rw [h2]; exact hs.top h.top hn⟩
  rw [h2]
  exact h.stp.trans hs h.nx hn

theorem stepOp_ok (hT : TbOk P T) (hc : CalOk P cal) (h : At P b s m a w) {o : Oper} {ex : Ex} (e : stepOp T cal o s = some (ex, s')) (Q : Exit → Act → World → Prop) (next : Act → World → Prop)
    (hn : ex = .normal → ∀ m' a' w', At P b s' m' a' w' → next a' w') (hq : ∀ ch m' c a' w', ex = .panic ch → RCh m' ch c → At P b s' m' a' w' → Q (.panic c) a' w') : o.wp P a w next Q := by
  have hev := h.ag.evs
  rw [stepOp_eq] at e
  split at e
  · rename_i v hv
    obtain ⟨v', h1, h2⟩ := opv_ok hT h.rep hev hv
    split at e
    · rename_i s1 hs
      cases e
      unfold Oper.wp
      rw [h2]
      exact hn rfl _ _ _ (h.put hs h1 h.rep (Stp.refl _ _ _ _ _) (Nat.le_refl _))
    · cases e
  · split at e
    · rename_i v h' hx
      obtain ⟨v', w', m', h1, h2, h3, h4, h5⟩ := opx_ok hT h.rep (h.fresh _ (Nat.le_refl _)) hev hx
      split at e
      · rename_i s1 hs
        cases e
        unfold Oper.wp
        rcases h1 with h1 | ⟨h1, rfl⟩
        · rw [h1]
          exact hn rfl _ _ _ (h.put hs h2 h3 h4 h5)
        · rw [h1]
          exact hn rfl _ _ _ (h.put hs h2 h3 h4 h5)
      · cases e
    · rename_i f args hx
      obtain ⟨args', h1, h2⟩ := opx_ok hT h.rep (h.fresh _ (Nat.le_refl _)) hev hx
      split at e
      · rename_i v h' hcal
        obtain ⟨c1, c2⟩ := hc _ _ _ _ hcal m w args' h.rep h.fresh h.top h1
        split at e
        · rename_i s1 hs
          cases e
          unfold Oper.wp
          rw [h2, c1]
          refine c2.mono ?_
          rintro en w' ⟨m', v', rfl, r1, r2⟩
          exact hn rfl _ _ _ (h.put hs r1 r2.rep r2.stp r2.nx)
        · cases e
      · rename_i ch h' hcal
        obtain ⟨c1, c2⟩ := hc _ _ _ _ hcal m w args' h.rep h.fresh h.top h1
        cases e
        unfold Oper.wp
        rw [h2, c1]
        refine c2.mono ?_
        rintro en w' ⟨m', c, rfl, r1, r2⟩
        have ha := h.ag.mono r2.stp.le
        exact hq ch m' c a w' rfl r1 ⟨r2.rep, ⟨ha.size, ha.val, ha.ds⟩, r2.fresh, h.stp.trans r2.stp h.nx r2.nx, Nat.le_trans h.nx r2.nx, r2.top⟩
      · cases e
    · rename_i f args cap hx
      obtain ⟨args', cap', h1, h2, h3⟩ := opx_ok hT h.rep (h.fresh _ (Nat.le_refl _)) hev hx
      split at e
      · rename_i s1 hs
        cases e
        unfold Oper.wp
        rw [h3]
        have hp := h.put (v' := undef) hs (.tuple .nil) h.rep (Stp.refl _ _ _ _ _) (Nat.le_refl _)
        refine hn rfl m _ _ ⟨hp.rep, ⟨?_, ?_, ?_⟩, hp.fresh, hp.stp, hp.nx, hp.top⟩
        · have := hp.ag.size
          have e2 : (({ a with defers := ⟨.fn (.func f) cap'.toArray, args'.toArray⟩ :: a.defers } : Act).put o.dst undef).tmps = (a.put o.dst undef).tmps := by cases o.dst <;> rfl
          rw [e2]; exact this
        · have := hp.ag.val
          have e2 : (({ a with defers := ⟨.fn (.func f) cap'.toArray, args'.toArray⟩ :: a.defers } : Act).put o.dst undef).tmps = (a.put o.dst undef).tmps := by cases o.dst <;> rfl
          rw [e2]; exact this
        · have hd := hp.ag.ds
          have e1 : (({ a with defers := ⟨.fn (.func f) cap'.toArray, args'.toArray⟩ :: a.defers } : Act).put o.dst undef).defers = ⟨.fn (.func f) cap'.toArray, args'.toArray⟩ :: (a.put o.dst undef).defers := by
            cases o.dst <;> rfl
          rw [e1]
          exact .cons ⟨⟨args', cap', rfl, h1, h2⟩⟩ hd
      · cases e
    · rename_i t v hx
      obtain ⟨v', h1, h2⟩ := opx_ok hT h.rep (h.fresh _ (Nat.le_refl _)) hev hx
      cases e
      unfold Oper.wp
      rw [h2]
      exact hq _ m _ _ _ rfl (.cons h1 .nil) h
    · cases e

theorem wantd_ok {env : Tr Value} {ops : List Oper} {o : Oper} {want : Bool} (hv : ∀ k v, env.get k = some v → RV m v (a.tmps.getD k undef)) (e : wantd ops env o = some want) : Region.wanted o (yielded ops.toArray a.tmps) = want := by
  unfold wantd at e
  unfold Region.wanted
  split at e
  · rename_i hg
    cases e
    rw [hg]
  · rename_i j wt hg
    rw [hg]
    split at e
    · rename_i t ht
      split at e
      · rename_i bb hb
        cases e
        have hr := (hv _ _ hb).bool_inv
        have hy : yielded ops.toArray a.tmps j = some bb := by
          unfold yielded
          have : (ops.toArray[j]?).bind (·.dst) = some t := by
            unfold dstOf at ht
            split at ht
            · rename_i o' ho'
              rw [List.getElem?_toArray, ho']
              exact ht
            · cases ht
          rw [this]
          simp only [Option.bind_some]
          rw [Array.getD_eq_getD_getElem?] at hr
          cases hc : a.tmps[t]? with
          | none => rw [hc] at hr; cases hr
          | some u => rw [hc] at hr; simp at hr; rw [hr]
        simp only [hy]
        cases bb <;> cases wt <;> rfl
      · rename_i cs hb
        cases e
        obtain ⟨cs', hr, _⟩ := (hv _ _ hb).tuple_inv
        have hy : yielded ops.toArray a.tmps j = none := by
          unfold yielded
          have : (ops.toArray[j]?).bind (·.dst) = some t := by
            unfold dstOf at ht
            split at ht
            · rename_i o' ho'
              rw [List.getElem?_toArray, ho']
              exact ht
            · cases ht
          rw [this]
          simp only [Option.bind_some]
          rw [Array.getD_eq_getD_getElem?] at hr
          cases hc : a.tmps[t]? with
          | none => rfl
          | some u => rw [hc] at hr; simp at hr; rw [hr]
        simp only [hy]
        rfl
      · cases e
    · cases e

theorem each_mem {α β : Type} {f : α → Option (List β)} : ∀ {l : List α} {r : List β}, each f l = some r → ∀ x ∈ l, ∃ a, f x = some a ∧ ∀ y ∈ a, y ∈ r
  | [], r, e, x, hx => by cases hx
  | z :: l, r, e, x, hx => by
    unfold each at e
    split at e
    · rename_i a ha
      split at e
      · rename_i b hb
        cases e
        rcases List.mem_cons.1 hx with rfl | hx
        · exact ⟨a, ha, fun y hy => List.mem_append_left _ hy⟩
        · obtain ⟨a', h1, h2⟩ := each_mem hb x hx
          exact ⟨a', h1, fun y hy => List.mem_append_right _ (h2 y hy)⟩
      · cases e
    · cases e

/-- what is to hold behind a piece of code: one of the outcomes -/
def LPost (P : Program) (b : (Bs X)) (L : List (Ex × (St X))) : Exit → Act → World → Prop := fun e a' w' => ∃ p m', p ∈ L ∧ ExR m' p.1 e ∧ At P b p.2 m' a' w'
theorem LPost.sub {L L' : List (Ex × (St X))} (h : ∀ p ∈ L, p ∈ L') {e : Exit} {a' : Act} {w' : World} (q : LPost P b L e a' w') : LPost P b L' e a' w' :=
  let ⟨p, m', h1, h2, h3⟩ := q; ⟨p, m', h p h1, h2, h3⟩

theorem seqOps_ok (hT : TbOk P T) (hc : CalOk P cal) {ops : List Oper} {Q : Exit → Act → World → Prop} : ∀ {l : List Oper} {s : (St X)} {L : List (Ex × (St X))} {m : Mp} {a : Act} {w : World}, At P b s m a w → seqOps T cal ops l s = some L →
    (∀ e a' w', LPost P b L e a' w' → Q e a' w') → wpList P ops.toArray Q l a w
  | [], s, L, m, a, w, h, e, hq => by cases e; exact hq _ _ _ ⟨_, m, List.mem_singleton.2 rfl, trivial, h⟩
  | o :: l, s, L, m, a, w, h, e, hq => by
    rw [seqOps_eq] at e
    split at e
    · rename_i hw
      have hw' := wantd_ok h.ag.val hw
      refine wpList_step fun K hK => ?_
      rw [if_pos hw']
      split at e
      · rename_i outs ho
        obtain ⟨p, v', w', h1, h2, h3, h4, h5, h6⟩ := nextOf_ok h.rep h.ag.evs ho
        obtain ⟨L1, h7, h8⟩ := each_mem e p h1
        split at h7
        · rename_i s1 hs
          unfold Oper.wp
          rw [h2]
          exact hK _ _ (seqOps_ok hT hc (h.put hs h3 h4 (by rw [h6]; exact h5) (by omega)) h7 (fun e a' w' q => hq _ _ _ (q.sub h8)))
        · cases h7
      · split at e
        · rename_i s1 hs
          exact stepOp_ok hT hc h hs Q K (fun _ m' a' w' h' => hK _ _ (seqOps_ok hT hc h' e hq)) (fun ch _ _ _ _ c => by cases c)
        · rename_i r hne hs
          obtain ⟨r, s1⟩ := r
          cases e
          refine stepOp_ok hT hc h hs Q K (fun c m' a' w' h' => ?_) (fun ch m' c a' w' c1 c2 h' => hq _ _ _ ⟨_, m', List.mem_singleton.2 rfl, by rw [c1]; exact c2, h'⟩)
          subst c
          exact absurd rfl (hne s1)
        · cases e
    · rename_i hw
      have hw' := wantd_ok h.ag.val hw
      refine wpList_step fun K hK => ?_
      rw [hw', if_neg (by simp)]
      split at e
      · rename_i s1 hs
        exact hK _ _ (seqOps_ok hT hc (h.put (v' := undef) hs (.tuple .nil) h.rep (Stp.refl _ _ _ _ _) (Nat.le_refl _)) e hq)
      · cases e
    · cases e
end
end Go.Ev
