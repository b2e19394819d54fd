/-
  A run reckoned out: calls, what is deferred, what recovers; code.
-/
import Derived.Test.YteecnkneceemjaaGreatEv10
namespace Go.Ev
set_option linter.unusedVariables false
set_option linter.unusedSimpArgs false

structure FbOk (P : Program) (F : Fb) : Prop where
  ok : ∀ f fn, F f = some fn → P.funcs[f]? = some fn ∧ ∀ args w, (callFunc f args).run P w = .ok (.enter f args) w

section
variable {P : Program} {T : Tb} {F : Fb} {cal : Cal} {ex : Run} {b : Bs} {s s' : St} {m : Mp} {a : Act} {w : World}

theorem envOf_get : ∀ (l : List Value) (k : Nat) (t : Tr Value) (j : Nat) (v : Value), k + l.length < 1000001 → (envOf k l t).get j = some v → (∃ i, j = k + i ∧ l[i]? = some v) ∨ t.get j = some v
  | [], k, t, j, v, hl, h => .inr h
  | x :: l, k, t, j, v, hl, h => by
    simp only [List.length_cons] at hl
    rcases envOf_get l (k + 1) _ j v (by omega) h with ⟨i, h1, h2⟩ | h1
    · exact .inl ⟨i + 1, by omega, by simpa using h2⟩
    · rw [Tr.get_put20 _ _ _ _ (by omega)] at h1
      split at h1
      · rename_i hj; cases h1; exact .inl ⟨0, by omega, rfl⟩
      · exact .inr h1

def frameOf (fn : Func) (args : Array Value) : Act := { tmps := args ++ Array.replicate (fn.ntmps - args.size) undef, defers := [] }
theorem start_ok {fn : Func} {args args' : List Value} {h : Hp} (e : start fn args h = some s) (hr : RVs m args args') : Ag m s (frameOf fn args'.toArray) ∧ s.hp = h := by
  unfold start at e
  cases hb : (Nat.ble args.length fn.ntmps && Nat.blt args.length 1000) with
  | false => rw [hb] at e; cases e
  | true =>
    rw [hb] at e
    cases e
    simp only [Bool.and_eq_true, Nat.blt_eq] at hb
    have hle := Nat.le_of_ble_eq_true hb.1
    have hl := hr.len
    refine ⟨⟨by simp [frameOf]; omega, fun k v hk => ?_, .nil⟩, rfl⟩
    rcases envOf_get args 0 .nil k v (by omega) hk with ⟨i, h1, h2⟩ | h1
    · obtain ⟨v', h3, h4⟩ := hr.at h2
      rw [Nat.zero_add] at h1
      subst h1
      have hlt := (List.getElem?_eq_some_iff.1 h3).1
      have : (frameOf fn args'.toArray).tmps.getD k undef = v' := by
        show (args'.toArray ++ _).getD k undef = v'
        rw [Array.getD_eq_getD_getElem?, Array.getElem?_append_left (by simpa using hlt)]
        simp [h3]
      rw [this]
      exact h4
    · cases h1

def resF (tmps : Array Value) : ResultVar → Sem Value
  | .tmp t => pure (tmps.getD t undef)
  | .cell a t => do loadVar t (← asAddr (tmps.getD a undef))
theorem results_eq (fn : Func) (tmps : Array Value) : results fn tmps = (do let vs ← fn.results.mapM (resF tmps); pure (if h : vs.size = 1 then vs[0] else .tuple vs)) := by
  unfold results
  congr 1
theorem resl_ok (hT : TbOk P T) {h : Hp} (hr : Rep P m h.at w) {env : Tr Value} {tmps : Array Value} (hv : ∀ k v, env.get k = some v → RV m v (tmps.getD k undef)) : ∀ {l : List ResultVar} {vs : List Value}, resl T h env l = some vs →
    ∃ vs', RVs m vs vs' ∧ (l.mapM (resF tmps)).run P w = .ok vs' w
  | [], vs, e => by cases e; exact ⟨[], .nil, rfl⟩
  | .tmp t :: l, vs, e => by
    unfold resl at e
    split at e
    · rename_i v r h1 h2
      cases e
      obtain ⟨vs', r1, r2⟩ := resl_ok hT hr hv h2
      refine ⟨_, .cons (hv _ _ h1) r1, ?_⟩
      simp only [List.mapM_cons, resF, Sem.run_bind, Sem.run_pure, Result.andThen_ok, r2]
    · cases e
  | .cell x t :: l, vs, e => by
    unfold resl at e
    split at e
    · rename_i ad h1
      obtain ⟨bl, y, ha, hb, hm⟩ := (hv _ _ h1).ptr_inv
      split at e
      · rename_i v r h2 h3
        cases e
        obtain ⟨vs', r1, r2⟩ := resl_ok hT hr hv h3
        obtain ⟨v', q1, q2⟩ := ldv_ok hT hr h2 hm
        refine ⟨_, .cons q1 r1, ?_⟩
        have q3 : (resF tmps (.cell x t)).run P w = .ok v' w := by
          simp only [resF, Sem.run_bind, hb, asAddr, Sem.run_pure, Result.andThen_ok, q2]
        simp only [List.mapM_cons, Sem.run_bind, q3, Sem.run_pure, Result.andThen_ok, r2]
      · cases e
    · cases e
theorem resv_ok (hT : TbOk P T) {h : Hp} (hr : Rep P m h.at w) {env : Tr Value} {tmps : Array Value} (hv : ∀ k v, env.get k = some v → RV m v (tmps.getD k undef)) {fn : Func} {v : Value} (e : resv T h env fn.results.toList = some v) :
    ∃ v', RV m v v' ∧ (results fn tmps).run P w = .ok v' w := by
  unfold resv at e
  have key : ∀ {vs : List Value}, resl T h env fn.results.toList = some vs → ∃ vs', RVs m vs vs' ∧ (results fn tmps).run P w = .ok (if h : vs'.toArray.size = 1 then vs'.toArray[0] else .tuple vs'.toArray) w := by
    intro vs hvs
    obtain ⟨vs', r1, r2⟩ := resl_ok hT hr hv hvs
    refine ⟨vs', r1, ?_⟩
    rw [results_eq, Sem.run_bind, Array.mapM_eq_mapM_toList, map_eq_pure_bind, Sem.run_bind, r2]
    rfl
  split at e
  · rename_i u hu
    cases e
    obtain ⟨vs', r1, r2⟩ := key hu
    cases r1 with
    | cons q1 q2 =>
      cases q2
      exact ⟨_, q1, r2⟩
  · rename_i vs hne hu
    cases e
    obtain ⟨vs', r1, r2⟩ := key hu
    have hl := r1.len
    refine ⟨_, .tuple (c' := vs'.toArray) (by simpa using r1), ?_⟩
    rw [r2, dif_neg]
    intro c
    simp only [List.size_toArray] at c
    rw [hl] at c
    match vs, c with
    | [u], _ => exact hne u rfl
  · cases e

inductive MdR (m : Mp) : Md → FrameMode → Prop where
  | ret : MdR m .ret .returning
  | panic {ch : Ch} {c : List PanicEntry} : RCh m ch c → MdR m (.panic ch) (.panicking c)
theorem MdR.mono {m m' : Mp} (h : m.le m') {u : Md} {f : FrameMode} (r : MdR m u f) : MdR m' u f := by
  cases r with
  | ret => exact .ret
  | panic r => exact .panic (r.mono h)
theorem RCh.noexit : ∀ {ch : Ch} {c : List PanicEntry}, RCh m ch c → c.dropWhile (fun x => !x.goexit) = []
  | _, _, .nil => rfl
  | _, _, .cons r s => by simp [RCh.noexit s]
theorem MdR.settle {u : Md} {f : FrameMode} (r : MdR m u f) : MdR m (settleM u) (Go.settle f) := by
  cases r with
  | ret => exact .ret
  | panic r =>
    cases r with
    | nil => exact .panic .nil
    | cons r1 r2 =>
      rename_i t v v' rc l l'
      cases rc with
      | true =>
        simp only [settleM, Go.settle]
        rw [r2.noexit]
        exact .ret
      | false =>
        simp only [settleM, Go.settle]
        exact .panic (.cons r1 r2)
theorem MdR.raised {u : Md} {f : FrameMode} (r : MdR m u f) {ch : Ch} {c : List PanicEntry} (rc : RCh m ch c) : MdR m (raisedM u ch) (Go.raised f c) := by
  cases r with
  | ret => exact .panic rc
  | panic r => exact .panic (rc.append r)

/-- that a run of code does what the function says -/
def RunOk (P : Program) (ex : Run) : Prop := ∀ c s r s', ex c s = some (r, s') → ∀ b m a w, At P b s m a w → c.wp P (fun e a' w' => ∃ m', ExR m' r e ∧ At P b s' m' a' w') a w

theorem RDs.nil_inv {l : List Deferred} (h : RDs m [] l) : l = [] := by cases h; rfl

def RecPost (P : Program) (b : Bs) (r : Ex) (s' : St) (u' : Md) (c₀ : Frame) (cs : List Frame) : Exit → Act → List Frame → World → Prop := fun e a' cs' w' =>
  ∃ m' f', ExR m' r e ∧ At P b s' m' a' w' ∧ cs' = { c₀ with mode := f' } :: cs ∧ MdR b.m u' f'

theorem recOps_ok (hT : TbOk P T) (hc : CalOk P cal) {ops : List Oper} {c₀ : Frame} {cs : List Frame} {Q : Exit → Act → List Frame → World → Prop} : ∀ {l : List Oper} {k : Nat} {s s' : St} {m : Mp} {a : Act} {w : World} {r : Ex} {u u' : Md} {f : FrameMode}, l = ops.drop k → At P b s m a w → MdR b.m u f → recOps T cal ops l s u = some (r, s', u') →
    (∀ e a' cs' w', RecPost P b r s' u' c₀ cs e a' cs' w' → Q e a' cs' w') → wpOpsS P ops.toArray Q (List.range' k l.length) a ({ c₀ with mode := f } :: cs) w
  | [], k, s, s', m, a, w, r, u, u', f, hl, h, hu, e, hq => by
    cases e
    exact hq _ _ _ _ ⟨m, f, trivial, h, rfl, hu⟩
  | o :: l, k, s, s', m, a, w, r, u, u', f, hl, h, hu, e, hq => by
    have hok : ops.toArray[k]? = some o := by
      rw [List.getElem?_toArray]
      have : (ops.drop k)[0]? = some o := by rw [← hl]; rfl
      simpa using this
    have hl' : l = ops.drop (k + 1) := by
      rw [← List.tail_drop, ← hl]; rfl
    rw [List.length_cons, List.range'_succ]
    unfold wpOpsS
    simp only [hok]
    unfold recOps at e
    split at e
    · rename_i hw
      rw [if_pos (wantd_ok h.ag.val hw)]
      have recCase : ∀ {as ts}, o.op = .call ⟨.builtin .recover, as, ts⟩ → (execOp a.eval o).run P w = .ok .recover w := by
        intro as ts ho
        obtain ⟨dst, op, ty, pos, af, gd⟩ := o
        simp only at ho
        subst ho
        rfl
      split at e
      · rename_i as ts ho
        have hrun := recCase ho
        rw [hrun]
        simp only
        split at e
        · rename_i t v older
          cases hu with
          | panic rc =>
            cases rc with
            | cons r1 r2 =>
              rename_i v' l'
              simp only [recoverD]
              split at e
              · rename_i s1 hs
                exact recOps_ok hT hc hl' (h.put hs (.iface (r1.mono h.stp.le)) h.rep (Stp.refl _ _ _ _ _) (Nat.le_refl _)) (.panic (.cons r1 r2)) e hq
              · cases e
        · cases hu
          simp only [recoverD]
          split at e
          · rename_i s1 hs
            exact recOps_ok hT hc hl' (h.put hs (.scal rfl) h.rep (Stp.refl _ _ _ _ _) (Nat.le_refl _)) .ret e hq
          · cases e
        · cases e
      · rename_i hno
        have hnr : ∀ w', (execOp a.eval o).run P w ≠ .ok .recover w' := by
          intro w' hrun
          have key : o.wp P a w (fun _ _ => True) (fun _ _ _ => True) ∨ stepOp T cal o s = none := by
            cases hst : stepOp T cal o s with
            | none => exact .inr rfl
            | some p =>
              obtain ⟨ex1, s1⟩ := p
              exact .inl (stepOp_ok hT hc h hst _ _ (fun _ _ _ _ _ => trivial) (fun _ _ _ _ _ _ _ _ => trivial))
          rcases key with key | key
          · unfold Oper.wp at key
            rw [hrun] at key
            exact key
          · rw [key] at e; cases e
        have plainCase : o.wp P a w (fun a' w' => wpOpsS P ops.toArray Q (List.range' (k + 1) l.length) a' ({ c₀ with mode := f } :: cs) w') (fun e a' w' => Q e a' ({ c₀ with mode := f } :: cs) w') := by
          split at e
          · rename_i s1 hs
            exact stepOp_ok hT hc h hs _ _ (fun _ m' a' w' h' => recOps_ok hT hc hl' h' hu e hq) (fun ch _ _ _ _ c => by cases c)
          · rename_i r1 s1 hne hs
            cases e
            refine stepOp_ok hT hc h hs _ _ (fun c m' a' w' h' => ?_) (fun ch m' c a' w' c1 c2 h' => ?_)
            · subst c; exact absurd rfl hne
            · subst c1
              exact hq _ _ _ _ ⟨m', f, c2, h', rfl, hu⟩
          · cases e
        unfold Oper.wp at plainCase
        generalize hrr : (execOp a.eval o).run P w = rr at plainCase hnr
        cases rr with
        | ok n w1 => cases n <;> first | exact plainCase | exact absurd rfl (hnr _)
        | halt x w1 => exact plainCase
    · rename_i hw
      have hw' := wantd_ok h.ag.val hw
      rw [hw', if_neg (by simp)]
      split at e
      · rename_i s1 hs
        exact recOps_ok hT hc hl' (h.put (v' := undef) hs (.tuple .nil) h.rep (Stp.refl _ _ _ _ _) (Nat.le_refl _)) hu e hq
      · cases e
    · cases e

theorem recov_ok (hT : TbOk P T) (hc : CalOk P cal) (hx : RunOk P ex) {c₀ : Frame} {cs : List Frame} : ∀ {c : Code} {s s' : St} {m : Mp} {a : Act} {w : World} {r : Ex} {u u' : Md} {f : FrameMode}, At P b s m a w → MdR b.m u f → recov T ex cal c s u = some (r, s', u') →
    c.wpS P (RecPost P b r s' u' c₀ cs) a ({ c₀ with mode := f } :: cs) w := by
  intro c
  have dflt : ∀ {c : Code} {s s' : St} {m : Mp} {a : Act} {w : World} {r : Ex} {u u' : Md} {f : FrameMode}, At P b s m a w → MdR b.m u f → (match ex c s with
      | some (e, s') => some (e, s', u)
      | none => none) = some (r, s', u') → c.wpS P (RecPost P b r s' u' c₀ cs) a ({ c₀ with mode := f } :: cs) w := by
    intro c s s' m a w r u u' f h hu e
    split at e
    · rename_i r1 s1 h1
      cases e
      refine wpS_of_wp (wp_mono (hx _ _ _ _ h1 _ _ _ _ h) ?_)
      rintro e a' w' ⟨m', q1, q2⟩
      exact ⟨m', f, q1, q2, rfl, hu⟩
    · cases e
  induction c with
  | seq x y ihx ihy =>
    intro s s' m a w r u u' f h hu e
    unfold recov at e
    split at e
    · rename_i s1 u1 h1
      refine wpS_seq ?_
      have := ihx h hu h1
      intro bb k hb hr
      obtain ⟨e1, a1, cs1, w1, q, arr⟩ := this bb k hb hr
      refine ⟨e1, a1, cs1, w1, ?_, arr⟩
      obtain ⟨m1, f1, q1, q2, rfl, q4⟩ := q
      cases e1 with
      | normal => exact ihy q2 q4 e
      | _ => exact q1.elim
    · rename_i hne
      refine wpS_seq ?_
      have := ihx h hu e
      intro bb k hb hr
      obtain ⟨e1, a1, cs1, w1, q, arr⟩ := this bb k hb hr
      refine ⟨e1, a1, cs1, w1, ?_, arr⟩
      obtain ⟨m1, f1, q1, q2, q3, q4⟩ := q
      cases e1 with
      | normal =>
        cases r with
        | normal => exact absurd e (hne _ _)
        | _ => exact q1.elim
      | _ => exact ⟨m1, f1, q1, q2, q3, q4⟩
  | cond c x y ihx ihy =>
    intro s s' m a w r u u' f h hu e
    unfold recov at e
    split at e
    · rename_i hv
      exact wpS_cond (t := true) (h.ag.evs _ _ hv).bool_inv (ihx h hu e)
    · rename_i hv
      exact wpS_cond (t := false) (h.ag.evs _ _ hv).bool_inv (ihy h hu e)
    · cases e
  | region id ops draw =>
    intro s s' m a w r u u' f h hu e
    cases draw with
    | false =>
      refine wpS_region ?_
      have := recOps_ok (c₀ := c₀) (cs := cs) hT hc (ops := ops.toList) (k := 0) rfl h hu e (fun _ _ _ _ hh => hh)
      simpa [List.range_eq_range'] using this
    | true => exact dflt h hu e
  | _ => intro s s' m a w r u u' f h hu e; exact dflt h hu e

/-- memory between the deferred calls -/
theorem defd_ok (hT : TbOk P T) (hF : FbOk P F) (hc : CalOk P cal) (hx : RunOk P ex) {d : Df} {d' : Deferred} {u u' : Md} {f : FrameMode} {h h' : Hp} (hd : RD m d d') (hu : MdR m u f) (hr : Rep P m h.at w) (hf : ∀ k, h.nx ≤ k → m k = none)
    (e : defd T F ex cal d u h = some (u', h')) : ∃ fv cap g args, d'.target = .fn fv cap ∧ (invoke d'.target d'.args).run P w = .ok (.enter g args) w ∧
      CallsD P g args f w fun en f' w' => ∃ m', Mo P ⟨h, m, w⟩ h' m' w' ∧ (match en with
        | .returned _ => MdR m' u' (Go.settle f')
        | .panicked chain => MdR m' u' (Go.raised f' chain)
        | .outgrown => False) := by
  obtain ⟨args', cap', rfl, ra, rc⟩ := hd.ex
  refine ⟨_, _, d.f, args'.toArray ++ cap'.toArray, rfl, ?_, ?_⟩
  · unfold defd at e
    split at e
    · cases e
    · rename_i fn hfn
      exact (hF.ok _ _ hfn).2 _ _
  · unfold defd at e
    split at e
    · cases e
    · rename_i fn hfn
      split at e
      · rename_i c s hb hs
        obtain ⟨ag, hhp⟩ := start_ok hs (ra.append rc)
        refine callsD_of_wpS (hF.ok _ _ hfn).1 hb ?_
        intro c₀ cs hu0
        have eqA : (args'.toArray ++ cap'.toArray : Array Value) = (args' ++ cap').toArray := by apply Array.ext'; simp
        rw [eqA]
        have hat : At P ⟨h, m, w⟩ s m (frameOf fn (args' ++ cap').toArray) w := ⟨by rw [hhp]; exact hr, ag, by rw [hhp]; exact hf, by rw [hhp]; exact Stp.refl _ _ _ _ _, by rw [hhp]; exact Nat.le_refl _⟩
        have hmode : c₀ = { c₀ with mode := f } := by cases c₀; subst hu0; rfl
        have main : ∀ {r : Ex} {s1 : St} {u1 : Md}, recov T ex cal c s u = some (r, s1, u1) → c.wpS P (RecPost P ⟨h, m, w⟩ r s1 u1 c₀ cs) (frameOf fn (args' ++ cap').toArray) (c₀ :: cs) w := by
          intro r s1 u1 h1
          have := recov_ok (c₀ := c₀) (cs := cs) hT hc hx hat hu h1
          rw [← hmode] at this
          exact this
        have ends : ∀ {r : Ex} {s1 : St} {u1 : Md}, (r = .normal ∨ r = .ret) → recov T ex cal c s u = some (r, s1, u1) → defd.fin T s1 u1 fn = some (u', h') →
            c.wpS P (bodyPostS P fn c₀ cs (fun en f' w' => ∃ m', Mo P ⟨h, m, w⟩ h' m' w' ∧ (match en with
        | .returned _ => MdR m' u' (Go.settle f')
        | .panicked chain => MdR m' u' (Go.raised f' chain)
        | .outgrown => False))) (frameOf fn (args' ++ cap').toArray) (c₀ :: cs) w := by
          intro r s1 u1 hr1 h1 h2
          have hmain := main h1
          intro bb k hb2 hro
          obtain ⟨e1, a1, cs1, w1, ⟨m1, f1, q1, q2, rfl, q4⟩, arr⟩ := hmain bb k hb2 hro
          refine ⟨e1, a1, _, w1, ?_, arr⟩
          unfold defd.fin at h2
          cases hds : s1.ds.isEmpty with
          | false => rw [hds] at h2; cases h2
          | true =>
            rw [hds, cond_true] at h2
            split at h2
            · rename_i v hv
              cases h2
              obtain ⟨v', _, hrun⟩ := resv_ok hT q2.rep q2.ag.val hv
              have hds' : a1.defers = [] := by
                have := q2.ag.ds
                have hnil : s1.ds = [] := by simpa using hds
                rw [hnil] at this
                exact this.nil_inv
              have fin : a1.defers = [] ∧ ∃ u'', ({ c₀ with mode := f1 } :: cs : List Frame) = { c₀ with mode := u'' } :: cs ∧ ∃ v, (results fn a1.tmps).run P w1 = .ok v w1 ∧ ∃ m', Mo P ⟨h, m, w⟩ s1.hp m' w1 ∧ MdR m' (settleM u1) (Go.settle u'') :=
                ⟨hds', f1, rfl, v', hrun, m1, ⟨q2.rep, q2.fresh, q2.stp, q2.nx⟩, (q4.mono q2.stp.le).settle⟩
              cases e1 with
              | normal => exact fin
              | ret => exact fin
              | _ => rcases hr1 with rfl | rfl <;> exact q1.elim
            · cases h2
        split at e
        · rename_i s1 u1 h1
          exact ends (.inl rfl) h1 e
        · rename_i s1 u1 h1
          exact ends (.inr rfl) h1 e
        · rename_i ch s1 u1 h1
          cases hds : s1.ds.isEmpty with
          | false => rw [hds] at e; cases e
          | true =>
            rw [hds] at e
            cases e
            have hmain := main h1
            intro bb k hb2 hro
            obtain ⟨e1, a1, cs1, w1, ⟨m1, f1, q1, q2, rfl, q4⟩, arr⟩ := hmain bb k hb2 hro
            refine ⟨e1, a1, _, w1, ?_, arr⟩
            cases e1 with
            | panic chain =>
              have hds' : a1.defers = [] := by
                have := q2.ag.ds
                have hnil : s1.ds = [] := by simpa using hds
                rw [hnil] at this
                exact this.nil_inv
              exact ⟨hds', f1, rfl, m1, ⟨q2.rep, q2.fresh, q2.stp, q2.nx⟩, (q4.mono q2.stp.le).raised q1⟩
            | _ => exact q1.elim
        · cases e
      · cases e

theorem Mo.trans {h1 h2 : Hp} {m1 m2 : Mp} {w1 w2 : World} (x : Mo P b h1 m1 w1) (y : Mo P ⟨h1, m1, w1⟩ h2 m2 w2) : Mo P b h2 m2 w2 :=
  ⟨y.rep, y.fresh, x.stp.trans y.stp x.nx y.nx, Nat.le_trans x.nx y.nx⟩

theorem leave_ok (hT : TbOk P T) (hF : FbOk P F) (hc : CalOk P cal) (hx : RunOk P ex) {fn : Func} {env : Tr Value} {tmps : Array Value} : ∀ {ds : List Df} {ds' : List Deferred} {u : Md} {f : FrameMode} {h : Hp} {m : Mp} {w : World} {r : En}, (∀ k v, env.get k = some v → RV m v (tmps.getD k undef)) → RDs m ds ds' → MdR m u f → Mo P b h m w →
    leave T F ex cal fn env ds u h = some r → Leaves P fn tmps (EnR P b r) ds' f w
  | [], ds', u, f, h, m, w, r, hv, hd, hu, hmo, e => by
    cases hd
    cases hu with
    | ret =>
      simp only [leave] at e
      split at e
      · rename_i v hres
        cases e
        obtain ⟨v', r1, r2⟩ := resv_ok hT hmo.rep hv hres
        exact ⟨v', r2, m, v', rfl, r1, hmo⟩
      · cases e
    | panic rc =>
      simp only [leave] at e
      cases e
      exact ⟨m, _, rfl, rc, hmo⟩
  | d :: ds, ds', u, f, h, m, w, r, hv, hd, hu, hmo, e => by
    cases hd with
    | cons rd rds =>
      unfold leave at e
      split at e
      · rename_i u1 h1 hdd
        obtain ⟨fv, cap, g, args, t1, t2, t3⟩ := defd_ok hT hF hc hx rd hu hmo.rep hmo.fresh hdd
        refine ⟨?_, fv, cap, g, args, t1, t2, t3.mono ?_⟩
        · cases hu <;> intro c <;> cases c
        · rintro en f' w' ⟨m', q1, q2⟩
          have hmo' := hmo.trans q1
          cases en with
          | returned v => exact leave_ok hT hF hc hx (fun k v e => (hv k v e).mono q1.stp.le) (rds.mono q1.stp.le) q2 hmo' e
          | panicked c => exact leave_ok hT hF hc hx (fun k v e => (hv k v e).mono q1.stp.le) (rds.mono q1.stp.le) q2 hmo' e
          | outgrown => exact q2.elim
      · cases e

def HkOk (P : Program) (K : Hk) : Prop := CalOk P K

theorem callF_ok (hT : TbOk P T) (hF : FbOk P F) {K : Hk} (hK : HkOk P K) (hc : CalOk P cal) (hx : RunOk P ex) : CalOk P (callF T F K ex cal) := by
  intro f args h r e m w args' hr hf ha
  unfold callF at e
  split at e
  · rename_i e1 hk
    cases e
    exact hK _ _ _ _ hk m w args' hr hf ha
  · split at e
    · cases e
    · rename_i fn hfn
      refine ⟨(hF.ok _ _ hfn).2 _ _, ?_⟩
      split at e
      · rename_i c s hb hs
        obtain ⟨ag, hhp⟩ := start_ok hs ha
        refine calls_of_wp_defers (hF.ok _ _ hfn).1 hb ?_
        have hat : At P ⟨h, m, w⟩ s m (frameOf fn args'.toArray) w := ⟨by rw [hhp]; exact hr, ag, by rw [hhp]; exact hf, by rw [hhp]; exact Stp.refl _ _ _ _ _, by rw [hhp]; exact Nat.le_refl _⟩
        split at e
        · rename_i s1 h1
          refine wp_mono (hx _ _ _ _ h1 _ _ _ _ hat) ?_
          rintro e1 a' w' ⟨m', q1, q2⟩
          cases e1 with
          | normal => exact leave_ok hT hF hc hx q2.ag.val q2.ag.ds .ret ⟨q2.rep, q2.fresh, q2.stp, q2.nx⟩ e
          | _ => exact q1.elim
        · rename_i s1 h1
          refine wp_mono (hx _ _ _ _ h1 _ _ _ _ hat) ?_
          rintro e1 a' w' ⟨m', q1, q2⟩
          cases e1 with
          | ret => exact leave_ok hT hF hc hx q2.ag.val q2.ag.ds .ret ⟨q2.rep, q2.fresh, q2.stp, q2.nx⟩ e
          | _ => exact q1.elim
        · rename_i ch s1 h1
          refine wp_mono (hx _ _ _ _ h1 _ _ _ _ hat) ?_
          rintro e1 a' w' ⟨m', q1, q2⟩
          cases e1 with
          | panic c => exact leave_ok hT hF hc hx q2.ag.val q2.ag.ds (.panic q1) ⟨q2.rep, q2.fresh, q2.stp, q2.nx⟩ e
          | _ => exact q1.elim
        · cases e
      · cases e
end
end Go.Ev
