/-
  A run reckoned out: calls, what is deferred, what recovers; code.
-/
import Derived.Test.YtebhnbecjmdicaaGreatDoorEv10
namespace Go.Ev
set_option linter.unusedVariables false
set_option linter.unusedSimpArgs false
set_option linter.unusedSectionVars false
variable {X : Type} [ExtA X]

structure FbOk (P : Program) (F : Fb) : Prop where
  ok : ∀ f fn, F f = some fn → P.funcs[f]? = some fn ∧ ∀ args w, (callFunc f args).run P w = .ok (.enter f args) w

theorem sameV_eq {a b : Value} (h : sameV a b = true) : a = b := by
  cases a <;> cases b <;> simp only [sameV, Bool.false_eq_true] at h
  case bool.bool => simpa using h
  case int.int => simp only [Bool.and_eq_true, decide_eq_true_eq] at h; rw [h.1, h.2]
  case string.string a b =>
    have e := of_decide_eq_true h
    have : a = b := by apply ByteArray.ext; exact Array.ext' e
    rw [this]
  case pointer.pointer a b =>
    cases a <;> cases b <;> simp only [sameV, Bool.false_eq_true, Bool.and_eq_true] at h
    · rfl
    · rename_i a b
      obtain ⟨⟨⟨h1, h2⟩, h3⟩, h4⟩ := h
      have e1 := Nat.eq_of_beq_eq_true h1
      have e2 := Nat.eq_of_beq_eq_true h2
      cases a; cases b
      simp only at e1 e2 h3 h4
      rw [e1, e2, Option.isNone_iff_eq_none.1 h3, Option.isNone_iff_eq_none.1 h4]
  case slice.slice a l c b l' c' =>
    cases a <;> cases b <;> simp only [sameV, Bool.false_eq_true, Bool.and_eq_true] at h
    · rw [Nat.eq_of_beq_eq_true h.1, Nat.eq_of_beq_eq_true h.2]
    · rename_i a b
      obtain ⟨⟨⟨⟨⟨h1, h2⟩, h3⟩, h4⟩, h5⟩, h6⟩ := h
      have e1 := Nat.eq_of_beq_eq_true h1
      have e2 := Nat.eq_of_beq_eq_true h2
      cases a; cases b
      simp only at e1 e2 h3 h4
      rw [e1, e2, Option.isNone_iff_eq_none.1 h3, Option.isNone_iff_eq_none.1 h4, Nat.eq_of_beq_eq_true h5, Nat.eq_of_beq_eq_true h6]
  case map.map a b =>
    cases a <;> cases b <;> simp only [sameV, Bool.false_eq_true] at h
    · rfl
    · rw [Nat.eq_of_beq_eq_true h]
  case complex.complex k a b k' a' b' =>
    simp only [Bool.and_eq_true, decide_eq_true_eq] at h
    rw [h.1.1, Nat.eq_of_beq_eq_true h.1.2, Nat.eq_of_beq_eq_true h.2]
  all_goals rfl
theorem sameL_eq : ∀ {a b : List Value}, sameL a b = true → a = b
  | [], [], _ => rfl
  | [], _ :: _, h => by simp [sameL] at h
  | _ :: _, [], h => by simp [sameL] at h
  | a :: l, b :: m, h => by
    simp only [sameL, Bool.and_eq_true] at h
    rw [sameV_eq h.1, sameL_eq h.2]
theorem same1_eq {a b : Value} (h : same1 a b = true) : a = b := by
  unfold same1 at h
  split at h
  · simp only [Bool.and_eq_true] at h
    rw [Nat.eq_of_beq_eq_true h.1.1, Array.ext' (sameL_eq h.1.2), Array.ext' (sameL_eq h.2)]
  · exact sameV_eq h
theorem sameM_eq : ∀ {a b : List Value}, sameM a b = true → a = b
  | [], [], _ => rfl
  | [], _ :: _, h => by simp [sameM] at h
  | _ :: _, [], h => by simp [sameM] at h
  | a :: l, b :: m, h => by
    simp only [sameM, Bool.and_eq_true] at h
    rw [same1_eq h.1, sameM_eq h.2]
theorem same0_eq {a b : Value} (h : same0 a b = true) : a = b := by
  unfold same0 at h
  split at h
  · rw [Array.ext' (sameL_eq h)]
  · rw [Array.ext' (sameM_eq h)]
  · exact same1_eq h
theorem same_eq {a b : Value} (h : same a b = true) : a = b := by
  unfold same at h
  rw [Bool.or_eq_true] at h
  rcases h with h | h
  · exact same0_eq h
  · simpa using h

section
variable {P : Program} {T : Tb} {F : Fb} {cal : (Cal X)} {ex : (Run X)} {b : (Bs X)} {s s' : (St X)} {m : Mp} {a : Act} {w : World}

theorem envOf_get : ∀ (l : List Value) (k : Nat) (t : Tr Value) (j : Nat) (v : Value), k + l.length < 1000001 → (envOf k l t).get j = some v → (∃ i, j = k + i ∧ l[i]? = some v) ∨ t.get j = some v
  | [], k, t, j, v, hl, h => .inr h
  | x :: l, k, t, j, v, hl, h => by
    simp only [List.length_cons] at hl
    rcases envOf_get l (k + 1) _ j v (by omega) h with ⟨i, h1, h2⟩ | h1
    · exact .inl ⟨i + 1, by omega, by simpa using h2⟩
    · rw [Tr.get_put20 _ _ _ _ (by omega)] at h1
      split at h1
      · rename_i hj; cases h1; exact .inl ⟨0, by omega, rfl⟩
      · exact .inr h1

def frameOf (fn : Func) (args : Array Value) : Act := { tmps := args ++ Array.replicate (fn.ntmps - args.size) undef, defers := [] }
theorem start_ok {fn : Func} {args args' : List Value} {h : (Hp X)} (e : start fn args h = some s) (hr : RVs m args args') : Ag m s (frameOf fn args'.toArray) ∧ s.hp = h := by
  unfold start at e
  cases hb : (Nat.ble args.length fn.ntmps && Nat.blt args.length 1000) with
  | false => rw [hb] at e; cases e
  | true =>
    rw [hb] at e
    cases e
    simp only [Bool.and_eq_true, Nat.blt_eq] at hb
    have hle := Nat.le_of_ble_eq_true hb.1
    have hl := hr.len
    refine ⟨⟨by simp [frameOf]; omega, fun k v hk => ?_, .nil⟩, rfl⟩
    rcases envOf_get args 0 .nil k v (by omega) hk with ⟨i, h1, h2⟩ | h1
    · obtain ⟨v', h3, h4⟩ := hr.at h2
      rw [Nat.zero_add] at h1
      subst h1
      have hlt := (List.getElem?_eq_some_iff.1 h3).1
      have : (frameOf fn args'.toArray).tmps.getD k undef = v' := by
        show (args'.toArray ++ _).getD k undef = v'
        rw [Array.getD_eq_getD_getElem?, Array.getElem?_append_left (by simpa using hlt)]
        simp [h3]
      rw [this]
      exact h4
    · cases h1

def resF (tmps : Array Value) : ResultVar → Sem Value
  | .tmp t => pure (tmps.getD t undef)
  | .cell a t => do loadVar t (← asAddr (tmps.getD a undef))
theorem results_eq (fn : Func) (tmps : Array Value) : results fn tmps = (do let vs ← fn.results.mapM (resF tmps); pure (if h : vs.size = 1 then vs[0] else .tuple vs)) := by
  unfold results
  congr 1
theorem resl_ok (hT : TbOk P T) {h : (Hp X)} (hr : Rep P m h.at w) {env : Tr Value} {tmps : Array Value} (hv : ∀ k v, env.get k = some v → RV m v (tmps.getD k undef)) : ∀ {l : List ResultVar} {vs : List Value}, resl T h env l = some vs →
    ∃ vs', RVs m vs vs' ∧ (l.mapM (resF tmps)).run P w = .ok vs' w
  | [], vs, e => by cases e; exact ⟨[], .nil, rfl⟩
  | .tmp t :: l, vs, e => by
    unfold resl at e
    split at e
    · rename_i v r h1 h2
      cases e
      obtain ⟨vs', r1, r2⟩ := resl_ok hT hr hv h2
      refine ⟨_, .cons (hv _ _ h1) r1, ?_⟩
      simp only [List.mapM_cons, resF, Sem.run_bind, Sem.run_pure, Result.andThen_ok, r2]
    · cases e
  | .cell x t :: l, vs, e => by
    unfold resl at e
    split at e
    · rename_i ad h1
      obtain ⟨bl, y, ha, hb, hm⟩ := (hv _ _ h1).ptr_inv
      split at e
      · rename_i v r h2 h3
        cases e
        obtain ⟨vs', r1, r2⟩ := resl_ok hT hr hv h3
        obtain ⟨v', q1, q2⟩ := ldv_ok hT hr h2 hm
        refine ⟨_, .cons q1 r1, ?_⟩
        have q3 : (resF tmps (.cell x t)).run P w = .ok v' w := by
          simp only [resF, Sem.run_bind, hb, asAddr, Sem.run_pure, Result.andThen_ok, q2]
        simp only [List.mapM_cons, Sem.run_bind, q3, Sem.run_pure, Result.andThen_ok, r2]
      · cases e
    · cases e
theorem resv_ok (hT : TbOk P T) {h : (Hp X)} (hr : Rep P m h.at w) {env : Tr Value} {tmps : Array Value} (hv : ∀ k v, env.get k = some v → RV m v (tmps.getD k undef)) {fn : Func} {v : Value} (e : resv T h env fn.results.toList = some v) :
    ∃ v', RV m v v' ∧ (results fn tmps).run P w = .ok v' w := by
  unfold resv at e
  have key : ∀ {vs : List Value}, resl T h env fn.results.toList = some vs → ∃ vs', RVs m vs vs' ∧ (results fn tmps).run P w = .ok (if h : vs'.toArray.size = 1 then vs'.toArray[0] else .tuple vs'.toArray) w := by
    intro vs hvs
    obtain ⟨vs', r1, r2⟩ := resl_ok hT hr hv hvs
    refine ⟨vs', r1, ?_⟩
    rw [results_eq, Sem.run_bind, Array.mapM_eq_mapM_toList, map_eq_pure_bind, Sem.run_bind, r2]
    rfl
  split at e
  · rename_i u hu
    cases e
    obtain ⟨vs', r1, r2⟩ := key hu
    cases r1 with
    | cons q1 q2 =>
      cases q2
      exact ⟨_, q1, r2⟩
  · rename_i vs hne hu
    cases e
    obtain ⟨vs', r1, r2⟩ := key hu
    have hl := r1.len
    refine ⟨_, .tuple (c' := vs'.toArray) (by simpa using r1), ?_⟩
    rw [r2, dif_neg]
    intro c
    simp only [List.size_toArray] at c
    rw [hl] at c
    match vs, c with
    | [u], _ => exact hne u rfl
  · cases e

inductive MdR (m : Mp) : Md → FrameMode → Prop where
  | ret : MdR m .ret .returning
  | panic {ch : Ch} {c : List PanicEntry} : RCh m ch c → MdR m (.panic ch) (.panicking c)
theorem MdR.mono {m m' : Mp} (h : m.le m') {u : Md} {f : FrameMode} (r : MdR m u f) : MdR m' u f := by
  cases r with
  | ret => exact .ret
  | panic r => exact .panic (r.mono h)
theorem RCh.noexit : ∀ {ch : Ch} {c : List PanicEntry}, RCh m ch c → c.dropWhile (fun x => !x.goexit) = []
  | _, _, .nil => rfl
  | _, _, .cons r s => by simp [RCh.noexit s]
theorem MdR.settle {u : Md} {f : FrameMode} (r : MdR m u f) : MdR m (settleM u) (Go.settle f) := by
  cases r with
  | ret => exact .ret
  | panic r =>
    cases r with
    | nil => exact .panic .nil
    | cons r1 r2 =>
      rename_i t v v' rc l l'
      cases rc with
      | true =>
        simp only [settleM, Go.settle]
        rw [r2.noexit]
        exact .ret
      | false =>
        simp only [settleM, Go.settle]
        exact .panic (.cons r1 r2)
theorem MdR.raised {u : Md} {f : FrameMode} (r : MdR m u f) {ch : Ch} {c : List PanicEntry} (rc : RCh m ch c) : MdR m (raisedM u ch) (Go.raised f c) := by
  cases r with
  | ret => exact .panic rc
  | panic r => exact .panic (rc.append r)

/-- that a run of code does what the function says -/
def RunOk (P : Program) (ex : (Run X)) : Prop := ∀ c s L, ex c s = some L → ∀ b m a w, At P b s m a w → c.wp P (LPost P b L) a w

theorem RDs.nil_inv {l : List Deferred} (h : RDs m [] l) : l = [] := by cases h; rfl

def RecPost (P : Program) (b : (Bs X)) (r : Ex) (s' : (St X)) (u' : Md) (c₀ : Frame) (cs : List Frame) : Exit → Act → List Frame → World → Prop := fun e a' cs' w' =>
  ∃ m' f', ExR m' r e ∧ At P b s' m' a' w' ∧ cs' = { c₀ with mode := f' } :: cs ∧ MdR b.m u' f'

theorem recOps_ok (hT : TbOk P T) (hc : CalOk P cal) {ops : List Oper} {c₀ : Frame} {cs : List Frame} {Q : Exit → Act → List Frame → World → Prop} : ∀ {l : List Oper} {k : Nat} {s s' : (St X)} {m : Mp} {a : Act} {w : World} {r : Ex} {u u' : Md} {f : FrameMode}, l = ops.drop k → At P b s m a w → MdR b.m u f → recOps T cal ops l s u = some (r, s', u') →
    (∀ e a' cs' w', RecPost P b r s' u' c₀ cs e a' cs' w' → Q e a' cs' w') → wpOpsS P ops.toArray Q (List.range' k l.length) a ({ c₀ with mode := f } :: cs) w
  | [], k, s, s', m, a, w, r, u, u', f, hl, h, hu, e, hq => by
    cases e
    exact hq _ _ _ _ ⟨m, f, trivial, h, rfl, hu⟩
  | o :: l, k, s, s', m, a, w, r, u, u', f, hl, h, hu, e, hq => by
    have hok : ops.toArray[k]? = some o := by
      rw [List.getElem?_toArray]
      have : (ops.drop k)[0]? = some o := by rw [← hl]; rfl
      simpa using this
    have hl' : l = ops.drop (k + 1) := by
      rw [← List.tail_drop, ← hl]; rfl
    rw [List.length_cons, List.range'_succ]
    unfold wpOpsS
    simp only [hok]
    unfold recOps at e
    split at e
    · rename_i hw
      rw [if_pos (wantd_ok h.ag.val hw)]
      have recCase : ∀ {as ts}, o.op = .call ⟨.builtin .recover, as, ts⟩ → (execOp a.eval o).run P w = .ok .recover w := by
        intro as ts ho
        obtain ⟨dst, op, ty, pos, af, gd⟩ := o
        simp only at ho
        subst ho
        rfl
      split at e
      · rename_i as ts ho
        have hrun := recCase ho
        rw [hrun]
        simp only
        split at e
        · rename_i t v older
          cases hu with
          | panic rc =>
            cases rc with
            | cons r1 r2 =>
              rename_i v' l'
              simp only [recoverD]
              split at e
              · rename_i s1 hs
                exact recOps_ok hT hc hl' (h.put hs (.iface (r1.mono h.stp.le)) h.rep (Stp.refl _ _ _ _ _) (Nat.le_refl _)) (.panic (.cons r1 r2)) e hq
              · cases e
        · cases hu
          simp only [recoverD]
          split at e
          · rename_i s1 hs
            exact recOps_ok hT hc hl' (h.put hs (.scal rfl) h.rep (Stp.refl _ _ _ _ _) (Nat.le_refl _)) .ret e hq
          · cases e
        · cases e
      · rename_i hno
        have hnr : ∀ w', (execOp a.eval o).run P w ≠ .ok .recover w' := by
          intro w' hrun
          have key : o.wp P a w (fun _ _ => True) (fun _ _ _ => True) ∨ stepOp T cal o s = none := by
            cases hst : stepOp T cal o s with
            | none => exact .inr rfl
            | some p =>
              obtain ⟨ex1, s1⟩ := p
              exact .inl (stepOp_ok hT hc h hst _ _ (fun _ _ _ _ _ => trivial) (fun _ _ _ _ _ _ _ _ => trivial))
          rcases key with key | key
          · unfold Oper.wp at key
            rw [hrun] at key
            exact key
          · rw [key] at e; cases e
        have plainCase : o.wp P a w (fun a' w' => wpOpsS P ops.toArray Q (List.range' (k + 1) l.length) a' ({ c₀ with mode := f } :: cs) w') (fun e a' w' => Q e a' ({ c₀ with mode := f } :: cs) w') := by
          split at e
          · rename_i s1 hs
            exact stepOp_ok hT hc h hs _ _ (fun _ m' a' w' h' => recOps_ok hT hc hl' h' hu e hq) (fun ch _ _ _ _ c => by cases c)
          · rename_i r1 s1 hne hs
            cases e
            refine stepOp_ok hT hc h hs _ _ (fun c m' a' w' h' => ?_) (fun ch m' c a' w' c1 c2 h' => ?_)
            · subst c; exact absurd rfl hne
            · subst c1
              exact hq _ _ _ _ ⟨m', f, c2, h', rfl, hu⟩
          · cases e
        unfold Oper.wp at plainCase
        generalize hrr : (execOp a.eval o).run P w = rr at plainCase hnr
        cases rr with
        | ok n w1 => cases n <;> first | exact plainCase | exact absurd rfl (hnr _)
        | halt x w1 => exact plainCase
    · rename_i hw
      have hw' := wantd_ok h.ag.val hw
      rw [hw', if_neg (by simp)]
      split at e
      · rename_i s1 hs
        exact recOps_ok hT hc hl' (h.put (v' := undef) hs (.tuple .nil) h.rep (Stp.refl _ _ _ _ _) (Nat.le_refl _)) hu e hq
      · cases e
    · cases e

theorem recov_ok (hT : TbOk P T) (hc : CalOk P cal) (hx : RunOk P ex) {c₀ : Frame} {cs : List Frame} : ∀ {c : Code} {s s' : (St X)} {m : Mp} {a : Act} {w : World} {r : Ex} {u u' : Md} {f : FrameMode}, At P b s m a w → MdR b.m u f → recov T ex cal c s u = some (r, s', u') →
    c.wpS P (RecPost P b r s' u' c₀ cs) a ({ c₀ with mode := f } :: cs) w := by
  intro c
  have dflt : ∀ {c : Code} {s s' : (St X)} {m : Mp} {a : Act} {w : World} {r : Ex} {u u' : Md} {f : FrameMode}, At P b s m a w → MdR b.m u f → (match ex c s with
      | some [(e, s')] => some (e, s', u)
      | _ => none) = some (r, s', u') → c.wpS P (RecPost P b r s' u' c₀ cs) a ({ c₀ with mode := f } :: cs) w := by
    intro c s s' m a w r u u' f h hu e
    split at e
    · rename_i r1 s1 h1
      cases e
      refine wpS_of_wp (wp_mono (hx _ _ _ h1 _ _ _ _ h) ?_)
      rintro e a' w' ⟨p, m', q0, q1, q2⟩
      obtain rfl := List.mem_singleton.1 q0
      exact ⟨m', f, q1, q2, rfl, hu⟩
    · cases e
  induction c with
  | seq x y ihx ihy =>
    intro s s' m a w r u u' f h hu e
    unfold recov at e
    split at e
    · rename_i s1 u1 h1
      refine wpS_seq ?_
      have := ihx h hu h1
      intro bb k hb hr
      obtain ⟨e1, a1, cs1, w1, q, arr⟩ := this bb k hb hr
      refine ⟨e1, a1, cs1, w1, ?_, arr⟩
      obtain ⟨m1, f1, q1, q2, rfl, q4⟩ := q
      cases e1 with
      | normal => exact ihy q2 q4 e
      | _ => exact q1.elim
    · rename_i hne
      refine wpS_seq ?_
      have := ihx h hu e
      intro bb k hb hr
      obtain ⟨e1, a1, cs1, w1, q, arr⟩ := this bb k hb hr
      refine ⟨e1, a1, cs1, w1, ?_, arr⟩
      obtain ⟨m1, f1, q1, q2, q3, q4⟩ := q
      cases e1 with
      | normal =>
        cases r with
        | normal => exact absurd e (hne _ _)
        | _ => exact q1.elim
      | _ => exact ⟨m1, f1, q1, q2, q3, q4⟩
  | cond c x y ihx ihy =>
    intro s s' m a w r u u' f h hu e
    unfold recov at e
    split at e
    · rename_i hv
      exact wpS_cond (t := true) (h.ag.evs _ _ hv).bool_inv (ihx h hu e)
    · rename_i hv
      exact wpS_cond (t := false) (h.ag.evs _ _ hv).bool_inv (ihy h hu e)
    · cases e
  | region id ops draw =>
    intro s s' m a w r u u' f h hu e
    cases draw with
    | false =>
      refine wpS_region ?_
      have := recOps_ok (c₀ := c₀) (cs := cs) hT hc (ops := ops.toList) (k := 0) rfl h hu e (fun _ _ _ _ hh => hh)
      simpa [List.range_eq_range'] using this
    | true => exact dflt h hu e
  | _ => intro s s' m a w r u u' f h hu e; exact dflt h hu e

/-- memory between the deferred calls -/
theorem defd_ok (hT : TbOk P T) (hF : FbOk P F) (hc : CalOk P cal) (hx : RunOk P ex) {d : Df} {d' : Deferred} {u u' : Md} {f : FrameMode} {h h' : (Hp X)} (hd : RD m d d') (hu : MdR m u f) (hr : Rep P m h.at w) (hf : ∀ k, h.nx ≤ k → m k = none) (ht : ∀ k, h.nx ≤ k → h.at k = none)
    (e : defd T F ex cal d u h = some (u', h')) : ∃ fv cap g args, d'.target = .fn fv cap ∧ (invoke d'.target d'.args).run P w = .ok (.enter g args) w ∧
      CallsD P g args f w fun en f' w' => ∃ m', Mo P ⟨h, m, w⟩ h' m' w' ∧ (match en with
        | .returned _ => MdR m' u' (Go.settle f')
        | .panicked chain => MdR m' u' (Go.raised f' chain)
        | .outgrown => False) := by
  obtain ⟨args', cap', rfl, ra, rc⟩ := hd.ex
  refine ⟨_, _, d.f, args'.toArray ++ cap'.toArray, rfl, ?_, ?_⟩
  · unfold defd at e
    split at e
    · cases e
    · rename_i fn hfn
      exact (hF.ok _ _ hfn).2 _ _
  · unfold defd at e
    split at e
    · cases e
    · rename_i fn hfn
      split at e
      · rename_i c s hb hs
        obtain ⟨ag, hhp⟩ := start_ok hs (ra.append rc)
        refine callsD_of_wpS (hF.ok _ _ hfn).1 hb ?_
        intro c₀ cs hu0
        have eqA : (args'.toArray ++ cap'.toArray : Array Value) = (args' ++ cap').toArray := by apply Array.ext'; simp
        rw [eqA]
        have hat : At P ⟨h, m, w⟩ s m (frameOf fn (args' ++ cap').toArray) w := ⟨by rw [hhp]; exact hr, ag, by rw [hhp]; exact hf, by rw [hhp]; exact Stp.refl _ _ _ _ _, by rw [hhp]; exact Nat.le_refl _, by rw [hhp]; exact ht⟩
        have hmode : c₀ = { c₀ with mode := f } := by cases c₀; subst hu0; rfl
        have main : ∀ {r : Ex} {s1 : (St X)} {u1 : Md}, recov T ex cal c s u = some (r, s1, u1) → c.wpS P (RecPost P ⟨h, m, w⟩ r s1 u1 c₀ cs) (frameOf fn (args' ++ cap').toArray) (c₀ :: cs) w := by
          intro r s1 u1 h1
          have := recov_ok (c₀ := c₀) (cs := cs) hT hc hx hat hu h1
          rw [← hmode] at this
          exact this
        have ends : ∀ {r : Ex} {s1 : (St X)} {u1 : Md}, (r = .normal ∨ r = .ret) → recov T ex cal c s u = some (r, s1, u1) → defd.fin T s1 u1 fn = some (u', h') →
            c.wpS P (bodyPostS P fn c₀ cs (fun en f' w' => ∃ m', Mo P ⟨h, m, w⟩ h' m' w' ∧ (match en with
        | .returned _ => MdR m' u' (Go.settle f')
        | .panicked chain => MdR m' u' (Go.raised f' chain)
        | .outgrown => False))) (frameOf fn (args' ++ cap').toArray) (c₀ :: cs) w := by
          intro r s1 u1 hr1 h1 h2
          have hmain := main h1
          intro bb k hb2 hro
          obtain ⟨e1, a1, cs1, w1, ⟨m1, f1, q1, q2, rfl, q4⟩, arr⟩ := hmain bb k hb2 hro
          refine ⟨e1, a1, _, w1, ?_, arr⟩
          unfold defd.fin at h2
          cases hds : s1.ds.isEmpty with
          | false => rw [hds] at h2; cases h2
          | true =>
            rw [hds, cond_true] at h2
            split at h2
            · rename_i v hv
              cases h2
              obtain ⟨v', _, hrun⟩ := resv_ok hT q2.rep q2.ag.val hv
              have hds' : a1.defers = [] := by
                have := q2.ag.ds
                have hnil : s1.ds = [] := by simpa using hds
                rw [hnil] at this
                exact this.nil_inv
              have fin : a1.defers = [] ∧ ∃ u'', ({ c₀ with mode := f1 } :: cs : List Frame) = { c₀ with mode := u'' } :: cs ∧ ∃ v, (results fn a1.tmps).run P w1 = .ok v w1 ∧ ∃ m', Mo P ⟨h, m, w⟩ s1.hp m' w1 ∧ MdR m' (settleM u1) (Go.settle u'') :=
                ⟨hds', f1, rfl, v', hrun, m1, ⟨q2.rep, q2.fresh, q2.stp, q2.nx, q2.top⟩, (q4.mono q2.stp.le).settle⟩
              cases e1 with
              | normal => exact fin
              | ret => exact fin
              | _ => rcases hr1 with rfl | rfl <;> exact q1.elim
            · cases h2
        split at e
        · rename_i s1 u1 h1
          exact ends (.inl rfl) h1 e
        · rename_i s1 u1 h1
          exact ends (.inr rfl) h1 e
        · rename_i ch s1 u1 h1
          cases hds : s1.ds.isEmpty with
          | false => rw [hds] at e; cases e
          | true =>
            rw [hds] at e
            cases e
            have hmain := main h1
            intro bb k hb2 hro
            obtain ⟨e1, a1, cs1, w1, ⟨m1, f1, q1, q2, rfl, q4⟩, arr⟩ := hmain bb k hb2 hro
            refine ⟨e1, a1, _, w1, ?_, arr⟩
            cases e1 with
            | panic chain =>
              have hds' : a1.defers = [] := by
                have := q2.ag.ds
                have hnil : s1.ds = [] := by simpa using hds
                rw [hnil] at this
                exact this.nil_inv
              exact ⟨hds', f1, rfl, m1, ⟨q2.rep, q2.fresh, q2.stp, q2.nx, q2.top⟩, (q4.mono q2.stp.le).raised q1⟩
            | _ => exact q1.elim
        · cases e
      · cases e

theorem Mo.trans {h1 h2 : (Hp X)} {m1 m2 : Mp} {w1 w2 : World} (x : Mo P b h1 m1 w1) (y : Mo P ⟨h1, m1, w1⟩ h2 m2 w2) : Mo P b h2 m2 w2 :=
  ⟨y.rep, y.fresh, x.stp.trans y.stp x.nx y.nx, Nat.le_trans x.nx y.nx, y.top⟩

theorem leave_ok (hT : TbOk P T) (hF : FbOk P F) (hc : CalOk P cal) (hx : RunOk P ex) {fn : Func} {env : Tr Value} {tmps : Array Value} : ∀ {ds : List Df} {ds' : List Deferred} {u : Md} {f : FrameMode} {h : (Hp X)} {m : Mp} {w : World} {r : (En X)}, (∀ k v, env.get k = some v → RV m v (tmps.getD k undef)) → RDs m ds ds' → MdR m u f → Mo P b h m w →
    leave T F ex cal fn env ds u h = some r → Leaves P fn tmps (EnR P b r) ds' f w
  | [], ds', u, f, h, m, w, r, hv, hd, hu, hmo, e => by
    cases hd
    cases hu with
    | ret =>
      simp only [leave] at e
      split at e
      · rename_i v hres
        cases e
        obtain ⟨v', r1, r2⟩ := resv_ok hT hmo.rep hv hres
        exact ⟨v', r2, m, v', rfl, r1, hmo⟩
      · cases e
    | panic rc =>
      simp only [leave] at e
      cases e
      exact ⟨m, _, rfl, rc, hmo⟩
  | d :: ds, ds', u, f, h, m, w, r, hv, hd, hu, hmo, e => by
    cases hd with
    | cons rd rds =>
      unfold leave at e
      split at e
      · rename_i u1 h1 hdd
        obtain ⟨fv, cap, g, args, t1, t2, t3⟩ := defd_ok hT hF hc hx rd hu hmo.rep hmo.fresh hmo.top hdd
        refine ⟨?_, fv, cap, g, args, t1, t2, t3.mono ?_⟩
        · cases hu <;> intro c <;> cases c
        · rintro en f' w' ⟨m', q1, q2⟩
          have hmo' := hmo.trans q1
          cases en with
          | returned v => exact leave_ok hT hF hc hx (fun k v e => (hv k v e).mono q1.stp.le) (rds.mono q1.stp.le) q2 hmo' e
          | panicked c => exact leave_ok hT hF hc hx (fun k v e => (hv k v e).mono q1.stp.le) (rds.mono q1.stp.le) q2 hmo' e
          | outgrown => exact q2.elim
      · cases e

def HkOk (P : Program) (K : (Hk X)) : Prop := CalOk P K

theorem ens_mem {f : Ex × (St X) → Option (En X)} : ∀ {l : List (Ex × (St X))} {r : List (En X)}, ens f l = some r → ∀ x ∈ l, ∃ e, f x = some e ∧ e ∈ r
  | [], r, e, x, hx => by cases hx
  | z :: l, r, e, x, hx => by
    unfold ens at e
    split at e
    · rename_i a ha
      split at e
      · rename_i b hb
        cases e
        rcases List.mem_cons.1 hx with rfl | hx
        · exact ⟨a, ha, List.mem_cons_self⟩
        · obtain ⟨a', h1, h2⟩ := ens_mem hb x hx
          exact ⟨a', h1, List.mem_cons_of_mem _ h2⟩
      · cases e
    · cases e

mutual
theorem alike_eq : ∀ (n : Nat) {a b : Value}, alike n a b = true → a = b
  | 0, a, b, h => by simp [alike] at h
  | n + 1, a, b, h => by
    unfold alike at h
    split at h
    · simp only [Bool.and_eq_true] at h
      rw [Nat.eq_of_beq_eq_true h.1, alike_eq n h.2]
    · simp only [Bool.and_eq_true] at h
      rw [Nat.eq_of_beq_eq_true h.1.1, Array.ext' (alikeL_eq n h.1.2), Array.ext' (alikeL_eq n h.2)]
    · rw [Array.ext' (alikeL_eq n h)]
    · rw [Array.ext' (alikeL_eq n h)]
    · exact sameV_eq h
theorem alikeL_eq : ∀ (n : Nat) {a b : List Value}, alikeL n a b = true → a = b
  | 0, a, b, h => by simp [alikeL] at h
  | n + 1, [], [], h => rfl
  | n + 1, [], _ :: _, h => by simp [alikeL] at h
  | n + 1, _ :: _, [], h => by simp [alikeL] at h
  | n + 1, a :: l, b :: m, h => by
    simp only [alikeL, Bool.and_eq_true] at h
    rw [alike_eq n h.1, alikeL_eq n h.2]
end
theorem alikeC_eq : ∀ {a b : List Value}, alikeC a b = true → a = b
  | [], [], h => rfl
  | [], _ :: _, h => by simp [alikeC] at h
  | _ :: _, [], h => by simp [alikeC] at h
  | a :: l, b :: m, h => by
    simp only [alikeC, Bool.and_eq_true] at h
    rw [alike_eq 50 h.1, alikeC_eq h.2]
theorem alikeE_eq : ∀ {a b : List MapEntry}, alikeE a b = true → a = b
  | [], [], h => rfl
  | [], _ :: _, h => by simp [alikeE] at h
  | _ :: _, [], h => by simp [alikeE] at h
  | a :: l, b :: m, h => by
    simp only [alikeE, Bool.and_eq_true] at h
    obtain ⟨⟨⟨h1, h2⟩, h3⟩, h4⟩ := h
    have : a = b := by
      cases a; cases b
      simp only at h1 h2 h3
      rw [alike_eq 50 h1, alike_eq 50 h2, Nat.eq_of_beq_eq_true h3]
    rw [this, alikeE_eq h4]
theorem alikeO_eq {a b : (Ob X)} (h : alikeO a b = true) : a = b := by
  unfold alikeO at h
  split at h
  · simp only [Bool.and_eq_true] at h
    rw [alikeC_eq h.1.1, Nat.eq_of_beq_eq_true h.1.2, eq_of_beq h.2]
  · simp only [Bool.and_eq_true] at h
    rw [alikeE_eq h.1, Nat.eq_of_beq_eq_true h.2]
  · simp only [Bool.and_eq_true, decide_eq_true_eq] at h
    obtain ⟨⟨⟨h1, h2⟩, h3⟩, h4⟩ := h
    rw [h1, Nat.eq_of_beq_eq_true h2, h3, Nat.eq_of_beq_eq_true h4]
  · cases h
theorem alikeCh_eq : ∀ {a b : Ch}, alikeCh a b = true → a = b
  | [], [], h => rfl
  | [], _ :: _, h => by simp [alikeCh] at h
  | _ :: _, [], h => by simp [alikeCh] at h
  | (t, v, r) :: l, (t', v', r') :: m, h => by
    simp only [alikeCh, Bool.and_eq_true] at h
    obtain ⟨⟨⟨h1, h2⟩, h3⟩, h4⟩ := h
    rw [Nat.eq_of_beq_eq_true h1, alike_eq 50 h2, eq_of_beq h3, alikeCh_eq h4]
theorem joinT_get : ∀ {a b : Tr (Ob X)} {k : Nat} {o : (Ob X)}, (joinT a b).get k = some o → a.get k = some o ∧ b.get k = some o
  | .nil, b, k, o, h => by cases b <;> simp [joinT, Tr.get_nil] at h
  | .node l v r, .nil, k, o, h => by simp [joinT, Tr.get_nil] at h
  | .node l v r, .node l' v' r', k, o, h => by
    simp only [joinT, Tr.get_nil, Tr.get_node] at h ⊢
    cases hk : Nat.beq k 0 with
    | true =>
      rw [hk] at h
      simp only [cond_true] at h ⊢
      split at h
      · rename_i x y
        cases ha : alikeO x y with
        | false => rw [ha] at h; cases h
        | true => rw [ha] at h; cases h; exact ⟨rfl, by rw [alikeO_eq ha]⟩
      · cases h
    | false =>
      rw [hk] at h
      simp only [cond_false] at h ⊢
      cases hb : Nat.beq ((k - 1) % 2) 0 with
      | true => rw [hb] at h; exact joinT_get h
      | false => rw [hb] at h; exact joinT_get h

/-- less is known of the memory -/
theorem Mo.less {h1 h2 : (Hp X)} {m' : Mp} {w' : World} (x : Mo P b h1 m' w') (hs : ∀ k o, h2.at k = some o → h1.at k = some o) (hn : h1.nx ≤ h2.nx) : Mo P b h2 m' w' := by
  have hne : ∀ k, h2.at k ≠ none → h1.at k ≠ none := fun k e => by
    obtain ⟨o, ho⟩ := Option.ne_none_iff_exists'.1 e
    rw [hs k o ho]; simp
  refine ⟨x.rep.less hs, fun k hk => x.fresh k (by omega), ?_, by have := x.nx; omega, fun k hk => by
    cases hg : h2.at k with
    | none => rfl
    | some o =>
      have := x.top k (by omega)
      rw [hs k o hg] at this; cases this⟩
  have s := x.stp
  exact ⟨s.le, fun k e => by have := s.new k e; omega, fun k b' y e => s.own k b' y (hne k e), fun k e => (s.dom k (hne k e)).imp id (fun c => by omega), s.keep, fun k y b' e e1 => s.ter k y b' (hs _ _ e) e1, fun k e e1 => s.nter k e (by omega), s.size, s.os, s.tape, s.out⟩
def En.le (r r' : (En X)) : Prop := ∀ (P : Program) (b : (Bs X)) (e : Ending) (w' : World), EnR P b r e w' → EnR P b r' e w'
theorem joinN_le {a b r : (En X)} (h : joinN a b = some r) : a.le r ∧ b.le r := by
  unfold joinN at h
  have ja : ∀ (x y : (Hp X)) k o, (joinH x y).at k = some o → x.at k = some o ∧ y.at k = some o := fun x y k o e => joinT_get e
  split at h
  · rename_i v h1 v' h2
    cases ha : alike 50 v v' with
    | false => rw [ha] at h; cases h
    | true =>
      rw [ha] at h
      cases h
      have := alike_eq 50 ha
      subst this
      exact ⟨fun P b e w' ⟨m', u, q1, q2, q3⟩ => ⟨m', u, q1, q2, q3.less (fun k o e => (ja _ _ k o e).1) (Nat.le_max_left _ _)⟩, fun P b e w' ⟨m', u, q1, q2, q3⟩ => ⟨m', u, q1, q2, q3.less (fun k o e => (ja _ _ k o e).2) (Nat.le_max_right _ _)⟩⟩
  · rename_i c h1 c' h2
    cases ha : alikeCh c c' with
    | false => rw [ha] at h; cases h
    | true =>
      rw [ha] at h
      cases h
      have := alikeCh_eq ha
      subst this
      exact ⟨fun P b e w' ⟨m', u, q1, q2, q3⟩ => ⟨m', u, q1, q2, q3.less (fun k o e => (ja _ _ k o e).1) (Nat.le_max_left _ _)⟩, fun P b e w' ⟨m', u, q1, q2, q3⟩ => ⟨m', u, q1, q2, q3.less (fun k o e => (ja _ _ k o e).2) (Nat.le_max_right _ _)⟩⟩
  · cases h
theorem joinAll_le : ∀ {l : List (En X)} {a r : (En X)}, joinAll a l = some r → a.le r ∧ ∀ x ∈ l, x.le r
  | [], a, r, h => by cases h; exact ⟨fun _ _ _ _ h => h, fun x hx => by cases hx⟩
  | y :: l, a, r, h => by
    unfold joinAll at h
    split at h
    · rename_i e' he
      obtain ⟨h1, h2⟩ := joinN_le he
      obtain ⟨h3, h4⟩ := joinAll_le h
      refine ⟨fun P b e w' q => h3 _ _ _ _ (h1 _ _ _ _ q), fun x hx => ?_⟩
      rcases List.mem_cons.1 hx with rfl | hx
      · exact fun P b e w' q => h3 _ _ _ _ (h2 _ _ _ _ q)
      · exact h4 x hx
    · cases h
theorem oneOf_le {l : List (En X)} {r : (En X)} (h : oneOf l = some r) : ∀ x ∈ l, x.le r := by
  cases l with
  | nil => cases h
  | cons a l =>
    obtain ⟨h1, h2⟩ := joinAll_le h
    intro x hx
    rcases List.mem_cons.1 hx with rfl | hx
    · exact h1
    · exact h2 x hx

theorem Leaves.monoR {P : Program} {fn : Func} {tmps : Array Value} {R R' : Ending → World → Prop} (h : ∀ e w, R e w → R' e w) : ∀ {ds : List Deferred} {u : FrameMode} {w : World}, Leaves P fn tmps R ds u w → Leaves P fn tmps R' ds u w
  | [], .returning, w, ⟨v, h1, h2⟩ => ⟨v, h1, h _ _ h2⟩
  | [], .panicking c, w, h1 => h _ _ h1
  | [], .run, w, h1 => h1.elim
  | d :: ds, u, w, ⟨h1, fv, cap, f, args, h2, h3, h4⟩ => ⟨h1, fv, cap, f, args, h2, h3, h4.mono fun e u' w' he => by
      cases e with
      | returned v => exact Leaves.monoR h he
      | panicked c => exact Leaves.monoR h he
      | outgrown => exact h _ _ he⟩

theorem callF_ok (hT : TbOk P T) (hF : FbOk P F) {K : (Hk X)} (hK : HkOk P K) (hc : CalOk P cal) (hx : RunOk P ex) : CalOk P (callF T F K ex cal) := by
  intro f args h r e m w args' hr hf ht ha
  unfold callF at e
  split at e
  · rename_i e1 hk
    cases e
    exact hK _ _ _ _ hk m w args' hr hf ht ha
  · split at e
    · cases e
    · rename_i fn hfn
      refine ⟨(hF.ok _ _ hfn).2 _ _, ?_⟩
      split at e
      · rename_i c s hb hs
        obtain ⟨ag, hhp⟩ := start_ok hs ha
        refine calls_of_wp_defers (hF.ok _ _ hfn).1 hb ?_
        have hat : At P ⟨h, m, w⟩ s m (frameOf fn args'.toArray) w := ⟨by rw [hhp]; exact hr, ag, by rw [hhp]; exact hf, by rw [hhp]; exact Stp.refl _ _ _ _ _, by rw [hhp]; exact Nat.le_refl _, by rw [hhp]; exact ht⟩
        split at e
        · rename_i L h1
          split at e
          · rename_i l hl
            refine wp_mono (hx _ _ _ h1 _ _ _ _ hat) ?_
            rintro e1 a' w' ⟨⟨r1, s1⟩, m', q0, q1, q2⟩
            obtain ⟨en, g1, g2⟩ := ens_mem hl _ q0
            have hle := oneOf_le e en g2
            have hR : ∀ e z, EnR P ⟨h, m, w⟩ en e z → EnR P ⟨h, m, w⟩ r e z := fun e z q => hle _ _ _ _ q
            simp only at q1 q2
            cases r1 with
            | normal =>
              cases e1 with
              | normal => exact Leaves.monoR hR (leave_ok hT hF hc hx q2.ag.val q2.ag.ds .ret ⟨q2.rep, q2.fresh, q2.stp, q2.nx, q2.top⟩ g1)
              | _ => exact q1.elim
            | ret =>
              cases e1 with
              | ret => exact Leaves.monoR hR (leave_ok hT hF hc hx q2.ag.val q2.ag.ds .ret ⟨q2.rep, q2.fresh, q2.stp, q2.nx, q2.top⟩ g1)
              | _ => exact q1.elim
            | panic ch =>
              cases e1 with
              | panic c => exact Leaves.monoR hR (leave_ok hT hF hc hx q2.ag.val q2.ag.ds (.panic q1) ⟨q2.rep, q2.fresh, q2.stp, q2.nx, q2.top⟩ g1)
              | _ => exact q1.elim
            | exit i => simp [endF] at g1
          · cases e
        · cases e
      · cases e
end
end Go.Ev
