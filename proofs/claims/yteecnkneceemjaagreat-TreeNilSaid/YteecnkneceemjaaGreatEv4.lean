/-
  A run reckoned out: whatever operation only reads does what the function says.
-/
import Derived.Test.YteecnkneceemjaaGreatEv3
namespace Go.Ev
set_option linter.unusedVariables false
set_option linter.unusedSimpArgs false
section
variable {P : Program} {T : Tb} {m : Mp} {h : Hp} {w : World}

theorem sameNow_ok {kd : TypeDesc} {a a' b b' : Value} {r : Bool} (e : Instr.sameNow kd a b = some r) (ha : RV m a a') (hb : RV m b b') : a' = a ∧ b' = b := by
  unfold Instr.sameNow at e
  split at e
  · exact ⟨ha.scal_inv rfl, hb.scal_inv rfl⟩
  · exact ⟨ha.scal_inv rfl, hb.scal_inv rfl⟩
  · exact ⟨ha.scal_inv rfl, hb.scal_inv rfl⟩
  · cases e
theorem findNow_ok {kd : TypeDesc} {k k' : Value} (hk : RV m k k') : ∀ {es es' : List MapEntry}, REs m es es' → ∀ {i : Nat} {r : Option (Nat × Value)}, Instr.findNow kd k es i = some r →
    (r = none → Instr.findNow kd k' es' i = some none) ∧ (∀ j v, r = some (j, v) → ∃ v', Instr.findNow kd k' es' i = some (some (j, v')) ∧ RV m v v')
  | _, _, .nil, i, r, e => by cases e; exact ⟨fun _ => rfl, fun j v c => by cases c⟩
  | _, _, .cons (e := e1) (e' := e2) re rs, i, r, e => by
    unfold Instr.findNow at e ⊢
    split at e
    · rename_i hs
      obtain ⟨rfl, h2⟩ := sameNow_ok hs hk re.key
      rw [h2, hs]
      cases e
      exact ⟨fun c => (by cases c), fun j v c => (by cases c; exact ⟨_, rfl, re.val⟩)⟩
    · rename_i hs
      obtain ⟨rfl, h2⟩ := sameNow_ok hs hk re.key
      rw [h2, hs]
      exact findNow_ok hk rs e
    · cases e
theorem checkKey_ok {b : Bool} {kt : TypeId} {kd : TypeDesc} {k : Value} (hu : ∀ w, (underlying kt).run P w = .ok kd w) (hk : keyKind kd = true) (n : Nat) (w : World) : (Instr.checkKey b (n + 1) kt k).run P w = .ok () w := by
  unfold Instr.checkKey
  simp only [Sem.run_bind, hu, Result.andThen_ok]
  cases kd <;> first | (simp [keyKind] at hk; done) | rfl
theorem findKey_ok {kt : TypeId} {kd : TypeDesc} {k : Value} {es : List MapEntry} {r : Option (Nat × Value)} (hu : ∀ w, (underlying kt).run P w = .ok kd w) (e : Instr.findNow kd k es 0 = some r) (w : World) : (Instr.findKey kt k es).run P w = .ok r w := by
  unfold Instr.findKey
  simp only [Sem.run_bind, hu, Result.andThen_ok, e]
  rfl
theorem Rep.mapAt {g : G} (hr : Rep P m g w) {k : Nat} {es : List MapEntry} {ck : Nat} (hk : g k = some (.map es ck)) {b x : Nat} (hm : m k = some (b, x)) : ∃ es', w.heap[b]? = some (.map es' ck) ∧ REs m es es'.toList := by
  obtain ⟨b', x', h1, h2⟩ := hr.obj k _ hk
  rw [hm] at h1
  cases h1
  exact h2
theorem okv_ok {ok b : Bool} {v v' : Value} (hv : RV m v v') : RV m (okv ok v b) (if ok then .tuple #[v', .bool b] else v') := by
  cases ok with
  | true => exact .tuple (.cons hv (.cons (.scal rfl) .nil))
  | false => exact hv
theorem look_ok (hT : TbOk P T) (hr : Rep P m h.at w) {t : TypeId} {a a' k k' v : Value} {ok : Bool} (e : look T h t a k ok = some v) (ha : RV m a a') (hk : RV m k k') :
    ∃ v', RV m v v' ∧ (Instr.lookup t a' k' ok).run P w = .ok v' w := by
  unfold look at e
  split at e
  · rename_i i1 kt el ht
    have hu := hT.und ht
    split at e
    · rename_i i2 kd z ht2 hz
      have hu2 := hT.und ht2
      obtain ⟨hz1, hz2⟩ := hT.zero hz w
      cases hkd : keyKind kd with
      | false => rw [hkd] at e; cases e
      | true =>
        rw [hkd, cond_true] at e
        have hck := fun b => checkKey_ok (P := P) (b := b) (k := k') hu2 hkd 9999 w
        split at e
        · cases ha.scal_inv rfl
          cases e
          refine ⟨_, okv_ok (RV.plain hz2), ?_⟩
          have hf := findKey_ok (P := P) (k := k') (es := []) (r := none) hu2 rfl w
          simp only [Instr.lookup, Sem.run_bind, hu, Result.andThen_ok, Sem.run_pure, hck, hf, hz1]
        · obtain ⟨b, x, rfl, hm⟩ := ha.map_inv
          split at e
          · rename_i r es ck hes
            obtain ⟨es', h1, h2⟩ := hr.mapAt hes hm
            have hg : (getObj b).run P w = .ok (.map es' ck) w := by simp [getObj, Sem.run, h1]
            split at e
            · rename_i j v1 hf
              cases e
              obtain ⟨v2, h3, h4⟩ := (findNow_ok hk h2 hf).2 _ _ rfl
              have hf' := findKey_ok (P := P) hu2 h3 w
              refine ⟨_, okv_ok h4, ?_⟩
              simp only [Instr.lookup, Sem.run_bind, hu, Result.andThen_ok, Sem.run_pure, hck, hg, hf']
            · rename_i hf
              cases e
              have h3 := (findNow_ok hk h2 hf).1 rfl
              have hf' := findKey_ok (P := P) hu2 h3 w
              refine ⟨_, okv_ok (RV.plain hz2), ?_⟩
              simp only [Instr.lookup, Sem.run_bind, hu, Result.andThen_ok, Sem.run_pure, hck, hg, hf', hz1]
            · cases e
          · cases e
        · cases e
    · cases e
  · cases e

theorem lenv_ok (hT : TbOk P T) (hr : Rep P m h.at w) {t ty : TypeId} {ts : Array TypeId} {x x' v : Value} {as : List Value} (e : lenv T h t x = some v) (hx : RV m x x') (h0 : ts[0]? = some t) :
    RV m v v ∧ (Builtin.len_ ts ty (x' :: as).toArray).run P w = .ok v w := by
  unfold lenv at e
  have hn : ∀ n : Int, RV m (.int .i64 n) (.int .i64 n) := fun n => .scal rfl
  have hx0 : (x' :: as).toArray[0]? = some x' := by simp
  split at e
  · rename_i i s ht
    cases hx.string_inv; cases e
    refine ⟨hn _, ?_⟩
    simp only [Builtin.len_, h0, hx0, Sem.run_bind, hT.und ht, Result.andThen_ok]
    rfl
  · rename_i i e1 a n c ht
    cases e
    refine ⟨hn _, ?_⟩
    cases a with
    | none =>
      cases hx.slice_none
      simp only [Builtin.len_, h0, hx0, Sem.run_bind, hT.und ht, Result.andThen_ok]
      rfl
    | some a =>
      obtain ⟨b, y, _, rfl, _⟩ := hx.slice_inv
      simp only [Builtin.len_, h0, hx0, Sem.run_bind, hT.und ht, Result.andThen_ok]
      rfl
  · rename_i i n e1 ht
    cases e
    refine ⟨hn _, ?_⟩
    simp only [Builtin.len_, h0, hx0, Sem.run_bind, hT.und ht, Result.andThen_ok]
    rfl
  · rename_i i k e1 ht
    cases hx.scal_inv rfl; cases e
    refine ⟨hn _, ?_⟩
    simp only [Builtin.len_, h0, hx0, Sem.run_bind, hT.und ht, Result.andThen_ok]
    rfl
  · rename_i i k e1 r ht
    obtain ⟨b, y, rfl, hm⟩ := hx.map_inv
    split at e
    · rename_i es ck hes
      cases e
      obtain ⟨es', h1, h2⟩ := hr.mapAt hes hm
      have hg : (getObj b).run P w = .ok (.map es' ck) w := by simp [getObj, Sem.run, h1]
      have hl : es'.size = es.length := by
        have : ∀ {a b : List MapEntry}, REs m a b → b.length = a.length := by
          intro a b r
          induction r with
          | nil => rfl
          | cons _ _ ih => simp [ih]
        simpa using this h2
      refine ⟨hn _, ?_⟩
      simp only [Builtin.len_, h0, hx0, Sem.run_bind, hT.und ht, Result.andThen_ok, hg, hl]
      rfl
    · cases e
  · cases e

theorem places_ok (hT : TbOk P T) : ∀ {fs : List Field} {pl : List (Nat × Nat)}, places T fs = some pl → ∀ (w : World),
    (fs.mapM (m := Sem) fun f => do pure (f.offset, ← sizeOf f.type)).run P w = .ok pl w
  | [], pl, e, w => by cases e; rfl
  | f :: fs, pl, e, w => by
    unfold places at e
    split at e
    · rename_i ti d r ht hr
      cases e
      simp only [List.mapM_cons, Sem.run_bind, hT.size ht, Result.andThen_ok, Sem.run_pure, places_ok hT hr w]
    · cases e

theorem scalL {l l' : List Value} (h : RVs m l l') (hs : l.all scal = true) : l' = l := by
  induction l generalizing l' with
  | nil => cases h; rfl
  | cons u us ih =>
    simp only [List.all_cons, Bool.and_eq_true] at hs
    cases h with
    | cons r1 r2 => rw [r1.scal_inv hs.1, ih r2 hs.2]

theorem opv_ok (hT : TbOk P T) (hr : Rep P m h.at w) {ev : Evl} {ev' : Operand → Value} (he : Evs m ev ev') {o : Oper} {v : Value} (e : opv T h ev o.op = some v) :
    ∃ v', RV m v v' ∧ (execOp ev' o).run P w = .ok (.value v') w := by
  obtain ⟨dst, op, ty, pos, af, gd⟩ := o
  have wrap : ∀ {s : Sem Value} {v' : Value}, s.run P w = .ok v' w → (do pure (.value (← s)) : Sem Next).run P w = .ok (.value v') w := by
    intro s v' hs; simp [hs]
  cases op with
  | move x => exact ⟨_, he _ _ e, rfl⟩
  | assign x => exact ⟨_, he _ _ e, rfl⟩
  | pick c a b =>
    simp only [opv] at e
    split at e
    · rename_i hc
      refine ⟨_, he _ _ e, ?_⟩
      simp [execOp, (he _ _ hc).bool_inv, asBool]
    · rename_i hc
      refine ⟨_, he _ _ e, ?_⟩
      simp [execOp, (he _ _ hc).bool_inv, asBool]
    · cases e
  | load t x =>
    simp only [opv] at e
    split at e
    · rename_i a hx
      obtain ⟨b, y, ha, hb, hm⟩ := (he _ _ hx).ptr_inv
      obtain ⟨v', h1, h2⟩ := ldv_ok hT hr e hm
      refine ⟨v', h1, wrap ?_⟩
      simp [hb, Instr.loadAt, Instr.sureAddr, h2]
    · cases e
  | nilCheck x =>
    simp only [opv] at e
    split at e
    · rename_i a hx
      cases e
      obtain ⟨b, y, ha, hb, hm⟩ := (he _ _ hx).ptr_inv
      refine ⟨_, he _ _ hx, ?_⟩
      simp only [execOp, hb]
      rfl
    · rename_i f b c hx
      cases e
      obtain ⟨b', c', hb, _⟩ := (he _ _ hx).func_inv
      refine ⟨_, he _ _ hx, ?_⟩
      simp only [execOp, hb]
      rfl
    · rename_i t u hx
      cases e
      obtain ⟨u', hb, _⟩ := (he _ _ hx).iface_inv
      refine ⟨_, he _ _ hx, ?_⟩
      simp only [execOp, hb]
      rfl
    · cases e
  | binOp op t x y yt =>
    simp only [opv] at e
    split at e
    · rename_i a b ha hb
      obtain ⟨v', h1, h2⟩ := bin_ok hT hr e (he _ _ ha) (he _ _ hb)
      exact ⟨v', h1, wrap h2⟩
    · cases e
  | unOp op t x =>
    simp only [opv] at e
    split at e
    · rename_i u hu
      obtain ⟨e1, e2⟩ := cond2_some e
      obtain ⟨h1, h2⟩ := scalP (P := P) e2
      refine ⟨v, h2 m, wrap ?_⟩
      rw [(he _ _ hu).scal_inv e1]
      exact h1 w
    · cases e
  | convert s d x =>
    simp only [opv] at e
    split at e
    · rename_i u hu
      obtain ⟨h1, h2⟩ := conv_ok hT hr e (he _ _ hu)
      exact ⟨v, h1, wrap h2⟩
    · cases e
  | makeInterface t x =>
    simp only [opv] at e
    split at e
    · rename_i i d u ht hu
      cases hd : isIf d with
      | true => rw [hd] at e; cases e
      | false =>
        rw [hd] at e
        cases e
        refine ⟨_, .iface (he _ _ hu), wrap ?_⟩
        simp only [Instr.makeInterface, Sem.run_bind, hT.und ht, Result.andThen_ok]
        cases d <;> first | rfl | (simp [isIf] at hd)
    · cases e
  | makeFunc fn a b =>
    cases fn with
    | func f =>
      simp only [opv] at e
      split at e
      · rename_i l r hl hr'
        cases e
        refine ⟨.func (.func f) (a.map ev') (b.map ev'), .func ?_ ?_, rfl⟩
        · simpa using evs_ok he hl
        · simpa using evs_ok he hr'
      · cases e
    | _ => simp [opv] at e
  | slice t x lo hi mx =>
    cases mx with
    | none =>
      simp only [opv] at e
      split at e
      · rename_i u hu
        obtain ⟨v', h1, h2⟩ := slc_ok hT hr he e (he _ _ hu)
        exact ⟨v', h1, wrap h2⟩
      · cases e
    | some _ => simp [opv] at e
  | fieldAddr s x f =>
    simp only [opv] at e
    split at e
    · rename_i i fs a ht hx
      obtain ⟨b, y, ha, hb, hm⟩ := (he _ _ hx).ptr_inv
      split at e
      · rename_i fd hfd
        split at e
        · rename_i ti d2 ht2
          cases hz : Nat.beq ti.size 0 with
          | true => rw [hz] at e; cases e
          | false =>
            rw [hz] at e
            cases e
            have hz' : ¬ ti.size = 0 := fun c => by rw [c] at hz; cases hz
            refine ⟨.pointer (some ⟨b, a.off + fd.offset, none⟩), ?_, wrap ?_⟩
            · rw [ha, Addr.add_none]; exact .ptr hm
            · simp only [Instr.fieldAt, Sem.run_bind, hT.und ht, Result.andThen_ok, hfd, hb, Instr.sureAddr, Sem.run_pure, fieldPlace, hT.size ht2, hz', if_false, Addr.add_none]
        · cases e
      · cases e
    · cases e
  | field t x f =>
    simp only [opv] at e
    split at e
    · rename_i i fs cs ht hx
      obtain ⟨cs', hb, hc⟩ := (he _ _ hx).agg_inv
      split at e
      · rename_i fd hfd
        obtain ⟨v', h1, h2⟩ := partv_ok (w := w) hT e hc
        refine ⟨v', h1, wrap ?_⟩
        simp only [Instr.field, Sem.run_bind, hT.und ht, Result.andThen_ok, hfd, hb, asAgg, Sem.run_pure, h2]
      · cases e
    · cases e
  | indexAddr t x i =>
    simp only [opv] at e
    split at e
    · rename_i i1 el a n c k j ht hx hj
      obtain ⟨b, y, ha, hb, hm⟩ := (he _ _ hx).slice_inv
      have hj' := (he _ _ hj).int_inv
      split at e
      · rename_i ti d2 ht2
        cases hc : (decide (0 ≤ j) && Nat.blt j.toNat n) with
        | false => rw [hc] at e; cases e
        | true =>
          rw [hc] at e
          cases e
          simp only [Bool.and_eq_true, decide_eq_true_eq, Nat.blt_eq] at hc
          have hc2 : 0 ≤ j ∧ j < n := ⟨hc.1, by omega⟩
          refine ⟨.pointer (some ⟨b, a.off + j.toNat * ti.size, none⟩), ?_, wrap ?_⟩
          · rw [ha, Addr.add_none]; exact .ptr hm
          · simp only [Instr.indexAt, hj', asIntOf, hb, Sem.run_bind, hT.und ht, Result.andThen_ok, Sem.run_pure, hc2, and_self, if_true, hT.size ht2, Addr.add_none]
      · cases e
    · rename_i i1 n el a k j ht hx hj
      obtain ⟨b, y, ha, hb, hm⟩ := (he _ _ hx).ptr_inv
      have hj' := (he _ _ hj).int_inv
      split at e
      · rename_i ti d2 ht2
        cases hc : (decide (0 ≤ j) && Nat.blt j.toNat n) with
        | false => rw [hc] at e; cases e
        | true =>
          rw [hc] at e
          cases e
          simp only [Bool.and_eq_true, decide_eq_true_eq, Nat.blt_eq] at hc
          have hc2 : 0 ≤ j ∧ j < n := ⟨hc.1, by omega⟩
          refine ⟨.pointer (some ⟨b, a.off + j.toNat * ti.size, none⟩), ?_, wrap ?_⟩
          · rw [ha, Addr.add_none]; exact .ptr hm
          · simp only [Instr.indexAt, hj', asIntOf, hb, Sem.run_bind, hT.und ht, Result.andThen_ok, Sem.run_pure, Instr.sureAddr, hc2, and_self, if_true, hT.size ht2, Addr.add_none]
      · cases e
    · cases e
  | index t x i =>
    simp only [opv] at e
    split at e
    · rename_i i1 n el cs k j ht hx hj
      obtain ⟨cs', hb, hcs⟩ := (he _ _ hx).agg_inv
      have hj' := (he _ _ hj).int_inv
      split at e
      · rename_i ti d2 ht2
        cases hc : (decide (0 ≤ j) && Nat.blt j.toNat n) with
        | false => rw [hc] at e; cases e
        | true =>
          rw [hc, cond_true] at e
          simp only [Bool.and_eq_true, decide_eq_true_eq, Nat.blt_eq] at hc
          have hc2 : 0 ≤ j ∧ j < n := ⟨hc.1, by omega⟩
          obtain ⟨v', h1, h2⟩ := partv_ok (w := w) hT e hcs
          refine ⟨v', h1, wrap ?_⟩
          simp only [Instr.index, hj', asIntOf, hb, Sem.run_bind, hT.und ht, Result.andThen_ok, Sem.run_pure, hc2, and_self, if_true, hT.size ht2, h2]
      · cases e
    · rename_i i1 s k j ht hx hj
      have hb := (he _ _ hx).string_inv
      have hj' := (he _ _ hj).int_inv
      cases hc : decide (0 ≤ j) with
      | false => rw [hc] at e; cases e
      | true =>
        rw [hc, cond_true] at e
        simp only [decide_eq_true_eq] at hc
        split at e
        · rename_i b hby
          cases e
          refine ⟨_, .scal rfl, wrap ?_⟩
          simp only [Instr.index, hj', asIntOf, hb, Sem.run_bind, hT.und ht, Result.andThen_ok, Sem.run_pure, hc, if_true, hby]
        · cases e
    · cases e
  | lookup t a k ok =>
    simp only [opv] at e
    split at e
    · rename_i u k' hu hk
      obtain ⟨v', h1, h2⟩ := look_ok hT hr e (he _ _ hu) (he _ _ hk)
      exact ⟨v', h1, wrap h2⟩
    · cases e
  | typeAssert x xt t ok =>
    simp only [opv] at e
    split at e
    · rename_i i d z u v1 ht hz hx
      obtain ⟨v2, hb, hv⟩ := (he _ _ hx).iface_inv
      obtain ⟨hz1, hz2⟩ := hT.zero hz w
      cases hd : isIf d with
      | true => rw [hd] at e; cases e
      | false =>
        rw [hd, cond_false] at e
        cases hut : Nat.beq u t with
        | true =>
          rw [hut] at e
          cases e
          have := Nat.eq_of_beq_eq_true hut
          subst this
          refine ⟨_, okv_ok hv, wrap ?_⟩
          simp only [Instr.typeAssert, hb, Sem.run_bind, hT.und ht, Result.andThen_ok]
          cases d <;> first | (simp [isIf] at hd; done) | simp
        | false =>
          rw [hut, cond_false] at e
          obtain ⟨rfl, e2⟩ := cond2_some e
          cases e2
          have hne : ¬ u = t := fun c => by subst c; simp at hut
          refine ⟨_, okv_ok (RV.plain hz2), wrap ?_⟩
          simp only [Instr.typeAssert, hb, Sem.run_bind, hT.und ht, Result.andThen_ok]
          cases d <;> first | (simp [isIf] at hd; done) | simp [hne, hz1]
    · rename_i i d z ht hz hx
      have hb := (he _ _ hx).scal_inv rfl
      obtain ⟨hz1, hz2⟩ := hT.zero hz w
      obtain ⟨rfl, e2⟩ := cond2_some e
      cases e2
      refine ⟨_, okv_ok (RV.plain hz2), wrap ?_⟩
      simp only [Instr.typeAssert, hb, Sem.run_bind, hT.und ht, Result.andThen_ok]
      cases d <;> simp [hz1]
    · cases e
  | extract x i =>
    simp only [opv] at e
    split at e
    · rename_i vs hx
      obtain ⟨vs', hb, hv⟩ := (he _ _ hx).tuple_inv
      rw [← Array.getElem?_toList] at e
      obtain ⟨v', h1, h2⟩ := hv.at e
      rw [Array.getElem?_toList] at h1
      refine ⟨v', h2, wrap ?_⟩
      simp only [Instr.extract, hb, h1, Sem.run_pure]
    · cases e
  | build t ps =>
    simp only [opv] at e
    split at e
    · rename_i i fs z l ht hz hl
      obtain ⟨hz1, hz2⟩ := hT.zero hz w
      have hps := evps_ok he hl
      split at e
      · rename_i pl hpl
        split at e
        · rename_i cs hf
          cases e
          obtain ⟨cs', h1, h2⟩ := fill_ok (fun i => pl[i]?) hps (RV.plain hz2).cells hf
          refine ⟨.agg cs', .agg h2, wrap ?_⟩
          have hpl' : (fs.mapM (m := Sem) fun f => do pure (f.offset, ← sizeOf f.type)).run P w = .ok pl.toArray w := by
            rw [Array.mapM_eq_mapM_toList, map_eq_pure_bind, Sem.run_bind, places_ok hT hpl w]
            rfl
          have h1' : Instr.fill (fun i => pl.toArray[i]?) z.cells (ps.map fun (i, x) => (i, ev' x)).toList = some cs' := by
            simpa using h1
          simp only [Instr.build, Sem.run_bind, hz1, hT.und ht, Result.andThen_ok, hpl', h1', Sem.run_pure]
        · cases e
      · cases e
    · rename_i i n el z l ht hz hl
      obtain ⟨hz1, hz2⟩ := hT.zero hz w
      have hps := evps_ok he hl
      split at e
      · rename_i ti d2 ht2
        split at e
        · rename_i cs hf
          cases e
          obtain ⟨cs', h1, h2⟩ := fill_ok _ hps (RV.plain hz2).cells hf
          refine ⟨.agg cs', .agg h2, wrap ?_⟩
          have h1' : Instr.fill (fun i => some (i * ti.size, ti.size)) z.cells (ps.map fun (i, x) => (i, ev' x)).toList = some cs' := by
            simpa using h1
          simp only [Instr.build, Sem.run_bind, hz1, hT.und ht, Result.andThen_ok, hT.size ht2, h1', Sem.run_pure]
        · cases e
      · cases e
    · cases e
  | call c =>
    obtain ⟨cl, as, ts⟩ := c
    cases cl with
    | builtin b =>
      cases b with
      | len =>
        simp only [opv] at e
        split at e
        · rename_i t ts' x xs hts has
          have hl := evs_ok he has
          have hxs : as.map ev' = (as.toList.map ev').toArray := by rw [← Array.toList_map, Array.toArray_toList]
          cases hl' : as.toList.map ev' with
          | nil => rw [hl'] at hl; cases hl
          | cons x' xs' =>
            rw [hl'] at hl hxs
            cases hl with
            | cons r1 r2 =>
              have h0 : ts[0]? = some t := by rw [← Array.getElem?_toList, hts]; rfl
              obtain ⟨h1, h2⟩ := lenv_ok (ty := ty) (as := xs') hT hr e r1 h0
              refine ⟨v, h1, ?_⟩
              simp only [execOp, resolve, Sem.run_bind, Sem.run_pure, Result.andThen_ok, invoke, Go.builtin, hxs, h2]
        · cases e
      | max =>
        simp only [opv] at e
        split at e
        · rename_i l hl
          obtain ⟨e1, e2⟩ := cond2_some e
          obtain ⟨h1, h2⟩ := scalP (P := P) e2
          have hl' := scalL (evs_ok he hl) e1
          have hxs : as.map ev' = l.toArray := by rw [← hl', ← Array.toList_map, Array.toArray_toList]
          refine ⟨v, h2 m, ?_⟩
          have : (Builtin.max_ ts ty l.toArray) = (Builtin.max_ #[] 0 l.toArray) := rfl
          simp only [execOp, resolve, Sem.run_bind, Sem.run_pure, Result.andThen_ok, invoke, Go.builtin, hxs, this, h1]
        · cases e
      | min =>
        simp only [opv] at e
        split at e
        · rename_i l hl
          obtain ⟨e1, e2⟩ := cond2_some e
          obtain ⟨h1, h2⟩ := scalP (P := P) e2
          have hl' := scalL (evs_ok he hl) e1
          have hxs : as.map ev' = l.toArray := by rw [← hl', ← Array.toList_map, Array.toArray_toList]
          refine ⟨v, h2 m, ?_⟩
          have : (Builtin.min_ ts ty l.toArray) = (Builtin.min_ #[] 0 l.toArray) := rfl
          simp only [execOp, resolve, Sem.run_bind, Sem.run_pure, Result.andThen_ok, invoke, Go.builtin, hxs, this, h1]
        · cases e
      | _ => simp [opv] at e
    | _ => simp [opv] at e
  | _ => simp [opv] at e
end
end Go.Ev
