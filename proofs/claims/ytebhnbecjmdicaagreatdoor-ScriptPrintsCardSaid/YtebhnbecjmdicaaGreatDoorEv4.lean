/-
  A run reckoned out: whatever operation only reads does what the function says.
-/
import Derived.Test.YtebhnbecjmdicaaGreatDoorEv3
namespace Go.Ev
set_option linter.unusedVariables false
set_option linter.unusedSimpArgs false
set_option linter.unusedSectionVars false
variable {X : Type} [ExtA X]
section
variable {P : Program} {T : Tb} {m : Mp} {h : (Hp X)} {w : World}

theorem sameNow_ok {kd : TypeDesc} {a a' b b' : Value} {r : Bool} (e : Instr.sameNow kd a b = some r) (ha : RV m a a') (hb : RV m b b') : a' = a ∧ b' = b := by
  unfold Instr.sameNow at e
  split at e
  · exact ⟨ha.scal_inv rfl, hb.scal_inv rfl⟩
  · exact ⟨ha.scal_inv rfl, hb.scal_inv rfl⟩
  · exact ⟨ha.scal_inv rfl, hb.scal_inv rfl⟩
  · cases e
theorem findNow_ok {kd : TypeDesc} {k k' : Value} (hk : RV m k k') : ∀ {es es' : List MapEntry}, REs m es es' → ∀ {i : Nat} {r : Option (Nat × Value)}, Instr.findNow kd k es i = some r →
    (r = none → Instr.findNow kd k' es' i = some none) ∧ (∀ j v, r = some (j, v) → ∃ v', Instr.findNow kd k' es' i = some (some (j, v')) ∧ RV m v v')
  | _, _, .nil, i, r, e => by cases e; exact ⟨fun _ => rfl, fun j v c => by cases c⟩
  | _, _, .cons (e := e1) (e' := e2) re rs, i, r, e => by
    unfold Instr.findNow at e ⊢
    split at e
    · rename_i hs
      obtain ⟨rfl, h2⟩ := sameNow_ok hs hk re.key
      rw [h2, hs]
      cases e
      exact ⟨fun c => (by cases c), fun j v c => (by cases c; exact ⟨_, rfl, re.val⟩)⟩
    · rename_i hs
      obtain ⟨rfl, h2⟩ := sameNow_ok hs hk re.key
      rw [h2, hs]
      exact findNow_ok hk rs e
    · cases e
theorem checkKey_ok {b : Bool} {kt : TypeId} {kd : TypeDesc} {k : Value} (hu : ∀ w, (underlying kt).run P w = .ok kd w) (hk : keyKind kd = true) (n : Nat) (w : World) : (Instr.checkKey b (n + 1) kt k).run P w = .ok () w := by
  unfold Instr.checkKey
  simp only [Sem.run_bind, hu, Result.andThen_ok]
  cases kd <;> first | (simp [keyKind] at hk; done) | rfl
theorem findKey_ok {kt : TypeId} {kd : TypeDesc} {k : Value} {es : List MapEntry} {r : Option (Nat × Value)} (hu : ∀ w, (underlying kt).run P w = .ok kd w) (e : Instr.findNow kd k es 0 = some r) (w : World) : (Instr.findKey kt k es).run P w = .ok r w := by
  unfold Instr.findKey
  simp only [Sem.run_bind, hu, Result.andThen_ok, e]
  rfl
theorem sameBits_ok {kd : TypeDesc} {a b : Value} (e : Instr.sameNow kd a b = .some true) (n : Nat) : Instr.sameBits n b a = true := by
  unfold Instr.sameNow at e
  split at e
  · rename_i k x k' y
    split at e
    · rename_i hk
      subst hk
      have : x = y := by simpa using e
      subst this
      simp [Instr.sameBits]
    · cases e
  · rename_i x y
    have e' := Option.some.inj e
    rw [Sl.bytes_beq] at e'
    have : x = y := by simpa using e'
    subst this
    simp [Instr.sameBits, Sl.bytes_beq]
  · rename_i x y
    have : x = y := by simpa using e
    subst this
    cases x <;> simp [Instr.sameBits]
  · cases e
theorem findNow_at {kd : TypeDesc} {k : Value} : ∀ {es : List MapEntry} {i j : Nat} {v : Value}, Instr.findNow kd k es i = .some (.some (j, v)) → ∃ n e, j = i + n ∧ es[n]? = .some e ∧ Instr.sameNow kd k e.key = .some true ∧ e.val = v
  | [], i, j, v, h => by cases h
  | e :: es, i, j, v, h => by
    unfold Instr.findNow at h
    split at h
    · rename_i hs; cases h; exact ⟨0, e, rfl, rfl, hs, rfl⟩
    · obtain ⟨n, e', h1, h2, h3, h4⟩ := findNow_at h
      exact ⟨n + 1, e', by omega, by simpa using h2, h3, h4⟩
    · cases h
theorem same_kinds : ∀ {ks : List IntKind} {a b : List Value}, kindsAre ks a = true → kindsAre ks b = true → sameI a b = true → a = b
  | [], a, b, ha, hb, h => by
    cases a <;> cases b <;> first | rfl | (simp [kindsAre] at ha; done) | (simp [kindsAre] at hb; done)
  | k :: ks, a, b, ha, hb, h => by
    cases a with
    | nil => simp [kindsAre] at ha
    | cons x a =>
      cases b with
      | nil => simp [kindsAre] at hb
      | cons y b =>
        cases x <;> first | (simp [kindsAre] at ha; done) | skip
        cases y <;> first | (simp [kindsAre] at hb; done) | skip
        simp only [kindsAre, Bool.and_eq_true, decide_eq_true_eq] at ha hb
        simp only [sameI, Bool.and_eq_true, beq_iff_eq] at h
        rw [← ha.1, ← hb.1, h.1, same_kinds ha.2 hb.2 h.2]
theorem kinds_bits : ∀ {ks : List IntKind} {a : List Value}, kindsAre ks a = true → ∀ n, (a.zip a).all (fun (x, y) => Instr.sameBits n x y) = true
  | [], a, ha, n => by cases a <;> first | rfl | (simp [kindsAre] at ha; done)
  | k :: ks, a, ha, n => by
    cases a with
    | nil => rfl
    | cons x a =>
      cases x <;> first | (simp [kindsAre] at ha; done) | skip
      simp only [kindsAre, Bool.and_eq_true, decide_eq_true_eq] at ha
      simp only [List.zip_cons_cons, List.all_cons, kinds_bits ha.2 n, Bool.and_true]
      simp [Instr.sameBits]
theorem bits_agg {ks : List IntKind} {a : Array Value} (h : kindsAre ks a.toList = true) (n : Nat) : Instr.sameBits (n + 1) (.agg a) (.agg a) = true := by
  simp only [Instr.sameBits, beq_self_eq_true, Bool.true_and]
  exact kinds_bits h n
theorem fndA_ok (hT : TbOk P T) {kt : TypeId} {ks : List IntKind} (hks : T.eq kt = some ks) {c : Array Value} (hc : kindsAre ks c.toList = true) (w : World) : ∀ {es es' : List MapEntry}, REs m es es' → ∀ {i : Nat} {r : Option (Nat × Value)}, fndA ks c.toList es i = some r →
    ∃ r', (Instr.findAsking kt (.agg c) es' i).run P w = .ok r' w ∧ (r = none → r' = none) ∧ (∀ j v, r = some (j, v) → ∃ v' n e, r' = some (j, v') ∧ RV m v v' ∧ j = i + n ∧ es'[n]? = some e ∧ e.key = .agg c)
  | _, _, .nil, i, r, e => by cases e; exact ⟨none, rfl, fun _ => rfl, fun j v c => by cases c⟩
  | _, _, .cons (e := e1) (e' := e2) (l' := l2) re rs, i, r, e => by
    unfold fndA at e
    split at e
    · rename_i c' hc'
      cases hk : kindsAre ks c'.toList with
      | false => rw [hk] at e; cases e
      | true =>
        rw [hk, cond_true] at e
        have hkey := re.key
        rw [hc'] at hkey
        obtain ⟨c2, hc2, rc⟩ := hkey.agg_inv
        obtain rfl : c2 = c' := Array.ext' (kinds_same hk rc)
        have heq := (hT.key kt ks hks c c2 w hc hk).2
        unfold Instr.findAsking
        simp only [Sem.run_bind, hc2, heq, Result.andThen_ok]
        cases hs : sameI c.toList c2.toList with
        | true =>
          rw [hs] at e
          cases e
          refine ⟨some (i, e2.val), rfl, fun c => (by cases c), fun j v h => ?_⟩
          cases h
          exact ⟨_, 0, e2, rfl, re.val, rfl, rfl, by rw [hc2, Array.ext' (same_kinds hc hk hs)]⟩
        | false =>
          rw [hs] at e
          obtain ⟨r', h1, h2, h3⟩ := fndA_ok hT hks hc w rs e
          refine ⟨r', h1, h2, fun j v h => ?_⟩
          obtain ⟨v', n, e3, g1, g2, g3, g4, g5⟩ := h3 j v h
          exact ⟨v', n + 1, e3, g1, g2, by omega, by simpa using g4, g5⟩
    · cases e
/-- a key that is looked for -/
theorem fnd_ok (hT : TbOk P T) {kt : TypeId} {i2 : TypeInfo} {kd : TypeDesc} (ht : T kt = some (i2, kd)) {k k' : Value} (hk : RV m k k') {es es' : List MapEntry} (hes : REs m es es') {r : Option (Nat × Value)} (e : fnd T kt kd k es = some r) (w : World) :
    ∃ r', (∀ b, (Instr.checkKey b 10000 kt k').run P w = .ok () w) ∧ (Instr.findKey kt k' es').run P w = .ok r' w ∧ (r = none → r' = none) ∧ (∀ j v, r = some (j, v) → ∃ v' e, r' = some (j, v') ∧ RV m v v' ∧ es'[j]? = some e ∧ Instr.sameBits 10000 e.key k' = true) := by
  have hu := hT.und ht
  unfold fnd at e
  cases hkd : keyKind kd with
  | true =>
    rw [hkd, cond_true] at e
    obtain ⟨f1, f2⟩ := findNow_ok hk hes e
    cases r with
    | none => exact ⟨none, fun b => checkKey_ok hu hkd 9999 w, findKey_ok hu (f1 rfl) w, fun _ => rfl, fun j v c => by cases c⟩
    | some p =>
      obtain ⟨j, v⟩ := p
      obtain ⟨v', g1, g2⟩ := f2 j v rfl
      refine ⟨some (j, v'), fun b => checkKey_ok hu hkd 9999 w, findKey_ok hu g1 w, fun c => (by cases c), fun j2 v2 c => ?_⟩
      cases c
      obtain ⟨n, e1, hn, he1, hs, _⟩ := findNow_at g1
      obtain rfl : j = n := by omega
      exact ⟨v', e1, rfl, g2, he1, sameBits_ok hs _⟩
  | false =>
    rw [hkd, cond_false] at e
    split at e
    · rename_i fs ks c hks
      cases hc : kindsAre ks c.toList with
      | false => rw [hc] at e; cases e
      | true =>
        rw [hc, cond_true] at e
        obtain ⟨c2, rfl, rc⟩ := hk.agg_inv
        obtain rfl : c2 = c := Array.ext' (kinds_same hc rc)
        have hck := fun b => (hT.key kt ks hks c2 c2 w hc hc).1 b
        obtain ⟨r', h1, h2, h3⟩ := fndA_ok hT hks hc w hes e
        have hfk : (Instr.findKey kt (.agg c2) es').run P w = .ok r' w := by
          unfold Instr.findKey
          simp only [Sem.run_bind, hu, Result.andThen_ok]
          cases es' with
          | nil =>
            have : r' = none := by
              simp [Instr.findAsking] at h1
              exact h1.symm
            subst this
            rfl
          | cons e0 l =>
            have : Instr.findNow (.struct fs) (.agg c2) (e0 :: l) 0 = none := by
              unfold Instr.findNow
              have : Instr.sameNow (.struct fs) (.agg c2) e0.key = none := by
                generalize e0.key = x
                cases x <;> rfl
              rw [this]
            rw [this]
            exact h1
        refine ⟨r', hck, hfk, h2, fun j v h => ?_⟩
        obtain ⟨v', n, e3, g1, g2, g3, g4, g5⟩ := h3 j v h
        obtain rfl : j = n := by omega
        exact ⟨v', e3, g1, g2, g4, by rw [g5]; exact bits_agg hc 9999⟩
    · cases e
theorem Rep.mapAt {g : (G X)} (hr : Rep P m g w) {k : Nat} {es : List MapEntry} {ck : Nat} (hk : g k = some (.map es ck)) {b x : Nat} (hm : m k = some (b, x)) : ∃ es', w.heap[b]? = some (.map es' ck) ∧ REs m es es'.toList := by
  obtain ⟨b', x', h1, h2⟩ := hr.obj k _ hk rfl
  rw [hm] at h1
  cases h1
  exact h2
/-! rows of lists that are values -/
theorem DV.cells {kn : Kn} {v v' : Value} (h : DV kn v v') : DVs kn v.cells.toList v'.cells.toList := by
  cases h with
  | scal e => cases v <;> first | exact .cons (.scal e) .nil | (simp [Ev.scal] at e)
  | agg e => exact e
  | lst h1 h2 h3 h4 h5 h6 => exact .cons (.lst h1 h2 h3 h4 h5 h6) .nil
  | lst0 => exact .cons .lst0 .nil
theorem row_rv : ∀ {ks : List CK} {cs cs' : List Value}, rowIs ks cs = true → DVs m.kn cs cs' → RVs m (rowP ks cs) cs'
  | [], [], _, _, .nil => .nil
  | [], _ :: _, _, h, _ => by simp [rowIs] at h
  | _ :: _, [], _, h, _ => by simp [rowIs] at h
  | k :: ks, v :: cs, _, h, .cons (v' := v') e r => by
    simp only [rowIs, Bool.and_eq_true] at h
    refine .cons ?_ (row_rv h.2 r)
    show RV m (ckP k v) v'
    cases k with
    | i k =>
      cases v <;> first | (have := h.1; simp [ckIs] at this; done) | skip
      rename_i k' n
      have hk : k = k' := by have := h.1; simpa [ckIs] using this
      subst hk
      rw [e.scal_inv rfl]
      exact .scal rfl
    | b =>
      cases v <;> first | (have := h.1; simp [ckIs] at this; done) | skip
      rw [e.scal_inv rfl]
      exact .scal rfl
    | s =>
      cases v <;> first | (have := h.1; simp [ckIs] at this; done) | skip
      rw [e.scal_inv rfl]
      exact .scal rfl
    | l sz =>
      cases v <;> first | (have := h.1; simp [ckIs] at this; done) | skip
      rename_i fn tk rows
      cases fn <;> first | (have := h.1; simp [ckIs] at this; done) | skip
      rename_i sz'
      have hk : sz = sz' := by have := h.1; simpa [ckIs] using this
      subst hk
      exact .lst (tk := tk) e.tk
theorem elp_row {sz b off s j : Nat} {rows rows' vs : List Value} {t : TypeId} {ks : List CK} (k1 : m.kn b = some (vs, s, t)) (k2 : DVs m.kn rows rows') (k3 : ∀ r ∈ rows', r.cells.size = sz) (k4 : flat rows' <+: vs.drop off)
    (hj : j < rows.length) (hr : rowIs ks (rowC rows j) = true) : RV m (elp (rowP ks (rowC rows j))) (.pointer (some ⟨b, off + j * sz, none⟩)) := by
  obtain ⟨r, hrj⟩ : ∃ r, rows[j]? = some r := ⟨_, List.getElem?_eq_getElem hj⟩
  obtain ⟨r', h1, h2⟩ := k2.at hrj
  have hc : rowC rows j = r.cells.toList := by unfold rowC; rw [hrj]
  rw [hc] at hr ⊢
  refine .elp k1 (row_rv hr h2.cells) ?_
  have hd : rows'.drop j = r' :: rows'.drop (j + 1) := by
    obtain ⟨hl, e⟩ := List.getElem?_eq_some_iff.1 h1
    rw [← e]
    exact List.drop_eq_getElem_cons hl
  have := prefix_down k4 (j * sz)
  rw [flat_drop rows' j k3, hd, flat_cons, List.drop_drop] at this
  exact (List.prefix_append _ _).trans this
theorem ldE_ok (hT : TbOk P T) {g : (G X)} (hr : Rep P m g w) {t : TypeId} {t1 : TypeId} {s1 : String} {x1 : Array Value} {cs : Array Value} {v v0 : Value} (e : ldE T t cs.toList = some v) (hx : RV m (.func (.methodOf t1 s1) x1 cs) v0) :
    ∃ b off, v0 = .pointer (some ⟨b, off, none⟩) ∧ ∃ v', RV m v v' ∧ (loadVar t ⟨b, off, none⟩).run P w = .ok v' w := by
  obtain ⟨b, off, vs, sz, t', cs', rfl, h1, h2, h3⟩ := RV.elp_inv (cs := cs.toList) hx
  refine ⟨b, off, rfl, ?_⟩
  have hcell := kcells hr h1 h3
  unfold ldE at e
  split at e
  · rename_i ti d ht
    split at e
    · rename_i hd
      cases hle : leLen cs.toList ti.size with
      | false => rw [hle] at e; cases e
      | true =>
        rw [hle] at e
        cases e
        rw [leLen_eq] at hle
        have hle := Nat.le_of_ble_eq_true hle
        have hl := h2.len
        have hld := run_loadCells_list (P := P) (w := w) ⟨b, off, none⟩ (cs'.take ti.size) (fun j v hj => hcell j v (by
          have hjn : j < ti.size := by
            have := (List.getElem?_eq_some_iff.1 hj).1
            simp at this; omega
          rw [List.getElem?_take_of_lt hjn] at hj
          exact hj))
        have hlen : (cs'.take ti.size).length = ti.size := by rw [List.length_take]; omega
        rw [hlen] at hld
        refine ⟨.agg (cs'.take ti.size).toArray, .agg (by rw [takeR_eq]; simpa using h2.take ti.size), ?_⟩
        simp only [loadVar, Sem.run_bind, hT.agg ht, Result.andThen_ok, hd, if_true, hT.size ht, hld, Sem.run_pure]
    · rename_i hd
      split at e
      · rename_i u l hcs
        cases e
        rw [hcs] at h2
        cases h2 with
        | cons r1 r2 =>
          rename_i v' l'
          have := hcell 0 v' rfl
          rw [Addr.add_none, Nat.add_zero] at this
          refine ⟨v', r1, ?_⟩
          simp only [loadVar, Sem.run_bind, hT.agg ht, Result.andThen_ok, hd, Bool.false_eq_true, if_false]
          simp [load, Sem.run, this]
      · cases e
  · cases e
theorem okv_ok {ok b : Bool} {v v' : Value} (hv : RV m v v') : RV m (okv ok v b) (if ok then .tuple #[v', .bool b] else v') := by
  cases ok with
  | true => exact .tuple (.cons hv (.cons (.scal rfl) .nil))
  | false => exact hv
theorem look_ok (hT : TbOk P T) (hr : Rep P m h.at w) {t : TypeId} {a a' k k' v : Value} {ok : Bool} (e : look T h t a k ok = some v) (ha : RV m a a') (hk : RV m k k') :
    ∃ v', RV m v v' ∧ (Instr.lookup t a' k' ok).run P w = .ok v' w := by
  unfold look at e
  split at e
  · rename_i i1 kt el ht
    have hu := hT.und ht
    split at e
    · rename_i i2 kd z ht2 hz
      obtain ⟨hz1, hz2⟩ := hT.zero hz w
      split at e
      · cases ha.scal_inv rfl
        split at e
        · rename_i r hf
          cases e
          refine ⟨_, okv_ok (RV.plain hz2), ?_⟩
          obtain ⟨r', hck, hf', h1, h2⟩ := fnd_ok hT ht2 hk .nil hf w
          have : r' = none := by
            cases r with
            | none => exact h1 rfl
            | some p =>
              obtain ⟨_, e3, _, _, g4, _⟩ := h2 p.1 p.2 rfl
              simp at g4
          subst this
          simp only [Instr.lookup, Sem.run_bind, hu, Result.andThen_ok, Sem.run_pure, hck, hf', hz1]
        · cases e
      · obtain ⟨b, x, rfl, hm⟩ := ha.map_inv
        split at e
        · rename_i r es ck hes
          obtain ⟨es', h1, h2⟩ := hr.mapAt hes hm
          have hg : (getObj b).run P w = .ok (.map es' ck) w := by simp [getObj, Sem.run, h1]
          split at e
          · rename_i j v1 hf
            cases e
            obtain ⟨r', hck, hf', _, h3⟩ := fnd_ok hT ht2 hk h2 hf w
            obtain ⟨v2, _, rfl, h4, _, _⟩ := h3 _ _ rfl
            refine ⟨_, okv_ok h4, ?_⟩
            simp only [Instr.lookup, Sem.run_bind, hu, Result.andThen_ok, Sem.run_pure, hck, hg, hf']
          · rename_i hf
            cases e
            obtain ⟨r', hck, hf', h3, _⟩ := fnd_ok hT ht2 hk h2 hf w
            obtain rfl := h3 rfl
            refine ⟨_, okv_ok (RV.plain hz2), ?_⟩
            simp only [Instr.lookup, Sem.run_bind, hu, Result.andThen_ok, Sem.run_pure, hck, hg, hf', hz1]
          · cases e
        · cases e
      · cases e
    · cases e
  · cases e

theorem lenv_ok (hT : TbOk P T) (hr : Rep P m h.at w) {t ty : TypeId} {ts : Array TypeId} {x x' v : Value} {as : List Value} (e : lenv T h t x = some v) (hx : RV m x x') (h0 : ts[0]? = some t) :
    RV m v v ∧ (Builtin.len_ ts ty (x' :: as).toArray).run P w = .ok v w := by
  unfold lenv at e
  have hn : ∀ n : Int, RV m (.int .i64 n) (.int .i64 n) := fun n => .scal rfl
  have hx0 : (x' :: as).toArray[0]? = some x' := by simp
  split at e
  · rename_i i s ht
    cases hx.string_inv; cases e
    refine ⟨hn _, ?_⟩
    simp only [Builtin.len_, h0, hx0, Sem.run_bind, hT.und ht, Result.andThen_ok]
    rfl
  · rename_i i e1 a n c ht
    cases e
    refine ⟨hn _, ?_⟩
    cases a with
    | none =>
      cases hx.slice_none
      simp only [Builtin.len_, h0, hx0, Sem.run_bind, hT.und ht, Result.andThen_ok]
      rfl
    | some a =>
      obtain ⟨b, y, _, rfl, _⟩ := hx.slice_inv
      simp only [Builtin.len_, h0, hx0, Sem.run_bind, hT.und ht, Result.andThen_ok]
      rfl
  · rename_i i e1 sz tk rows ht
    obtain ⟨a, c, rfl, _⟩ := (RV.lst_inv (rows := rows.toList) hx).lst_inv
    cases e
    refine ⟨hn _, ?_⟩
    simp only [Builtin.len_, h0, hx0, Sem.run_bind, hT.und ht, Result.andThen_ok]
    rfl
  · rename_i i e1 q1 ht
    obtain ⟨a, c, rfl⟩ := hx.nowh_inv
    cases e
    refine ⟨hn _, ?_⟩
    simp only [Builtin.len_, h0, hx0, Sem.run_bind, hT.und ht, Result.andThen_ok]
    rfl
  · rename_i i e1 q1 q2 ht
    obtain ⟨b, x, c, rfl, _⟩ := hx.loose_inv
    cases e
    refine ⟨hn _, ?_⟩
    simp only [Builtin.len_, h0, hx0, Sem.run_bind, hT.und ht, Result.andThen_ok]
    rfl
  · rename_i i n e1 ht
    cases e
    refine ⟨hn _, ?_⟩
    simp only [Builtin.len_, h0, hx0, Sem.run_bind, hT.und ht, Result.andThen_ok]
    rfl
  · rename_i i k e1 ht
    cases hx.scal_inv rfl; cases e
    refine ⟨hn _, ?_⟩
    simp only [Builtin.len_, h0, hx0, Sem.run_bind, hT.und ht, Result.andThen_ok]
    rfl
  · rename_i i k e1 r ht
    obtain ⟨b, y, rfl, hm⟩ := hx.map_inv
    split at e
    · rename_i es ck hes
      cases e
      obtain ⟨es', h1, h2⟩ := hr.mapAt hes hm
      have hg : (getObj b).run P w = .ok (.map es' ck) w := by simp [getObj, Sem.run, h1]
      have hl : es'.size = es.length := by
        have : ∀ {a b : List MapEntry}, REs m a b → b.length = a.length := by
          intro a b r
          induction r with
          | nil => rfl
          | cons _ _ ih => simp [ih]
        simpa using this h2
      refine ⟨hn _, ?_⟩
      simp only [Builtin.len_, h0, hx0, Sem.run_bind, hT.und ht, Result.andThen_ok, hg, hl]
      rfl
    · cases e
  · cases e

theorem places_ok (hT : TbOk P T) : ∀ {fs : List Field} {pl : List (Nat × Nat)}, places T fs = some pl → ∀ (w : World),
    (fs.mapM (m := Sem) fun f => do pure (f.offset, ← sizeOf f.type)).run P w = .ok pl w
  | [], pl, e, w => by cases e; rfl
  | f :: fs, pl, e, w => by
    unfold places at e
    split at e
    · rename_i ti d r ht hr
      cases e
      simp only [List.mapM_cons, Sem.run_bind, hT.size ht, Result.andThen_ok, Sem.run_pure, places_ok hT hr w]
    · cases e

theorem scalL {l l' : List Value} (h : RVs m l l') (hs : l.all scal = true) : l' = l := by
  induction l generalizing l' with
  | nil => cases h; rfl
  | cons u us ih =>
    simp only [List.all_cons, Bool.and_eq_true] at hs
    cases h with
    | cons r1 r2 => rw [r1.scal_inv hs.1, ih r2 hs.2]

theorem entryv_ok (hr : Rep P m h.at w) {r b x : Nat} {v : Value} {ty : TypeId} (e : entryv h r = some v) (hm : m r = some (b, x)) : ∃ v', RV m v v' ∧ (Instr.entry (.pointer (some ⟨b, 0, none⟩))).run P w = .ok v' w := by
  unfold entryv at e
  split at e
  · rename_i mk since seen last hit
    obtain ⟨b1, x1, q1, mo', q2, q3⟩ := hr.obj r _ hit rfl
    rw [hm] at q1
    cases q1
    obtain ⟨b2, x2, q4, rfl⟩ := q3
    have hg : (getObj b).run P w = .ok (.mapIter (some b2) since seen.toArray last) w := by simp [getObj, Sem.run, q2]
    split at e
    · rename_i es ck st hes hst
      obtain ⟨es', h1, h2⟩ := hr.mapAt hes q4
      have hg2 : (getObj b2).run P w = .ok (.map es' ck) w := by simp [getObj, Sem.run, h1]
      cases hb : Nat.beq ck last with
      | false => rw [hb] at e; cases e
      | true =>
        rw [hb, cond_true] at e
        have hb' := Nat.eq_of_beq_eq_true hb
        subst hb'
        split at e
        · rename_i en hen
          cases e
          have find : ∀ {a a' : List MapEntry} {en : MapEntry}, REs m a a' → a.find? (fun e => e.born == st) = some en → ∃ en', a'.find? (fun e => e.born == st) = some en' ∧ RE m en en' := by
            intro a a' en r hf
            induction r with
            | nil => simp at hf
            | cons r rs ih =>
              rename_i e1 e2 l1 l2
              simp only [List.find?_cons] at hf ⊢
              rw [r.born]
              cases hc : (e1.born == st) with
              | true => rw [hc] at hf; cases hf; exact ⟨_, rfl, r⟩
              | false => rw [hc] at hf; exact ih hf
          obtain ⟨en', f1, f2⟩ := find h2 hen
          have hback : seen.toArray.back? = some st := by simp [hst]
          have hfind : es'.find? (fun e => e.born == st) = some en' := by rw [← Array.find?_toList]; exact f1
          refine ⟨.tuple #[en'.key, en'.val], .tuple (.cons f2.key (.cons f2.val .nil)), ?_⟩
          simp only [Instr.entry, Sem.run_bind, hg, Result.andThen_ok, hback, hg2]
          simp [hfind]
        · cases e
    · cases e
  · cases e

theorem opv_ok (hT : TbOk P T) (hr : Rep P m h.at w) {ev : Evl} {ev' : Operand → Value} (he : Evs m ev ev') {o : Oper} {v : Value} (e : opv T h ev o.op = some v) :
    ∃ v', RV m v v' ∧ (execOp ev' o).run P w = .ok (.value v') w := by
  obtain ⟨dst, op, ty, pos, af, gd⟩ := o
  have wrap : ∀ {s : Sem Value} {v' : Value}, s.run P w = .ok v' w → (do pure (.value (← s)) : Sem Next).run P w = .ok (.value v') w := by
    intro s v' hs; simp [hs]
  cases op with
  | move x => exact ⟨_, he _ _ e, rfl⟩
  | assign x => exact ⟨_, he _ _ e, rfl⟩
  | pick c a b =>
    simp only [opv] at e
    split at e
    · rename_i hc
      refine ⟨_, he _ _ e, ?_⟩
      simp [execOp, (he _ _ hc).bool_inv, asBool]
    · rename_i hc
      refine ⟨_, he _ _ e, ?_⟩
      simp [execOp, (he _ _ hc).bool_inv, asBool]
    · cases e
  | load t x =>
    simp only [opv] at e
    split at e
    · rename_i a hx
      obtain ⟨b, y, ha, hb, hm⟩ := (he _ _ hx).ptr_inv
      obtain ⟨v', h1, h2⟩ := ldv_ok hT hr e hm
      refine ⟨v', h1, wrap ?_⟩
      simp [hb, Instr.loadAt, Instr.sureAddr, h2]
    · rename_i t1 s1 x1 cs hx
      obtain ⟨b, off, hb, v', h1, h2⟩ := ldE_ok hT hr e (he _ _ hx)
      refine ⟨v', h1, wrap ?_⟩
      simp [hb, Instr.loadAt, Instr.sureAddr, h2]
    · cases e
  | nilCheck x =>
    simp only [opv] at e
    split at e
    · rename_i a hx
      cases e
      obtain ⟨b, y, ha, hb, hm⟩ := (he _ _ hx).ptr_inv
      refine ⟨_, he _ _ hx, ?_⟩
      simp only [execOp, hb]
      rfl
    · rename_i t1 s1 x1 cs hx
      cases e
      obtain ⟨b, off, vs, sz, t', cs', hb, h1, h2, h3⟩ := RV.elp_inv (cs := cs.toList) (he _ _ hx)
      refine ⟨_, .elp h1 h2 h3, ?_⟩
      simp only [execOp, hb]
      rfl
    · rename_i f b c hx
      cases e
      obtain ⟨b', c', hb, _⟩ := (he _ _ hx).func_inv
      refine ⟨_, he _ _ hx, ?_⟩
      simp only [execOp, hb]
      rfl
    · rename_i t u hx
      cases e
      obtain ⟨u', hb, _⟩ := (he _ _ hx).iface_inv
      refine ⟨_, he _ _ hx, ?_⟩
      simp only [execOp, hb]
      rfl
    · cases e
  | binOp op t x y yt =>
    simp only [opv] at e
    split at e
    · rename_i a b ha hb
      obtain ⟨v', h1, h2⟩ := bin_ok hT hr e (he _ _ ha) (he _ _ hb)
      exact ⟨v', h1, wrap h2⟩
    · cases e
  | unOp op t x =>
    simp only [opv] at e
    split at e
    · rename_i u hu
      obtain ⟨e1, e2⟩ := cond2_some e
      obtain ⟨h1, h2⟩ := scalP (P := P) e2
      refine ⟨v, h2 m, wrap ?_⟩
      rw [(he _ _ hu).scal_inv e1]
      exact h1 w
    · cases e
  | convert s d x =>
    simp only [opv] at e
    split at e
    · rename_i u hu
      obtain ⟨h1, h2⟩ := conv_ok hT hr e (he _ _ hu)
      exact ⟨v, h1, wrap h2⟩
    · cases e
  | makeInterface t x =>
    simp only [opv] at e
    split at e
    · rename_i i d u ht hu
      cases hd : isIf d with
      | true => rw [hd] at e; cases e
      | false =>
        rw [hd] at e
        cases e
        refine ⟨_, .iface (he _ _ hu), wrap ?_⟩
        simp only [Instr.makeInterface, Sem.run_bind, hT.und ht, Result.andThen_ok]
        cases d <;> first | rfl | (simp [isIf] at hd)
    · cases e
  | makeFunc fn a b =>
    cases fn with
    | func f =>
      simp only [opv] at e
      split at e
      · rename_i l r hl hr'
        cases e
        refine ⟨.func (.func f) (a.map ev') (b.map ev'), .func ?_ ?_, rfl⟩
        · simpa using evs_ok he hl
        · simpa using evs_ok he hr'
      · cases e
    | _ => simp [opv] at e
  | slice t x lo hi mx =>
    cases mx with
    | none =>
      simp only [opv] at e
      split at e
      · rename_i u hu
        obtain ⟨v', h1, h2⟩ := slc_ok hT hr he e (he _ _ hu)
        exact ⟨v', h1, wrap h2⟩
      · cases e
    | some mx =>
      cases hi with
      | none => simp [opv] at e
      | some hi =>
        simp only [opv] at e
        split at e
        · rename_i u hu
          obtain ⟨v', h1, h2⟩ := slc3_ok (w := w) hT he e (he _ _ hu)
          exact ⟨v', h1, wrap h2⟩
        · cases e
  | fieldAddr s x f =>
    simp only [opv] at e
    split at e
    · rename_i i fs a ht hx
      obtain ⟨b, y, ha, hb, hm⟩ := (he _ _ hx).ptr_inv
      split at e
      · rename_i fd hfd
        split at e
        · rename_i ti d2 ht2
          cases hz : Nat.beq ti.size 0 with
          | true => rw [hz] at e; cases e
          | false =>
            rw [hz] at e
            cases e
            have hz' : ¬ ti.size = 0 := fun c => by rw [c] at hz; cases hz
            refine ⟨.pointer (some ⟨b, a.off + fd.offset, none⟩), ?_, wrap ?_⟩
            · rw [ha, Addr.add_none]; exact .ptr hm
            · simp only [Instr.fieldAt, Sem.run_bind, hT.und ht, Result.andThen_ok, hfd, hb, Instr.sureAddr, Sem.run_pure, fieldPlace, hT.size ht2, hz', if_false, Addr.add_none]
        · cases e
      · cases e
    · rename_i i fs t1 s1 x1 cs ht hx
      obtain ⟨b, off, vs, sz, t', cs', hb, k1, k2, k3⟩ := RV.elp_inv (cs := cs.toList) (he _ _ hx)
      split at e
      · rename_i fd hfd
        split at e
        · rename_i ti d2 ht2
          cases hz : Nat.beq ti.size 0 with
          | true => rw [hz] at e; cases e
          | false =>
            rw [hz] at e
            cases e
            have hz' : ¬ ti.size = 0 := fun c => by rw [c] at hz; cases hz
            refine ⟨.pointer (some ⟨b, off + fd.offset, none⟩), ?_, wrap ?_⟩
            · rw [dropR_eq]
              exact .elp k1 (k2.drop _) (by rw [← List.drop_drop]; exact prefix_down k3 _)
            · simp only [Instr.fieldAt, Sem.run_bind, hT.und ht, Result.andThen_ok, hfd, hb, Instr.sureAddr, Sem.run_pure, fieldPlace, hT.size ht2, hz', if_false, Addr.add_none]
        · cases e
      · cases e
    · cases e
  | field t x f =>
    simp only [opv] at e
    split at e
    · rename_i i fs cs ht hx
      obtain ⟨cs', hb, hc⟩ := (he _ _ hx).agg_inv
      split at e
      · rename_i fd hfd
        obtain ⟨v', h1, h2⟩ := partv_ok (w := w) hT e hc
        refine ⟨v', h1, wrap ?_⟩
        simp only [Instr.field, Sem.run_bind, hT.und ht, Result.andThen_ok, hfd, hb, asAgg, Sem.run_pure, h2]
      · cases e
    · cases e
  | indexAddr t x i =>
    simp only [opv] at e
    split at e
    · rename_i i1 el a n c k j ht hx hj
      obtain ⟨b, y, ha, hb, hm⟩ := (he _ _ hx).slice_inv
      have hj' := (he _ _ hj).int_inv
      split at e
      · rename_i ti d2 ht2
        cases hc : (decide (0 ≤ j) && Nat.blt j.toNat n) with
        | false => rw [hc] at e; cases e
        | true =>
          rw [hc] at e
          cases e
          simp only [Bool.and_eq_true, decide_eq_true_eq, Nat.blt_eq] at hc
          have hc2 : 0 ≤ j ∧ j < n := ⟨hc.1, by omega⟩
          refine ⟨.pointer (some ⟨b, a.off + j.toNat * ti.size, none⟩), ?_, wrap ?_⟩
          · rw [ha, Addr.add_none]; exact .ptr hm
          · simp only [Instr.indexAt, hj', asIntOf, hb, Sem.run_bind, hT.und ht, Result.andThen_ok, Sem.run_pure, hc2, and_self, if_true, hT.size ht2, Addr.add_none]
      · cases e
    · rename_i i1 n el a k j ht hx hj
      obtain ⟨b, y, ha, hb, hm⟩ := (he _ _ hx).ptr_inv
      have hj' := (he _ _ hj).int_inv
      split at e
      · rename_i ti d2 ht2
        cases hc : (decide (0 ≤ j) && Nat.blt j.toNat n) with
        | false => rw [hc] at e; cases e
        | true =>
          rw [hc] at e
          cases e
          simp only [Bool.and_eq_true, decide_eq_true_eq, Nat.blt_eq] at hc
          have hc2 : 0 ≤ j ∧ j < n := ⟨hc.1, by omega⟩
          refine ⟨.pointer (some ⟨b, a.off + j.toNat * ti.size, none⟩), ?_, wrap ?_⟩
          · rw [ha, Addr.add_none]; exact .ptr hm
          · simp only [Instr.indexAt, hj', asIntOf, hb, Sem.run_bind, hT.und ht, Result.andThen_ok, Sem.run_pure, Instr.sureAddr, hc2, and_self, if_true, hT.size ht2, Addr.add_none]
      · cases e
    · rename_i i1 el q y k j ht hx hj
      obtain ⟨b, z, c, hb, hm⟩ := (he _ _ hx).loose_inv
      have hj' := (he _ _ hj).int_inv
      split at e
      · rename_i ti d2 ht2
        cases hc : (decide (0 ≤ j) && Nat.blt j.toNat (y % 4294967296)) with
        | false => rw [hc] at e; cases e
        | true =>
          rw [hc] at e
          cases e
          simp only [Bool.and_eq_true, decide_eq_true_eq, Nat.blt_eq] at hc
          have hc2 : 0 ≤ j ∧ j < ((y % 4294967296 : Nat) : Int) := ⟨hc.1, by omega⟩
          refine ⟨.pointer (some ⟨b, y / 4294967296 + j.toNat * ti.size, none⟩), .ptr hm, wrap ?_⟩
          simp only [Instr.indexAt, hj', asIntOf, hb, Sem.run_bind, hT.und ht, Result.andThen_ok, Sem.run_pure, hc2, and_self, if_true, hT.size ht2, Addr.add_none]
      · cases e
    · rename_i i1 el sz tk rows k j ht hx hj
      have hd := RV.lst_inv (rows := rows.toList) (he _ _ hx)
      obtain ⟨a, c, hb, hc0, hh⟩ := hd.lst_inv
      have hj' := (he _ _ hj).int_inv
      split at e
      · rename_i ti d2 ks ht2 hks
        cases hc : (Nat.beq ti.size sz && Nat.blt 0 sz && Nat.beq ks.length sz && decide (0 ≤ j) && Nat.blt j.toNat rows.toList.length && rowIs ks (rowC rows.toList j.toNat)) with
        | false => rw [hc] at e; cases e
        | true =>
          rw [hc] at e
          cases e
          simp only [Bool.and_eq_true, decide_eq_true_eq, Nat.blt_eq, Nat.beq_eq] at hc
          obtain ⟨⟨⟨⟨⟨c1, c2⟩, c3⟩, c4⟩, c5⟩, c6⟩ := hc
          have hc2 : 0 ≤ j ∧ j < rows.toList.length := ⟨c4, by omega⟩
          rcases hh with hh | ⟨b, off, vs, s, t', rows', rfl, k1, k2, k3, k4⟩
          · rw [hh] at c5; simp at c5
          · refine ⟨.pointer (some ⟨b, off + j.toNat * ti.size, none⟩), ?_, wrap ?_⟩
            · rw [c1]
              exact elp_row k1 k2 k3 k4 c5 c6
            · simp only [Instr.indexAt, hj', asIntOf, hb, Sem.run_bind, hT.und ht, Result.andThen_ok, Sem.run_pure, hc2, and_self, if_true, hT.size ht2, Addr.add_none]
      · cases e
    · cases e
  | index t x i =>
    simp only [opv] at e
    split at e
    · rename_i i1 n el cs k j ht hx hj
      obtain ⟨cs', hb, hcs⟩ := (he _ _ hx).agg_inv
      have hj' := (he _ _ hj).int_inv
      split at e
      · rename_i ti d2 ht2
        cases hc : (decide (0 ≤ j) && Nat.blt j.toNat n) with
        | false => rw [hc] at e; cases e
        | true =>
          rw [hc, cond_true] at e
          simp only [Bool.and_eq_true, decide_eq_true_eq, Nat.blt_eq] at hc
          have hc2 : 0 ≤ j ∧ j < n := ⟨hc.1, by omega⟩
          obtain ⟨v', h1, h2⟩ := partv_ok (w := w) hT e hcs
          refine ⟨v', h1, wrap ?_⟩
          simp only [Instr.index, hj', asIntOf, hb, Sem.run_bind, hT.und ht, Result.andThen_ok, Sem.run_pure, hc2, and_self, if_true, hT.size ht2, h2]
      · cases e
    · rename_i i1 s k j ht hx hj
      have hb := (he _ _ hx).string_inv
      have hj' := (he _ _ hj).int_inv
      cases hc : decide (0 ≤ j) with
      | false => rw [hc] at e; cases e
      | true =>
        rw [hc, cond_true] at e
        simp only [decide_eq_true_eq] at hc
        split at e
        · rename_i b hby
          cases e
          refine ⟨_, .scal rfl, wrap ?_⟩
          simp only [Instr.index, hj', asIntOf, hb, Sem.run_bind, hT.und ht, Result.andThen_ok, Sem.run_pure, hc, if_true, hby]
        · cases e
    · cases e
  | lookup t a k ok =>
    simp only [opv] at e
    split at e
    · rename_i u k' hu hk
      obtain ⟨v', h1, h2⟩ := look_ok hT hr e (he _ _ hu) (he _ _ hk)
      exact ⟨v', h1, wrap h2⟩
    · cases e
  | typeAssert x xt t ok =>
    simp only [opv] at e
    split at e
    · rename_i i d z u v1 ht hz hx
      obtain ⟨v2, hb, hv⟩ := (he _ _ hx).iface_inv
      obtain ⟨hz1, hz2⟩ := hT.zero hz w
      cases hd : isIf d with
      | true => rw [hd] at e; cases e
      | false =>
        rw [hd, cond_false] at e
        cases hut : Nat.beq u t with
        | true =>
          rw [hut] at e
          cases e
          have := Nat.eq_of_beq_eq_true hut
          subst this
          refine ⟨_, okv_ok hv, wrap ?_⟩
          simp only [Instr.typeAssert, hb, Sem.run_bind, hT.und ht, Result.andThen_ok]
          cases d <;> first | (simp [isIf] at hd; done) | simp
        | false =>
          rw [hut, cond_false] at e
          obtain ⟨rfl, e2⟩ := cond2_some e
          cases e2
          have hne : ¬ u = t := fun c => by subst c; simp at hut
          refine ⟨_, okv_ok (RV.plain hz2), wrap ?_⟩
          simp only [Instr.typeAssert, hb, Sem.run_bind, hT.und ht, Result.andThen_ok]
          cases d <;> first | (simp [isIf] at hd; done) | simp [hne, hz1]
    · rename_i i d z ht hz hx
      have hb := (he _ _ hx).scal_inv rfl
      obtain ⟨hz1, hz2⟩ := hT.zero hz w
      obtain ⟨rfl, e2⟩ := cond2_some e
      cases e2
      refine ⟨_, okv_ok (RV.plain hz2), wrap ?_⟩
      simp only [Instr.typeAssert, hb, Sem.run_bind, hT.und ht, Result.andThen_ok]
      cases d <;> simp [hz1]
    · cases e
  | extract x i =>
    simp only [opv] at e
    split at e
    · rename_i vs hx
      obtain ⟨vs', hb, hv⟩ := (he _ _ hx).tuple_inv
      rw [← Array.getElem?_toList] at e
      obtain ⟨v', h1, h2⟩ := hv.at e
      rw [Array.getElem?_toList] at h1
      refine ⟨v', h2, wrap ?_⟩
      simp only [Instr.extract, hb, h1, Sem.run_pure]
    · cases e
  | entry x =>
    simp only [opv] at e
    split at e
    · rename_i r sp hx
      obtain ⟨b, y, ha, hb, hm⟩ := (he _ _ hx).ptr_inv
      simp only at hb hm
      obtain ⟨v', h1, h2⟩ := entryv_ok (ty := ty) hr e hm
      refine ⟨v', h1, wrap ?_⟩
      rw [hb]; exact h2
    · cases e
  | build t ps =>
    simp only [opv] at e
    split at e
    · rename_i i fs z l ht hz hl
      obtain ⟨hz1, hz2⟩ := hT.zero hz w
      have hps := evps_ok he hl
      split at e
      · rename_i pl hpl
        split at e
        · rename_i cs hf
          cases e
          obtain ⟨cs', h1, h2⟩ := fill_ok (fun i => pl[i]?) hps (RV.plain hz2).cells hf
          refine ⟨.agg cs', .agg h2, wrap ?_⟩
          have hpl' : (fs.mapM (m := Sem) fun f => do pure (f.offset, ← sizeOf f.type)).run P w = .ok pl.toArray w := by
            rw [Array.mapM_eq_mapM_toList, map_eq_pure_bind, Sem.run_bind, places_ok hT hpl w]
            rfl
          have h1' : Instr.fill (fun i => pl.toArray[i]?) z.cells (ps.map fun (i, x) => (i, ev' x)).toList = some cs' := by
            simpa using h1
          simp only [Instr.build, Sem.run_bind, hz1, hT.und ht, Result.andThen_ok, hpl', h1', Sem.run_pure]
        · cases e
      · cases e
    · rename_i i n el z l ht hz hl
      obtain ⟨hz1, hz2⟩ := hT.zero hz w
      have hps := evps_ok he hl
      split at e
      · rename_i ti d2 ht2
        split at e
        · rename_i cs hf
          cases e
          obtain ⟨cs', h1, h2⟩ := fill_ok _ hps (RV.plain hz2).cells hf
          refine ⟨.agg cs', .agg h2, wrap ?_⟩
          have h1' : Instr.fill (fun i => some (i * ti.size, ti.size)) z.cells (ps.map fun (i, x) => (i, ev' x)).toList = some cs' := by
            simpa using h1
          simp only [Instr.build, Sem.run_bind, hz1, hT.und ht, Result.andThen_ok, hT.size ht2, h1', Sem.run_pure]
        · cases e
      · cases e
    · cases e
  | call c =>
    obtain ⟨cl, as, ts⟩ := c
    cases cl with
    | builtin b =>
      cases b with
      | len =>
        simp only [opv] at e
        split at e
        · rename_i t ts' x xs hts has
          have hl := evs_ok he has
          have hxs : as.map ev' = (as.toList.map ev').toArray := by rw [← Array.toList_map, Array.toArray_toList]
          cases hl' : as.toList.map ev' with
          | nil => rw [hl'] at hl; cases hl
          | cons x' xs' =>
            rw [hl'] at hl hxs
            cases hl with
            | cons r1 r2 =>
              have h0 : ts[0]? = some t := by rw [← Array.getElem?_toList, hts]; rfl
              obtain ⟨h1, h2⟩ := lenv_ok (ty := ty) (as := xs') hT hr e r1 h0
              refine ⟨v, h1, ?_⟩
              simp only [execOp, resolve, Sem.run_bind, Sem.run_pure, Result.andThen_ok, invoke, Go.builtin, hxs, h2]
        · cases e
      | max =>
        simp only [opv] at e
        split at e
        · rename_i l hl
          obtain ⟨e1, e2⟩ := cond2_some e
          obtain ⟨h1, h2⟩ := scalP (P := P) e2
          have hl' := scalL (evs_ok he hl) e1
          have hxs : as.map ev' = l.toArray := by rw [← hl', ← Array.toList_map, Array.toArray_toList]
          refine ⟨v, h2 m, ?_⟩
          have : (Builtin.max_ ts ty l.toArray) = (Builtin.max_ #[] 0 l.toArray) := rfl
          simp only [execOp, resolve, Sem.run_bind, Sem.run_pure, Result.andThen_ok, invoke, Go.builtin, hxs, this, h1]
        · cases e
      | min =>
        simp only [opv] at e
        split at e
        · rename_i l hl
          obtain ⟨e1, e2⟩ := cond2_some e
          obtain ⟨h1, h2⟩ := scalP (P := P) e2
          have hl' := scalL (evs_ok he hl) e1
          have hxs : as.map ev' = l.toArray := by rw [← hl', ← Array.toList_map, Array.toArray_toList]
          refine ⟨v, h2 m, ?_⟩
          have : (Builtin.min_ ts ty l.toArray) = (Builtin.min_ #[] 0 l.toArray) := rfl
          simp only [execOp, resolve, Sem.run_bind, Sem.run_pure, Result.andThen_ok, invoke, Go.builtin, hxs, this, h1]
        · cases e
      | _ => simp [opv] at e
    | _ => simp [opv] at e
  | _ => simp [opv] at e
end
end Go.Ev
