/-
  A run reckoned out: whatever operation does more than read does what the function says.
-/
import Derived.Test.YtebhnbecjmdicaaGreatDoorEv7
namespace Go.Ev
set_option linter.unusedVariables false
set_option linter.unusedSimpArgs false
set_option linter.unusedSectionVars false
variable {X : Type} [ExtA X]
section
variable {P : Program} {T : Tb} {m : Mp} {h : (Hp X)} {w : World}

theorem srcN_ok (hr : Rep P m h.at w) {size q : Nat} {x x' : Value} {l : List Value} (hl : srcN h size q x = .some l) (hx : RV m x x') :
    (Builtin.lenOf x').run P w = .ok (lenS x) w ∧ ∃ l', RVs m l l' ∧ (Builtin.firstCells size q x').run P w = .ok l'.toArray w := by
  unfold srcN at hl
  split at hl
  · cases hx.slice_none; cases hl; exact ⟨rfl, [], .nil, rfl⟩
  · rename_i b n' c'
    obtain ⟨b', y, hb, rfl, hm⟩ := hx.slice_inv
    obtain ⟨l', r1, r2, r3, _⟩ := rd_ok hr hl hm
    have := run_loadCells_list (P := P) (w := w) ⟨b', b.off, none⟩ l' r3
    rw [r2] at this
    exact ⟨rfl, l', r1, this⟩
  · rename_i s
    cases hx.string_inv
    cases hl
    refine ⟨rfl, _, RVs.scal ?_, ?_⟩
    · rw [List.all_eq_true]
      intro v hv
      obtain ⟨b, _, rfl⟩ := List.mem_map.1 hv
      rfl
    · show Sem.run P (.pure _) w = _
      simp only [Sem.run]
      congr 1
      apply Array.ext'
      simp
  · rename_i q1 q2
    obtain ⟨a, c, rfl⟩ := hx.nowh_inv
    cases hb : Nat.beq q 0 with
    | false => rw [hb] at hl; cases hl
    | true =>
      rw [hb] at hl
      cases hl
      have := Nat.eq_of_beq_eq_true hb
      subst this
      refine ⟨rfl, [], .nil, ?_⟩
      cases a with
      | none => rfl
      | some a =>
        show (loadCells a (0 * size)).run P w = _
        rw [Nat.zero_mul]
        rfl
  · cases hl

theorem copyv_ok (hT : TbOk P T) (hr : Rep P m h.at w) {ts : Array TypeId} {ty : TypeId} {d d' x x' : Value} {out : (Out X)} (e : copyv T h ts.toList d x = .some out) (hd : RV m d d') (hx : RV m x x') :
    ValOk P m h w (Builtin.copy_ ts ty #[d', x']) out := by
  unfold copyv at e
  split at e
  · rename_i t tr hts
    have h0 : ts[0]? = .some t := by rw [← Array.getElem?_toList, hts]; rfl
    split at e
    · rename_i i1 el ht
      split at e
      · rename_i ti d2 base n c ht2
        have hu := hT.und ht
        have hsz := hT.size ht2
        split at e
        · rename_i l hl
          cases e
          cases hd.slice_none
          obtain ⟨r3, l', r1, r2⟩ := srcN_ok hr hl hx
          refine ⟨_, w, m, ?_, .scal rfl, hr, Stp.refl _ _ _ _ _, Nat.le_refl _⟩
          simp only [Builtin.copy_, h0, List.getElem?_toArray, List.getElem?_cons_zero, List.getElem?_cons_succ, Sem.run_bind, hu, Result.andThen_ok, r3, hsz, r2, Sem.run_pure]
          rfl
        · rename_i l a hl
          split at e
          · rename_i h' hw
            cases e
            obtain ⟨b, y, ha, rfl, hm⟩ := hd.slice_inv
            obtain ⟨r3, l', r1, r2⟩ := srcN_ok hr hl hx
            obtain ⟨w', s1, s2, s3, s4⟩ := wr_ok hr hw hm r1
            refine ⟨_, w', m, ?_, .scal rfl, s2, s3, by omega⟩
            simp only [Builtin.copy_, h0, List.getElem?_toArray, List.getElem?_cons_zero, List.getElem?_cons_succ, Sem.run_bind, hu, Result.andThen_ok, r3, hsz, r2, s1, Sem.run_pure]
            rfl
          · cases e
        · cases e
      · cases e
    · cases e
  · cases e

theorem REs.modify {k k' v v' : Value} (hk : RV m k k') (hv : RV m v v') : ∀ {es es' : List MapEntry}, REs m es es' → ∀ (i : Nat), REs m (setEnt k v i es) (es'.modify i fun e => { e with key := k', val := v' })
  | _, _, .nil, i => by cases i <;> exact .nil
  | _, _, .cons r rs, 0 => .cons ⟨hk, hv, r.born⟩ rs
  | _, _, .cons r rs, i + 1 => .cons r (REs.modify hk hv rs i)
theorem REs.append : ∀ {a a' b b' : List MapEntry}, REs m a a' → REs m b b' → REs m (a ++ b) (a' ++ b')
  | _, _, _, _, .nil, h => h
  | _, _, _, _, .cons r rs, h => .cons r (REs.append rs h)
theorem REs.erase : ∀ {a a' : List MapEntry}, REs m a a' → ∀ (i : Nat), REs m (a.eraseIdx i) (a'.eraseIdx i)
  | _, _, .nil, i => .nil
  | _, _, .cons r rs, 0 => rs
  | _, _, .cons r rs, i + 1 => .cons r (REs.erase rs i)
theorem REs.empty : ∀ {a a' : List MapEntry}, REs m a a' → a'.isEmpty = a.isEmpty
  | _, _, .nil => rfl
  | _, _, .cons _ _ => rfl

theorem setObj_run {b : Nat} {o o' : Obj} (hb : w.heap[b]? = .some o) (hc : ∀ c t f, o ≠ .cells c t f) : (setObj b o').run P w = .ok () { w with heap := w.heap.setIfInBounds b o' } := by
  cases o with
  | cells c t f => exact absurd rfl (hc _ _ _)
  | _ => simp only [setObj, Sem.run, hb]

theorem setMap_ok (hr : Rep P m h.at w) {r b x : Nat} (hk : r < 1000000) {u0 : (Ob X)} (hin : h.at r = .some u0) (hu0 : isCell u0 = true) (hm : m r = .some (b, x)) {o : (Ob X)} {o' : Obj} (ho : RO P m x (.some o') o) (hlt : b < w.heap.size) :
    Rep P m (h.set r (.some o)).at { w with heap := w.heap.setIfInBounds b o' } ∧ Stp h.at m w (h.set r (.some o)).at m { w with heap := w.heap.setIfInBounds b o' } h.nx h.nx := by
  refine set_ok hr hk hin hu0 hm ?_ (fun b' e => ?_) ?_ rfl rfl rfl
  · show RO P m x (w.heap.setIfInBounds b o')[b]? o
    rw [Array.getElem?_setIfInBounds, if_pos rfl, if_pos hlt]
    exact ho
  · show (w.heap.setIfInBounds b o')[b']? = _
    rw [Array.getElem?_setIfInBounds, if_neg (fun c => e c.symm)]
  · show (w.heap.setIfInBounds b o').size = _
    simp

theorem mapPut_ok (hT : TbOk P T) (hr : Rep P m h.at w) {t : TypeId} {a a' k k' v v' : Value} {out : (Out X)} (e : mapPut T h t a k v = .some out) (ha : RV m a a') (hk : RV m k k') (hv : RV m v v') :
    ∃ h' w', out = .val (.tuple #[]) h' ∧ (Instr.mapUpdate t a' k' v').run P w = .ok () w' ∧ Rep P m h'.at w' ∧ Stp h.at m w h'.at m w' h.nx h'.nx ∧ h'.nx = h.nx := by
  unfold mapPut at e
  split at e
  · rename_i i1 kt el r ht
    have hu := hT.und ht
    obtain ⟨b, x, rfl, hm⟩ := ha.map_inv
    split at e
    · rename_i i2 kd es ck ht2 hes
      cases c1' : Nat.blt r 1000000 with
      | false => rw [c1'] at e; cases e
      | true =>
        rw [c1', cond_true] at e
        have c1 := Nat.blt_eq.mp c1'
        obtain ⟨es', h1, h2⟩ := hr.mapAt hes hm
        have hlt := hr.lt _ _ _ (by rw [hes]; simp) hm
        have hg : (getObj b).run P w = .ok (.map es' ck) w := by simp [getObj, Sem.run, h1]
        have hso := fun o' => setObj_run (P := P) (o' := o') h1 (fun _ _ _ c => by cases c)
        split at e
        · rename_i i v1 hf
          cases e
          obtain ⟨r', hck, hf', _, h3⟩ := fnd_ok hT ht2 hk h2 hf w
          obtain ⟨v2, e1, rfl, h4, he1, hs⟩ := h3 _ _ rfl
          have hkt : (Instr.keyThatStays (((es'[i]?).map (·.key)).getD k') k').run P w = .ok k' w := by
            rw [Array.getElem?_toList] at he1
            simp only [he1, Option.map_some, Option.getD_some, Instr.keyThatStays, hs, if_true, Sem.run_pure]
          obtain ⟨s1, s2⟩ := setMap_ok hr c1 hes rfl hm (o := .map (setEnt k v i es) ck) (o' := .map (es'.modify i fun e => { e with key := k', val := v' }) ck) ⟨_, rfl, by rw [Array.toList_modify]; exact h2.modify hk hv i⟩ hlt
          refine ⟨_, _, rfl, ?_, s1, s2, rfl⟩
          simp only [Instr.mapUpdate, Sem.run_bind, hu, Result.andThen_ok, hg, hck, hf', hkt, hso]
        · rename_i hf
          cases e
          obtain ⟨r', hck, hf', h3, _⟩ := fnd_ok hT ht2 hk h2 hf w
          obtain rfl := h3 rfl
          obtain ⟨s1, s2⟩ := setMap_ok hr c1 hes rfl hm (o := .map (es ++ [⟨k, v, ck⟩]) (ck + 1)) (o' := .map (es'.push ⟨k', v', ck⟩) (ck + 1)) ⟨_, rfl, by
            rw [Array.toList_push]; exact h2.append (.cons ⟨hk, hv, rfl⟩ .nil)⟩ hlt
          refine ⟨_, _, rfl, ?_, s1, s2, rfl⟩
          simp only [Instr.mapUpdate, Sem.run_bind, hu, Result.andThen_ok, hg, hck, hf', hso]
        · cases e
    · cases e
  · cases e

theorem Rep.samew (hr : Rep P m h.at w) {w' : World} (hw : ∀ b : Nat, w'.heap[b]? = w.heap[b]?) (hs : w'.heap.size = w.heap.size) (h1 : w'.os = w.os) (h2 : w'.tape = w.tape) (h3 : w'.output = w.output) :
    Rep P m h.at w' ∧ Stp h.at m w h.at m w' h.nx h.nx :=
  ⟨⟨fun k o e ec => by obtain ⟨b, x, f1, f2⟩ := hr.obj k o e ec; exact ⟨b, x, f1, by rw [hw]; exact f2⟩, hr.inj, hr.tok,
     fun b vs s t e => by rw [hw]; exact hr.kn b vs s t e, hr.apart,
     fun k x e => let ⟨hp, f1, f2⟩ := hr.ext k x e; ⟨hp, f1, fun key r hk => let ⟨g1, b, g2, g3⟩ := f2 key r hk; ⟨has_same g2 (hw b) g1, b, g2, g3⟩⟩,
     fun k b x e e1 => by rw [hs]; exact hr.lt k b x e e1, fun k x b e e1 => by rw [hs]; exact hr.ter k x b e e1⟩,
   ⟨m.le_refl, fun j e => absurd rfl e, fun j b y e e1 => .inl ⟨j, y, e, e1⟩, fun j e => .inl e, fun b _ _ _ => ⟨hw b, rfl⟩, fun j y b e e1 => .inl ⟨j, y, e, e1⟩, fun _ _ _ => rfl, by omega, h1, h2, h3⟩⟩

theorem mapDel_ok (hT : TbOk P T) (hr : Rep P m h.at w) {ts : Array TypeId} {ty t : TypeId} {a a' k k' : Value} {out : (Out X)} (e : mapDel T h t a k = .some out) (h0 : ts[0]? = .some t) (ha : RV m a a') (hk : RV m k k') :
    ValOk P m h w (Builtin.delete_ ts ty #[a', k']) out := by
  unfold mapDel at e
  split at e
  · rename_i i1 kt el r ht
    have hu := hT.und ht
    obtain ⟨b, x, rfl, hm⟩ := ha.map_inv
    split at e
    · rename_i i2 kd es ck ht2 hes
      cases c1' : Nat.blt r 1000000 with
      | false => rw [c1'] at e; cases e
      | true =>
        rw [c1', cond_true] at e
        have c1 := Nat.blt_eq.mp c1'
        obtain ⟨es', h1, h2⟩ := hr.mapAt hes hm
        have hlt := hr.lt _ _ _ (by rw [hes]; simp) hm
        have hg : (getObj b).run P w = .ok (.map es' ck) w := by simp [getObj, Sem.run, h1]
        have hso := fun o' => setObj_run (P := P) (o' := o') h1 (fun _ _ _ c => by cases c)
        split at e
        · rename_i i v1 hf
          cases e
          obtain ⟨r', hck, hf', _, h3⟩ := fnd_ok hT ht2 hk h2 hf w
          obtain ⟨v2, e1, rfl, h4, he1, hs⟩ := h3 _ _ rfl
          obtain ⟨s1, s2⟩ := setMap_ok hr c1 hes rfl hm (o := .map (es.eraseIdx i) ck) (o' := .map (es'.eraseIdxIfInBounds i) ck) ⟨_, rfl, by rw [Array.toList_eraseIdxIfInBounds]; exact h2.erase i⟩ hlt
          refine ⟨_, _, m, ?_, .tuple .nil, s1, s2, Nat.le_refl _⟩
          simp only [Builtin.delete_, h0, List.getElem?_toArray, List.getElem?_cons_zero, List.getElem?_cons_succ, Sem.run_bind, hu, Result.andThen_ok, hg, hck, hf', hso, Sem.run_pure]
        · rename_i hf
          cases e
          obtain ⟨r', hck, hf', h3, _⟩ := fnd_ok hT ht2 hk h2 hf w
          obtain rfl := h3 rfl
          obtain ⟨s1, s2⟩ := hr.samew (w' := { w with heap := w.heap.setIfInBounds b (.map es' ck) }) (fun b' => by
            show (w.heap.setIfInBounds b (.map es' ck))[b']? = _
            rw [Array.getElem?_setIfInBounds]
            split
            · rename_i hb; subst hb; rw [h1]
            · rfl) (by show (w.heap.setIfInBounds b _).size = _; simp) rfl rfl rfl
          refine ⟨_, _, m, ?_, .tuple .nil, s1, s2, Nat.le_refl _⟩
          simp only [Builtin.delete_, h0, List.getElem?_toArray, List.getElem?_cons_zero, List.getElem?_cons_succ, Sem.run_bind, hu, Result.andThen_ok, hg, hck, hf', hso, Sem.run_pure]
        · cases e
    · cases e
  · cases e

theorem mapClr_ok (hT : TbOk P T) (hr : Rep P m h.at w) {ts : Array TypeId} {ty t : TypeId} {a a' : Value} {out : (Out X)} (e : mapClr T h t a = .some out) (h0 : ts[0]? = .some t) (ha : RV m a a') :
    ValOk P m h w (Builtin.clear_ ts ty #[a']) out := by
  unfold mapClr at e
  split at e
  · rename_i i1 kt el r ht
    have hu := hT.und ht
    obtain ⟨b, x, rfl, hm⟩ := ha.map_inv
    split at e
    · rename_i es ck hes
      cases hc : Nat.blt r 1000000 with
      | false => rw [hc] at e; cases e
      | true =>
        rw [hc, cond_true] at e
        have c1 := Nat.blt_eq.mp hc
        obtain ⟨es', h1, h2⟩ := hr.mapAt hes hm
        have hlt := hr.lt _ _ _ (by rw [hes]; simp) hm
        have hg : (getObj b).run P w = .ok (.map es' ck) w := by simp [getObj, Sem.run, h1]
        have hso := fun o' => setObj_run (P := P) (o' := o') h1 (fun _ _ _ c => by cases c)
        cases e
        obtain ⟨s1, s2⟩ := setMap_ok hr c1 hes rfl hm (o := .map [] ck) (o' := .map #[] ck) ⟨_, rfl, .nil⟩ hlt
        refine ⟨_, _, m, ?_, .tuple .nil, s1, s2, Nat.le_refl _⟩
        simp only [Builtin.clear_, h0, List.getElem?_toArray, List.getElem?_cons_zero, List.getElem?_cons_succ, Sem.run_bind, hu, Result.andThen_ok, hg, hso, Sem.run_pure]
    · cases e
  · rename_i i1 kt el ht
    cases e
    have hu := hT.und ht
    cases ha with
    | scal _ =>
      refine ⟨_, _, m, ?_, .tuple .nil, hr, Stp.refl _ _ _ _ _, Nat.le_refl _⟩
      simp only [Builtin.clear_, h0, List.getElem?_toArray, List.getElem?_cons_zero, List.getElem?_cons_succ, Sem.run_bind, hu, Result.andThen_ok, Sem.run_pure]
  · cases e

/-! append to a list that is a value -/
theorem DV.one {kn : Kn} {v v' : Value} (h : DV kn v v') : Ev.one v' = Ev.one v := by cases h <;> rfl
theorem dat_dv {v v' : Value} (hd : dat v = true) (h : RV m v v') : DV m.kn v v' := by
  cases h with
  | lst e => exact e.tk
  | tok e e' => exact e.tk
  | scal e => exact .scal e
  | _ => simp [dat, scal] at hd
theorem dats_dv : ∀ {l l' : List Value}, l.all dat = true → RVs m l l' → DVs m.kn l l'
  | _, _, _, .nil => .nil
  | _, _, h, .cons e r => by
    simp only [List.all_cons, Bool.and_eq_true] at h
    exact .cons (dat_dv h.1 e) (dats_dv h.2 r)
theorem dat_one {v : Value} (h : dat v = true) : Ev.one v = true := by
  cases v <;> first | rfl | (simp [dat, scal] at h)
theorem DVs.ones {kn : Kn} : ∀ {l l' : List Value}, DVs kn l l' → l'.all one = l.all one
  | _, _, .nil => rfl
  | _, _, .cons e r => by simp only [List.all_cons, e.one, DVs.ones r]
theorem one_cells {v : Value} (h : one v = true) : v.cells = #[v] := by
  cases v <;> first | rfl | (simp [one] at h; done)
  all_goals (simp [one] at h)
theorem chunk_len (ag : Bool) (sz : Nat) : ∀ (n : Nat) (l : List Value), (chunk ag sz n l).length = n
  | 0, _ => rfl
  | n + 1, l => by simp [chunk, chunk_len ag sz n]
theorem chunk_flat {ag : Bool} {sz : Nat} (h : ag = true ∨ sz = 1) : ∀ (n : Nat) (l : List Value), l.length = n * sz → l.all one = true → flat (chunk ag sz n l) = l ∧ ∀ r ∈ chunk ag sz n l, r.cells.size = sz
  | 0, l, hl, _ => by
    rw [Nat.zero_mul] at hl
    have := List.length_eq_zero_iff.1 hl
    subst this
    exact ⟨rfl, fun r hr => by cases hr⟩
  | n + 1, l, hl, ho => by
    rw [Nat.add_mul, Nat.one_mul] at hl
    have hd : (dropR l sz).length = n * sz := by rw [dropR_eq, List.length_drop]; omega
    have ho2 : (dropR l sz).all one = true := by
      rw [dropR_eq, List.all_eq_true]
      exact fun v hv => List.all_eq_true.1 ho v (List.mem_of_mem_drop hv)
    obtain ⟨i1, i2⟩ := chunk_flat h n (dropR l sz) hd ho2
    have head : (bif ag then Value.agg ⟨takeR l sz⟩ else l.headD undef).cells.toList = l.take sz ∧ (bif ag then Value.agg ⟨takeR l sz⟩ else l.headD undef).cells.size = sz := by
      cases ag with
      | true =>
        refine ⟨by simp [Value.cells, takeR_eq], ?_⟩
        simp [Value.cells, takeR_eq]
        omega
      | false =>
        have h1 : sz = 1 := by rcases h with h | h; cases h; exact h
        subst h1
        cases l with
        | nil => simp at hl
        | cons v l =>
          simp only [List.all_cons, Bool.and_eq_true] at ho
          simp only [cond_false, List.headD_cons]
          rw [one_cells ho.1]
          exact ⟨rfl, rfl⟩
    refine ⟨?_, fun r hr => ?_⟩
    · show flat ((bif ag then Value.agg ⟨takeR l sz⟩ else l.headD undef) :: chunk ag sz n (dropR l sz)) = l
      rw [flat_cons, head.1, i1, dropR_eq, List.take_append_drop]
    · rcases List.mem_cons.1 hr with rfl | hr
      · exact head.2
      · exact i2 r hr
theorem chunk_dvs {kn : Kn} {ag : Bool} {sz : Nat} (h0 : 0 < sz) : ∀ (n : Nat) (l l' : List Value), l.length = n * sz → DVs kn l l' → DVs kn (chunk ag sz n l) (chunk ag sz n l')
  | 0, _, _, _, _ => .nil
  | n + 1, l, l', hl, r => by
    rw [Nat.add_mul, Nat.one_mul] at hl
    have hd : (dropR l sz).length = n * sz := by rw [dropR_eq, List.length_drop]; omega
    refine .cons ?_ (chunk_dvs h0 n _ _ hd (by rw [dropR_eq, dropR_eq]; exact r.drop sz))
    cases ag with
    | true => exact .agg (by rw [takeR_eq, takeR_eq]; exact r.take sz)
    | false =>
      cases r with
      | nil => simp at hl; omega
      | cons e r => exact e

/-- the rows of a list, of the world's -/
structure RowsR (P : Program) (m : Mp) (w : World) (sz : Nat) (rows rows' : List Value) (x' : Value) : Prop where
  dv : DVs m.kn rows rows'
  size : ∀ r ∈ rows', r.cells.size = sz
  ones : (flat rows').all one = true
  len : ∀ w1, (Builtin.lenOf x').run P w1 = .ok rows.length w1
  first : ∀ w1 : World, w1.heap = w.heap → (Builtin.firstCells sz rows.length x').run P w1 = .ok (flat rows').toArray w1
theorem first_cells {b off n sz c : Nat} {l : List Value} (hl : l.length = n * sz) (hc : ∀ j v, l[j]? = some v → w.cell? ((⟨b, off, none⟩ : Addr).add j) = some v) (w1 : World) (hw : w1.heap = w.heap) :
    (Builtin.firstCells sz n (.slice (some ⟨b, off, none⟩) n c)).run P w1 = .ok l.toArray w1 := by
  have hcell : ∀ a, w1.cell? a = w.cell? a := fun a => by simp [World.cell?, hw]
  have := run_loadCells_list (P := P) (w := w1) ⟨b, off, none⟩ l (fun j v hj => by rw [hcell]; exact hc j v hj)
  rw [hl] at this
  exact this
theorem first_zero {sz c : Nat} {a : Option Addr} (w1 : World) : (Builtin.firstCells sz 0 (.slice a 0 c)).run P w1 = .ok #[] w1 := by
  cases a with
  | none => rfl
  | some a =>
    show (loadCells a (0 * sz)).run P w1 = _
    rw [Nat.zero_mul]
    rfl
theorem kn_ones {g : (G X)} (hr : Rep P m g w) {b s off : Nat} {vs l : List Value} {t : TypeId} (hk : m.kn b = some (vs, s, t)) (hp : l <+: vs.drop off) : l.all one = true := by
  obtain ⟨_, _, _, _, _, _, h⟩ := hr.kn b vs s t hk
  rw [List.all_eq_true] at h ⊢
  exact fun v hv => h v (List.mem_of_mem_drop (hp.subset hv))
theorem rowsOf_ok (hr : Rep P m h.at w) {ag : Bool} {sz : Nat} (h0 : 0 < sz) (hag : ag = true ∨ sz = 1) {x x' : Value} {rows : List Value} (e : rowsOf h ag sz x = some rows) (hx : RV m x x') : ∃ rows', RowsR P m w sz rows rows' x' := by
  unfold rowsOf at e
  split at e
  · rename_i sz' tk rs
    cases hb : Nat.beq sz sz' with
    | false => rw [hb] at e; cases e
    | true =>
      rw [hb] at e
      cases e
      obtain rfl := Nat.eq_of_beq_eq_true hb
      obtain ⟨a, c, rfl, hc, hh⟩ := (RV.lst_inv (rows := rs.toList) hx).lst_inv
      rcases hh with hh | ⟨b, off, vs, s, t, rows', rfl, k1, k2, k3, k4⟩
      · refine ⟨[], by rw [hh]; exact .nil, fun r hr => (List.not_mem_nil hr).elim, rfl, fun w1 => rfl, fun w1 hw => ?_⟩
        rw [hh]
        exact first_zero w1
      · refine ⟨rows', k2, k3, kn_ones hr k1 k4, fun w1 => rfl, fun w1 hw => first_cells ?_ (kcells hr k1 k4) w1 hw⟩
        rw [flat_len k3, k2.len]
  · rename_i n c
    cases hb : Nat.beq n 0 with
    | false => rw [hb] at e; cases e
    | true =>
      rw [hb] at e
      cases e
      obtain rfl := Nat.eq_of_beq_eq_true hb
      cases hx.slice_none
      exact ⟨[], .nil, fun r hr => (List.not_mem_nil hr).elim, rfl, fun w1 => rfl, fun w1 hw => rfl⟩
  · rename_i a n c
    obtain ⟨b, y, ha, rfl, hm⟩ := hx.slice_inv
    split at e
    · rename_i l hl
      cases hb : l.all dat with
      | false => rw [hb] at e; cases e
      | true =>
        rw [hb] at e
        cases e
        obtain ⟨l', r1, r2, r3, _⟩ := rd_ok hr hl hm
        have hll : l.length = n * sz := by rw [← r2]; exact r1.len.symm
        have hd := dats_dv hb r1
        have ho : l'.all one = true := by
          rw [hd.ones, List.all_eq_true]
          exact fun v hv => dat_one (List.all_eq_true.1 hb v hv)
        obtain ⟨c1, c2⟩ := chunk_flat hag n l' r2 ho
        refine ⟨chunk ag sz n l', chunk_dvs h0 n l l' hll hd, c2, by rw [c1]; exact ho, fun w1 => by rw [chunk_len]; rfl, fun w1 hw => ?_⟩
        rw [chunk_len, c1]
        exact first_cells r2 r3 w1 hw
    · cases e
  · rename_i s
    cases hb : (Nat.beq sz 1 && !ag) with
    | false => rw [hb] at e; cases e
    | true =>
      rw [hb] at e
      cases e
      simp only [Bool.and_eq_true, Bool.not_eq_true'] at hb
      obtain rfl := Nat.eq_of_beq_eq_true hb.1
      cases hx.string_inv
      have hfl : flat (s.data.toList.map fun b => Value.int .u8 b.toNat) = s.data.toList.map fun b => Value.int .u8 b.toNat := by
        have := flat_ints (s.data.toList.map fun b => (b.toNat : Int))
        rw [List.map_map] at this
        exact this
      have hsc : (s.data.toList.map fun b => Value.int .u8 b.toNat).all scal = true := by
        rw [List.all_eq_true]
        intro v hv
        obtain ⟨b, _, rfl⟩ := List.mem_map.1 hv
        rfl
      have hdv : ∀ l : List Value, l.all scal = true → DVs m.kn l l := fun l => by
        induction l with
        | nil => exact fun _ => .nil
        | cons v l ih =>
          intro hl
          simp only [List.all_cons, Bool.and_eq_true] at hl
          exact .cons (.scal hl.1) (ih hl.2)
      refine ⟨_, hdv _ hsc, fun r hr => ?_, ?_, fun w1 => ?_, fun w1 hw => ?_⟩
      · obtain ⟨b, _, rfl⟩ := List.mem_map.1 hr
        rfl
      · rw [hfl, List.all_eq_true]
        intro v hv
        obtain ⟨b, _, rfl⟩ := List.mem_map.1 hv
        rfl
      · rw [List.length_map]
        rfl
      · rw [List.length_map, hfl]
        have : s.extract 0 s.size = s := by
          apply ByteArray.ext
          simp [ByteArray.data_extract]
        have hsz : s.data.toList.length = s.size := rfl
        rw [hsz]
        show Sem.run P (.pure _) w1 = _
        rw [this]
        simp only [Sem.run]
        congr 1
        apply Array.ext'
        simp
  · cases e

/-- what may grow: its block, if it has one, is its own, and all of it is known that counts -/
structure OwnR (P : Program) (m : Mp) (h : (Hp X)) (w : World) (sz : Nat) (e : TypeId) (rows : List Value) (s' : Value) (m1 : Mp) (h1 : (Hp X)) (rows' : List Value) (a : Option Addr) (c : Nat) : Prop where
  val : s' = .slice a rows.length c
  le : rows.length ≤ c
  dv : DVs m1.kn rows rows'
  size : ∀ r ∈ rows', r.cells.size = sz
  ones : (flat rows').all one = true
  first : ∀ w1 : World, w1.heap = w.heap → (Builtin.firstCells sz rows.length s').run P w1 = .ok (flat rows').toArray w1
  rep : Rep P m1 h1.at w
  stp : Stp h.at m w h1.at m1 w h.nx h.nx
  nx : h1.nx = h.nx
  own : (a = none ∧ c = 0 ∧ rows = []) ∨ ∃ b, a = some ⟨b, 0, none⟩ ∧ m1.kn b = some (flat rows', c * sz, e) ∧ (∃ k x, h.at k ≠ none ∧ m k = some (b, x)) ∧ (∀ k x, h1.at k ≠ none → m1 k ≠ some (b, x)) ∧ (∀ k x, h1.at k = some (.ext x) → ¬ m1.ter k b)
theorem ownOf_ok (hT : TbOk P T) (hr : Rep P m h.at w) {ag : Bool} {sz : Nat} {el : TypeId} (hes : esz P el = sz) (h0 : 0 < sz) (hag : ag = true ∨ sz = 1) {x x' : Value} {rows : List Value} {h1 : (Hp X)} (e : ownOf h ag sz el x = some (rows, h1)) (hx : RV m x x') :
    ∃ m1 rows' a c, OwnR P m h w sz el rows x' m1 h1 rows' a c := by
  unfold ownOf at e
  split at e
  · rename_i sz' ik k rs
    split at e
    · rename_i sz2 e' hk
      cases hb : (Nat.beq sz sz' && Nat.beq sz sz2 && Nat.beq el e' && Nat.blt k 1000000) with
      | false => rw [hb] at e; cases e
      | true =>
        rw [hb] at e
        cases e
        simp only [Bool.and_eq_true, Nat.blt_eq] at hb
        obtain ⟨⟨⟨b1, b2⟩, b3⟩, b4⟩ := hb
        obtain rfl := Nat.eq_of_beq_eq_true b1
        obtain rfl := Nat.eq_of_beq_eq_true b2
        obtain rfl := Nat.eq_of_beq_eq_true b3
        obtain ⟨f1, f2⟩ := hr.forget b4
        cases hx with
        | scal e => simp [Ev.scal] at e
        | tok hd ht =>
          obtain ⟨a, c, rfl, hc, hh⟩ := DV.lst_inv (rows := rs.toList) hd
          rcases ht with ⟨t1, t2⟩ | ⟨b, vs, s, t, cap, t1, t2, t3, t4, t5⟩
          · injection t2 with g1 g2 g3
            subst g1
            subst g3
            have hnil : rs.toList = [] := List.length_eq_zero_iff.1 t1
            refine ⟨m, [], none, 0, rfl, by rw [hnil]; exact Nat.le_refl _, by rw [hnil]; exact .nil, fun r hr => (List.not_mem_nil hr).elim, rfl, fun w1 hw => by rw [hnil]; rfl, f1, f2, rfl, .inl ⟨rfl, rfl, hnil⟩⟩
          · injection t5 with g1 g2 g3
            subst g1
            subst g3
            obtain ⟨vs', s', u1, u2⟩ := hr.tok k _ _ b _ hk t1
            rw [t2] at u1
            cases u1
            have hkn : h.at k ≠ none := by rw [hk]; simp
            have hown : ∀ k' x, (h.set k none).at k' ≠ none → m k' ≠ some (b, x) := fun k' x g1 g2 => by
              rw [Hp.at_set b4] at g1
              split at g1
              · exact g1 rfl
              · rename_i hne
                exact hne (hr.inj k' k b _ _ g1 hkn g2 t1)
            have hter : ∀ k' x, (h.set k none).at k' = some (.ext x) → ¬ m.ter k' b := fun k' x g1 g2 => by
              rw [Hp.at_set b4] at g1
              split at g1
              · cases g1
              · rename_i hne
                exact (hr.ter k' x b g1 g2).2.2.1 k _ hkn (fun c => hne c.symm) t1
            rcases hh with hh | ⟨b', off, vs', s', t', rows', hae, k1, k2, k3, k4⟩
            · have hz : rs.size = 0 := by rw [← Array.length_toList, hh]; rfl
              rw [hz, Nat.zero_mul] at u2
              have hvs := List.length_eq_zero_iff.1 u2
              subst hvs
              refine ⟨m, [], some ⟨b, 0, none⟩, c, rfl, t4, by rw [hh]; exact .nil, fun r hr => (List.not_mem_nil hr).elim, rfl, fun w1 hw => ?_, f1, f2, rfl, .inr ⟨b, rfl, by rw [t3] at t2; exact t2, ⟨k, _, hkn, t1⟩, hown, hter⟩⟩
              rw [hh]
              exact first_zero w1
            · cases hae
              rw [t2] at k1
              cases k1
              rw [List.drop_zero] at k4
              have hfl : flat rows' = vs := by
                obtain ⟨r, hr'⟩ := k4
                have hlen := flat_len k3
                rw [k2.len] at hlen
                have hrs : rs.size = rs.toList.length := rfl
                rw [hrs] at u2
                have : r.length = 0 := by
                  have := congrArg List.length hr'
                  rw [List.length_append] at this
                  omega
                have := List.length_eq_zero_iff.1 this
                subst this
                rw [List.append_nil] at hr'
                exact hr'
              refine ⟨m, rows', some ⟨b, 0, none⟩, c, rfl, t4, k2, k3, kn_ones hr t2 (off := 0) (by rw [List.drop_zero]; exact k4), fun w1 hw => first_cells (by rw [flat_len k3, k2.len]) (kcells hr t2 (off := 0) (by rw [List.drop_zero]; exact k4)) w1 hw, f1, f2, rfl, .inr ⟨b, rfl, by rw [hfl, ← t3]; exact t2, ⟨k, _, hkn, t1⟩, hown, hter⟩⟩
    · cases e
  · rename_i n c
    cases hb : (Nat.beq n 0 && Nat.beq c 0) with
    | false => rw [hb] at e; cases e
    | true =>
      rw [hb] at e
      cases e
      simp only [Bool.and_eq_true] at hb
      obtain rfl := Nat.eq_of_beq_eq_true hb.1
      obtain rfl := Nat.eq_of_beq_eq_true hb.2
      cases hx.slice_none
      exact ⟨m, [], none, 0, rfl, Nat.le_refl _, .nil, fun r hr => (List.not_mem_nil hr).elim, rfl, fun w1 hw => rfl, hr, Stp.refl _ _ _ _ _, rfl, .inl ⟨rfl, rfl, rfl⟩⟩
  · rename_i a l c
    obtain ⟨b, y, ha, rfl, hm⟩ := hx.slice_inv
    split at e
    · rename_i cs t ex hk
      cases hb : (Nat.blt a.block 1000000 && Nat.beq a.off 0 && Nat.beq l c && isLen cs (c * sz) && Nat.beq t el && cs.all dat) with
      | false => rw [hb] at e; cases e
      | true =>
        rw [hb] at e
        cases e
        simp only [Bool.and_eq_true, Nat.blt_eq, isLen_eq] at hb
        obtain ⟨⟨⟨⟨⟨b1, b2⟩, b3⟩, b4⟩, b5⟩, b6⟩ := hb
        have b2 := Nat.eq_of_beq_eq_true b2
        obtain rfl := Nat.eq_of_beq_eq_true b3
        have b4 := Nat.eq_of_beq_eq_true b4
        obtain rfl := Nat.eq_of_beq_eq_true b5
        obtain ⟨c', fz, q1, q2F, q3, q4, _⟩ := hr.cellsF hk hm
        rw [hes] at q3
        have hc'l : c'.toList.length = c'.size := rfl
        have hkn : h.at a.block ≠ none := by rw [hk]; simp
        have hbn : m.kn b = none := hr.apart a.block _ b y hk rfl hm
        have hd := dats_dv b6 q4
        have hl' : (c'.toList.take cs.length).length = l * sz := by rw [List.length_take, hc'l]; omega
        have ho : (c'.toList.take cs.length).all one = true := by
          rw [hd.ones, List.all_eq_true]
          exact fun v hv => dat_one (List.all_eq_true.1 b6 v hv)
        obtain ⟨z1, z2⟩ := chunk_flat hag l _ hl' ho
        let m1 : Mp := { m with kn := fun b' => if b' = b then some (c'.toList.take cs.length, c'.size, t) else m.kn b' }
        have hm1b : m1.kn b = some (c'.toList.take cs.length, c'.size, t) := if_pos rfl
        have hm1n : ∀ b', b' ≠ b → m1.kn b' = m.kn b' := fun b' hb' => if_neg hb'
        have hle : m.le m1 := ⟨fun _ _ e => e, fun b' vs s t' e => ⟨[], by
          have : b' ≠ b := fun c => by rw [c, hbn] at e; cases e
          rw [hm1n b' this, e, List.append_nil]⟩⟩
        obtain ⟨f1, f2⟩ := hr.forget b1
        have hat := fun j => Hp.at_set (h := h) (o := none) b1 j
        have hne : ∀ j x, (h.set a.block none).at j ≠ none → m j ≠ some (b, x) := fun j x g1 g2 => by
          rw [hat] at g1
          split at g1
          · exact g1 rfl
          · rename_i hj
            exact hj (hr.inj j a.block b _ _ g1 hkn g2 hm)
        have hrep : Rep P m1 (h.set a.block none).at w := by
          refine ⟨fun j o g1 g2 => ?_, f1.inj, fun j s t' b' n g1 g2 => ?_, fun b' vs s t' g1 => ?_, fun j o b' x g1 g2 g3 => ?_, f1.ext, f1.lt, fun j x b' g1 g2 => ?_⟩
          · obtain ⟨b', x', r1, r2⟩ := f1.obj j o g1 g2
            exact ⟨b', x', r1, r2.mono hle⟩
          · have : b' ≠ b := fun c => by subst c; exact hne j n (by rw [g1]; simp) g2
            rw [hm1n b' this]
            exact f1.tok j s t' b' n g1 g2
          · by_cases hbb : b' = b
            · subst hbb
              rw [hm1b] at g1
              cases g1
              exact ⟨c', fz, q1, q2F, rfl, List.take_prefix _ _, ho⟩
            · rw [hm1n b' hbb] at g1
              exact hr.kn b' vs s t' g1
          · have : b' ≠ b := fun c => by subst c; exact hne j x (by rw [g1]; simp) g3
            rw [hm1n b' this]
            exact f1.apart j o b' x g1 g2 g3
          · obtain ⟨r1, r2, r3, r4⟩ := f1.ter j x b' g1 g2
            have g1' : h.at j = some (.ext x) ∧ j ≠ a.block := by
              rw [hat] at g1
              split at g1
              · cases g1
              · rename_i hj; exact ⟨g1, hj⟩
            have : b' ≠ b := fun c => by
              subst c
              exact (hr.ter j x b' g1'.1 g2).2.2.1 a.block y hkn g1'.2.symm hm
            exact ⟨r1, by rw [hm1n b' this]; exact r2, r3, r4⟩
        refine ⟨m1, chunk (ag) sz l (c'.toList.take cs.length), some ⟨b, 0, none⟩, l + y, by rw [chunk_len, b2], by rw [chunk_len]; omega, chunk_dvs h0 l cs _ b4 (hd.mono hle.kn), z2, by rw [z1]; exact ho, fun w1 hw => ?_, hrep, ?_, rfl, .inr ⟨b, rfl, ?_, ⟨a.block, y, hkn, hm⟩, hne, fun j x g1 g2 => ?_⟩⟩
        · rw [chunk_len, z1, b2]
          refine first_cells hl' (fun j v hj => ?_) w1 hw
          rw [Addr.add_none, Nat.zero_add]
          have hjl := (List.getElem?_eq_some_iff.1 hj).1
          rw [List.getElem?_take_of_lt (by rw [List.length_take] at hjl; omega), Array.getElem?_toList] at hj
          exact cell_some q1 hj
        · refine ⟨hle, fun j e => absurd rfl e, f2.own, f2.dom, fun b' g1 g2 g3 => ⟨rfl, ?_⟩, f2.ter, fun _ _ _ => rfl, Nat.le_refl _, rfl, rfl, rfl⟩
          exact hm1n b' (fun c => by subst c; exact g2 a.block y hkn hm)
        · rw [hm1b, z1]
          congr 2
          rw [q3, b4, Nat.add_mul]
        · have g1' : h.at j = some (.ext x) ∧ j ≠ a.block := by
            rw [hat] at g1
            split at g1
            · cases g1
            · rename_i hj; exact ⟨g1, hj⟩
          exact (hr.ter j x b g1'.1 g2).2.2.1 a.block y hkn g1'.2.symm hm
    · cases e
  · cases e

/-- the list behind an append: its right to grow has a new number; its block is a new one, or the old one, of which more is known -/
theorem addTok (hr : Rep P m h.at w) {m1 : Mp} {h1 : (Hp X)} (hr1 : Rep P m1 h1.at w) (st : Stp h.at m w h1.at m1 w h.nx h.nx) (hnx : h1.nx = h.nx) (hn : m1 h.nx = none) (hroom : roomy h = true) {w' : World} {b n sz s : Nat} {e : TypeId} {vs : List Value} {c' : Array Value} {fz : Nat × Nat}
    (hw : ∀ b', b' < w.heap.size → b' ≠ b → w'.heap[b']? = w.heap[b']?) (hwb : w'.heap[b]? = some (.cells c' e fz)) (hfz : Fz fz c'.size) (hs : c'.size = s) (hp : vs <+: c'.toList) (ho : vs.all one = true) (hvl : vs.length = n * sz)
    (hb : b = w.heap.size ∨ ((∃ old, m1.kn b = some (old, s, e) ∧ ∃ ws, vs = old ++ ws) ∧ (∃ k x, h.at k ≠ none ∧ m k = some (b, x)) ∧ (∀ k x, h1.at k ≠ none → m1 k ≠ some (b, x)) ∧ (∀ k x, h1.at k = some (.ext x) → ¬ m1.ter k b)))
    (hsz : w.heap.size ≤ w'.heap.size) (h1' : w'.os = w.os) (h2' : w'.tape = w.tape) (h3' : w'.output = w.output) :
    ∃ m2 : Mp, m1.le m2 ∧ m2 h.nx = some (b, n) ∧ m2.kn b = some (vs, s, e) ∧ Rep P m2 (h1.add (.tok sz e)).at w' ∧ Stp h.at m w (h1.add (.tok sz e)).at m2 w' h.nx (h.nx + 1) := by
  let m2 : Mp := { m1 with num := fun k => if k = h.nx then some (b, n) else m1 k, kn := fun b' => if b' = b then some (vs, s, e) else m1.kn b' }
  have k1 : m2.kn b = some (vs, s, e) := if_pos rfl
  have k2 : ∀ b', b' ≠ b → m2.kn b' = m1.kn b' := fun b' hb' => if_neg hb'
  have n1 : m2 h.nx = some (b, n) := if_pos rfl
  have n2 : ∀ k, k ≠ h.nx → m2 k = m1 k := fun k hk => if_neg hk
  have hb1 : ∀ k x, h1.at k ≠ none → m1 k ≠ some (b, x) := by
    rcases hb with rfl | ⟨_, _, g, _⟩
    · intro k x f1 f2
      have := hr1.lt k _ x f1 f2
      omega
    · exact g
  have hb2 : ∀ k x, h1.at k = some (.ext x) → ¬ m1.ter k b := by
    rcases hb with rfl | ⟨_, _, _, g⟩
    · intro k x f1 f2
      have := (hr1.ter k x _ f1 f2).1
      omega
    · exact g
  have hle : m1.le m2 := by
    refine ⟨fun k p ek => ?_, fun b' vs' s' t' e' => ?_⟩
    · by_cases hk : k = h.nx
      · subst hk; rw [hn] at ek; cases ek
      · rw [n2 k hk]; exact ek
    · by_cases hbb : b' = b
      · subst hbb
        rcases hb with rfl | ⟨⟨old, g1, ws, g2⟩, _⟩
        · have := hr1.klt e'; omega
        · rw [g1] at e'
          cases e'
          exact ⟨ws, by rw [k1, g2]⟩
      · exact ⟨[], by rw [k2 b' hbb, e', List.append_nil]⟩
  have hat : ∀ k, (h1.add (.tok sz e)).at k = if k = h.nx then some (.tok sz e) else h1.at k := fun k => by
    have := Hp.at_add (h := h1) (o := .tok sz e) (by unfold roomy at hroom ⊢; rw [hnx]; exact hroom) k
    rw [hnx] at this
    exact this
  have hc1 : ∀ k o, (h1.add (.tok sz e)).at k = some o → isCell o = true → k ≠ h.nx ∧ h1.at k = some o := fun k o ek ec => by
    rw [hat] at ek
    split at ek
    · cases ek; cases ec
    · rename_i hk; exact ⟨hk, ek⟩
  have hc2 : ∀ k x, (h1.add (.tok sz e)).at k = some (.ext x) → k ≠ h.nx ∧ h1.at k = some (.ext x) := fun k x ek => by
    rw [hat] at ek
    split at ek
    · cases ek
    · rename_i hk; exact ⟨hk, ek⟩
  have hc3 : ∀ k, k ≠ h.nx → (h1.add (.tok sz e)).at k ≠ none → h1.at k ≠ none := fun k hk ek => by
    rw [hat, if_neg hk] at ek; exact ek
  have hlt' : b < w'.heap.size := by
    rcases Nat.lt_or_ge b w'.heap.size with l | l
    · exact l
    · rw [Array.getElem?_eq_none l] at hwb; cases hwb
  refine ⟨m2, hle, n1, k1, ⟨fun k o ek ec => ?_, fun k k' b' x x' ek ek' e1 e2 => ?_, fun k s' t b' n' ek e1 => ?_, fun b' vs' s' t' ek => ?_, fun k o b' x ek ec e1 => ?_, fun k x ek => ?_, fun k b' x ek e1 => ?_, fun k x b' ek e1 => ?_⟩,
    ⟨Mp.le_trans st.le hle, fun k ek => ?_, fun k b' x ek e1 => ?_, fun k ek => ?_, fun b' f1 f2 f3 => ?_, fun k x b' ek e1 => ?_, fun k f1 f2 => st.nter k f1 (by omega), hsz, h1', h2', h3'⟩⟩
  · obtain ⟨g1, g2⟩ := hc1 k o ek ec
    obtain ⟨b', x, r1, r2⟩ := hr1.obj k o g2 ec
    refine ⟨b', x, hle _ _ r1, ?_⟩
    rw [hw b' (hr1.lt k b' x (by rw [g2]; simp) r1) (fun c => hb1 k x (by rw [g2]; simp) (by rw [← c]; exact r1))]
    exact r2.mono hle
  · by_cases hk : k = h.nx
    · by_cases hk' : k' = h.nx
      · rw [hk, hk']
      · subst hk
        rw [n1] at e1
        cases e1
        rw [n2 k' hk'] at e2
        exact absurd e2 (hb1 k' x' (hc3 k' hk' ek'))
    · by_cases hk' : k' = h.nx
      · subst hk'
        rw [n1] at e2
        cases e2
        rw [n2 k hk] at e1
        exact absurd e1 (hb1 k x (hc3 k hk ek))
      · rw [n2 k hk] at e1
        rw [n2 k' hk'] at e2
        exact hr1.inj k k' b' x x' (hc3 k hk ek) (hc3 k' hk' ek') e1 e2
  · by_cases hk : k = h.nx
    · subst hk
      rw [n1] at e1
      cases e1
      rw [hat, if_pos rfl] at ek
      cases ek
      exact ⟨vs, s, k1, hvl⟩
    · rw [n2 k hk] at e1
      have ek' := ek
      rw [hat, if_neg hk] at ek
      rw [k2 b' (fun c => by subst c; exact hb1 k n' (by rw [ek]; simp) e1)]
      exact hr1.tok k s' t b' n' ek e1
  · by_cases hbb : b' = b
    · subst hbb
      rw [k1] at ek
      cases ek
      exact ⟨c', fz, hwb, hfz, hs, hp, ho⟩
    · rw [k2 b' hbb] at ek
      obtain ⟨c2, fz2, f1, f2⟩ := hr1.kn b' vs' s' t' ek
      exact ⟨c2, fz2, by rw [hw b' (hr1.klt ek) hbb]; exact f1, f2⟩
  · obtain ⟨g1, g2⟩ := hc1 k o ek ec
    rw [n2 k g1] at e1
    rw [k2 b' (fun c => by subst c; exact hb1 k x (by rw [g2]; simp) e1)]
    exact hr1.apart k o b' x g2 ec e1
  · obtain ⟨g1, g2⟩ := hc2 k x ek
    obtain ⟨hp', f1, f2⟩ := hr1.ext k x g2
    refine ⟨hp', f1, fun key r hkey => ?_⟩
    obtain ⟨q1, b', q2, q3⟩ := f2 key r hkey
    exact ⟨has_same q2 (hw b' (hr1.ter k x b' g2 q3).1 (fun c => hb2 k x g2 (by rw [← c]; exact q3))) q1, b', q2, q3⟩
  · by_cases hk : k = h.nx
    · subst hk; rw [n1] at e1; cases e1; exact hlt'
    · rw [n2 k hk] at e1
      exact Nat.lt_of_lt_of_le (hr1.lt k b' x (hc3 k hk ek) e1) hsz
  · obtain ⟨g1, g2⟩ := hc2 k x ek
    obtain ⟨q1, q2, q3, q4⟩ := hr1.ter k x b' g2 e1
    refine ⟨Nat.lt_of_lt_of_le q1 hsz, by rw [k2 b' (fun c => hb2 k x g2 (by rw [← c]; exact e1))]; exact q2, fun k' x' f hne f2 => ?_, fun k' x' f hne f2 => q4 k' x' (hc2 k' x' f).2 hne f2⟩
    by_cases hk' : k' = h.nx
    · subst hk'
      rw [n1] at f2
      cases f2
      exact hb2 k x g2 e1
    · rw [n2 k' hk'] at f2
      exact q3 k' x' (hc3 k' hk' f) hne f2
  · by_cases hk : k = h.nx
    · omega
    · rw [n2 k hk] at ek
      have := st.new k ek
      omega
  · by_cases hk : k = h.nx
    · subst hk
      rw [n1] at e1
      cases e1
      rcases hb with rfl | ⟨_, g, _⟩
      · exact .inr (Nat.le_refl _)
      · exact .inl g
    · rw [n2 k hk] at e1
      exact st.own k b' x (hc3 k hk ek) e1
  · by_cases hk : k = h.nx
    · exact .inr (by omega)
    · rcases st.dom k (hc3 k hk ek) with g | g
      · exact .inl g
      · omega
  · have hbb : b' ≠ b := fun c => by
      subst c
      rcases hb with rfl | ⟨_, ⟨k, x, g1, g2⟩, _⟩
      · omega
      · exact f2 k x g1 g2
    obtain ⟨r1, r2⟩ := st.keep b' f1 f2 f3
    exact ⟨hw b' f1 hbb, by rw [k2 b' hbb]; exact r2⟩
  · exact st.ter k x b' (hc2 k x ek).2 e1
/-- the right to grow of a list that has no block -/
theorem addTok0 {m1 : Mp} {h1 : (Hp X)} (hr1 : Rep P m1 h1.at w) (st : Stp h.at m w h1.at m1 w h.nx h.nx) (hnx : h1.nx = h.nx) (hn : m1 h.nx = none) (hroom : roomy h = true) (sz : Nat) (e : TypeId) :
    Rep P m1 (h1.add (.tok sz e)).at w ∧ Stp h.at m w (h1.add (.tok sz e)).at m1 w h.nx (h.nx + 1) := by
  have hat : ∀ k, (h1.add (.tok sz e)).at k = if k = h.nx then some (.tok sz e) else h1.at k := fun k => by
    have := Hp.at_add (h := h1) (o := .tok sz e) (by unfold roomy at hroom ⊢; rw [hnx]; exact hroom) k
    rw [hnx] at this
    exact this
  have ne : ∀ k p, m1 k = some p → k ≠ h.nx := fun k p f c => by subst c; rw [hn] at f; cases f
  have hc3 : ∀ k, k ≠ h.nx → (h1.add (.tok sz e)).at k = h1.at k := fun k hk => by rw [hat, if_neg hk]
  have hc1 : ∀ k o, (h1.add (.tok sz e)).at k = some o → (∀ a b, o ≠ .tok a b) → h1.at k = some o := fun k o ek ec => by
    rw [hat] at ek
    split at ek
    · cases ek; exact absurd rfl (ec _ _)
    · exact ek
  refine ⟨⟨fun k o ek ec => hr1.obj k o (hc1 k o ek (fun a b c => by subst c; cases ec)) ec, fun k k' b' x x' ek ek' e1 e2 => hr1.inj k k' b' x x' (by rw [← hc3 k (ne _ _ e1)]; exact ek) (by rw [← hc3 k' (ne _ _ e2)]; exact ek') e1 e2,
      fun k s' t b' n' ek e1 => hr1.tok k s' t b' n' (by rw [← hc3 k (ne _ _ e1)]; exact ek) e1, hr1.kn, fun k o b' x ek ec e1 => hr1.apart k o b' x (by rw [← hc3 k (ne _ _ e1)]; exact ek) ec e1,
      fun k x ek => hr1.ext k x (hc1 k _ ek (fun a b c => by cases c)), fun k b' x ek e1 => hr1.lt k b' x (by rw [← hc3 k (ne _ _ e1)]; exact ek) e1, fun k x b' ek e1 => ?_⟩,
    ⟨st.le, fun k ek => by have := st.new k ek; omega, fun k b' x ek e1 => st.own k b' x (by rw [← hc3 k (ne _ _ e1)]; exact ek) e1, fun k ek => ?_, st.keep, fun k x b' ek e1 => st.ter k x b' (hc1 k _ ek (fun a b c => by cases c)) e1, fun k f1 f2 => st.nter k f1 (by omega), Nat.le_refl _, rfl, rfl, rfl⟩⟩
  · obtain ⟨q1, q2, q3, q4⟩ := hr1.ter k x b' (hc1 k _ ek (fun a b c => by cases c)) e1
    exact ⟨q1, q2, fun k' x' f hne f2 => q3 k' x' (by rw [← hc3 k' (ne _ _ f2)]; exact f) hne f2, fun k' x' f hne f2 => q4 k' x' (hc1 k' _ f (fun a b c => by cases c)) hne f2⟩
  · by_cases hk : k = h.nx
    · exact .inr (by omega)
    · rcases st.dom k (by rw [← hc3 k hk]; exact ek) with g | g
      · exact .inl g
      · omega
theorem flat_ones {l : List Value} {l2 : List Value} (h1 : (flat l).all one = true) (h2 : (flat l2).all one = true) : (flat (l ++ l2)).all one = true := by
  rw [flat_append, List.all_append, h1, h2]; rfl
theorem apndT_ok (hT : TbOk P T) (hr : Rep P m h.at w) (hn : m h.nx = none) {ts : Array TypeId} {ty : TypeId} {s s' x x' : Value} {out : (Out X)} (e : apndT T h ts.toList s x = .some out) (hs : RV m s s') (hx : RV m x x') :
    ValOk P m h w (Builtin.append_ ts ty #[s', x']) out := by
  unfold apndT at e
  split at e
  · rename_i t tx hts
    have hts' : ts = #[t, tx] := by apply Array.ext'; rw [hts]
    subst hts'
    split at e
    · rename_i i1 el i2 dx ht htx
      split at e
      · rename_i ti d z ht2 hz
        have hut := (hT.ok _ _ _ ht).2
        have hutx := (hT.ok _ _ _ htx).2
        have hinf := (hT.ok _ _ _ ht2).1
        have hesz : esz P el = ti.size := hT.esz ht2
        have hz' : ti.zero = .some z ∧ plain z = true := by
          unfold zerov at hz
          rw [ht2] at hz
          simp only at hz
          split at hz
          · rename_i z' hz'
            cases hp : plain z' with
            | true => rw [hp] at hz; cases hz; exact ⟨hz', hp⟩
            | false => rw [hp] at hz; cases hz
          · cases hz
        split at e
        · rename_i news rows h1 hdx hnews hown
          cases hcond : (Nat.blt 0 ti.size && Nat.beq z.cells.size ti.size && (isAg d || Nat.beq ti.size 1) && Nat.blt 0 ti.bytes && roomy h && Nat.ble ((rows ++ news).length * ti.bytes) 140737488355328) with
          | false => rw [hcond] at e; cases e
          | true =>
            rw [hcond] at e
            cases e
            simp only [Bool.and_eq_true, Nat.blt_eq, Bool.or_eq_true] at hcond
            obtain ⟨⟨⟨⟨⟨c1, c2⟩, c3⟩, c4⟩, c5⟩, c6⟩ := hcond
            have c2 := Nat.eq_of_beq_eq_true c2
            have c3 : isAg d = true ∨ ti.size = 1 := c3.imp id Nat.eq_of_beq_eq_true
            have c6 := Nat.le_of_ble_eq_true c6
            rw [List.length_append] at c6
            have c7 : rows.length + news.length < 4611686018427387904 := by
              have := Nat.le_mul_of_pos_right (rows.length + news.length) c4
              omega
            obtain ⟨news', R⟩ := rowsOf_ok hr c1 c3 hnews hx
            obtain ⟨m1, rows', a, c, O⟩ := ownOf_ok hT hr hesz c1 c3 hown hs
            have hn1 : m1 h.nx = none := by
              rcases Decidable.em (m1 h.nx = m h.nx) with g | g
              · rw [g]; exact hn
              · have := O.stp.new _ g; omega
            have hnl := flat_len R.size
            have hrl := flat_len O.size
            rw [R.dv.len] at hnl
            rw [O.dv.len] at hrl
            have hdv : DVs m1.kn (rows ++ news) (rows' ++ news') := O.dv.append (R.dv.mono O.stp.le.kn)
            have hsize : ∀ r ∈ rows' ++ news', r.cells.size = ti.size := fun r hr => by
              rcases List.mem_append.1 hr with g | g
              · exact O.size r g
              · exact R.size r g
            have hones := flat_ones O.ones R.ones
            have hfl := flat_append rows' news'
            obtain rfl := O.val
            have out_of : ∀ {m2 : Mp} {w' : World} {v' : Value}, (Builtin.append_ #[t, tx] ty #[.slice a rows.length c, x']).run P w = .ok v' w' → RV m2 (lstT ti.size h.nx (rows ++ news)) v' → Rep P m2 (h1.add (.tok ti.size el)).at w' → Stp h.at m w (h1.add (.tok ti.size el)).at m2 w' h.nx (h.nx + 1) →
                ValOk P m h w (Builtin.append_ #[t, tx] ty #[.slice a rows.length c, x']) (.val (lstT ti.size h.nx (rows ++ news)) (h1.add (.tok ti.size el))) := by
              intro m2 w' v' q1 q2 q3 q4
              have hnx : (h1.add (.tok ti.size el)).nx = h.nx + 1 := congrArg (· + 1) O.nx
              exact ⟨v', w', m2, q1, q2, q3, by rw [hnx]; exact q4, by rw [hnx]; exact Nat.le_succ _⟩
            have mkRV : ∀ {m2 : Mp} {b cap s0 : Nat}, m1.le m2 → m2 h.nx = some (b, rows.length + news.length) → m2.kn b = some (flat rows' ++ flat news', s0, el) → s0 = cap * ti.size → rows.length + news.length ≤ cap →
                RV m2 (lstT ti.size h.nx (rows ++ news)) (.slice (some ⟨b, 0, none⟩) (rows.length + news.length) cap) := by
              intro m2 b cap s0 g1 g2 g3 g4 g5
              refine .tok (.lst g3 (hdv.mono g1.kn) hsize (by rw [List.drop_zero, hfl]; exact List.prefix_refl _) (by rw [List.length_append]) g5) (.inr ⟨b, _, s0, el, cap, ?_, g3, g4, ?_, ?_⟩)
              · rw [g2]
                simp [List.length_append]
              · simpa [List.length_append] using g5
              · simp [List.length_append]
            by_cases hfit : rows.length + news.length ≤ c
            · rcases O.own with ⟨rfl, rfl, hr0⟩ | ⟨b, rfl, g1, g2, g3, g4⟩
              · -- nothing at all
                have hn0 : news = [] := List.length_eq_zero_iff.1 (by omega)
                obtain ⟨s1, s2⟩ := addTok0 O.rep O.stp O.nx hn1 c5 ti.size el
                refine out_of (w' := w) (inplace_run hut hutx hdx hinf R.len (R.first w rfl) hfit rfl) ?_ s1 s2
                rw [hr0, hn0]
                exact .tok .lst0 (.inl ⟨rfl, rfl⟩)
              · -- there is room behind it
                obtain ⟨c', fz, q1, q2F, q3, q4, q5⟩ := O.rep.kn b _ _ _ g1
                have hyn : (rows.length + news.length) * ti.size ≤ c * ti.size := Nat.mul_le_mul_right _ hfit
                rw [Nat.add_mul] at hyn
                obtain ⟨w', r1, r2, r3, r4, r5, r6, r7⟩ := storeCells_run (P := P) (rows.length * ti.size) (flat news') 0 c' w q1 (by omega) q2F.free R.ones
                obtain ⟨rest, hrest⟩ := q4
                have hov : overl c'.toList (rows.length * ti.size + 0) (flat news') = flat rows' ++ (flat news' ++ rest.drop (flat news').length) := by
                  rw [← hrest, Nat.add_zero, ← hrl]
                  refine overl_end _ _ _ ?_
                  have := congrArg List.length hrest
                  have hcz : c'.toList.length = c'.size := rfl
                  rw [List.length_append] at this
                  omega
                rw [hov] at r2
                have hcl : (flat rows' ++ (flat news' ++ rest.drop (flat news').length)).toArray.size = c'.size := by
                  have := congrArg List.length hrest
                  have hcz : c'.toList.length = c'.size := rfl
                  rw [List.length_append] at this
                  simp only [List.size_toArray, List.length_append, List.length_drop]
                  omega
                obtain ⟨m2, z1, z2, z3, z4, z5⟩ := addTok (n := rows.length + news.length) (sz := ti.size) (vs := flat rows' ++ flat news') hr O.rep O.stp O.nx hn1 c5 (fun b' _ hb' => r3 b' hb') r2 (by rw [hcl]; exact q2F) (by rw [hcl]; exact q3)
                  (by simp only [List.toList_toArray]; rw [← List.append_assoc]; exact List.prefix_append _ _) (by rw [← hfl]; exact hones) (by rw [List.length_append, hrl, hnl, Nat.add_mul]) (.inr ⟨⟨_, g1, _, rfl⟩, g2, g3, g4⟩) (by omega) r5 r6 r7
                refine out_of (w' := w') (inplace_run hut hutx hdx hinf R.len (R.first w rfl) hfit ?_) (mkRV z1 z2 z3 rfl hfit) z4 z5
                show (storeCells ((⟨b, 0, none⟩ : Addr).add (rows.length * ti.size)) (flat news')).run P w = _
                rw [Addr.add_none, Nat.zero_add]
                exact r1
            · -- a new row
              obtain ⟨q, w1, k1, k2, k3, k4, k5⟩ := grow_run hut hutx hdx hinf hz'.1 c2 R.len R.first O.first hfit c6 c7 (ty := ty)
              have hrepl : (rep z.cells.toList q).length = q * ti.size := by rw [rep_len, Array.length_toList, c2]
              obtain ⟨m2, z1, z2, z3, z4, z5⟩ := addTok (b := w.heap.size) (n := rows.length + news.length) (sz := ti.size) (s := (rows.length + news.length + q) * ti.size) (e := el) (vs := flat rows' ++ flat news') (c' := (flat rows').toArray ++ (flat news').toArray ++ (rep z.cells.toList q).toArray) (fz := (0, 0)) (w' := w1.alloc (.cells ((flat rows').toArray ++ (flat news').toArray ++ (rep z.cells.toList q).toArray) el)) hr O.rep O.stp O.nx hn1 c5
                (fun b' hb' _ => by
                  show (w1.heap.push _)[b']? = _
                  rw [k1, Array.getElem?_push, if_neg (by omega)])
                (by
                  show (w1.heap.push _)[w.heap.size]? = _
                  rw [k1]; simp) (nofz _) (by simp only [Array.size_append, List.size_toArray, hrl, hnl, hrepl, Nat.add_mul]) (by simp only [Array.toList_append, List.toList_toArray]; exact List.prefix_append _ _) (by rw [← hfl]; exact hones) (by rw [List.length_append, hrl, hnl, Nat.add_mul]) (.inl rfl) (by
                  show w.heap.size ≤ (w1.heap.push _).size
                  rw [k1]; simp) k2 k3 k4
              exact out_of k5 (mkRV z1 z2 z3 rfl (by omega)) z4 z5
        · cases e
      · cases e
    · cases e
  · cases e
end
end Go.Ev
