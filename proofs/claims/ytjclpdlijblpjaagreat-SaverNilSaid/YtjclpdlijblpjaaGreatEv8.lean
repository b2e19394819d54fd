/-
  A run reckoned out: whatever operation does more than read does what the function says.
-/
import Derived.Test.YtjclpdlijblpjaaGreatEv7
namespace Go.Ev
set_option linter.unusedVariables false
set_option linter.unusedSimpArgs false
section
variable {P : Program} {T : Tb} {m : Mp} {h : Hp} {w : World}

theorem srcN_ok (hr : Rep P m h.at w) {size q : Nat} {x x' : Value} {l : List Value} (hl : srcN h size q x = .some l) (hx : RV m x x') :
    (Builtin.lenOf x').run P w = .ok (lenS x) w ∧ ∃ l', RVs m l l' ∧ (Builtin.firstCells size q x').run P w = .ok l'.toArray w := by
  unfold srcN at hl
  split at hl
  · cases hx.slice_none; cases hl; exact ⟨rfl, [], .nil, rfl⟩
  · rename_i b n' c'
    obtain ⟨b', y, hb, rfl, hm⟩ := hx.slice_inv
    obtain ⟨l', r1, r2, r3, _⟩ := rd_ok hr hl hm
    have := run_loadCells_list (P := P) (w := w) ⟨b', b.off, none⟩ l' r3
    rw [r2] at this
    exact ⟨rfl, l', r1, this⟩
  · rename_i s
    cases hx.string_inv
    cases hl
    refine ⟨rfl, _, RVs.scal ?_, ?_⟩
    · rw [List.all_eq_true]
      intro v hv
      obtain ⟨b, _, rfl⟩ := List.mem_map.1 hv
      rfl
    · show Sem.run P (.pure _) w = _
      simp only [Sem.run]
      congr 1
      apply Array.ext'
      simp
  · rename_i q1 q2
    obtain ⟨a, c, rfl⟩ := hx.nowh_inv
    cases hb : Nat.beq q 0 with
    | false => rw [hb] at hl; cases hl
    | true =>
      rw [hb] at hl
      cases hl
      have := Nat.eq_of_beq_eq_true hb
      subst this
      refine ⟨rfl, [], .nil, ?_⟩
      cases a with
      | none => rfl
      | some a =>
        show (loadCells a (0 * size)).run P w = _
        rw [Nat.zero_mul]
        rfl
  · cases hl

theorem copyv_ok (hT : TbOk P T) (hr : Rep P m h.at w) {ts : Array TypeId} {ty : TypeId} {d d' x x' : Value} {out : Out} (e : copyv T h ts.toList d x = .some out) (hd : RV m d d') (hx : RV m x x') :
    ValOk P m h w (Builtin.copy_ ts ty #[d', x']) out := by
  unfold copyv at e
  split at e
  · rename_i t tr hts
    have h0 : ts[0]? = .some t := by rw [← Array.getElem?_toList, hts]; rfl
    split at e
    · rename_i i1 el ht
      split at e
      · rename_i ti d2 base n c ht2
        have hu := hT.und ht
        have hsz := hT.size ht2
        split at e
        · rename_i l hl
          cases e
          cases hd.slice_none
          obtain ⟨r3, l', r1, r2⟩ := srcN_ok hr hl hx
          refine ⟨_, w, m, ?_, .scal rfl, hr, Stp.refl _ _ _ _ _, Nat.le_refl _⟩
          simp only [Builtin.copy_, h0, List.getElem?_toArray, List.getElem?_cons_zero, List.getElem?_cons_succ, Sem.run_bind, hu, Result.andThen_ok, r3, hsz, r2, Sem.run_pure]
          rfl
        · rename_i l a hl
          split at e
          · rename_i h' hw
            cases e
            obtain ⟨b, y, ha, rfl, hm⟩ := hd.slice_inv
            obtain ⟨r3, l', r1, r2⟩ := srcN_ok hr hl hx
            obtain ⟨w', s1, s2, s3, s4⟩ := wr_ok hr hw hm r1
            refine ⟨_, w', m, ?_, .scal rfl, s2, s3, by omega⟩
            simp only [Builtin.copy_, h0, List.getElem?_toArray, List.getElem?_cons_zero, List.getElem?_cons_succ, Sem.run_bind, hu, Result.andThen_ok, r3, hsz, r2, s1, Sem.run_pure]
            rfl
          · cases e
        · cases e
      · cases e
    · cases e
  · cases e

theorem REs.modify {k k' v v' : Value} (hk : RV m k k') (hv : RV m v v') : ∀ {es es' : List MapEntry}, REs m es es' → ∀ (i : Nat), REs m (setEnt k v i es) (es'.modify i fun e => { e with key := k', val := v' })
  | _, _, .nil, i => by cases i <;> exact .nil
  | _, _, .cons r rs, 0 => .cons ⟨hk, hv, r.born⟩ rs
  | _, _, .cons r rs, i + 1 => .cons r (REs.modify hk hv rs i)
theorem REs.append : ∀ {a a' b b' : List MapEntry}, REs m a a' → REs m b b' → REs m (a ++ b) (a' ++ b')
  | _, _, _, _, .nil, h => h
  | _, _, _, _, .cons r rs, h => .cons r (REs.append rs h)
theorem REs.erase : ∀ {a a' : List MapEntry}, REs m a a' → ∀ (i : Nat), REs m (a.eraseIdx i) (a'.eraseIdx i)
  | _, _, .nil, i => .nil
  | _, _, .cons r rs, 0 => rs
  | _, _, .cons r rs, i + 1 => .cons r (REs.erase rs i)
theorem REs.empty : ∀ {a a' : List MapEntry}, REs m a a' → a'.isEmpty = a.isEmpty
  | _, _, .nil => rfl
  | _, _, .cons _ _ => rfl

theorem setObj_run {b : Nat} {o o' : Obj} (hb : w.heap[b]? = .some o) (hc : ∀ c t f, o ≠ .cells c t f) : (setObj b o').run P w = .ok () { w with heap := w.heap.setIfInBounds b o' } := by
  cases o with
  | cells c t f => exact absurd rfl (hc _ _ _)
  | _ => simp only [setObj, Sem.run, hb]

theorem setMap_ok (hr : Rep P m h.at w) {r b x : Nat} (hk : r < 1000000) (hin : h.at r ≠ none) (hm : m r = .some (b, x)) {o : Ob} {o' : Obj} (ho : RO P m x (.some o') o) (hlt : b < w.heap.size) :
    Rep P m (h.set r (.some o)).at { w with heap := w.heap.setIfInBounds b o' } ∧ Stp h.at m w (h.set r (.some o)).at m { w with heap := w.heap.setIfInBounds b o' } h.nx h.nx := by
  refine set_ok hr hk hin hm ?_ (fun b' e => ?_) ?_ rfl rfl rfl
  · show RO P m x (w.heap.setIfInBounds b o')[b]? o
    rw [Array.getElem?_setIfInBounds, if_pos rfl, if_pos hlt]
    exact ho
  · show (w.heap.setIfInBounds b o')[b']? = _
    rw [Array.getElem?_setIfInBounds, if_neg (fun c => e c.symm)]
  · show (w.heap.setIfInBounds b o').size = _
    simp

theorem mapPut_ok (hT : TbOk P T) (hr : Rep P m h.at w) {t : TypeId} {a a' k k' v v' : Value} {out : Out} (e : mapPut T h t a k v = .some out) (ha : RV m a a') (hk : RV m k k') (hv : RV m v v') :
    ∃ h' w', out = .val (.tuple #[]) h' ∧ (Instr.mapUpdate t a' k' v').run P w = .ok () w' ∧ Rep P m h'.at w' ∧ Stp h.at m w h'.at m w' h.nx h'.nx ∧ h'.nx = h.nx := by
  unfold mapPut at e
  split at e
  · rename_i i1 kt el r ht
    have hu := hT.und ht
    obtain ⟨b, x, rfl, hm⟩ := ha.map_inv
    split at e
    · rename_i i2 kd es ck ht2 hes
      cases c1' : Nat.blt r 1000000 with
      | false => rw [c1'] at e; cases e
      | true =>
        rw [c1', cond_true] at e
        have c1 := Nat.blt_eq.mp c1'
        obtain ⟨es', h1, h2⟩ := hr.mapAt hes hm
        have hlt := hr.lt (by rw [hes]; simp) hm
        have hg : (getObj b).run P w = .ok (.map es' ck) w := by simp [getObj, Sem.run, h1]
        have hso := fun o' => setObj_run (P := P) (o' := o') h1 (fun _ _ _ c => by cases c)
        split at e
        · rename_i i v1 hf
          cases e
          obtain ⟨r', hck, hf', _, h3⟩ := fnd_ok hT ht2 hk h2 hf w
          obtain ⟨v2, e1, rfl, h4, he1, hs⟩ := h3 _ _ rfl
          have hkt : (Instr.keyThatStays (((es'[i]?).map (·.key)).getD k') k').run P w = .ok k' w := by
            rw [Array.getElem?_toList] at he1
            simp only [he1, Option.map_some, Option.getD_some, Instr.keyThatStays, hs, if_true, Sem.run_pure]
          obtain ⟨s1, s2⟩ := setMap_ok hr c1 (by rw [hes]; simp) hm (o := .map (setEnt k v i es) ck) (o' := .map (es'.modify i fun e => { e with key := k', val := v' }) ck) ⟨_, rfl, by rw [Array.toList_modify]; exact h2.modify hk hv i⟩ hlt
          refine ⟨_, _, rfl, ?_, s1, s2, rfl⟩
          simp only [Instr.mapUpdate, Sem.run_bind, hu, Result.andThen_ok, hg, hck, hf', hkt, hso]
        · rename_i hf
          cases e
          obtain ⟨r', hck, hf', h3, _⟩ := fnd_ok hT ht2 hk h2 hf w
          obtain rfl := h3 rfl
          obtain ⟨s1, s2⟩ := setMap_ok hr c1 (by rw [hes]; simp) hm (o := .map (es ++ [⟨k, v, ck⟩]) (ck + 1)) (o' := .map (es'.push ⟨k', v', ck⟩) (ck + 1)) ⟨_, rfl, by
            rw [Array.toList_push]; exact h2.append (.cons ⟨hk, hv, rfl⟩ .nil)⟩ hlt
          refine ⟨_, _, rfl, ?_, s1, s2, rfl⟩
          simp only [Instr.mapUpdate, Sem.run_bind, hu, Result.andThen_ok, hg, hck, hf', hso]
        · cases e
    · cases e
  · cases e

theorem Rep.samew (hr : Rep P m h.at w) {w' : World} (hw : ∀ b : Nat, w'.heap[b]? = w.heap[b]?) (hs : w'.heap.size = w.heap.size) (h1 : w'.os = w.os) (h2 : w'.tape = w.tape) (h3 : w'.output = w.output) :
    Rep P m h.at w' ∧ Stp h.at m w h.at m w' h.nx h.nx :=
  ⟨⟨fun k o e => by obtain ⟨b, x, f1, f2⟩ := hr.obj k o e; exact ⟨b, x, f1, by rw [hw]; exact f2⟩, hr.inj⟩,
   ⟨m.le_refl, fun j e => absurd rfl e, fun j b y e e1 => .inl ⟨j, y, e, e1⟩, fun j e => .inl e, fun b _ _ => hw b, by omega, h1, h2, h3⟩⟩

theorem mapDel_ok (hT : TbOk P T) (hr : Rep P m h.at w) {ts : Array TypeId} {ty t : TypeId} {a a' k k' : Value} {out : Out} (e : mapDel T h t a k = .some out) (h0 : ts[0]? = .some t) (ha : RV m a a') (hk : RV m k k') :
    ValOk P m h w (Builtin.delete_ ts ty #[a', k']) out := by
  unfold mapDel at e
  split at e
  · rename_i i1 kt el r ht
    have hu := hT.und ht
    obtain ⟨b, x, rfl, hm⟩ := ha.map_inv
    split at e
    · rename_i i2 kd es ck ht2 hes
      cases c1' : Nat.blt r 1000000 with
      | false => rw [c1'] at e; cases e
      | true =>
        rw [c1', cond_true] at e
        have c1 := Nat.blt_eq.mp c1'
        obtain ⟨es', h1, h2⟩ := hr.mapAt hes hm
        have hlt := hr.lt (by rw [hes]; simp) hm
        have hg : (getObj b).run P w = .ok (.map es' ck) w := by simp [getObj, Sem.run, h1]
        have hso := fun o' => setObj_run (P := P) (o' := o') h1 (fun _ _ _ c => by cases c)
        split at e
        · rename_i i v1 hf
          cases e
          obtain ⟨r', hck, hf', _, h3⟩ := fnd_ok hT ht2 hk h2 hf w
          obtain ⟨v2, e1, rfl, h4, he1, hs⟩ := h3 _ _ rfl
          obtain ⟨s1, s2⟩ := setMap_ok hr c1 (by rw [hes]; simp) hm (o := .map (es.eraseIdx i) ck) (o' := .map (es'.eraseIdxIfInBounds i) ck) ⟨_, rfl, by rw [Array.toList_eraseIdxIfInBounds]; exact h2.erase i⟩ hlt
          refine ⟨_, _, m, ?_, .tuple .nil, s1, s2, Nat.le_refl _⟩
          simp only [Builtin.delete_, h0, List.getElem?_toArray, List.getElem?_cons_zero, List.getElem?_cons_succ, Sem.run_bind, hu, Result.andThen_ok, hg, hck, hf', hso, Sem.run_pure]
        · rename_i hf
          cases e
          obtain ⟨r', hck, hf', h3, _⟩ := fnd_ok hT ht2 hk h2 hf w
          obtain rfl := h3 rfl
          obtain ⟨s1, s2⟩ := hr.samew (w' := { w with heap := w.heap.setIfInBounds b (.map es' ck) }) (fun b' => by
            show (w.heap.setIfInBounds b (.map es' ck))[b']? = _
            rw [Array.getElem?_setIfInBounds]
            split
            · rename_i hb; subst hb; rw [h1]
            · rfl) (by show (w.heap.setIfInBounds b _).size = _; simp) rfl rfl rfl
          refine ⟨_, _, m, ?_, .tuple .nil, s1, s2, Nat.le_refl _⟩
          simp only [Builtin.delete_, h0, List.getElem?_toArray, List.getElem?_cons_zero, List.getElem?_cons_succ, Sem.run_bind, hu, Result.andThen_ok, hg, hck, hf', hso, Sem.run_pure]
        · cases e
    · cases e
  · cases e

theorem mapClr_ok (hT : TbOk P T) (hr : Rep P m h.at w) {ts : Array TypeId} {ty t : TypeId} {a a' : Value} {out : Out} (e : mapClr T h t a = .some out) (h0 : ts[0]? = .some t) (ha : RV m a a') :
    ValOk P m h w (Builtin.clear_ ts ty #[a']) out := by
  unfold mapClr at e
  split at e
  · rename_i i1 kt el r ht
    have hu := hT.und ht
    obtain ⟨b, x, rfl, hm⟩ := ha.map_inv
    split at e
    · rename_i es ck hes
      cases hc : Nat.blt r 1000000 with
      | false => rw [hc] at e; cases e
      | true =>
        rw [hc, cond_true] at e
        have c1 := Nat.blt_eq.mp hc
        obtain ⟨es', h1, h2⟩ := hr.mapAt hes hm
        have hlt := hr.lt (by rw [hes]; simp) hm
        have hg : (getObj b).run P w = .ok (.map es' ck) w := by simp [getObj, Sem.run, h1]
        have hso := fun o' => setObj_run (P := P) (o' := o') h1 (fun _ _ _ c => by cases c)
        cases e
        obtain ⟨s1, s2⟩ := setMap_ok hr c1 (by rw [hes]; simp) hm (o := .map [] ck) (o' := .map #[] ck) ⟨_, rfl, .nil⟩ hlt
        refine ⟨_, _, m, ?_, .tuple .nil, s1, s2, Nat.le_refl _⟩
        simp only [Builtin.clear_, h0, List.getElem?_toArray, List.getElem?_cons_zero, List.getElem?_cons_succ, Sem.run_bind, hu, Result.andThen_ok, hg, hso, Sem.run_pure]
    · cases e
  · rename_i i1 kt el ht
    cases e
    have hu := hT.und ht
    cases ha with
    | scal _ =>
      refine ⟨_, _, m, ?_, .tuple .nil, hr, Stp.refl _ _ _ _ _, Nat.le_refl _⟩
      simp only [Builtin.clear_, h0, List.getElem?_toArray, List.getElem?_cons_zero, List.getElem?_cons_succ, Sem.run_bind, hu, Result.andThen_ok, Sem.run_pure]
  · cases e
end
end Go.Ev
