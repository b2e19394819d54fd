/-
  A run reckoned out: slices that are made, appended to, copied; maps that are written.
-/
import Derived.Test.YtebhnbecjmdicaaGreatDoorEv5
namespace Go.Ev
set_option linter.unusedVariables false
set_option linter.unusedSimpArgs false
set_option linter.unusedSectionVars false
variable {X : Type} [ExtA X]
section
variable {P : Program} {T : Tb} {m : Mp} {h : (Hp X)} {w : World}

theorem run_newRow (t : TypeId) (c : Array Value) (w : World) : (newRow t c).run P w = .ok ⟨w.heap.size, 0, none⟩ (w.alloc (.cells c t)) := by simp [newRow]
theorem run_newVar (t : TypeId) (v : Value) (w : World) : (newVar t v).run P w = .ok ⟨w.heap.size, 0, none⟩ (w.alloc (.cells v.cells t)) := run_newRow t _ w

theorem rep_len (z : List Value) : ∀ n, (rep z n).length = n * z.length
  | 0 => by simp [rep]
  | n + 1 => by simp [rep, rep_len z n, Nat.add_mul]; omega
theorem rep_at (z : List Value) : ∀ (n i : Nat), i < n * z.length → (rep z n)[i]? = z[i % z.length]?
  | 0, i, hi => by simp at hi
  | n + 1, i, hi => by
    rw [Nat.add_mul, Nat.one_mul] at hi
    simp only [rep]
    rcases Nat.lt_or_ge i z.length with l | l
    · rw [List.getElem?_append_left l, Nat.mod_eq_of_lt l]
    · rw [List.getElem?_append_right l, rep_at z n _ (by omega), ← Nat.mod_eq_sub_mod l]
theorem rep_range (z : Array Value) (n s : Nat) (hs : z.size = s) (h0 : 0 < s) : (Array.range (n * s)).map (fun i => z[i % z.size]!) = (rep z.toList n).toArray := by
  apply Array.ext'
  apply List.ext_getElem?
  intro i
  simp only [Array.toList_map, Array.toList_range, List.getElem?_map]
  rcases Nat.lt_or_ge i (n * s) with l | l
  · rw [rep_at _ _ _ (by simpa [hs] using l)]
    rw [List.getElem?_range l]
    have hm : i % s < z.size := by rw [hs]; exact Nat.mod_lt _ h0
    simp only [Option.map_some, Array.length_toList, hs, Array.getElem?_toList]
    rw [Array.getElem?_eq_getElem hm, getElem!_pos z _ hm]
  · rw [List.getElem?_eq_none (by simpa using l), List.getElem?_eq_none (by rw [rep_len]; simpa [hs] using l)]
    rfl
theorem rep_range0 (z : Array Value) (s : Nat) (n : Nat) (hz : n * s = 0) (h0 : 0 < s) : (Array.range (n * s)).map (fun i => (#[] : Array Value)[i % (#[] : Array Value).size]!) = (rep z.toList n).toArray := by
  have : n = 0 := by
    rcases Nat.eq_zero_or_pos n with c | c
    · exact c
    · have := Nat.mul_pos c h0; omega
  subst this
  simp [rep]
theorem RVs.rep {z z' : List Value} (r : RVs m z z') : ∀ n, RVs m (Ev.rep z n) (Ev.rep z' n)
  | 0 => .nil
  | n + 1 => r.append (RVs.rep r n)

theorem take_self {n : Nat} (c : List Value) (h : c.length = n) : c.take n = c := by rw [List.take_of_length_le (by omega)]

theorem frozen0 (c : Array Value) : ∀ i, i < c.size → ¬ ((0, 0) : Nat × Nat).1 ≤ i ∨ ¬ i < ((0, 0) : Nat × Nat).2 := fun i _ => .inr (by simp)
theorem nofz (c : Array Value) : Fz (0, 0) c.size := .inl rfl

/-- a new object of which all is known -/
theorem new_exact (hr : Rep P m h.at w) (hn : m h.nx = none) {c : List Value} {t : TypeId} {v : Value} {out : (Out X)} (e : new h c t true v = .some out) {c' : Array Value} (hc : RVs m c c'.toList) (w1 : World) (hw1 : w1.heap = w.heap) (h1 : w1.os = w.os) (h2 : w1.tape = w.tape) (h3 : w1.output = w.output) :
    ∃ h', out = .val v h' ∧ h'.nx = h.nx + 1 ∧ Rep P (ext1 m h.nx w.heap.size 0) h'.at (w1.alloc (.cells c' t)) ∧ Stp h.at m w h'.at (ext1 m h.nx w.heap.size 0) (w1.alloc (.cells c' t)) h.nx h'.nx := by
  have hl := hc.len
  obtain ⟨h', a, b, _, c1, d⟩ := new_ok hr hn e (c' := c') (fz := (0, 0)) (x := 0) (by rw [take_self _ hl]; exact hc) (by simpa using hl) (nofz c') (fun _ => ⟨rfl, rfl⟩) (w' := w1.alloc (.cells c' t)) (by simp [World.alloc, hw1]) h1 h2 h3
  exact ⟨h', a, b, c1, d⟩

theorem ext_ptr {b x : Nat} : RV (ext1 m h.nx b x) (ptr h.nx) (.pointer (.some ⟨b, 0, none⟩)) := .ptr ext1_self
theorem ext_slice {b x n c : Nat} : RV (ext1 m h.nx b x) (.slice (.some ⟨h.nx, 0, none⟩) n c) (.slice (.some ⟨b, 0, none⟩) n (c + x)) := .slice ext1_self

/-! append -/
theorem srcCells_ok (hr : Rep P m h.at w) {size n : Nat} {x x' : Value} {news : List Value} (e : srcCells h size x = .some (n, news)) (hx : RV m x x') :
    ∃ news', RVs m news news' ∧ news'.length = news.length ∧ (∀ w1, (Builtin.lenOf x').run P w1 = .ok n w1) ∧ (∀ w1 : World, w1.heap = w.heap → (Builtin.firstCells size n x').run P w1 = .ok news'.toArray w1) := by
  unfold srcCells at e
  split at e
  · rename_i n' c
    cases hx.slice_none
    cases hb : Nat.beq n' 0 with
    | false => rw [hb] at e; cases e
    | true =>
      rw [hb] at e
      cases e
      have := Nat.eq_of_beq_eq_true hb
      subst this
      exact ⟨[], .nil, rfl, fun w1 => rfl, fun w1 _ => rfl⟩
  · rename_i a n' c
    obtain ⟨b, y, ha, rfl, hm⟩ := hx.slice_inv
    split at e
    · rename_i l hl
      cases e
      obtain ⟨l', r1, r2, r3, _⟩ := rd_ok hr hl hm
      refine ⟨l', r1, r1.len, fun w1 => rfl, fun w1 hw => ?_⟩
      have hcell : ∀ a, w1.cell? a = w.cell? a := fun a => by simp [World.cell?, hw]
      have := run_loadCells_list (P := P) (w := w1) ⟨b, a.off, none⟩ l' (fun j v hj => by rw [hcell]; exact r3 j v hj)
      rw [r2] at this
      exact this
    · cases e
  · rename_i s
    cases hx.string_inv
    cases e
    refine ⟨_, RVs.scal ?_, rfl, fun w1 => rfl, fun w1 _ => ?_⟩
    · rw [List.all_eq_true]
      intro v hv
      obtain ⟨b, _, rfl⟩ := List.mem_map.1 hv
      rfl
    · have : s.extract 0 s.size = s := by
        apply ByteArray.ext
        simp [ByteArray.data_extract]
      show Sem.run P (.pure _) w1 = _
      rw [this]
      simp only [Sem.run]
      congr 1
      apply Array.ext'
      simp
  · rename_i q1 q2
    obtain ⟨a, c, rfl⟩ := hx.nowh_inv
    cases e
    refine ⟨[], .nil, rfl, fun w1 => rfl, fun w1 _ => ?_⟩
    cases a with
    | none => rfl
    | some a =>
      show (loadCells a (0 * size)).run P w1 = _
      rw [Nat.zero_mul]
      rfl
  · cases e

theorem Stp.pre {g g' : (G X)} {m' : Mp} {w w1 w' : World} {lo hi : Nat} (s : Stp g m w1 g' m' w' lo hi) (hw : w1.heap = w.heap) (h1 : w1.os = w.os) (h2 : w1.tape = w.tape) (h3 : w1.output = w.output) : Stp g m w g' m' w' lo hi :=
  ⟨s.le, s.new, by rw [← hw]; exact s.own, s.dom, by rw [← hw]; exact s.keep, by rw [← hw]; exact s.ter, s.nter, by rw [← hw]; exact s.size, s.os.trans h1, s.tape.trans h2, s.out.trans h3⟩

theorem Rep.forget (hr : Rep P m h.at w) {k : Nat} (hk : k < 1000000) : Rep P m (h.set k none).at w ∧ Stp h.at m w (h.set k none).at m w h.nx h.nx := by
  have hat := fun j => Hp.at_set (h := h) (o := none) hk j
  have hle : ∀ j o, (h.set k none).at j = .some o → h.at j = .some o := fun j o e => by
    rw [hat] at e
    split at e
    · cases e
    · exact e
  have hne : ∀ j, (h.set k none).at j ≠ none → h.at j ≠ none := fun j e c => by
    obtain ⟨o, ho⟩ := Option.ne_none_iff_exists'.1 e
    rw [hle j o ho] at c; cases c
  exact ⟨hr.less hle, ⟨m.le_refl, fun j e => absurd rfl e, fun j b y e e1 => .inl ⟨j, y, hne j e, e1⟩, fun j e => .inl (hne j e), fun _ _ _ _ => ⟨rfl, rfl⟩, fun j y b e e1 => .inl ⟨j, y, hle _ _ e, e1⟩, fun _ _ _ => rfl, Nat.le_refl _, rfl, rfl, rfl⟩⟩

theorem wrap_small' {n : Int} (h0 : 0 ≤ n) (h1 : n < 1000000) : IntKind.i64.wrap n = n := by
  have e1 : n % (2 : Int) ^ IntKind.i64.bits = n := Int.emod_eq_of_lt h0 (by
    have : (2 : Int) ^ IntKind.i64.bits = 18446744073709551616 := by decide
    omega)
  unfold IntKind.wrap
  simp only [e1]
  have : decide (n ≥ (2 : Int) ^ (IntKind.i64.bits - 1)) = false := by
    have : (2 : Int) ^ (IntKind.i64.bits - 1) = 9223372036854775808 := by decide
    rw [decide_eq_false_iff_not]; omega
  rw [this]
  simp
theorem isInt_match : ∀ {dx : TypeDesc}, isInt dx = false → Builtin.append_.match_1 (fun _ => Bool) dx (fun _ => true) (fun _ => false) = false := by
  intro dx h
  cases dx <;> first | rfl | (simp [isInt] at h)

/-- an append that takes a new row -/
theorem grow_run {t tx e ty : TypeId} {ti : TypeInfo} {dx : TypeDesc} {z : Value} (ht : P.underlying t = .some (.slice e)) (htx : P.underlying tx = .some dx) (hdx : isInt dx = false) (hi : P.info? e = .some ti) (hz : ti.zero = .some z) (hzs : z.cells.size = ti.size)
    {base : Option Addr} {l c n : Nat} {x' : Value} {old news : List Value} (hlen : ∀ w1, (Builtin.lenOf x').run P w1 = .ok n w1) (hnews : ∀ w1 : World, w1.heap = w.heap → (Builtin.firstCells ti.size n x').run P w1 = .ok news.toArray w1)
    (hold : ∀ w1 : World, w1.heap = w.heap → (Builtin.firstCells ti.size l (.slice base l c)).run P w1 = .ok old.toArray w1) (hc : ¬ l + n ≤ c) (h1 : (l + n) * ti.bytes ≤ 140737488355328) (h2 : l + n < 4611686018427387904) :
    ∃ (q : Nat) (w1 : World), w1.heap = w.heap ∧ w1.os = w.os ∧ w1.tape = w.tape ∧ w1.output = w.output ∧
      (Builtin.append_ #[t, tx] ty #[.slice base l c, x']).run P w = .ok (.slice (.some ⟨w.heap.size, 0, none⟩) (l + n) (l + n + q)) (w1.alloc (.cells (old.toArray ++ news.toArray ++ (rep z.cells.toList q).toArray) e)) := by
  let q := Question.appendCap (l + n) c e
  refine ⟨w.tape w.drawn q % (2 ^ 63 - (l + n)), w.drew, rfl, rfl, rfl, rfl, ?_⟩
  have hsz : ∀ w1, (sizeOf e).run P w1 = .ok ti.size w1 := fun w1 => by simp [sizeOf, typeInfo, hi]
  have hty : ∀ w1, (typeInfo e).run P w1 = .ok ti w1 := fun w1 => by simp [typeInfo, hi]
  have hze : ∀ w1, (zeroValue e).run P w1 = .ok z w1 := fun w1 => by simp [zeroValue, typeInfo, hi, hz]
  have hnz := isInt_match hdx
  have hch : (choose q).run P w = .ok (l + n + w.tape w.drawn q % (2 ^ 63 - (l + n))) w.drew := by
    rw [run_choose]
    simp only [q, Question.forced]
    rfl
  have hgrow := growslice_fits (bytes := ti.bytes) (show c < l + n by omega) h1
  have hb : ¬ (Builtin.nextslicecap (l + n) c * ti.bytes > 2 ^ 48) := by
    have : (2 : Nat) ^ 48 = 281474976710656 := by decide
    omega
  have h63' : ¬ ((l + n : Nat) : Int) > IntKind.i64.max := by
    have e : IntKind.i64.max = 9223372036854775807 := rfl
    rw [e]; omega
  have hzc : Builtin.zeroCells z.cells (w.tape w.drawn q % (2 ^ 63 - (l + n))) = (rep z.cells.toList (w.tape w.drawn q % (2 ^ 63 - (l + n)))).toArray := by
    unfold Builtin.zeroCells
    rcases Nat.eq_zero_or_pos z.cells.size with c0 | c0
    · have e0 : z.cells = #[] := by apply Array.eq_empty_of_size_eq_zero c0
      rw [e0]
      have : ∀ k, rep ([] : List Value) k = [] := by intro k; induction k with | zero => rfl | succ k ih => simp [rep, ih]
      simp [this]
    · exact rep_range z.cells _ z.cells.size rfl c0
  have hsub : l + n + w.tape w.drawn q % (2 ^ 63 - (l + n)) - (l + n) = w.tape w.drawn q % (2 ^ 63 - (l + n)) := by omega
  have hn1 := hnews w.drew rfl
  have ho1 := hold w.drew rfl
  unfold Builtin.append_
  simp only [Sem.run_bind, underlying, run_program, Result.andThen_ok, ht, htx, List.getElem?_toArray, List.getElem?_cons_zero, List.getElem?_cons_succ, Sem.run_pure, hsz, hnz, hlen]
  simp only [Bool.false_eq_true, if_false, Sem.run_bind, Sem.run_pure, hlen, Result.andThen_ok, hc, hty, hb, h63', false_and, run_askRoom]
  simp only [show (Question.appendCap (l + n) c e) = q from rfl, hch, Result.andThen_ok, hty, run_askRoom, ho1, Bool.not_false, if_true, hn1, hze, hsub, hzc, run_newRow]
  rfl
theorem inplace_run {t tx e ty : TypeId} {ti : TypeInfo} {dx : TypeDesc} (ht : P.underlying t = .some (.slice e)) (htx : P.underlying tx = .some dx) (hdx : isInt dx = false) (hi : P.info? e = .some ti)
    {base : Option Addr} {l c n : Nat} {x' : Value} {news : List Value} (hlen : ∀ w1, (Builtin.lenOf x').run P w1 = .ok n w1) (hnews : (Builtin.firstCells ti.size n x').run P w = .ok news.toArray w)
    (hc : l + n ≤ c) {w' : World} (hst : (match base with | .some a => storeCells (a.add (l * ti.size)) news | none => pure () : Sem Unit).run P w = .ok () w') :
      (Builtin.append_ #[t, tx] ty #[.slice base l c, x']).run P w = .ok (.slice base (l + n) c) w' := by
  have hsz : ∀ w1, (sizeOf e).run P w1 = .ok ti.size w1 := fun w1 => by simp [sizeOf, typeInfo, hi]
  have hnz := isInt_match hdx
  unfold Builtin.append_
  simp only [Sem.run_bind, underlying, run_program, Result.andThen_ok, ht, htx, List.getElem?_toArray, List.getElem?_cons_zero, List.getElem?_cons_succ, Sem.run_pure, hsz, hnz, hlen]
  simp only [Bool.false_eq_true, if_false, Sem.run_bind, Sem.run_pure, hlen, Result.andThen_ok, hc, if_true, Bool.not_false, hnews]
  cases base with
  | none => cases hst; rfl
  | some a =>
    simp only [Sem.run_bind] at hst ⊢
    rw [hst]
    rfl

theorem isInt_match1 : ∀ {dx : TypeDesc}, isInt dx = true → Builtin.append_.match_1 (fun _ => Bool) dx (fun _ => true) (fun _ => false) = true := by
  intro dx h
  cases dx <;> first | rfl | (simp [isInt] at h)
/-- so many zeros are appended: a new row -/
theorem growZ_run {t tx e ty : TypeId} {ti : TypeInfo} {dx : TypeDesc} {z : Value} (ht : P.underlying t = .some (.slice e)) (htx : P.underlying tx = .some dx) (hdx : isInt dx = true) (hi : P.info? e = .some ti) (hz : ti.zero = .some z) (hzs : z.cells.size = ti.size) (hpos : 0 < ti.size)
    {base : Option Addr} {l c : Nat} {k : IntKind} {n : Int} {old : List Value} (hn0 : 0 ≤ n) (hn1 : n < 1000000)
    (hold : ∀ w1 : World, w1.heap = w.heap → (Builtin.firstCells ti.size l (.slice base l c)).run P w1 = .ok old.toArray w1) (hc : ¬ l + n.toNat ≤ c) (h1 : l + n.toNat < 1000000) (h2 : ti.bytes < 1000000) :
    ∃ (q : Nat) (w1 : World), w1.heap = w.heap ∧ w1.os = w.os ∧ w1.tape = w.tape ∧ w1.output = w.output ∧
      (Builtin.append_ #[t, tx] ty #[.slice base l c, .int k n]).run P w = .ok (.slice (.some ⟨w.heap.size, 0, none⟩) (l + n.toNat) (l + n.toNat + q)) (w1.alloc (.cells (old.toArray ++ (rep z.cells.toList n.toNat).toArray ++ (rep z.cells.toList q).toArray) e)) := by
  let q := Question.appendCap (l + n.toNat) c e
  refine ⟨w.tape w.drawn q % (2 ^ 63 - (l + n.toNat)), w.drew, rfl, rfl, rfl, rfl, ?_⟩
  have hsz : ∀ w1, (sizeOf e).run P w1 = .ok ti.size w1 := fun w1 => by simp [sizeOf, typeInfo, hi]
  have hty : ∀ w1, (typeInfo e).run P w1 = .ok ti w1 := fun w1 => by simp [typeInfo, hi]
  have hze : ∀ w1, (zeroValue e).run P w1 = .ok z w1 := fun w1 => by simp [zeroValue, typeInfo, hi, hz]
  have hnz := isInt_match1 hdx
  have hch : (choose q).run P w = .ok (l + n.toNat + w.tape w.drawn q % (2 ^ 63 - (l + n.toNat))) w.drew := by
    rw [run_choose]
    simp only [q, Question.forced]
    rfl
  have hw1 : IntKind.i64.wrap n = n := wrap_small' hn0 hn1
  have hmul : (l + n.toNat) * ti.bytes ≤ 1000000 * 1000000 := Nat.mul_le_mul (by omega) (by omega)
  have hgrow := growslice_fits (bytes := ti.bytes) (show c < l + n.toNat by omega) (by omega)
  have hb : ¬ (Builtin.nextslicecap (l + n.toNat) c * ti.bytes > 2 ^ 48) := by
    have : (2 : Nat) ^ 48 = 281474976710656 := by decide
    omega
  have h63' : ¬ ((l + n.toNat : Nat) : Int) > IntKind.i64.max := by
    have e : IntKind.i64.max = 9223372036854775807 := rfl
    rw [e]; omega
  have hneg : ¬ n < 0 := by omega
  have hbig : ¬ (n * (ti.bytes : Int) > 2 ^ 48) := by
    have h3 : n * (ti.bytes : Int) ≤ 1000000 * 1000000 := Int.mul_le_mul (by omega) (by omega) (by omega) (by omega)
    have : (2 : Int) ^ 48 = 281474976710656 := by decide
    omega
  have hzc : ∀ k, Builtin.zeroCells z.cells k = (rep z.cells.toList k).toArray := by
    intro k
    unfold Builtin.zeroCells
    exact rep_range z.cells k z.cells.size rfl (by omega)
  have hsub : l + n.toNat + w.tape w.drawn q % (2 ^ 63 - (l + n.toNat)) - (l + n.toNat) = w.tape w.drawn q % (2 ^ 63 - (l + n.toNat)) := by omega
  have ho1 := hold w.drew rfl
  unfold Builtin.append_
  simp only [Sem.run_bind, underlying, run_program, Result.andThen_ok, ht, htx, List.getElem?_toArray, List.getElem?_cons_zero, List.getElem?_cons_succ, Sem.run_pure, hsz, hnz]
  simp only [if_true, Sem.run_bind, asInt, asIntOf, Sem.run_pure, Result.andThen_ok, hw1, hneg, if_false, hty, hbig, hc, hb, h63', false_and, Bool.not_true, Bool.false_eq_true]
  simp only [show (Question.appendCap (l + n.toNat) c e) = q from rfl, hch, Result.andThen_ok, hty, run_askRoom, ho1]
  by_cases h0 : n.toNat * ti.size = 0
  · have hn : n.toNat = 0 := by
      rcases Nat.eq_zero_or_pos n.toNat with g | g
      · exact g
      · have := Nat.mul_pos g hpos; omega
    rw [if_pos h0]
    simp only [Sem.run_pure, Result.andThen_ok, hze, hsub, hzc, run_newRow, Sem.run_bind]
    rw [hn]
    rfl
  · rw [if_neg h0]
    simp only [Sem.run_bind, Sem.run_pure, Result.andThen_ok, hze, hsub, hzc, run_newRow]
    rfl
theorem inplaceZ_run {t tx e ty : TypeId} {ti : TypeInfo} {dx : TypeDesc} {z : Value} (ht : P.underlying t = .some (.slice e)) (htx : P.underlying tx = .some dx) (hdx : isInt dx = true) (hi : P.info? e = .some ti) (hz : ti.zero = .some z) (hzs : z.cells.size = ti.size) (hpos : 0 < ti.size)
    {base : Option Addr} {l c : Nat} {k : IntKind} {n : Int} (hn0 : 0 ≤ n) (hn1 : n < 1000000) (h2 : ti.bytes < 1000000)
    (hc : l + n.toNat ≤ c) {w' : World} (hst : (match base with | .some a => storeCells (a.add (l * ti.size)) (rep z.cells.toList n.toNat) | none => pure () : Sem Unit).run P w = .ok () w') :
      (Builtin.append_ #[t, tx] ty #[.slice base l c, .int k n]).run P w = .ok (.slice base (l + n.toNat) c) w' := by
  have hsz : ∀ w1, (sizeOf e).run P w1 = .ok ti.size w1 := fun w1 => by simp [sizeOf, typeInfo, hi]
  have hty : ∀ w1, (typeInfo e).run P w1 = .ok ti w1 := fun w1 => by simp [typeInfo, hi]
  have hze : ∀ w1, (zeroValue e).run P w1 = .ok z w1 := fun w1 => by simp [zeroValue, typeInfo, hi, hz]
  have hnz := isInt_match1 hdx
  have hw1 : IntKind.i64.wrap n = n := wrap_small' hn0 hn1
  have hneg : ¬ n < 0 := by omega
  have hbig : ¬ (n * (ti.bytes : Int) > 2 ^ 48) := by
    have h3 : n * (ti.bytes : Int) ≤ 1000000 * 1000000 := Int.mul_le_mul (by omega) (by omega) (by omega) (by omega)
    have : (2 : Int) ^ 48 = 281474976710656 := by decide
    omega
  have hzc : ∀ k, Builtin.zeroCells z.cells k = (rep z.cells.toList k).toArray := by
    intro k
    unfold Builtin.zeroCells
    exact rep_range z.cells k z.cells.size rfl (by omega)
  unfold Builtin.append_
  simp only [Sem.run_bind, underlying, run_program, Result.andThen_ok, ht, htx, List.getElem?_toArray, List.getElem?_cons_zero, List.getElem?_cons_succ, Sem.run_pure, hsz, hnz]
  simp only [if_true, Sem.run_bind, asInt, asIntOf, Sem.run_pure, Result.andThen_ok, hw1, hneg, if_false, hty, hbig, hc, Bool.not_true, Bool.false_eq_true]
  by_cases h0 : n.toNat * ti.size = 0
  · have hn : n.toNat = 0 := by
      rcases Nat.eq_zero_or_pos n.toNat with g | g
      · exact g
      · have := Nat.mul_pos g hpos; omega
    rw [if_pos h0]
    simp only [Sem.run_pure, Result.andThen_ok]
    cases base with
    | none => cases hst; rfl
    | some a =>
      rw [hn] at hst
      have hst' : (storeCells (a.add (l * ti.size)) []).run P w = .ok () w' := hst
      simp only [Sem.run_bind]
      rw [hst']
      rfl
  · rw [if_neg h0]
    simp only [Sem.run_bind, Sem.run_pure, Result.andThen_ok, hze, hzc]
    cases base with
    | none => cases hst; rfl
    | some a =>
      simp only [Sem.run_bind] at hst ⊢
      rw [hst]
      rfl

/-- what is appended -/
theorem srcA_ok (hr : Rep P m h.at w) {t tx e ty : TypeId} {ti : TypeInfo} {dx : TypeDesc} {z : Value} (ht : P.underlying t = .some (.slice e)) (htx : P.underlying tx = .some dx) (hi : P.info? e = .some ti) (hz : ti.zero = .some z) (hpz : plain z = true) (hzs : z.cells.size = ti.size) (hpos : 0 < ti.size) (hby : ti.bytes < 1000000)
    {n : Nat} {x x' : Value} {news : List Value} (es : srcA h z ti.size dx x = .some (n, news)) (hx : RV m x x') :
    ∃ news', RVs m news news' ∧ news'.length = news.length ∧
      (∀ {base : Option Addr} {l c : Nat} {old : List Value}, (∀ w1 : World, w1.heap = w.heap → (Builtin.firstCells ti.size l (.slice base l c)).run P w1 = .ok old.toArray w1) → ¬ l + n ≤ c → l + n < 1000000 → ∃ (q : Nat) (w1 : World), w1.heap = w.heap ∧ w1.os = w.os ∧ w1.tape = w.tape ∧ w1.output = w.output ∧
        (Builtin.append_ #[t, tx] ty #[.slice base l c, x']).run P w = .ok (.slice (.some ⟨w.heap.size, 0, none⟩) (l + n) (l + n + q)) (w1.alloc (.cells (old.toArray ++ news'.toArray ++ (rep z.cells.toList q).toArray) e))) ∧
      (∀ {base : Option Addr} {l c : Nat} {w' : World}, l + n ≤ c → (match base with | .some a => storeCells (a.add (l * ti.size)) news' | none => pure () : Sem Unit).run P w = .ok () w' →
        (Builtin.append_ #[t, tx] ty #[.slice base l c, x']).run P w = .ok (.slice base (l + n) c) w') := by
  unfold srcA at es
  split at es
  · rename_i hdx
    split at es
    · rename_i k v
      cases hx.int_inv
      cases hb : (decide (0 ≤ v) && decide (v < 1000000)) with
      | false => rw [hb] at es; cases es
      | true =>
        rw [hb] at es
        cases es
        simp only [Bool.and_eq_true, decide_eq_true_eq] at hb
        refine ⟨_, RVs.rep (RV.plain hpz).cells _, rfl, fun hold hc h1 => growZ_run ht htx hdx hi hz hzs hpos hb.1 hb.2 hold hc h1 hby, fun hc hst => inplaceZ_run ht htx hdx hi hz hzs hpos hb.1 hb.2 hby hc hst⟩
    · cases es
  · rename_i hdx
    obtain ⟨news', n1, n2, n3, n4⟩ := srcCells_ok hr es hx
    exact ⟨news', n1, n2, fun hold hc h1 => grow_run ht htx hdx hi hz hzs n3 n4 hold hc (by have := Nat.mul_le_mul (Nat.le_of_lt h1) (Nat.le_of_lt hby); omega) (by omega), fun hc hst => inplace_run ht htx hdx hi n3 (n4 w rfl) hc hst⟩
end
end Go.Ev
