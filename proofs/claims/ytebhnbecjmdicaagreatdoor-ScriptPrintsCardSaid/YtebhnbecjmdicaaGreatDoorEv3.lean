/-
  A run reckoned out: operations that only read, all of them.
-/
import Derived.Test.YtebhnbecjmdicaaGreatDoorEv2
namespace Go.Ev
set_option linter.unusedVariables false
set_option linter.unusedSimpArgs false
set_option linter.unusedSectionVars false
variable {X : Type} [ExtA X]
section
variable {P : Program} {T : Tb} {m : Mp} {h : (Hp X)} {w : World}

theorem RVs.set : ∀ {l l' : List Value}, RVs m l l' → ∀ (i : Nat) {v v' : Value}, RV m v v' → RVs m (l.set i v) (l'.set i v')
  | _, _, .nil, _, _, _, _ => .nil
  | _, _, .cons _ r, 0, _, _, e => .cons e r
  | _, _, .cons e r, i + 1, _, _, e' => .cons e (RVs.set r i e')
theorem fold_ok (off : Nat) : ∀ {vs vs' : List Value}, RVs m vs vs' → ∀ (k : Nat) (cs cs' : Array Value), RVs m cs.toList cs'.toList →
    RVs m ((vs.zipIdx k).foldl (fun cs (x : Value × Nat) => cs.setIfInBounds (off + x.2) x.1) cs).toList ((vs'.zipIdx k).foldl (fun cs (x : Value × Nat) => cs.setIfInBounds (off + x.2) x.1) cs').toList
  | _, _, .nil, _, _, _, h => h
  | _, _, .cons e r, k, cs, cs', h => by
    simp only [List.zipIdx_cons, List.foldl_cons]
    refine fold_ok off r (k + 1) _ _ ?_
    rw [Array.toList_setIfInBounds, Array.toList_setIfInBounds]
    exact h.set _ e
theorem fill_ok (place : Nat → Option (Nat × Nat)) : ∀ {l l' : List (Nat × Value)}, RPs m l l' → ∀ {cs cs' r : Array Value}, RVs m cs.toList cs'.toList → Instr.fill place cs l = some r → ∃ r', Instr.fill place cs' l' = some r' ∧ RVs m r.toList r'.toList
  | _, _, .nil, cs, cs', r, hc, h => by cases h; exact ⟨cs', rfl, hc⟩
  | _, _, .cons (i := i) (v := v) (v' := v') e rs, cs, cs', r, hc, h => by
    have hv := e.cells
    have hl : v'.cells.size = v.cells.size := by simpa using hv.len
    have hcl : cs'.size = cs.size := by simpa using hc.len
    unfold Instr.fill at h ⊢
    split at h
    · cases h
    · rename_i off size hp
      simp only [hp, hl, hcl]
      split at h
      · cases h
      · rename_i hn
        rw [if_neg hn]
        refine fill_ok place rs ?_ h
        rw [← Array.foldl_toList, ← Array.foldl_toList, Array.toList_zipIdx, Array.toList_zipIdx]
        exact fold_ok off hv 0 _ _ hc

theorem partv_ok (hT : TbOk P T) {t : TypeId} {cs cs' : Array Value} {off : Nat} {v : Value} (e : partv T t cs.toList off = some v) (hc : RVs m cs.toList cs'.toList) : ∃ v', RV m v v' ∧ (part t cs' off).run P w = .ok v' w := by
  unfold partv at e
  split at e
  · rename_i ti d ht
    split at e
    · rename_i hd
      cases e
      refine ⟨.agg (cs'.extract off (off + ti.size)), .agg ?_, ?_⟩
      · have := (hc.drop off).take ti.size
        simpa [Array.toList_extract, List.extract_eq_take_drop] using this
      · simp only [part, Sem.run_bind, hT.agg ht, Result.andThen_ok, hd, if_true, hT.size ht, Sem.run_pure]
    · rename_i hd
      obtain ⟨v', h1, h2⟩ := hc.at e
      refine ⟨v', h2, ?_⟩
      rw [Array.getElem?_toList] at h1
      simp only [part, Sem.run_bind, hT.agg ht, Result.andThen_ok, hd, Bool.false_eq_true, if_false, h1, Sem.run_pure]
  · cases e

theorem bytesOf_ok : ∀ {l : List Value} {r : List UInt8}, bytesOf l = some r → ∃ ns : List Int, l = ns.map (Value.int .u8) ∧ r = ns.map fun n => UInt8.ofNat n.toNat
  | [], r, h => by cases h; exact ⟨[], rfl, rfl⟩
  | v :: l, r, h => by
    unfold bytesOf at h
    split at h
    · rename_i e; cases e
    · rename_i n l' e
      cases e
      split at h
      · rename_i r' hr
        cases h
        obtain ⟨ns, h1, h2⟩ := bytesOf_ok hr
        exact ⟨n :: ns, by rw [h1]; rfl, by rw [h2]; rfl⟩
      · cases h
    · cases h
theorem push_all : ∀ (r : List Int) (s : ByteArray), r.foldl (fun r n => r.push (UInt8.ofNat n.toNat)) s = ⟨s.data ++ (r.map fun n => UInt8.ofNat n.toNat).toArray⟩
  | [], s => by simp
  | b :: r, s => by
    rw [List.foldl_cons, push_all r]
    congr 1
    simp [ByteArray.push]
theorem ints_same : ∀ {ns : List Int} {l' : List Value}, RVs m (ns.map (Value.int .u8)) l' → l' = ns.map (Value.int .u8)
  | [], _, r => by cases r; rfl
  | n :: ns, _, r => by
    cases r with
    | cons r1 r2 => rw [r1.int_inv, ints_same r2]; rfl

/-! lists that are values -/
theorem kfind {g : (G X)} (hr : Rep P m g w) {b s : Nat} {vs : List Value} {t : TypeId} (hk : m.kn b = some (vs, s, t)) {o : Nat} {v : Value} (hv : vs[o]? = some v) : w.cell? ⟨b, o, none⟩ = some v := by
  obtain ⟨c', fz, h1, _, _, ⟨r, h4⟩, _⟩ := hr.kn b vs s t hk
  refine cell_some h1 ?_
  have hl := (List.getElem?_eq_some_iff.1 hv).1
  rw [← Array.getElem?_toList, ← h4, List.getElem?_append_left hl]
  exact hv
theorem kcells {g : (G X)} (hr : Rep P m g w) {b s off : Nat} {vs l : List Value} {t : TypeId} (hk : m.kn b = some (vs, s, t)) (hp : l <+: vs.drop off) : ∀ j v, l[j]? = some v → w.cell? ((⟨b, off, none⟩ : Addr).add j) = some v := fun j v hj => by
  rw [Addr.add_none]
  obtain ⟨r, hr'⟩ := hp
  have hl := (List.getElem?_eq_some_iff.1 hj).1
  have e : vs[off + j]? = some v := by
    rw [← List.getElem?_drop, ← hr', List.getElem?_append_left hl]
    exact hj
  exact kfind hr hk e
theorem DV.scal_inv {kn : Kn} {v v' : Value} (h : DV kn v v') (hs : Ev.scal v = true) : v' = v := by
  cases h <;> first | rfl | (simp [Ev.scal] at hs)
theorem DVs.at {kn : Kn} : ∀ {l l' : List Value}, DVs kn l l' → ∀ {i : Nat} {v : Value}, l[i]? = some v → ∃ v', l'[i]? = some v' ∧ DV kn v v'
  | _, _, .nil, i, v, h => by simp at h
  | _, _, .cons e r, 0, v, h => by simp at h; subst h; exact ⟨_, rfl, e⟩
  | _, _, .cons e r, i + 1, v, h => by simp at h; obtain ⟨v', h1, h2⟩ := DVs.at r h; exact ⟨v', by simpa using h1, h2⟩
theorem DVs.drop {kn : Kn} : ∀ {l l' : List Value} (n : Nat), DVs kn l l' → DVs kn (l.drop n) (l'.drop n)
  | _, _, 0, h => h
  | _, _, _ + 1, .nil => .nil
  | _, _, n + 1, .cons _ r => DVs.drop n r
theorem DVs.take {kn : Kn} : ∀ {l l' : List Value} (n : Nat), DVs kn l l' → DVs kn (l.take n) (l'.take n)
  | _, _, 0, h => .nil
  | _, _, _ + 1, .nil => .nil
  | _, _, n + 1, .cons e r => .cons e (DVs.take n r)
theorem DVs.append {kn : Kn} : ∀ {a a' b b' : List Value}, DVs kn a a' → DVs kn b b' → DVs kn (a ++ b) (a' ++ b')
  | _, _, _, _, .nil, h => h
  | _, _, _, _, .cons e r, h => .cons e (DVs.append r h)
theorem DVs.u8 {kn : Kn} : ∀ {l l' : List Value}, DVs kn l l' → l.all isU8 = true → l' = l ∧ ∃ ns : List Int, l = ns.map (Value.int .u8)
  | _, _, .nil, _ => ⟨rfl, [], rfl⟩
  | _, _, .cons (v := v) e r, h => by
    simp only [List.all_cons, Bool.and_eq_true] at h
    obtain ⟨h1, ns, h2⟩ := DVs.u8 r h.2
    cases v with
    | int k n =>
      have hk : k = .u8 := by
        have := h.1
        cases k <;> first | rfl | (simp [isU8] at this)
      subst hk
      rw [e.scal_inv rfl, h1]
      exact ⟨rfl, n :: ns, by rw [h2]; rfl⟩
    | _ => have := h.1; simp [isU8] at this
theorem flat_ints : ∀ ns : List Int, flat (ns.map (Value.int .u8)) = ns.map (Value.int .u8)
  | [] => rfl
  | n :: ns => by rw [List.map_cons, flat_cons, flat_ints ns]; rfl
theorem flat_drop {sz : Nat} : ∀ (l : List Value) (p : Nat), (∀ r ∈ l, r.cells.size = sz) → (flat l).drop (p * sz) = flat (l.drop p)
  | l, 0, _ => by simp
  | [], p + 1, _ => by simp [flat]
  | r :: l, p + 1, h => by
    rw [flat_cons, Nat.add_mul, Nat.one_mul, Nat.add_comm, ← List.drop_drop, List.drop_left' (by rw [Array.length_toList]; exact h r List.mem_cons_self), List.drop_succ_cons]
    exact flat_drop l p fun r' hr => h r' (List.mem_cons_of_mem _ hr)
theorem flat_take_prefix (l : List Value) (n : Nat) : flat (l.take n) <+: flat l := by
  have : flat l = flat (l.take n) ++ flat (l.drop n) := by rw [← flat_append, List.take_append_drop]
  rw [this]
  exact List.prefix_append _ _
theorem prefix_down {a b : List Value} (h : a <+: b) (n : Nat) : a.drop n <+: b.drop n := by
  obtain ⟨r, rfl⟩ := h
  rw [List.drop_append]
  exact List.prefix_append _ _
/-- a part of a list -/
theorem DV.part {kn : Kn} {sz : Nat} {tk : Array Value} {rows : List Value} {a : Option Addr} {n c : Nat} (h : DV kn (.func (.yield sz) tk ⟨rows⟩) (.slice a n c)) {p q : Nat} (hq : q ≤ rows.length) (hpq : p ≤ q) :
    DV kn (.func (.yield sz) #[] ⟨(rows.drop p).take (q - p)⟩) (.slice (if c = p then a else a.map fun a => a.add (p * sz)) (q - p) (c - p)) := by
  obtain ⟨a', c', e, hc, hh⟩ := h.lst_inv
  cases e
  by_cases h0 : q - p = 0
  · rw [h0, List.take_zero]
    exact .lst0
  · rcases hh with rfl | ⟨b, off, vs, s, t, rows', rfl, h1, h2, h3, h4⟩
    · simp at hq
      omega
    · rw [if_neg (by omega), Option.map_some, Addr.add_none]
      refine .lst h1 ((h2.drop p).take (q - p)) (fun r hr => h3 r (List.mem_of_mem_drop (List.mem_of_mem_take hr))) ?_ (by rw [List.length_take, List.length_drop]; omega) (by omega)
      refine (flat_take_prefix _ _).trans ?_
      rw [← flat_drop rows' p h3, ← List.drop_drop]
      exact prefix_down h4 _

theorem conv_ok (hT : TbOk P T) (hr : Rep P m h.at w) {s d : TypeId} {x x' v : Value} (e : conv T h s d x = some v) (hx : RV m x x') : RV m v v ∧ (convert s d x').run P w = .ok v w := by
  unfold conv at e
  split at e
  · rename_i i1 d1 i2 k k2 n h1 h2
    cases hx.int_inv
    obtain ⟨r1, r2⟩ := scalP (P := P) e
    refine ⟨r2 m, ?_⟩
    simp only [convert, Sem.run_bind, hT.und h1, hT.und h2, Result.andThen_ok]
    exact r1 w
  · rename_i i1 i2 b h1 h2
    cases hx.string_inv
    cases e
    refine ⟨.scal rfl, ?_⟩
    simp only [convert, Sem.run_bind, hT.und h1, hT.und h2, Result.andThen_ok]
    rfl
  · rename_i i1 e1 i2 l c h1 h2
    cases hx.slice_none
    split at e
    · rename_i i3 h3
      cases e
      refine ⟨.scal rfl, ?_⟩
      simp only [convert, Sem.run_bind, hT.und h1, hT.und h2, hT.und h3, Result.andThen_ok]
      rfl
    · cases e
  · rename_i i1 e1 i2 tk rows h1 h2
    have hd := RV.lst_inv (rows := rows.toList) hx
    obtain ⟨a, c, rfl, hc, hh⟩ := hd.lst_inv
    split at e
    · rename_i i3 h3
      cases hb : rows.toList.all isU8 with
      | false => rw [hb] at e; cases e
      | true =>
        rw [hb] at e
        cases e
        refine ⟨.scal rfl, ?_⟩
        cases a with
        | none =>
          rcases hh with hh | ⟨b, off, vs, s, t, rows', hc, _⟩
          · rw [hh]
            simp only [convert, Sem.run_bind, hT.und h1, hT.und h2, hT.und h3, Result.andThen_ok]
            rfl
          · cases hc
        | some ad =>
          have key : ∃ ns : List Int, rows.toList = ns.map (Value.int .u8) ∧ ∀ j v, (ns.map (Value.int .u8))[j]? = some v → w.cell? (ad.add j) = some v := by
            rcases hh with hh | ⟨b, off, vs, s, t, rows', hc, k1, k2, k3, k4⟩
            · exact ⟨[], by rw [hh]; rfl, fun j v hj => by simp at hj⟩
            · cases hc
              obtain ⟨e2, ns, e3⟩ := DVs.u8 k2 hb
              refine ⟨ns, e3, ?_⟩
              rw [← e3, ← e2]
              rw [e2, e3, flat_ints, ← e3, ← e2] at k4
              exact kcells hr k1 k4
          obtain ⟨ns, e3, hcell⟩ := key
          have hld := run_loadCells_list (P := P) (w := w) ad _ hcell
          have hlen : rows.toList.length = ns.length := by rw [e3]; simp
          rw [List.length_map, ← hlen] at hld
          rw [run_convert_bytes_string w s d e1 _ _ c (hT.ok _ _ _ h1).2 (hT.ok _ _ _ h3).2 (hT.ok _ _ _ h2).2, run_bytesToString w _ _ c ns hld, push_all]
          rw [e3]
          simp only [List.map_map]
          have ef : toU8 ∘ Value.int .u8 = fun n => UInt8.ofNat n.toNat := rfl
          rw [ef]
          simp
    · cases e
  · rename_i i1 e1 i2 a l c h1 h2
    obtain ⟨b, x, ha, rfl, hm⟩ := hx.slice_inv
    split at e
    · rename_i i3 vs h3 hrd
      split at e
      · rename_i r hby
        cases e
        refine ⟨.scal rfl, ?_⟩
        obtain ⟨l', r1, r2, r3, _⟩ := rd_ok hr hrd hm
        obtain ⟨ns, rfl, rfl⟩ := bytesOf_ok hby
        have hl' := ints_same r1
        subst hl'
        have hld := run_loadCells_list (P := P) (w := w) ⟨b, a.off, none⟩ _ r3
        rw [r2] at hld
        rw [run_convert_bytes_string w s d e1 _ l (c + x) (hT.ok _ _ _ h1).2 (hT.ok _ _ _ h3).2 (hT.ok _ _ _ h2).2, run_bytesToString w _ l (c + x) ns hld, push_all]
        simp
      · cases e
    · cases e
  · cases e

theorem bnd_ok {ev : Evl} {ev' : Operand → Value} (he : Evs m ev ev') {x : Operand} {d hi q : Nat} (e : bnd ev d hi (some x) = some q) :
    ∃ k, ev' x = .int k q ∧ q ≤ hi := by
  unfold bnd at e
  simp only at e
  split at e
  · rename_i k i hv
    have := (he _ _ hv).int_inv
    cases hb : (decide (0 ≤ i) && Nat.ble i.toNat hi) with
    | false => rw [hb] at e; cases e
    | true =>
      rw [hb] at e
      have e' := Option.some.inj e
      simp only [Bool.and_eq_true, decide_eq_true_eq] at hb
      refine ⟨k, ?_, ?_⟩
      · rw [this, ← e', Int.toNat_of_nonneg hb.1]
      · rw [← e']; exact Nat.le_of_ble_eq_true hb.2
  · cases e
theorem sliceBound_ok {k : IntKind} {q y : Nat} {c : BoundsCode} (h : q ≤ y) (w : World) : (Instr.sliceBound (.int k q) y c).run P w = .ok q w := by
  have : (0 : Int) ≤ q ∧ (q : Int) ≤ y := ⟨by omega, by omega⟩
  simp [Instr.sliceBound, asIntOf, this]
theorem sliceBounds_ok {ev : Evl} {ev' : Operand → Value} (he : Evs m ev ev') {isSlice : Bool} {n c c2 p q : Nat} {lo hi : Option Operand} (h1 : bnd ev n c hi = some q) (h2 : bnd ev 0 q lo = some p) (hc : c ≤ c2) (w : World) :
    (Instr.sliceBounds isSlice n c2 (lo.map ev') (hi.map ev') none).run P w = .ok (p, q, c2) w ∧ p ≤ q ∧ (hi = none → q = n) := by
  have hh : ∃ q' : Nat, q' = q ∧ (match hi.map ev' with | some v => Instr.sliceBound v c2 (if isSlice then .sliceAcap else .sliceAlen) | none => pure n : Sem Nat).run P w = .ok q w := by
    cases hi with
    | none => cases h1; exact ⟨_, rfl, rfl⟩
    | some x =>
      obtain ⟨k, e1, e2⟩ := bnd_ok he h1
      refine ⟨q, rfl, ?_⟩
      simp only [Option.map_some, e1]
      exact sliceBound_ok (Nat.le_trans e2 hc) w
  obtain ⟨_, _, hh⟩ := hh
  have hl : (match lo.map ev' with | some v => Instr.sliceBound v q (if (none : Option Value).isSome then .slice3C else .sliceB) | none => pure 0 : Sem Nat).run P w = .ok p w ∧ p ≤ q := by
    cases lo with
    | none => cases h2; exact ⟨rfl, Nat.zero_le _⟩
    | some x =>
      obtain ⟨k, e1, e2⟩ := bnd_ok he h2
      refine ⟨?_, e2⟩
      simp only [Option.map_some, e1]
      exact sliceBound_ok e2 w
  refine ⟨?_, hl.2, fun e => by subst e; cases h1; rfl⟩
  have hl1 := hl.1
  unfold Instr.sliceBounds
  cases hi with
  | none =>
    cases lo with
    | none =>
      simp only [Option.map_none, Sem.run_bind, Sem.run_pure, Result.andThen_ok] at hh hl1 ⊢
      cases hh; cases hl1; rfl
    | some y =>
      simp only [Option.map_none, Option.map_some, Sem.run_bind, Sem.run_pure, Result.andThen_ok] at hh hl1 ⊢
      cases hh
      rw [hl1]
      rfl
  | some x =>
    cases lo with
    | none =>
      simp only [Option.map_none, Option.map_some, Sem.run_bind, Sem.run_pure, Result.andThen_ok] at hh hl1 ⊢
      rw [hh]
      cases hl1
      rfl
    | some y =>
      simp only [Option.map_none, Option.map_some, Sem.run_bind, Sem.run_pure, Result.andThen_ok] at hh hl1 ⊢
      rw [hh]
      simp only [Result.andThen_ok]
      rw [hl1]
      rfl

theorem slc3_ok (hT : TbOk P T) {ev : Evl} {ev' : Operand → Value} (he : Evs m ev ev') {t : TypeId} {x x' v : Value} {lo : Option Operand} {hi mx : Operand} (e : slc3 T ev t x lo hi mx = some v) (hx : RV m x x') :
    ∃ v', RV m v v' ∧ (Instr.sliceAt t x' (lo.map ev') (some (ev' hi)) (some (ev' mx))).run P w = .ok v' w := by
  unfold slc3 at e
  split at e
  · rename_i i1 el a n c ht
    have hu := hT.und ht
    obtain ⟨b, x, ha, rfl, hm⟩ := hx.slice_inv
    split at e
    · rename_i ti d2 r ht2 hr
      split at e
      · rename_i q hq
        split at e
        · rename_i p hp
          cases hc : (Nat.blt p r && Nat.blt (q - p) 4294967296) with
          | false => rw [hc] at e; cases e
          | true =>
            rw [hc] at e
            cases e
            simp only [Bool.and_eq_true, Nat.blt_eq] at hc
            have hsz := hT.size ht2
            obtain ⟨k1, e1, g1⟩ := bnd_ok he hr
            obtain ⟨k2, e2, g2⟩ := bnd_ok he hq
            have hl : (match lo.map ev' with | some v => Instr.sliceBound v q (if (some (ev' mx)).isSome then .slice3C else .sliceB) | none => pure 0 : Sem Nat).run P w = .ok p w ∧ p ≤ q := by
              cases lo with
              | none => cases hp; exact ⟨rfl, Nat.zero_le _⟩
              | some x =>
                obtain ⟨k, e1, e2⟩ := bnd_ok he hp
                refine ⟨?_, e2⟩
                simp only [Option.map_some, e1]
                exact sliceBound_ok e2 w
            have hsb : (Instr.sliceBounds true n (c + x) (lo.map ev') (some (ev' hi)) (some (ev' mx))).run P w = .ok (p, q, r) w := by
              have s1 : (Instr.sliceBound (ev' mx) (c + x) .slice3Acap).run P w = .ok r w := by rw [e1]; exact sliceBound_ok (Nat.le_trans g1 (Nat.le_add_right c x)) w
              have s2 : (Instr.sliceBound (ev' hi) r .slice3B).run P w = .ok q w := by rw [e2]; exact sliceBound_ok g2 w
              have s3 := hl.1
              unfold Instr.sliceBounds
              cases lo with
              | none =>
                simp only [Option.map_none, Sem.run_bind, Sem.run_pure, Result.andThen_ok, if_true] at s3 ⊢
                rw [s1]
                simp only [Result.andThen_ok]
                rw [s2]
                simp only [Result.andThen_ok]
                cases s3
                rfl
              | some y =>
                simp only [Option.map_some, Sem.run_bind, Sem.run_pure, Result.andThen_ok, if_true] at s3 ⊢
                rw [s1]
                simp only [Result.andThen_ok]
                rw [s2]
                simp only [Result.andThen_ok]
                rw [s3]
                rfl
            have y1 : ((a.off + p * ti.size) * 4294967296 + (q - p)) / 4294967296 = a.off + p * ti.size := by omega
            have y2 : ((a.off + p * ti.size) * 4294967296 + (q - p)) % 4294967296 = q - p := by omega
            refine ⟨.slice (some ⟨b, a.off + p * ti.size, none⟩) (q - p) (r - p), ?_, ?_⟩
            · have := RV.loose (m := m) (y := (a.off + p * ti.size) * 4294967296 + (q - p)) (c := r - p) hm
              rw [y1, y2] at this
              exact this
            · simp only [Instr.sliceAt, Instr.slice, Sem.run_bind, hu, Result.andThen_ok, hsb, hsz, Sem.run_pure]
              have : ¬ (r = p) := by omega
              simp only [this, if_false, Option.map_some, Addr.add_none]
        · cases e
      · cases e
    · cases e
  · cases e

theorem slc_ok (hT : TbOk P T) (hr : Rep P m h.at w) {ev : Evl} {ev' : Operand → Value} (he : Evs m ev ev') {t : TypeId} {x x' v : Value} {lo hi : Option Operand} (e : slc T h ev t x lo hi = some v) (hx : RV m x x') :
    ∃ v', RV m v v' ∧ (Instr.sliceAt t x' (lo.map ev') (hi.map ev') none).run P w = .ok v' w := by
  unfold slc at e
  split at e
  · rename_i i1 el a n c ht
    have hu := hT.und ht
    split at e
    · rename_i ti d2 q ht2 hq
      split at e
      · rename_i p hp hqc
        have hqc := Nat.le_of_ble_eq_true hqc
        have hsz := hT.size ht2
        cases a with
        | none =>
          cases hx.slice_none
          cases e
          obtain ⟨h1, h2, h3⟩ := sliceBounds_ok (P := P) he (isSlice := true) hq hp (Nat.le_refl c) w
          refine ⟨_, .scal rfl, ?_⟩
          simp only [Instr.sliceAt, Instr.slice, Sem.run_bind, hu, Result.andThen_ok, h1, hsz, Sem.run_pure, Option.map_none]
          simp
        | some a =>
          obtain ⟨b, x, ha, rfl, hm⟩ := hx.slice_inv
          obtain ⟨h1, h2, h3⟩ := sliceBounds_ok (P := P) he (isSlice := true) hq hp (Nat.le_add_right c x) w
          simp only at e
          split at e
          · rename_i hcp
            have hcp' := Nat.eq_of_beq_eq_true hcp
            cases hex : exact h a.block with
            | false =>
              rw [hex] at e
              cases e
              have hqp : q - p = 0 := by omega
              refine ⟨.slice (if c + x = p then some ⟨b, a.off, none⟩ else some ⟨b, a.off + p * ti.size, none⟩) (q - p) (c + x - p), ?_, ?_⟩
              · rw [hqp]; exact .nowh
              · simp only [Instr.sliceAt, Instr.slice, Sem.run_bind, hu, Result.andThen_ok, h1, hsz, Sem.run_pure, Option.map_some, Addr.add_none]
            | true =>
              rw [hex] at e
              cases e
              obtain ⟨rfl, _, _⟩ := exact_ok hr hex hm
              refine ⟨.slice (some ⟨b, a.off, none⟩) (q - p) (c - p + 0), ?_, ?_⟩
              · rw [ha]; exact .slice hm
              · simp only [Instr.sliceAt, Instr.slice, Sem.run_bind, hu, Result.andThen_ok, h1, hsz, Sem.run_pure]
                simp [hcp']
          · rename_i hcp
            cases e
            have hne : c ≠ p := fun e => by subst e; simp at hcp
            have hpc : p ≤ c := Nat.le_trans h2 hqc
            refine ⟨.slice (some ⟨b, a.off + p * ti.size, none⟩) (q - p) (c - p + x), ?_, ?_⟩
            · rw [ha, Addr.add_none]; exact .slice hm
            · simp only [Instr.sliceAt, Instr.slice, Sem.run_bind, hu, Result.andThen_ok, h1, hsz, Sem.run_pure]
              have : ¬ (c + x = p) := by omega
              simp only [this, if_false, Option.map_some, Addr.add_none]
              congr 2
              omega
      · cases e
    · cases e
  · rename_i i1 el sz tk rows ht
    have hu := hT.und ht
    have hd := RV.lst_inv (rows := rows.toList) hx
    obtain ⟨a, c, rfl, hc, hh⟩ := hd.lst_inv
    split at e
    · rename_i ti d2 q ht2 hq
      split at e
      · rename_i p hp
        cases hb : (Nat.beq ti.size sz && Nat.blt 0 sz) with
        | false => rw [hb] at e; cases e
        | true =>
          rw [hb] at e
          cases e
          simp only [Bool.and_eq_true, Nat.beq_eq] at hb
          have hsz := hT.size ht2
          obtain ⟨h1, h2, h3⟩ := sliceBounds_ok (P := P) he (isSlice := true) hq hp hc w
          have hql : q ≤ rows.toList.length := by
            cases hi with
            | none => rw [h3 rfl]; exact Nat.le_refl _
            | some y => obtain ⟨k, e1, e2⟩ := bnd_ok he hq; exact e2
          refine ⟨_, .lst (hd.part hql h2), ?_⟩
          simp only [Instr.sliceAt, Instr.slice, Sem.run_bind, hu, Result.andThen_ok, h1, hsz, Sem.run_pure, hb.1]
      · cases e
    · cases e
  · rename_i i1 s ht
    have hu := hT.und ht
    cases hx.string_inv
    split at e
    · rename_i q hq
      split at e
      · rename_i p hp
        cases e
        obtain ⟨h1, h2, h3⟩ := sliceBounds_ok (P := P) he (isSlice := false) hq hp (Nat.le_refl _) w
        refine ⟨_, .scal rfl, ?_⟩
        simp only [Instr.sliceAt, Instr.slice, Sem.run_bind, hu, Result.andThen_ok]
        simp [h1]
      · cases e
    · cases e
  · rename_i i1 n el a ht
    have hu := hT.und ht
    obtain ⟨b, x, ha, rfl, hm⟩ := hx.ptr_inv
    split at e
    · rename_i ti d2 q ht2 hq
      split at e
      · rename_i p hp
        have hsz := hT.size ht2
        cases hex : exact h a.block with
        | false => rw [hex] at e; cases e
        | true =>
          rw [hex] at e
          cases e
          obtain ⟨rfl, _, _⟩ := exact_ok hr hex hm
          obtain ⟨h1, h2, h3⟩ := sliceBounds_ok (P := P) he (isSlice := false) hq hp (Nat.le_refl _) w
          refine ⟨.slice (some (if n = p then ⟨b, a.off, none⟩ else ⟨b, a.off + p * ti.size, none⟩)) (q - p) (n - p + 0), ?_, ?_⟩
          · cases hnp : Nat.beq n p with
            | true => rw [if_pos (Nat.eq_of_beq_eq_true hnp), ha]; exact .slice hm
            | false => rw [if_neg (fun e => by subst e; simp at hnp), cond_false, ha, Addr.add_none]; exact .slice hm
          · simp only [Instr.sliceAt, Sem.run_bind, hu, Result.andThen_ok, Instr.sureAddr, Sem.run_pure, h1, hsz, Addr.add_none]
            rfl
      · cases e
    · cases e
  · cases e
end
end Go.Ev
