/-
  A run reckoned out: all operations that do more than read.
-/
import Derived.Test.YtebhnbecjmdicaaGreatDoorEv8
namespace Go.Ev
set_option linter.unusedVariables false
set_option linter.unusedSimpArgs false
set_option linter.unusedSectionVars false
variable {X : Type} [ExtA X]
section
variable {P : Program} {T : Tb} {m : Mp} {h : (Hp X)} {w : World}

theorem vwrap {s : Sem Value} {v' : Value} {w' : World} (hs : s.run P w = .ok v' w') : (do pure (.value (← s)) : Sem Next).run P w = .ok (.value v') w' := by
  simp [hs]
theorem uwrap {s : Sem Unit} {w' : World} (hs : s.run P w = .ok () w') : (do s; pure .skip : Sem Next).run P w = .ok .skip w' := by
  simp [hs]
theorem ValOk.out {s : Sem Value} {out : (Out X)} (hv : ValOk P m h w s out) : OutOk P m h w ((do pure (.value (← s)) : Sem Next).run P w) out := by
  cases out with
  | val v h' =>
    obtain ⟨v', w', m', a, b, c, d, e⟩ := hv
    exact ⟨v', w', m', .inl (vwrap a), b, c, d, e⟩
  | _ => exact hv.elim

theorem zerov_info {t : TypeId} {z : Value} {ti : TypeInfo} {d : TypeDesc} (ht : T t = .some (ti, d)) (hz : zerov T t = .some z) : ti.zero = .some z ∧ plain z = true := by
  unfold zerov at hz
  rw [ht] at hz
  simp only at hz
  split at hz
  · rename_i z' hz'
    cases hp : plain z' with
    | true => rw [hp] at hz; cases hz; exact ⟨hz', hp⟩
    | false => rw [hp] at hz; cases hz
  · cases hz

theorem run_newObj (o : Obj) (w : World) : (newObj o).run P w = .ok w.heap.size (w.alloc o) := rfl

theorem wrap_small {n : Int} (h0 : 0 ≤ n) (h1 : n < 1000000) : IntKind.i64.wrap n = n := by
  have e1 : n % (2 : Int) ^ IntKind.i64.bits = n := Int.emod_eq_of_lt h0 (by
    have : (2 : Int) ^ IntKind.i64.bits = 18446744073709551616 := by decide
    omega)
  unfold IntKind.wrap
  simp only [e1]
  have : decide (n ≥ (2 : Int) ^ (IntKind.i64.bits - 1)) = false := by
    have : (2 : Int) ^ (IntKind.i64.bits - 1) = 9223372036854775808 := by decide
    rw [decide_eq_false_iff_not]; omega
  rw [this]
  simp

theorem REs.filter {p p' : MapEntry → Bool} (hp : ∀ e e', RE m e e' → p' e' = p e) : ∀ {a a' : List MapEntry}, REs m a a' → REs m (a.filter p) (a'.filter p')
  | _, _, .nil => .nil
  | _, _, .cons (e := e) (e' := e') r rs => by
    simp only [List.filter_cons, hp e e' r]
    cases p e with
    | true => exact .cons r (REs.filter hp rs)
    | false => exact REs.filter hp rs
theorem REs.all {p p' : MapEntry → Bool} (hp : ∀ e e', RE m e e' → p' e' = p e) : ∀ {a a' : List MapEntry}, REs m a a' → a'.all p' = a.all p
  | _, _, .nil => rfl
  | _, _, .cons (e := e) (e' := e') r rs => by simp only [List.all_cons, hp e e' r, REs.all hp rs]

theorem REs.at : ∀ {a a' : List MapEntry}, REs m a a' → ∀ (i : Nat) (e' : MapEntry), a'[i]? = .some e' → ∃ e, a[i]? = .some e ∧ RE m e e'
  | _, _, .nil, i, e', h => by simp at h
  | _, _, .cons r rs, 0, e', h => by simp at h; subst h; exact ⟨_, rfl, r⟩
  | _, _, .cons r rs, i + 1, e', h => by simp at h; obtain ⟨e, h1, h2⟩ := REs.at rs i e' h; exact ⟨e, by simpa using h1, h2⟩
theorem REs.len : ∀ {a a' : List MapEntry}, REs m a a' → a'.length = a.length
  | _, _, .nil => rfl
  | _, _, .cons _ rs => by simp [REs.len rs]

set_option maxHeartbeats 4000000 in
theorem nextAll_ok (hr : Rep P m h.at w) {r b y : Nat} {ty : TypeId} {outs : List (Value × (Hp X))} (e : nextAll h r = .some outs) (hm : m r = .some (b, y)) :
    ∃ p v' w', p ∈ outs ∧ (Instr.next (.pointer (.some ⟨b, 0, none⟩)) false ty).run P w = .ok v' w' ∧ RV m p.1 v' ∧ Rep P m p.2.at w' ∧ Stp h.at m w p.2.at m w' h.nx h.nx ∧ p.2.nx = h.nx := by
  unfold nextAll at e
  split at e
  · rename_i since seen last hit
    cases e
    obtain ⟨b1, x1, q1, mo', q2, q3⟩ := hr.obj r _ hit rfl
    rw [hm] at q1
    cases q1
    simp only at q3
    subst q3
    have hg : (getObj b).run P w = .ok (.mapIter none since seen.toArray last) w := by simp [getObj, Sem.run, q2]
    refine ⟨_, .tuple #[.bool false], w, List.mem_singleton.2 rfl, ?_, .tuple (.cons (.scal rfl) .nil), hr, Stp.refl _ _ _ _ _, rfl⟩
    simp only [Instr.next, Sem.run_bind, hg, Result.andThen_ok, Sem.run_pure]
  · rename_i mk since seen last hit
    obtain ⟨b1, x1, q1, mo', q2, q3⟩ := hr.obj r _ hit rfl
    rw [hm] at q1
    cases q1
    obtain ⟨b2, x2, q4, rfl⟩ := q3
    have hg : (getObj b).run P w = .ok (.mapIter (.some b2) since seen.toArray last) w := by simp [getObj, Sem.run, q2]
    split at e
    · rename_i es ck hes
      obtain ⟨es', h1, h2⟩ := hr.mapAt hes q4
      have hg2 : (getObj b2).run P w = .ok (.map es' ck) w := by simp [getObj, Sem.run, h1]
      have hfil := h2.filter (p := fun e => !seen.contains e.born) (p' := fun e => !seen.toArray.contains e.born) (fun e e' r => by simp [r.born])
      have hall := h2.all (p := fun e => Nat.ble last e.born) (p' := fun e => decide (e.born ≥ last)) (fun e e' r => by
        rw [r.born]
        cases hc : Nat.ble last e.born with
        | true => simpa using Nat.le_of_ble_eq_true hc
        | false => rw [decide_eq_false_iff_not]; intro c; rw [Nat.ble_eq_true_of_le c] at hc; cases hc)
      have hemp : es'.isEmpty = es.isEmpty := by
        rw [← h2.empty]; simp
      have hall' : (es'.all fun e => decide (e.born ≥ last)) = es.all fun e => Nat.ble last e.born := by
        rw [← hall, Array.all_toList]
      have hfil' : es'.filter (fun e => !seen.toArray.contains e.born) = (es'.toList.filter fun e => !seen.toArray.contains e.born).toArray := by
        apply Array.ext'; rw [Array.toList_filter]
      cases hc : (Nat.blt r 1000000 && (seen.isEmpty || es.isEmpty || !(es.all fun e => Nat.ble last e.born)) && es.all (fun e => Nat.blt e.born since)) with
      | false => rw [hc] at e; cases e
      | true =>
        rw [hc, cond_true] at e
        simp only [Bool.and_eq_true] at hc
        obtain ⟨⟨c1, c2⟩, c3⟩ := hc
        have c1 := Nat.blt_eq.mp c1
        have hcond : (!seen.toArray.isEmpty && !es'.isEmpty && es'.all fun e => decide (e.born ≥ last)) = false := by
          rw [hall', hemp]
          have : seen.toArray.isEmpty = seen.isEmpty := by simp
          rw [this]
          revert c2
          cases seen.isEmpty <;> cases es.isEmpty <;> cases (es.all fun e => Nat.ble last e.born) <;> simp
        have hallold : ∀ e ∈ es'.toList.filter (fun e => !seen.toArray.contains e.born), e.born < since := by
          intro e' he'
          obtain ⟨i, hi⟩ := List.getElem?_of_mem he'
          obtain ⟨e0, g1, g2⟩ := hfil.at i e' hi
          rw [List.all_eq_true] at c3
          have := c3 e0 (List.mem_filter.1 (List.mem_of_getElem? g1)).1
          rw [g2.born]
          exact Nat.blt_eq.mp this
        generalize hL : es'.toList.filter (fun e => !seen.toArray.contains e.born) = L at hfil hfil' hallold
        have f1 : L.toArray.filter (fun e => decide (e.born < since)) = L.toArray := by
          rw [Array.filter_eq_self]
          intro a ha
          simpa using hallold a (by simpa using ha)
        have f2 : L.toArray.filter (fun e => decide (e.born ≥ since)) = #[] := by
          rw [Array.filter_eq_empty_iff]
          intro a ha
          have := hallold a (by simpa using ha)
          simp; omega
        split at e
        · rename_i hnil
          rw [hnil] at hfil
          cases e
          obtain ⟨s1, s2⟩ := hr.forget c1
          have hLn : L = [] := by cases hfil; rfl
          subst hLn
          refine ⟨_, .tuple #[.bool false], w, List.mem_singleton.2 rfl, ?_, .tuple (.cons (.scal rfl) .nil), s1, s2, rfl⟩
          simp only [Instr.next, Sem.run_bind, hg, hg2, Result.andThen_ok, Sem.run_pure, hcond, Bool.false_eq_true, if_false, hfil']
          simp [Question.forced]
        · rename_i l hne
          cases e
          have hlen := hfil.len
          have hpos : 0 < L.length := by
            rw [hlen]
            exact List.length_pos_iff.2 hne
          have f3 : (if L.toArray.isEmpty = true then #[none] else #[]) ++ Array.map Option.some (L.toArray ++ #[]) = L.toArray.map Option.some := by
            have : L.toArray.isEmpty = false := by cases L with | nil => simp at hpos | cons a l => rfl
            simp [this]
          -- the choice
          have hch : ∃ i w1, i < L.length ∧ (choose (.mapNext (L.toArray.map Option.some).size)).run P w = .ok i w1 ∧ w1.heap = w.heap ∧ w1.os = w.os ∧ w1.tape = w.tape ∧ w1.output = w.output := by
            rw [run_choose]
            have hsz : (L.toArray.map Option.some).size = L.length := by simp
            rw [hsz]
            by_cases hf : (Question.mapNext L.length).forced = true
            · rw [if_pos hf]; exact ⟨0, w, hpos, rfl, rfl, rfl, rfl, rfl⟩
            · rw [if_neg hf]
              exact ⟨_, _, Nat.mod_lt _ hpos, rfl, rfl, rfl, rfl, rfl⟩
          obtain ⟨i, w1, hi, hch, k1, k2, k3, k4⟩ := hch
          obtain ⟨e', he'⟩ : ∃ x, L[i]? = .some x := ⟨_, List.getElem?_eq_getElem hi⟩
          obtain ⟨e0, g1, g2⟩ := hfil.at i e' he'
          have hr1 : Rep P m h.at w1 := hr.drew k1
          have q2' : w1.heap[b]? = .some (.mapIter (.some b2) since seen.toArray last) := by rw [k1]; exact q2
          have hlt := hr1.lt _ _ _ (by rw [hit]; simp) hm
          have hso := fun o' => setObj_run (P := P) (o' := o') q2' (fun _ _ _ c => by cases c)
          obtain ⟨s1, s2⟩ := setMap_ok hr1 c1 hit rfl hm (o := .mit (.some mk) since (seen ++ [e0.born]) ck) (o' := .mapIter (.some b2) since (seen.toArray.push e'.born) ck) ⟨.some b2, by rw [g2.born]; simp, b2, x2, q4, rfl⟩ hlt
          refine ⟨(.tuple #[.bool true, e0.key, e0.val], h.set r (.some (.mit (.some mk) since (seen ++ [e0.born]) ck))), .tuple #[.bool true, e'.key, e'.val], _, ?_, ?_, .tuple (.cons (.scal rfl) (.cons g2.key (.cons g2.val .nil))), s1, s2.pre k1 k2 k3 k4, rfl⟩
          · exact List.mem_map.2 ⟨e0, List.mem_of_getElem? g1, rfl⟩
          · simp only [Instr.next, Sem.run_bind, hg, hg2, Result.andThen_ok, Sem.run_pure, hcond, Bool.false_eq_true, if_false, hfil']
            simp only [f1, f2, f3, hch, Result.andThen_ok]
            have hget : (L.toArray.map Option.some)[i]? = .some (.some e') := by simp [he']
            rw [hget]
            show Sem.run P (do setObj b (.mapIter (.some b2) since (seen.toArray.push e'.born) ck); pure (Value.tuple #[Value.bool true, e'.key, e'.val])) w1 = _
            simp only [Sem.run_bind, hso, Result.andThen_ok, Sem.run_pure]
    · cases e
  · cases e

theorem nextOf_ok (hr : Rep P m h.at w) {ev : Evl} {ev' : Operand → Value} (he : Evs m ev ev') {o : Oper} {outs : List (Value × (Hp X))} (e : nextOf h ev o.op = .some outs) :
    ∃ p v' w', p ∈ outs ∧ (execOp ev' o).run P w = .ok (.value v') w' ∧ RV m p.1 v' ∧ Rep P m p.2.at w' ∧ Stp h.at m w p.2.at m w' h.nx h.nx ∧ p.2.nx = h.nx := by
  obtain ⟨dst, op, ty, pos, af, gd⟩ := o
  cases op with
  | next x bb =>
    cases bb with
    | true => simp [nextOf] at e
    | false =>
      simp only [nextOf] at e
      split at e
      · rename_i r sp hx
        obtain ⟨b, y, ha, hb, hm⟩ := (he _ _ hx).ptr_inv
        simp only at hm hb
        obtain ⟨p, v', w', h1, h2, h3⟩ := nextAll_ok (ty := ty) hr e hm
        refine ⟨p, v', w', h1, vwrap (s := Instr.next (ev' x) false ty) ?_, h3⟩
        rw [hb]; exact h2
      · cases e
  | _ => simp [nextOf] at e

set_option maxHeartbeats 4000000 in
theorem opx_ok (hT : TbOk P T) (hr : Rep P m h.at w) (hn : m h.nx = none) {ev : Evl} {ev' : Operand → Value} (he : Evs m ev ev') {o : Oper} {out : (Out X)} (e : opx T h ev o.op = .some out) :
    OutOk P m h w ((execOp ev' o).run P w) out := by
  obtain ⟨dst, op, ty, pos, af, gd⟩ := o
  cases op with
  | alloc t =>
    simp only [opx] at e
    split at e
    · rename_i z hz
      obtain ⟨hz1, hz2⟩ := hT.zero hz w
      obtain ⟨h', a, b, c, d⟩ := new_exact hr hn e (RV.plain (m := m) hz2).cells w rfl rfl rfl rfl
      subst a
      refine ⟨_, _, _, .inl (vwrap (s := Instr.alloc t true (.tuple #[])) ?_), ext_ptr, c, d, by omega⟩
      simp only [Instr.alloc, Sem.run_bind, hz1, Result.andThen_ok, run_newVar, Sem.run_pure]
    · cases e
  | box t x =>
    simp only [opx] at e
    split at e
    · rename_i v hv
      obtain ⟨h', a, b, c, d⟩ := new_exact hr hn e (he _ _ hv).cells w rfl rfl rfl rfl
      subst a
      refine ⟨_, _, _, .inl (vwrap (s := Instr.box t (ev' x)) ?_), ext_ptr, c, d, by omega⟩
      simp only [Instr.box, Sem.run_bind, Result.andThen_ok, run_newVar, Sem.run_pure]
    · cases e
  | buildSlice t n ps =>
    simp only [opx] at e
    split at e
    · rename_i i1 el l ht hl
      have hps := evps_ok he hl
      split at e
      · rename_i ti d2 z ht2 hz
        obtain ⟨hz1, hz2⟩ := hT.zero hz w
        cases hc : (Nat.beq z.cells.size ti.size && Nat.blt 0 ti.size && Nat.blt (n * ti.size) 1000000) with
        | false => rw [hc] at e; cases e
        | true =>
          rw [hc, cond_true] at e
          simp only [Bool.and_eq_true, Nat.blt_eq] at hc
          obtain ⟨⟨c1, c2⟩, c3⟩ := hc
          have c1' := Nat.eq_of_beq_eq_true c1
          split at e
          · rename_i cs hf
            obtain ⟨cs', f1, f2⟩ := fill_ok (m := m) _ hps (cs := (rep z.cells.toList n).toArray) (cs' := (rep z.cells.toList n).toArray) (by
              simp only [List.toList_toArray]; exact RVs.rep (RV.plain hz2).cells n) hf
            obtain ⟨h', a, b, c, d⟩ := new_exact hr hn e f2 w rfl rfl rfl rfl
            subst a
            refine ⟨_, _, _, .inl (vwrap (s := Instr.buildSlice t n (ps.map fun (i, x) => (i, ev' x))) ?_), ext_slice, c, d, by omega⟩
            have hlim : ¬ n * ti.size > 2 ^ 24 := by
              have : (2 : Nat) ^ 24 = 16777216 := by decide
              omega
            have f1' : Instr.fill (fun i => .some (i * ti.size, ti.size)) (rep z.cells.toList n).toArray (ps.map fun (i, x) => (i, ev' x)).toList = .some cs' := by
              simpa using f1
            simp only [Instr.buildSlice, Sem.run_bind, hT.und ht, hT.size ht2, Result.andThen_ok, hlim, if_false, Sem.run_pure]
            rcases Nat.eq_zero_or_pos (n * ti.size) with hn0 | hn0
            · rw [if_pos hn0]
              simp only [Sem.run_pure, Result.andThen_ok, rep_range0 z.cells ti.size n hn0 c2, f1', Sem.run_bind, run_newRow]
              rfl
            · rw [if_neg (by omega)]
              simp only [Sem.run_bind, hz1, Sem.run_pure, Result.andThen_ok, rep_range z.cells n ti.size c1' c2, f1', run_newRow]
              rfl
          · cases e
      · cases e
    · cases e
  | makeMap t r =>
    simp only [opx] at e
    split at e
    · rename_i i1 kt el k i ht hi
      cases hro : roomy h with
      | false => rw [hro] at e; cases e
      | true =>
        rw [hro] at e
        cases e
        obtain ⟨a, b⟩ := add_ok hr hn hro (o := .map [] 0) (o' := .map #[] 0) (x := 0) ⟨_, rfl, .nil⟩ (w' := w.alloc (.map #[] 0)) rfl rfl rfl rfl
        refine ⟨.map (.some w.heap.size), _, _, .inl (vwrap (s := Instr.makeMap t (r.map ev')) ?_), .map ext1_self, a, b, Nat.le_succ _⟩
        cases r with
        | none =>
          simp only [Instr.makeMap, Option.map_none, Sem.run_bind, run_newObj, Result.andThen_ok, Sem.run_pure]
        | some x =>
          have := (he _ _ hi).int_inv
          simp only [Instr.makeMap, Option.map_some, Sem.run_bind, hT.und ht, this, asInt, asIntOf, run_newObj, Result.andThen_ok, Sem.run_pure]
    · cases e
  | makeSlice t x y =>
    simp only [opx] at e
    split at e
    · rename_i i1 el k1 n k2 c ht hx hy
      have hx' := (he _ _ hx).int_inv
      have hy' := (he _ _ hy).int_inv
      split at e
      · rename_i ti d2 z ht2 hz
        obtain ⟨hz1, hz2⟩ := hT.zero hz w
        cases hc : (decide (0 ≤ n) && decide (n ≤ c) && decide (c < 1000000) && Nat.blt ti.bytes 1000000 && Nat.beq z.cells.size ti.size && Nat.blt 0 ti.size) with
        | false => rw [hc] at e; cases e
        | true =>
          rw [hc, cond_true] at e
          simp only [Bool.and_eq_true, Nat.blt_eq, decide_eq_true_eq] at hc
          obtain ⟨⟨⟨⟨⟨c1, c2⟩, c3⟩, c4⟩, c5⟩, c6⟩ := hc
          have c5' := Nat.eq_of_beq_eq_true c5
          have hrv : RVs m (rep z.cells.toList c.toNat) (rep z.cells.toList c.toNat).toArray.toList := by
            simp only [List.toList_toArray]; exact RVs.rep (RV.plain hz2).cells _
          obtain ⟨h', a, b, d1, d2'⟩ := new_exact hr hn e hrv w rfl rfl rfl rfl
          subst a
          refine ⟨_, _, _, .inl (vwrap (s := Instr.makeSlice t (ev' x) (ev' y)) ?_), ext_slice, d1, d2', by omega⟩
          have hw1 := wrap_small c1 (by omega)
          have hw2 := wrap_small (show (0 : Int) ≤ c by omega) c3
          have hb : (ti.bytes : Int) * c ≤ 1000000 * 1000000 := Int.mul_le_mul (by omega) (by omega) (by omega) (by omega)
          have htl : (decide (c < 0) || decide ((ti.bytes : Int) * c > 2 ^ 48)) = false := by
            have : (2 : Int) ^ 48 = 281474976710656 := by decide
            rw [Bool.or_eq_false_iff, decide_eq_false_iff_not, decide_eq_false_iff_not]
            omega
          have hl1 : decide (n < 0) = false := by rw [decide_eq_false_iff_not]; omega
          have hl2 : decide (n > c) = false := by rw [decide_eq_false_iff_not]; omega
          simp only [Instr.makeSlice, Sem.run_bind, hT.und ht, Result.andThen_ok, hx', hy', asInt, asIntOf, Sem.run_pure, hT.tinfo ht2, hw1, hw2, htl, hl1, hl2, Bool.or_self, Bool.false_eq_true, if_false, run_askRoom, hT.size ht2]
          rcases Nat.eq_zero_or_pos (c.toNat * ti.size) with hn0 | hn0
          · rw [if_pos hn0]
            simp only [Sem.run_pure, Result.andThen_ok, rep_range0 z.cells ti.size c.toNat hn0 c6, run_newRow, Sem.run_bind]
            rfl
          · rw [if_neg (by omega)]
            simp only [Sem.run_bind, hz1, Sem.run_pure, Result.andThen_ok, rep_range z.cells c.toNat ti.size c5' c6, run_newRow]
            rfl
      · cases e
    · cases e
  | store t x y =>
    simp only [opx] at e
    split at e
    · rename_i ti d a v ht hx hy
      obtain ⟨b, q, ha, hb, hm⟩ := (he _ _ hx).ptr_inv
      have hv := (he _ _ hy).cells
      cases hs : Nat.beq v.cells.size ti.size with
      | false => rw [hs] at e; cases e
      | true =>
        rw [hs, cond_true] at e
        split at e
        · rename_i h' hw
          cases e
          obtain ⟨w', r1, r2, r3, r4⟩ := wr_ok hr hw hm hv
          refine ⟨undef, w', m, .inr ⟨uwrap (s := Instr.storeAt t (ev' x) (ev' y)) ?_, rfl⟩, .tuple .nil, r2, r3, by omega⟩
          have hsz : ((ev' y).cells.size ≠ ti.size) = False := by
            have h1 := hv.len
            have h2 := Nat.eq_of_beq_eq_true hs
            simp only [Array.length_toList] at h1
            simp; omega
          simp only [Instr.storeAt, hb, Instr.sureAddr, Sem.run_bind, Sem.run_pure, Result.andThen_ok, storeVar, hT.size ht, hsz, if_false, r1]
        · cases e
    · cases e
  | mapUpdate t a k v =>
    simp only [opx] at e
    split at e
    · rename_i u1 u2 u3 h1 h2 h3
      obtain ⟨h', w', rfl, r1, r2, r3, r4⟩ := mapPut_ok hT hr e (he _ _ h1) (he _ _ h2) (he _ _ h3)
      exact ⟨undef, w', m, .inr ⟨uwrap (s := Instr.mapUpdate t (ev' a) (ev' k) (ev' v)) r1, rfl⟩, .tuple .nil, r2, r3, by omega⟩
    · cases e
  | insert t a k v =>
    simp only [opx] at e
    split at e
    · rename_i u1 u2 u3 h1 h2 h3
      obtain ⟨h', w', rfl, r1, r2, r3, r4⟩ := mapPut_ok hT hr e (he _ _ h1) (he _ _ h2) (he _ _ h3)
      exact ⟨undef, w', m, .inr ⟨uwrap (s := Instr.mapUpdate t (ev' a) (ev' k) (ev' v)) r1, rfl⟩, .tuple .nil, r2, r3, by omega⟩
    · cases e
  | convert s d x =>
    simp only [opx] at e
    split at e
    · rename_i i1 e1 i2 e2 a n c h1 h2 hx
      obtain ⟨b, y, ha, hb, hm⟩ := (he _ _ hx).slice_inv
      split at e
      · rename_i i3 cs t h3 hk
        cases hc : (Nat.beq s d && Nat.blt a.block 1000000) with
        | false => rw [hc] at e; cases e
        | true =>
          rw [hc] at e
          cases e
          simp only [Bool.and_eq_true, Nat.blt_eq] at hc
          obtain rfl := Nat.eq_of_beq_eq_true hc.1
          obtain ⟨c', fz, q1, q2, q3, q4, q5⟩ := hr.cells hk hm
          obtain ⟨rfl, rfl⟩ := q5 rfl
          let w' : World := { w with heap := w.heap.setIfInBounds b (.cells c' t (c'.size, c'.size + 1)) }
          have hlt := hr.lt _ _ _ (by rw [hk]; simp) hm
          have hfz : w.freeze ⟨b, c'.size, none⟩ 1 = w' := by
            unfold World.freeze
            rw [if_neg (by decide)]
            show ({ w with heap := w.heap.modify b _ } : World) = _
            congr 1
            apply Array.ext_getElem?
            intro i
            simp only [Array.getElem?_modify, Array.getElem?_setIfInBounds]
            by_cases hib : b = i
            · subst hib
              have hgb : w.heap[b] = .cells c' t (0, 0) := (Array.getElem?_eq_some_iff.1 q1).2
              simp [hlt, hgb]
            · simp [hib]
          have hsh : (markStringish ⟨b, a.off, none⟩).run P w = .ok () w' := by
            unfold markStringish
            have : w.shape? b = .some (t, c'.size) := by simp [World.shape?, q1]
            simp only [Sem.run_bind, Go.shape, Sem.run, this, Result.andThen_ok, Go.freeze, hfz]
          have hw'b : w'.heap[b]? = .some (.cells c' t (c'.size, c'.size + 1)) := by
            show (w.heap.setIfInBounds b _)[b]? = _
            rw [Array.getElem?_setIfInBounds, if_pos rfl, if_pos hlt]
          obtain ⟨s1, s2⟩ := set_ok hr hc.2 hk rfl hm (o := (.cells cs t false : (Ob X))) (w' := w') (by
              rw [hw'b]
              exact ⟨c', _, rfl, .inr rfl, q3, ⟨_, q4, rfl⟩, fun c => by cases c⟩) (fun b' e => by
              show (w.heap.setIfInBounds b _)[b']? = _
              rw [Array.getElem?_setIfInBounds, if_neg (fun c => e c.symm)]) (by show (w.heap.setIfInBounds b _).size = _; simp) rfl rfl rfl
          refine ⟨.slice (some ⟨b, a.off, none⟩) n (c + 0), w', m, .inl (vwrap (s := convert s s (ev' x)) ?_), ?_, s1, s2, Nat.le_refl _⟩
          · have hbeq : (s == s) = true := by simp
            have u2 := hT.und h2
            simp only [convert, hb, Sem.run_bind, u2, Result.andThen_ok, hbeq, hT.und h3, hsh, Sem.run_pure]
          · rw [ha]; exact .slice hm
      · cases e
    · rename_i i1 i2 el b h1 h2 hx
      have hb := (he _ _ hx).string_inv
      split at e
      · rename_i i3 h3
        cases hz : Nat.beq i3.size 1 with
        | false => rw [hz] at e; cases e
        | true =>
          rw [hz, cond_true] at e
          have hz' := Nat.eq_of_beq_eq_true hz
          have hrun := run_bytes_of_string w s d el b (hT.ok _ _ _ h1).2 (hT.ok _ _ _ h2).2 (hT.ok _ _ _ h3).2
          have hcap : b.size ≤ grownCap w b.size 0 el := by
            show b.size ≤ b.size + _; omega
          have hd : b.data.toList.length = b.size := by simp
          have hrow : (bytesRow b (grownCap w b.size 0 el)).size = b.size + (grownCap w b.size 0 el - b.size) := by simp [bytesRow]
          obtain ⟨h', a1, a2, a3, a4, a5⟩ := new_ok hr hn e (c' := bytesRow b (grownCap w b.size 0 el)) (fz := ((bytesRow b (grownCap w b.size 0 el)).size, (bytesRow b (grownCap w b.size 0 el)).size + 1)) (x := grownCap w b.size 0 el - b.size) (by
              have : ((bytesRow b (grownCap w b.size 0 el)).toList.take (b.data.toList.map fun b => Value.int .u8 b.toNat).length) = b.data.toList.map fun b => Value.int .u8 b.toNat := by
                simp only [bytesRow, Array.toList_append, Array.toList_map, List.length_map]
                rw [List.take_append_of_le_length (by simp), take_self _ (by simp)]
              rw [this]
              refine RVs.scal ?_
              rw [List.all_eq_true]
              intro v hv
              obtain ⟨b, _, rfl⟩ := List.mem_map.1 hv
              rfl) (by rw [hrow, hT.esz h3, hz']; simp) (.inr rfl) (fun c => by cases c) (w' := w.drew.alloc (.cells (bytesRow b (grownCap w b.size 0 el)) el ((bytesRow b (grownCap w b.size 0 el)).size, (bytesRow b (grownCap w b.size 0 el)).size + 1))) rfl rfl rfl rfl
          subst a1
          refine ⟨_, _, _, .inl (vwrap (s := convert s d (ev' x)) (by rw [hb]; exact hrun)), ?_, a4, a5, by omega⟩
          have : grownCap w b.size 0 el = b.size + (grownCap w b.size 0 el - b.size) := by omega
          conv => arg 3; rw [this]
          exact .slice a3
      · cases e
    · cases e
  | call c =>
    obtain ⟨cl, as, ts⟩ := c
    have two : ∀ {s x : Value}, evs ev as.toList = .some [s, x] → ∃ s' x', as.map ev' = #[s', x'] ∧ RV m s s' ∧ RV m x x' := by
      intro s x hs
      have hl := evs_ok he hs
      have hxs : as.map ev' = (as.toList.map ev').toArray := by rw [← Array.toList_map, Array.toArray_toList]
      cases hl' : as.toList.map ev' with
      | nil => rw [hl'] at hl; cases hl
      | cons a l =>
        rw [hl'] at hl hxs
        cases hl with
        | cons r1 r2 =>
          cases r2 with
          | cons r3 r4 => cases r4; exact ⟨_, _, hxs, r1, r3⟩
    cases cl with
    | builtin b =>
      cases b with
      | append =>
        simp only [opx] at e
        split at e
        · rename_i s x hs
          obtain ⟨s', x', hxs, r1, r2⟩ := two hs
          have key : ValOk P m h w (Builtin.append_ ts ty #[s', x']) out := by
            cases hb : (isLst s || isLst x) with
            | true =>
              rw [hb, cond_true] at e
              exact apndT_ok hT hr hn e r1 r2
            | false =>
              rw [hb, cond_false] at e
              exact apnd_ok hT hr hn e r1 r2
          have := key.out
          simp only [execOp, resolve, Sem.run_bind, Sem.run_pure, Result.andThen_ok, invoke, Go.builtin, hxs] at this ⊢
          exact this
        · cases e
      | copy =>
        simp only [opx] at e
        split at e
        · rename_i s x hs
          obtain ⟨s', x', hxs, r1, r2⟩ := two hs
          have := (copyv_ok (ty := ty) hT hr e r1 r2).out
          simp only [execOp, resolve, Sem.run_bind, Sem.run_pure, Result.andThen_ok, invoke, Go.builtin, hxs] at this ⊢
          exact this
        · cases e
      | delete =>
        simp only [opx] at e
        split at e
        · rename_i t tr s x hts hs
          have h0 : ts[0]? = .some t := by rw [← Array.getElem?_toList, hts]; rfl
          obtain ⟨s', x', hxs, r1, r2⟩ := two hs
          have := (mapDel_ok (ty := ty) hT hr e h0 r1 r2).out
          simp only [execOp, resolve, Sem.run_bind, Sem.run_pure, Result.andThen_ok, invoke, Go.builtin, hxs] at this ⊢
          exact this
        · cases e
      | clear =>
        simp only [opx] at e
        split at e
        · rename_i t tr s hts hs
          have h0 : ts[0]? = .some t := by rw [← Array.getElem?_toList, hts]; rfl
          have hl := evs_ok he hs
          have hxs : as.map ev' = (as.toList.map ev').toArray := by rw [← Array.toList_map, Array.toArray_toList]
          cases hl' : as.toList.map ev' with
          | nil => rw [hl'] at hl; cases hl
          | cons a l =>
            rw [hl'] at hl hxs
            cases hl with
            | cons r1 r2 =>
              cases r2
              have := (mapClr_ok (ty := ty) hT hr e h0 r1).out
              simp only [execOp, resolve, Sem.run_bind, Sem.run_pure, Result.andThen_ok, invoke, Go.builtin, hxs] at this ⊢
              exact this
        · cases e
      | _ => simp [opx] at e
    | value f =>
      simp only [opx] at e
      split at e
      · rename_i g a b l hf hl
        cases e
        obtain ⟨a', b', hb, ra, rb⟩ := (he _ _ hf).func_inv
        have rl := evs_ok he hl
        refine ⟨a'.toList ++ as.toList.map ev' ++ b'.toList, (ra.append rl).append rb, ?_⟩
        have e1 : (a'.toList ++ as.toList.map ev' ++ b'.toList).toArray = a' ++ as.map ev' ++ b' := by
          apply Array.ext'; simp
        rw [e1]
        simp only [execOp, resolve, Sem.run_bind, hb, Deferred.ofValue, Sem.run_pure, Result.andThen_ok, invoke]
      · cases e
    | _ => simp [opx] at e
  | defer c =>
    obtain ⟨cl, as, ts⟩ := c
    cases cl with
    | value f =>
      simp only [opx] at e
      split at e
      · rename_i g a b l hf hl
        cases e
        obtain ⟨a', b', hb, ra, rb⟩ := (he _ _ hf).func_inv
        have rl := evs_ok he hl
        refine ⟨a'.toList ++ as.toList.map ev', b'.toList, ra.append rl, rb, ?_⟩
        have e1 : (a'.toList ++ as.toList.map ev').toArray = a' ++ as.map ev' := by
          apply Array.ext'; simp
        rw [e1]
        simp only [execOp, resolve, Sem.run_bind, hb, Deferred.ofValue, Sem.run_pure, Result.andThen_ok]
      · cases e
    | _ => simp [opx] at e
  | panic x =>
    simp only [opx] at e
    split at e
    · rename_i t v hx
      cases e
      obtain ⟨v', hb, hv⟩ := (he _ _ hx).iface_inv
      refine ⟨v', hv, ?_⟩
      simp only [execOp, hb, Instr.panic, Sem.run_bind, goPanic]
      rfl
    · cases e
  | range t x =>
    simp only [opx] at e
    split at e
    · rename_i i kt el ht hx
      cases hro : roomy h with
      | false => rw [hro] at e; cases e
      | true =>
        rw [hro] at e
        cases e
        have hb := (he _ _ hx).scal_inv rfl
        obtain ⟨a, b⟩ := add_ok hr hn hro (o := .mit none 0 [] 0) (o' := .mapIter none 0 #[] 0) (x := 0) ⟨none, rfl, rfl⟩ (w' := w.alloc (.mapIter none 0 #[] 0)) rfl rfl rfl rfl
        refine ⟨_, _, _, .inl (vwrap (s := Instr.range t (ev' x)) ?_), ext_ptr, a, b, Nat.le_succ _⟩
        simp only [Instr.range, hb, Sem.run_bind, hT.und ht, Result.andThen_ok, Sem.run_pure, run_newObj]
    · rename_i i kt el r ht hx
      obtain ⟨b', y, hb, hm⟩ := (he _ _ hx).map_inv
      split at e
      · rename_i es ck hes
        cases hro : roomy h with
        | false => rw [hro] at e; cases e
        | true =>
          rw [hro] at e
          cases e
          obtain ⟨es', h1, h2⟩ := hr.mapAt hes hm
          have hg : (getObj b').run P w = .ok (.map es' ck) w := by simp [getObj, Sem.run, h1]
          obtain ⟨a, b⟩ := add_ok hr hn hro (o := .mit (.some r) ck [] ck) (o' := .mapIter (.some b') ck #[] ck) (x := 0) ⟨.some b', rfl, b', y, ext1_le hn _ _ hm, rfl⟩ (w' := w.alloc (.mapIter (.some b') ck #[] ck)) rfl rfl rfl rfl
          refine ⟨_, _, _, .inl (vwrap (s := Instr.range t (ev' x)) ?_), ext_ptr, a, b, Nat.le_succ _⟩
          simp only [Instr.range, hb, Sem.run_bind, hT.und ht, Result.andThen_ok, Sem.run_pure, hg, run_newObj]
      · cases e
    · cases e
  | _ => simp [opx] at e
end
end Go.Ev
