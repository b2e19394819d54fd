/-
  A run reckoned out: operations that only read.
-/
import Derived.Test.YtebhnbecjmdicaaGreatDoorEv1
namespace Go.Ev
set_option linter.unusedVariables false
set_option linter.unusedSimpArgs false
set_option linter.unusedSectionVars false
variable {X : Type} [ExtA X]

structure TbOk (P : Program) (T : Tb) : Prop where
  ok : ∀ t i d, T t = some (i, d) → P.info? t = some i ∧ P.underlying t = some d
  eq : ∀ t ks, T.eq t = some ks → ∀ (a b : Array Value) (op : BinOp) (r : Value) (x y : Operand) (w : World), kindsAre ks a.toList = true → kindsAre ks b.toList = true → boolOp op (sameI a.toList b.toList) = some r → (do eqGuard op t x y (.agg a) (.agg b); binOp op t (.agg a) (.agg b) : Sem Value).run P w = .ok r w
  key : ∀ t ks, T.eq t = some ks → ∀ (a b : Array Value) (w : World), kindsAre ks a.toList = true → kindsAre ks b.toList = true → (∀ e, (Instr.checkKey e 10000 t (.agg a)).run P w = .ok () w) ∧ (Op.equal t (.agg a) (.agg b)).run P w = .ok (sameI a.toList b.toList) w

theorem kinds_same {m : Mp} : ∀ {ks : List IntKind} {l l' : List Value}, kindsAre ks l = true → RVs m l l' → l' = l := by
  intro ks l
  induction l generalizing ks with
  | nil => intro l' _ r; cases r; rfl
  | cons v l ih =>
    intro l' h r
    cases ks with
    | nil => simp [kindsAre] at h
    | cons k ks =>
      cases v <;> first | (simp [kindsAre] at h; done) | skip
      simp only [kindsAre, Bool.and_eq_true] at h
      cases r with
      | cons r1 r2 => rw [r1.int_inv, ih h.2 r2]

section
variable {P : Program} {T : Tb} (hT : TbOk P T) {t : TypeId} {i : TypeInfo} {d : TypeDesc}
include hT
theorem TbOk.und (h : T t = some (i, d)) (w : World) : (underlying t).run P w = .ok d w := run_underlying (hT.ok t i d h).2 w
theorem TbOk.tinfo (h : T t = some (i, d)) (w : World) : (typeInfo t).run P w = .ok i w := by
  simp [typeInfo, (hT.ok t i d h).1]
theorem TbOk.size (h : T t = some (i, d)) (w : World) : (sizeOf t).run P w = .ok i.size w := by
  simp [sizeOf, hT.tinfo h w]
theorem TbOk.esz (h : T t = some (i, d)) : esz P t = i.size := by
  simp [Ev.esz, (hT.ok t i d h).1]
theorem TbOk.agg (h : T t = some (i, d)) (w : World) : (Go.isAgg t).run P w = .ok (isAg d) w := by
  simp only [Go.isAgg, Sem.run_bind, hT.und h w, Result.andThen_ok]
  cases d <;> rfl
theorem TbOk.zero {z : Value} (h : zerov T t = some z) (w : World) : (zeroValue t).run P w = .ok z w ∧ plain z = true := by
  unfold zerov at h
  split at h
  · rename_i ti d' ht
    split at h
    · rename_i z' hz
      cases hp : plain z' with
      | true =>
        rw [hp] at h; cases h
        refine ⟨?_, hp⟩
        simp [zeroValue, hT.tinfo ht w, hz]
      | false => rw [hp] at h; cases h
    · cases h
  · cases h
end

theorem cell_some {w : World} {b o : Nat} {c' : Array Value} {t : TypeId} {fz : Nat × Nat} {v : Value} (h : w.heap[b]? = some (.cells c' t fz)) (hv : c'[o]? = some v) : w.cell? ⟨b, o, none⟩ = some v := by
  simp [World.cell?, h, hv]

theorem Addr.add_none (b o n : Nat) : (⟨b, o, none⟩ : Addr).add n = ⟨b, o + n, none⟩ := by
  unfold Addr.add
  split
  · subst n; rfl
  · rfl

section
variable {P : Program} {T : Tb} {m : Mp} {h : (Hp X)} {w : World}

theorem Rep.cellsF {g : (G X)} (hr : Rep P m g w) {k : Nat} {c : List Value} {t : TypeId} {ex : Bool} (hk : g k = some (.cells c t ex)) {b x : Nat} (hm : m k = some (b, x)) :
    ∃ c' fz, w.heap[b]? = some (.cells c' t fz) ∧ Fz fz c'.size ∧ c'.size = c.length + x * esz P t ∧ RVs m c (c'.toList.take c.length) ∧ (ex = true → x = 0 ∧ fz = (0, 0)) := by
  obtain ⟨b', x', h1, h2⟩ := hr.obj k _ hk rfl
  rw [hm] at h1
  cases h1
  obtain ⟨c', fz, h3, h4, h5, ⟨sp, h6, _⟩, h7⟩ := h2
  exact ⟨c', fz, h3, h4, h5, h6, h7⟩
theorem Rep.cells {g : (G X)} (hr : Rep P m g w) {k : Nat} {c : List Value} {t : TypeId} {ex : Bool} (hk : g k = some (.cells c t ex)) {b x : Nat} (hm : m k = some (b, x)) :
    ∃ c' fz, w.heap[b]? = some (.cells c' t fz) ∧ (∀ i, i < c'.size → ¬ (fz.1 ≤ i ∧ i < fz.2)) ∧ c'.size = c.length + x * esz P t ∧ RVs m c (c'.toList.take c.length) ∧ (ex = true → x = 0 ∧ fz = (0, 0)) := by
  obtain ⟨c', fz, h1, h2, h3, h4, h5⟩ := hr.cellsF hk hm
  exact ⟨c', fz, h1, h2.free, h3, h4, h5⟩
theorem Rep.cell {g : (G X)} (hr : Rep P m g w) {k : Nat} {c : List Value} {t : TypeId} {ex : Bool} (hk : g k = some (.cells c t ex)) {b x : Nat} (hm : m k = some (b, x)) {o : Nat} {v : Value} (hv : c[o]? = some v) :
    ∃ v', w.cell? ⟨b, o, none⟩ = some v' ∧ w.frozen? ⟨b, o, none⟩ = false ∧ RV m v v' := by
  obtain ⟨c', fz, h1, h2, h3, h4, _⟩ := hr.cells hk hm
  obtain ⟨v', h5, h6⟩ := h4.at hv
  have hlt : o < c.length := (List.getElem?_eq_some_iff.1 hv).1
  rw [List.getElem?_take_of_lt hlt, Array.getElem?_toList] at h5
  refine ⟨v', cell_some h1 h5, ?_, h6⟩
  have := h2 o (by omega)
  simp only [World.frozen?, h1]
  rcases Decidable.em (fz.1 ≤ o) with a | a <;> rcases Decidable.em (o < fz.2) with b | b <;> simp_all
theorem rd_ok (hr : Rep P m h.at w) {k off n b x : Nat} {l : List Value} (e : rd h k off n = some l) (hm : m k = some (b, x)) :
    ∃ l', RVs m l l' ∧ l'.length = n ∧ (∀ j v, l'[j]? = some v → w.cell? ((⟨b, off, none⟩ : Addr).add j) = some v) ∧ ∃ c t ex, h.at k = some (.cells c t ex) ∧ off + n ≤ c.length ∧ l = (c.drop off).take n := by
  rw [rd_eq] at e
  split at e
  · rename_i c t ex hk
    cases hb : Nat.ble (off + n) c.length with
    | false => rw [hb] at e; cases e
    | true =>
      rw [hb] at e
      have e' := Option.some.inj e
      subst e'
      have hle := Nat.le_of_ble_eq_true hb
      obtain ⟨c', fz, h1, h2, h3, h4, h5⟩ := hr.cells hk hm
      refine ⟨((c'.toList.take c.length).drop off).take n, (h4.drop off).take n, ?_, ?_, c, t, ex, hk, hle, rfl⟩
      · simp; omega
      · intro j v hj
        rw [Addr.add_none]
        have hjn : j < n := by
          have := (List.getElem?_eq_some_iff.1 hj).1
          simp at this; omega
        rw [List.getElem?_take_of_lt hjn, List.getElem?_drop, List.getElem?_take_of_lt (by omega), Array.getElem?_toList] at hj
        exact cell_some h1 hj
  · cases e
theorem ldv_ok (hT : TbOk P T) (hr : Rep P m h.at w) {t : TypeId} {a : Addr} {v : Value} (e : ldv T h t a = some v) {b x : Nat} (hm : m a.block = some (b, x)) :
    ∃ v', RV m v v' ∧ (loadVar t ⟨b, a.off, none⟩).run P w = .ok v' w := by
  rw [ldv_eq] at e
  split at e
  · rename_i ti d ht
    split at e
    · rename_i hd
      split at e
      · rename_i l hl
        cases e
        obtain ⟨l', h1, h2, h3, _⟩ := rd_ok hr hl hm
        refine ⟨.agg l'.toArray, .agg (by simpa using h1), ?_⟩
        have := run_loadCells_list (P := P) (w := w) ⟨b, a.off, none⟩ l' h3
        rw [h2] at this
        simp only [loadVar, Sem.run_bind, hT.agg ht, Result.andThen_ok, hd, if_true, hT.size ht, this, Sem.run_pure]
      · cases e
    · rename_i hd
      split at e
      · rename_i c u ex hk
        obtain ⟨v', h1, h2, h3⟩ := hr.cell hk hm e
        refine ⟨v', h3, ?_⟩
        simp only [loadVar, Sem.run_bind, hT.agg ht, Result.andThen_ok, hd, Bool.false_eq_true, if_false]
        simp [load, Sem.run, h1]
      · cases e
  · cases e

def Evs (m : Mp) (ev : Evl) (ev' : Operand → Value) : Prop := ∀ x v, ev x = some v → RV m v (ev' x)

theorem evs_ok {ev : Evl} {ev' : Operand → Value} (he : Evs m ev ev') : ∀ {l : List Operand} {r : List Value}, evs ev l = some r → RVs m r (l.map ev')
  | [], r, h => by cases h; exact .nil
  | x :: l, r, h => by
    unfold evs at h
    split at h
    · rename_i v hv
      split at h
      · rename_i r' hr
        cases h
        exact .cons (he _ _ hv) (evs_ok he hr)
      · cases h
    · cases h
inductive RPs (m : Mp) : List (Nat × Value) → List (Nat × Value) → Prop where
  | nil : RPs m [] []
  | cons {i : Nat} {v v' : Value} {l l' : List (Nat × Value)} : RV m v v' → RPs m l l' → RPs m ((i, v) :: l) ((i, v') :: l')
theorem evps_ok {ev : Evl} {ev' : Operand → Value} (he : Evs m ev ev') : ∀ {l : List (Nat × Operand)} {r : List (Nat × Value)}, evps ev l = some r → RPs m r (l.map fun (i, x) => (i, ev' x))
  | [], r, h => by cases h; exact .nil
  | (i, x) :: l, r, h => by
    unfold evps at h
    split at h
    · rename_i v hv
      split at h
      · rename_i r' hr
        cases h
        exact .cons (he _ _ hv) (evps_ok he hr)
      · cases h
    · cases h

theorem puree_run {α : Type} {s : Sem α} {a : α} (h : puree s = some a) (w : World) : s.run P w = .ok a w := by
  cases s <;> first | (cases h; rfl) | cases h
theorem scalO_some {o : Option Value} {v : Value} (h : scalO o = some v) : o = some v ∧ scal v = true := by
  cases o with
  | none => cases h
  | some u =>
    simp only [scalO] at h
    cases hs : scal u with
    | true => rw [hs] at h; cases h; exact ⟨rfl, hs⟩
    | false => rw [hs] at h; cases h
theorem scalP {s : Sem Value} {v : Value} (h : scalO (puree s) = some v) : (∀ w, s.run P w = .ok v w) ∧ ∀ m, RV m v v :=
  ⟨fun w => puree_run (scalO_some h).1 w, fun m => .scal (scalO_some h).2⟩

theorem cond2_some {α : Type} {b : Bool} {x : Option α} {y : α} (h : cond2 b x = some y) : b = true ∧ x = some y := by
  cases b with
  | true => exact ⟨rfl, h⟩
  | false => cases h

/-! equality -/
section
variable {t : TypeId} (w : World) (d : Nat)
theorem eqIn_bool (hu : ∀ w, (underlying t).run P w = .ok .bool w) (p q : Bool) : (Op.equalIn (d + 1) t (.bool p) (.bool q)).run P w = .ok (p == q) w := by simp [Op.equalIn, hu]
theorem eqIn_nn {e : TypeId} (hu : ∀ w, (underlying t).run P w = .ok (.pointer e) w) : (Op.equalIn (d + 1) t (.pointer none) (.pointer none)).run P w = .ok true w := by simp [Op.equalIn, hu]
theorem eqIn_ns {e : TypeId} (hu : ∀ w, (underlying t).run P w = .ok (.pointer e) w) (a : Addr) : (Op.equalIn (d + 1) t (.pointer none) (.pointer (some a))).run P w = .ok false w := by simp [Op.equalIn, hu]
theorem eqIn_sn {e : TypeId} (hu : ∀ w, (underlying t).run P w = .ok (.pointer e) w) (a : Addr) : (Op.equalIn (d + 1) t (.pointer (some a)) (.pointer none)).run P w = .ok false w := by simp [Op.equalIn, hu]
theorem eqIn_ss {e n : Nat} (hu : ∀ w, (underlying t).run P w = .ok (.pointer e) w) (hz : ∀ w, (sizeOf e).run P w = .ok n w) (hn : n ≠ 0) {a b : Addr}
    (ha : ∃ c t, w.heap[a.block]? = some (.cells c t (0, 0))) (hb : ∃ c t, w.heap[b.block]? = some (.cells c t (0, 0))) : (Op.equalIn (d + 1) t (.pointer (some a)) (.pointer (some b))).run P w = .ok (a == b) w := by
  simp [Op.equalIn, hu, hz, hn, Sl.run_sameAddr ha hb]
theorem eqIn_ii {ms : Array (String × TypeId)} (hu : ∀ w, (underlying t).run P w = .ok (.interface ms) w) : (Op.equalIn (d + 1) t .nilIface .nilIface).run P w = .ok true w := by simp [Op.equalIn, hu]
theorem eqIn_vi {ms : Array (String × TypeId)} (hu : ∀ w, (underlying t).run P w = .ok (.interface ms) w) (u : TypeId) (v : Value) : (Op.equalIn (d + 1) t (.iface u v) .nilIface).run P w = .ok false w := by simp [Op.equalIn, hu]
end
theorem exact_ok (hr : Rep P m h.at w) {k b x : Nat} (e : exact h k = true) (hm : m k = some (b, x)) : x = 0 ∧ (∃ c t, w.heap[b]? = some (.cells c t (0, 0))) ∧ h.at k ≠ none := by
  unfold exact at e
  split at e
  · rename_i c t ex hk
    subst e
    obtain ⟨c', fz, h1, h2, h3, h4, h5⟩ := hr.cells hk hm
    obtain ⟨rfl, rfl⟩ := h5 rfl
    exact ⟨rfl, ⟨c', t, h1⟩, by rw [hk]; simp⟩
  · cases e
theorem samePtr_ok (hr : Rep P m h.at w) {p q : Option Addr} {r : Bool} (e : samePtr h p q = some r) {u v : Value} (hu : RV m (.pointer p) u) (hv : RV m (.pointer q) v) {t el : TypeId} {ti : TypeInfo} (ht : P.underlying t = some (.pointer el)) (hz : ∀ w, (sizeOf el).run P w = .ok ti.size w) (hs : ti.size ≠ 0) :
    ∃ p' q', u = .pointer p' ∧ v = .pointer q' ∧ (Op.equal t (.pointer p') (.pointer q')).run P w = .ok r w := by
  have hu' := fun w => run_underlying (P := P) ht w
  cases p with
  | none =>
    cases hu.scal_inv rfl
    cases q with
    | none =>
      cases hv.scal_inv rfl; cases e
      exact ⟨_, _, rfl, rfl, eqIn_nn w 9999 hu'⟩
    | some b =>
      cases e
      obtain ⟨b', x, h1, rfl, h3⟩ := hv.ptr_inv
      exact ⟨_, _, rfl, rfl, eqIn_ns w 9999 hu' _⟩
  | some a =>
    obtain ⟨a', x, h1, rfl, h3⟩ := hu.ptr_inv
    cases q with
    | none =>
      cases hv.scal_inv rfl; cases e
      exact ⟨_, _, rfl, rfl, eqIn_sn w 9999 hu' _⟩
    | some b =>
      obtain ⟨b', y, h4, rfl, h6⟩ := hv.ptr_inv
      refine ⟨_, _, rfl, rfl, ?_⟩
      simp only [samePtr] at e
      cases hb : (exact h a.block && exact h b.block) with
      | false => rw [hb] at e; cases e
      | true =>
        rw [hb] at e
        have e' := Option.some.inj e
        subst e'
        simp only [Bool.and_eq_true] at hb
        obtain ⟨rfl, g1, g2⟩ := exact_ok hr hb.1 h3
        obtain ⟨rfl, f1, f2⟩ := exact_ok hr hb.2 h6
        have key : ((⟨a', a.off, none⟩ : Addr) == ⟨b', b.off, none⟩) = (Nat.beq a.block b.block && Nat.beq a.off b.off) := by
          cases hab : Nat.beq a.block b.block with
          | true =>
            rw [Nat.eq_of_beq_eq_true hab, h6] at h3
            cases h3
            cases ho : Nat.beq a.off b.off with
            | true => rw [Nat.eq_of_beq_eq_true ho]; simp
            | false =>
              rw [Bool.and_false, beq_eq_false_iff_ne]
              intro e
              injection e with _ e2 _
              rw [e2] at ho; simp at ho
          | false =>
            rw [Bool.false_and, beq_eq_false_iff_ne]
            intro e
            injection e with e1 _ _
            subst e1
            have := hr.inj a.block b.block a' 0 0 g2 f2 h3 h6
            rw [this] at hab
            simp at hab
        have := eqIn_ss w 9999 hu' hz hs (a := ⟨a', a.off, none⟩) (b := ⟨b', b.off, none⟩) g1 f1
        rw [key] at this
        exact this

theorem boolOp_run {op : BinOp} {r : Bool} {v : Value} (h : boolOp op r = some v) : (op = .eql ∧ v = .bool r) ∨ (op = .neq ∧ v = .bool !r) := by
  cases op <;> simp [boolOp] at h
  · exact .inl ⟨rfl, h.symm⟩
  · exact .inr ⟨rfl, h.symm⟩

theorem biased_ok {n : Int} (h : fits64 n = true) : n + 9223372036854775808 = (biased n : Int) ∧ True := by
  unfold fits64 at h
  simp only [Bool.and_eq_true, decide_eq_true_eq] at h
  unfold biased
  exact ⟨by omega, trivial⟩
theorem wrap_itv (x : Int) : RV m (itv 0 18446744073709551615) (.int .i64 (IntKind.i64.wrap x)) := by
  have hp : (2 : Int) ^ IntKind.i64.bits = 18446744073709551616 := by decide
  have hp2 : (2 : Int) ^ (IntKind.i64.bits - 1) = 9223372036854775808 := by decide
  have h1 := Int.emod_nonneg x (show (18446744073709551616 : Int) ≠ 0 by decide)
  have h2 := Int.emod_lt_of_pos x (show (0 : Int) < 18446744073709551616 by decide)
  have key : 0 ≤ IntKind.i64.wrap x + 9223372036854775808 ∧ IntKind.i64.wrap x + 9223372036854775808 ≤ 18446744073709551615 := by
    unfold IntKind.wrap
    simp only [hp, hp2]
    split
    · rename_i hc
      simp only [Bool.and_eq_true, decide_eq_true_eq] at hc
      omega
    · rename_i hc
      have : ¬ (x % 18446744073709551616 ≥ 9223372036854775808) := fun c => hc (by simp only [Bool.and_eq_true, decide_eq_true_eq]; exact ⟨rfl, c⟩)
      omega
  exact .itv (by simpa using key.1) (by simpa using key.2)
theorem decB_some {a b : Bool} {v : Value} (h : decB a b = some v) : (a = true ∧ v = .bool true) ∨ (b = true ∧ v = .bool false) := by
  unfold decB at h
  cases a with
  | true => cases h; exact .inl ⟨rfl, rfl⟩
  | false =>
    cases b with
    | true => cases h; exact .inr ⟨rfl, rfl⟩
    | false => cases h
theorem icmp_ok {op : BinOp} {t : TypeId} {a b c d : Nat} {x y : Int} {v : Value} {w : World} (e : icmp op a b c d = some v) (h1 : (a : Int) ≤ x + 9223372036854775808) (h2 : x + 9223372036854775808 ≤ (b : Int)) (h3 : (c : Int) ≤ y + 9223372036854775808) (h4 : y + 9223372036854775808 ≤ (d : Int)) :
    ∃ v', RV m v v' ∧ (binOp op t (.int .i64 x) (.int .i64 y)).run P w = .ok v' w := by
  have bl : ∀ (c : Bool), RV m (.bool c) (.bool c) := fun c => .scal rfl
  cases op <;> simp only [icmp] at e <;> first
    | (cases e; done)
    | (cases e; exact ⟨_, wrap_itv _, rfl⟩)
    | (rcases decB_some e with ⟨g, rfl⟩ | ⟨g, rfl⟩ <;>
        (try simp only [Bool.or_eq_true, Nat.blt_eq] at g) <;> (try have g := Nat.le_of_ble_eq_true g) <;>
        (refine ⟨_, bl _, ?_⟩
         simp [binOp, Op.intCmp]
         omega))
    | skip
  · rcases decB_some e with ⟨g, rfl⟩ | ⟨g, rfl⟩
    · cases g
    · rw [Bool.or_eq_true, Nat.blt_eq, Nat.blt_eq] at g
      refine ⟨_, bl _, ?_⟩
      have : (x == y) = false := by rw [beq_eq_false_iff_ne]; omega
      simp [binOp, Op.intCmp, this]
  · rcases decB_some e with ⟨g, rfl⟩ | ⟨g, rfl⟩
    · rw [Bool.or_eq_true, Nat.blt_eq, Nat.blt_eq] at g
      refine ⟨_, bl _, ?_⟩
      have : (x == y) = false := by rw [beq_eq_false_iff_ne]; omega
      simp [binOp, Op.intCmp]
      omega
    · cases g
theorem bin_ok (hT : TbOk P T) (hr : Rep P m h.at w) {op : BinOp} {t : TypeId} {x y : Operand} {a b v a' b' : Value} (e : bin T h op t x y a b = some v) (ha : RV m a a') (hb : RV m b b') :
    ∃ v', RV m v v' ∧ (do eqGuard op t x y a' b'; binOp op t a' b' : Sem Value).run P w = .ok v' w := by
  unfold bin at e
  have guard0 : ∀ n n' : Int, (eqGuard op t x y (.int .i64 n) (.int .i64 n')).run P w = .ok () w := by intro n n'; unfold eqGuard; cases op <;> rfl
  have bl : ∀ (c : Bool), RV m (.bool c) (.bool c) := fun c => .scal rfl
  split at e
  · -- ints
    rename_i k1 n1 k2 n2
    cases ha.int_inv
    cases hb.int_inv
    obtain ⟨h1, h2⟩ := scalP (P := P) e
    refine ⟨v, h2 m, ?_⟩
    have : (eqGuard op t x y (.int k1 n1) (.int k2 n2)).run P w = .ok () w := by unfold eqGuard; cases op <;> rfl
    simp only [Sem.run_bind, this, Result.andThen_ok, h1]
  · rename_i s1 s2
    cases ha.string_inv
    cases hb.string_inv
    obtain ⟨h1, h2⟩ := scalP (P := P) e
    refine ⟨v, h2 m, ?_⟩
    have : (eqGuard op t x y (.string s1) (.string s2)).run P w = .ok () w := by unfold eqGuard; cases op <;> rfl
    simp only [Sem.run_bind, this, Result.andThen_ok, h1]
  · rename_i lo hi n
    obtain ⟨k, rfl, k1, k2⟩ := ha.itv_inv
    cases hb.int_inv
    cases hf : fits64 n with
    | false => rw [hf] at e; cases e
    | true =>
      rw [hf, cond_true] at e
      obtain ⟨n1, n2⟩ := biased_ok hf
      obtain ⟨v', q1, q2⟩ := icmp_ok (P := P) (m := m) (t := t) (w := w) e k1 k2 (Int.le_of_eq n1.symm) (Int.le_of_eq n1)
      exact ⟨v', q1, by simp only [Sem.run_bind, guard0, Result.andThen_ok, q2]⟩
  · rename_i n lo hi
    obtain ⟨k, rfl, k1, k2⟩ := hb.itv_inv
    cases ha.int_inv
    cases hf : fits64 n with
    | false => rw [hf] at e; cases e
    | true =>
      rw [hf, cond_true] at e
      obtain ⟨n1, n2⟩ := biased_ok hf
      obtain ⟨v', q1, q2⟩ := icmp_ok (P := P) (m := m) (t := t) (w := w) e (Int.le_of_eq n1.symm) (Int.le_of_eq n1) k1 k2
      exact ⟨v', q1, by simp only [Sem.run_bind, guard0, Result.andThen_ok, q2]⟩
  · rename_i lo hi lo' hi'
    obtain ⟨k, rfl, k1, k2⟩ := ha.itv_inv
    obtain ⟨n, rfl, n1, n2⟩ := hb.itv_inv
    obtain ⟨v', q1, q2⟩ := icmp_ok (P := P) (m := m) (t := t) (w := w) e k1 k2 n1 n2
    exact ⟨v', q1, by simp only [Sem.run_bind, guard0, Result.andThen_ok, q2]⟩
  · rename_i p q
    cases ha.bool_inv
    cases hb.bool_inv
    split at e
    · rename_i ti ht
      have hu := hT.und ht
      have heq : (Op.equal t (.bool p) (.bool q)).run P w = .ok (p == q) w := eqIn_bool w 9999 hu p q
      rcases boolOp_run e with ⟨rfl, rfl⟩ | ⟨rfl, rfl⟩
      · refine ⟨_, bl _, ?_⟩
        simp [eqGuard, binOp, heq]
      · refine ⟨_, bl _, ?_⟩
        simp [eqGuard, binOp, heq]
    · cases e
  · rename_i p q
    split at e
    · rename_i ti el ht
      split at e
      · rename_i ti2 d2 ht2
        cases hz : Nat.beq ti2.size 0 with
        | true => rw [hz] at e; cases e
        | false =>
          rw [hz, cond_false] at e
          split at e
          · rename_i r hs
            obtain ⟨p', q', rfl, rfl, h3⟩ := samePtr_ok hr hs ha hb (hT.ok _ _ _ ht).2 (hT.size ht2) (fun c => by rw [c] at hz; cases hz)
            rcases boolOp_run e with ⟨rfl, rfl⟩ | ⟨rfl, rfl⟩
            · refine ⟨_, bl _, ?_⟩
              cases p' <;> cases q' <;> simp [eqGuard, binOp, h3]
            · refine ⟨_, bl _, ?_⟩
              cases p' <;> cases q' <;> simp [eqGuard, binOp, h3]
          · cases e
      · cases e
    · cases e
  · cases ha.scal_inv rfl
    cases hb.scal_inv rfl
    split at e
    · rename_i ti ms ht
      have hu := hT.und ht
      have heq : (Op.equal t .nilIface .nilIface).run P w = .ok true w := eqIn_ii w 9999 hu
      cases hc : (isConst x || isConst y) with
      | false => rw [hc] at e; cases e
      | true =>
        rw [hc, cond_true] at e
        have hg : (eqGuard op t x y .nilIface .nilIface).run P w = .ok () w := by
          unfold eqGuard
          cases x <;> cases y <;> first | (simp [isConst] at hc; done) | (cases op <;> rfl)
        rcases boolOp_run e with ⟨rfl, rfl⟩ | ⟨rfl, rfl⟩
        · exact ⟨_, bl _, by simp only [Sem.run_bind, hg, Result.andThen_ok]; simp [binOp, heq]⟩
        · exact ⟨_, bl _, by simp only [Sem.run_bind, hg, Result.andThen_ok]; simp [binOp, heq]⟩
    · cases e
  · cases hb.scal_inv rfl
    obtain ⟨u, rfl, _⟩ := ha.iface_inv
    split at e
    · rename_i ti ms ht
      have hu := hT.und ht
      have heq : ∀ t1, (Op.equal t (.iface t1 u) .nilIface).run P w = .ok false w := fun t1 => eqIn_vi w 9999 hu t1 u
      rcases boolOp_run e with ⟨rfl, rfl⟩ | ⟨rfl, rfl⟩
      · exact ⟨_, bl _, by simp [eqGuard, binOp, heq]⟩
      · exact ⟨_, bl _, by simp [eqGuard, binOp, heq]⟩
    · cases e
  · rename_i a b
    split at e
    · rename_i ks hk
      cases hc : (kindsAre ks a.toList && kindsAre ks b.toList) with
      | false => rw [hc] at e; cases e
      | true =>
        rw [hc, cond_true] at e
        simp only [Bool.and_eq_true] at hc
        obtain ⟨a1, rfl, ra⟩ := ha.agg_inv
        obtain ⟨b1, rfl, rb⟩ := hb.agg_inv
        have e1 := kinds_same hc.1 ra
        have e2 := kinds_same hc.2 rb
        have e1' : a1 = a := by apply Array.ext'; exact e1
        have e2' : b1 = b := by apply Array.ext'; exact e2
        subst e1' e2'
        refine ⟨_, ?_, hT.eq t ks hk _ _ op v x y w hc.1 hc.2 e⟩
        rcases boolOp_run e with ⟨_, rfl⟩ | ⟨_, rfl⟩ <;> exact bl _
    · cases e
  · cases e
end
end Go.Ev
