/-
  Maps: a map's block reads as a list of pairs; lookup, update, delete, len, range and next over it.
-/
import Derived.Test.YtjhkmmpgjiciiaaSlx
namespace Go.Sl
set_option linter.unusedSimpArgs false
set_option linter.unusedVariables false

section
variable {κ : Type}

def mget [DecidableEq κ] (k : κ) : List (κ × Value) → Option Value
  | [] => none
  | p :: l => if k = p.1 then some p.2 else mget k l

def mput [DecidableEq κ] (k : κ) (v : Value) : List (κ × Value) → List (κ × Value)
  | [] => [(k, v)]
  | p :: l => if k = p.1 then (k, v) :: l else p :: mput k v l

def mdel [DecidableEq κ] (k : κ) : List (κ × Value) → List (κ × Value)
  | [] => []
  | p :: l => if k = p.1 then l else p :: mdel k l

/-- What a key type must give. -/
structure KeyOk [DecidableEq κ] (P : Program) (kt : TypeId) (kf : κ → Value) : Prop where
  und : ∃ kd, P.underlying kt = some kd ∧ ∀ a b, Instr.sameNow kd (kf a) (kf b) = some (decide (a = b))
  chk : ∀ e n a w, (Instr.checkKey e (n + 1) kt (kf a)).run P w = .ok () w
  bits : ∀ n a, Instr.sameBits n (kf a) (kf a) = true

def kvs (es : Array MapEntry) : List (Value × Value) := es.toList.map fun e => (e.key, e.val)

/-- A block's object is a map that reads as ms. -/
def MapIs (kf : κ → Value) (o : Obj) (ms : List (κ × Value)) : Prop :=
  ∃ es clock, o = .map es clock ∧ (es.toList.map fun e => (e.key, e.val)) = ms.map (fun p => (kf p.1, p.2)) ∧ (es.toList.map (·.born)).Nodup ∧ ∀ e ∈ es.toList, e.born < clock

def mp (kf : κ → Value) (b : Nat) (ms : List (κ × Value)) : Assn := fun h => ∃ o, MapIs kf o ms ∧ raw b o h

theorem Sat.mp_open {kf : κ → Value} {b : Nat} {ms : List (κ × Value)} {F : Assn} {w : World} (hs : Sat (mp kf b ms * F) w) : ∃ o, MapIs kf o ms ∧ Sat (raw b o * F) w := by
  obtain ⟨_, ⟨g, k, d, rfl, ⟨o, ho, hr⟩, hF⟩, H⟩ := hs
  exact ⟨o, ho, _, ⟨g, k, d, rfl, hr, hF⟩, H⟩

theorem Sat.mp_shut {kf : κ → Value} {b : Nat} {ms : List (κ × Value)} {F : Assn} {w : World} {o : Obj} (ho : MapIs kf o ms) (hs : Sat (raw b o * F) w) : Sat (mp kf b ms * F) w := by
  obtain ⟨_, ⟨g, k, d, rfl, hr, hF⟩, H⟩ := hs
  exact ⟨_, ⟨g, k, d, rfl, ⟨o, ho, hr⟩, hF⟩, H⟩

theorem findNow_of [DecidableEq κ] {kf : κ → Value} {kd : TypeDesc} (hsame : ∀ a b, Instr.sameNow kd (kf a) (kf b) = some (decide (a = b))) (k : κ) :
    ∀ (ms : List (κ × Value)) (es : List MapEntry) (i : Nat), (es.map fun e => (e.key, e.val)) = ms.map (fun p => (kf p.1, p.2)) →
      ∃ r, Instr.findNow kd (kf k) es i = some r ∧ r.map (·.2) = mget k ms ∧
        (∀ j v, r = some (j, v) → i ≤ j ∧ ∃ e, es[j - i]? = some e ∧ e.key = kf k ∧ e.val = v ∧
          (∀ v' e', e'.key = kf k → e'.val = v' → ((es.set (j - i) e').map fun e => (e.key, e.val)) = (mput k v' ms).map (fun p => (kf p.1, p.2))) ∧
          ((es.eraseIdx (j - i)).map fun e => (e.key, e.val)) = (mdel k ms).map (fun p => (kf p.1, p.2))) ∧
        (r = none → mdel k ms = ms)
  | [], es, i, h => by
    have : es = [] := by simpa using h
    subst this
    exact ⟨none, rfl, rfl, (fun _ _ e => by cases e), fun _ => rfl⟩
  | p :: ms, [], i, h => by simp at h
  | p :: ms, e :: es, i, h => by
    simp only [List.map_cons, List.cons.injEq, Prod.mk.injEq] at h
    obtain ⟨⟨h1, h2⟩, h3⟩ := h
    simp only [Instr.findNow, h1, hsame]
    by_cases hk : k = p.1
    · subst hk
      simp only [decide_true]
      refine ⟨_, rfl, by simp [mget, h2], ?_, fun e => by cases e⟩
      intro j v e1
      cases e1
      refine ⟨Nat.le_refl _, e, by simp, h1, rfl, ?_, ?_⟩
      · intro v' e' a1 a2
        simp [mput, a1, a2, h3]
      · simp [mdel, h3]
    · simp only [hk, decide_false]
      obtain ⟨r, r1, r2, r3, r4⟩ := findNow_of hsame k ms es (i + 1) h3
      refine ⟨r, r1, by simp [mget, hk, r2], ?_, ?_⟩
      · intro j v e1
        obtain ⟨a1, e0, a2, a3, a4, a5, a6⟩ := r3 j v e1
        have hj : j - i = (j - (i + 1)) + 1 := by omega
        refine ⟨by omega, e0, by rw [hj]; simpa using a2, a3, a4, ?_, ?_⟩
        · intro v' e' b1 b2
          rw [hj]
          simp [mput, hk, a5 v' e' b1 b2, h1, h2]
        · rw [hj]
          simp [mdel, hk, a6, h1, h2]
      · intro e1
        simp [mdel, hk, r4 e1]

theorem mput_new [DecidableEq κ] {k : κ} {v : Value} {ms : List (κ × Value)} (h : mget k ms = none) : mput k v ms = ms ++ [(k, v)] := by
  induction ms with
  | nil => rfl
  | cons p ms ih =>
    unfold mget at h
    split at h
    · cases h
    · rename_i hk; simp [mput, hk, ih h]

variable {P : Program} {kt : TypeId} {kf : κ → Value}

theorem run_lookup_mp [DecidableEq κ] (K : KeyOk P kt kf) {t e : TypeId} {z : Value} (ht : P.underlying t = some (.map kt e)) (hz : ∀ w, (zeroValue e).run P w = .ok z w) {w : World} {b : Nat} {o : Obj} {ms : List (κ × Value)}
    (hb : w.heap[b]? = some o) (ho : MapIs kf o ms) (k : κ) (ok : Bool) :
    (Instr.lookup t (.map (some b)) (kf k) ok).run P w = .ok (if ok then .tuple #[(mget k ms).getD z, .bool (mget k ms).isSome] else (mget k ms).getD z) w := by
  obtain ⟨es, clock, rfl, h1, _, _⟩ := ho
  obtain ⟨kd, hk, hsame⟩ := K.und
  obtain ⟨r, r1, r2, _⟩ := findNow_of hsame k ms es.toList 0 h1
  have hg : (getObj b).run P w = .ok (.map es clock) w := by simp [getObj, Sem.run, hb]
  have hc := K.chk es.isEmpty 9999 k w
  unfold Instr.lookup
  simp only [Sem.run_bind, underlying, run_program, Result.andThen_ok, ht, Sem.run_pure, hg, hc, Instr.findKey, hk, r1]
  cases r with
  | none =>
    simp only [Option.map_none] at r2
    simp only [Sem.run_bind, hz, Result.andThen_ok, Sem.run_pure, ← r2]
    cases ok <;> rfl
  | some q =>
    obtain ⟨j, v⟩ := q
    simp only [Option.map_some] at r2
    simp only [← r2]
    cases ok <;> rfl

theorem run_lookup_nilmap [DecidableEq κ] (K : KeyOk P kt kf) {t e : TypeId} {z : Value} (ht : P.underlying t = some (.map kt e)) (hz : ∀ w, (zeroValue e).run P w = .ok z w) {w : World} (k : κ) (ok : Bool) :
    (Instr.lookup t (.map none) (kf k) ok).run P w = .ok (if ok then .tuple #[z, .bool false] else z) w := by
  obtain ⟨kd, hk, hsame⟩ := K.und
  have hc := K.chk true 9999 k w
  unfold Instr.lookup
  simp only [Sem.run_bind, underlying, run_program, Result.andThen_ok, ht, Sem.run_pure, Instr.findKey, hk, Instr.findNow, List.isEmpty_toArray, List.isEmpty_nil, hc, hz]

theorem run_len_mp {t e : TypeId} (ht : P.underlying t = some (.map kt e)) {w : World} {b : Nat} {o : Obj} {ms : List (κ × Value)}
    (hb : w.heap[b]? = some o) (ho : MapIs kf o ms) (ty : TypeId) :
    (Builtin.len_ #[t] ty #[.map (some b)]).run P w = .ok (.int .i64 ms.length) w := by
  obtain ⟨es, clock, rfl, h1, _, _⟩ := ho
  have hg : (getObj b).run P w = .ok (.map es clock) w := by simp [getObj, Sem.run, hb]
  have hl : es.size = ms.length := by have := congrArg List.length h1; simpa using this
  simp [Builtin.len_, underlying, ht, hg, goInt, hl]

theorem nodup_set {l : List MapEntry} {i : Nat} {e e' : MapEntry} (h : l[i]? = some e) (hb : e'.born = e.born) : (l.set i e').map (·.born) = l.map (·.born) := by
  induction l generalizing i with
  | nil => simp
  | cons x l ih =>
    cases i with
    | zero => simp at h; subst h; simp [hb]
    | succ i => simp at h; simp [ih h]

theorem run_mapUpdate_mp [DecidableEq κ] (K : KeyOk P kt kf) {t e : TypeId} (ht : P.underlying t = some (.map kt e)) {w : World} {b : Nat} {o : Obj} {ms : List (κ × Value)}
    (hb : w.heap[b]? = some o) (ho : MapIs kf o ms) (k : κ) (v : Value) :
    ∃ o', MapIs kf o' (mput k v ms) ∧ (Instr.mapUpdate t (.map (some b)) (kf k) v).run P w = .ok () { w with heap := w.heap.setIfInBounds b o' } := by
  obtain ⟨es, clock, rfl, h1, h2, h3⟩ := ho
  obtain ⟨kd, hk, hsame⟩ := K.und
  obtain ⟨r, r1, r2, r3, r4⟩ := findNow_of hsame k ms es.toList 0 h1
  have hg : (getObj b).run P w = .ok (.map es clock) w := by simp [getObj, Sem.run, hb]
  have hset : ∀ o' : Obj, (setObj b o').run P w = .ok () { w with heap := w.heap.setIfInBounds b o' } := by intro o'; simp [setObj, Sem.run, hb]
  have hc := K.chk false 9999 k w
  cases r with
  | none =>
    have hn : mget k ms = none := by simpa using r2.symm
    refine ⟨.map (es.push { key := kf k, val := v, born := clock }) (clock + 1), ⟨_, _, rfl, ?_, ?_, ?_⟩, ?_⟩
    · rw [mput_new hn]; simp [h1]
    · simp only [Array.toList_push, List.map_append, List.map_cons, List.map_nil]
      rw [List.nodup_append]
      refine ⟨h2, by simp, ?_⟩
      intro a ha c hc'
      simp only [List.mem_singleton] at hc'
      obtain ⟨x, hx, rfl⟩ := List.mem_map.1 ha
      have := h3 x hx
      omega
    · intro x hx
      simp only [Array.toList_push, List.mem_append, List.mem_singleton] at hx
      rcases hx with hx | rfl
      · have := h3 x hx; omega
      · exact Nat.lt_succ_self _
    · unfold Instr.mapUpdate
      simp only [Sem.run_bind, underlying, run_program, Result.andThen_ok, ht, Sem.run_pure, hg, hc, Instr.findKey, hk, r1, hset]
  | some q =>
    obtain ⟨j, u⟩ := q
    obtain ⟨_, e0, a2, a3, a4, a5, a6⟩ := r3 j u rfl
    simp only [Nat.sub_zero] at a2 a5 a6
    have hkey : ((es[j]?).map (·.key)).getD (kf k) = kf k := by
      have : es[j]? = some e0 := by simpa using a2
      simp [this, a3]
    have hmod : (es.modify j fun e => { e with key := kf k, val := v }).toList = es.toList.set j { e0 with key := kf k, val := v } := by
      have hj : j < es.toList.length := by
        rcases Nat.lt_or_ge j es.toList.length with h | h
        · exact h
        · simp only [List.getElem?_eq_none h] at a2; cases a2
      have hj' : es.toList[j] = e0 := by simpa [List.getElem?_eq_getElem hj] using a2
      rw [Array.toList_modify, List.modify_eq_set, a2]
      rfl
    refine ⟨.map (es.modify j fun e => { e with key := kf k, val := v }) clock, ⟨_, _, rfl, ?_, ?_, ?_⟩, ?_⟩
    · rw [hmod]; exact a5 v _ rfl rfl
    · rw [hmod, nodup_set (e := e0) (e' := { e0 with key := kf k, val := v }) a2 rfl]; exact h2
    · intro x hx
      rw [hmod] at hx
      rcases List.mem_or_eq_of_mem_set hx with hx | rfl
      · exact h3 x hx
      · exact h3 e0 (List.mem_of_getElem? a2)
    · have hkt : (Instr.keyThatStays (kf k) (kf k)).run P w = .ok (kf k) w := by simp [Instr.keyThatStays, K.bits]
      unfold Instr.mapUpdate
      simp only [Sem.run_bind, underlying, run_program, Result.andThen_ok, ht, Sem.run_pure, hg, hc, Instr.findKey, hk, r1, hkey, hkt, hset]

theorem map_eraseIdx {α β : Type} (f : α → β) : ∀ (l : List α) (i : Nat), (l.eraseIdx i).map f = (l.map f).eraseIdx i
  | [], _ => rfl
  | _ :: _, 0 => rfl
  | x :: l, i + 1 => by simp [map_eraseIdx f l i]

theorem nodup_eraseIdx {l : List Nat} (h : l.Nodup) (i : Nat) : (l.eraseIdx i).Nodup := h.sublist (List.eraseIdx_sublist l i)

theorem run_delete_mp [DecidableEq κ] (K : KeyOk P kt kf) {t e : TypeId} (ht : P.underlying t = some (.map kt e)) {w : World} {b : Nat} {o : Obj} {ms : List (κ × Value)}
    (hb : w.heap[b]? = some o) (ho : MapIs kf o ms) (k : κ) :
    ∃ o', MapIs kf o' (mdel k ms) ∧ ∀ kt' ty, (Builtin.delete_ #[t, kt'] ty #[.map (some b), kf k]).run P w = .ok (.tuple #[]) { w with heap := w.heap.setIfInBounds b o' } := by
  obtain ⟨es, clock, rfl, h1, h2, h3⟩ := ho
  obtain ⟨kd, hk, hsame⟩ := K.und
  obtain ⟨r, r1, r2, r3, r4⟩ := findNow_of hsame k ms es.toList 0 h1
  have hg : (getObj b).run P w = .ok (.map es clock) w := by simp [getObj, Sem.run, hb]
  have hset : ∀ o' : Obj, (setObj b o').run P w = .ok () { w with heap := w.heap.setIfInBounds b o' } := by intro o'; simp [setObj, Sem.run, hb]
  have hc := K.chk es.isEmpty 9999 k w
  cases r with
  | none =>
    refine ⟨.map es clock, ⟨_, _, rfl, by rw [r4 rfl]; exact h1, h2, h3⟩, ?_⟩
    intro kt' ty
    unfold Builtin.delete_
    simp only [Sem.run_bind, underlying, run_program, Result.andThen_ok, ht, Sem.run_pure, hg, hc, Instr.findKey, hk, r1, hset, List.getElem?_toArray, List.getElem?_cons_zero, List.getElem?_cons_succ]
  | some q =>
    obtain ⟨j, u⟩ := q
    obtain ⟨_, e0, a2, a3, a4, a5, a6⟩ := r3 j u rfl
    simp only [Nat.sub_zero] at a2 a5 a6
    have hj : j < es.size := by
      rcases Nat.lt_or_ge j es.size with h | h
      · exact h
      · rw [List.getElem?_eq_none (by simpa using h)] at a2; cases a2
    have hmod : (es.eraseIdxIfInBounds j).toList = es.toList.eraseIdx j := by simp [Array.eraseIdxIfInBounds, hj]
    refine ⟨.map (es.eraseIdxIfInBounds j) clock, ⟨_, _, rfl, ?_, ?_, ?_⟩, ?_⟩
    · rw [hmod]; exact a6
    · rw [hmod]
      have : (es.toList.eraseIdx j).map (·.born) = (es.toList.map (·.born)).eraseIdx j := map_eraseIdx _ _ _
      rw [this]; exact nodup_eraseIdx h2 j
    · intro x hx
      rw [hmod] at hx
      exact h3 x (List.mem_of_mem_eraseIdx hx)
    · intro kt' ty
      unfold Builtin.delete_
      simp only [Sem.run_bind, underlying, run_program, Result.andThen_ok, ht, Sem.run_pure, hg, hc, Instr.findKey, hk, r1, hset, List.getElem?_toArray, List.getElem?_cons_zero, List.getElem?_cons_succ]

end

theorem int_keyOk {P : Program} {kt : TypeId} {q : IntKind} (h : P.underlying kt = some (.int q)) : KeyOk P kt (fun n : Int => Value.int q n) where
  und := ⟨_, h, fun a b => by
    simp only [Instr.sameNow, if_true]
    congr 1⟩
  chk := fun e n a w => by simp [Instr.checkKey, underlying, h]
  bits := fun n a => by cases n <;> simp [Instr.sameBits]

theorem bytes_beq (a b : ByteArray) : (a == b) = decide (a = b) := by
  rw [Bool.eq_iff_iff]
  rcases a with ⟨a⟩
  rcases b with ⟨b⟩
  show ByteArray.beq ⟨a⟩ ⟨b⟩ = true ↔ _
  simp [ByteArray.beq]

theorem string_keyOk {P : Program} {kt : TypeId} (h : P.underlying kt = some .string) : KeyOk P kt (fun s : ByteArray => Value.string s) where
  und := ⟨_, h, fun a b => by
    simp only [Instr.sameNow, bytes_beq]⟩
  chk := fun e n a w => by simp [Instr.checkKey, underlying, h]
  bits := fun n a => by cases n <;> simp [Instr.sameBits, bytes_beq]

end Go.Sl
