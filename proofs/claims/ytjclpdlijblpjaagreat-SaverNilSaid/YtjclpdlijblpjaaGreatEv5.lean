/-
  A run reckoned out: operations that do more than read: memory that is made and written.
-/
import Derived.Test.YtjclpdlijblpjaaGreatEv4
namespace Go.Ev
set_option linter.unusedVariables false
set_option linter.unusedSimpArgs false
section
variable {P : Program} {T : Tb} {m : Mp} {h : Hp} {w : World}

def ext1 (m : Mp) (k b x : Nat) : Mp := fun j => if j = k then some (b, x) else m j
theorem ext1_le {k b x : Nat} (hn : m k = none) : m.le (ext1 m k b x) := fun j p e => by
  unfold ext1
  split
  · rename_i hj; subst hj; rw [hn] at e; cases e
  · exact e
theorem ext1_self {k b x : Nat} : ext1 m k b x k = some (b, x) := if_pos rfl

theorem RO.some {x : Nat} {o' : Option Obj} {o : Ob} (r : RO P m x o' o) : ∃ q, o' = .some q := by
  cases o with
  | cells c t ex => obtain ⟨c', fz, h1, _⟩ := r; exact ⟨_, h1⟩
  | map es ck => obtain ⟨es', h1, _⟩ := r; exact ⟨_, h1⟩
  | mit mo a b c => obtain ⟨es', h1, _⟩ := r; exact ⟨_, h1⟩
theorem Rep.lt {g : G} (hr : Rep P m g w) {k : Nat} (hk : g k ≠ none) {b x : Nat} (hm : m k = .some (b, x)) : b < w.heap.size := by
  obtain ⟨o, ho⟩ := Option.ne_none_iff_exists'.1 hk
  obtain ⟨b', x', h1, h2⟩ := hr.obj k o ho
  rw [hm] at h1
  cases h1
  obtain ⟨q, hq⟩ := h2.some
  rcases Nat.lt_or_ge b w.heap.size with l | l
  · exact l
  · rw [Array.getElem?_eq_none l] at hq; cases hq

theorem Hp.at_add {o : Ob} (hroom : roomy h = true) (k : Nat) : (h.add o).at k = if k = h.nx then .some o else h.at k :=
  Tr.get_put20 _ _ _ _ (by have := Nat.blt_eq.mp hroom; omega)
theorem Hp.at_set {o : Option Ob} {k : Nat} (hk : k < 1000000) (j : Nat) : (h.set k o).at j = if j = k then o else h.at j :=
  Tr.get_put20 _ _ _ _ (by omega)

theorem add_ok (hr : Rep P m h.at w) (hn : m h.nx = none) (hroom : roomy h = true) {o : Ob} {o' : Obj} {x : Nat} (ho : RO P (ext1 m h.nx w.heap.size x) x (.some o') o) {w' : World}
    (hw : w'.heap = w.heap.push o') (h1 : w'.os = w.os) (h2 : w'.tape = w.tape) (h3 : w'.output = w.output) :
    Rep P (ext1 m h.nx w.heap.size x) (h.add o).at w' ∧ Stp h.at m w (h.add o).at (ext1 m h.nx w.heap.size x) w' h.nx (h.add o).nx := by
  have hle := ext1_le (b := w.heap.size) (x := x) hn
  have hnew : w'.heap[w.heap.size]? = .some o' := by rw [hw]; simp
  have hold : ∀ b, b < w.heap.size → w'.heap[b]? = w.heap[b]? := fun b hb => by
    rw [hw, Array.getElem?_push]
    rw [if_neg (by omega)]
  have hat := fun k => Hp.at_add (h := h) (o := o) hroom k
  have hold2 : ∀ k b y, k ≠ h.nx → ext1 m h.nx w.heap.size x k = .some (b, y) → m k = .some (b, y) := fun k b y hk e => by
    unfold ext1 at e; rw [if_neg hk] at e; exact e
  have hold3 : ∀ k, k ≠ h.nx → (h.add o).at k = h.at k := fun k hk => by rw [hat, if_neg hk]
  refine ⟨⟨fun k u e => ?_, fun k k' b y y' e e' e1 e2 => ?_⟩, ⟨hle, fun k e => ?_, fun k b y e e1 => ?_, fun k e => ?_, fun b hb _ => hold b hb, ?_, h1, h2, h3⟩⟩
  · rw [hat] at e
    split at e
    · rename_i hk
      cases e
      subst hk
      exact ⟨_, _, ext1_self, by rw [hnew]; exact ho⟩
    · obtain ⟨b, y, f1, f2⟩ := hr.obj k u e
      refine ⟨b, y, hle _ _ f1, ?_⟩
      rw [hold b (hr.lt (by rw [e]; simp) f1)]
      exact f2.mono hle
  · by_cases hk : k = h.nx
    · by_cases hk' : k' = h.nx
      · rw [hk, hk']
      · subst hk
        rw [ext1_self] at e1
        cases e1
        have := hr.lt (by rw [← hold3 k' hk']; exact e') (hold2 _ _ _ hk' e2)
        omega
    · by_cases hk' : k' = h.nx
      · subst hk'
        rw [ext1_self] at e2
        cases e2
        have := hr.lt (by rw [← hold3 k hk]; exact e) (hold2 _ _ _ hk e1)
        omega
      · exact hr.inj k k' b y y' (by rw [← hold3 k hk]; exact e) (by rw [← hold3 k' hk']; exact e') (hold2 _ _ _ hk e1) (hold2 _ _ _ hk' e2)
  · have : k = h.nx := by
      rcases Decidable.em (k = h.nx) with c | c
      · exact c
      · exact absurd (by unfold ext1; rw [if_neg c]) e
    subst this
    exact ⟨Nat.le_refl _, Nat.lt_succ_self _⟩
  · by_cases hk : k = h.nx
    · subst hk; rw [ext1_self] at e1; cases e1; exact .inr (Nat.le_refl _)
    · exact .inl ⟨k, y, by rw [← hold3 k hk]; exact e, hold2 _ _ _ hk e1⟩
  · by_cases hk : k = h.nx
    · subst hk; exact .inr ⟨Nat.le_refl _, Nat.lt_succ_self _⟩
    · exact .inl (by rw [← hold3 k hk]; exact e)
  · rw [hw]; simp

theorem set_ok (hr : Rep P m h.at w) {k b x : Nat} (hk : k < 1000000) (hin : h.at k ≠ none) (hm : m k = .some (b, x)) {o : Ob} {w' : World}
    (ho : RO P m x w'.heap[b]? o) (hw : ∀ b', b' ≠ b → w'.heap[b']? = w.heap[b']?) (hs : w'.heap.size = w.heap.size) (h1 : w'.os = w.os) (h2 : w'.tape = w.tape) (h3 : w'.output = w.output) :
    Rep P m (h.set k (.some o)).at w' ∧ Stp h.at m w (h.set k (.some o)).at m w' h.nx h.nx := by
  have hat := fun j => Hp.at_set (h := h) (o := .some o) hk j
  have hne : ∀ j, (h.set k (.some o)).at j ≠ none → h.at j ≠ none := fun j e => by
    rw [hat] at e
    split at e
    · rename_i hj; subst hj; exact hin
    · exact e
  refine ⟨⟨fun j u e => ?_, fun j j' b' y y' e e' e1 e2 => hr.inj j j' b' y y' (hne j e) (hne j' e') e1 e2⟩, ⟨m.le_refl, fun j e => absurd rfl e, fun j b' y e e1 => .inl ⟨j, y, hne j e, e1⟩, fun j e => .inl (hne j e), fun b' hb hn => ?_, by omega, h1, h2, h3⟩⟩
  · rw [hat] at e
    split at e
    · rename_i hj
      cases e
      subst hj
      exact ⟨b, x, hm, ho⟩
    · rename_i hj
      obtain ⟨b', y, f1, f2⟩ := hr.obj j u e
      refine ⟨b', y, f1, ?_⟩
      rw [hw b' (fun c => hj (hr.inj j k b y x (by rw [e]; simp) hin (by rw [← c]; exact f1) hm))]
      exact f2
  · exact hw b' (fun c => hn k x hin (by rw [c]; exact hm))

/-! writing cells -/
theorem overl_len : ∀ (c : List Value) (n : Nat) (vs : List Value), n + vs.length ≤ c.length → (overl c n vs).length = c.length
  | c, 0, vs, e => by simp [overl]; omega
  | [], n + 1, vs, e => rfl
  | x :: c, n + 1, vs, e => by simp [overl]; exact overl_len c n vs (by simp at e; omega)
theorem RVs.overl : ∀ {c c' : List Value}, RVs m c c' → ∀ (n : Nat) {vs vs' : List Value}, RVs m vs vs' → RVs m (overl c n vs) (Ev.overl c' n vs')
  | c, c', r, 0, vs, vs', s => by
    cases c with
    | nil => cases r; simpa [Ev.overl] using s
    | cons x c =>
      cases r with
      | cons e r =>
        simp only [Ev.overl]
        rw [s.len]
        exact s.append ((RVs.cons e r).drop _)
  | _, _, .nil, n + 1, _, _, s => .nil
  | _, _, .cons e r, n + 1, _, _, s => .cons e (RVs.overl r n s)
theorem overl_cons_set : ∀ (c : List Value) (n : Nat) (v : Value) (vs : List Value), n < c.length → overl c n (v :: vs) = overl (c.set n v) (n + 1) vs
  | [], n, v, vs, e => by simp at e
  | x :: c, 0, v, vs, e => by simp [overl]
  | x :: c, n + 1, v, vs, e => by
    simp only [overl, List.set_cons_succ]
    rw [overl_cons_set c n v vs (by simpa using e)]
theorem overl_nil : ∀ (c : List Value) (n : Nat), overl c n [] = c
  | c, 0 => by simp [overl]
  | [], n + 1 => rfl
  | x :: c, n + 1 => by simp [overl, overl_nil c n]
theorem overl_append : ∀ (c d : List Value) (n : Nat) (vs : List Value), n + vs.length ≤ c.length → overl (c ++ d) n vs = overl c n vs ++ d
  | c, d, 0, vs, e => by
    simp only [overl]
    rw [List.drop_append_of_le_length (by omega), List.append_assoc]
  | [], d, n + 1, vs, e => by simp at e
  | x :: c, d, n + 1, vs, e => by
    simp only [List.cons_append, overl]
    rw [overl_append c d n vs (by simp at e; omega)]

/-- cells are written -/
theorem storeCells_run {b : Nat} {t : TypeId} {fz : Nat × Nat} (o : Nat) : ∀ (vs : List Value) (k : Nat) (c : Array Value) (w : World), w.heap[b]? = .some (.cells c t fz) → o + k + vs.length ≤ c.size → (∀ i, i < c.size → ¬ (fz.1 ≤ i ∧ i < fz.2)) → vs.all one = true →
    ∃ w', (storeCells ⟨b, o, none⟩ vs k).run P w = .ok () w' ∧ w'.heap[b]? = .some (.cells (overl c.toList (o + k) vs).toArray t fz) ∧ (∀ b', b' ≠ b → w'.heap[b']? = w.heap[b']?) ∧ w'.heap.size = w.heap.size ∧ w'.os = w.os ∧ w'.tape = w.tape ∧ w'.output = w.output
  | [], k, c, w, hb, hl, hf, h1 => by
    refine ⟨w, rfl, ?_, fun _ _ => rfl, rfl, rfl, rfl, rfl⟩
    rw [overl_nil, Array.toArray_toList]
    exact hb
  | v :: vs, k, c, w, hb, hl, hf, h1 => by
    simp only [List.all_cons, Bool.and_eq_true] at h1
    simp only [List.length_cons] at hl
    have hlt : o + k < c.size := by omega
    have hc : ∃ u, w.cell? ⟨b, o + k, none⟩ = .some u := ⟨c[o + k], cell_some hb (by simp [hlt])⟩
    obtain ⟨u, hu⟩ := hc
    have hfz : w.frozen? ⟨b, o + k, none⟩ = false := by
      have := hf (o + k) hlt
      simp only [World.frozen?, hb]
      rcases Decidable.em (fz.1 ≤ o + k) with a | a <;> rcases Decidable.em (o + k < fz.2) with b | b <;> simp_all
    let w1 := w.setCell ⟨b, o + k, none⟩ v
    have hb1 : w1.heap[b]? = .some (.cells (c.setIfInBounds (o + k) v) t fz) := by
      simp [w1, World.setCell, Array.getElem?_modify, hb]
    have hb2 : ∀ b', b' ≠ b → w1.heap[b']? = w.heap[b']? := fun b' e => by
      simp only [w1, World.setCell, Array.getElem?_modify]
      rw [if_neg (fun c => e c.symm)]
    obtain ⟨w', r1, r2, r3, r4, r5, r6, r7⟩ := storeCells_run o vs (k + 1) (c.setIfInBounds (o + k) v) w1 hb1 (by simp; omega) (by simpa using hf) h1.2
    refine ⟨w', ?_, ?_, fun b' e => by rw [r3 b' e, hb2 b' e], by rw [r4]; simp [w1, World.setCell], r5, r6, r7⟩
    · have hst : (store (⟨b, o + k, none⟩ : Addr) v).run P w = .ok () w1 := by
        have hv := h1.1
        cases v <;> first | (simp [one] at hv; done) | simp [store, Sem.run, hu, hfz, w1]
      unfold storeCells
      simp only [Addr.add_none, Sem.run_bind, hst, Result.andThen_ok, r1]
    · rw [r2, Array.toList_setIfInBounds, overl_cons_set _ _ _ _ (by simpa using hlt)]
      rfl

theorem wr_ok (hr : Rep P m h.at w) {k off b x : Nat} {vs vs' : List Value} {h' : Hp} (e : wr h k off vs = .some h') (hm : m k = .some (b, x)) (hv : RVs m vs vs') :
    ∃ w', (storeCells ⟨b, off, none⟩ vs').run P w = .ok () w' ∧ Rep P m h'.at w' ∧ Stp h.at m w h'.at m w' h.nx h'.nx ∧ h'.nx = h.nx := by
  rw [wr_eq] at e
  split at e
  · rename_i c t ex hk
    cases hb : (Nat.blt k 1000000 && Nat.ble (off + vs.length) c.length && vs.all one) with
    | false => rw [hb] at e; cases e
    | true =>
      rw [hb] at e
      cases e
      simp only [Bool.and_eq_true] at hb
      have hk1 := Nat.blt_eq.mp hb.1.1
      have hle := Nat.le_of_ble_eq_true hb.1.2
      obtain ⟨c', fz, h1, h2F, h3, h4, h5⟩ := hr.cellsF hk hm
      have h2 := h2F.free
      have hl := hv.len
      obtain ⟨w', r1, r2, r3, r4, r5, r6, r7⟩ := storeCells_run (P := P) off vs' 0 c' w h1 (by omega) h2 (by rw [hv.ones]; exact hb.2)
      have hsp : c'.toList = c'.toList.take c.length ++ c'.toList.drop c.length := (List.take_append_drop _ _).symm
      have hl2 : (c'.toList.take c.length).length = c.length := by simp; omega
      have hov : overl c'.toList (off + 0) vs' = overl (c'.toList.take c.length) off vs' ++ c'.toList.drop c.length := by
        conv => lhs; rw [hsp]
        exact overl_append _ _ _ _ (by omega)
      have hro : RO P m x w'.heap[b]? (.cells (overl c off vs) t ex) := by
        refine ⟨(overl c'.toList (off + 0) vs').toArray, fz, r2, ?_, ?_, ⟨_, ?_, rfl⟩, h5⟩
        · have hsz : (overl c'.toList (off + 0) vs').toArray.size = c'.size := by
            rw [hov]
            simp only [List.size_toArray, List.length_append, overl_len _ _ _ (show off + vs'.length ≤ (c'.toList.take c.length).length by omega), hl2]
            simp; omega
          rw [hsz]
          exact h2F
        · rw [hov, overl_len _ _ _ hle]
          simp only [List.size_toArray, List.length_append, overl_len _ _ _ (show off + vs'.length ≤ (c'.toList.take c.length).length by omega), hl2]
          simp; omega
        · rw [overl_len _ _ _ hle, hov]
          have : (overl (c'.toList.take c.length) off vs').length = c.length := by rw [overl_len _ _ _ (by omega), hl2]
          simp only [List.toList_toArray]
          rw [List.take_append_of_le_length (by omega), List.take_of_length_le (by omega)]
          exact h4.overl off hv
      obtain ⟨s1, s2⟩ := set_ok hr hk1 (by rw [hk]; simp) hm hro r3 r4 r5 r6 r7
      exact ⟨w', r1, s1, s2, rfl⟩
  · cases e

/-- what is to hold of an operation's run -/
def OutOk (P : Program) (m : Mp) (h : Hp) (w : World) (r : Result Next) : Out → Prop
  | .val v h' => ∃ v' w' m', (r = .ok (.value v') w' ∨ (r = .ok .skip w' ∧ v' = undef)) ∧ RV m' v v' ∧ Rep P m' h'.at w' ∧ Stp h.at m w h'.at m' w' h.nx h'.nx ∧ h.nx ≤ h'.nx
  | .call f args => ∃ args', RVs m args args' ∧ r = (callFunc f args'.toArray).run P w
  | .defer f args cap => ∃ args' cap', RVs m args args' ∧ RVs m cap cap' ∧ r = .ok (.defer ⟨.fn (.func f) cap'.toArray, args'.toArray⟩) w
  | .panic t v => ∃ v', RV m v v' ∧ r = .halt (.panic (.iface t v')) w

theorem new_ok (hr : Rep P m h.at w) (hn : m h.nx = none) {c : List Value} {t : TypeId} {ex : Bool} {v : Value} {out : Out} (e : new h c t ex v = .some out) {c' : Array Value} {fz : Nat × Nat} {x : Nat}
    (hc : RVs m c (c'.toList.take c.length)) (hs : c'.size = c.length + x * esz P t) (hf : Fz fz c'.size) (hx : ex = true → x = 0 ∧ fz = (0, 0)) {w' : World} (hw : w'.heap = w.heap.push (.cells c' t fz)) (h1 : w'.os = w.os) (h2 : w'.tape = w.tape) (h3 : w'.output = w.output) :
    ∃ h', out = .val v h' ∧ h'.nx = h.nx + 1 ∧ ext1 m h.nx w.heap.size x h.nx = .some (w.heap.size, x) ∧ Rep P (ext1 m h.nx w.heap.size x) h'.at w' ∧ Stp h.at m w h'.at (ext1 m h.nx w.heap.size x) w' h.nx h'.nx := by
  unfold new at e
  cases hroom : roomy h with
  | false => rw [hroom] at e; cases e
  | true =>
    rw [hroom] at e
    cases e
    obtain ⟨a, b⟩ := add_ok hr hn hroom (o := .cells c t ex) (x := x) ⟨c', fz, rfl, hf, hs, ⟨_, hc.mono (ext1_le hn), rfl⟩, hx⟩ hw h1 h2 h3
    exact ⟨_, rfl, rfl, ext1_self, a, b⟩
end
end Go.Ev
