/-
  A run reckoned out: operations that do more than read: memory that is made and written.
-/
import Derived.Test.YtebhnbecjmdicaaGreatDoorEv4
namespace Go.Ev
set_option linter.unusedVariables false
set_option linter.unusedSimpArgs false
set_option linter.unusedSectionVars false
variable {X : Type} [ExtA X]
section
variable {P : Program} {T : Tb} {m : Mp} {h : (Hp X)} {w : World}

def ext1 (m : Mp) (k b x : Nat) : Mp := { m with num := fun j => if j = k then some (b, x) else m j }
theorem ext1_le {k b x : Nat} (hn : m k = none) : m.le (ext1 m k b x) := ⟨fun j p e => by
  show (if j = k then some (b, x) else m j) = some p
  split
  · rename_i hj; subst hj; rw [hn] at e; cases e
  · exact e, Kn.le_refl _⟩
theorem ext1_self {k b x : Nat} : ext1 m k b x k = some (b, x) := if_pos rfl
theorem ext1_ne {k b x j : Nat} (h : j ≠ k) : ext1 m k b x j = m j := if_neg h

theorem RO.cell {x : Nat} {o' : Option Obj} {o : (Ob X)} (r : RO P m x o' o) : isCell o = true := by
  cases o <;> first | rfl | exact r.elim

theorem Hp.at_add {o : (Ob X)} (hroom : roomy h = true) (k : Nat) : (h.add o).at k = if k = h.nx then .some o else h.at k :=
  Tr.get_put20 _ _ _ _ (by have := Nat.blt_eq.mp hroom; omega)
theorem Hp.at_set {o : Option (Ob X)} {k : Nat} (hk : k < 1000000) (j : Nat) : (h.set k o).at j = if j = k then o else h.at j :=
  Tr.get_put20 _ _ _ _ (by omega)

theorem add_ok (hr : Rep P m h.at w) (hn : m h.nx = none) (hroom : roomy h = true) {o : (Ob X)} {o' : Obj} {x : Nat} (ho : RO P (ext1 m h.nx w.heap.size x) x (.some o') o) {w' : World}
    (hw : w'.heap = w.heap.push o') (h1 : w'.os = w.os) (h2 : w'.tape = w.tape) (h3 : w'.output = w.output) :
    Rep P (ext1 m h.nx w.heap.size x) (h.add o).at w' ∧ Stp h.at m w (h.add o).at (ext1 m h.nx w.heap.size x) w' h.nx (h.add o).nx := by
  have hle := ext1_le (b := w.heap.size) (x := x) hn
  have hoc := ho.cell
  have hnew : w'.heap[w.heap.size]? = .some o' := by rw [hw]; simp
  have hold : ∀ b, b < w.heap.size → w'.heap[b]? = w.heap[b]? := fun b hb => by
    rw [hw, Array.getElem?_push]
    rw [if_neg (by omega)]
  have hsz : w'.heap.size = w.heap.size + 1 := by rw [hw]; simp
  have hat := fun k => Hp.at_add (h := h) (o := o) hroom k
  have hold2 : ∀ k b y, k ≠ h.nx → ext1 m h.nx w.heap.size x k = .some (b, y) → m k = .some (b, y) := fun k b y hk e => by
    rw [ext1_ne hk] at e; exact e
  have hold3 : ∀ k, k ≠ h.nx → (h.add o).at k = h.at k := fun k hk => by rw [hat, if_neg hk]
  have hnc : ∀ k u, (h.add o).at k = .some u → isCell u = false → k ≠ h.nx := fun k u e c hk => by
    rw [hat, if_pos hk] at e
    cases e
    rw [hoc] at c; cases c
  refine ⟨⟨fun k u e ec => ?_, fun k k' b y y' e e' e1 e2 => ?_, fun k sz t b n e e1 => ?_, fun b vs s t e => ?_, fun k u b y e ec e1 => ?_, fun k y e => ?_, fun k b y e e1 => ?_, fun k y b e e1 => ?_⟩, ⟨hle, fun k e => ?_, fun k b y e e1 => ?_, fun k e => ?_, fun b hb _ _ => ⟨hold b hb, rfl⟩, fun k y b e e1 => ?_, fun _ _ _ => rfl, ?_, h1, h2, h3⟩⟩
  · rw [hat] at e
    split at e
    · rename_i hk
      cases e
      subst hk
      exact ⟨_, _, ext1_self, by rw [hnew]; exact ho⟩
    · obtain ⟨b, y, f1, f2⟩ := hr.obj k u e ec
      refine ⟨b, y, hle _ _ f1, ?_⟩
      rw [hold b (hr.lt k b y (by rw [e]; simp) f1)]
      exact f2.mono hle
  · by_cases hk : k = h.nx
    · by_cases hk' : k' = h.nx
      · rw [hk, hk']
      · subst hk
        rw [ext1_self] at e1
        cases e1
        have := hr.lt k' _ _ (by rw [← hold3 k' hk']; exact e') (hold2 _ _ _ hk' e2)
        omega
    · by_cases hk' : k' = h.nx
      · subst hk'
        rw [ext1_self] at e2
        cases e2
        have := hr.lt k _ _ (by rw [← hold3 k hk]; exact e) (hold2 _ _ _ hk e1)
        omega
      · exact hr.inj k k' b y y' (by rw [← hold3 k hk]; exact e) (by rw [← hold3 k' hk']; exact e') (hold2 _ _ _ hk e1) (hold2 _ _ _ hk' e2)
  · have hk := hnc k _ e rfl
    rw [hold3 k hk] at e
    exact hr.tok k sz t b n e (hold2 _ _ _ hk e1)
  · obtain ⟨c', fz, f1, f2⟩ := hr.kn b vs s t e
    exact ⟨c', fz, by rw [hold b (hr.klt e)]; exact f1, f2⟩
  · by_cases hk : k = h.nx
    · subst hk
      rw [ext1_self] at e1
      cases e1
      show m.kn w.heap.size = none
      cases hkn : m.kn w.heap.size with
      | none => rfl
      | some q => have := hr.klt hkn; omega
    · exact hr.apart k u b y (by rw [← hold3 k hk]; exact e) ec (hold2 _ _ _ hk e1)
  · have hk := hnc k _ e rfl
    rw [hold3 k hk] at e
    obtain ⟨hp, f1, f2⟩ := hr.ext k y e
    refine ⟨hp, f1, fun key r hkey => ?_⟩
    obtain ⟨g1, b, g2, g3⟩ := f2 key r hkey
    exact ⟨has_same g2 (hold b (hr.ter k y b e g3).1) g1, b, g2, g3⟩
  · by_cases hk : k = h.nx
    · subst hk; rw [ext1_self] at e1; cases e1; omega
    · have := hr.lt k b y (by rw [← hold3 k hk]; exact e) (hold2 _ _ _ hk e1)
      omega
  · have hk := hnc k _ e rfl
    rw [hold3 k hk] at e
    obtain ⟨q1, q2, q3, q4⟩ := hr.ter k y b e e1
    refine ⟨by omega, q2, fun k' x' f hne f2 => ?_, fun k' x' f hne f2 => ?_⟩
    · by_cases hk' : k' = h.nx
      · subst hk'; rw [ext1_self] at f2; cases f2; omega
      · exact q3 k' x' (by rw [← hold3 k' hk']; exact f) hne (hold2 _ _ _ hk' f2)
    · have hk' := hnc k' _ f rfl
      exact q4 k' x' (by rw [← hold3 k' hk']; exact f) hne f2
  · have : k = h.nx := by
      rcases Decidable.em (k = h.nx) with c | c
      · exact c
      · exact absurd (ext1_ne c) e
    subst this
    exact ⟨Nat.le_refl _, Nat.lt_succ_self _⟩
  · by_cases hk : k = h.nx
    · subst hk; rw [ext1_self] at e1; cases e1; exact .inr (Nat.le_refl _)
    · exact .inl ⟨k, y, by rw [← hold3 k hk]; exact e, hold2 _ _ _ hk e1⟩
  · by_cases hk : k = h.nx
    · subst hk; exact .inr ⟨Nat.le_refl _, Nat.lt_succ_self _⟩
    · exact .inl (by rw [← hold3 k hk]; exact e)
  · have hk := hnc k _ e rfl
    exact .inl ⟨k, y, by rw [← hold3 k hk]; exact e, e1⟩
  · omega

theorem set_ok (hr : Rep P m h.at w) {k b x : Nat} (hk : k < 1000000) {u0 : (Ob X)} (hin : h.at k = .some u0) (hu0 : isCell u0 = true) (hm : m k = .some (b, x)) {o : (Ob X)} {w' : World}
    (ho : RO P m x w'.heap[b]? o) (hw : ∀ b', b' ≠ b → w'.heap[b']? = w.heap[b']?) (hs : w'.heap.size = w.heap.size) (h1 : w'.os = w.os) (h2 : w'.tape = w.tape) (h3 : w'.output = w.output) :
    Rep P m (h.set k (.some o)).at w' ∧ Stp h.at m w (h.set k (.some o)).at m w' h.nx h.nx := by
  have hat := fun j => Hp.at_set (h := h) (o := .some o) hk j
  have hoc := ho.cell
  have hinn : h.at k ≠ none := by rw [hin]; simp
  have hne : ∀ j, (h.set k (.some o)).at j ≠ none → h.at j ≠ none := fun j e => by
    rw [hat] at e
    split at e
    · rename_i hj; subst hj; exact hinn
    · exact e
  have hnc : ∀ j u, (h.set k (.some o)).at j = .some u → isCell u = false → j ≠ k ∧ h.at j = .some u := fun j u e c => by
    rw [hat] at e
    split at e
    · cases e
      rw [hoc] at c; cases c
    · rename_i hj; exact ⟨hj, e⟩
  have hkn : ∀ b' q, m.kn b' = .some q → b' ≠ b := fun b' q e c => by
    subst c
    rw [hr.apart k u0 b' x hin hu0 hm] at e; cases e
  refine ⟨⟨fun j u e ec => ?_, fun j j' b' y y' e e' e1 e2 => hr.inj j j' b' y y' (hne j e) (hne j' e') e1 e2, fun j sz t b' n e e1 => hr.tok j sz t b' n (hnc j _ e rfl).2 e1, fun b' vs s t e => ?_, fun j u b' y e ec e1 => ?_, fun j y e => ?_, fun j b' y e e1 => by rw [hs]; exact hr.lt j b' y (hne j e) e1, fun j y b' e e1 => ?_⟩,
    ⟨m.le_refl, fun j e => absurd rfl e, fun j b' y e e1 => .inl ⟨j, y, hne j e, e1⟩, fun j e => .inl (hne j e), fun b' hb hn _ => ⟨?_, rfl⟩, fun j y b' e e1 => .inl ⟨j, y, (hnc j _ e rfl).2, e1⟩, fun _ _ _ => rfl, by omega, h1, h2, h3⟩⟩
  · rw [hat] at e
    split at e
    · rename_i hj
      cases e
      subst hj
      exact ⟨b, x, hm, ho⟩
    · rename_i hj
      obtain ⟨b', y, f1, f2⟩ := hr.obj j u e ec
      refine ⟨b', y, f1, ?_⟩
      rw [hw b' (fun c => hj (hr.inj j k b y x (by rw [e]; simp) hinn (by rw [← c]; exact f1) hm))]
      exact f2
  · obtain ⟨c', fz, f1, f2⟩ := hr.kn b' vs s t e
    exact ⟨c', fz, by rw [hw b' (hkn b' _ e)]; exact f1, f2⟩
  · rw [hat] at e
    split at e
    · rename_i hj
      subst hj
      rw [hm] at e1
      cases e1
      exact hr.apart j u0 b x hin hu0 hm
    · exact hr.apart j u b' y e ec e1
  · obtain ⟨hj, e⟩ := hnc j _ e rfl
    obtain ⟨hp, f1, f2⟩ := hr.ext j y e
    refine ⟨hp, f1, fun key r hkey => ?_⟩
    obtain ⟨g1, b', g2, g3⟩ := f2 key r hkey
    exact ⟨has_same g2 (hw b' (fun c => (hr.ter j y b' e g3).2.2.1 k x hinn hj.symm (by rw [c]; exact hm))) g1, b', g2, g3⟩
  · obtain ⟨hj, e⟩ := hnc j _ e rfl
    obtain ⟨q1, q2, q3, q4⟩ := hr.ter j y b' e e1
    exact ⟨by omega, q2, fun k' x' f hne2 f2 => q3 k' x' (hne _ f) hne2 f2, fun k' x' f hne2 f2 => q4 k' x' (hnc k' _ f rfl).2 hne2 f2⟩
  · exact hw b' (fun c => hn k x hinn (by rw [c]; exact hm))

/-! writing cells -/
theorem overl_len : ∀ (c : List Value) (n : Nat) (vs : List Value), n + vs.length ≤ c.length → (overl c n vs).length = c.length
  | c, 0, vs, e => by simp [overl]; omega
  | [], n + 1, vs, e => rfl
  | x :: c, n + 1, vs, e => by simp [overl]; exact overl_len c n vs (by simp at e; omega)
theorem RVs.overl : ∀ {c c' : List Value}, RVs m c c' → ∀ (n : Nat) {vs vs' : List Value}, RVs m vs vs' → RVs m (overl c n vs) (Ev.overl c' n vs')
  | c, c', r, 0, vs, vs', s => by
    cases c with
    | nil => cases r; simpa [Ev.overl] using s
    | cons x c =>
      cases r with
      | cons e r =>
        simp only [Ev.overl]
        rw [s.len]
        exact s.append ((RVs.cons e r).drop _)
  | _, _, .nil, n + 1, _, _, s => .nil
  | _, _, .cons e r, n + 1, _, _, s => .cons e (RVs.overl r n s)
theorem overl_cons_set : ∀ (c : List Value) (n : Nat) (v : Value) (vs : List Value), n < c.length → overl c n (v :: vs) = overl (c.set n v) (n + 1) vs
  | [], n, v, vs, e => by simp at e
  | x :: c, 0, v, vs, e => by simp [overl]
  | x :: c, n + 1, v, vs, e => by
    simp only [overl, List.set_cons_succ]
    rw [overl_cons_set c n v vs (by simpa using e)]
theorem overl_nil : ∀ (c : List Value) (n : Nat), overl c n [] = c
  | c, 0 => by simp [overl]
  | [], n + 1 => rfl
  | x :: c, n + 1 => by simp [overl, overl_nil c n]
theorem overl_append : ∀ (c d : List Value) (n : Nat) (vs : List Value), n + vs.length ≤ c.length → overl (c ++ d) n vs = overl c n vs ++ d
  | c, d, 0, vs, e => by
    simp only [overl]
    rw [List.drop_append_of_le_length (by omega), List.append_assoc]
  | [], d, n + 1, vs, e => by simp at e
  | x :: c, d, n + 1, vs, e => by
    simp only [List.cons_append, overl]
    rw [overl_append c d n vs (by simp at e; omega)]

/-- cells are written -/
theorem storeCells_run {b : Nat} {t : TypeId} {fz : Nat × Nat} (o : Nat) : ∀ (vs : List Value) (k : Nat) (c : Array Value) (w : World), w.heap[b]? = .some (.cells c t fz) → o + k + vs.length ≤ c.size → (∀ i, i < c.size → ¬ (fz.1 ≤ i ∧ i < fz.2)) → vs.all one = true →
    ∃ w', (storeCells ⟨b, o, none⟩ vs k).run P w = .ok () w' ∧ w'.heap[b]? = .some (.cells (overl c.toList (o + k) vs).toArray t fz) ∧ (∀ b', b' ≠ b → w'.heap[b']? = w.heap[b']?) ∧ w'.heap.size = w.heap.size ∧ w'.os = w.os ∧ w'.tape = w.tape ∧ w'.output = w.output
  | [], k, c, w, hb, hl, hf, h1 => by
    refine ⟨w, rfl, ?_, fun _ _ => rfl, rfl, rfl, rfl, rfl⟩
    rw [overl_nil, Array.toArray_toList]
    exact hb
  | v :: vs, k, c, w, hb, hl, hf, h1 => by
    simp only [List.all_cons, Bool.and_eq_true] at h1
    simp only [List.length_cons] at hl
    have hlt : o + k < c.size := by omega
    have hc : ∃ u, w.cell? ⟨b, o + k, none⟩ = .some u := ⟨c[o + k], cell_some hb (by simp [hlt])⟩
    obtain ⟨u, hu⟩ := hc
    have hfz : w.frozen? ⟨b, o + k, none⟩ = false := by
      have := hf (o + k) hlt
      simp only [World.frozen?, hb]
      rcases Decidable.em (fz.1 ≤ o + k) with a | a <;> rcases Decidable.em (o + k < fz.2) with b | b <;> simp_all
    let w1 := w.setCell ⟨b, o + k, none⟩ v
    have hb1 : w1.heap[b]? = .some (.cells (c.setIfInBounds (o + k) v) t fz) := by
      simp [w1, World.setCell, Array.getElem?_modify, hb]
    have hb2 : ∀ b', b' ≠ b → w1.heap[b']? = w.heap[b']? := fun b' e => by
      simp only [w1, World.setCell, Array.getElem?_modify]
      rw [if_neg (fun c => e c.symm)]
    obtain ⟨w', r1, r2, r3, r4, r5, r6, r7⟩ := storeCells_run o vs (k + 1) (c.setIfInBounds (o + k) v) w1 hb1 (by simp; omega) (by simpa using hf) h1.2
    refine ⟨w', ?_, ?_, fun b' e => by rw [r3 b' e, hb2 b' e], by rw [r4]; simp [w1, World.setCell], r5, r6, r7⟩
    · have hst : (store (⟨b, o + k, none⟩ : Addr) v).run P w = .ok () w1 := by
        have hv := h1.1
        cases v <;> first | (simp [one] at hv; done) | simp [store, Sem.run, hu, hfz, w1]
      unfold storeCells
      simp only [Addr.add_none, Sem.run_bind, hst, Result.andThen_ok, r1]
    · rw [r2, Array.toList_setIfInBounds, overl_cons_set _ _ _ _ (by simpa using hlt)]
      rfl

theorem wr_ok (hr : Rep P m h.at w) {k off b x : Nat} {vs vs' : List Value} {h' : (Hp X)} (e : wr h k off vs = .some h') (hm : m k = .some (b, x)) (hv : RVs m vs vs') :
    ∃ w', (storeCells ⟨b, off, none⟩ vs').run P w = .ok () w' ∧ Rep P m h'.at w' ∧ Stp h.at m w h'.at m w' h.nx h'.nx ∧ h'.nx = h.nx := by
  rw [wr_eq] at e
  split at e
  · rename_i c t ex hk
    cases hb : (Nat.blt k 1000000 && Nat.ble (off + vs.length) c.length && vs.all one) with
    | false => rw [hb] at e; cases e
    | true =>
      rw [hb] at e
      cases e
      simp only [Bool.and_eq_true] at hb
      have hk1 := Nat.blt_eq.mp hb.1.1
      have hle := Nat.le_of_ble_eq_true hb.1.2
      obtain ⟨c', fz, h1, h2F, h3, h4, h5⟩ := hr.cellsF hk hm
      have h2 := h2F.free
      have hl := hv.len
      obtain ⟨w', r1, r2, r3, r4, r5, r6, r7⟩ := storeCells_run (P := P) off vs' 0 c' w h1 (by omega) h2 (by rw [hv.ones]; exact hb.2)
      have hsp : c'.toList = c'.toList.take c.length ++ c'.toList.drop c.length := (List.take_append_drop _ _).symm
      have hl2 : (c'.toList.take c.length).length = c.length := by simp; omega
      have hov : overl c'.toList (off + 0) vs' = overl (c'.toList.take c.length) off vs' ++ c'.toList.drop c.length := by
        conv => lhs; rw [hsp]
        exact overl_append _ _ _ _ (by omega)
      have hro : RO P m x w'.heap[b]? (.cells (overl c off vs) t ex : (Ob X)) := by
        refine ⟨(overl c'.toList (off + 0) vs').toArray, fz, r2, ?_, ?_, ⟨_, ?_, rfl⟩, h5⟩
        · have hsz : (overl c'.toList (off + 0) vs').toArray.size = c'.size := by
            rw [hov]
            simp only [List.size_toArray, List.length_append, overl_len _ _ _ (show off + vs'.length ≤ (c'.toList.take c.length).length by omega), hl2]
            simp; omega
          rw [hsz]
          exact h2F
        · rw [hov, overl_len _ _ _ hle]
          simp only [List.size_toArray, List.length_append, overl_len _ _ _ (show off + vs'.length ≤ (c'.toList.take c.length).length by omega), hl2]
          simp; omega
        · rw [overl_len _ _ _ hle, hov]
          have : (overl (c'.toList.take c.length) off vs').length = c.length := by rw [overl_len _ _ _ (by omega), hl2]
          simp only [List.toList_toArray]
          rw [List.take_append_of_le_length (by omega), List.take_of_length_le (by omega)]
          exact h4.overl off hv
      obtain ⟨s1, s2⟩ := set_ok hr hk1 hk rfl hm hro r3 r4 r5 r6 r7
      exact ⟨w', r1, s1, s2, rfl⟩
  · cases e

/-- what is to hold of an operation's run -/
def OutOk (P : Program) (m : Mp) (h : (Hp X)) (w : World) (r : Result Next) : (Out X) → Prop
  | .val v h' => ∃ v' w' m', (r = .ok (.value v') w' ∨ (r = .ok .skip w' ∧ v' = undef)) ∧ RV m' v v' ∧ Rep P m' h'.at w' ∧ Stp h.at m w h'.at m' w' h.nx h'.nx ∧ h.nx ≤ h'.nx
  | .call f args => ∃ args', RVs m args args' ∧ r = (callFunc f args'.toArray).run P w
  | .defer f args cap => ∃ args' cap', RVs m args args' ∧ RVs m cap cap' ∧ r = .ok (.defer ⟨.fn (.func f) cap'.toArray, args'.toArray⟩) w
  | .panic t v => ∃ v', RV m v v' ∧ r = .halt (.panic (.iface t v')) w

theorem new_ok (hr : Rep P m h.at w) (hn : m h.nx = none) {c : List Value} {t : TypeId} {ex : Bool} {v : Value} {out : (Out X)} (e : new h c t ex v = .some out) {c' : Array Value} {fz : Nat × Nat} {x : Nat}
    (hc : RVs m c (c'.toList.take c.length)) (hs : c'.size = c.length + x * esz P t) (hf : Fz fz c'.size) (hx : ex = true → x = 0 ∧ fz = (0, 0)) {w' : World} (hw : w'.heap = w.heap.push (.cells c' t fz)) (h1 : w'.os = w.os) (h2 : w'.tape = w.tape) (h3 : w'.output = w.output) :
    ∃ h', out = .val v h' ∧ h'.nx = h.nx + 1 ∧ ext1 m h.nx w.heap.size x h.nx = .some (w.heap.size, x) ∧ Rep P (ext1 m h.nx w.heap.size x) h'.at w' ∧ Stp h.at m w h'.at (ext1 m h.nx w.heap.size x) w' h.nx h'.nx := by
  unfold new at e
  cases hroom : roomy h with
  | false => rw [hroom] at e; cases e
  | true =>
    rw [hroom] at e
    cases e
    obtain ⟨a, b⟩ := add_ok hr hn hroom (o := .cells c t ex) (x := x) ⟨c', fz, rfl, hf, hs, ⟨_, hc.mono (ext1_le hn), rfl⟩, hx⟩ hw h1 h2 h3
    exact ⟨_, rfl, rfl, ext1_self, a, b⟩
end
end Go.Ev
