/-
  A run reckoned out: ranges.Normal told by its contract (the contract itself is a premise).
-/
import Derived.Test.YtjclpdlijblpjaaGreatEvs
namespace Go.Ev
set_option linter.unusedVariables false
set_option linter.unusedSimpArgs false

/-- what Normal does to rows: those that aren't empty, sorted by their beginnings, joined -/
noncomputable def keepR : List (Int × Int) → List (Int × Int)
  | [] => []
  | p :: l => match decide (max p.1 0 < p.2) with
    | true => (max p.1 0, p.2) :: keepR l
    | false => keepR l
noncomputable def putR (r : Int × Int) : List (Int × Int) → List (Int × Int)
  | [] => [r]
  | [p] => match decide (r.1 ≤ p.2) with
    | true => [(p.1, max p.2 r.2)]
    | false => [p, r]
  | p :: q :: l => p :: putR r (q :: l)
noncomputable def joinR : List (Int × Int) → List (Int × Int) → List (Int × Int)
  | out, [] => out
  | out, r :: l => joinR (putR r out) l
noncomputable def sortR (l : List (Int × Int)) : List (Int × Int) := (insO (l.length - 1) 1 l.toArray).toList
noncomputable def normR (l : List (Int × Int)) : List (Int × Int) := joinR [] (sortR (keepR l))

/-- new rows in the world behind a call: nil where there are none -/
def RowsNew (t : TypeId) (w w' : World) (v : Value) (rows : List (Int × Int)) : Prop :=
  (∀ b, b < w.heap.size → w'.heap[b]? = w.heap[b]?) ∧ w.heap.size ≤ w'.heap.size ∧ w'.os = w.os ∧ w'.tape = w.tape ∧ w'.output = w.output ∧
  ((rows = [] ∧ v = .slice none 0 0) ∨
   (rows ≠ [] ∧ ∃ b x c', w.heap.size ≤ b ∧ v = .slice (some ⟨b, 0, none⟩) rows.length (rows.length + x) ∧ w'.heap[b]? = some (.cells c' t (0, 0)) ∧ c'.size = rows.length * 2 + x * 2 ∧ c'.toList.take (rows.length * 2) = flatP rows))

section
variable {P : Program} {m : Mp} {h : Hp} {w : World}
theorem add_at (hr : Rep P m h.at w) (hf : ∀ k, h.nx ≤ k → m k = none) (hroom : roomy h = true) {o : Ob} {b x : Nat} {w' : World} (hb : w.heap.size ≤ b) (hold : ∀ b', b' < w.heap.size → w'.heap[b']? = w.heap[b']?)
    (hsz : w.heap.size ≤ w'.heap.size) (ho : RO P (ext1 m h.nx b x) x w'.heap[b]? o) (h1 : w'.os = w.os) (h2 : w'.tape = w.tape) (h3 : w'.output = w.output) :
    Rep P (ext1 m h.nx b x) (h.add o).at w' ∧ Stp h.at m w (h.add o).at (ext1 m h.nx b x) w' h.nx (h.add o).nx := by
  have hn := hf h.nx (Nat.le_refl _)
  have hle := ext1_le (b := b) (x := x) hn
  have hat := fun k => Hp.at_add (h := h) (o := o) hroom k
  have hold2 : ∀ k b' y, k ≠ h.nx → ext1 m h.nx b x k = .some (b', y) → m k = .some (b', y) := fun k b' y hk e => by
    unfold ext1 at e; rw [if_neg hk] at e; exact e
  have hold3 : ∀ k, k ≠ h.nx → (h.add o).at k = h.at k := fun k hk => by rw [hat, if_neg hk]
  refine ⟨⟨fun k u e => ?_, fun k k' b' y y' e e' e1 e2 => ?_⟩, ⟨hle, fun k e => ?_, fun k b' y e e1 => ?_, fun k e => ?_, fun b' hb' _ => hold b' hb', hsz, h1, h2, h3⟩⟩
  · rw [hat] at e
    split at e
    · rename_i hk
      cases e
      subst hk
      exact ⟨_, _, ext1_self, ho⟩
    · obtain ⟨b', y, f1, f2⟩ := hr.obj k u e
      refine ⟨b', y, hle _ _ f1, ?_⟩
      rw [hold b' (hr.lt (by rw [e]; simp) f1)]
      exact f2.mono hle
  · by_cases hk : k = h.nx
    · by_cases hk' : k' = h.nx
      · rw [hk, hk']
      · subst hk
        rw [ext1_self] at e1
        cases e1
        have := hr.lt (by rw [← hold3 k' hk']; exact e') (hold2 _ _ _ hk' e2)
        omega
    · by_cases hk' : k' = h.nx
      · subst hk'
        rw [ext1_self] at e2
        cases e2
        have := hr.lt (by rw [← hold3 k hk]; exact e) (hold2 _ _ _ hk e1)
        omega
      · exact hr.inj k k' b' y y' (by rw [← hold3 k hk]; exact e) (by rw [← hold3 k' hk']; exact e') (hold2 _ _ _ hk e1) (hold2 _ _ _ hk' e2)
  · have : k = h.nx := by
      rcases Decidable.em (k = h.nx) with c | c
      · exact c
      · exact absurd (by unfold ext1; rw [if_neg c]) e
    subst this
    exact ⟨Nat.le_refl _, Nat.lt_succ_self _⟩
  · by_cases hk : k = h.nx
    · subst hk; rw [ext1_self] at e1; cases e1; exact .inr hb
    · exact .inl ⟨k, y, by rw [← hold3 k hk]; exact e, hold2 _ _ _ hk e1⟩
  · by_cases hk : k = h.nx
    · subst hk; exact .inr ⟨Nat.le_refl _, Nat.lt_succ_self _⟩
    · exact .inl (by rw [← hold3 k hk]; exact e)
theorem ext1_fresh (hf : ∀ k, h.nx ≤ k → m k = none) (o : Ob) {b x : Nat} : ∀ k, (h.add o).nx ≤ k → ext1 m h.nx b x k = none := fun k hk => by
  have hk' : h.nx + 1 ≤ k := hk
  unfold ext1
  rw [if_neg (by omega)]
  exact hf k (by omega)
end

noncomputable def hkNorm (f t : Nat) : Hk := fun g args h => bif Nat.beq g f then (match args with
  | [.slice (some a) n _] => bif Nat.ble n 12 && roomy h then (match rd h a.block a.off (n * 2) with
    | some l => match toP l with
      | some r => match normR r with
        | [] => some (.ret (.slice none 0 0) h)
        | p :: q => some (.ret (.slice (some ⟨h.nx, 0, none⟩) (p :: q).length (p :: q).length) (h.add (.cells (flatP (p :: q)) t false)))
      | none => none
    | none => none) else none
  | _ => none) else none

/-- the rows lie in the world at a slice -/
def RowsAt (w : World) (v : Value) (rows : List (Int × Int)) : Prop :=
  ∃ b off c, v = .slice (some ⟨b, off, none⟩) rows.length c ∧ ∀ j u, (flatP rows)[j]? = some u → w.cell? ⟨b, off + j, none⟩ = some u

theorem hkNorm_ok {P : Program} {f t : Nat} (hc : ∀ args w, (callFunc f args).run P w = .ok (.enter f args) w) (hsz : esz P t = 2)
    (h1 : ∀ (v : Value) (rows : List (Int × Int)) (w : World), rows.length ≤ 12 → RowsAt w v rows →
      Calls P f #[v] w fun e w' => ∃ v', e = .returned v' ∧ RowsNew t w w' v' (normR rows)) : HkOk P (hkNorm f t) := by
  intro g args h r e m w args' hr hf ha
  unfold hkNorm at e
  cases hb : Nat.beq g f with
  | false => rw [hb] at e; cases e
  | true =>
    rw [hb, cond_true] at e
    obtain rfl := Nat.eq_of_beq_eq_true hb
    refine ⟨hc _ _, ?_⟩
    split at e
    · rename_i a n c
      cases hb2 : (Nat.ble n 12 && roomy h) with
      | false => rw [hb2] at e; cases e
      | true =>
        rw [hb2, cond_true] at e
        simp only [Bool.and_eq_true] at hb2
        have hn := Nat.le_of_ble_eq_true hb2.1
        have hroom := hb2.2
        split at e
        · rename_i l hl
          split at e
          · rename_i rows hrows
            cases ha with
            | cons r1 r2 =>
              cases r2
              obtain ⟨b, q, hq, rfl, hm⟩ := r1.slice_inv
              obtain ⟨l3, g1, g2, g3, _⟩ := rd_ok hr hl hm
              have hl := toP_ok hrows
              subst hl
              have hl3 : l3 = flatP rows := scalL g1 (flatP_scal _)
              subst hl3
              have hlen : rows.length = n := by rw [flatP_len] at g2; omega
              have hat : RowsAt w (.slice (some ⟨b, a.off, none⟩) n (c + q)) rows := ⟨b, a.off, c + q, by rw [hlen], fun j u hj => by
                have := g3 j u hj
                rw [Addr.add_none] at this
                exact this⟩
              refine (h1 _ rows w (by omega) hat).mono ?_
              rintro en w' ⟨v', rfl, z1, z2, z3, z4, z5, z6⟩
              have st0 : Rep P m h.at w' ∧ Stp h.at m w h.at m w' h.nx h.nx := by
                refine ⟨⟨fun k o e => ?_, hr.inj⟩, ⟨m.le_refl, fun k e => absurd rfl e, fun k b x e e1 => .inl ⟨k, x, e, e1⟩, fun k e => .inl e, fun b hb _ => z1 b hb, z2, z3, z4, z5⟩⟩
                obtain ⟨b, x, f1, f2⟩ := hr.obj k o e
                exact ⟨b, x, f1, by rw [z1 b (hr.lt (by rw [e]; simp) f1)]; exact f2⟩
              split at e
              · rename_i hnil
                cases e
                rcases z6 with ⟨_, rfl⟩ | ⟨hne, _⟩
                · exact ⟨m, _, rfl, .scal rfl, st0.1, hf, st0.2, Nat.le_refl _⟩
                · exact absurd hnil hne
              · rename_i p ps hcons
                cases e
                rw [hcons] at z6
                rcases z6 with ⟨hno, _⟩ | ⟨_, b', x, c', y1, rfl, y3, y4, y5⟩
                · cases hno
                · have hfl : (flatP (p :: ps)).length = (p :: ps).length * 2 := flatP_len _
                  obtain ⟨s1, s2⟩ := add_at hr hf hroom (o := .cells (flatP (p :: ps)) t false) (b := b') (x := x) (w' := w') y1 z1 z2
                    ⟨c', (0, 0), y3, .inl rfl, by rw [y4, hfl, hsz], ⟨_, by rw [hfl, y5]; exact RVs.scal (flatP_scal _), rfl⟩, fun c => by cases c⟩ z3 z4 z5
                  exact ⟨_, _, rfl, .slice ext1_self, s1, ext1_fresh hf _, s2, Nat.le_succ _⟩
          · cases e
        · cases e
    · cases e
end Go.Ev
