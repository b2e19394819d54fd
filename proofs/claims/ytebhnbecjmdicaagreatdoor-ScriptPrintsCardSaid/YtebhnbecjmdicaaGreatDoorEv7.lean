/-
  A run reckoned out: append, copy, maps that are written.
-/
import Derived.Test.YtebhnbecjmdicaaGreatDoorEv6
namespace Go.Ev
set_option linter.unusedVariables false
set_option linter.unusedSimpArgs false
set_option linter.unusedSectionVars false
variable {X : Type} [ExtA X]
section
variable {P : Program} {T : Tb} {m : Mp} {h : (Hp X)} {w : World}

/-- what is to hold of a run that gives a value -/
def ValOk (P : Program) (m : Mp) (h : (Hp X)) (w : World) (s : Sem Value) : (Out X) → Prop
  | .val v h' => ∃ v' w' m', s.run P w = .ok v' w' ∧ RV m' v v' ∧ Rep P m' h'.at w' ∧ Stp h.at m w h'.at m' w' h.nx h'.nx ∧ h.nx ≤ h'.nx
  | _ => False

theorem move_ok (hr : Rep P m h.at w) (hn : m h.nx = none) (hroom : roomy h = true) {k b x x' : Nat} (hk : k < 1000000) {u0 : (Ob X)} (hin : h.at k = .some u0) (hu0 : isCell u0 = true) (hm : m k = .some (b, x)) {o : (Ob X)} {w' : World}
    (ho : RO P (ext1 m h.nx b x') x' w'.heap[b]? o) (hw : ∀ b', b' ≠ b → w'.heap[b']? = w.heap[b']?) (hs : w'.heap.size = w.heap.size) (h1 : w'.os = w.os) (h2 : w'.tape = w.tape) (h3 : w'.output = w.output) :
    Rep P (ext1 m h.nx b x') ((h.set k none).add o).at w' ∧ Stp h.at m w ((h.set k none).add o).at (ext1 m h.nx b x') w' h.nx (h.nx + 1) := by
  have hle := ext1_le (b := b) (x := x') hn
  have hoc := ho.cell
  have hinn : h.at k ≠ none := by rw [hin]; simp
  have hat : ∀ j, ((h.set k none).add o).at j = if j = h.nx then .some o else if j = k then none else h.at j := fun j => by
    have := Hp.at_add (h := h.set k none) (o := o) hroom j
    rw [this, Hp.at_set hk]
    rfl
  have hold2 : ∀ j b' y, j ≠ h.nx → ext1 m h.nx b x' j = .some (b', y) → m j = .some (b', y) := fun j b' y hj e => by
    rw [ext1_ne hj] at e; exact e
  have hold4 : ∀ j u, j ≠ h.nx → ((h.set k none).add o).at j = .some u → h.at j = .some u ∧ j ≠ k := fun j u hj e => by
    rw [hat, if_neg hj] at e
    by_cases hjk : j = k
    · rw [if_pos hjk] at e; cases e
    · rw [if_neg hjk] at e; exact ⟨e, hjk⟩
  have hold3 : ∀ j, j ≠ h.nx → ((h.set k none).add o).at j ≠ none → h.at j ≠ none ∧ j ≠ k := fun j hj e => by
    obtain ⟨u, hu⟩ := Option.ne_none_iff_exists'.1 e
    obtain ⟨g1, g2⟩ := hold4 j u hj hu
    exact ⟨by rw [g1]; simp, g2⟩
  have hnc : ∀ j u, ((h.set k none).add o).at j = .some u → isCell u = false → h.at j = .some u ∧ j ≠ k ∧ j ≠ h.nx := fun j u e c => by
    by_cases hj : j = h.nx
    · rw [hat, if_pos hj] at e
      cases e
      rw [hoc] at c; cases c
    · obtain ⟨g1, g2⟩ := hold4 j u hj e
      exact ⟨g1, g2, hj⟩
  have hkn : ∀ b' q, m.kn b' = .some q → b' ≠ b := fun b' q e c => by
    subst c
    rw [hr.apart k u0 b' x hin hu0 hm] at e; cases e
  have hbs := hr.lt k b x hinn hm
  refine ⟨⟨fun j u e ec => ?_, fun j j' b' y y' e e' e1 e2 => ?_, fun j sz t b' n e e1 => ?_, fun b' vs s t e => ?_, fun j u b' y e ec e1 => ?_, fun j y e => ?_, fun j b' y e e1 => ?_, fun j y b' e e1 => ?_⟩,
    ⟨hle, fun j e => ?_, fun j b' y e e1 => ?_, fun j e => ?_, fun b' hb hnn _ => ⟨?_, rfl⟩, fun j y b' e e1 => .inl ⟨j, y, (hnc j _ e rfl).1, e1⟩, fun _ _ _ => rfl, by omega, h1, h2, h3⟩⟩
  · by_cases hj : j = h.nx
    · rw [hat, if_pos hj] at e
      cases e
      subst hj
      exact ⟨b, x', ext1_self, ho⟩
    · obtain ⟨e, g2⟩ := hold4 j u hj e
      obtain ⟨b', y, f1, f2⟩ := hr.obj j u e ec
      refine ⟨b', y, hle _ _ f1, ?_⟩
      rw [hw b' (fun c => g2 (hr.inj j k b y x (by rw [e]; simp) hinn (by rw [← c]; exact f1) hm))]
      exact f2.mono hle
  · by_cases hj : j = h.nx
    · by_cases hj' : j' = h.nx
      · rw [hj, hj']
      · subst hj
        rw [ext1_self] at e1
        cases e1
        obtain ⟨g1, g2⟩ := hold3 j' hj' e'
        exact absurd (hr.inj j' k b y' x g1 hinn (hold2 _ _ _ hj' e2) hm) g2
    · by_cases hj' : j' = h.nx
      · subst hj'
        rw [ext1_self] at e2
        cases e2
        obtain ⟨g1, g2⟩ := hold3 j hj e
        exact absurd (hr.inj j k b y x g1 hinn (hold2 _ _ _ hj e1) hm) g2
      · exact hr.inj j j' b' y y' (hold3 j hj e).1 (hold3 j' hj' e').1 (hold2 _ _ _ hj e1) (hold2 _ _ _ hj' e2)
  · obtain ⟨g1, g2, g3⟩ := hnc j _ e rfl
    exact hr.tok j sz t b' n g1 (hold2 _ _ _ g3 e1)
  · obtain ⟨c', fz, f1, f2⟩ := hr.kn b' vs s t e
    exact ⟨c', fz, by rw [hw b' (hkn b' _ e)]; exact f1, f2⟩
  · by_cases hj : j = h.nx
    · subst hj
      rw [ext1_self] at e1
      cases e1
      exact hr.apart k u0 b x hin hu0 hm
    · exact hr.apart j u b' y (hold4 j u hj e).1 ec (hold2 _ _ _ hj e1)
  · obtain ⟨g1, g2, g3⟩ := hnc j _ e rfl
    obtain ⟨hp, f1, f2⟩ := hr.ext j y g1
    refine ⟨hp, f1, fun key r hkey => ?_⟩
    obtain ⟨q1, b', q2, q3⟩ := f2 key r hkey
    exact ⟨has_same q2 (hw b' (fun c => (hr.ter j y b' g1 q3).2.2.1 k x hinn g2.symm (by rw [c]; exact hm))) q1, b', q2, q3⟩
  · by_cases hj : j = h.nx
    · subst hj; rw [ext1_self] at e1; cases e1; omega
    · have := hr.lt j b' y (hold3 j hj e).1 (hold2 _ _ _ hj e1)
      omega
  · obtain ⟨g1, g2, g3⟩ := hnc j _ e rfl
    obtain ⟨q1, q2, q3, q4⟩ := hr.ter j y b' g1 e1
    refine ⟨by omega, q2, fun k' x' f hne f2 => ?_, fun k' x' f hne f2 => q4 k' x' (hnc k' _ f rfl).1 hne f2⟩
    by_cases hk' : k' = h.nx
    · subst hk'
      rw [ext1_self] at f2
      cases f2
      exact q3 k x hinn g2.symm hm
    · exact q3 k' x' (hold3 k' hk' f).1 hne (hold2 _ _ _ hk' f2)
  · have : j = h.nx := by
      rcases Decidable.em (j = h.nx) with c | c
      · exact c
      · exact absurd (ext1_ne c) e
    omega
  · by_cases hj : j = h.nx
    · subst hj
      rw [ext1_self] at e1
      cases e1
      exact .inl ⟨k, x, hinn, hm⟩
    · exact .inl ⟨j, y, (hold3 j hj e).1, hold2 _ _ _ hj e1⟩
  · by_cases hj : j = h.nx
    · exact .inr (by omega)
    · exact .inl (hold3 j hj e).1
  · exact hw b' (fun c => hnn k x hinn (by rw [c]; exact hm))

theorem overl_end : ∀ (a vs r : List Value), vs.length ≤ r.length → overl (a ++ r) a.length vs = a ++ (vs ++ r.drop vs.length)
  | [], vs, r, h => by simp [overl]
  | x :: a, vs, r, h => by simp [overl, overl_end a vs r h]

theorem apnd_ok (hT : TbOk P T) (hr : Rep P m h.at w) (hn : m h.nx = none) {ts : Array TypeId} {ty : TypeId} {s s' x x' : Value} {out : (Out X)} (e : apnd T h ts.toList s x = .some out) (hs : RV m s s') (hx : RV m x x') :
    ValOk P m h w (Builtin.append_ ts ty #[s', x']) out := by
  rw [apnd_eq] at e
  split at e
  · rename_i t tx hts
    have hts' : ts = #[t, tx] := by apply Array.ext'; rw [hts]
    subst hts'
    split at e
    · rename_i i1 el i2 dx ht htx
      · split at e
        · rename_i ti d2 z ht2 hz
          have hut := (hT.ok _ _ _ ht).2
          have hutx := (hT.ok _ _ _ htx).2
          have hinf := (hT.ok _ _ _ ht2).1
          have hesz : esz P el = ti.size := hT.esz ht2
          have hz' : ti.zero = .some z ∧ plain z = true := by
            unfold zerov at hz
            rw [ht2] at hz
            simp only at hz
            split at hz
            · rename_i z' hz'
              cases hp : plain z' with
              | true => rw [hp] at hz; cases hz; exact ⟨hz', hp⟩
              | false => rw [hp] at hz; cases hz
            · cases hz
          split at e
          · rename_i n news base l c hsrc
            cases hcond : (!(news.all one) || !(Nat.blt 0 ti.size) || !(Nat.beq z.cells.size ti.size) || !(Nat.blt (l + n) 1000000) || !(Nat.blt ti.bytes 1000000) || !(Nat.beq news.length (n * ti.size))) with
            | true => rw [hcond] at e; cases e
            | false =>
              rw [hcond, cond_false] at e
              simp only [Bool.or_eq_false_iff, Bool.not_eq_false', Nat.blt_eq] at hcond
              obtain ⟨⟨⟨⟨⟨h1, h2⟩, h3⟩, h4⟩, h5⟩, h6⟩ := hcond
              have h6' := Nat.eq_of_beq_eq_true h6
              have h3' := Nat.eq_of_beq_eq_true h3
              obtain ⟨news', n1, n2, n3, n4⟩ := srcA_ok (ty := ty) hr hut hutx hinf hz'.1 hz'.2 h3' h2 h5 hsrc hx
              have hrepl : ∀ q, (rep z.cells.toList q).length = q * ti.size := fun q => by rw [rep_len, Array.length_toList, h3']
              -- growth to a new row
              have grow : ∀ (h0 : (Hp X)) (hr0 : Rep P m h0.at w) (hnx : h0.nx = h.nx) (st0 : Stp h.at m w h0.at m w h.nx h.nx) (base' : Option Addr) (c' : Nat) (olds olds' : List Value), RVs m olds olds' →
                  (∀ w1 : World, w1.heap = w.heap → (Builtin.firstCells ti.size l (.slice base' l c')).run P w1 = .ok olds'.toArray w1) → ¬ l + n ≤ c' →
                  new h0 (olds ++ news) el false (.slice (.some ⟨h.nx, 0, none⟩) (l + n) (l + n)) = .some out → ValOk P m h w (Builtin.append_ #[t, tx] ty #[.slice base' l c', x']) out := by
                intro h0 hr0 hnx st0 base' c' olds olds' ro hold hc he
                obtain ⟨q, w1, a1, a2, a3, a4, a5⟩ := n3 hold hc h4
                have hn0 : m h0.nx = none := by rw [hnx]; exact hn
                have hlen1 := ro.len
                have hlen2 := n1.len
                obtain ⟨h', b1, b2, b3, b4, b5⟩ := new_ok hr0 hn0 he (c' := olds'.toArray ++ news'.toArray ++ (rep z.cells.toList q).toArray) (fz := (0, 0)) (x := q) (by
                    simp only [Array.toList_append, List.toList_toArray]
                    rw [List.take_append_of_le_length (by simp; omega), take_self _ (by simp; omega)]
                    exact ro.append n1) (by simp [hrepl, hesz]; omega) (nofz _) (fun c => by cases c) (w' := w1.alloc (.cells (olds'.toArray ++ news'.toArray ++ (rep z.cells.toList q).toArray) el)) (by simp [World.alloc, a1]) a2 a3 a4
                subst b1
                rw [hnx] at b2 b3 b4 b5
                refine ⟨_, _, _, a5, ?_, b4, ?_, by omega⟩
                · exact .slice b3
                · exact st0.trans b5 (Nat.le_refl _) (by omega)
              cases base with
              | none =>
                cases hs.slice_none
                simp only at e
                cases hlc : (Nat.beq l 0 && Nat.beq c 0) with
                | false => rw [hlc] at e; cases e
                | true =>
                  rw [hlc] at e
                  simp only [Bool.and_eq_true] at hlc
                  obtain rfl := Nat.eq_of_beq_eq_true hlc.1
                  obtain rfl := Nat.eq_of_beq_eq_true hlc.2
                  simp only [Bool.not_true, cond_false] at e
                  cases hn0 : Nat.beq n 0 with
                  | true =>
                    rw [hn0] at e
                    cases e
                    obtain rfl := Nat.eq_of_beq_eq_true hn0
                    refine ⟨.slice none 0 0, w, m, ?_, .scal rfl, hr, Stp.refl _ _ _ _ _, Nat.le_refl _⟩
                    exact n4 (Nat.le_refl _) rfl
                  | false =>
                    rw [hn0, cond_false] at e
                    have hnp : n ≠ 0 := fun c => by rw [c] at hn0; cases hn0
                    have e2 : new h ([] ++ news) el false (.slice (.some ⟨h.nx, 0, none⟩) (0 + n) (0 + n)) = .some out := by rw [Nat.zero_add, List.nil_append]; exact e
                    exact grow h hr rfl (Stp.refl _ _ _ _ _) none 0 [] [] .nil (fun w1 _ => rfl) (by omega) e2
              | some a =>
                obtain ⟨b, y, ha, rfl, hm⟩ := hs.slice_inv
                simp only at e
                cases hle : Nat.ble (l + n) c with
                | true =>
                  rw [hle, cond_true] at e
                  have hle' := Nat.le_of_ble_eq_true hle
                  split at e
                  · rename_i h' hw'
                    cases e
                    obtain ⟨w', r1, r2, r3, r4⟩ := wr_ok hr hw' hm n1
                    refine ⟨.slice (.some ⟨b, a.off, none⟩) (l + n) (c + y), w', m, ?_, ?_, r2, r3, by omega⟩
                    · refine n4 (by omega) ?_
                      show (storeCells ((⟨b, a.off, none⟩ : Addr).add (l * ti.size)) news').run P w = _
                      rw [Addr.add_none]
                      exact r1
                    · rw [ha]; exact .slice hm
                  · cases e
                | false =>
                  rw [hle, cond_false] at e
                  have hgt : ¬ l + n ≤ c := fun c1 => by rw [Nat.ble_eq_true_of_le c1] at hle; cases hle
                  split at e
                  · rename_i cs u hk
                    split at e
                    · rename_i old hold
                      obtain ⟨c', fz, _, _, _, _, hx0⟩ := hr.cells hk hm
                      obtain ⟨rfl, rfl⟩ := hx0 rfl
                      obtain ⟨old', o1, o2, o3, _⟩ := rd_ok hr hold hm
                      refine grow h hr rfl (Stp.refl _ _ _ _ _) (.some ⟨b, a.off, none⟩) (c + 0) old old' o1 (fun w1 hw => ?_) (by omega) e
                      have hcell : ∀ a, w1.cell? a = w.cell? a := fun a => by simp [World.cell?, hw]
                      have := run_loadCells_list (P := P) (w := w1) ⟨b, a.off, none⟩ old' (fun j v hj => by rw [hcell]; exact o3 j v hj)
                      rw [o2] at this
                      exact this
                    · cases e
                  · rename_i cs u hk
                    cases hcd : (Nat.blt a.block 1000000 && Nat.beq a.off 0 && Nat.beq l c && Nat.beq cs.length (c * ti.size) && Nat.beq u el) with
                    | false => rw [hcd] at e; cases e
                    | true =>
                      rw [hcd, cond_true] at e
                      simp only [Bool.and_eq_true, Nat.blt_eq] at hcd
                      obtain ⟨⟨⟨⟨d1, d2⟩, d3⟩, d4⟩, d5⟩ := hcd
                      have d2' := Nat.eq_of_beq_eq_true d2
                      obtain rfl := Nat.eq_of_beq_eq_true d3
                      have d4' := Nat.eq_of_beq_eq_true d4
                      obtain rfl := Nat.eq_of_beq_eq_true d5
                      rw [d2']
                      obtain ⟨c', fz, q1, q2F, q3, q4, _⟩ := hr.cellsF hk hm
                      have q2 := q2F.free
                      rw [hesz] at q3
                      by_cases hfit : l + n ≤ l + y
                      · -- there is room behind it
                        have hnl : news'.length = n * ti.size := by omega
                        have hyn : n * ti.size ≤ y * ti.size := Nat.mul_le_mul_right _ (by omega)
                        obtain ⟨w', r1, r2, r3, r4, r5, r6, r7⟩ := storeCells_run (P := P) (l * ti.size) news' 0 c' w q1 (by omega) q2 (by rw [n1.ones]; exact h1)
                        have hroom : roomy h = true := by
                          unfold new at e
                          cases hro : roomy (h.set a.block none) with
                          | true => exact hro
                          | false => rw [hro] at e; cases e
                        have eout : out = .val (.slice (.some ⟨h.nx, 0, none⟩) (l + n) (l + n)) ((h.set a.block none).add (.cells (cs ++ news) u false)) := by
                          unfold new at e
                          rw [show roomy (h.set a.block none) = roomy h from rfl, hroom] at e
                          cases e
                          rfl
                        subst eout
                        have hsp : c'.toList = c'.toList.take cs.length ++ c'.toList.drop cs.length := (List.take_append_drop _ _).symm
                        have hl2 : (c'.toList.take cs.length).length = cs.length := by simp; omega
                        have hov : overl c'.toList (l * ti.size + 0) news' = c'.toList.take cs.length ++ (news' ++ (c'.toList.drop cs.length).drop news'.length) := by
                          have := overl_end (c'.toList.take cs.length) news' (c'.toList.drop cs.length) (by simp; omega)
                          rw [hl2, ← hsp, d4'] at this
                          rw [Nat.add_zero, d4']
                          exact this
                        rw [hov] at r2
                        have hro : RO P (ext1 m h.nx b (y - n)) (y - n) w'.heap[b]? (.cells (cs ++ news) u false : (Ob X)) := by
                          refine ⟨_, fz, r2, ?_, ?_, ⟨_, ?_, rfl⟩, fun c => by cases c⟩
                          · have : (c'.toList.take cs.length ++ (news' ++ (c'.toList.drop cs.length).drop news'.length)).toArray.size = c'.size := by simp; omega
                            rw [this]
                            exact q2F
                          · rw [hesz, Nat.sub_mul]
                            simp only [List.size_toArray, List.length_append, hl2, List.length_drop, Array.length_toList]
                            have := n1.len
                            omega
                          · have hln := n1.len
                            simp only [List.toList_toArray, List.length_append]
                            rw [← List.append_assoc, List.take_append_of_le_length (by simp; omega), take_self _ (by simp; omega)]
                            exact (q4.append n1).mono (ext1_le hn)
                        obtain ⟨s1, s2⟩ := move_ok hr hn hroom d1 hk rfl hm hro r3 r4 r5 r6 r7
                        refine ⟨.slice (.some ⟨b, 0, none⟩) (l + n) (l + y), w', _, ?_, ?_, s1, s2, Nat.le_succ _⟩
                        · refine n4 hfit ?_
                          show (storeCells ((⟨b, 0, none⟩ : Addr).add (l * ti.size)) news').run P w = _
                          rw [Addr.add_none, Nat.zero_add]
                          exact r1
                        · have : l + y = l + n + (y - n) := by omega
                          rw [this]
                          exact .slice ext1_self
                      · obtain ⟨f1, f2⟩ := hr.forget d1
                        have hcsl : (c'.toList.take cs.length).length = l * ti.size := by simp; omega
                        refine grow _ f1 rfl f2 (.some ⟨b, 0, none⟩) (l + y) cs (c'.toList.take cs.length) q4 (fun w1 hw => ?_) hfit e
                        have := run_loadCells_list (P := P) (w := w1) ⟨b, 0, none⟩ (c'.toList.take cs.length) (fun j v hj => by
                          rw [Addr.add_none, Nat.zero_add]
                          have hjl := (List.getElem?_eq_some_iff.1 hj).1
                          rw [List.getElem?_take_of_lt (by simp at hjl; omega), Array.getElem?_toList] at hj
                          exact cell_some (by rw [hw]; exact q1) hj)
                        rw [hcsl] at this
                        exact this
                  · cases e
          · cases e
        · cases e
    · cases e
  · cases e
end
end Go.Ev
