/-
  A run reckoned out: sort.Slice of a row of pairs, by the first of each, told by its contract: of none, of one, of two.
-/
import Derived.Test.YtebhnbecjmdicaaGreatDoorEvx
import Derived.Shelf.GgSortFunc.SmallK
namespace Go.Ev
set_option linter.unusedVariables false
set_option linter.unusedSimpArgs false
set_option linter.unusedSectionVars false
variable {X : Type} [ExtA X]
open Go.Sort

noncomputable def encR (p : Int × Int) : List Value := [.int .i64 p.1, .int .i64 p.2]
noncomputable def ltR (a b : Int × Int) : Bool := decide (a.1 < b.1)
noncomputable def insO : Nat → Nat → Array (Int × Int) → Array (Int × Int)
  | 0, _, d => d
  | k + 1, i, d => insO k (i + 1) (Sort.insInner ltR 0 i d)
theorem insO_eq : ∀ (k i : Nat) (d : Array (Int × Int)), Sort.insOuter ltR 0 (i + k) i d = insO k i d
  | 0, i, d => by rw [Sort.insOuter.eq_1, if_neg (by omega)]; rfl
  | k + 1, i, d => by
    rw [Sort.insOuter.eq_1, if_pos (by omega), show i + (k + 1) = (i + 1) + k by omega, insO_eq k (i + 1)]
    rfl
theorem sorted_eq (n : Nat) (h : 1 ≤ n) (d : Array (Int × Int)) : Sort.insertionSort ltR d 0 n = insO (n - 1) 1 d := by
  show Sort.insOuter ltR 0 n (0 + 1) d = _
  rw [show n = (0 + 1) + (n - 1) by omega, insO_eq]
  congr 1
  omega
noncomputable def toP : List Value → Option (List (Int × Int))
  | [] => some []
  | .int .i64 x :: .int .i64 y :: l => match toP l with
    | some r => some ((x, y) :: r)
    | none => none
  | _ => none
noncomputable def flatP : List (Int × Int) → List Value
  | [] => []
  | p :: l => .int .i64 p.1 :: .int .i64 p.2 :: flatP l
theorem toP_ok : ∀ {l : List Value} {r : List (Int × Int)}, toP l = some r → l = flatP r := by
  intro l r
  induction r generalizing l with
  | nil =>
    intro e
    unfold toP at e
    split at e
    · rfl
    · split at e
      · cases e
      · cases e
    · cases e
  | cons p r ih =>
    intro e
    unfold toP at e
    split at e
    · cases e
    · split at e
      · rename_i h
        cases e
        rw [ih h]
        rfl
      · cases e
    · cases e
theorem flatP_len : ∀ (l : List (Int × Int)), (flatP l).length = l.length * 2
  | [] => rfl
  | p :: l => by simp [flatP, flatP_len l]; omega
theorem flatP_one : ∀ (l : List (Int × Int)), (flatP l).all one = true
  | [] => rfl
  | p :: l => by simp [flatP, flatP_one l, one]
theorem flatP_scal : ∀ (l : List (Int × Int)), (flatP l).all Ev.scal = true
  | [] => rfl
  | p :: l => by simp [flatP, flatP_scal l, Ev.scal]
theorem flatP_get : ∀ (l : List (Int × Int)) (t : Nat), (flatP l)[t]? = (l[t / 2]?).map fun p => (encR p)[t % 2]!
  | [], t => by simp [flatP]
  | p :: l, 0 => rfl
  | p :: l, 1 => rfl
  | p :: l, t + 2 => by
    rw [show (t + 2) / 2 = t / 2 + 1 by omega, show (t + 2) % 2 = t % 2 by omega]
    simp only [flatP, List.getElem?_cons_succ]
    exact flatP_get l t
theorem flat_all (d : Array (Int × Int)) : (flatK encR 2 d).toList = flatP d.toList := by
  apply List.ext_getElem?
  intro t
  rw [flatP_get, Array.getElem?_toList, Array.getElem?_toList]
  by_cases h : t < d.size * 2
  · have h1 : t < (flatK encR 2 d).size := by simpa using h
    have h2 : t / 2 < d.size := by omega
    have := get_flatK encR 2 d t h
    rw [getElem!_pos (flatK encR 2 d) t h1, getElem!_pos d (t / 2) h2] at this
    rw [Array.getElem?_eq_getElem h1, Array.getElem?_eq_getElem h2, this]
    rfl
  · rw [Array.getElem?_eq_none (by simp; omega), Array.getElem?_eq_none (by omega)]
    rfl
theorem overl_get : ∀ (c : List Value) (n : Nat) (vs : List Value) (i : Nat), n + vs.length ≤ c.length → (overl c n vs)[i]? = if n ≤ i ∧ i < n + vs.length then vs[i - n]? else c[i]?
  | c, 0, vs, i, h => by
    simp only [overl, Nat.zero_add, Nat.zero_le, true_and, Nat.sub_zero]
    by_cases hi : i < vs.length
    · rw [if_pos hi, List.getElem?_append_left hi]
    · rw [if_neg hi, List.getElem?_append_right (by omega), List.getElem?_drop]
      congr 1; omega
  | [], n + 1, vs, i, h => by simp at h
  | x :: c, n + 1, vs, 0, h => by simp [overl]
  | x :: c, n + 1, vs, i + 1, h => by
    simp only [overl, List.getElem?_cons_succ]
    rw [overl_get c n vs i (by simp at h; omega)]
    by_cases hi : n ≤ i ∧ i < n + vs.length
    · rw [if_pos hi, if_pos (by omega)]; congr 1; omega
    · rw [if_neg hi, if_neg (by omega)]
theorem putCells_overl (F c : Array Value) (off : Nat) (h : off + F.size ≤ c.size) : (putCells id off F c).toList = overl c.toList off F.toList := by
  apply List.ext_getElem?
  intro i
  rw [overl_get _ _ _ _ (by simpa using h)]
  simp only [Array.getElem?_toList, putCells, Array.getElem?_mapIdx, Array.length_toList]
  by_cases hi : off ≤ i ∧ i < off + F.size
  · rw [if_pos hi, Array.getElem?_eq_getElem (show i < c.size by omega), Array.getElem?_eq_getElem (show i - off < F.size by omega)]
    simp [hi, getElem!_pos F (i - off) (by omega)]
  · rw [if_neg hi]
    by_cases hc : i < c.size
    · rw [Array.getElem?_eq_getElem hc]; simp [hi]
    · rw [Array.getElem?_eq_none (by omega)]; rfl

section
variable {P : Program} {m : Mp} {h : Hp X} {w : World}
theorem grow_ok {g : G X} (hr : Rep P m g w) (os : Array Obj) (n : Nat) : Rep P m g (grow w os) ∧ Stp g m w g m (grow w os) n n :=
  ⟨hr.kept (fun b hb => heap_grow_old w os hb) (by simp [grow]),
   ⟨m.le_refl, fun k e => absurd rfl e, fun k b x e e1 => .inl ⟨k, x, e, e1⟩, fun k e => .inl e, fun b hb _ _ => ⟨heap_grow_old w os hb, rfl⟩, fun k x b e e1 => .inl ⟨k, x, e, e1⟩, fun _ _ _ => rfl, by simp [grow], rfl, rfl, rfl⟩⟩

theorem row_ok (hr : Rep P m h.at w) {k off b x : Nat} {d : Array (Int × Int)} {h' : Hp X} (e : wr h k off (flatP d.toList) = .some h') (hm : m k = .some (b, x)) (n : Nat) (os : Array Obj) :
    Rep P m h'.at (grow (putRowK encR 2 (Sort.ahead w n) b off d) os) ∧ Stp h.at m w h'.at m (grow (putRowK encR 2 (Sort.ahead w n) b off d) os) h.nx h'.nx ∧ h'.nx = h.nx := by
  rw [wr_eq] at e
  split at e
  · rename_i c t ex hk
    cases hb : (Nat.blt k 1000000 && Nat.ble (off + (flatP d.toList).length) c.length && (flatP d.toList).all one) with
    | false => rw [hb] at e; cases e
    | true =>
      rw [hb] at e
      cases e
      simp only [Bool.and_eq_true] at hb
      have hk1 := Nat.blt_eq.mp hb.1.1
      have hle := Nat.le_of_ble_eq_true hb.1.2
      obtain ⟨c', fz, h1, h2F, h3, h4, h5⟩ := hr.cellsF hk hm
      have h2 := h2F.free
      have hsz : (flatK encR 2 d).size = d.size * 2 := by simp
      have hfl : (flatP d.toList).length = d.size * 2 := by rw [flatP_len]; simp
      have hle' : off + d.size * 2 ≤ c.length := by rw [← hfl]; exact hle
      have hcl : c.length ≤ c'.size := by rw [h3]; omega
      have hw1 : (putRowK encR 2 (Sort.ahead w n) b off d).heap[b]? = some (.cells (putCells id off (flatK encR 2 d) c') t fz) := by
        unfold putRowK putRow mapBlock
        have : (Sort.ahead w n).heap[b]? = some (.cells c' t fz) := h1
        have this' : w.heap[b]? = some (.cells c' t fz) := h1
        simp [Array.getElem?_modify, this', onCells, Sort.ahead]
      have hw2 : ∀ b', b' ≠ b → (putRowK encR 2 (Sort.ahead w n) b off d).heap[b']? = w.heap[b']? := fun b' e => by
        unfold putRowK putRow mapBlock
        simp only [Array.getElem?_modify]
        rw [if_neg (fun c => e c.symm)]
        rfl
      have hw3 : (putRowK encR 2 (Sort.ahead w n) b off d).heap.size = w.heap.size := by
        unfold putRowK putRow mapBlock
        simp [Sort.ahead]
      have hov : (putCells id off (flatK encR 2 d) c').toList = overl (c'.toList.take c.length) off (flatP d.toList) ++ c'.toList.drop c.length := by
        rw [putCells_overl _ _ _ (by rw [hsz]; omega), flat_all]
        conv => lhs; rw [← List.take_append_drop c.length c'.toList]
        exact overl_append _ _ _ _ (by rw [hfl]; simp; omega)
      have hl2 : (c'.toList.take c.length).length = c.length := by simp; omega
      have hro : RO P m x (putRowK encR 2 (Sort.ahead w n) b off d).heap[b]? (.cells (overl c off (flatP d.toList)) t ex : Ob X) := by
        refine ⟨_, fz, hw1, ?_, ?_, ⟨_, ?_, rfl⟩, h5⟩
        · have : (putCells id off (flatK encR 2 d) c').size = c'.size := by simp [putCells]
          rw [this]
          exact h2F
        · rw [overl_len _ _ _ (by rw [hfl]; exact hle')]
          simpa [putCells] using h3
        · rw [overl_len _ _ _ (by rw [hfl]; exact hle'), hov]
          rw [List.take_append_of_le_length (by rw [overl_len _ _ _ (by rw [hl2, hfl]; exact hle')]; omega), List.take_of_length_le (by rw [overl_len _ _ _ (by rw [hl2, hfl]; exact hle')]; omega)]
          exact h4.overl off (RVs.scal (flatP_scal _))
      obtain ⟨s1, s2⟩ := set_ok hr hk1 hk rfl hm hro hw2 hw3 rfl rfl rfl
      obtain ⟨g1, g2⟩ := grow_ok s1 os h.nx
      exact ⟨g1, s2.trans g2 (Nat.le_refl _) (Nat.le_refl _), rfl⟩
  · cases e
end

noncomputable def hkSort (f t g : Nat) : Hk X := fun f' args h => bif Nat.beq f' f then (match args with
  | [.iface t' (.slice p n c), .func (.func g') la lb] => bif Nat.beq t' t then (bif Nat.ble n 1 then some (.ret (.tuple #[]) h)
    else match p, la.toList, lb.toList with
    | some a, [], [.pointer (some b)] => bif (Nat.beq g' g && !Nat.beq a.block b.block) && Nat.ble n 12 then (match rd h b.block b.off 1, rd h a.block a.off (n * 2) with
      | some [.slice (some a') n' _], some l => bif (Nat.beq a'.block a.block && Nat.beq a'.off a.off) && Nat.beq n' n then (match toP l with
        | some r => match wr h a.block a.off (flatP (insO (n - 1) 1 r.toArray).toList) with
          | some h' => some (.ret (.tuple #[]) h')
          | none => none
        | none => none) else none
      | _, _ => none) else none
    | _, _, _ => none) else none
  | _ => none) else none

theorem hkSort_ok {P : Program} {f t g : Nat} (hc : ∀ args w, (callFunc f args).run P w = .ok (.enter f args) w)
    (h1 : ∀ (p : Option Addr) (n c : Nat), n ≤ 1 → ∀ (lf : Fn) (la lb : Array Value) (w : World),
      Calls P f #[.iface t (.slice p n c), .func lf la lb] w fun e w' => e = .returned (.tuple #[]) ∧ ∃ os, w' = grow w os)
    (h2 : ∀ (blk off c b2 o2 c2 : Nat) (d : Array (Int × Int)) (w : World), 2 ≤ d.size → d.size ≤ 12 → HoldsK encR 2 w blk off d → blk < w.heap.size → b2 ≠ blk → b2 < w.heap.size → w.cell? ⟨b2, o2, none⟩ = some (.slice (some ⟨blk, off, none⟩) d.size c2) →
      Calls P f #[.iface t (.slice (some ⟨blk, off, none⟩) d.size c), .func (.func g) #[] #[.pointer (some ⟨b2, o2, none⟩)]] w fun e w' => e = .returned (.tuple #[]) ∧ ∃ n os, w' = grow (putRowK encR 2 (Sort.ahead w n) blk off (Sort.insertionSort ltR d 0 d.size)) os) : HkOk P (hkSort f t g : Hk X) := by
  intro f' args h r e m w args' hr hf htp ha
  unfold hkSort at e
  cases hb : Nat.beq f' f with
  | false => rw [hb] at e; cases e
  | true =>
    rw [hb, cond_true] at e
    obtain rfl := Nat.eq_of_beq_eq_true hb
    refine ⟨hc _ _, ?_⟩
    split at e
    · rename_i t' p n c g' la lb
      cases hb2 : Nat.beq t' t with
      | false => rw [hb2] at e; cases e
      | true =>
        rw [hb2, cond_true] at e
        obtain rfl := Nat.eq_of_beq_eq_true hb2
        cases ha with
        | cons r1 r2 =>
          cases r2 with
          | cons r2 r3 =>
            cases r3
            obtain ⟨u, rfl, ri⟩ := r1.iface_inv
            obtain ⟨la', lb', rfl, ra, rb⟩ := r2.func_inv
            cases hb3 : Nat.ble n 1 with
            | true =>
              rw [hb3, cond_true] at e
              cases e
              have hn := Nat.le_of_ble_eq_true hb3
              obtain ⟨p', c', rfl⟩ : ∃ p' c', u = .slice p' n c' := by
                cases p with
                | none => exact ⟨_, _, ri.slice_none⟩
                | some a => obtain ⟨b, x, _, h, _⟩ := ri.slice_inv; exact ⟨_, _, h⟩
              refine (h1 p' n c' hn _ la' lb' w).mono ?_
              rintro en w' ⟨rfl, os, rfl⟩
              obtain ⟨g1, g2⟩ := grow_ok hr os h.nx
              exact ⟨m, _, rfl, .tuple .nil, g1, hf, g2, Nat.le_refl _, htp⟩
            | false =>
              rw [hb3, cond_false] at e
              have hn2 : 2 ≤ n := by
                rcases Nat.lt_or_ge 1 n with h | h
                · exact h
                · rw [Nat.ble_eq_true_of_le h] at hb3; cases hb3
              split at e
              · rename_i _ _ _ a b hla hlb
                cases hb4 : ((Nat.beq g' g && !Nat.beq a.block b.block) && Nat.ble n 12) with
                | false => rw [hb4] at e; cases e
                | true =>
                  rw [hb4, cond_true] at e
                  simp only [Bool.and_eq_true, Bool.not_eq_true'] at hb4
                  obtain rfl := Nat.eq_of_beq_eq_true hb4.1.1
                  have hn12 := Nat.le_of_ble_eq_true hb4.2
                  split at e
                  · rename_i a' n' c2 l hrb hra
                    cases hb5 : ((Nat.beq a'.block a.block && Nat.beq a'.off a.off) && Nat.beq n' n) with
                    | false => rw [hb5] at e; cases e
                    | true =>
                      rw [hb5, cond_true] at e
                      simp only [Bool.and_eq_true] at hb5
                      have e1 := Nat.eq_of_beq_eq_true hb5.1.1
                      have e2 := Nat.eq_of_beq_eq_true hb5.1.2
                      obtain rfl := Nat.eq_of_beq_eq_true hb5.2
                      split at e
                      · rename_i ps hps
                        split at e
                        · rename_i h' hwr
                          cases e
                          have hl := toP_ok hps
                          subst hl
                          obtain ⟨b1, q1, _, rfl, hm1⟩ := ri.slice_inv
                          have hla' : la' = #[] := by
                            rw [hla] at ra
                            cases hl : la'.toList with
                            | nil => exact Array.ext' hl
                            | cons _ _ => rw [hl] at ra; cases ra
                          subst hla'
                          rw [hlb] at rb
                          cases hl : lb'.toList with
                          | nil => rw [hl] at rb; cases rb
                          | cons v l =>
                            rw [hl] at rb
                            cases rb with
                            | cons s1 s2 =>
                              cases s2
                              obtain ⟨b2, q2, _, rfl, hm2⟩ := s1.ptr_inv
                              obtain rfl : lb' = #[.pointer (some ⟨b2, b.off, none⟩)] := Array.ext' hl
                              obtain ⟨l3, g1, g2, g3, g4⟩ := rd_ok hr hra hm1
                              obtain ⟨l4, p1, p2, p3, p4⟩ := rd_ok hr hrb hm2
                              have hlt1 := hr.lt _ _ _ (by obtain ⟨_, _, _, h, _⟩ := g4; rw [h]; simp) hm1
                              have hlt2 := hr.lt _ _ _ (by obtain ⟨_, _, _, h, _⟩ := p4; rw [h]; simp) hm2
                              have hne : b2 ≠ b1 := fun c => by
                                have := hr.inj b.block a.block b1 q2 q1 (by obtain ⟨_, _, _, h, _⟩ := p4; rw [h]; simp) (by obtain ⟨_, _, _, h, _⟩ := g4; rw [h]; simp) (by rw [← c]; exact hm2) hm1
                                rw [this] at hb4
                                have := hb4.1.2
                                rw [Nat.beq_refl] at this
                                cases this
                              have hl3 : l3 = flatP ps := scalL g1 (flatP_scal _)
                              subst hl3
                              have hpn : ps.length = n' := by
                                rw [flatP_len] at g2
                                omega
                              have hcell : ∃ c2', w.cell? ⟨b2, b.off, none⟩ = some (.slice (some ⟨b1, a.off, none⟩) n' c2') := by
                                cases p1 with
                                | cons s1 s2 =>
                                  obtain ⟨b3, q3, _, rfl, hm3⟩ := s1.slice_inv
                                  rw [e1] at hm3
                                  rw [hm3] at hm1
                                  cases hm1
                                  have := p3 0 _ rfl
                                  rw [e2] at this
                                  exact ⟨_, by simpa [Addr.add] using this⟩
                              obtain ⟨c2', hcell⟩ := hcell
                              have hH : HoldsK encR 2 w b1 a.off ps.toArray := by
                                intro j hj
                                have hj4 : j < n' * 2 := by
                                  rw [← hpn]
                                  simpa using hj
                                refine ⟨?_, ?_⟩
                                · have hj5 : j < ps.toArray.size * 2 := by simpa using hj
                                  have hg := get_flatK encR 2 ps.toArray j hj5
                                  rw [hg]
                                  have hp2 : j / 2 < ps.length := by omega
                                  have hv : (flatP ps)[j]? = some ((encR ps[j / 2])[j % 2]!) := by
                                    rw [flatP_get, List.getElem?_eq_getElem hp2]; rfl
                                  have hc := g3 j _ hv
                                  have hq : ps.toArray[j / 2]! = ps[j / 2] := by
                                    rw [getElem!_pos _ _ (by simpa using hp2)]; simp
                                  rw [hq]
                                  rw [Addr.add_none] at hc
                                  exact hc
                                · obtain ⟨cc, tt, ee, hk, hle, _⟩ := g4
                                  obtain ⟨c', fz, f1, f2, f3, f4, f5⟩ := hr.cells hk hm1
                                  have := f2 (a.off + j) (by rw [f3]; omega)
                                  simp only [World.frozen?, f1]
                                  by_cases z1 : fz.1 ≤ a.off + j
                                  · by_cases z2 : a.off + j < fz.2
                                    · exact absurd ⟨z1, z2⟩ this
                                    · simp [z2]
                                  · simp [z1]
                              have hsz : ps.toArray.size = n' := by simpa using hpn
                              have key := h2 b1 a.off (c + q1) b2 b.off c2' ps.toArray w (by omega) (by omega) hH hlt1 hne hlt2 (by rw [hsz]; exact hcell)
                              rw [hsz, sorted_eq n' (by omega)] at key
                              refine key.mono ?_
                              rintro en w' ⟨rfl, n, os, rfl⟩
                              obtain ⟨z1, z2, z3⟩ := row_ok hr hwr hm1 n os
                              exact ⟨m, _, rfl, .tuple .nil, z1, by rw [z3]; exact hf, z2, by rw [z3]; exact Nat.le_refl _, z2.top htp (by rw [z3]; exact Nat.le_refl _)⟩
                        · cases e
                      · cases e
                  · cases e
              · cases e
    · cases e
end Go.Ev
