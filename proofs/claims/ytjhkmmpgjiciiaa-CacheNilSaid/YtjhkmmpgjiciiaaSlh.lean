/-
  Owned rows that may begin inside their block: append, cutting at both ends.
-/
import Derived.Test.YtjhkmmpgjiciiaaSlf
namespace Go.Sl
set_option linter.unusedSimpArgs false
set_option linter.unusedVariables false

/-- as rw, but the slice may begin inside its block -/
def rwo (e : TypeId) (s : Nat) (v : Value) (xs : List Value) : Assn := fun h =>
  (v = .slice none 0 0 ∧ xs = [] ∧ emp h) ∨
  ∃ g pre n cap sp, v = .slice (some ⟨g, List.length pre, none⟩) n cap ∧ xs.length = n * s ∧ (xs ++ sp).length = cap * s ∧ n ≤ cap ∧ cap ≤ maxLen ∧ block g e (pre ++ (xs ++ sp)) h

theorem Sat.rwo_open {e s : Nat} {v : Value} {xs : List Value} {F : Assn} {w : World} (hs : Sat (rwo e s v xs * F) w) :
    (v = .slice none 0 0 ∧ xs = [] ∧ Sat F w) ∨
    ∃ g pre n cap sp, v = .slice (some ⟨g, List.length pre, none⟩) n cap ∧ xs.length = n * s ∧ (xs ++ sp).length = cap * s ∧ n ≤ cap ∧ cap ≤ maxLen ∧ Sat (block g e (pre ++ (xs ++ sp)) * F) w := by
  obtain ⟨_, ⟨g, k, d, rfl, h | ⟨g', pre, n, cap, sp, h1, h2, h3, h4, h5, h6⟩, hF⟩, H⟩ := hs
  · obtain ⟨h1, h2, h3⟩ := h
    refine .inl ⟨h1, h2, ?_⟩
    rw [← one_sep F]
    exact ⟨_, ⟨g, k, d, rfl, h3, hF⟩, H⟩
  · exact .inr ⟨g', pre, n, cap, sp, h1, h2, h3, h4, h5, _, ⟨g, k, d, rfl, h6, hF⟩, H⟩

theorem Sat.rwo_shut {e s : Nat} {xs : List Value} {F : Assn} {w : World} {g n cap : Nat} {pre sp : List Value} (h2 : xs.length = n * s) (h3 : (xs ++ sp).length = cap * s) (h4 : n ≤ cap) (h5 : cap ≤ maxLen)
    (hs : Sat (block g e (pre ++ (xs ++ sp)) * F) w) : Sat (rwo e s (.slice (some ⟨g, pre.length, none⟩) n cap) xs * F) w := by
  obtain ⟨_, ⟨g', k, d, rfl, h, hF⟩, H⟩ := hs
  exact ⟨_, ⟨g', k, d, rfl, .inr ⟨g, pre, n, cap, sp, rfl, h2, h3, h4, h5, h⟩, hF⟩, H⟩

theorem Sat.rwo_of {e s : Nat} {v : Value} {xs : List Value} {F : Assn} {w : World} (hs : Sat (rw e s v xs * F) w) : Sat (rwo e s v xs * F) w := by
  obtain ⟨_, ⟨g, k, d, rfl, h | ⟨g', n, cap, sp, h1, h2, h3, h4, h5, h6⟩, hF⟩, H⟩ := hs
  · exact ⟨_, ⟨g, k, d, rfl, .inl h, hF⟩, H⟩
  · exact ⟨_, ⟨g, k, d, rfl, .inr ⟨g', [], n, cap, sp, h1, h2, h3, h4, h5, h6⟩, hF⟩, H⟩

/-- cut at the front -/
theorem Sat.rwo_from {e : Nat} {a : Option Addr} {n c : Nat} {xs : List Value} {F : Assn} {w : World} (hs : Sat (rwo e 1 (.slice a n c) xs * F) w) (k : Nat) (hk : k < n) : Sat (rwo e 1 (.slice (cutA a c k 1) (n - k) (c - k)) (xs.drop k) * F) w := by
  rcases hs.rwo_open with ⟨h1, h2, h3⟩ | ⟨g, pre, n', cap', sp, h1, h2, h3, h4, h5, h6⟩
  · cases h1; omega
  · cases h1
    rw [Nat.mul_one] at h2 h3
    have hne : c ≠ k := by omega
    have hcut : cutA (some ⟨g, pre.length, none⟩) c k 1 = some ⟨g, (pre ++ xs.take k).length, none⟩ := by
      have : (xs.take k).length = k := by simp; omega
      simp [cutA, hne, Addr.add, this]
    rw [hcut]
    refine Sat.rwo_shut (pre := pre ++ xs.take k) (sp := sp) (by simp; omega) (by simp only [List.length_append, List.length_drop] at h3 ⊢; omega) (by omega) (by omega) ?_
    have e1 : pre ++ xs.take k ++ (xs.drop k ++ sp) = pre ++ (xs ++ sp) := by
      rw [List.append_assoc, ← List.append_assoc (xs.take k), List.take_append_drop]
    rw [e1]; exact h6

theorem Reads.rwo {e : Nat} {v : Value} {l : List UInt8} : Reads (rwo e 1 v (bys l)) v l := by
  intro F w hs
  rcases hs.rwo_open with ⟨h1, h2, h3⟩ | ⟨g, pre, n, cap, sp, h1, h2, h3, h4, h5, h6⟩
  · have : l = [] := by simpa [bys] using h2
    subst this h1
    exact ⟨none, 0, rfl, by simp, by simp, by simp⟩
  · rw [bys_len, Nat.mul_one] at h2
    subst h2 h1
    refine ⟨_, cap, rfl, h4, h5, fun i x hx => ⟨g, pre.length, rfl, ?_⟩⟩
    have h7 : Sat (Sl.cells g 0 (pre ++ (bys l ++ sp)) * (hdr g e (pre ++ (bys l ++ sp)).length * F)) w := h6.eq (by unfold Sl.block; ac_rfl)
    have hil : i < l.length := (List.getElem?_eq_some_iff.1 hx).1
    have := h7.cells_at (pre.length + i) (bv x) (by
      rw [List.getElem?_append_right (by omega), Nat.add_sub_cancel_left, List.getElem?_append_left (by rw [bys_len]; exact hil)]
      exact bys_at hx)
    rw [Nat.zero_add] at this
    exact this

theorem run_append_slo {P : Program} {t e s bytes : Nat} {i : TypeInfo} {z : Value} (E : ElemOk P t e s bytes i z) {tx : TypeId} {dx : TypeDesc} (htx : P.underlying tx = some dx) (hdx : ∀ k, dx ≠ .int k) (ty : TypeId)
    {base : Option Addr} {n cap m : Nat} {xs news : List Value} {x : Value} {F : Assn} {w : World}
    (hs : Sat (rwo e s (.slice base n cap) xs * F) w) (hx : Src P s w x m news) (h63 : n + m ≤ maxLen) (hbound : (n + m) * bytes ≤ 140737488355328) :
    ∃ a' c' w', (Builtin.append_ #[t, tx] ty #[.slice base n cap, x]).run P w = .ok (.slice a' (n + m) c') w' ∧ Sat (rwo e s (.slice a' (n + m) c') (xs ++ news) * F) w' ∧ (a' = none ↔ base = none ∧ m = 0) := by
  have hsz : (sizeOf e).run P w = .ok s w := by simp [sizeOf, typeInfo, E.info, E.size]
  have hxl : (Builtin.lenOf x).run P w = .ok m w := by simpa [World.drewN] using hx.len 0
  have hxc : (Builtin.firstCells s m x).run P w = .ok news.toArray w := by simpa [World.drewN] using hx.cells 0
  have hnz : (match dx with | .int _ => true | _ => false) = false := by
    cases dx <;> first | rfl | exact absurd rfl (hdx _)
  by_cases hfit : n + m ≤ cap
  · -- there is room
    rcases hs.rwo_open with ⟨h1, h2, h3⟩ | ⟨g, pre, n', cap', sp, h1, h2, h3, h4, h5, h6⟩
    · cases h1
      have hm : m = 0 := by omega
      subst hm
      have hn : news = [] := by have := hx.size; simpa using this
      subst hn h2
      refine ⟨none, 0, w, ?_, hs, by simp⟩
      unfold Builtin.append_
      simp [underlying, E.und, htx, hnz, hsz, hxl, hxc]
    · cases h1
      have hl : news.length ≤ sp.length := by
        rw [hx.size]
        have : xs.length + sp.length = cap * s := by simpa using h3
        have := Nat.mul_le_mul_right s hfit
        rw [Nat.add_mul] at this
        omega
      have hsplit : sp = sp.take news.length ++ sp.drop news.length := (List.take_append_drop _ _).symm
      have hpx : (pre ++ xs).length = pre.length + n * s := by simp [h2]
      have htk : (sp.take news.length).length = news.length := by simp [hl]
      have hs1 : Sat (cells g (pre.length + n * s + 0) (sp.take news.length) * (hdr g e (pre ++ (xs ++ sp)).length * (cells g 0 (pre ++ xs) * (cells g (pre.length + n * s + news.length) (sp.drop news.length) * F)))) w := by
        refine h6.eq ?_
        unfold block
        have e1 : cells g 0 (pre ++ (xs ++ sp)) = cells g 0 (pre ++ xs) * (cells g (pre.length + n * s) (sp.take news.length) * cells g (pre.length + n * s + news.length) (sp.drop news.length)) := by
          rw [← List.append_assoc, cells_append, Nat.zero_add, hpx]
          congr 1
          conv => lhs; rw [hsplit]
          rw [cells_append, htk]
        rw [e1, Nat.add_zero]
        ac_rfl
      obtain ⟨w', r1, r2⟩ := run_storeCells_sl (P := P) news (sp.take news.length) 0 _ w hs1 (by simp [hl]) hx.one
      refine ⟨some ⟨g, pre.length, none⟩, cap, w', ?_, ?_, by simp⟩
      · have ea : (⟨g, pre.length, none⟩ : Addr).add (n * s) = ⟨g, pre.length + n * s, none⟩ := by rw [Addr.add_lit]
        unfold Builtin.append_
        simp [underlying, E.und, htx, hnz, hsz, hxl, hxc, hfit, ea, r1]
      · refine Sat.rwo_shut (pre := pre) (sp := sp.drop news.length) ?_ ?_ hfit h5 (r2.eq ?_)
        · simp [h2, hx.size, Nat.add_mul]
        · have : xs.length + sp.length = cap * s := by simpa using h3
          simp only [List.length_append, List.length_drop]
          omega
        · unfold block
          have e2 : (pre ++ (xs ++ news ++ sp.drop news.length)).length = (pre ++ (xs ++ sp)).length := by simp only [List.length_append, List.length_drop]; omega
          have e3 : cells g 0 (pre ++ (xs ++ news ++ sp.drop news.length)) = cells g 0 (pre ++ xs) * (cells g (pre.length + n * s) news * cells g (pre.length + n * s + news.length) (sp.drop news.length)) := by
            rw [List.append_assoc xs, ← List.append_assoc pre, cells_append, Nat.zero_add, hpx]
            congr 1
            rw [cells_append]
          rw [e2, e3, Nat.add_zero]
          ac_rfl
  · -- it grows
    have hold : ∀ k, (Builtin.firstCells s n (.slice base n cap)).run P (w.drewN k) = .ok xs.toArray (w.drewN k) := by
      intro k
      rcases hs.rwo_open with ⟨h1, h2, h3⟩ | ⟨g, pre, n', cap', sp, h1, h2, h3, h4, h5, h6⟩
      · cases h1; subst h2; rfl
      · cases h1
        show (loadCells ⟨g, pre.length, none⟩ (n * s)).run P (w.drewN k) = _
        rw [← h2]
        refine run_loadCells_list _ _ xs (fun j v hj => ?_)
        rw [Addr.add_lit]
        have h7 : Sat (cells g 0 (pre ++ (xs ++ sp)) * (hdr g e (pre ++ (xs ++ sp)).length * F)) (w.drewN k) := (h6.drewN k).eq (by unfold block; ac_rfl)
        have h8 := h7.cells_at (pre.length + j) v (by
          rw [List.getElem?_append_right (by omega), Nat.add_sub_cancel_left, List.getElem?_append_left (List.getElem?_eq_some_iff.1 hj).1]
          exact hj)
        rw [Nat.zero_add] at h8
        exact h8
    have hxs : xs.length = n * s ∧ Sat F w := by
      rcases hs.rwo_open with ⟨h1, h2, h3⟩ | ⟨g, pre, n', cap', sp, h1, h2, h3, h4, h5, h6⟩
      · cases h1; subst h2; exact ⟨by simp, h3⟩
      · cases h1; exact ⟨h2, h6.right⟩
    have hgrow := growslice_fits (bytes := bytes) (show cap < n + m by omega) hbound
    have h63' : ¬ ((n + m : Nat) : Int) > IntKind.i64.max := by
      have : n + m ≤ 9223372036854775807 := by simpa [maxLen] using h63
      have e : IntKind.i64.max = 9223372036854775807 := rfl
      rw [e]
      omega
    have hzero : ∀ k, (zeroValue e).run P (w.drewN k) = .ok z (w.drewN k) := by intro k; simp [zeroValue, typeInfo, E.info, E.zero]
    have htyi : ∀ w', (typeInfo e).run P w' = .ok i w' := by intro w'; simp [typeInfo, E.info]
    -- the new capacity
    let q := Question.appendCap (n + m) cap e
    let c' := q.cut (w.tape w.drawn q)
    have hc1 : n + m ≤ c' := by show n + m ≤ (n + m) + _; omega
    have hc2 : c' ≤ maxLen := by
      show (n + m) + _ % (2 ^ 63 - (n + m)) ≤ maxLen
      have h1 : n + m ≤ 9223372036854775807 := by simpa [maxLen] using h63
      have h2 : w.tape w.drawn q % (2 ^ 63 - (n + m)) < 2 ^ 63 - (n + m) := Nat.mod_lt _ (by omega)
      have h3 : maxLen = 9223372036854775807 := rfl
      omega
    let row := xs ++ news ++ (Builtin.zeroCells z.cells (c' - (n + m))).toList
    have hs3 : Sat (block (w.drewN 1).heap.size e row * F) ((w.drewN 1).alloc (.cells row.toArray e)) := by
      have := (hxs.2.drewN 1).alloc row.toArray e
      simpa using this
    refine ⟨some ⟨(w.drewN 1).heap.size, 0, none⟩, c', (w.drewN 1).alloc (.cells row.toArray e), ?_, ?_, ?_⟩
    · have hch : (choose q).run P w = .ok c' (w.drewN 1) := by
        rw [run_choose]
        simp only [q, Question.forced]
        rfl
      have hxc1 := hx.cells 1
      have hold1 := hold 1
      have hz1 := hzero 1
      have hrow : (newRow e (xs.toArray ++ news.toArray ++ Builtin.zeroCells z.cells (c' - (n + m)))).run P (w.drewN 1) = .ok ⟨(w.drewN 1).heap.size, 0, none⟩ ((w.drewN 1).alloc (.cells row.toArray e)) := by
        have e1 : xs.toArray ++ news.toArray ++ Builtin.zeroCells z.cells (c' - (n + m)) = row.toArray := by
          apply Array.ext'; simp [row]
        rw [e1]
        simp [newRow]
      unfold Builtin.append_
      simp only [Sem.run_bind, underlying, run_program, Result.andThen_ok, E.und, htx, List.getElem?_toArray, List.getElem?_cons_zero, List.getElem?_cons_succ, Sem.run_pure, hsz, hnz, hxl]
      have hb : ¬ (Builtin.nextslicecap (n + m) cap * i.bytes > 2 ^ 48) := by
        rw [E.bytes]
        have : (2 : Nat) ^ 48 = 281474976710656 := by decide
        omega
      simp only [Bool.false_eq_true, if_false, Sem.run_bind, Sem.run_pure, hxl, Result.andThen_ok, hfit, htyi, hb, h63', false_and, run_askRoom, hold1, hxc1, hz1, hrow]
      simp only [show (Question.appendCap (n + m) cap e) = q from rfl, hch, Result.andThen_ok, htyi, run_askRoom, hold1, hxc1, hz1, hrow, Bool.not_false, if_true]
    · refine Sat.rwo_shut (pre := []) (sp := (Builtin.zeroCells z.cells (c' - (n + m))).toList) ?_ ?_ hc1 hc2 hs3
      · simp [hxs.1, hx.size, Nat.add_mul]
      · simp only [List.length_append, Array.length_toList, zeroCells_len, E.zs, hxs.1, hx.size]
        rw [← Nat.add_mul, ← Nat.add_mul]
        congr 1
        omega
    · have : ¬ (base = none ∧ m = 0) := by
        rintro ⟨rfl, rfl⟩
        rcases hs.rwo_open with ⟨h1, h2, h3⟩ | ⟨g, pre, n', cap', sp, h1, _⟩
        · cases h1; omega
        · cases h1
      simp [this]


end Go.Sl
