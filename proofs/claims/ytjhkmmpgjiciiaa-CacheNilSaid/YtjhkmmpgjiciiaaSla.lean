/-
  Slices that are owned: append, make, copy, cutting; all in the logic of Sl.
-/
import Derived.Test.YtjhkmmpgjiciiaaSlp
namespace Go.Sl
set_option linter.unusedSimpArgs false
set_option linter.unusedVariables false

/-- The slice v, its elements s cells each, owns its row; its first cells are xs. -/
def rw (e : TypeId) (s : Nat) (v : Value) (xs : List Value) : Assn := fun h =>
  (v = .slice none 0 0 ∧ xs = [] ∧ emp h) ∨
  ∃ g n cap sp, v = .slice (some ⟨g, 0, none⟩) n cap ∧ xs.length = n * s ∧ (xs ++ sp).length = cap * s ∧ n ≤ cap ∧ cap ≤ maxLen ∧ block g e (xs ++ sp) h

theorem Sat.rw_open {e s : Nat} {v : Value} {xs : List Value} {F : Assn} {w : World} (hs : Sat (rw e s v xs * F) w) :
    (v = .slice none 0 0 ∧ xs = [] ∧ Sat F w) ∨
    ∃ g n cap sp, v = .slice (some ⟨g, 0, none⟩) n cap ∧ xs.length = n * s ∧ (xs ++ sp).length = cap * s ∧ n ≤ cap ∧ cap ≤ maxLen ∧ Sat (block g e (xs ++ sp) * F) w := by
  obtain ⟨_, ⟨g, k, d, rfl, h | ⟨g', n, cap, sp, h1, h2, h3, h4, h5, h6⟩, hF⟩, H⟩ := hs
  · obtain ⟨h1, h2, h3⟩ := h
    refine .inl ⟨h1, h2, ?_⟩
    rw [← one_sep F]
    exact ⟨_, ⟨g, k, d, rfl, h3, hF⟩, H⟩
  · exact .inr ⟨g', n, cap, sp, h1, h2, h3, h4, h5, _, ⟨g, k, d, rfl, h6, hF⟩, H⟩

theorem Sat.rw_nil {e s : Nat} {F : Assn} {w : World} (hs : Sat F w) : Sat (rw e s (.slice none 0 0) [] * F) w := by
  rw [← one_sep F] at hs
  obtain ⟨_, ⟨g, k, d, rfl, h, hF⟩, H⟩ := hs
  exact ⟨_, ⟨g, k, d, rfl, .inl ⟨rfl, rfl, h⟩, hF⟩, H⟩

theorem Sat.rw_shut {e s : Nat} {xs : List Value} {F : Assn} {w : World} {g n cap : Nat} {sp : List Value} (h2 : xs.length = n * s) (h3 : (xs ++ sp).length = cap * s) (h4 : n ≤ cap) (h5 : cap ≤ maxLen)
    (hs : Sat (block g e (xs ++ sp) * F) w) : Sat (rw e s (.slice (some ⟨g, 0, none⟩) n cap) xs * F) w := by
  obtain ⟨_, ⟨g', k, d, rfl, h, hF⟩, H⟩ := hs
  exact ⟨_, ⟨g', k, d, rfl, .inr ⟨g, n, cap, sp, rfl, h2, h3, h4, h5, h⟩, hF⟩, H⟩

theorem run_storeCells_sl {P : Program} {b o : Nat} : ∀ (news olds : List Value) (j : Nat) (F : Assn) (w : World), Sat (cells b (o + j) olds * F) w → olds.length = news.length → (∀ u ∈ news, u.oneCell' = true) →
    ∃ w', (storeCells ⟨b, o, none⟩ news j).run P w = .ok () w' ∧ Sat (cells b (o + j) news * F) w'
  | [], olds, j, F, w, hs, hl, _ => by
    have : olds = [] := by simpa using hl
    subst this
    exact ⟨w, rfl, hs⟩
  | v :: news, [], j, F, w, hs, hl, _ => by simp at hl
  | v :: news, u :: olds, j, F, w, hs, hl, h1 => by
    have hs' : Sat (Sl.cell b (o + j) u * (cells b (o + j + 1) olds * F)) w := hs.eq (sep_assoc _ _ _)
    have hs2 := hs'.setCell v
    have hs3 : Sat (cells b (o + (j + 1)) olds * (Sl.cell b (o + j) v * F)) (w.setCell ⟨b, o + j, none⟩ v) := hs2.eq (by rw [sep_left]; rfl)
    obtain ⟨w', r1, r2⟩ := run_storeCells_sl (P := P) news olds (j + 1) _ _ hs3 (by simpa using hl) (fun x hx => h1 x (List.mem_cons_of_mem _ hx))
    refine ⟨w', ?_, r2.eq ?_⟩
    · have e : (⟨b, o, none⟩ : Addr).add j = ⟨b, o + j, none⟩ := Addr.add_lit b o j
      have hv := h1 v List.mem_cons_self
      simp only [storeCells, Sem.run_bind, e]
      rw [run_store P w _ v .plain hv, hs'.cell, hs'.free (o + j)]
      simpa using r1
    · show cells b (o + (j + 1)) news * (Sl.cell b (o + j) v * F) = Sl.cell b (o + j) v * cells b (o + j + 1) news * F
      rw [sep_left, sep_assoc]; rfl

/-- What is appended or copied: a value that reads as m elements, the cells news, in w and behind a draw. -/
structure Src (P : Program) (s : Nat) (w : World) (x : Value) (m : Nat) (news : List Value) : Prop where
  len : ∀ n, (Builtin.lenOf x).run P (w.drewN n) = .ok m (w.drewN n)
  cells : ∀ n, (Builtin.firstCells s m x).run P (w.drewN n) = .ok news.toArray (w.drewN n)
  size : news.length = m * s
  one : ∀ u ∈ news, u.oneCell' = true

theorem Src.nil (P : Program) (s : Nat) (w : World) : Src P s w (.slice none 0 0) 0 [] :=
  ⟨fun _ => rfl, fun _ => rfl, by simp, by simp⟩

theorem Src.slice {P : Program} {s : Nat} {w : World} {b o m c : Nat} {news : List Value} (hl : news.length = m * s) (h : ∀ j u, news[j]? = some u → w.cell? ⟨b, o + j, none⟩ = some u) (h1 : ∀ u ∈ news, u.oneCell' = true) :
    Src P s w (.slice (some ⟨b, o, none⟩) m c) m news where
  len := fun _ => rfl
  cells := fun n => by
    show (loadCells ⟨b, o, none⟩ (m * s)).run P (w.drewN n) = _
    rw [← hl]
    exact run_loadCells_list _ _ news (fun j v hj => by rw [Addr.add_lit]; exact h j v hj)
  size := hl
  one := h1

theorem Src.string {P : Program} {w : World} (b : ByteArray) : Src P 1 w (.string b) b.size (b.data.toList.map fun x => Value.int .u8 x.toNat) where
  len := fun _ => rfl
  cells := fun n => by
    show (Pure.pure _ : Sem _).run P _ = _
    rw [Sem.run_pure]
    congr 1
    apply Array.ext'
    have e : (b.extract 0 b.size).data = b.data := by
      have := ByteArray.extract_zero_size (b := b)
      rw [this]
    simp [e]
  size := by rw [List.length_map, Nat.mul_one]; rfl
  one := by
    intro u hu
    obtain ⟨_, _, rfl⟩ := List.mem_map.1 hu
    rfl

theorem block_split (g : Nat) (e : TypeId) (xs ys : List Value) : block g e (xs ++ ys) = hdr g e (xs ++ ys).length * (cells g 0 xs * cells g xs.length ys) := by
  unfold block
  rw [cells_append]
  simp

theorem zeroCells_len (z : Array Value) (n : Nat) : (Builtin.zeroCells z n).size = n * z.size := by simp [Builtin.zeroCells]

structure ElemOk (P : Program) (t e s bytes : Nat) (i : TypeInfo) (z : Value) : Prop where
  und : P.underlying t = some (.slice e)
  info : P.info? e = some i
  zero : i.zero = some z
  size : i.size = s
  bytes : i.bytes = bytes
  zs : z.cells.size = s
  pos : 0 < s

theorem elemOk {P : Program} {t e s bytes : Nat} {z : Value} (ht : P.underlying t = some (.slice e)) (h : (P.info? e).map (fun i => (i.zero, i.size, i.bytes)) = some (some z, s, bytes)) (hz : z.cells.size = s) (hs : 0 < s) :
    ∃ i, ElemOk P t e s bytes i z := by
  obtain ⟨i, h1, h2, h3, h4⟩ := info_parts h
  exact ⟨i, ht, h1, h2, h3, h4, hz, hs⟩

theorem run_append_sl {P : Program} {t e s bytes : Nat} {i : TypeInfo} {z : Value} (E : ElemOk P t e s bytes i z) {tx : TypeId} {dx : TypeDesc} (htx : P.underlying tx = some dx) (hdx : ∀ k, dx ≠ .int k) (ty : TypeId)
    {base : Option Addr} {n cap m : Nat} {xs news : List Value} {x : Value} {F : Assn} {w : World}
    (hs : Sat (rw e s (.slice base n cap) xs * F) w) (hx : Src P s w x m news) (h63 : n + m ≤ maxLen) (hbound : (n + m) * bytes ≤ 140737488355328) :
    ∃ a' c' w', (Builtin.append_ #[t, tx] ty #[.slice base n cap, x]).run P w = .ok (.slice a' (n + m) c') w' ∧ Sat (rw e s (.slice a' (n + m) c') (xs ++ news) * F) w' ∧ (a' = none ↔ base = none ∧ m = 0) := by
  have hsz : (sizeOf e).run P w = .ok s w := by simp [sizeOf, typeInfo, E.info, E.size]
  have hxl : (Builtin.lenOf x).run P w = .ok m w := by simpa [World.drewN] using hx.len 0
  have hxc : (Builtin.firstCells s m x).run P w = .ok news.toArray w := by simpa [World.drewN] using hx.cells 0
  have hnz : (match dx with | .int _ => true | _ => false) = false := by
    cases dx <;> first | rfl | exact absurd rfl (hdx _)
  by_cases hfit : n + m ≤ cap
  · -- there is room
    rcases hs.rw_open with ⟨h1, h2, h3⟩ | ⟨g, n', cap', sp, h1, h2, h3, h4, h5, h6⟩
    · cases h1
      have hm : m = 0 := by omega
      subst hm
      have hn : news = [] := by have := hx.size; simpa using this
      subst hn h2
      refine ⟨none, 0, w, ?_, hs, by simp⟩
      unfold Builtin.append_
      simp [underlying, E.und, htx, hnz, hsz, hxl, hxc]
    · cases h1
      have hl : news.length ≤ sp.length := by
        rw [hx.size]
        have : xs.length + sp.length = cap * s := by simpa using h3
        have := Nat.mul_le_mul_right s hfit
        rw [Nat.add_mul] at this
        omega
      have hsplit : sp = sp.take news.length ++ sp.drop news.length := (List.take_append_drop _ _).symm
      have hs1 : Sat (cells g (n * s) (sp.take news.length) * (hdr g e (xs ++ sp).length * (cells g 0 xs * (cells g (n * s + news.length) (sp.drop news.length) * F)))) w := by
        refine h6.eq ?_
        rw [block_split]
        conv => lhs; rw [hsplit]
        rw [cells_append, ← h2]
        have : (sp.take news.length).length = news.length := by simp [hl]
        rw [this, List.take_append_drop]
        ac_rfl
      have hs1' : Sat (cells g (n * s + 0) (sp.take news.length) * (hdr g e (xs ++ sp).length * (cells g 0 xs * (cells g (n * s + news.length) (sp.drop news.length) * F)))) w := hs1
      obtain ⟨w', r1, r2⟩ := run_storeCells_sl (P := P) news (sp.take news.length) 0 _ w hs1' (by simp [hl]) hx.one
      refine ⟨some ⟨g, 0, none⟩, cap, w', ?_, ?_, by simp⟩
      · have ea : (⟨g, 0, none⟩ : Addr).add (n * s) = ⟨g, n * s, none⟩ := by rw [Addr.add_lit]; simp
        unfold Builtin.append_
        simp [underlying, E.und, htx, hnz, hsz, hxl, hxc, hfit, ea, r1]
      · refine Sat.rw_shut (sp := sp.drop news.length) ?_ ?_ hfit h5 (r2.eq ?_)
        · simp [h2, hx.size, Nat.add_mul]
        · have : xs.length + sp.length = cap * s := by simpa using h3
          simp only [List.length_append, List.length_drop]
          omega
        · rw [block_split]
          have e1 : (xs ++ news ++ sp.drop news.length).length = (xs ++ sp).length := by simp only [List.length_append, List.length_drop]; omega
          rw [e1, cells_append]
          simp only [Nat.add_zero, Nat.zero_add, List.length_append, ← h2]
          ac_rfl
  · -- it grows
    have hold : ∀ k, (Builtin.firstCells s n (.slice base n cap)).run P (w.drewN k) = .ok xs.toArray (w.drewN k) := by
      intro k
      rcases hs.rw_open with ⟨h1, h2, h3⟩ | ⟨g, n', cap', sp, h1, h2, h3, h4, h5, h6⟩
      · cases h1; subst h2; rfl
      · cases h1
        show (loadCells ⟨g, 0, none⟩ (n * s)).run P (w.drewN k) = _
        rw [← h2]
        refine run_loadCells_list _ _ xs (fun j v hj => ?_)
        rw [Addr.add_lit]
        have h7 : Sat (cells g 0 xs * (hdr g e (xs ++ sp).length * (cells g xs.length sp * F))) (w.drewN k) := (h6.drewN k).eq (by rw [block_split]; ac_rfl)
        exact h7.cells_at j v hj
    have hxs : xs.length = n * s ∧ Sat F w := by
      rcases hs.rw_open with ⟨h1, h2, h3⟩ | ⟨g, n', cap', sp, h1, h2, h3, h4, h5, h6⟩
      · cases h1; subst h2; exact ⟨by simp, h3⟩
      · cases h1; exact ⟨h2, h6.right⟩
    have hgrow := growslice_fits (bytes := bytes) (show cap < n + m by omega) hbound
    have h63' : ¬ ((n + m : Nat) : Int) > IntKind.i64.max := by
      have : n + m ≤ 9223372036854775807 := by simpa [maxLen] using h63
      have e : IntKind.i64.max = 9223372036854775807 := rfl
      rw [e]
      omega
    have hzero : ∀ k, (zeroValue e).run P (w.drewN k) = .ok z (w.drewN k) := by intro k; simp [zeroValue, typeInfo, E.info, E.zero]
    have htyi : ∀ w', (typeInfo e).run P w' = .ok i w' := by intro w'; simp [typeInfo, E.info]
    -- the new capacity
    let q := Question.appendCap (n + m) cap e
    let c' := q.cut (w.tape w.drawn q)
    have hc1 : n + m ≤ c' := by show n + m ≤ (n + m) + _; omega
    have hc2 : c' ≤ maxLen := by
      show (n + m) + _ % (2 ^ 63 - (n + m)) ≤ maxLen
      have h1 : n + m ≤ 9223372036854775807 := by simpa [maxLen] using h63
      have h2 : w.tape w.drawn q % (2 ^ 63 - (n + m)) < 2 ^ 63 - (n + m) := Nat.mod_lt _ (by omega)
      have h3 : maxLen = 9223372036854775807 := rfl
      omega
    let row := xs ++ news ++ (Builtin.zeroCells z.cells (c' - (n + m))).toList
    have hs3 : Sat (block (w.drewN 1).heap.size e row * F) ((w.drewN 1).alloc (.cells row.toArray e)) := by
      have := (hxs.2.drewN 1).alloc row.toArray e
      simpa using this
    refine ⟨some ⟨(w.drewN 1).heap.size, 0, none⟩, c', (w.drewN 1).alloc (.cells row.toArray e), ?_, ?_, ?_⟩
    · have hch : (choose q).run P w = .ok c' (w.drewN 1) := by
        rw [run_choose]
        simp only [q, Question.forced]
        rfl
      have hxc1 := hx.cells 1
      have hold1 := hold 1
      have hz1 := hzero 1
      have hrow : (newRow e (xs.toArray ++ news.toArray ++ Builtin.zeroCells z.cells (c' - (n + m)))).run P (w.drewN 1) = .ok ⟨(w.drewN 1).heap.size, 0, none⟩ ((w.drewN 1).alloc (.cells row.toArray e)) := by
        have e1 : xs.toArray ++ news.toArray ++ Builtin.zeroCells z.cells (c' - (n + m)) = row.toArray := by
          apply Array.ext'; simp [row]
        rw [e1]
        simp [newRow]
      unfold Builtin.append_
      simp only [Sem.run_bind, underlying, run_program, Result.andThen_ok, E.und, htx, List.getElem?_toArray, List.getElem?_cons_zero, List.getElem?_cons_succ, Sem.run_pure, hsz, hnz, hxl]
      have hb : ¬ (Builtin.nextslicecap (n + m) cap * i.bytes > 2 ^ 48) := by
        rw [E.bytes]
        have : (2 : Nat) ^ 48 = 281474976710656 := by decide
        omega
      simp only [Bool.false_eq_true, if_false, Sem.run_bind, Sem.run_pure, hxl, Result.andThen_ok, hfit, htyi, hb, h63', false_and, run_askRoom, hold1, hxc1, hz1, hrow]
      simp only [show (Question.appendCap (n + m) cap e) = q from rfl, hch, Result.andThen_ok, htyi, run_askRoom, hold1, hxc1, hz1, hrow, Bool.not_false, if_true]
    · refine Sat.rw_shut (sp := (Builtin.zeroCells z.cells (c' - (n + m))).toList) ?_ ?_ hc1 hc2 hs3
      · simp [hxs.1, hx.size, Nat.add_mul]
      · simp only [List.length_append, Array.length_toList, zeroCells_len, E.zs, hxs.1, hx.size]
        rw [← Nat.add_mul, ← Nat.add_mul]
        congr 1
        omega
    · have : ¬ (base = none ∧ m = 0) := by
        rintro ⟨rfl, rfl⟩
        rcases hs.rw_open with ⟨h1, h2, h3⟩ | ⟨g, n', cap', sp, h1, _⟩
        · cases h1; omega
        · cases h1
      simp [this]

theorem wpl_append {P : Program} {t e s bytes : Nat} {i : TypeInfo} {z : Value} (E : ElemOk P t e s bytes i z) {tx : TypeId} {dx : TypeDesc} (htx : P.underlying tx = some dx) (hdx : ∀ k, dx ≠ .int k)
    {ops : Array Oper} {Q : Exit → Act → World → Prop} {rest : List Oper} {o : Oper} {a : Act} (hgd : o.guard = none) (sop xop : Operand)
    (ho : o.op = .call { callee := .builtin .append, args := #[sop, xop], argTypes := #[t, tx] })
    {base : Option Addr} {n cap m : Nat} {xs news : List Value} {x : Value} {F : Assn} {w : World} (hsv : a.eval sop = .slice base n cap) (hxv : a.eval xop = x)
    (hs : Sat (rw e s (.slice base n cap) xs * F) w) (hx : Src P s w x m news) (h63 : n + m ≤ maxLen) (hbound : (n + m) * bytes ≤ 140737488355328)
    (h : ∀ a' c' w', Sat (rw e s (.slice a' (n + m) c') (xs ++ news) * F) w' → (a' = none ↔ base = none ∧ m = 0) → wpList P ops Q rest (a.put o.dst (.slice a' (n + m) c')) w') :
    wpList P ops Q (o :: rest) a w := by
  refine wpList_plain hgd fun K hK => ?_
  obtain ⟨a', c', w', r1, r2, r3⟩ := run_append_sl E htx hdx o.type hs hx h63 hbound
  unfold Oper.wp
  simp [execOp, ho, resolve, invoke, builtin, hsv, hxv, r1, Result.andThen]
  exact hK _ _ (h a' c' w' r2 r3)

theorem wpl_append_same {P : Program} {t e s bytes : Nat} {i : TypeInfo} {z : Value} (E : ElemOk P t e s bytes i z)
    {ops : Array Oper} {Q : Exit → Act → World → Prop} {rest : List Oper} {o : Oper} {a : Act} (hgd : o.guard = none) (sop xop : Operand)
    (ho : o.op = .call { callee := .builtin .append, args := #[sop, xop], argTypes := #[t, t] })
    {base : Option Addr} {n cap m : Nat} {xs news : List Value} {x : Value} {F : Assn} {w : World} (hsv : a.eval sop = .slice base n cap) (hxv : a.eval xop = x)
    (hs : Sat (rw e s (.slice base n cap) xs * F) w) (hx : Src P s w x m news) (h63 : n + m ≤ maxLen) (hbound : (n + m) * bytes ≤ 140737488355328)
    (h : ∀ a' c' w', Sat (rw e s (.slice a' (n + m) c') (xs ++ news) * F) w' → (a' = none ↔ base = none ∧ m = 0) → wpList P ops Q rest (a.put o.dst (.slice a' (n + m) c')) w') :
    wpList P ops Q (o :: rest) a w :=
  wpl_append E E.und (fun k hk => by cases hk) hgd sop xop ho hsv hxv hs hx h63 hbound h

/-- append as one step of a region that draws its order -/
theorem step_append_sl {P : Program} {t e s bytes : Nat} {i : TypeInfo} {z : Value} (E : ElemOk P t e s bytes i z) {ops : Array Oper} {o : Oper} {a : Act} {w : World} {K : Act → World → Prop} {Q : Exit → Act → World → Prop} {X : Prop}
    (hgd : o.guard = none) (sop xop : Operand) (ho : o.op = .call { callee := .builtin .append, args := #[sop, xop], argTypes := #[t, t] })
    {base : Option Addr} {n cap m : Nat} {xs news : List Value} {x : Value} {F : Assn} (hsv : a.eval sop = .slice base n cap) (hxv : a.eval xop = x)
    (hs : Sat (rw e s (.slice base n cap) xs * F) w) (hx : Src P s w x m news) (h63 : n + m ≤ maxLen) (hbound : (n + m) * bytes ≤ 140737488355328)
    (h : ∀ a' c' w', Sat (rw e s (.slice a' (n + m) c') (xs ++ news) * F) w' → (a' = none ↔ base = none ∧ m = 0) → K (a.put o.dst (.slice a' (n + m) c')) w') :
    if Region.wanted o (yielded ops a.tmps) = true then Oper.wp P o a w K Q else X := by
  have hw : Region.wanted o (yielded ops a.tmps) = true := by simp [Region.wanted, hgd]
  rw [if_pos hw]
  obtain ⟨a', c', w', r1, r2, r3⟩ := run_append_sl E E.und (fun k hk => by cases hk) o.type hs hx h63 hbound
  unfold Oper.wp
  simp [execOp, ho, resolve, invoke, builtin, hsv, hxv, r1, Result.andThen]
  exact h a' c' w' r2 r3

/-- 'append(xs, v)' behind the new block of the one element -/
theorem Src.one_new {P : Program} {w : World} {b e : Nat} {v : Value} {F : Assn} (hs : Sat (block b e [v] * F) w) (hv : v.oneCell' = true) : Src P 1 w (.slice (some ⟨b, 0, none⟩) 1 1) 1 [v] := by
  refine Src.slice rfl (fun j u hj => ?_) (fun u hu => by simp at hu; subst hu; exact hv)
  cases j with
  | zero =>
    simp at hj; subst hj
    have : Sat (Sl.cell b 0 v * (hdr b e 1 * F)) w := hs.eq (by simp only [block, Sl.cells, sep_one, List.length_cons, List.length_nil, Nat.zero_add]; ac_rfl)
    exact this.cell
  | succ j => simp at hj

/-- .. of an element of several cells -/
theorem Src.new {P : Program} {w : World} {b e s : Nat} {vs : List Value} {F : Assn} (hs : Sat (block b e vs * F) w) (hl : vs.length = s) (hv : ∀ v ∈ vs, v.oneCell' = true) : Src P s w (.slice (some ⟨b, 0, none⟩) 1 1) 1 vs := by
  refine Src.slice (by omega) (fun j u hj => ?_) hv
  have h7 : Sat (Sl.cells b 0 vs * (hdr b e vs.length * F)) w := hs.eq (by unfold block; ac_rfl)
  exact h7.cells_at j u hj

theorem drew_drewN (w : World) (n : Nat) : w.drew.drewN n = w.drewN (1 + n) := by
  show ({ w with drawn := w.drawn + 1 + n } : World) = { w with drawn := w.drawn + (1 + n) }
  rw [Nat.add_assoc]

theorem Src.drew {P : Program} {w : World} {s m : Nat} {x : Value} {news : List Value} (h : Src P s w x m news) : Src P s w.drew x m news :=
  ⟨fun n => by rw [drew_drewN]; exact h.len (1 + n), fun n => by rw [drew_drewN]; exact h.cells (1 + n), h.size, h.one⟩

theorem Sat.rw_len {e : Nat} {a : Option Addr} {n c : Nat} {xs : List Value} {F : Assn} {w : World} (hs : Sat (rw e 1 (.slice a n c) xs * F) w) : n = xs.length := by
  rcases hs.rw_open with ⟨h1, h2, h3⟩ | ⟨g, n', cap', sp, h1, h2, h3, h4, h5, h6⟩
  · cases h1; subst h2; rfl
  · cases h1; simpa using h2.symm

end Go.Sl
