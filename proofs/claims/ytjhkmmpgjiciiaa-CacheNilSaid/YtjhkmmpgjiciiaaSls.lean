/-
  Ranging over a map in whatever order; a row that is written anew.
-/
import Derived.Test.YtjhkmmpgjiciiaaSla
namespace Go.Sl
set_option linter.unusedSimpArgs false
set_option linter.unusedVariables false

/-- a whole row of cells turned, all else as it was -/
theorem Sat.reblock {b t : Nat} {xs ys : List Value} {F : Assn} {w w' : World} (hs : Sat (block b t xs * F) w) (hl : ys.length = xs.length)
    (hb : w'.heap[b]? = some (.cells ys.toArray t (0, 0))) (ho : ∀ k, k < w.heap.size → k ≠ b → w'.heap[k]? = w.heap[k]?) (h1 : w'.os = w.os) (h2 : w'.tape = w.tape) (h3 : w'.output = w.output) : Sat (block b t ys * F) w' := by
  have hw := hs.block_heap
  obtain ⟨_, ⟨g, k, d, rfl, a, hF⟩, H⟩ := hs
  obtain ⟨g', a1, a2, a3, a4⟩ := block_hp b t ys
  -- what g holds
  have hg : ∀ k', k'.blk = some b → ∀ r, Has w k' r → g k' = none → k' = .raw b := by
    intro k' hk' r hr hn
    obtain ⟨gh, gc, dd, rfl, rfl, ac⟩ := (a : (hdr b t xs.length * cells b 0 xs) g)
    have hcells : ∀ j, j < xs.length → gc (.cell b j) ≠ none := by
      clear hn hr hk' dd
      have key : ∀ (vs : List Value) (i : Nat) (h : Hp), cells b i vs h → ∀ j, j < vs.length → h (.cell b (i + j)) ≠ none := by
        intro vs
        induction vs with
        | nil => intro i h _ j hj; simp at hj
        | cons v vs ih =>
          intro i h hh j hj
          obtain ⟨g1, g2, d1, rfl, rfl, h2⟩ := (hh : (Sl.cell b i v * cells b (i + 1) vs) h)
          rw [Hp.un_ne]
          cases j with
          | zero => exact .inl (by simp [one_self])
          | succ j =>
            right
            have := ih (i + 1) g2 h2 j (by simp at hj; omega)
            have e : i + 1 + j = i + (j + 1) := by omega
            rw [e] at this
            exact this
      intro j hj
      have := key xs 0 gc ac j hj
      simpa using this
    cases k' with
    | raw b' => simp [Key.blk] at hk'; rw [hk']
    | env => simp [Key.blk] at hk'
    | hdr b' =>
      simp [Key.blk] at hk'
      subst hk'
      exact absurd hn (Hp.un_ne.2 (.inl (by simp [one_self])))
    | cell b' i =>
      simp [Key.blk] at hk'
      subst hk'
      cases r <;> simp only [Has] at hr
      obtain ⟨c, tt, e1, e2⟩ := hr
      rw [hw] at e1
      cases e1
      have hi : i < xs.length := by
        rcases Nat.lt_or_ge i xs.length with h | h
        · exact h
        · simp [List.getElem?_eq_none h] at e2
      exact absurd hn (Hp.un_ne.2 (.inr (hcells i hi)))
  have hk : ∀ k' r, k k' = some r → Has w k' r := by
    intro k' r e
    refine H k' r ?_
    rw [Hp.un_comm d]; simp [Hp.un, e]
  have hblk : ∀ k' r, k k' = some r → k'.blk ≠ some b := by
    intro k' r e hb'
    have hgn : g k' = none := by
      cases hh : g k' with
      | none => rfl
      | some r' => exact absurd (.inl rfl) (d k' k' (by simp [hh]) (by simp [e]))
    have hraw := hg k' hb' r (hk k' r e) hgn
    subst hraw
    -- the header of b is held by g
    obtain ⟨gh, gc, dd, rfl, rfl, ac⟩ := (a : (hdr b t xs.length * cells b 0 xs) g)
    exact d (.hdr b) (.raw b) (Hp.un_ne.2 (.inl (by simp [one_self]))) (by simp [e]) (.inr ⟨.inr trivial, rfl⟩)
  refine ⟨g'.un k, ⟨g', k, ?_, rfl, a1, hF⟩, ?_⟩
  · intro k1 k2 e1 e2 hc
    obtain ⟨r, hr⟩ := Option.ne_none_iff_exists'.1 e2
    have hne := hblk k2 r hr
    have hb1 : k1.blk = some b := by rcases a2 k1 e1 with rfl | ⟨j, _, rfl⟩ <;> rfl
    rcases hc with rfl | ⟨_, e⟩
    · exact hne hb1
    · exact hne (e ▸ hb1)
  · intro k1 r e
    unfold Hp.un at e
    cases hg1 : g' k1 with
    | some r' =>
      rw [hg1] at e
      cases e
      rcases a2 k1 (by simp [hg1]) with rfl | ⟨j, hj, rfl⟩
      · rw [a3] at hg1; cases hg1
        exact ⟨_, hb, by simp⟩
      · rw [a4 j ys[j] (by simp [hj])] at hg1; cases hg1
        exact ⟨_, _, hb, by simp [hj]⟩
    | none =>
      rw [hg1] at e
      have hh := hk k1 r e
      have hne := hblk k1 r e
      have hl' := fun b' => Has.lt hh (b := b')
      cases k1 with
      | env => cases r <;> simp only [Has] at hh ⊢; rw [h1, h2, h3]; exact hh
      | raw b' => cases r <;> simp only [Has] at hh ⊢; rw [ho b' (hl' b' rfl) (fun e => hne (by rw [e]; rfl))]; exact hh
      | cell b' i => cases r <;> simp only [Has] at hh ⊢; rw [ho b' (hl' b' rfl) (fun e => hne (by rw [e]; rfl))]; exact hh
      | hdr b' => cases r <;> simp only [Has] at hh ⊢; rw [ho b' (hl' b' rfl) (fun e => hne (by rw [e]; rfl))]; exact hh

/-- one cell of a row, read and written -/
theorem Sat.at_get {b t k : Nat} {vs : List Value} {v : Value} {F : Assn} {w : World} (hs : Sat (block b t vs * F) w) (hk : vs[k]? = some v) : w.cell? ⟨b, k, none⟩ = some v ∧ w.frozen? ⟨b, k, none⟩ = false := by
  have hw := hs.block_heap
  have h7 : Sat (cells b 0 vs * (hdr b t vs.length * F)) w := hs.eq (by unfold block; ac_rfl)
  exact ⟨by have := h7.cells_at k v hk; simpa using this, by simp [World.frozen?, hw]⟩

theorem Sat.at_set {b t k : Nat} {vs : List Value} {F : Assn} {w : World} (hs : Sat (block b t vs * F) w) (hk : k < vs.length) (v' : Value) : Sat (block b t (vs.set k v') * F) (w.setCell ⟨b, k, none⟩ v') := by
  have hw := hs.block_heap
  refine hs.reblock (by simp) ?_ ?_ rfl rfl rfl
  · simp only [World.setCell, Array.getElem?_modify, if_true, hw, Option.map_some]
    simp
  · intro k' _ hne
    simp only [World.setCell, Array.getElem?_modify]
    rw [if_neg (fun e => hne e.symm)]

/-! Ranging. -/
section
variable {κ : Type}

/-- the map o reads as ms; the iterator oi has rem still to come -/
def Iter (kf : κ → Value) (M : Nat) (o oi : Obj) (ms rem : List (κ × Value)) : Prop :=
  ∃ es clock seen, o = .map es clock ∧ oi = .mapIter (some M) clock seen clock ∧
    (es.toList.map fun e => (e.key, e.val)) = ms.map (fun p => (kf p.1, p.2)) ∧ (es.toList.map (·.born)).Nodup ∧ (∀ e ∈ es.toList, e.born < clock) ∧
    ((es.toList.filter fun e => !seen.contains e.born).map fun e => (e.key, e.val)) = rem.map (fun p => (kf p.1, p.2))

theorem Iter.mapIs {kf : κ → Value} {M : Nat} {o oi : Obj} {ms rem : List (κ × Value)} (h : Iter kf M o oi ms rem) : MapIs kf o ms := by
  obtain ⟨es, clock, seen, h1, _, h3, h4, h5, _⟩ := h
  exact ⟨es, clock, h1, h3, h4, h5⟩

theorem run_range_mp {P : Program} {kf : κ → Value} {t kt e : TypeId} (ht : P.underlying t = some (.map kt e)) {w : World} {M : Nat} {o : Obj} {ms : List (κ × Value)} (hb : w.heap[M]? = some o) (ho : MapIs kf o ms) :
    ∃ oi, Iter kf M o oi ms ms ∧ (Instr.range t (.map (some M))).run P w = .ok (.pointer (some ⟨w.heap.size, 0, none⟩)) (w.alloc oi) := by
  obtain ⟨es, clock, rfl, h3, h4, h5⟩ := ho
  have hg : (getObj M).run P w = .ok (.map es clock) w := by simp [getObj, Sem.run, hb]
  refine ⟨.mapIter (some M) clock #[] clock, ⟨es, clock, #[], rfl, rfl, h3, h4, h5, ?_⟩, ?_⟩
  · have : (es.toList.filter fun e => !(#[] : Array Nat).contains e.born) = es.toList := List.filter_eq_self.2 fun e _ => by simp
    rw [this]; exact h3
  · simp [Instr.range, underlying, ht, hg]

theorem filter_push {l : List MapEntry} (hn : (l.map (·.born)).Nodup) {i : Nat} {e : MapEntry} (hi : l[i]? = some e) : (l.filter fun x => x.born != e.born) = l.eraseIdx i := by
  induction l generalizing i with
  | nil => simp
  | cons x l ih =>
    simp only [List.map_cons, List.nodup_cons] at hn
    cases i with
    | zero =>
      simp at hi
      subst hi
      have : (l.filter fun y => y.born != x.born) = l := List.filter_eq_self.2 fun y hy => by
        simp only [bne_iff_ne, ne_eq]
        intro e
        exact hn.1 (List.mem_map.2 ⟨y, hy, e⟩)
      simp [this]
    | succ i =>
      simp at hi
      have hxe : (x.born != e.born) = true := by
        simp only [bne_iff_ne, ne_eq]
        intro h
        exact hn.1 (List.mem_map.2 ⟨e, List.mem_of_getElem? hi, h.symm⟩)
      simp [hxe, ih hn.2 hi]

theorem run_next_mp {P : Program} {kf : κ → Value} {w : World} {M it : Nat} {o oi : Obj} {ms rem : List (κ × Value)} {F : Assn} (hs : Sat (raw M o * (raw it oi * F)) w) (hI : Iter kf M o oi ms rem) (ty : TypeId) :
    (rem = [] ∧ (Instr.next (.pointer (some ⟨it, 0, none⟩)) false ty).run P w = .ok (.tuple #[.bool false]) w) ∨
    ∃ (i : Nat) (k : κ) (v : Value) (oi' : Obj) (w' : World), rem[i]? = some (k, v) ∧ (Instr.next (.pointer (some ⟨it, 0, none⟩)) false ty).run P w = .ok (.tuple #[.bool true, kf k, v]) w' ∧
      Iter kf M o oi' ms (rem.eraseIdx i) ∧ Sat (raw M o * (raw it oi' * F)) w' ∧ (Instr.entry (.pointer (some ⟨it, 0, none⟩))).run P w' = .ok (.tuple #[kf k, v]) w' := by
  have hM := hs.obj
  have hs' : Sat (raw it oi * (raw M o * F)) w := hs.eq (sep_left _ _ _)
  have hit := hs'.obj
  obtain ⟨es, clock, seen, rfl, rfl, h3, h4, h5, h6⟩ := hI
  have hgM : ∀ w0 : World, w0.heap[M]? = some (.map es clock) → (getObj M).run P w0 = .ok (.map es clock) w0 := by intro w0 h; simp [getObj, Sem.run, h]
  have hgi : (getObj it).run P w = .ok (.mapIter (some M) clock seen clock) w := by simp [getObj, Sem.run, hit]
  have hbad : (!seen.isEmpty && !es.isEmpty && es.all fun x => decide (x.born ≥ clock)) = false := by
    cases hes : es.isEmpty with
    | true => simp
    | false =>
      have hne : es.toList ≠ [] := by intro h; simp [Array.isEmpty_iff] at hes; exact hes (by simpa using h)
      obtain ⟨e, he⟩ := List.exists_mem_of_ne_nil _ hne
      have : (es.all fun x => decide (x.born ≥ clock)) = false := by
        rw [← Array.all_toList, List.all_eq_false]
        exact ⟨e, he, by have := h5 e he; simp; omega⟩
      rw [this]; simp
  let left := es.filter fun e => !seen.contains e.born
  have hleft : left.toList = es.toList.filter fun e => !seen.contains e.born := by simp [left]
  have hold : left.filter (fun x => decide (x.born < clock)) = left := by
    apply Array.ext'
    rw [Array.toList_filter]
    refine List.filter_eq_self.2 fun e he => ?_
    rw [hleft] at he
    simpa using h5 e (List.mem_filter.1 he).1
  have hnew : left.filter (fun x => decide (x.born ≥ clock)) = #[] := by
    apply Array.ext'
    rw [Array.toList_filter]
    refine List.filter_eq_nil_iff.2 fun e he => ?_
    rw [hleft] at he
    have := h5 e (List.mem_filter.1 he).1
    simp; omega
  have hlen : left.toList.length = rem.length := by
    have := congrArg List.length h6
    rw [← hleft] at this
    simpa using this
  by_cases hrem : rem = []
  · left
    refine ⟨hrem, ?_⟩
    have hl0 : left = #[] := by
      apply Array.ext'
      have : left.toList.length = 0 := by rw [hlen, hrem]; rfl
      simpa using this
    unfold Instr.next
    simp only [Sem.run_bind, hgi, Result.andThen_ok, hgM w hM, hbad, Bool.false_eq_true, if_false, Sem.run_pure, Sem.run_ite]
    simp only [show (es.filter fun e => !seen.contains e.born) = left from rfl, hold, hnew, hl0]
    simp [run_choose, Question.forced]
  · right
    have hpos : 0 < left.size := by
      have : 0 < rem.length := List.length_pos_iff.2 hrem
      have h : left.size = rem.length := by simpa using hlen
      omega
    have hne : left.isEmpty = false := by
      simp [Array.isEmpty_iff]
      intro h
      rw [h] at hpos
      simp at hpos
    let q := Question.mapNext left.size
    let i := if q.forced then 0 else q.cut (w.tape w.drawn q)
    have hi : i < left.size := by
      show (if q.forced then 0 else q.cut (w.tape w.drawn q)) < left.size
      split
      · exact hpos
      · exact Nat.mod_lt _ hpos
    let wc : World := if q.forced then w else w.drew
    have hch : (choose (.mapNext left.size)).run P w = .ok i wc := by
      rw [run_choose]
      show (if q.forced then _ else _) = _
      by_cases hf : q.forced = true
      · simp only [hf, if_true]
        show _ = Result.ok (if q.forced then 0 else _) (if q.forced then w else w.drew)
        simp [hf]
      · have hf' : q.forced = false := by simpa using hf
        simp only [hf', Bool.false_eq_true, if_false]
        show _ = Result.ok (if q.forced then 0 else _) (if q.forced then w else w.drew)
        simp [hf', q]
    have hsc : Sat (raw M (.map es clock) * (raw it (.mapIter (some M) clock seen clock) * F)) wc := by
      show Sat _ (if q.forced then w else w.drew)
      split
      · exact hs
      · exact hs.drew
    let e := left[i]
    have hget : left.toList[i]? = some e := by simp [e, hi]
    have hrl : i < rem.length := by
      have h : left.size = rem.length := by simpa using hlen
      omega
    obtain ⟨⟨k, v⟩, hkv⟩ : ∃ p, rem[i]? = some p := ⟨rem[i], by simp [hrl]⟩
    have hev : (e.key, e.val) = (kf k, v) := by
      have h7 := congrArg (fun l => l[i]?) h6
      rw [← hleft] at h7
      simp only [List.getElem?_map, hget, hkv, Option.map_some, Option.some.injEq] at h7
      exact h7
    simp only [Prod.mk.injEq] at hev
    have hs2 : Sat (raw it (.mapIter (some M) clock (seen.push e.born) clock) * (raw M (.map es clock) * F)) { wc with heap := wc.heap.setIfInBounds it (.mapIter (some M) clock (seen.push e.born) clock) } :=
      (hsc.eq (sep_left _ _ _)).setRaw _
    have hit2 := (hsc.eq (sep_left _ _ _)).obj
    refine ⟨i, k, v, .mapIter (some M) clock (seen.push e.born) clock, _, hkv, ?_, ?_, hs2.eq (sep_left _ _ _), ?_⟩
    · have hsetr : (setObj it (.mapIter (some M) clock (seen.push e.born) clock)).run P wc = .ok () { wc with heap := wc.heap.setIfInBounds it (.mapIter (some M) clock (seen.push e.born) clock) } := by
        simp [setObj, Sem.run, hit2]
      have hcand : ((if left.isEmpty = true then #[none] else #[]) ++ (left ++ #[]).map some : Array (Option MapEntry)) = left.map some := by simp [hne]
      unfold Instr.next
      simp only [Sem.run_bind, hgi, Result.andThen_ok, hgM w hM, hbad, Bool.false_eq_true, if_false, Sem.run_pure, Sem.run_ite]
      simp only [show (es.filter fun e => !seen.contains e.born) = left from rfl, hold, hnew, hcand, Array.size_map, hch, Result.andThen_ok]
      have hgi2 : (left.map some)[i]? = some (some e) := by simp [hi, e]
      simp only [hgi2, Sem.run_bind, hsetr, Result.andThen_ok, Sem.run_pure, hev.1, hev.2]
    · refine ⟨es, clock, seen.push e.born, rfl, rfl, h3, h4, h5, ?_⟩
      have e1 : (es.toList.filter fun x => !(seen.push e.born).contains x.born) = (es.toList.filter fun x => !seen.contains x.born).filter fun x => x.born != e.born := by
        rw [List.filter_filter]
        congr 1
        funext x
        simp only [Array.contains_push, bne]
        cases seen.contains x.born <;> cases (x.born == e.born) <;> rfl
      have hn2 : (((es.toList.filter fun x => !seen.contains x.born)).map (·.born)).Nodup := h4.sublist (List.Sublist.map _ List.filter_sublist)
      rw [e1, filter_push hn2 (by rw [← hleft]; exact hget), map_eraseIdx, map_eraseIdx, h6]
    · have hM2 : ({ wc with heap := wc.heap.setIfInBounds it (.mapIter (some M) clock (seen.push e.born) clock) } : World).heap[M]? = some (.map es clock) := (hs2.eq (sep_left _ _ _)).obj
      have hit3 := hs2.obj
      have hmem : e ∈ es.toList := by
        have := List.mem_of_getElem? hget
        rw [hleft] at this
        exact (List.mem_filter.1 this).1
      have hfind : es.find? (fun x => x.born == e.born) = some e := by
        rw [← Array.find?_toList]
        have key : ∀ l : List MapEntry, (l.map (·.born)).Nodup → e ∈ l → l.find? (fun x => x.born == e.born) = some e := by
          intro l
          induction l with
          | nil => intro _ h; simp at h
          | cons x l ih =>
            intro hn hm
            simp only [List.map_cons, List.nodup_cons] at hn
            rcases List.mem_cons.1 hm with rfl | hm
            · simp
            · have : (x.born == e.born) = false := by
                simp only [beq_eq_false_iff_ne, ne_eq]
                intro h
                exact hn.1 (List.mem_map.2 ⟨e, hm, h.symm⟩)
              simp [this, ih hn.2 hm]
        exact key _ h4 hmem
      have hgi3 : (getObj it).run P { wc with heap := wc.heap.setIfInBounds it (.mapIter (some M) clock (seen.push e.born) clock) } = .ok (.mapIter (some M) clock (seen.push e.born) clock) { wc with heap := wc.heap.setIfInBounds it (.mapIter (some M) clock (seen.push e.born) clock) } := by
        simp only [getObj, Sem.run, hit3]
      unfold Instr.entry
      simp only [Sem.run_bind, hgi3, Result.andThen_ok, hgM _ hM2, Array.back?_push, Sem.run_pure]
      simp [hfind, hev.1, hev.2]

theorem run_next_sl {P : Program} {kf : κ → Value} {w : World} {M it : Nat} {o oi : Obj} {ms rem : List (κ × Value)} {F : Assn} (hs : Sat (raw M o * (raw it oi * F)) w) (hI : Iter kf M o oi ms rem) :
    (rem = [] ∧ ∀ ty, (Instr.next (.pointer (some ⟨it, 0, none⟩)) false ty).run P w = .ok (.tuple #[.bool false]) w) ∨
    ∃ (i : Nat) (k : κ) (v : Value) (oi' : Obj) (w' : World), rem[i]? = some (k, v) ∧ (∀ ty, (Instr.next (.pointer (some ⟨it, 0, none⟩)) false ty).run P w = .ok (.tuple #[.bool true, kf k, v]) w') ∧
      Iter kf M o oi' ms (rem.eraseIdx i) ∧ Sat (raw M o * (raw it oi' * F)) w' ∧ (Instr.entry (.pointer (some ⟨it, 0, none⟩))).run P w' = .ok (.tuple #[kf k, v]) w' := by
  rcases run_next_mp (P := P) hs hI 0 with ⟨h1, h2⟩ | ⟨i, k, v, oi', w', h1, h2, h3⟩
  · exact .inl ⟨h1, fun _ => h2⟩
  · exact .inr ⟨i, k, v, oi', w', h1, fun _ => h2, h3⟩

theorem perm_eraseIdx {α : Type} : ∀ (l : List α) (i : Nat) (x : α), l[i]? = some x → l.Perm (x :: l.eraseIdx i)
  | [], i, x, h => by simp at h
  | y :: l, 0, x, h => by simp at h; subst h; exact .refl _
  | y :: l, i + 1, x, h => by
    simp at h
    exact ((perm_eraseIdx l i x h).cons y).trans (.swap _ _ _)

end

end Go.Sl
