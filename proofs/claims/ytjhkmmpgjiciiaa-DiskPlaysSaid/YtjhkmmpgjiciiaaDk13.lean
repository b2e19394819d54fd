/-
  What always holds of a plain disk is kept by every call.
-/
import Derived.Test.YtjhkmmpgjiciiaaDk10
namespace Go.Proofs.Ytjhkmmpgjiciiaa
set_option linter.unusedSimpArgs false
set_option linter.unusedVariables false
open Go.Dk

theorem fput_mem {nm : ByteArray} {f : Fl} {p : ByteArray × Fl} : ∀ {fs : List (ByteArray × Fl)}, p ∈ fput nm f fs → p = (nm, f) ∨ p ∈ fs
  | [], h => by simp [fput] at h; exact .inl h
  | q :: l, h => by
    unfold fput at h
    split at h
    · rcases List.mem_cons.1 h with h | h
      · exact .inl h
      · exact .inr (List.mem_cons_of_mem _ h)
    · rcases List.mem_cons.1 h with h | h
      · exact .inr (by simp [h])
      · rcases fput_mem h with h | h
        · exact .inl h
        · exact .inr (List.mem_cons_of_mem _ h)
theorem fput_nodup {nm : ByteArray} {f : Fl} : ∀ {fs : List (ByteArray × Fl)}, (fs.map (·.1)).Nodup → ((fput nm f fs).map (·.1)).Nodup
  | [], _ => by simp [fput]
  | q :: l, h => by
    simp only [List.map_cons, List.nodup_cons] at h
    unfold fput
    by_cases hk : nm = q.1
    · rw [if_pos hk]; simp only [List.map_cons, List.nodup_cons, hk]; exact h
    · rw [if_neg hk]
      simp only [List.map_cons, List.nodup_cons]
      refine ⟨?_, fput_nodup h.2⟩
      intro hm
      obtain ⟨p, hp, e⟩ := List.mem_map.1 hm
      rcases fput_mem hp with rfl | hp
      · exact hk e
      · exact h.1 (List.mem_map.2 ⟨p, hp, e⟩)
theorem fput_len {nm : ByteArray} {f : Fl} : ∀ {fs : List (ByteArray × Fl)}, (fput nm f fs).length = if (fget nm fs).isSome then fs.length else fs.length + 1
  | [] => by simp [fput, fget]
  | q :: l => by
    unfold fput fget
    by_cases hk : nm = q.1
    · rw [if_pos hk, if_pos hk]; simp
    · rw [if_neg hk, if_neg hk]
      have := fput_len (nm := nm) (f := f) (fs := l)
      simp only [List.length_cons, this]
      split <;> rfl
theorem fget_fput {nm k : ByteArray} {f : Fl} : ∀ {fs : List (ByteArray × Fl)}, fget k (fput nm f fs) = if k = nm then some f else fget k fs
  | [] => by simp [fput, fget]
  | q :: l => by
    unfold fput
    by_cases hk : nm = q.1
    · rw [if_pos hk]
      unfold fget
      by_cases h : k = nm
      · simp [h]
      · have : ¬ k = q.1 := fun e => h (e.trans hk.symm)
        simp [h, this]
    · rw [if_neg hk]
      unfold fget
      rw [fget_fput (fs := l)]
      by_cases h : k = q.1
      · have : ¬ k = nm := fun e => hk (e.symm.trans h)
        rw [if_pos h, if_neg this, if_pos h]
      · simp [h]
theorem fget_mem {k : ByteArray} {f : Fl} : ∀ {fs : List (ByteArray × Fl)}, fget k fs = some f → (k, f) ∈ fs
  | [], h => by simp [fget] at h
  | q :: l, h => by
    unfold fget at h
    split at h
    · rename_i e; cases h; simp [e]
    · exact List.mem_cons_of_mem _ (fget_mem h)
theorem fget_of_mem {p : ByteArray × Fl} : ∀ {fs : List (ByteArray × Fl)}, p ∈ fs → (fget p.1 fs).isSome = true
  | [], h => by simp at h
  | q :: l, h => by
    unfold fget
    split
    · rfl
    · rename_i hk
      rcases List.mem_cons.1 h with rfl | h
      · exact absurd rfl hk
      · exact fget_of_mem h
theorem had_le_sum {nm : ByteArray} : ∀ {fs : List (ByteArray × Fl)}, had (fget nm fs) ≤ sum fs
  | [] => by simp [fget, had]
  | q :: l => by
    have ih := had_le_sum (nm := nm) (fs := l)
    unfold fget
    split
    · simp [had, Dk.sum]
    · simp only [Dk.sum, List.map_cons, List.sum_cons] at ih ⊢; omega

theorem fits_size {m : Nat} {d : Dk} (ok : Ok m d) {nm : ByteArray} {n : Int} (h : d.fits (d.get nm) n = 0) (h0 : 0 ≤ n) : n ≤ big ∧ ((d.get nm).isSome = false → d.files.length < 16) := by
  unfold Dk.fits at h
  by_cases h1 : ((d.get nm).isNone && decide (16 ≤ d.files.length)) = true
  · rw [if_pos h1] at h; cases h
  rw [if_neg h1] at h
  by_cases h2 : (decide ((had (d.get nm) : Int) < n) && decide (d.room < (sum d.files : Int) - had (d.get nm) + n)) = true
  · rw [if_pos h2] at h; cases h
  refine ⟨?_, ?_⟩
  · have hs : had (d.get nm) ≤ sum d.files := had_le_sum
    have hr := ok.room
    by_cases h3 : (had (d.get nm) : Int) < n
    · have h4 : ¬ (d.room < (sum d.files : Int) - had (d.get nm) + n) := fun h4 => h2 (by simp [h3, h4])
      omega
    · have h5 : had (d.get nm) ≤ big := by
        cases hg : d.get nm with
        | none => simp [had]
        | some f => exact (ok.sz (nm, f) (fget_mem hg)).1
      omega
  · intro hn
    have hn' : (d.get nm).isNone = true := by cases hg : d.get nm <;> simp_all
    rw [hn'] at h1
    simpa using h1

theorem ok_more {m m' : Nat} {d : Dk} (ok : Ok m d) (h : m ≤ m') : Ok m' d :=
  ⟨ok.nd, ok.room, by have := ok.left; omega, by have := ok.changes; omega, by have := ok.pend; omega, ok.nf, ok.sz, ok.pc, ok.pn⟩
theorem ok_down {m : Nat} {d : Dk} (ok : Ok m d) : Ok m { d with down := true } := ⟨ok.nd, ok.room, ok.left, ok.changes, ok.pend, ok.nf, ok.sz, ok.pc, ok.pn⟩
theorem ok_new (room : Int) (h1 : 0 ≤ room) (h2 : room ≤ big) : Ok 0 (Dk.new room) :=
  ⟨by simp [Dk.new], ⟨h1, h2⟩, by simp [Dk.new], by simp [Dk.new], by simp [Dk.new], by simp [Dk.new], by simp [Dk.new], by simp [Dk.new], by simp [Dk.new]⟩
theorem ok_arm {m : Nat} {d : Dk} (ok : Ok m d) (n : Int) (hn : n ≤ 9223372036854775807) : Ok m (d.arm n).2 := by
  unfold Dk.arm
  split
  · exact ok
  · exact ⟨ok.nd, ok.room, ⟨by have := ok.left; show -(m : Int) ≤ n; omega, hn⟩, ok.changes, ok.pend, ok.nf, ok.sz, ok.pc, ok.pn⟩

theorem ok_write {m : Nat} {d : Dk} (ok : Ok m d) (nm : ByteArray) (k : Int) (b : List UInt8) : Ok (m + 1 + b.length) (d.write nm k b).2 := by
  unfold Dk.write
  split
  · exact ok_more ok (by omega)
  split
  · exact ok_more ok (by omega)
  split
  · exact ok_more ok (by omega)
  split
  · exact ok_more ok (by omega)
  split
  · exact ok_down (ok_more ok (by omega))
  rename_i hm hr hb hf hst
  have hf' : d.fits (d.get nm) (max (had (d.get nm)) (k + b.length)) = 0 := by simpa using hf
  obtain ⟨k, rfl⟩ := Int.eq_ofNat_of_zero_le (show 0 ≤ k by omega)
  obtain ⟨g1, g2⟩ := fits_size ok hf' (by omega)
  have hkb : k + b.length ≤ big := by omega
  simp only [Int.toNat_natCast] at *
  show Ok _ (d.written nm k b)
  have hfl : (((d.get nm).getD Dk.fl0).now.length ≤ big) ∧ (((d.get nm).getD Dk.fl0).safe.length ≤ big) := by
    cases hg : d.get nm with
    | none => simp [Dk.fl0]
    | some f => exact ok.sz (nm, f) (fget_mem hg)
  refine ⟨fput_nodup ok.nd, ok.room, ?_, ?_, ?_, ?_, ?_, ?_, ?_⟩
  · have := ok.left; show -((m + 1 + b.length : Nat) : Int) ≤ d.left - 1 ∧ d.left - 1 ≤ _; omega
  · have := ok.changes; show 0 ≤ d.changes + 1 ∧ d.changes + 1 ≤ ((m + 1 + b.length : Nat) : Int); omega
  · show (d.pend ++ sect nm k b).length ≤ _
    rw [List.length_append]
    have := ok.pend
    have := sect_len nm b.length k b (Nat.le_refl _)
    omega
  · show (fput nm _ d.files).length ≤ 16
    rw [fput_len]
    have := ok.nf
    split
    · exact this
    · rename_i h
      have := g2 (by simpa [Dk.get] using h)
      omega
  · intro p hp
    rcases fput_mem hp with rfl | hp
    · refine ⟨?_, hfl.2⟩
      show (laid _ k b).length ≤ big
      rw [laid_len]; omega
    · exact ok.sz p hp
  · intro p hp
    rcases List.mem_append.1 hp with hp | hp
    · exact ok.pc p hp
    · obtain ⟨_, l, h1, h2, _⟩ := sect_mem nm b.length k b (Nat.le_refl _) p hp
      rw [h1]; simp only [Option.getD_some]; omega
  · intro p hp
    show (fget p.nm (fput nm _ d.files)).isSome = true
    rw [fget_fput]
    split
    · rfl
    · rename_i hne
      rcases List.mem_append.1 hp with hp | hp
      · exact ok.pn p hp
      · exact absurd (sect_mem nm b.length k b (Nat.le_refl _) p hp).1 hne

theorem ok_put {m : Nat} {d : Dk} (ok : Ok m d) {nm : ByteArray} {f : Fl} (h1 : f.now.length ≤ big) (h2 : f.safe.length ≤ big) (h3 : (d.get nm).isSome = false → d.files.length < 16) : Ok m (d.put nm f) := by
  refine ⟨fput_nodup ok.nd, ok.room, ok.left, ok.changes, ok.pend, ?_, ?_, ok.pc, ?_⟩
  · show (fput nm f d.files).length ≤ 16
    rw [fput_len]
    have := ok.nf
    split
    · exact this
    · rename_i h
      have := h3 (by simpa [Dk.get] using h)
      omega
  · intro p hp
    rcases fput_mem hp with rfl | hp
    · exact ⟨h1, h2⟩
    · exact ok.sz p hp
  · intro p hp
    show (fget p.nm (fput nm f d.files)).isSome = true
    rw [fget_fput]
    split
    · rfl
    · exact ok.pn p hp
theorem ok_settled {m : Nat} {d : Dk} (ok : Ok m d) (nm : ByteArray) : Ok m (d.settled nm) := by
  refine ⟨ok.nd, ok.room, ok.left, ok.changes, ?_, ok.nf, ok.sz, fun p hp => ok.pc p (List.mem_filter.1 hp).1, fun p hp => ok.pn p (List.mem_filter.1 hp).1⟩
  have := ok.pend
  have h2 : (d.settled nm).pend.length ≤ d.pend.length := List.length_filter_le _ _
  omega
theorem ok_ticked {m : Nat} {d : Dk} (ok : Ok m d) : Ok (m + 1) d.ticked := by
  refine ⟨ok.nd, ok.room, ?_, ?_, ?_, ok.nf, ok.sz, ok.pc, ok.pn⟩
  · have := ok.left; show -((m + 1 : Nat) : Int) ≤ d.left - 1 ∧ d.left - 1 ≤ _; omega
  · have := ok.changes; show 0 ≤ d.changes + 1 ∧ d.changes + 1 ≤ ((m + 1 : Nat) : Int); omega
  · have := ok.pend; show d.pend.length ≤ m + 1; omega

theorem ok_load {m : Nat} {d : Dk} (ok : Ok m d) (nm : ByteArray) (b : List UInt8) : Ok m (d.load nm b).2 := by
  unfold Dk.load
  split
  · exact ok
  split
  · exact ok
  rename_i h
  have hf : d.fits (d.get nm) (b.length : Nat) = 0 := by simpa using h
  obtain ⟨g1, g2⟩ := fits_size ok hf (by omega)
  exact ok_put (ok_settled ok nm) (by show b.length ≤ big; omega) (by show b.length ≤ big; omega) g2

theorem ok_sync {m : Nat} {d : Dk} (ok : Ok m d) (nm : ByteArray) : Ok (m + 1) (d.sync nm).2 := by
  unfold Dk.sync
  split
  · exact ok_more ok (by omega)
  split
  · exact ok_down (ok_more ok (by omega))
  rename_i h _
  have hm : d.may nm true = 0 := by simpa using h
  have hg := may_some hm
  obtain ⟨f, hf⟩ := Option.isSome_iff_exists.1 hg
  have hz := ok.sz (nm, f) (fget_mem hf)
  have e : (d.get nm).getD Dk.fl0 = f := by rw [hf]; rfl
  simp only [e]
  exact ok_settled (ok_put (f := { f with safe := f.now, sure := true }) (ok_ticked ok) hz.1 hz.1 (fun h => by have h' : (d.get nm).isSome = false := h; rw [hg] at h'; cases h')) nm

theorem ok_cut {m : Nat} {d : Dk} (ok : Ok m d) (nm : ByteArray) (n : Int) : Ok (m + 1) (d.cut nm n).2 := by
  unfold Dk.cut
  split
  · exact ok_more ok (by omega)
  split
  · exact ok_more ok (by omega)
  split
  · exact ok_down (ok_more ok (by omega))
  rename_i h hr _
  have hm : d.may nm true = 0 := by simpa using h
  have hg := may_some hm
  obtain ⟨f, hf⟩ := Option.isSome_iff_exists.1 hg
  have hz := ok.sz (nm, f) (fget_mem hf)
  have e : (d.get nm).getD Dk.fl0 = f := by rw [hf]; rfl
  have hhad : had (d.get nm) = f.now.length := by rw [hf]; rfl
  rw [hhad] at hr
  have hz1 : f.now.length ≤ big := hz.1
  simp only [e]
  have h1 := ok_put (ok_ticked ok) (nm := nm) (f := { f with now := f.now.take n.toNat }) (by show (f.now.take n.toNat).length ≤ big; rw [List.length_take]; omega) hz.2 (fun h => by have h' : (d.get nm).isSome = false := h; rw [hg] at h'; cases h')
  refine ⟨h1.nd, h1.room, h1.left, h1.changes, ?_, h1.nf, h1.sz, ?_, ?_⟩
  · show (d.pend ++ [_]).length ≤ m + 1
    have := ok.pend
    simp; omega
  · intro p hp
    rcases List.mem_append.1 hp with hp | hp
    · exact ok.pc p hp
    · simp at hp; subst hp; simp; omega
  · intro p hp
    rcases List.mem_append.1 hp with hp | hp
    · exact h1.pn p hp
    · simp at hp; subst hp
      show (fget nm (fput nm _ d.files)).isSome = true
      rw [fget_fput]; simp

theorem ok_crash {m : Nat} {d : Dk} (ok : Ok m d) (picks : List Int) : Ok m (d.crash picks) := by
  have hkey : ∀ (fs : List (ByteArray × Fl)) (L : List Pc), ((fs.filterMap (crashed L)).map (·.1)).Sublist (fs.map (·.1)) := by
    intro fs L
    induction fs with
    | nil => simp
    | cons p l ih =>
      rw [List.filterMap_cons]
      unfold crashed
      split
      · exact ih.cons _
      · rename_i q hq
        split at hq
        · cases hq; exact ih.cons_cons _
        · cases hq
  refine ⟨ok.nd.sublist (hkey _ _), ok.room, ok.left, ok.changes, by show ([] : List Pc).length ≤ m; simp, ?_, ?_, by simp [Dk.crash], by simp [Dk.crash]⟩
  · have := (hkey d.files (keep picks 0 d.pend)).length_le
    have h2 := ok.nf
    simp only [List.length_map] at this
    show (d.files.filterMap _).length ≤ 16
    omega
  · intro p hp
    obtain ⟨q, hq, hc⟩ := List.mem_filterMap.1 hp
    unfold crashed at hc
    split at hc
    · cases hc
      have : ((ofName q.1 (keep picks 0 d.pend)).foldl lain q.2.safe).length ≤ big := lains_len _ _ _ (ok.sz q hq).2 fun x hx => ok.pc x (keep_sub picks _ 0 x (List.mem_filter.1 hx).1)
      exact ⟨this, this⟩
    · cases hc

end Go.Proofs.Ytjhkmmpgjiciiaa
