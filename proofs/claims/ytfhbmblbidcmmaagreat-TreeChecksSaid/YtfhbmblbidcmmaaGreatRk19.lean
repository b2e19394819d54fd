/-
  Of any pages in a file a root is found to be a tree just if it is one in the form of the document. No condition. (part 19)
-/
import Derived.Test.YtfhbmblbidcmmaaGreatRk17
import Derived.Test.YtfhbmblbidcmmaaGreatRk1
import Derived.Test.YtfhbmblbidcmmaaGreatRk18
set_option linter.unusedSimpArgs false
set_option linter.unusedVariables false
namespace Go.Proofs.YtfhbmblbidcmmaaGreat
set_option linter.unusedSimpArgs false
set_option linter.unusedVariables false
open Go.RowKit Go.Sl Go.Dk
attribute [local go_sem ↓] Go.wp_at_zero Go.wp_at_succ
/-! The first loop: each file is as it was safe. -/
/-! The second loop: the pieces that are kept are laid, one behind the other. -/
theorem ofName_snoc (nm : ByteArray) (L : List Pc) (p : Pc) : ofName nm (L ++ [p]) = if p.nm = nm then ofName nm L ++ [p] else ofName nm L := by
 unfold ofName
 rw [List.filter_append]
 have e : (p.nm == nm) = decide (p.nm = nm) := bytes_beq _ _
 by_cases h : p.nm = nm
 · have e' : (p.nm == nm) = true := by rw [e]; simpa using h
   rw [if_pos h]
   simp [List.filter_cons, e']
 · have e' : (p.nm == nm) = false := by rw [e]; simpa using h
   rw [if_neg h]
   simp [List.filter_cons, e']
def keptB (L : List Pc) (s : ByteArray) : Bool := (ofName s L).any fun p => p.b.isSome
def KeptIs (L : List Pc) (kl : List (ByteArray × Value)) : Prop := ∀ s, mget s kl = if keptB L s then some (.bool true) else none
theorem mget_mput [DecidableEq ByteArray] (k s : ByteArray) (v : Value) (l : List (ByteArray × Value)) : mget s (mput k v l) = if s = k then some v else mget s l := by
 induction l with
 | nil => simp only [mput, mget]
 | cons p l ih =>
   unfold mput
   by_cases hk : k = p.1
   · rw [if_pos hk]
     simp only [mget]
     by_cases hs : s = k
     · simp [hs]
     · have : ¬ s = p.1 := fun e => hs (e.trans hk.symm)
       simp [hs, this]
   · rw [if_neg hk]
     simp only [mget, ih]
     by_cases hs : s = p.1
     · have : ¬ s = k := fun e => hk (e.symm.trans hs)
       simp [hs, this]
       intro e; exact absurd e.symm hk
     · simp [hs]
theorem KeptIs.cut {L : List Pc} {kl : List (ByteArray × Value)} (h : KeptIs L kl) {p : Pc} (hp : p.b = none) : KeptIs (L ++ [p]) kl := by
 intro s
 rw [h s]
 have : keptB (L ++ [p]) s = keptB L s := by
  unfold keptB
  rw [ofName_snoc]
  split <;> simp [hp]
 rw [this]
theorem KeptIs.put {L : List Pc} {kl : List (ByteArray × Value)} (h : KeptIs L kl) {p : Pc} (hp : p.b.isSome = true) : KeptIs (L ++ [p]) (mput p.nm (.bool true) kl) := by
 intro s
 rw [mget_mput, h s]
 have : keptB (L ++ [p]) s = if s = p.nm then true else keptB L s := by
  unfold keptB
  rw [ofName_snoc]
  by_cases e : s = p.nm
  · simp [e, hp]
  · rw [if_neg (fun h : p.nm = s => e h.symm), if_neg e]
 rw [this]
 by_cases e : s = p.nm <;> simp [e]
/-! The third loop: what was kept is safe. -/
end Go.Proofs.YtfhbmblbidcmmaaGreat
namespace Go.Proofs.YtfhbmblbidcmmaaGreat
set_option linter.unusedSimpArgs false
set_option linter.unusedVariables false
open Go.Dk
theorem fput_mem {nm : ByteArray} {f : Fl} {p : ByteArray × Fl} : ∀ {fs : List (ByteArray × Fl)}, p ∈ fput nm f fs → p = (nm, f) ∨ p ∈ fs
 | [], h => by simp [fput] at h; exact .inl h
 | q :: l, h => by
   unfold fput at h
   split at h
   · rcases List.mem_cons.1 h with h | h
     · exact .inl h
     · exact .inr (List.mem_cons_of_mem _ h)
   · rcases List.mem_cons.1 h with h | h
     · exact .inr (by simp [h])
     · rcases fput_mem h with h | h
       · exact .inl h
       · exact .inr (List.mem_cons_of_mem _ h)
theorem fput_nodup {nm : ByteArray} {f : Fl} : ∀ {fs : List (ByteArray × Fl)}, (fs.map (·.1)).Nodup → ((fput nm f fs).map (·.1)).Nodup
 | [], _ => by simp [fput]
 | q :: l, h => by
   simp only [List.map_cons, List.nodup_cons] at h
   unfold fput
   by_cases hk : nm = q.1
   · rw [if_pos hk]; simp only [List.map_cons, List.nodup_cons, hk]; exact h
   · rw [if_neg hk]
     simp only [List.map_cons, List.nodup_cons]
     refine ⟨?_, fput_nodup h.2⟩
     intro hm
     obtain ⟨p, hp, e⟩ := List.mem_map.1 hm
     rcases fput_mem hp with rfl | hp
     · exact hk e
     · exact h.1 (List.mem_map.2 ⟨p, hp, e⟩)
theorem fput_len {nm : ByteArray} {f : Fl} : ∀ {fs : List (ByteArray × Fl)}, (fput nm f fs).length = if (fget nm fs).isSome then fs.length else fs.length + 1
 | [] => by simp [fput, fget]
 | q :: l => by
   unfold fput fget
   by_cases hk : nm = q.1
   · rw [if_pos hk, if_pos hk]; simp
   · rw [if_neg hk, if_neg hk]
     have := fput_len (nm := nm) (f := f) (fs := l)
     simp only [List.length_cons, this]
     split <;> rfl
theorem fget_fput {nm k : ByteArray} {f : Fl} : ∀ {fs : List (ByteArray × Fl)}, fget k (fput nm f fs) = if k = nm then some f else fget k fs
 | [] => by simp [fput, fget]
 | q :: l => by
   unfold fput
   by_cases hk : nm = q.1
   · rw [if_pos hk]
     unfold fget
     by_cases h : k = nm
     · simp [h]
     · have : ¬ k = q.1 := fun e => h (e.trans hk.symm)
       simp [h, this]
   · rw [if_neg hk]
     unfold fget
     rw [fget_fput (fs := l)]
     by_cases h : k = q.1
     · have : ¬ k = nm := fun e => hk (e.symm.trans h)
       rw [if_pos h, if_neg this, if_pos h]
     · simp [h]
theorem fget_mem {k : ByteArray} {f : Fl} : ∀ {fs : List (ByteArray × Fl)}, fget k fs = some f → (k, f) ∈ fs
 | [], h => by simp [fget] at h
 | q :: l, h => by
   unfold fget at h
   split at h
   · rename_i e; cases h; simp [e]
   · exact List.mem_cons_of_mem _ (fget_mem h)
theorem had_le_sum {nm : ByteArray} : ∀ {fs : List (ByteArray × Fl)}, had (fget nm fs) ≤ sum fs
 | [] => by simp [fget, had]
 | q :: l => by
   have ih := had_le_sum (nm := nm) (fs := l)
   unfold fget
   split
   · simp [had, Dk.sum]
   · simp only [Dk.sum, List.map_cons, List.sum_cons] at ih ⊢; omega
theorem fits_size {m : Nat} {d : Dk} (ok : Ok m d) {nm : ByteArray} {n : Int} (h : d.fits (d.get nm) n = 0) (h0 : 0 ≤ n) : n ≤ big ∧ ((d.get nm).isSome = false → d.files.length < 16) := by
 unfold Dk.fits at h
 by_cases h1 : ((d.get nm).isNone && decide (16 ≤ d.files.length)) = true
 · rw [if_pos h1] at h; cases h
 rw [if_neg h1] at h
 by_cases h2 : (decide ((had (d.get nm) : Int) < n) && decide (d.room < (sum d.files : Int) - had (d.get nm) + n)) = true
 · rw [if_pos h2] at h; cases h
 refine ⟨?_, ?_⟩
 · have hs : had (d.get nm) ≤ sum d.files := had_le_sum
   have hr := ok.room
   by_cases h3 : (had (d.get nm) : Int) < n
   · have h4 : ¬ (d.room < (sum d.files : Int) - had (d.get nm) + n) := fun h4 => h2 (by simp [h3, h4])
     omega
   · have h5 : had (d.get nm) ≤ big := by
      cases hg : d.get nm with
      | none => simp [had]
      | some f => exact (ok.sz (nm, f) (fget_mem hg)).1
     omega
 · intro hn
   have hn' : (d.get nm).isNone = true := by cases hg : d.get nm <;> simp_all
   rw [hn'] at h1
   simpa using h1
theorem ok_more {m m' : Nat} {d : Dk} (ok : Ok m d) (h : m ≤ m') : Ok m' d :=
 ⟨ok.nd, ok.room, by have := ok.left; omega, by have := ok.changes; omega, by have := ok.pend; omega, ok.nf, ok.sz, ok.pc, ok.pn⟩
theorem ok_down {m : Nat} {d : Dk} (ok : Ok m d) : Ok m { d with down := true } := ⟨ok.nd, ok.room, ok.left, ok.changes, ok.pend, ok.nf, ok.sz, ok.pc, ok.pn⟩
theorem ok_new (room : Int) (h1 : 0 ≤ room) (h2 : room ≤ big) : Ok 0 (Dk.new room) :=
 ⟨by simp [Dk.new], ⟨h1, h2⟩, by simp [Dk.new], by simp [Dk.new], by simp [Dk.new], by simp [Dk.new], by simp [Dk.new], by simp [Dk.new], by simp [Dk.new]⟩
theorem ok_write {m : Nat} {d : Dk} (ok : Ok m d) (nm : ByteArray) (k : Int) (b : List UInt8) : Ok (m + 1 + b.length) (d.write nm k b).2 := by
 unfold Dk.write
 split
 · exact ok_more ok (by omega)
 split
 · exact ok_more ok (by omega)
 split
 · exact ok_more ok (by omega)
 split
 · exact ok_more ok (by omega)
 split
 · exact ok_down (ok_more ok (by omega))
 rename_i hm hr hb hf hst
 have hf' : d.fits (d.get nm) (max (had (d.get nm)) (k + b.length)) = 0 := by simpa using hf
 obtain ⟨k, rfl⟩ := Int.eq_ofNat_of_zero_le (show 0 ≤ k by omega)
 obtain ⟨g1, g2⟩ := fits_size ok hf' (by omega)
 have hkb : k + b.length ≤ big := by omega
 simp only [Int.toNat_natCast] at *
 show Ok _ (d.written nm k b)
 have hfl : (((d.get nm).getD Dk.fl0).now.length ≤ big) ∧ (((d.get nm).getD Dk.fl0).safe.length ≤ big) := by
  cases hg : d.get nm with
  | none => simp [Dk.fl0]
  | some f => exact ok.sz (nm, f) (fget_mem hg)
 refine ⟨fput_nodup ok.nd, ok.room, ?_, ?_, ?_, ?_, ?_, ?_, ?_⟩
 · have := ok.left; show -((m + 1 + b.length : Nat) : Int) ≤ d.left - 1 ∧ d.left - 1 ≤ _; omega
 · have := ok.changes; show 0 ≤ d.changes + 1 ∧ d.changes + 1 ≤ ((m + 1 + b.length : Nat) : Int); omega
 · show (d.pend ++ sect nm k b).length ≤ _
   rw [List.length_append]
   have := ok.pend
   have := sect_len nm b.length k b (Nat.le_refl _)
   omega
 · show (fput nm _ d.files).length ≤ 16
   rw [fput_len]
   have := ok.nf
   split
   · exact this
   · rename_i h
     have := g2 (by simpa [Dk.get] using h)
     omega
 · intro p hp
   rcases fput_mem hp with rfl | hp
   · refine ⟨?_, hfl.2⟩
     show (laid _ k b).length ≤ big
     rw [laid_len]; omega
   · exact ok.sz p hp
 · intro p hp
   rcases List.mem_append.1 hp with hp | hp
   · exact ok.pc p hp
   · obtain ⟨_, l, h1, h2, _⟩ := sect_mem nm b.length k b (Nat.le_refl _) p hp
     rw [h1]; simp only [Option.getD_some]; omega
 · intro p hp
   show (fget p.nm (fput nm _ d.files)).isSome = true
   rw [fget_fput]
   split
   · rfl
   · rename_i hne
     rcases List.mem_append.1 hp with hp | hp
     · exact ok.pn p hp
     · exact absurd (sect_mem nm b.length k b (Nat.le_refl _) p hp).1 hne
theorem ok_put {m : Nat} {d : Dk} (ok : Ok m d) {nm : ByteArray} {f : Fl} (h1 : f.now.length ≤ big) (h2 : f.safe.length ≤ big) (h3 : (d.get nm).isSome = false → d.files.length < 16) : Ok m (d.put nm f) := by
 refine ⟨fput_nodup ok.nd, ok.room, ok.left, ok.changes, ok.pend, ?_, ?_, ok.pc, ?_⟩
 · show (fput nm f d.files).length ≤ 16
   rw [fput_len]
   have := ok.nf
   split
   · exact this
   · rename_i h
     have := h3 (by simpa [Dk.get] using h)
     omega
 · intro p hp
   rcases fput_mem hp with rfl | hp
   · exact ⟨h1, h2⟩
   · exact ok.sz p hp
 · intro p hp
   show (fget p.nm (fput nm f d.files)).isSome = true
   rw [fget_fput]
   split
   · rfl
   · exact ok.pn p hp
theorem ok_settled {m : Nat} {d : Dk} (ok : Ok m d) (nm : ByteArray) : Ok m (d.settled nm) := by
 refine ⟨ok.nd, ok.room, ok.left, ok.changes, ?_, ok.nf, ok.sz, fun p hp => ok.pc p (List.mem_filter.1 hp).1, fun p hp => ok.pn p (List.mem_filter.1 hp).1⟩
 have := ok.pend
 have h2 : (d.settled nm).pend.length ≤ d.pend.length := List.length_filter_le _ _
 omega
theorem ok_load {m : Nat} {d : Dk} (ok : Ok m d) (nm : ByteArray) (b : List UInt8) : Ok m (d.load nm b).2 := by
 unfold Dk.load
 split
 · exact ok
 split
 · exact ok
 rename_i h
 have hf : d.fits (d.get nm) (b.length : Nat) = 0 := by simpa using h
 obtain ⟨g1, g2⟩ := fits_size ok hf (by omega)
 exact ok_put (ok_settled ok nm) (by show b.length ≤ big; omega) (by show b.length ≤ big; omega) g2
end Go.Proofs.YtfhbmblbidcmmaaGreat
