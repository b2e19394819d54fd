/-
  DiskSafe: what is known of the one file, whatever other files do (plain); the new reference; the walk.
-/
import Derived.Test.YtjhkmmpgjiciiaaLaw04i
namespace Go.Proofs.Ytjhkmmpgjiciiaa
set_option linter.unusedSimpArgs false
set_option linter.unusedVariables false
open Go.RowKit Go.Sl Go.Dk
attribute [local go_sem ↓] Go.wp_at_zero Go.wp_at_succ
attribute [local go_sem] Go.Sl.cell_sat Go.Sl.frozen_sat

def nmO : ByteArray := ⟨#[111, 119, 110]⟩
def ownF (b : List UInt8) : Option Fl := if b.length = 0 then none else some ⟨b, b, true⟩

structure Own (b : List UInt8) (d : Dk) : Prop where
  pend : ∀ p ∈ d.pend, p.nm ≠ nmO
  get : d.get nmO = ownF b

theorem fget_crash' {nm : ByteArray} {f g : Fl} {L : List Pc} (hc : crashed L (nm, f) = some (nm, g)) : ∀ {fs : List (ByteArray × Fl)}, fget nm fs = some f → fget nm (fs.filterMap (crashed L)) = some g
  | [], h => by simp [fget] at h
  | p :: l, h => by
    obtain ⟨a, b⟩ := p
    unfold fget at h
    rw [List.filterMap_cons]
    by_cases e : nm = a
    · subst e
      rw [if_pos rfl] at h
      cases h
      rw [hc]
      show (if nm = nm then _ else _) = _
      rw [if_pos rfl]
    · rw [if_neg e] at h
      have ih := fget_crash' hc h
      cases hq : crashed L (a, b) with
      | none => exact ih
      | some q =>
        have : q.1 = a := by
          unfold crashed at hq
          split at hq
          · cases hq; rfl
          · cases hq
        show (if nm = q.1 then _ else _) = _
        rw [this, if_neg e]
        exact ih
theorem fget_crash0 {nm : ByteArray} {L : List Pc} : ∀ {fs : List (ByteArray × Fl)}, fget nm fs = none → fget nm (fs.filterMap (crashed L)) = none
  | [], _ => rfl
  | p :: l, h => by
    obtain ⟨a, b⟩ := p
    unfold fget at h
    rw [List.filterMap_cons]
    by_cases e : nm = a
    · rw [if_pos e] at h; cases h
    · rw [if_neg e] at h
      have ih := fget_crash0 (L := L) h
      cases hq : crashed L (a, b) with
      | none => exact ih
      | some q =>
        have : q.1 = a := by
          unfold crashed at hq
          split at hq
          · cases hq; rfl
          · cases hq
        show (if nm = q.1 then _ else _) = _
        rw [this, if_neg e]
        exact ih

theorem Own.crash {b : List UInt8} {d : Dk} (h : Own b d) (zs : List Int) : Own b (d.crash zs) := by
  refine ⟨by simp [Dk.crash], ?_⟩
  have hn : ofName nmO (keep zs 0 d.pend) = [] := by
    unfold ofName
    rw [List.filter_eq_nil_iff]
    intro p hp
    have := h.pend p (keep_sub zs _ 0 p hp)
    rw [bytes_beq]
    simpa using this
  have hg := h.get
  unfold ownF at hg ⊢
  show fget nmO (d.files.filterMap (crashed (keep zs 0 d.pend))) = _
  by_cases hb : b.length = 0
  · rw [if_pos hb] at hg ⊢
    exact fget_crash0 hg
  · rw [if_neg hb] at hg ⊢
    refine fget_crash' ?_ hg
    unfold crashed
    simp [hn]
theorem Own.put {b : List UInt8} {d : Dk} (h : Own b d) {nm : ByteArray} (hn : nm ≠ nmO) (f : Fl) : Own b (d.put nm f) := by
  refine ⟨h.pend, ?_⟩
  show fget nmO (fput nm f d.files) = _
  rw [fget_fput, if_neg (fun e => hn e.symm)]
  exact h.get
theorem Own.settled {b : List UInt8} {d : Dk} (h : Own b d) (nm : ByteArray) : Own b (d.settled nm) := ⟨fun p hp => h.pend p (List.mem_filter.1 hp).1, h.get⟩
theorem Own.step {b : List UInt8} {d : Dk} (h : Own b d) (c : CallD) (zs : List Int) (hn : c.nm ≠ nmO) : Own b (stepD c zs d) := by
  have ht : Own b d.ticked := ⟨h.pend, h.get⟩
  unfold stepD
  split
  · unfold Dk.write
    split
    · exact h
    split
    · exact h
    split
    · exact h
    split
    · exact h
    split
    · exact ⟨h.pend, h.get⟩
    · have h2 := ht.put hn { (d.get c.nm).getD Dk.fl0 with now := laid ((d.get c.nm).getD Dk.fl0).now c.n.toNat (bxl (c.len % 400).toNat c.x) }
      refine ⟨?_, h2.get⟩
      intro p hp
      rcases List.mem_append.1 hp with hp | hp
      · exact h.pend p hp
      · rw [(sect_mem c.nm _ _ _ (Nat.le_refl _) p hp).1]; exact hn
  split
  · unfold Dk.cut
    split
    · exact h
    split
    · exact h
    split
    · exact ⟨h.pend, h.get⟩
    · have h2 := ht.put hn { (d.get c.nm).getD Dk.fl0 with now := ((d.get c.nm).getD Dk.fl0).now.take c.n.toNat }
      refine ⟨?_, h2.get⟩
      intro p hp
      rcases List.mem_append.1 hp with hp | hp
      · exact h.pend p hp
      · simp at hp; subst hp; exact hn
  split
  · unfold Dk.sync
    split
    · exact h
    split
    · exact ⟨h.pend, h.get⟩
    · exact (ht.put hn _).settled _
  split
  · unfold Dk.load
    split
    · exact h
    split
    · exact h
    · exact (h.settled _).put hn _
  split
  · unfold Dk.arm
    split
    · exact h
    · exact ⟨h.pend, h.get⟩
  split
  · exact h.crash zs
  · exact h

theorem own_named : named nmO = true := by decide +kernel
theorem own_new : Own [] (Dk.new 1048576) := ⟨by simp [Dk.new], rfl⟩

/-- the first write and the first sync -/
theorem own_write {b : List UInt8} (h0 : 0 < b.length) (h5 : b.length ≤ 5000) :
    ∃ d, (Dk.new 1048576).write nmO 0 b = (0, d) ∧ Ok 5001 d ∧ ∃ d', d.sync nmO = (0, d') ∧ Own b d' ∧ Ok 5002 d' := by
  have ok0 : Ok 0 (Dk.new 1048576) := ok_new _ (by omega) (by unfold big; omega)
  have hm : (Dk.new 1048576).may nmO false = 0 := may_00 own_named rfl
  have hg : (Dk.new 1048576).get nmO = none := rfl
  have hf : (Dk.new 1048576).fits none (max 0 (0 + (b.length : Int))) = 0 := by
    unfold Dk.fits
    rw [if_neg (by simp [Dk.new]), if_neg]
    simp [Dk.new, Dk.sum, had]
    omega
  have hw : (Dk.new 1048576).write nmO 0 b = (0, (Dk.new 1048576).written nmO 0 b) := by
    unfold Dk.write
    rw [if_neg (by simp [hm]), hg, if_neg (by simp [had]), if_neg (by omega)]
    show (if (Dk.new 1048576).fits none (max 0 (0 + (b.length : Int))) ≠ 0 then _ else _) = _
    rw [if_neg (fun h => h hf)]
    rfl
  have ok1 := ok_write ok0 nmO 0 b
  rw [hw] at ok1
  have ok1' : Ok 5001 ((Dk.new 1048576).written nmO 0 b) := ok_more ok1 (by omega)
  refine ⟨_, hw, ok1', ?_⟩
  have hlaid : laid [] 0 b = b := by simp [laid]
  have hget : ((Dk.new 1048576).written nmO 0 b).get nmO = some ⟨b, [], false⟩ := by
    show fget nmO (fput nmO _ []) = _
    rw [fget_fput, if_pos rfl]
    show some (⟨laid [] 0 b, [], false⟩ : Fl) = _
    rw [hlaid]
  have hm2 : ((Dk.new 1048576).written nmO 0 b).may nmO true = 0 := may_0 own_named rfl hget
  have hs : ((Dk.new 1048576).written nmO 0 b).sync nmO = (0, (((Dk.new 1048576).written nmO 0 b).ticked.put nmO ⟨b, b, true⟩).settled nmO) := by
    unfold Dk.sync
    rw [if_neg (by simp [hm2]), hget]
    rfl
  have ok2 := ok_sync ok1' nmO
  rw [hs] at ok2
  refine ⟨_, hs, ⟨?_, ?_⟩, ok_more ok2 (by omega)⟩
  · intro p hp
    have := (List.mem_filter.1 hp).2
    rw [bne_bytes] at this
    simpa using this
  · show fget nmO (fput nmO _ _) = _
    rw [fget_fput, if_pos rfl]
    unfold ownF
    rw [if_neg (by omega)]

/-- the end -/
theorem own_end0 {b : List UInt8} {d : Dk} (h : Own b d) (hd : d.down = false) (h0 : b.length = 0) : d.read nmO 0 b.length = (6, []) := by
  have hg := h.get
  unfold ownF at hg
  rw [if_pos h0] at hg
  unfold Dk.read
  rw [may_6 own_named hd hg, if_pos (by omega)]
theorem own_end1 {b : List UInt8} {d : Dk} (h : Own b d) (hd : d.down = false) (h0 : b.length ≠ 0) : d.read nmO 0 b.length = (0, b) ∧ d.size nmO = b.length := by
  have hg := h.get
  unfold ownF at hg
  rw [if_neg h0] at hg
  have hm := may_0 own_named hd hg
  refine ⟨?_, ?_⟩
  · unfold Dk.read
    rw [if_neg (by simp [hm]), hg]
    show (if _ then _ else _) = _
    rw [if_neg (by simp)]
    simp
  · unfold Dk.size
    rw [if_neg (by simp [hm]), hg]
    rfl

theorem newRef {W : Nat} {room : Int} {F : Assn} {w : World} (hs : Sat (block W TR [.int .i64 room, .int .i64 0, .int .i64 0, .bool false, .bool false, .slice none 0 0, .slice none 0 0] * F) w) : Sat (refP W (Dk.new room) * F) w := by
  have hs1 := ((hs.rw_nil (e := TRF) (s := 4)).rw_nil (e := TRP) (s := 4))
  refine ref_shut (h := ⟨room, 0, 0, false, false⟩) (fa := none) (fc := 0) (fs := []) (pa := none) (pc := 0) (ps := []) ⟨rfl, rfl, rfl, rfl, fun _ => rfl, .refl _, .nil, rfl⟩ (hs1.eq ?_)
  unfold refA coreR
  simp only [block, Sl.cells, sep_one, List.length_cons, List.length_nil, Nat.zero_add, Nat.reduceAdd, qrows, frows, rfsA, rpsA, List.flatMap_nil, one_sep]
  ac_rfl

end Go.Proofs.Ytjhkmmpgjiciiaa
