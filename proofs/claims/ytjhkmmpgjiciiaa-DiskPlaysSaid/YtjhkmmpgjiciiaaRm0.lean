/-
  DiskRooms, plain: how many bytes all files have, and what a write, a cut and a sync make of it.
-/
import Derived.Test.YtjhkmmpgjiciiaaDk14
namespace Go.Proofs.Ytjhkmmpgjiciiaa
set_option linter.unusedSimpArgs false
set_option linter.unusedVariables false
open Go.Dk

theorem sum_fput {nm : ByteArray} {f : Fl} : ∀ (fs : List (ByteArray × Fl)), sum (fput nm f fs) + had (fget nm fs) = sum fs + f.now.length
  | [] => by simp [sum, fput, fget, had]
  | p :: l => by
    unfold fput fget
    by_cases h : nm = p.1
    · rw [if_pos h, if_pos h]; simp [sum, had]; omega
    · rw [if_neg h, if_neg h]
      have := sum_fput (nm := nm) (f := f) l
      have e1 : sum (p :: fput nm f l) = p.2.now.length + sum (fput nm f l) := by simp [sum]
      have e2 : sum (p :: l) = p.2.now.length + sum l := by simp [sum]
      omega

structure Rm (R : Int) (m : Nat) (d : Dk) : Prop where
  ok : Ok m d
  down : d.down = false
  armed : d.armed = false
  room : d.room = R
  sum : (sum d.files : Int) ≤ R
  named : ∀ p ∈ d.files, Dk.named p.1 = true

theorem Rm.new {R : Int} (h0 : 0 ≤ R) (h1 : R ≤ 2000) : Rm R 0 (Dk.new R) :=
  ⟨ok_new R h0 (by unfold big; omega), rfl, rfl, rfl, by simp [Dk.new, Go.Dk.sum]; exact h0, by simp [Dk.new]⟩
theorem Rm.free {R : Int} {m : Nat} {d : Dk} (h : Rm R m d) : d.free = R - Go.Dk.sum d.files := by
  unfold Dk.free; rw [h.room]; have := h.sum; omega
theorem Rm.had {R : Int} {m : Nat} {d : Dk} (h : Rm R m d) (nm : ByteArray) : max 0 (d.size nm) = (Go.Dk.had (d.get nm) : Int) := by
  unfold Dk.size
  cases hg : d.get nm with
  | none =>
    rw [if_pos]
    · simp [Go.Dk.had]; rfl
    · unfold Dk.may
      rw [hg]
      split
      · decide
      · simp [h.down]
  | some f =>
    have hn : Dk.named nm = true := h.named (nm, f) (fget_mem hg)
    rw [if_neg (by rw [may_there hn h.down hg]; simp)]
    simp [Go.Dk.had]
theorem Rm.had_le {R : Int} {m : Nat} {d : Dk} (h : Rm R m d) (nm : ByteArray) : (Go.Dk.had (d.get nm) : Int) ≤ R := by
  have := had_le_sum (nm := nm) (fs := d.files)
  have h2 := h.sum
  have : Go.Dk.had (d.get nm) ≤ Go.Dk.sum d.files := this
  omega

theorem Rm.write {R : Int} {m : Nat} {d : Dk} (h : Rm R m d) (nm : ByteArray) (k : Int) (b : List UInt8) :
    Rm R (m + 1 + b.length) (d.write nm k b).2 ∧
    ((d.write nm k b).1 = 7 → 0 ≤ k ∧ k ≤ Go.Dk.had (d.get nm) ∧ 0 < b.length ∧ (Go.Dk.had (d.get nm) : Int) < k + b.length ∧ d.free < k + b.length - Go.Dk.had (d.get nm) ∧ (d.write nm k b).2 = d) ∧
    ((d.write nm k b).1 = 0 → 0 ≤ k → k ≤ Go.Dk.had (d.get nm) → 0 < b.length → (Go.Dk.had (d.get nm) : Int) < k + b.length → k + b.length - Go.Dk.had (d.get nm) ≤ d.free) := by
  have hok := ok_write h.ok nm k b
  have hfr := h.free
  have hsm := h.sum
  have hsame : ∀ e : Int, e ≠ 7 → e ≠ 0 → Rm R (m + 1 + b.length) d ∧ (e = 7 → 0 ≤ k ∧ k ≤ Go.Dk.had (d.get nm) ∧ 0 < b.length ∧ (Go.Dk.had (d.get nm) : Int) < k + b.length ∧ d.free < k + b.length - Go.Dk.had (d.get nm) ∧ d = d) ∧ (e = 0 → 0 ≤ k → k ≤ Go.Dk.had (d.get nm) → 0 < b.length → (Go.Dk.had (d.get nm) : Int) < k + b.length → k + b.length - Go.Dk.had (d.get nm) ≤ d.free) :=
    fun e h7 h0 => ⟨⟨ok_more h.ok (by omega), h.down, h.armed, h.room, h.sum, h.named⟩, fun e => absurd e h7, fun e => absurd e h0⟩
  unfold Dk.write at hok ⊢
  by_cases c1 : d.may nm false ≠ 0
  · rw [if_pos c1]
    have hm : d.may nm false = 1 := by
      unfold Dk.may at c1 ⊢
      by_cases hn : Dk.named nm = false
      · rw [if_pos hn]
      · rw [if_neg hn] at c1; simp [h.down] at c1
    rw [hm]
    exact hsame 1 (by decide) (by decide)
  · rw [if_neg c1] at hok ⊢
    have hnm : Dk.named nm = true := by
      by_cases hn : Dk.named nm = false
      · unfold Dk.may at c1; rw [if_pos hn] at c1; exact absurd (by decide) c1
      · simpa using hn
    by_cases c2 : k < 0 ∨ (Go.Dk.had (d.get nm) : Int) < k
    · rw [if_pos c2]; exact hsame 2 (by decide) (by decide)
    · rw [if_neg c2] at hok ⊢
      by_cases c3 : b.length = 0
      · rw [if_pos c3]
        exact ⟨⟨ok_more h.ok (by omega), h.down, h.armed, h.room, h.sum, h.named⟩, (fun e => by cases e), fun _ _ _ hb => by omega⟩
      · rw [if_neg c3] at hok ⊢
        obtain ⟨z, hz⟩ : ∃ z, d.fits (d.get nm) (max (Go.Dk.had (d.get nm)) (k + b.length)) = z := ⟨_, rfl⟩
        rw [hz] at hok ⊢
        have hz' := hz
        unfold Dk.fits at hz'
        by_cases c4 : ((d.get nm).isNone && decide (16 ≤ d.files.length)) = true
        · rw [if_pos c4] at hz'
          subst hz'
          rw [if_pos (by decide)]
          exact hsame 11 (by decide) (by decide)
        · rw [if_neg c4] at hz'
          by_cases c5 : (decide ((Go.Dk.had (d.get nm) : Int) < max ((Go.Dk.had (d.get nm) : Nat) : Int) (k + b.length)) && decide (d.room < (Go.Dk.sum d.files : Int) - Go.Dk.had (d.get nm) + max ((Go.Dk.had (d.get nm) : Nat) : Int) (k + b.length))) = true
          · rw [if_pos c5] at hz'
            subst hz'
            rw [if_pos (by decide)]
            simp only [Bool.and_eq_true, decide_eq_true_eq, h.room] at c5
            refine ⟨⟨ok_more h.ok (by omega), h.down, h.armed, h.room, h.sum, h.named⟩, fun _ => ⟨by omega, by omega, by omega, by omega, by omega, rfl⟩, (fun e => by cases e)⟩
          · rw [if_neg c5] at hz'
            subst hz'
            have hst : d.stop = false := by unfold Dk.stop; simp [h.armed]
            rw [if_neg (by simp), if_neg (by simp [hst])] at hok ⊢
            simp only [Bool.and_eq_true, decide_eq_true_eq, h.room, not_and, Int.not_lt] at c5
            refine ⟨⟨hok, h.down, h.armed, h.room, ?_, ?_⟩, (fun e => by cases e), fun _ h1 h2 h3 h4 => ?_⟩
            · have hs := sum_fput (nm := nm) (f := ⟨laid ((d.get nm).getD Dk.fl0).now k.toNat b, ((d.get nm).getD Dk.fl0).safe, ((d.get nm).getD Dk.fl0).sure⟩) d.files
              have e1 : Go.Dk.sum (d.written nm k.toNat b).files = Go.Dk.sum (fput nm ⟨laid ((d.get nm).getD Dk.fl0).now k.toNat b, ((d.get nm).getD Dk.fl0).safe, ((d.get nm).getD Dk.fl0).sure⟩ d.files) := rfl
              show ((Go.Dk.sum (d.written nm k.toNat b).files : Nat) : Int) ≤ R
              rw [e1]
              have e2 : Go.Dk.had (fget nm d.files) = Go.Dk.had (d.get nm) := rfl
              rw [e2] at hs
              have e3 : (laid ((d.get nm).getD Dk.fl0).now k.toNat b).length = max (Go.Dk.had (d.get nm)) (k.toNat + b.length) := by
                rw [laid_len]
                unfold Go.Dk.had
                cases d.get nm <;> simp [Dk.fl0]
              simp only at hs
              rw [e3] at hs
              omega
            · intro p hp
              have hp' : p ∈ fput nm ⟨laid ((d.get nm).getD Dk.fl0).now k.toNat b, ((d.get nm).getD Dk.fl0).safe, ((d.get nm).getD Dk.fl0).sure⟩ d.files := hp
              rcases fput_mem hp' with rfl | hp'
              · exact hnm
              · exact h.named p hp'
            · omega

theorem Rm.cut {R : Int} {m : Nat} {d : Dk} (h : Rm R m d) (nm : ByteArray) (n : Int) : Rm R (m + 1) (d.cut nm n).2 := by
  have hok := ok_cut h.ok nm n
  have hsame : Rm R (m + 1) d := ⟨ok_more h.ok (by omega), h.down, h.armed, h.room, h.sum, h.named⟩
  unfold Dk.cut at hok ⊢
  by_cases c1 : d.may nm true ≠ 0
  · rw [if_pos c1]; exact hsame
  · rw [if_neg c1] at hok ⊢
    have hnm : Dk.named nm = true := by
      by_cases hn : Dk.named nm = false
      · unfold Dk.may at c1; rw [if_pos hn] at c1; exact absurd (by decide) c1
      · simpa using hn
    by_cases c2 : n < 0 ∨ (Go.Dk.had (d.get nm) : Int) < n
    · rw [if_pos c2]; exact hsame
    · rw [if_neg c2] at hok ⊢
      have hst : d.stop = false := by unfold Dk.stop; simp [h.armed]
      rw [if_neg (by simp [hst])] at hok ⊢
      refine ⟨hok, h.down, h.armed, h.room, ?_, ?_⟩
      · have hs := sum_fput (nm := nm) (f := ⟨((d.get nm).getD Dk.fl0).now.take n.toNat, ((d.get nm).getD Dk.fl0).safe, ((d.get nm).getD Dk.fl0).sure⟩) d.files
        have e1 : Go.Dk.had (fget nm d.files) = ((d.get nm).getD Dk.fl0).now.length := by
          show Go.Dk.had (d.get nm) = _
          unfold Go.Dk.had
          cases d.get nm <;> simp [Dk.fl0]
        have := h.sum
        show ((Go.Dk.sum (fput nm ⟨((d.get nm).getD Dk.fl0).now.take n.toNat, ((d.get nm).getD Dk.fl0).safe, ((d.get nm).getD Dk.fl0).sure⟩ d.files) : Nat) : Int) ≤ R
        simp only [List.length_take] at hs
        omega
      · intro p hp
        have hp' : p ∈ fput nm ⟨((d.get nm).getD Dk.fl0).now.take n.toNat, ((d.get nm).getD Dk.fl0).safe, ((d.get nm).getD Dk.fl0).sure⟩ d.files := hp
        rcases fput_mem hp' with rfl | hp'
        · exact hnm
        · exact h.named p hp'

theorem Rm.sync {R : Int} {m : Nat} {d : Dk} (h : Rm R m d) (nm : ByteArray) : Rm R (m + 1) (d.sync nm).2 := by
  have hok := ok_sync h.ok nm
  have hsame : Rm R (m + 1) d := ⟨ok_more h.ok (by omega), h.down, h.armed, h.room, h.sum, h.named⟩
  unfold Dk.sync at hok ⊢
  by_cases c1 : d.may nm true ≠ 0
  · rw [if_pos c1]; exact hsame
  · rw [if_neg c1] at hok ⊢
    have hnm : Dk.named nm = true := by
      by_cases hn : Dk.named nm = false
      · unfold Dk.may at c1; rw [if_pos hn] at c1; exact absurd (by decide) c1
      · simpa using hn
    have hst : d.stop = false := by unfold Dk.stop; simp [h.armed]
    rw [if_neg (by simp [hst])] at hok ⊢
    refine ⟨hok, h.down, h.armed, h.room, ?_, ?_⟩
    · have hs := sum_fput (nm := nm) (f := ⟨((d.get nm).getD Dk.fl0).now, ((d.get nm).getD Dk.fl0).now, true⟩) d.files
      have e1 : Go.Dk.had (fget nm d.files) = ((d.get nm).getD Dk.fl0).now.length := by
        show Go.Dk.had (d.get nm) = _
        unfold Go.Dk.had
        cases d.get nm <;> simp [Dk.fl0]
      have := h.sum
      show ((Go.Dk.sum (fput nm ⟨((d.get nm).getD Dk.fl0).now, ((d.get nm).getD Dk.fl0).now, true⟩ d.files) : Nat) : Int) ≤ R
      simp only at hs
      omega
    · intro p hp
      have hp' : p ∈ fput nm ⟨((d.get nm).getD Dk.fl0).now, ((d.get nm).getD Dk.fl0).now, true⟩ d.files := hp
      rcases fput_mem hp' with rfl | hp'
      · exact hnm
      · exact h.named p hp'

/-! the sizes of all names -/
def szN (d : Dk) (b : List UInt8) : Nat := (d.size ⟨b.toArray⟩).toNat

theorem fget_self : ∀ {fs : List (ByteArray × Fl)}, (fs.map (·.1)).Nodup → ∀ {p}, p ∈ fs → fget p.1 fs = some p.2
  | [], _, p, h => by simp at h
  | q :: l, hn, p, h => by
    rw [List.map_cons, List.nodup_cons] at hn
    unfold fget
    rcases List.mem_cons.1 h with rfl | h
    · rw [if_pos rfl]
    · rw [if_neg (fun e => hn.1 (by rw [← e]; exact List.mem_map.2 ⟨p, h, rfl⟩))]
      exact fget_self hn.2 h
theorem Rm.file {R : Int} {m : Nat} {d : Dk} (h : Rm R m d) {p : ByteArray × Fl} (hp : p ∈ d.files) : d.size p.1 = p.2.now.length := by
  have hg : d.get p.1 = some p.2 := fget_self h.ok.nd hp
  unfold Dk.size
  rw [if_neg (by rw [may_there (h.named p hp) h.down hg]; simp), hg]
  rfl
theorem Rm.names {R : Int} {m : Nat} {d : Dk} (h : Rm R m d) {l : List (List UInt8)} (hl : l.Perm (nmL d)) :
    (l.map (szN d)).sum = Go.Dk.sum d.files ∧ ∀ b ∈ l, d.size ⟨b.toArray⟩ = (szN d b : Int) := by
  have hb : ∀ p ∈ d.files, szN d p.1.data.toList = p.2.now.length := by
    intro p hp
    unfold szN
    have e : (⟨p.1.data.toList.toArray⟩ : ByteArray) = p.1 := by simp
    rw [e, h.file hp]; rfl
  constructor
  · rw [(hl.map (szN d)).sum_nat]
    unfold nmL Go.Dk.sum
    rw [List.map_map]
    congr 1
    exact List.map_congr_left fun p hp => hb p hp
  · intro b hbm
    have := hl.mem_iff.1 hbm
    obtain ⟨p, hp, rfl⟩ := List.mem_map.1 this
    rw [hb p hp]
    have e : (⟨p.1.data.toList.toArray⟩ : ByteArray) = p.1 := by simp
    rw [e, h.file hp]

theorem Rm.names_short {R : Int} {m : Nat} {d : Dk} (h : Rm R m d) {l : List (List UInt8)} (hl : l.Perm (nmL d)) : ∀ b ∈ l, (⟨b.toArray⟩ : ByteArray).size ≤ 9223372036854775807 := by
  intro b hb
  obtain ⟨p, hp, rfl⟩ := List.mem_map.1 (hl.mem_iff.1 hb)
  have e : (⟨p.1.data.toList.toArray⟩ : ByteArray) = p.1 := by simp
  rw [e]
  rcases Nat.lt_or_ge 16 p.1.size with h1 | h1
  · have := h.named p hp
    rw [named_short (.inr h1)] at this; cases this
  · omega
theorem sum_take_le (f : List UInt8 → Nat) : ∀ (l : List (List UInt8)) (q : Nat), ((l.take q).map f).sum ≤ (l.map f).sum
  | [], q => by simp
  | b :: l, 0 => by simp
  | b :: l, q + 1 => by
    have := sum_take_le f l q
    simp only [List.take_succ_cons, List.map_cons, List.sum_cons]; omega
theorem sum_take_succ (f : List UInt8 → Nat) {l : List (List UInt8)} {q : Nat} {b : List UInt8} (h : l[q]? = some b) : ((l.take (q + 1)).map f).sum = ((l.take q).map f).sum + f b := by
  have hlt := (List.getElem?_eq_some_iff.1 h).1
  rw [List.take_succ_eq_append_getElem hlt, List.map_append, List.sum_append]
  have : l[q] = b := by rw [List.getElem?_eq_getElem hlt] at h; exact Option.some.inj h
  simp [this]

end Go.Proofs.Ytjhkmmpgjiciiaa
