/-
  The cache's laws, plain: what a write into one file does to the disk; what writing a page does.
-/
import Derived.Test.YtjhkmmpgjiciiaaCk7
namespace Go.Proofs.Ytjhkmmpgjiciiaa
set_option linter.unusedSimpArgs false
set_option linter.unusedVariables false
open Go.Dk

def fnow (d : Dk) (nm : ByteArray) : List UInt8 := ((d.get nm).getD Dk.fl0).now
def fsure (d : Dk) (nm : ByteArray) : Bool := ((d.get nm).getD Dk.fl0).sure
def fsafe (d : Dk) (nm : ByteArray) : List UInt8 := ((d.get nm).getD Dk.fl0).safe

theorem laid_keep {l b : List UInt8} {k p q : Nat} (hp : p + q ≤ l.length) (h : k + b.length ≤ p ∨ p + q ≤ k) : ((laid l k b).drop p).take q = (l.drop p).take q := by
  apply List.ext_getElem?
  intro i
  by_cases hi : i < q
  · rw [List.getElem?_take_of_lt hi, List.getElem?_take_of_lt hi, List.getElem?_drop, List.getElem?_drop]
    unfold laid
    rcases h with h | h
    · have h1 : ((l ++ List.replicate (k + b.length - l.length) 0).take k).length = k := by simp; omega
      rw [List.getElem?_append_right (by rw [List.length_append, h1]; omega), List.length_append, h1, List.getElem?_drop]
      congr 1; omega
    · have h1 : ((l ++ List.replicate (k + b.length - l.length) 0).take k).length = k := by simp; omega
      rw [List.append_assoc, List.getElem?_append_left (by rw [h1]; omega), List.getElem?_take_of_lt (by omega), List.getElem?_append_left (by omega)]
  · rw [List.getElem?_eq_none (by simp; omega), List.getElem?_eq_none (by simp; omega)]
theorem laid_at {l b : List UInt8} {k : Nat} : ((laid l k b).drop k).take b.length = b := by
  unfold laid
  have h1 : ((l ++ List.replicate (k + b.length - l.length) 0).take k).length = k := by simp; omega
  rw [List.append_assoc, List.drop_append_of_le_length (by rw [h1]; omega), List.drop_of_length_le (by rw [h1]; omega), List.nil_append, List.take_left']
  rfl

def Only (d : Dk) (nm : ByteArray) : Prop := d.files = [] ∨ ∃ f, d.files = [(nm, f)]

structure Fine (d : Dk) (nm : ByteArray) : Prop where
  down : d.down = false
  armed : d.armed = false
  nmd : Dk.named nm = true
  nf : d.files.length + (if (d.get nm).isSome then 0 else 1) ≤ 8

/-- what a write that is done does -/
structure Wr (d : Dk) (nm : ByteArray) (k : Nat) (b : List UInt8) (d' : Dk) : Prop where
  le : k ≤ (fnow d nm).length
  ne : b.length ≠ 0
  fine : Fine d' nm
  now : fnow d' nm = laid (fnow d nm) k b
  safe : fsafe d' nm = fsafe d nm
  sure : fsure d' nm = fsure d nm
  pend : d'.pend = d.pend ++ sect nm k b
  room : d'.room = d.room
  other : ∀ n, n ≠ nm → d'.get n = d.get n
  only : Only d nm → Only d' nm
  isS : (d'.get nm).isSome = true

theorem had_fnow (d : Dk) (nm : ByteArray) : had (d.get nm) = (fnow d nm).length := by
  unfold had fnow
  cases d.get nm <;> simp [Dk.fl0]

theorem dk_wr {d : Dk} {nm : ByteArray} (g : Fine d nm) {k : Nat} {b : List UInt8} (hk : k ≤ (fnow d nm).length) (hb : b.length ≠ 0) :
    (d.write nm k b = (7, d) ∨ ((d.write nm k b).1 = 0 ∧ Wr d nm k b (d.write nm k b).2)) ∧
    (Only d nm → ((max (fnow d nm).length (k + b.length) : Nat) : Int) ≤ d.room → (d.write nm k b).1 = 0) := by
  have hm : d.may nm false = 0 := may_new g.nmd g.down
  have hh := had_fnow d nm
  have hst : d.stop = false := by unfold Dk.stop; simp [g.armed]
  have hnf : ¬ (((d.get nm).isNone && decide (16 ≤ d.files.length)) = true) := by
    have := g.nf
    simp
    intro _
    omega
  have e : d.write nm k b = if d.fits (d.get nm) (max (had (d.get nm)) (k + b.length)) ≠ 0 then (d.fits (d.get nm) (max (had (d.get nm)) (k + b.length)), d) else (0, d.written nm k b) := by
    unfold Dk.write
    rw [if_neg (by simp [hm]), if_neg (by rw [hh]; omega), if_neg hb]
    split
    · rfl
    · rw [if_neg (by simp [hst])]; rfl
  have hf : d.fits (d.get nm) (max (had (d.get nm)) (k + b.length)) = 0 ∨ d.fits (d.get nm) (max (had (d.get nm)) (k + b.length)) = 7 := by
    unfold Dk.fits
    rw [if_neg hnf]
    split
    · exact .inr rfl
    · exact .inl rfl
  have hW : Wr d nm k b (d.written nm k b) := by
    have hg : (d.written nm k b).get nm = some { (d.get nm).getD Dk.fl0 with now := laid ((d.get nm).getD Dk.fl0).now k b } := by
      unfold Dk.get Dk.written Dk.put
      simp only
      rw [fget_fput, if_pos rfl]
      rfl
    refine ⟨hk, hb, ⟨g.down, g.armed, g.nmd, ?_⟩, ?_, ?_, by (unfold fsure; rw [hg]; rfl), rfl, rfl, ?_, ?_, by rw [hg]; rfl⟩
    · rw [hg]
      show (fput nm _ d.files).length + _ ≤ 8
      rw [fput_len]
      have := g.nf
      unfold Dk.get at this
      simp only [Option.isSome_some, if_true]
      split
      · rename_i h; rw [if_pos h] at this; omega
      · rename_i h; rw [if_neg h] at this; omega
    · unfold fnow; rw [hg]; rfl
    · unfold fsafe; rw [hg]; rfl
    · intro n hn
      unfold Dk.get Dk.written Dk.put
      simp only
      rw [fget_fput, if_neg hn]
      rfl
    · intro ho
      unfold Only at ho ⊢
      rcases ho with ho | ⟨f, ho⟩
      · right
        exact ⟨_, by unfold Dk.written Dk.put; simp only; show fput nm _ d.files = _; rw [ho]; rfl⟩
      · right
        exact ⟨_, by unfold Dk.written Dk.put; simp only; show fput nm _ d.files = _; rw [ho]; simp [fput]; rfl⟩
  constructor
  · rcases hf with h | h
    · right
      rw [e, if_neg (by simp [h])]
      exact ⟨rfl, hW⟩
    · left
      rw [e, if_pos (by rw [h]; decide), h]
  · intro ho hr
    have hsum : sum d.files = had (d.get nm) := by
      unfold Only at ho
      rcases ho with ho | ⟨f, ho⟩
      · unfold sum had Dk.get; rw [ho]; rfl
      · unfold sum had Dk.get; rw [ho]; simp [fget]
    have h : d.fits (d.get nm) (max (had (d.get nm)) (k + b.length)) = 0 := by
      unfold Dk.fits
      rw [if_neg hnf, if_neg]
      rw [hsum]
      simp
      intro _
      rw [hh] at *
      omega
    rw [e, if_neg (by simp [h])]

/-! pages of a file -/
def Filed (l : List UInt8) (k : Int) (b : List UInt8) : Prop := 0 ≤ k ∧ 256 * k.toNat + 256 ≤ l.length ∧ (l.drop (256 * k.toNat)).take 256 = b

theorem Wr.filed {d d' : Dk} {nm : ByteArray} {k : Nat} {b : List UInt8} (h : Wr d nm k b d') {j : Int} {c : List UInt8} (hf : Filed (fnow d nm) j c) (hd : k + b.length ≤ 256 * j.toNat ∨ 256 * j.toNat + 256 ≤ k) : Filed (fnow d' nm) j c := by
  obtain ⟨h0, h1, h2⟩ := hf
  refine ⟨h0, ?_, ?_⟩
  · rw [h.now, laid_len]; omega
  · rw [h.now, laid_keep h1 hd]; exact h2
theorem Wr.page {d d' : Dk} {nm : ByteArray} {j : Int} {b : List UInt8} (h : Wr d nm (256 * j.toNat) b d') (hb : b.length = 256) (h0 : 0 ≤ j) : Filed (fnow d' nm) j b := by
  refine ⟨h0, ?_, ?_⟩
  · rw [h.now, laid_len, hb]; omega
  · rw [h.now]
    have := laid_at (l := fnow d nm) (b := b) (k := 256 * j.toNat)
    rw [hb] at this
    exact this

theorem size_fnow {d : Dk} {nm : ByteArray} (g : Fine d nm) : max 0 (d.size nm) = ((fnow d nm).length : Int) := by
  unfold Dk.size fnow
  by_cases h : (d.get nm).isSome = true
  · obtain ⟨f, hf⟩ := Option.isSome_iff_exists.1 h
    rw [if_neg (by rw [may_there g.nmd g.down hf]; simp)]
    omega
  · have hn : d.get nm = none := by simpa using h
    rw [if_pos (by rw [may_six g.nmd g.down hn]; decide), hn]
    simp [Dk.fl0]
    rfl

/-- a dirty page's way to the disk -/
theorem write_steps {m : Nat} {s : Ck} (ok : CkOk m s) (g : Fine s.d s.nm) {no : Int} {b : List UInt8} (hd : s.dirty no = true) (hb : pget no s.pgs = some b) :
    (∃ d1, (d1 = s.d ∨ ∃ n, Wr s.d s.nm (fnow s.d s.nm).length (List.replicate n 0) d1 ∧ (fnow s.d s.nm).length + n = 256 * no.toNat) ∧ Fine d1 s.nm ∧
      (s.write no = (7, { s with d := d1 }) ∨ ∃ d2, Wr d1 s.nm (256 * no.toNat) b d2 ∧ s.write no = (0, { s with d := d2, its := markI s.its no false }))) ∧
    (Only s.d s.nm → ((max (fnow s.d s.nm).length (256 * no.toNat + 256) : Nat) : Int) ≤ s.d.room → (s.write no).1 = 0) := by
  obtain ⟨hl, h0, h1⟩ := ok.page _ (pget_mem hb)
  simp only at hl h0 h1
  have hp : ∀ d, Ck.page { s with d := d } no = b := by intro d; unfold Ck.page; rw [hb]; rfl
  have hno : no * 256 = ((256 * no.toNat : Nat) : Int) := by omega
  have step2 : ∀ d1, Fine d1 s.nm → 256 * no.toNat ≤ (fnow d1 s.nm).length →
      ((Ck.write2 { s with d := d1 } no = (7, { s with d := d1 }) ∨ ∃ d2, Wr d1 s.nm (256 * no.toNat) b d2 ∧ Ck.write2 { s with d := d1 } no = (0, { s with d := d2, its := markI s.its no false })) ∧
       (Only d1 s.nm → ((max (fnow d1 s.nm).length (256 * no.toNat + 256) : Nat) : Int) ≤ d1.room → (Ck.write2 { s with d := d1 } no).1 = 0)) := by
    intro d1 g1 hle
    obtain ⟨hw, hr⟩ := dk_wr g1 (k := 256 * no.toNat) (b := b) hle (by omega)
    have e : Ck.write2 { s with d := d1 } no = if (d1.write s.nm ((256 * no.toNat : Nat) : Int) b).1 = 0 then (0, { s with d := (d1.write s.nm ((256 * no.toNat : Nat) : Int) b).2, its := markI s.its no false }) else ((d1.write s.nm ((256 * no.toNat : Nat) : Int) b).1, { s with d := (d1.write s.nm ((256 * no.toNat : Nat) : Int) b).2 }) := by
      unfold Ck.write2
      rw [hp d1, ← hno]
    constructor
    · rcases hw with hw | ⟨hw1, hw2⟩
      · left
        rw [e, hw, if_neg (by simp)]
      · right
        exact ⟨_, hw2, by rw [e, if_pos hw1]⟩
    · intro ho hrm
      have := hr ho (by rw [hl]; exact hrm)
      rw [e, if_pos this]
  have hsz := size_fnow g
  have ew : s.write no = if max 0 (s.d.size s.nm) < no * 256 then (if (s.pad no).1 = 0 then Ck.write2 { s with d := (s.pad no).2 } no else ((s.pad no).1, { s with d := (s.pad no).2 })) else s.write2 no := by
    unfold Ck.write
    rw [if_neg (by simp [hd])]
  by_cases hlt : max 0 (s.d.size s.nm) < no * 256
  · rw [if_pos hlt] at ew
    have hlt' : (fnow s.d s.nm).length < 256 * no.toNat := by omega
    have epad : s.pad no = s.d.write s.nm ((fnow s.d s.nm).length : Int) (List.replicate (256 * no.toNat - (fnow s.d s.nm).length) 0) := by
      unfold Ck.pad
      rw [hsz]
      congr 2
      omega
    obtain ⟨hw, hr⟩ := dk_wr g (k := (fnow s.d s.nm).length) (b := List.replicate (256 * no.toNat - (fnow s.d s.nm).length) 0) (Nat.le_refl _) (by rw [List.length_replicate]; omega)
    rw [← epad] at hw hr
    rcases hw with hw | ⟨hw1, hw2⟩
    · refine ⟨⟨s.d, .inl rfl, g, .inl ?_⟩, fun ho hrm => ?_⟩
      · rw [ew, hw, if_neg (by simp)]
      · exfalso
        have := hr ho (by rw [List.length_replicate]; omega)
        rw [hw] at this; cases this
    · rw [if_pos hw1] at ew
      have hl1 : (fnow (s.pad no).2 s.nm).length = 256 * no.toNat := by rw [hw2.now, laid_len, List.length_replicate]; omega
      obtain ⟨s1, s2⟩ := step2 (s.pad no).2 hw2.fine (by omega)
      refine ⟨⟨(s.pad no).2, .inr ⟨_, hw2, by omega⟩, hw2.fine, ?_⟩, fun ho hrm => ?_⟩
      · rw [ew]; exact s1
      · rw [ew]; exact s2 (hw2.only ho) (by rw [hl1, hw2.room]; omega)
  · rw [if_neg hlt] at ew
    obtain ⟨s1, s2⟩ := step2 s.d g (by omega)
    refine ⟨⟨s.d, .inl rfl, g, ?_⟩, fun ho hrm => ?_⟩
    · rw [ew]; exact s1
    · rw [ew]; exact s2 ho hrm

end Go.Proofs.Ytjhkmmpgjiciiaa
