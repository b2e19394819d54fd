/-
  DiskSectors: the plain law: a write of whole sectors, a sync, a crash, and what each sector may have. Plain.
-/
import Derived.Test.YtjhkmmpgjiciiaaSec0
import Derived.Test.YtjhkmmpgjiciiaaLaw04b
namespace Go.Proofs.Ytjhkmmpgjiciiaa
set_option linter.unusedSimpArgs false
set_option linter.unusedVariables false
open Go.Dk

/-- the disk of the law: one file of twelve sectors; what each may have -/
structure Sec (d : Dk) (now safe : List UInt8) (ms : List (List UInt8)) : Prop where
  files : d.files = [(nmA, ⟨now, safe, true⟩)]
  nl : now.length = 768
  sl : safe.length = 768
  ml : ms.length = 12
  flags : d.armed = false ∧ d.down = false ∧ d.room = 100000
  own : ∀ k m, ms[k]? = some m → ∃ x y, m.getLast? = some y ∧ sec k now = List.replicate 64 y ∧ x ∈ m ∧ sec k safe = List.replicate 64 x
  pend : ∀ p ∈ d.pend, p.nm = nmA ∧ ∃ k x m, p.pos = 64 * k ∧ p.b = some (List.replicate 64 x) ∧ ms[k]? = some m ∧ x ∈ m

def mayput (ms : List (List UInt8)) (k n : Nat) (x : UInt8) : List (List UInt8) := ms.mapIdx fun j m => if k ≤ j ∧ j < k + n then m ++ [x] else m
def maysync (ms : List (List UInt8)) : List (List UInt8) := ms.map fun m => m.drop (m.length - 1)

theorem mayput_zero (ms : List (List UInt8)) (k : Nat) (x : UInt8) : mayput ms k 0 x = ms := by
  apply List.ext_getElem?
  intro i
  unfold mayput
  rw [List.getElem?_mapIdx]
  cases h : ms[i]? with
  | none => rfl
  | some m => simp [show ¬ (k ≤ i ∧ i < k) by omega]
theorem mayput_at (ms : List (List UInt8)) (k n : Nat) (x : UInt8) (j : Nat) : (mayput ms k n x)[j]? = (ms[j]?).map fun m => if k ≤ j ∧ j < k + n then m ++ [x] else m := by
  unfold mayput
  rw [List.getElem?_mapIdx]
theorem mayput_len (ms : List (List UInt8)) (k n : Nat) (x : UInt8) : (mayput ms k n x).length = ms.length := by simp [mayput]
theorem mayput_succ (ms : List (List UInt8)) (k n : Nat) (x : UInt8) (m : List UInt8) (h : (mayput ms k n x)[k + n]? = some m) : mayput ms k (n + 1) x = (mayput ms k n x).set (k + n) (m ++ [x]) := by
  have hm : ms[k + n]? = some m := by
    rw [mayput_at] at h
    obtain ⟨m', h1, h2⟩ := Option.map_eq_some_iff.1 h
    rw [if_neg (by omega)] at h2
    rw [h1, h2]
  apply List.ext_getElem?
  intro j
  rw [mayput_at, List.getElem?_set]
  by_cases hj : k + n = j
  · subst hj
    have hlt := (List.getElem?_eq_some_iff.1 hm).1
    rw [if_pos rfl, if_pos (by rw [mayput_len]; exact hlt), hm]
    simp
  · rw [if_neg hj, mayput_at]
    cases h : ms[j]? with
    | none => rfl
    | some q =>
      simp only [Option.map_some]
      by_cases c : k ≤ j ∧ j < k + n
      · rw [if_pos c, if_pos (by omega)]
      · rw [if_neg c, if_neg (by omega)]

def maysN (ms : List (List UInt8)) (y : Nat) : List (List UInt8) := ms.mapIdx fun i m => if i < y then m.drop (m.length - 1) else m
theorem maysN_at (ms : List (List UInt8)) (y j : Nat) : (maysN ms y)[j]? = (ms[j]?).map fun m => if j < y then m.drop (m.length - 1) else m := by unfold maysN; rw [List.getElem?_mapIdx]
theorem maysN_zero (ms : List (List UInt8)) : maysN ms 0 = ms := by
  apply List.ext_getElem?
  intro i
  rw [maysN_at]
  cases ms[i]? <;> simp
theorem maysN_all {ms : List (List UInt8)} {y : Nat} (h : ms.length ≤ y) : maysN ms y = maysync ms := by
  apply List.ext_getElem?
  intro i
  rw [maysN_at]
  unfold maysync
  rw [List.getElem?_map]
  cases hi : ms[i]? with
  | none => rfl
  | some m => have := (List.getElem?_eq_some_iff.1 hi).1; simp [show i < y by omega]
theorem maysN_succ {ms : List (List UInt8)} {y : Nat} {m : List UInt8} (h : (maysN ms y)[y]? = some m) : maysN ms (y + 1) = (maysN ms y).set y (m.drop (m.length - 1)) := by
  have hm : ms[y]? = some m := by
    rw [maysN_at] at h
    obtain ⟨m', h1, h2⟩ := Option.map_eq_some_iff.1 h
    rw [if_neg (by omega)] at h2
    rw [h1, h2]
  apply List.ext_getElem?
  intro j
  rw [maysN_at, List.getElem?_set]
  by_cases hj : y = j
  · subst hj
    have hlt := (List.getElem?_eq_some_iff.1 hm).1
    rw [if_pos rfl, if_pos (by simp [maysN]; exact hlt), hm]
    simp
  · rw [if_neg hj, maysN_at]
    cases h : ms[j]? with
    | none => rfl
    | some q =>
      simp only [Option.map_some]
      by_cases c : j < y
      · rw [if_pos c, if_pos (by omega)]
      · rw [if_neg c, if_neg (by omega)]
theorem maysN_len (ms : List (List UInt8)) (y : Nat) : (maysN ms y).length = ms.length := by simp [maysN]

theorem nmA_named : named nmA = true := by decide +kernel

theorem Sec.get {d : Dk} {now safe : List UInt8} {ms : List (List UInt8)} (h : Sec d now safe ms) : d.get nmA = some ⟨now, safe, true⟩ := by
  unfold Dk.get; rw [h.files]; simp [fget]
theorem Sec.may {d : Dk} {now safe : List UInt8} {ms : List (List UInt8)} (h : Sec d now safe ms) (t : Bool) : d.may nmA t = 0 := by
  unfold Dk.may; simp [nmA_named, h.flags.2.1, h.get]

theorem sec_write {d : Dk} {now safe : List UInt8} {ms : List (List UInt8)} (h : Sec d now safe ms) (k n : Nat) (x : UInt8) (hk : k + n ≤ 12) :
    (d.write nmA ((64 * k : Nat) : Int) (List.replicate (64 * n) x)).1 = 0 ∧ ∃ now', Sec (d.write nmA ((64 * k : Nat) : Int) (List.replicate (64 * n) x)).2 now' safe (mayput ms k n x) := by
  have hg := h.get
  have hm := h.may false
  have hh : had (d.get nmA) = 768 := by rw [hg]; simp [had, h.nl]
  have hl : (List.replicate (64 * n) x).length = 64 * n := by simp
  unfold Dk.write
  rw [if_neg (by simp [hm]), if_neg (by rw [hh]; omega)]
  by_cases hn : n = 0
  · subst hn
    rw [if_pos (by simp)]
    refine ⟨rfl, now, ?_⟩
    rw [mayput_zero]
    exact h
  · rw [if_neg (by rw [hl]; omega)]
    have hmax : max ((had (d.get nmA) : Nat) : Int) (((64 * k : Nat) : Int) + ((List.replicate (64 * n) x).length : Int)) = 768 := by rw [hh, hl]; omega
    have hfit : d.fits (d.get nmA) (max ((had (d.get nmA) : Nat) : Int) (((64 * k : Nat) : Int) + ((List.replicate (64 * n) x).length : Int))) = 0 := by
      rw [hmax]
      unfold Dk.fits
      rw [if_neg (by simp [hg]), if_neg (by rw [hh]; simp)]
    rw [if_neg (by rw [hfit]; simp)]
    have hst : d.stop = false := by unfold Dk.stop; simp [h.flags.1]
    rw [if_neg (by simp [hst])]
    refine ⟨rfl, laid now (64 * k) (List.replicate (64 * n) x), ?_⟩
    show Sec (d.written nmA ((64 * k : Nat) : Int).toNat (List.replicate (64 * n) x)) _ _ _
    rw [Int.toNat_natCast]
    have hf : (d.written nmA (64 * k) (List.replicate (64 * n) x)).files = [(nmA, ⟨laid now (64 * k) (List.replicate (64 * n) x), safe, true⟩)] := by
      unfold Dk.written
      rw [hg]
      show fput nmA _ d.files = _
      rw [h.files]
      simp [fput]
    have hp : (d.written nmA (64 * k) (List.replicate (64 * n) x)).pend = d.pend ++ sect nmA (64 * k) (List.replicate (64 * n) x) := rfl
    refine ⟨hf, ?_, h.sl, by rw [mayput_len]; exact h.ml, h.flags, ?_, ?_⟩
    · rw [laid_len, hl, h.nl]; omega
    · intro j m hj
      rw [mayput_at] at hj
      obtain ⟨m0, h1, h2⟩ := Option.map_eq_some_iff.1 hj
      obtain ⟨y, z, g1, g2, g3, g4⟩ := h.own j m0 h1
      have hj12 : j < 12 := by have := (List.getElem?_eq_some_iff.1 h1).1; rw [h.ml] at this; exact this
      have hs := sec_laid (k := k) (j := j) h.nl hl hk hj12
      by_cases c : k ≤ j ∧ j < k + n
      · rw [if_pos c] at h2 hs
        subst h2
        refine ⟨y, x, by simp, ?_, by simp [g3], g4⟩
        rw [hs]; exact sec_rep _ _ _ (by omega)
      · rw [if_neg c] at h2 hs
        subst h2
        exact ⟨y, z, g1, by rw [hs]; exact g2, g3, g4⟩
    · intro p hpm
      rw [hp] at hpm
      rcases List.mem_append.1 hpm with hpm | hpm
      · obtain ⟨e1, j, y, m, e2, e3, e4, e5⟩ := h.pend p hpm
        refine ⟨e1, j, y, _, e2, e3, by rw [mayput_at, e4]; rfl, ?_⟩
        dsimp only
        split
        · simp [e5]
        · exact e5
      · rw [sect_al] at hpm
        obtain ⟨i, hi, rfl⟩ := List.mem_map.1 hpm
        have hi' : i < n := by simpa using hi
        obtain ⟨m, hm'⟩ : ∃ m, ms[k + i]? = some m := ⟨ms[k + i]'(by rw [h.ml]; omega), by simp⟩
        refine ⟨rfl, k + i, x, m ++ [x], rfl, rfl, ?_, by simp⟩
        rw [mayput_at, hm', Option.map_some, if_pos (by omega)]

theorem sec_sync {d : Dk} {now safe : List UInt8} {ms : List (List UInt8)} (h : Sec d now safe ms) :
    (d.sync nmA).1 = 0 ∧ Sec (d.sync nmA).2 now now (maysync ms) := by
  have hg := h.get
  have hm := h.may true
  have hst : d.stop = false := by unfold Dk.stop; simp [h.flags.1]
  unfold Dk.sync
  rw [if_neg (by simp [hm]), if_neg (by simp [hst])]
  refine ⟨rfl, ?_, h.nl, h.nl, by simp [maysync, h.ml], h.flags, ?_, ?_⟩
  · rw [hg]
    show fput nmA _ d.files = _
    rw [h.files]
    simp [fput]
  · intro k m hk
    unfold maysync at hk
    rw [List.getElem?_map] at hk
    obtain ⟨m0, h1, rfl⟩ := Option.map_eq_some_iff.1 hk
    obtain ⟨x, y, g1, g2, g3, g4⟩ := h.own k m0 h1
    have e : m0.drop (m0.length - 1) = [y] := by
      obtain ⟨t, rfl⟩ := List.getLast?_eq_some_iff.1 g1
      simp
    rw [e]
    exact ⟨y, y, rfl, g2, by simp, g2⟩
  · intro p hp
    exfalso
    have hp' : p ∈ d.pend.filter fun p => p.nm != nmA := hp
    obtain ⟨h1, h2⟩ := List.mem_filter.1 hp'
    have := (h.pend p h1).1
    rw [this, bne_bytes] at h2
    simp at h2

theorem lain_secs : ∀ (L : List Pc) (l : List UInt8) (ms : List (List UInt8)), l.length = 768 → ms.length = 12 → (∀ k m, ms[k]? = some m → ∃ x ∈ m, sec k l = List.replicate 64 x) →
    (∀ p ∈ L, ∃ k x m, p.pos = 64 * k ∧ p.b = some (List.replicate 64 x) ∧ ms[k]? = some m ∧ x ∈ m) → (L.foldl lain l).length = 768 ∧ ∀ k m, ms[k]? = some m → ∃ x ∈ m, sec k (L.foldl lain l) = List.replicate 64 x
  | [], l, ms, hl, hm, h1, h2 => ⟨hl, h1⟩
  | p :: L, l, ms, hl, hm, h1, h2 => by
    obtain ⟨k, x, m, e1, e2, e3, e4⟩ := h2 p (by simp)
    have hk : k < 12 := by have := (List.getElem?_eq_some_iff.1 e3).1; omega
    have e5 : lain l p = laid l (64 * k) (List.replicate 64 x) := by unfold lain; rw [e2, e1]
    rw [List.foldl_cons, e5]
    refine lain_secs L _ ms ?_ hm ?_ fun q hq => h2 q (by simp [hq])
    · rw [laid_len, hl]; simp; omega
    · intro j mj hj
      have hj12 : j < 12 := by have := (List.getElem?_eq_some_iff.1 hj).1; omega
      have hs := sec_laid (l := l) (b := List.replicate 64 x) (k := k) (j := j) (n := 1) hl (by simp) (by omega) hj12
      rw [hs]
      by_cases c : k ≤ j ∧ j < k + 1
      · rw [if_pos c]
        obtain rfl : j = k := by omega
        rw [e3] at hj
        cases hj
        exact ⟨x, e4, sec_rep (j - j) 1 x (by omega)⟩
      · rw [if_neg c]
        exact h1 j mj hj

theorem sec_crash {d : Dk} {now safe : List UInt8} {ms : List (List UInt8)} (h : Sec d now safe ms) (picks : List Int) :
    ∃ b : List UInt8, b.length = 768 ∧ (d.crash picks).read nmA 0 768 = (0, b) ∧ (d.crash picks).size nmA = 768 ∧ ∀ k m, ms[k]? = some m → ∃ x ∈ m, sec k b = List.replicate 64 x := by
  have hk : ∀ p ∈ ofName nmA (keep picks 0 d.pend), p ∈ d.pend := fun p hp => keep_sub picks d.pend 0 p (List.mem_filter.1 hp).1
  obtain ⟨hl, hx⟩ := lain_secs (ofName nmA (keep picks 0 d.pend)) safe ms h.sl h.ml (fun k m e => by obtain ⟨x, y, _, _, g3, g4⟩ := h.own k m e; exact ⟨x, g3, g4⟩) (fun p hp => (h.pend p (hk p hp)).2)
  have hf : (d.crash picks).files = [(nmA, ⟨(ofName nmA (keep picks 0 d.pend)).foldl lain safe, (ofName nmA (keep picks 0 d.pend)).foldl lain safe, true⟩)] := by
    show d.files.filterMap _ = _
    rw [h.files]
    simp [crashed]
  have hg : (d.crash picks).get nmA = some ⟨(ofName nmA (keep picks 0 d.pend)).foldl lain safe, (ofName nmA (keep picks 0 d.pend)).foldl lain safe, true⟩ := by
    unfold Dk.get; rw [hf]; simp [fget]
  have hm : (d.crash picks).may nmA true = 0 := by
    unfold Dk.may
    rw [hg]
    simp [nmA_named, Dk.crash]
  refine ⟨(ofName nmA (keep picks 0 d.pend)).foldl lain safe, hl, ?_, ?_, hx⟩
  · unfold Dk.read
    rw [if_neg (by simp [hm]), hg]
    simp only [Option.getD_some]
    rw [if_neg (by rw [hl]; omega)]
    simp only [Int.toNat_zero, List.drop_zero]
    rw [List.take_of_length_le (by rw [hl]; decide)]
  · unfold Dk.size
    rw [if_neg (by simp [hm]), hg]
    simp [hl]

def secD : Dk := ⟨100000, 0, 0, false, false, [(nmA, ⟨List.replicate 768 0, List.replicate 768 0, true⟩)], []⟩
theorem sec_load : (Dk.new 100000).load nmA (List.replicate 768 0) = (0, secD) := by
  unfold Dk.load
  rw [if_neg (by simp [nmA_named])]
  have h : (Dk.new 100000).fits ((Dk.new 100000).get nmA) ((List.replicate 768 (0 : UInt8)).length : Int) = 0 := by
    rw [List.length_replicate]; decide +kernel
  rw [if_neg (by rw [h]; simp)]
  rfl
theorem sec_start : Sec secD (List.replicate 768 0) (List.replicate 768 0) (List.replicate 12 [0]) := by
  refine ⟨rfl, List.length_replicate, List.length_replicate, List.length_replicate, ⟨rfl, rfl, rfl⟩, ?_, ?_⟩
  · intro k m hk
    have hk12 : k < 12 := by have := (List.getElem?_eq_some_iff.1 hk).1; simpa using this
    rw [List.getElem?_replicate, if_pos hk12] at hk
    cases hk
    have := sec_rep k 12 0 hk12
    exact ⟨0, 0, rfl, this, by simp, this⟩
  · intro p hp
    exact absurd hp (List.not_mem_nil)

end Go.Proofs.Ytjhkmmpgjiciiaa
