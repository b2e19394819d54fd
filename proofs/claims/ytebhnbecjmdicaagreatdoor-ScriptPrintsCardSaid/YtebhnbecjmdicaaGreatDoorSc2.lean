/-
  Plain: lines of a script: what a command's line is, and which command a line is; by the program's way and by the document's: the same.
  Strings as lists of bytes, for the walks: what is read of them; plain facts on lines.
  What is held stays behind a call that keeps all that was there; bytes and numbers that can be read.
-/
import Derived.Lib.Atoi
import Derived.Lib.ItoaLen
import Derived.Lib.AtoiAllCases
import Derived.Test.YtebhnbecjmdicaaGreatDoorSlb
import Derived.Laws.Strings3
import Derived.Laws.DeepStrings4
import Derived.Laws.Concat
import Derived.Lib.Bytealg
import Derived.Below
namespace Go.Sc
set_option linter.unusedSimpArgs false
set_option linter.unusedVariables false
open Go.Lib

abbrev Bs := List UInt8
structure Cmd where
  word : Bs
  nums : List Int
  text : Bs

def tab : List (Bs × Nat × Nat × Bool) := [
  ([108, 111, 97, 100], 0, 0, true),
  ([111, 112, 101, 110], 2, 2, false),
  ([100, 101, 108, 101, 116, 101], 2, 2, false),
  ([114, 101, 97, 100], 2, 2, false),
  ([105, 110, 115, 101, 114, 116], 1, 1, true),
  ([114, 101, 112, 108, 97, 99, 101], 2, 2, true),
  ([108, 105, 110, 101], 1, 1, false),
  ([115, 116, 97, 114, 116], 1, 1, false),
  ([101, 118, 105, 99, 116], 1, 1, false),
  ([97, 114, 109], 1, 1, false),
  ([108, 101, 110], 0, 0, false),
  ([108, 105, 110, 101, 115], 0, 0, false),
  ([100, 105, 114, 116, 121], 0, 0, false),
  ([118, 101, 114, 115, 105, 111, 110, 115], 0, 0, false),
  ([99, 111, 109, 109, 105, 116], 0, 0, false),
  ([117, 110, 100, 111], 0, 0, false),
  ([114, 101, 100, 111], 0, 0, false),
  ([114, 101, 118, 101, 114, 116], 0, 0, false),
  ([115, 97, 118, 101], 0, 0, false),
  ([99, 108, 111, 115, 101], 0, 0, false),
  ([99, 114, 97, 115, 104], 0, 64, false)]
def asks (w : Bs) : Option (Nat × Nat × Bool) := tab.lookup w
theorem lookup_mem {w : Bs} {x : Nat × Nat × Bool} : ∀ {l : List (Bs × Nat × Nat × Bool)}, l.lookup w = some x → (w, x) ∈ l
  | [], h => by cases h
  | (k, y) :: l, h => by
    rw [List.lookup_cons] at h
    cases hk : (w == k) with
    | true =>
      rw [hk] at h
      have e : w = k := by simpa using hk
      cases h
      rw [e]
      exact List.mem_cons_self
    | false =>
      rw [hk] at h
      exact List.mem_cons_of_mem _ (lookup_mem h)

def numsOk (l : List Int) : Bool := l.all fun n => decide (-999999999999999999 ≤ n) && decide (n ≤ 999999999999999999)
def may (c : Cmd) : Bool := match asks c.word with
  | some (a, b, t) => decide (a ≤ c.nums.length) && decide (c.nums.length ≤ b) && (t || c.text.isEmpty) && numsOk c.nums
  | none => false

def hexd (n : Nat) : UInt8 := if n < 10 then UInt8.ofNat (48 + n) else UInt8.ofNat (87 + n)
/-- a byte in quotes -/
def qb (x : UInt8) : Bs :=
  if x = 34 ∨ x = 92 then [92, x] else if x = 10 then [92, 110] else if x.toNat < 32 ∨ 126 < x.toNat then [92, 120, hexd (x.toNat / 16), hexd (x.toNat % 16)] else [x]
def quoted (b : Bs) : Bs := 34 :: (b.flatMap qb ++ [34])

def print (c : Cmd) : Option Bs := if may c then some (c.word ++ c.nums.flatMap (fun n => 32 :: itoa n) ++ (match asks c.word with
  | some (_, _, true) => 32 :: quoted c.text
  | _ => [])) else none

/-- what stands ahead of the first blank, what behind it, and whether there is one -/
def cut : Bs → Bs × Bs × Bool
  | [] => ([], [], false)
  | x :: l => if x = 32 then ([], l, true) else (x :: (cut l).1, (cut l).2.1, (cut l).2.2)

/-- numbers, as long as there are blanks and more may come -/
def numbers (num : Bs → Option Int) : Nat → Bs → Bool → Option (List Int × Bs × Bool)
  | 0, rest, more => some ([], rest, more)
  | k + 1, rest, false => some ([], rest, false)
  | k + 1, rest, true => match num (cut rest).1 with
    | none => none
    | some n => match numbers num k (cut rest).2.1 (cut rest).2.2 with
      | none => none
      | some (l, r, m) => some (n :: l, r, m)

def parseBy (num : Bs → Option Int) (unq : Bs → Option Bs) (line : Bs) : Option Cmd :=
  match asks (cut line).1 with
  | none => none
  | some (_, many, text) => match numbers num many (cut line).2.1 (cut line).2.2 with
    | none => none
    | some (l, rest, more) => if text = more then
        (if text then (match unq rest with
          | none => none
          | some b => if may ⟨(cut line).1, l, b⟩ then some ⟨(cut line).1, l, b⟩ else none)
        else if may ⟨(cut line).1, l, []⟩ then some ⟨(cut line).1, l, []⟩ else none)
      else none

/-- the program's numbers -/
def numP (s : Bs) : Option Int := if 19 < s.length then none else match atoiAll s with
  | .ok n => if itoa n = s then some n else none
  | _ => none
/-- the document's -/
def numR (s : Bs) : Option Int :=
  let minus := s.head? == some 45
  let t := if minus then s.drop 1 else s
  if t.length < 1 ∨ 18 < t.length ∨ (1 < t.length ∧ t.head? = some 48) ∨ (minus = true ∧ t = [48]) then none else match decFrom 0 t with
  | none => none
  | some m => some (if minus then -(m : Int) else m)

theorem digitVal_of (d : Nat) (h : d < 10) : digitVal (UInt8.ofNat (48 + d)) = some d := by
  unfold digitVal
  have e : (UInt8.ofNat (48 + d)).toNat = 48 + d := by simp [UInt8.toNat_ofNat']; omega
  rw [e, if_pos (by omega)]
  congr 1
  omega
theorem decFrom_append : ∀ (a b : Bs) (acc : Nat), decFrom acc (a ++ b) = (decFrom acc a).bind fun m => decFrom m b
  | [], b, acc => rfl
  | x :: a, b, acc => by
    show (match digitVal x with
      | some d => decFrom (acc * 10 + d) (a ++ b)
      | none => none) = (match digitVal x with
      | some d => decFrom (acc * 10 + d) a
      | none => none).bind _
    cases digitVal x with
    | none => rfl
    | some d => exact decFrom_append a b _
theorem decFrom_digits (u : Nat) : decFrom 0 (decDigits u) = some u := by
  induction u using Nat.strongRecOn with
  | _ u ih =>
    by_cases h : u < 10
    · rw [decDigits, dif_pos h]
      show (match digitVal (UInt8.ofNat (48 + u)) with
        | some d => decFrom (0 * 10 + d) []
        | none => none) = _
      rw [digitVal_of u h]
      simp [decFrom]
    · rw [decDigits, dif_neg h, decFrom_append, ih (u / 10) (by omega)]
      show (match digitVal (UInt8.ofNat (48 + u % 10)) with
        | some d => decFrom (u / 10 * 10 + d) []
        | none => none) = _
      rw [digitVal_of _ (by omega)]
      simp only [decFrom, Option.some.injEq]
      omega
theorem digits_ne (u : Nat) : decDigits u ≠ [] := fun h => by
  have := decDigits_length u
  rw [h] at this
  have := nDigits_pos u
  simp at *
  omega
theorem head_digits (u : Nat) : ∃ d t, decDigits u = UInt8.ofNat (48 + d) :: t ∧ d < 10 ∧ (d = 0 → t = [] ∧ u = 0) := by
  induction u using Nat.strongRecOn with
  | _ u ih =>
    by_cases h : u < 10
    · rw [decDigits, dif_pos h]
      exact ⟨u, [], rfl, h, fun e => ⟨rfl, e⟩⟩
    · obtain ⟨d, t, e, h1, h2⟩ := ih (u / 10) (by omega)
      rw [decDigits, dif_neg h, e]
      exact ⟨d, t ++ [_], rfl, h1, fun e0 => by have := (h2 e0).2; omega⟩
theorem digit_back {x : UInt8} {d : Nat} (h : digitVal x = some d) : x = UInt8.ofNat (48 + d) ∧ d < 10 := by
  obtain ⟨h1, h2, h3⟩ := digitVal_eq h
  refine ⟨?_, by omega⟩
  rw [h3, show 48 + (x.toNat - 48) = x.toNat by omega]
  simp
/-- digits that don't begin with a 0, read and written again -/
theorem digits_back (t : Bs) (hne : t ≠ []) (h0 : 1 < t.length → t.head? ≠ some 48) (m : Nat) (h : decFrom 0 t = some m) : decDigits m = t := by
  obtain ⟨n, hn⟩ : ∃ n, t.length = n := ⟨_, rfl⟩
  induction n using Nat.strongRecOn generalizing t m with
  | _ n ih =>
    obtain ⟨s, x, rfl⟩ : ∃ s x, t = s ++ [x] := ⟨t.dropLast, t.getLast hne, (List.dropLast_concat_getLast hne).symm⟩
    rw [decFrom_append] at h
    cases hs : decFrom 0 s with
    | none => rw [hs] at h; cases h
    | some k =>
      rw [hs] at h
      have h' : (match digitVal x with
        | some d => decFrom (k * 10 + d) []
        | none => none) = some m := h
      cases hx : digitVal x with
      | none => rw [hx] at h'; cases h'
      | some d =>
        rw [hx] at h'
        simp only [decFrom, Option.some.injEq] at h'
        obtain ⟨rfl, hd⟩ := digit_back hx
        by_cases hs0 : s = []
        · subst hs0
          simp only [decFrom, Option.some.injEq] at hs
          subst hs
          rw [decDigits, dif_pos (by omega)]
          simp only [List.nil_append, List.cons.injEq, and_true]
          congr 1
          omega
        · have hl : 1 < (s ++ [UInt8.ofNat (48 + d)]).length := by
            have : 0 < s.length := List.length_pos_iff.mpr hs0
            simp; omega
          have hh := h0 hl
          have e2 : (s ++ [UInt8.ofNat (48 + d)]).head? = s.head? := by
            cases s with
            | nil => exact absurd rfl hs0
            | cons a s => rfl
          rw [e2] at hh
          have hk := ih s.length (by rw [← hn]; simp) s hs0 (fun _ => hh) k hs rfl
          have hk0 : k ≠ 0 := fun e => by
            subst e
            rw [decDigits, dif_pos (by omega)] at hk
            rw [← hk] at hh
            exact hh rfl
          rw [decDigits, dif_neg (by omega), show m / 10 = k by omega, show m % 10 = d by omega, hk]

theorem parseUint10_digits : ∀ (l : Bs) (acc u : Nat), decFrom acc l = some u → u < 18446744073709551616 → parseUint10 acc l = .ok u
  | [], acc, u, h, hu => by
    simp only [decFrom, Option.some.injEq] at h
    subst h
    rfl
  | c :: r, acc, u, h, hu => by
    have h' : (match digitVal c with
      | some d => decFrom (acc * 10 + d) r
      | none => none) = some u := h
    cases hc : digitVal c with
    | none => rw [hc] at h'; cases h'
    | some d =>
      rw [hc] at h'
      obtain ⟨h1, h2, h3⟩ := digitVal_eq hc
      have hge : ∀ (l : Bs) (a v : Nat), decFrom a l = some v → a ≤ v := by
        intro l
        induction l with
        | nil => intro a v h; simp only [decFrom, Option.some.injEq] at h; omega
        | cons b l ih =>
          intro a v h
          have h'' : (match digitVal b with
            | some d => decFrom (a * 10 + d) l
            | none => none) = some v := h
          cases hb : digitVal b with
          | none => rw [hb] at h''; cases h''
          | some e => rw [hb] at h''; have := ih _ _ h''; omega
      have hle := hge r _ _ h'
      show (if 48 ≤ c.toNat ∧ c.toNat ≤ 57 then _ else _) = _
      rw [if_pos ⟨h1, h2⟩, if_neg (by omega), if_neg (by omega), ← h3]
      exact parseUint10_digits r _ u h' hu
theorem parseMag_digits (u : Nat) (hu : u < 18446744073709551616) : parseMag (decDigits u) = .ok u := by
  unfold parseMag
  rw [if_neg (digits_ne u)]
  exact parseUint10_digits _ 0 u (decFrom_digits u) hu
theorem digit_toNat (d : Nat) (h : d < 10) : (UInt8.ofNat (48 + d)).toNat = 48 + d := by simp [UInt8.toNat_ofNat']; omega
theorem atoiAll_itoa (n : Int) (h0 : -9223372036854775808 ≤ n) (h1 : n ≤ 9223372036854775807) : atoiAll (itoa n) = .ok n := by
  by_cases h : n < 0
  · obtain ⟨m, rfl⟩ : ∃ m : Nat, n = -(m : Int) := ⟨n.natAbs, by omega⟩
    unfold itoa
    rw [if_pos h, show (-(m : Int)).natAbs = m by omega, atoiAll_minus, parseMag_digits m (by omega)]
    show (if _ then _ else _) = _
    rw [if_neg (by omega)]
  · obtain ⟨m, rfl⟩ : ∃ m : Nat, n = (m : Int) := ⟨n.toNat, by omega⟩
    unfold itoa
    rw [if_neg h, show ((m : Int)).toNat = m by omega]
    obtain ⟨d, t, e, h2, _⟩ := head_digits m
    have hd := digit_toNat d h2
    rw [e, atoiAll_plain _ _ (by rw [hd]; omega) (by rw [hd]; omega), ← e, parseMag_digits m (by omega)]
    show (if _ then _ else _) = _
    rw [if_neg (by omega)]
theorem numP_itoa (n : Int) (h0 : -999999999999999999 ≤ n) (h1 : n ≤ 999999999999999999) : numP (itoa n) = some n := by
  have hl : (itoa n).length ≤ 19 := by
    have hd : ∀ m : Nat, m ≤ 999999999999999999 → (decDigits m).length ≤ 18 := fun m hm => by
      rw [decDigits_length]
      by_cases h : nDigits m ≤ 18
      · exact h
      · exfalso
        have hlow : ∀ (k m : Nat), k + 1 ≤ nDigits m → 1 ≤ k → 10 ^ k ≤ m := by
          intro k
          induction k with
          | zero => intro m _ h; omega
          | succ k ih =>
            intro m hm _
            by_cases hs : m < 10
            · rw [nDigits_small hs] at hm; omega
            · rw [nDigits_big hs] at hm
              by_cases hk : 1 ≤ k
              · have := ih (m / 10) (by omega) hk
                rw [Nat.pow_succ]
                omega
              · have : k = 0 := by omega
                subst this
                simp
                omega
        have := hlow 18 m (by omega) (by omega)
        omega
    unfold itoa
    split
    · have := hd n.natAbs (by omega)
      simp
      omega
    · have := hd n.toNat (by omega)
      omega
  unfold numP
  rw [if_neg (by omega), atoiAll_itoa n (by omega) (by omega)]
  show (if _ then _ else _) = _
  rw [if_pos rfl]
theorem numP_some {s : Bs} {n : Int} (h : numP s = some n) : itoa n = s := by
  unfold numP at h
  split at h
  · cases h
  · split at h
    · rename_i v _
      by_cases hs : itoa v = s
      · rw [if_pos hs] at h
        cases h
        exact hs
      · rw [if_neg hs] at h
        cases h
    · cases h
theorem decFrom_lt18' {l : Bs} {m : Nat} (h : decFrom 0 l = some m) (hl : l.length ≤ 18) : m < 1000000000000000000 := decFrom_lt18 h hl
theorem numR_some {s : Bs} {n : Int} (h : numR s = some n) : itoa n = s ∧ -999999999999999999 ≤ n ∧ n ≤ 999999999999999999 := by
  unfold numR at h
  simp only at h
  cases hm : (s.head? == some 45) with
  | true =>
    rw [hm] at h
    simp only [if_true] at h
    split at h
    · cases h
    · rename_i hc
      simp only [not_or, not_and, true_and] at hc
      obtain ⟨c1, c2, c3, c4⟩ := hc
      cases hd : decFrom 0 (s.drop 1) with
      | none => rw [hd] at h; cases h
      | some m =>
        rw [hd] at h
        simp only [Option.some.injEq] at h
        subst h
        have hb := digits_back (s.drop 1) (fun e => by rw [e] at c1; simp at c1) (fun hl => c3 hl) m hd
        have hlt := decFrom_lt18 hd (by omega)
        have hm0 : m ≠ 0 := fun e => by
          subst e
          rw [decDigits, dif_pos (by omega)] at hb
          exact c4 hb.symm
        refine ⟨?_, by omega, by omega⟩
        unfold itoa
        rw [if_pos (by omega), show (-(m : Int)).natAbs = m by omega, hb]
        cases s with
        | nil => simp at hm
        | cons a t => simp at hm; simp [hm]
  | false =>
    rw [hm] at h
    simp only [Bool.false_eq_true, if_false] at h
    split at h
    · cases h
    · rename_i hc
      simp only [not_or, not_and] at hc
      obtain ⟨c1, c2, c3, c4⟩ := hc
      cases hd : decFrom 0 s with
      | none => rw [hd] at h; cases h
      | some m =>
        rw [hd] at h
        simp only [Option.some.injEq] at h
        subst h
        have hb := digits_back s (fun e => by rw [e] at c1; simp at c1) (fun hl => c3 hl) m hd
        have hlt := decFrom_lt18 hd (by omega)
        refine ⟨?_, by omega, by omega⟩
        unfold itoa
        rw [if_neg (by omega), show ((m : Int)).toNat = m by omega, hb]
theorem digits_len18 (m : Nat) (hm : m ≤ 999999999999999999) : (decDigits m).length ≤ 18 := by
  rw [decDigits_length]
  by_cases h : nDigits m ≤ 18
  · exact h
  · exfalso
    have hlow : ∀ (k m : Nat), k + 1 ≤ nDigits m → 1 ≤ k → 10 ^ k ≤ m := by
      intro k
      induction k with
      | zero => intro m _ h; omega
      | succ k ih =>
        intro m hm _
        by_cases hs : m < 10
        · rw [nDigits_small hs] at hm; omega
        · rw [nDigits_big hs] at hm
          by_cases hk : 1 ≤ k
          · have := ih (m / 10) (by omega) hk
            rw [Nat.pow_succ]
            omega
          · have : k = 0 := by omega
            subst this
            simp
            omega
    have := hlow 18 m (by omega) (by omega)
    omega
theorem numR_itoa (n : Int) (h0 : -999999999999999999 ≤ n) (h1 : n ≤ 999999999999999999) : numR (itoa n) = some n := by
  have hcond : ∀ m : Nat, m ≤ 999999999999999999 → ¬ ((decDigits m).length < 1) ∧ ¬ (18 < (decDigits m).length) ∧ ¬ (1 < (decDigits m).length ∧ (decDigits m).head? = some 48) := fun m hm => by
    refine ⟨fun h => digits_ne m (List.eq_nil_of_length_eq_zero (by omega)), fun h => by have := digits_len18 m hm; omega, fun h => ?_⟩
    obtain ⟨d, t, e, h2, h3⟩ := head_digits m
    rw [e] at h
    have h4 : UInt8.ofNat (48 + d) = 48 := by simpa using h.2
    have h5 := congrArg UInt8.toNat h4
    rw [digit_toNat d h2] at h5
    have h6 : (48 : UInt8).toNat = 48 := rfl
    have := (h3 (by omega)).1
    rw [this] at h
    simp at h
  by_cases h : n < 0
  · obtain ⟨m, rfl⟩ : ∃ m : Nat, n = -(m : Int) := ⟨n.natAbs, by omega⟩
    have e : itoa (-(m : Int)) = 45 :: decDigits m := by
      unfold itoa
      rw [if_pos h, show (-(m : Int)).natAbs = m by omega]
    obtain ⟨c1, c2, c3⟩ := hcond m (by omega)
    have c4 : decDigits m ≠ [48] := fun hz => by
      have := decFrom_digits m
      rw [hz] at this
      have : some 0 = some m := this
      simp at this
      omega
    rw [e]
    unfold numR
    simp only [List.head?_cons, beq_self_eq_true, if_true, List.drop_succ_cons, List.drop_zero, true_and]
    rw [if_neg (by simp only [not_or]; exact ⟨c1, c2, c3, c4⟩), decFrom_digits]
  · obtain ⟨m, rfl⟩ : ∃ m : Nat, n = (m : Int) := ⟨n.toNat, by omega⟩
    have e : itoa (m : Int) = decDigits m := by
      unfold itoa
      rw [if_neg h, show ((m : Int)).toNat = m by omega]
    obtain ⟨c1, c2, c3⟩ := hcond m (by omega)
    obtain ⟨d, t, e2, h2, h3⟩ := head_digits m
    have hh : ((decDigits m).head? == some 45) = false := by
      rw [e2]
      have h4 : UInt8.ofNat (48 + d) ≠ 45 := fun h4 => by
        have h5 := congrArg UInt8.toNat h4
        rw [digit_toNat d h2] at h5
        have h6 : (45 : UInt8).toNat = 45 := rfl
        omega
      simpa using h4
    rw [e]
    unfold numR
    simp only [hh, Bool.false_eq_true, if_false, false_and, or_false]
    rw [if_neg (by simp only [not_or]; exact ⟨c1, c2, c3⟩), decFrom_digits]
theorem numR_numP {s : Bs} {n : Int} (h : numR s = some n) : numP s = some n := by
  obtain ⟨h1, h2, h3⟩ := numR_some h
  rw [← h1]
  exact numP_itoa n h2 h3
theorem numP_numR {s : Bs} {n : Int} (h : numP s = some n) (h0 : -999999999999999999 ≤ n) (h1 : n ≤ 999999999999999999) : numR s = some n := by
  rw [← numP_some h]
  exact numR_itoa n h0 h1

theorem numbers_RP : ∀ (k : Nat) (rest : Bs) (more : Bool) (x : List Int × Bs × Bool), numbers numR k rest more = some x → numbers numP k rest more = some x ∧ numsOk x.1 = true
  | 0, rest, more, x, h => by
    cases h
    exact ⟨rfl, rfl⟩
  | k + 1, rest, false, x, h => by
    cases h
    exact ⟨rfl, rfl⟩
  | k + 1, rest, true, x, h => by
    unfold numbers at h ⊢
    cases hn : numR (cut rest).1 with
    | none => rw [hn] at h; cases h
    | some n =>
      rw [hn] at h
      rw [numR_numP hn]
      simp only at h ⊢
      cases hr : numbers numR k (cut rest).2.1 (cut rest).2.2 with
      | none => rw [hr] at h; cases h
      | some y =>
        obtain ⟨l, r, m⟩ := y
        rw [hr] at h
        obtain ⟨h1, h2⟩ := numbers_RP k _ _ _ hr
        rw [h1]
        cases h
        refine ⟨rfl, ?_⟩
        obtain ⟨_, h3, h4⟩ := numR_some hn
        unfold numsOk at h2 ⊢
        simp only [List.all_cons, Bool.and_eq_true, decide_eq_true_eq]
        exact ⟨⟨h3, h4⟩, h2⟩
theorem numbers_PR : ∀ (k : Nat) (rest : Bs) (more : Bool) (x : List Int × Bs × Bool), numbers numP k rest more = some x → numsOk x.1 = true → numbers numR k rest more = some x
  | 0, rest, more, x, h, ho => h
  | k + 1, rest, false, x, h, ho => h
  | k + 1, rest, true, x, h, ho => by
    unfold numbers at h ⊢
    cases hn : numP (cut rest).1 with
    | none => rw [hn] at h; cases h
    | some n =>
      rw [hn] at h
      simp only at h
      cases hr : numbers numP k (cut rest).2.1 (cut rest).2.2 with
      | none => rw [hr] at h; cases h
      | some y =>
        obtain ⟨l, r, m⟩ := y
        rw [hr] at h
        cases h
        unfold numsOk at ho
        simp only [List.all_cons, Bool.and_eq_true, decide_eq_true_eq] at ho
        rw [numP_numR hn ho.1.1 ho.1.2]
        simp only
        rw [numbers_PR k _ _ _ hr ho.2]
theorem may_nums {c : Cmd} (h : may c = true) : numsOk c.nums = true := by
  unfold may at h
  split at h
  · simp only [Bool.and_eq_true] at h
    exact h.2
  · cases h
theorem may_not {c : Cmd} (h : numsOk c.nums = false) : may c = false := by
  cases hm : may c with
  | false => rfl
  | true => rw [may_nums hm] at h; cases h

/-! texts in quotes -/
def hexv (x : UInt8) : Option Nat := if 48 ≤ x.toNat ∧ x.toNat ≤ 57 then some (x.toNat - 48) else if 97 ≤ x.toNat ∧ x.toNat ≤ 102 then some (x.toNat - 87) else none
/-- either case of letters -/
def hexV (x : UInt8) : Option Nat := match hexv x with
  | some n => some n
  | none => if 65 ≤ x.toNat ∧ x.toNat ≤ 70 then some (x.toNat - 55) else none
/-- the byte that comes first, and how long its writing is: by the program, by the document -/
def escP (l : Bs) : Option (UInt8 × Nat) :=
  if l.head? = some 92 then
    if 2 ≤ l.length ∧ l.getD 1 0 = 110 then some (10, 2) else if 2 ≤ l.length ∧ l.getD 1 0 ≠ 120 then some (l.getD 1 0, 2) else if 4 ≤ l.length then (match hexV (l.getD 2 0), hexV (l.getD 3 0) with
      | some a, some b => some (UInt8.ofNat (16 * a + b), 4)
      | _, _ => none) else none
  else some (l.getD 0 0, 1)
def escR (l : Bs) : Option (UInt8 × Nat) :=
  if l.head? = some 92 then
    if l.length < 2 then none else if l.getD 1 0 = 34 ∨ l.getD 1 0 = 92 then some (l.getD 1 0, 2) else if l.getD 1 0 = 110 then some (10, 2) else if l.getD 1 0 = 120 ∧ 4 ≤ l.length then (match hexv (l.getD 2 0), hexv (l.getD 3 0) with
      | some a, some b => some (UInt8.ofNat (16 * a + b), 4)
      | _, _ => none) else none
  else some (l.getD 0 0, 1)
def dec (esc : Bs → Option (UInt8 × Nat)) : Nat → Bs → Option Bs
  | 0, _ => some []
  | k + 1, l => if l = [] then some [] else match esc l with
    | none => none
    | some (x, n) => (dec esc k (l.drop n)).map (x :: ·)
def mid (s : Bs) : Bs := (s.drop 1).take (s.length - 2)
def unqBy (esc : Bs → Option (UInt8 × Nat)) (s : Bs) : Option Bs := if s.length < 2 ∨ s.head? ≠ some 34 ∨ s.getLast? ≠ some 34 then none else match dec esc (mid s).length (mid s) with
  | none => none
  | some o => if quoted o = s then some o else none

theorem qb_pos (x : UInt8) : 1 ≤ (qb x).length := by
  unfold qb
  repeat' split
  all_goals simp
theorem hex_all : ∀ n : Fin 256, hexv (hexd (n.val / 16)) = some (n.val / 16) ∧ hexv (hexd (n.val % 16)) = some (n.val % 16) := by decide +kernel
theorem hexV_of {x : UInt8} {n : Nat} (h : hexv x = some n) : hexV x = some n := by unfold hexV; rw [h]
theorem ofNat16 (x : UInt8) : UInt8.ofNat (16 * (x.toNat / 16) + x.toNat % 16) = x := by
  rw [Nat.div_add_mod]
  simp
theorem escP_qb (x : UInt8) (r : Bs) : escP (qb x ++ r) = some (x, (qb x).length) := by
  unfold qb
  split
  · rename_i h
    rcases h with rfl | rfl <;> rfl
  · split
    · rename_i h
      subst h
      rfl
    · split
      · obtain ⟨h1, h2⟩ := hex_all ⟨x.toNat, x.toNat_lt⟩
        simp only at h1 h2
        unfold escP
        simp only [List.cons_append, List.nil_append, List.head?_cons, if_true, List.length_cons, List.length_nil, List.getD_cons_succ, List.getD_cons_zero]
        rw [if_neg (by simp), if_neg (by simp), if_pos (by omega), hexV_of h1, hexV_of h2]
        simp only [ofNat16]
      · rename_i h _ _
        simp only [not_or] at h
        unfold escP
        simp only [List.cons_append, List.nil_append, List.head?_cons, Option.some.injEq]
        rw [if_neg h.2]
        rfl
theorem escR_qb (x : UInt8) (r : Bs) : escR (qb x ++ r) = some (x, (qb x).length) := by
  unfold qb
  split
  · rename_i h
    rcases h with rfl | rfl
    all_goals
      unfold escR
      simp
  · split
    · rename_i h
      subst h
      unfold escR
      simp
    · split
      · obtain ⟨h1, h2⟩ := hex_all ⟨x.toNat, x.toNat_lt⟩
        simp only at h1 h2
        unfold escR
        simp only [List.cons_append, List.nil_append, List.head?_cons, if_true, List.length_cons, List.length_nil, List.getD_cons_succ, List.getD_cons_zero]
        rw [if_neg (by omega), if_neg (by decide), if_neg (by decide), if_pos ⟨trivial, by omega⟩, h1, h2]
        simp only [ofNat16]
      · rename_i h _ _
        simp only [not_or] at h
        unfold escR
        simp only [List.cons_append, List.nil_append, List.head?_cons, Option.some.injEq]
        rw [if_neg h.2]
        rfl
theorem dec_qb {esc : Bs → Option (UInt8 × Nat)} (he : ∀ x r, esc (qb x ++ r) = some (x, (qb x).length)) : ∀ (o : Bs) (k : Nat), (o.flatMap qb).length ≤ k → dec esc k (o.flatMap qb) = some o
  | [], 0, _ => rfl
  | [], k + 1, _ => rfl
  | x :: o, 0, h => by
    have := qb_pos x
    simp at h
    rw [h.1] at this
    simp at this
  | x :: o, k + 1, h => by
    have hp := qb_pos x
    rw [List.flatMap_cons] at h ⊢
    rw [List.length_append] at h
    unfold dec
    rw [if_neg (by intro e; have := congrArg List.length e; simp at this; rw [this.1] at hp; simp at hp), he]
    simp only [List.drop_left]
    rw [dec_qb he o k (by omega)]
    rfl
theorem mid_quoted (o : Bs) : mid (quoted o) = o.flatMap qb := by
  unfold mid quoted
  simp
theorem unq_quoted {esc : Bs → Option (UInt8 × Nat)} (he : ∀ x r, esc (qb x ++ r) = some (x, (qb x).length)) (o : Bs) : unqBy esc (quoted o) = some o := by
  unfold unqBy
  rw [if_neg (by unfold quoted; simp [List.getLast?_cons]), mid_quoted, dec_qb he o _ (Nat.le_refl _)]
  simp
theorem unq_some {esc : Bs → Option (UInt8 × Nat)} {s o : Bs} (h : unqBy esc s = some o) : quoted o = s := by
  unfold unqBy at h
  split at h
  · cases h
  · split at h
    · cases h
    · split at h
      · cases h; assumption
      · cases h
theorem unq_same (s : Bs) : unqBy escP s = unqBy escR s := by
  cases hp : unqBy escP s with
  | some o => rw [← unq_some hp, unq_quoted escR_qb]
  | none =>
    cases hr : unqBy escR s with
    | none => rfl
    | some o => rw [← unq_some hr, unq_quoted escP_qb] at hp; cases hp

abbrev parseP (line : Bs) : Option Cmd := parseBy numP (unqBy escP) line
abbrev parseR (line : Bs) : Option Cmd := parseBy numR (unqBy escR) line
theorem parse_same (line : Bs) : parseP line = parseR line := by
  unfold parseP parseR parseBy
  cases ha : asks (cut line).1 with
  | none => rfl
  | some x =>
    obtain ⟨least, many, text⟩ := x
    simp only
    rw [show unqBy escP = unqBy escR from funext unq_same]
    cases hr : numbers numR many (cut line).2.1 (cut line).2.2 with
    | some y => rw [(numbers_RP _ _ _ _ hr).1]
    | none =>
      cases hp : numbers numP many (cut line).2.1 (cut line).2.2 with
      | none => rfl
      | some y =>
        obtain ⟨l, r, m⟩ := y
        have hb : numsOk l = false := by
          cases hb : numsOk l with
          | false => rfl
          | true => rw [numbers_PR _ _ _ _ hp hb] at hr; cases hr
        simp only [may_not (c := ⟨(cut line).1, l, _⟩) hb]
        split
        · split
          · split <;> rfl
          · rfl
        · rfl

def opn (rest : Bs) (more : Bool) : Bs := if more then 32 :: rest else []
def body (l : List Int) (q : Bs) : Bs := l.flatMap (fun n => 32 :: itoa n) ++ q
theorem body_cons (n : Int) (l : List Int) (q : Bs) : body (n :: l) q = 32 :: (itoa n ++ body l q) := by simp [body]
theorem cut_back : ∀ s : Bs, s = (cut s).1 ++ opn (cut s).2.1 (cut s).2.2
  | [] => rfl
  | x :: l => by
    unfold cut
    by_cases h : x = 32
    · rw [if_pos h, h]; rfl
    · rw [if_neg h]
      show x :: l = x :: ((cut l).1 ++ opn (cut l).2.1 (cut l).2.2)
      rw [← cut_back l]
theorem cut_at : ∀ (a : Bs) (rest : Bs) (more : Bool), (32 : UInt8) ∉ a → (more = false → rest = []) → cut (a ++ opn rest more) = (a, rest, more)
  | [], rest, true, h, hr => rfl
  | [], rest, false, h, hr => by rw [hr rfl]; rfl
  | x :: a, rest, more, h, hr => by
    simp only [List.mem_cons, not_or] at h
    show (if x = 32 then _ else (x :: (cut (a ++ opn rest more)).1, (cut (a ++ opn rest more)).2.1, (cut (a ++ opn rest more)).2.2)) = _
    rw [if_neg (fun e => h.1 e.symm), cut_at a rest more h.2 hr]
theorem no_blank (n : Int) : (32 : UInt8) ∉ itoa n := by
  have hd : ∀ u : Nat, (32 : UInt8) ∉ decDigits u := by
    intro u
    induction u using Nat.strongRecOn with
    | _ u ih =>
      have hx : ∀ d : Nat, d < 10 → (32 : UInt8) ≠ UInt8.ofNat (48 + d) := fun d hd e => by
        have h5 := congrArg UInt8.toNat e
        rw [digit_toNat d hd] at h5
        have h6 : (32 : UInt8).toNat = 32 := rfl
        omega
      by_cases h : u < 10
      · rw [decDigits, dif_pos h]
        simp only [List.mem_singleton]
        exact hx u h
      · rw [decDigits, dif_neg h]
        simp only [List.mem_append, List.mem_singleton, not_or]
        exact ⟨ih (u / 10) (by omega), hx _ (by omega)⟩
  unfold itoa
  split
  · simp only [List.mem_cons, not_or]
    exact ⟨by decide, hd _⟩
  · exact hd _
theorem numbers_back {num : Bs → Option Int} (hn : ∀ s n, num s = some n → itoa n = s) : ∀ (k : Nat) (rest : Bs) (more : Bool) (l : List Int) (r : Bs) (m : Bool), numbers num k rest more = some (l, r, m) → opn rest more = body l (opn r m)
  | 0, rest, more, l, r, m, h => by cases h; rfl
  | k + 1, rest, false, l, r, m, h => by cases h; rfl
  | k + 1, rest, true, l, r, m, h => by
    unfold numbers at h
    cases hs : num (cut rest).1 with
    | none => rw [hs] at h; cases h
    | some n =>
      rw [hs] at h
      simp only at h
      cases hr : numbers num k (cut rest).2.1 (cut rest).2.2 with
      | none => rw [hr] at h; cases h
      | some y =>
        obtain ⟨l', r', m'⟩ := y
        rw [hr] at h
        cases h
        rw [body_cons, hn _ _ hs, ← numbers_back hn k _ _ _ _ _ hr, ← cut_back]
        rfl
theorem numbers_of {num : Bs → Option Int} {q r : Bs} {m : Bool} (hq : q = opn r m) (hm : m = false → r = []) : ∀ (l : List Int) (k : Nat) (rest : Bs) (more : Bool), (∀ n ∈ l, num (itoa n) = some n) → opn rest more = body l q → (more = false → rest = []) → (l.length = k ∨ (l.length ≤ k ∧ m = false)) → numbers num k rest more = some (l, r, m)
  | [], 0, rest, more, hl, ho, hr, hk => by
    have e : opn rest more = opn r m := by rw [ho, hq]; rfl
    cases more <;> cases m
    · rw [hr rfl, hm rfl]; rfl
    · cases e
    · cases e
    · cases e; rfl
  | [], k + 1, rest, more, hl, ho, hr, hk => by
    have hm0 : m = false := by
      rcases hk with h | h
      · simp at h
      · exact h.2
    have e : opn rest more = opn r m := by rw [ho, hq]; rfl
    subst hm0
    cases more with
    | true => cases e
    | false => rw [hr rfl, hm rfl]; rfl
  | n :: l, 0, rest, more, hl, ho, hr, hk => by simp at hk
  | n :: l, k + 1, rest, more, hl, ho, hr, hk => by
    rw [body_cons] at ho
    cases more with
    | false => cases ho
    | true =>
      have e : rest = itoa n ++ body l q := by
        unfold opn at ho
        simpa using ho
      obtain ⟨r2, m2, h1, h2⟩ : ∃ r2 m2, body l q = opn r2 m2 ∧ (m2 = false → r2 = []) := by
        cases l with
        | nil => exact ⟨r, m, hq, hm⟩
        | cons n2 l2 => exact ⟨itoa n2 ++ body l2 q, true, body_cons n2 l2 q, fun h => by cases h⟩
      have hc : cut rest = (itoa n, r2, m2) := by rw [e, h1]; exact cut_at _ _ _ (no_blank n) h2
      unfold numbers
      rw [hc]
      simp only [hl n (by simp)]
      rw [numbers_of hq hm l k r2 m2 (fun x hx => hl x (by simp [hx])) h1.symm h2 (by simp at hk; omega)]
theorem tab_all : ∀ p ∈ tab, (32 : UInt8) ∉ p.1 ∧ (p.2.2.2 = true → p.2.1 = p.2.2.1) := by decide
theorem word_no_blank {w : Bs} {x : Nat × Nat × Bool} (h : asks w = some x) : (32 : UInt8) ∉ w ∧ (x.2.2 = true → x.1 = x.2.1) := tab_all (w, x) (lookup_mem h)
def quotIf (c : Cmd) : Bs := match asks c.word with
  | some (_, _, true) => 32 :: quoted c.text
  | _ => []
theorem print_eq (c : Cmd) : print c = if may c then some (c.word ++ body c.nums (quotIf c)) else none := by
  unfold print body quotIf
  rw [List.append_assoc]
/-- a line that is parsed would have been printed so -/
theorem parse_print {line : Bs} {c : Cmd} (h : parseP line = some c) : may c = true ∧ print c = some line := by
  unfold parseP parseBy at h
  cases ha : asks (cut line).1 with
  | none => rw [ha] at h; cases h
  | some x =>
    obtain ⟨least, many, text⟩ := x
    rw [ha] at h
    simp only at h
    cases hn : numbers numP many (cut line).2.1 (cut line).2.2 with
    | none => rw [hn] at h; cases h
    | some y =>
      obtain ⟨l, r, m⟩ := y
      rw [hn] at h
      simp only at h
      have hb := numbers_back (fun s n => numP_some) _ _ _ _ _ _ hn
      have hl := cut_back line
      split at h
      · rename_i hm
        cases ht : text with
        | true =>
          rw [ht] at h hm
          simp only [if_true] at h
          cases hu : unqBy escP r with
          | none => rw [hu] at h; cases h
          | some b =>
            rw [hu] at h
            simp only at h
            split at h
            · rename_i hmay
              cases h
              refine ⟨hmay, ?_⟩
              rw [print_eq, if_pos hmay]
              unfold quotIf
              simp only [ha, ht]
              rw [unq_some hu]
              subst hm
              rw [hb] at hl
              exact congrArg some hl.symm
            · cases h
        | false =>
          rw [ht] at h hm
          simp only [Bool.false_eq_true, if_false] at h
          split at h
          · rename_i hmay
            cases h
            refine ⟨hmay, ?_⟩
            rw [print_eq, if_pos hmay]
            unfold quotIf
            simp only [ha, ht]
            subst hm
            rw [hb] at hl
            exact congrArg some hl.symm
          · cases h
      · cases h
/-- what is printed is parsed as it was -/
theorem print_parse {c : Cmd} {s : Bs} (h : print c = some s) : parseP s = some c := by
  rw [print_eq] at h
  split at h
  · rename_i hmay
    cases h
    obtain ⟨word, nums, text⟩ := c
    have hno := may_nums hmay
    have hmay' := hmay
    unfold may at hmay'
    simp only at hmay' hno ⊢
    cases ha : asks word with
    | none => rw [ha] at hmay'; cases hmay'
    | some x =>
      obtain ⟨least, many, tx⟩ := x
      rw [ha] at hmay'
      simp only [Bool.and_eq_true, decide_eq_true_eq] at hmay'
      obtain ⟨hw, hx⟩ := word_no_blank ha
      simp only at hx
      have hnum : ∀ n ∈ nums, numP (itoa n) = some n := fun n hn => by
        unfold numsOk at hno
        rw [List.all_eq_true] at hno
        have := hno n hn
        simp only [Bool.and_eq_true, decide_eq_true_eq] at this
        exact numP_itoa n this.1 this.2
      have main : ∀ (r : Bs) (m : Bool), (m = false → r = []) → quotIf ⟨word, nums, text⟩ = opn r m → (nums.length = many ∨ (nums.length ≤ many ∧ m = false)) → (cut (word ++ body nums (quotIf ⟨word, nums, text⟩))).1 = word ∧ numbers numP many (cut (word ++ body nums (quotIf ⟨word, nums, text⟩))).2.1 (cut (word ++ body nums (quotIf ⟨word, nums, text⟩))).2.2 = some (nums, r, m) := fun r m hm hq hk => by
        obtain ⟨r2, m2, h1, h2⟩ : ∃ r2 m2, body nums (quotIf ⟨word, nums, text⟩) = opn r2 m2 ∧ (m2 = false → r2 = []) := by
          cases nums with
          | nil => exact ⟨r, m, hq, hm⟩
          | cons n2 l2 => exact ⟨itoa n2 ++ body l2 _, true, body_cons n2 l2 _, fun h => by cases h⟩
        rw [h1, cut_at word r2 m2 hw h2]
        exact ⟨rfl, numbers_of hq hm nums many r2 m2 hnum h1.symm h2 hk⟩
      cases ht : tx with
      | true =>
        have hq : quotIf ⟨word, nums, text⟩ = opn (quoted text) true := by unfold quotIf; simp only [ha, ht]; rfl
        obtain ⟨h1, h2⟩ := main (quoted text) true (fun h => by cases h) hq (.inl (by have := hx ht; omega))
        unfold parseP parseBy
        rw [h1, ha]
        simp only [h2, ht, if_true, unq_quoted escP_qb, hmay]
      | false =>
        have hq : quotIf ⟨word, nums, text⟩ = opn [] false := by unfold quotIf; simp only [ha, ht]; rfl
        obtain ⟨h1, h2⟩ := main [] false (fun _ => rfl) hq (.inr ⟨by omega, rfl⟩)
        have htx : text = [] := by
          rw [ht] at hmay'
          simpa using hmay'.1.2
        subst htx
        unfold parseP parseBy
        rw [h1, ha]
        simp only [h2, ht, if_true, Bool.false_eq_true, if_false, hmay]
  · cases h
end Go.Sc

namespace Go.Sc
set_option linter.unusedSimpArgs false
set_option linter.unusedVariables false
open Go.Lib

def str (l : Bs) : ByteArray := ⟨l.toArray⟩
theorem str_size (l : Bs) : (str l).size = l.length := by simp [str, ByteArray.size]
theorem str_toList (l : Bs) : (str l).toList = l := by simp [str]
theorem str_data (l : Bs) : (str l).data.toList = l := by simp [str]
theorem str_extract (l : Bs) (a b : Nat) : (str l).extract a b = str ((l.drop a).take (b - a)) := ByteArray.extract_mk l a b
theorem str_append (a b : Bs) : str a ++ str b = str (a ++ b) := ByteArray.mk_append_mk a b
theorem str_eta (s : ByteArray) : s = str s.data.toList := by
  unfold str
  cases s
  simp
theorem str_inj {a b : Bs} (h : str a = str b) : a = b := by rw [← str_data a, h, str_data]
/-- a byte of a string -/
class StrAt (l : Bs) (i : Int) (x : outParam UInt8) : Prop where
  h0 : 0 ≤ i
  h : l[i.toNat]? = some x
theorem run_index_str {P : Program} (w : World) (t : TypeId) (l : Bs) (k : IntKind) (i : Int) (x : UInt8) (h : P.underlying t = some .string) [hx : StrAt l i x] : (Instr.index t (.string (str l)) (.int k i)).run P w = .ok (.int .u8 x.toNat) w := by
  have hlt : i.toNat < l.length := (List.getElem?_eq_some_iff.1 hx.h).1
  have h0 := hx.h0
  rw [run_index_string w t (str l) k i h, dif_pos (by rw [str_size]; omega)]
  have : (str l)[i.toNat]'(by rw [str_size]; omega) = x := by
    have h2 := hx.h
    rw [List.getElem?_eq_getElem hlt] at h2
    cases h2
    show (str l).data[i.toNat]'_ = _
    simp [str]
  rw [this]

theorem cut_idx (l : Bs) : (indexByte l 32 = -1 ∧ cut l = (l, [], false)) ∨ ∃ k : Nat, indexByte l 32 = k ∧ k < l.length ∧ cut l = (l.take k, l.drop (k + 1), true) := by
  induction l with
  | nil => exact .inl ⟨rfl, rfl⟩
  | cons x l ih =>
    unfold indexByte cut
    by_cases h : x = 32
    · subst h
      exact .inr ⟨0, by simp, by simp, by simp⟩
    · have hb : (x == 32) = false := by simpa using h
      rw [hb]
      simp only [Bool.false_eq_true, if_false, if_neg h]
      rcases ih with ⟨h1, h2⟩ | ⟨k, h1, h2, h3⟩
      · refine .inl ⟨?_, ?_⟩
        · rw [h1]; rfl
        · rw [h2]
      · refine .inr ⟨k + 1, ?_, by simp; omega, ?_⟩
        · rw [h1]
          have : ((k : Int) == -1) = false := by
            rw [beq_eq_false_iff_ne]
            omega
          rw [this]
          simp
        · rw [h3]; simp
theorem cut_len (l : Bs) : (cut l).1.length ≤ l.length ∧ (cut l).2.1.length ≤ l.length := by
  rcases cut_idx l with ⟨_, h⟩ | ⟨k, _, h2, h⟩
  · rw [h]; simp
  · rw [h]
    simp
    omega
end Go.Sc

namespace Go.Sl
set_option linter.unusedSimpArgs false
set_option linter.unusedVariables false
open Go.RowKit

theorem Sat.below {A : Assn} {w w' : World} (hs : Sat A w) (hb : Below w.heap.size w w') : Sat A w' := by
  obtain ⟨h, a, H⟩ := hs
  refine ⟨h, a, fun k r e => ?_⟩
  have h1 := H k r e
  have key : ∀ b o, w.heap[b]? = some o → w'.heap[b]? = some o := fun b o e => by
    rw [hb.block b (Array.getElem?_eq_some_iff.1 e).1]
    exact e
  cases k with
  | raw b => cases r <;> first | exact h1.elim | exact key _ _ h1
  | cell b i =>
    cases r with
    | val v =>
      obtain ⟨c, t, g1, g2⟩ := h1
      exact ⟨c, t, key _ _ g1, g2⟩
    | _ => exact h1.elim
  | hdr b =>
    cases r with
    | shp t n =>
      obtain ⟨c, g1, g2⟩ := h1
      exact ⟨c, key _ _ g1, g2⟩
    | _ => exact h1.elim
  | env =>
    cases r with
    | io a b c =>
      obtain ⟨g1, g2, g3⟩ := h1
      exact ⟨hb.os.trans g1, hb.tape.trans g2, hb.output.trans g3⟩
    | _ => exact h1.elim

theorem Byt.below {w w' : World} {v : Value} {l : List UInt8} (h : Byt w v l) (hb : Below w.heap.size w w') : Byt w' v l := by
  obtain ⟨a, c, h1, h2, h3, h4⟩ := h
  refine ⟨a, c, h1, h2, h3, fun i x hx => ?_⟩
  obtain ⟨b, o, h5, h6⟩ := h4 i x hx
  exact ⟨b, o, h5, by rw [hb.cell (World.block_lt_of_cell? w _ h6)]; exact h6⟩
theorem below_drewN (w : World) (n : Nat) : Below w.heap.size w (w.drewN n) := (Sat.eq ((Sat.old_self w).drewN n) (sep_one _).symm).old_below

/-- numbers -/
def zs (l : List Int) : List Value := l.map (Value.int .i64)
theorem zs_len (l : List Int) : (zs l).length = l.length := by simp [zs]
theorem zs_append (a b : List Int) : zs (a ++ b) = zs a ++ zs b := by simp [zs]
def Zat (w : World) (v : Value) (l : List Int) : Prop :=
  ∃ a c, v = .slice a l.length c ∧ l.length ≤ c ∧ c ≤ maxLen ∧ ∀ i x, l[i]? = some x → ∃ b o, a = some ⟨b, o, none⟩ ∧ w.cell? ⟨b, o + i, none⟩ = some (.int .i64 x)
theorem Zat.len {w : World} {v : Value} {l : List Int} (h : Zat w v l) : ∃ a c, v = .slice a l.length c ∧ l.length ≤ c ∧ c ≤ maxLen := by
  obtain ⟨a, c, h, h1, h2, _⟩ := h
  exact ⟨a, c, h, h1, h2⟩
theorem Zat.at {w : World} {a : Option Addr} {n c q : Nat} {l : List Int} {x : Int} (h : Zat w (.slice a n c) l) (hq : l[q]? = some x) : ∃ b o, a = some ⟨b, o, none⟩ ∧ w.cell? ⟨b, o + q, none⟩ = some (.int .i64 x) := by
  obtain ⟨a', c', h1, _, _, h2⟩ := h
  cases h1
  exact h2 q x hq
theorem Zat.below {w w' : World} {v : Value} {l : List Int} (h : Zat w v l) (hb : Below w.heap.size w w') : Zat w' v l := by
  obtain ⟨a, c, h1, h2, h3, h4⟩ := h
  refine ⟨a, c, h1, h2, h3, fun i x hx => ?_⟩
  obtain ⟨b, o, h5, h6⟩ := h4 i x hx
  exact ⟨b, o, h5, by rw [hb.cell (World.block_lt_of_cell? w _ h6)]; exact h6⟩
theorem Zat.rw {e : Nat} {v : Value} {l : List Int} {F : Assn} {w : World} (hs : Sat (rw e 1 v (zs l) * F) w) : Zat w v l := by
  rcases hs.rw_open with ⟨h1, h2, h3⟩ | ⟨g, n, cap, sp, h1, h2, h3, h4, h5, h6⟩
  · have : l = [] := by simpa [zs] using h2
    subst this h1
    exact ⟨none, 0, rfl, by simp, by simp, by simp⟩
  · rw [zs_len, Nat.mul_one] at h2
    subst h2 h1
    refine ⟨_, cap, rfl, h4, h5, fun i x hx => ⟨g, 0, rfl, ?_⟩⟩
    have h7 : Sat (Sl.cells g 0 (zs l ++ sp) * (hdr g e (zs l ++ sp).length * F)) w := h6.eq (by unfold block; ac_rfl)
    refine h7.cells_at i (.int .i64 x) ?_
    rw [List.getElem?_append_left (by rw [zs_len]; exact (List.getElem?_eq_some_iff.1 hx).1)]
    unfold zs
    rw [List.getElem?_map, hx]
    rfl
theorem Zat.nil (w : World) : Zat w (.slice none 0 0) [] := ⟨none, 0, rfl, by simp, by simp, by simp⟩
theorem Byt.nil (w : World) : Byt w (.slice none 0 0) [] := ⟨none, 0, rfl, by simp, by simp, by simp⟩
theorem Byt.rw {e : Nat} {v : Value} {l : List UInt8} {F : Assn} {w : World} (hs : Sat (rw e 1 v (bys l) * F) w) : Byt w v l := Reads.rw F w hs
/-- what a call made on top of all that was there -/
theorem Sat.over {R A : Assn} {w0 w' : World} (hA : Sat A w0) (h : Sat (R * old w0) w') : Sat (R * A) w' := by
  obtain ⟨a, ha, HA⟩ := hA
  have hb := (h.eq (sep_comm _ _)).old_below
  obtain ⟨_, ⟨g, k, d, rfl, hg, hk⟩, H⟩ := h
  have hk' : k = fun k => match k with
    | .raw b => (w0.heap[b]?).map Res.obj
    | .env => some (.io w0.os w0.tape w0.output)
    | _ => none := hk
  subst hk'
  have hblk : ∀ (k1 : Key) (b : Nat), g k1 ≠ none → k1.blk = some b → w0.heap[b]? ≠ none → False := fun k1 b e1 e2 e3 => by
    refine d k1 (.raw b) e1 ?_ (.inr ⟨.inr trivial, e2⟩)
    cases ho : w0.heap[b]? with
    | none => exact absurd ho e3
    | some o => simp [ho]
  refine ⟨g.un a, ⟨g, a, ?_, rfl, hg, ha⟩, ?_⟩
  · intro k1 k2 e1 e2 c
    cases hr : a k2 with
    | none => exact e2 hr
    | some r =>
      have h2 := HA k2 r hr
      have hc : k1.blk = k2.blk := by
        rcases c with rfl | ⟨_, c⟩
        · rfl
        · exact c
      cases k2 with
      | raw b =>
        cases r <;> first | exact h2.elim | exact hblk k1 b e1 hc (by rw [show w0.heap[b]? = some _ from h2]; simp)
      | cell b i =>
        cases r with
        | val v => obtain ⟨c', t, g1, _⟩ := h2; exact hblk k1 b e1 hc (by rw [g1]; simp)
        | _ => exact h2.elim
      | hdr b =>
        cases r with
        | shp t n => obtain ⟨c', g1, _⟩ := h2; exact hblk k1 b e1 hc (by rw [g1]; simp)
        | _ => exact h2.elim
      | env => exact d k1 .env e1 (by simp) c
  · intro k1 r e
    cases hq : g k1 with
    | some r1 =>
      have : r1 = r := by
        unfold Hp.un at e
        rw [hq] at e
        exact Option.some.inj e
      subst this
      exact H k1 r1 (by unfold Hp.un; rw [hq])
    | none =>
      obtain ⟨h', e1, e2⟩ := (Sat.below (A := fun h => h = a) ⟨a, rfl, HA⟩ hb)
      subst e1
      refine e2 k1 r ?_
      unfold Hp.un at e
      rw [hq] at e
      exact e
end Go.Sl
