/-
  Of all versions the pages that are told are just those of their trees in the file in the form of the document, and a root that is none is refused. No condition. (part 15)
-/
import Derived.WalkKit
set_option linter.unusedSimpArgs false
set_option linter.unusedVariables false
namespace Go.Tr
set_option linter.unusedSimpArgs false
set_option linter.unusedVariables false
def leb : Nat → Nat → List UInt8
 | _, 0 => []
 | n, w + 1 => UInt8.ofNat n :: leb (n / 256) w
def lei : List UInt8 → Nat
 | [] => 0
 | b :: l => b.toNat + 256 * lei l
theorem leb_len (n w : Nat) : (leb n w).length = w := by
 induction w generalizing n with
 | zero => rfl
 | succ w ih => simp [leb, ih]
theorem lei_leb (n w : Nat) (h : n < 256 ^ w) : lei (leb n w) = n := by
 induction w generalizing n with
 | zero => simp at h; subst h; rfl
 | succ w ih =>
   have h1 : n / 256 < 256 ^ w := by
    rw [Nat.pow_succ] at h
    exact Nat.div_lt_of_lt_mul (by rw [Nat.mul_comm]; exact h)
   show (UInt8.ofNat n).toNat + 256 * lei (leb (n / 256) w) = n
   rw [ih _ h1, UInt8.toNat_ofNat']
   omega
theorem lei_lt (l : List UInt8) : lei l < 256 ^ l.length := by
 induction l with
 | nil => simp [lei]
 | cons b l ih =>
   have := b.toNat_lt
   simp only [lei, List.length_cons, Nat.pow_succ]
   omega
theorem leb_lei (l : List UInt8) : leb (lei l) l.length = l := by
 induction l with
 | nil => rfl
 | cons b l ih =>
   have hb := b.toNat_lt
   simp only [lei, List.length_cons, leb]
   have e1 : (b.toNat + 256 * lei l) / 256 = lei l := by omega
   rw [e1, ih]
   congr 1
   apply UInt8.toNat_inj.1
   rw [UInt8.toNat_ofNat']
   omega
def crcStep (s : Nat) : Nat := if s % 2 = 1 then (s / 2) ^^^ 3988292384 else s / 2
def crcSteps : Nat → Nat → Nat
 | 0, s => s
 | k + 1, s => crcSteps k (crcStep s)
def crcByte (s : Nat) (b : UInt8) : Nat := crcSteps 8 (s ^^^ b.toNat)
def crcRun (s : Nat) (l : List UInt8) : Nat := l.foldl crcByte s
def crc (l : List UInt8) : Nat := 4294967295 ^^^ crcRun 4294967295 l
theorem crcStep_lt {s : Nat} (h : s < 4294967296) : crcStep s < 4294967296 := by
 unfold crcStep
 split
 · exact Nat.xor_lt_two_pow (n := 32) (by omega) (by omega)
 · omega
theorem crcSteps_lt (k : Nat) {s : Nat} (h : s < 4294967296) : crcSteps k s < 4294967296 := by
 induction k generalizing s with
 | zero => exact h
 | succ k ih => exact ih (crcStep_lt h)
theorem crcByte_lt {s : Nat} (h : s < 4294967296) (b : UInt8) : crcByte s b < 4294967296 := by
 have := b.toNat_lt
 exact crcSteps_lt 8 (Nat.xor_lt_two_pow (n := 32) (by omega) (by omega))
theorem crcRun_lt (l : List UInt8) {s : Nat} (h : s < 4294967296) : crcRun s l < 4294967296 := by
 unfold crcRun
 induction l generalizing s with
 | nil => exact h
 | cons b l ih => exact ih (crcByte_lt h b)
theorem crc_lt (l : List UInt8) : crc l < 4294967296 := Nat.xor_lt_two_pow (n := 32) (by omega) (crcRun_lt l (by omega))
theorem crcRun_append (s : Nat) (a b : List UInt8) : crcRun s (a ++ b) = crcRun (crcRun s a) b := List.foldl_append
def zs (n : Nat) : List UInt8 := List.replicate n 0
theorem zs_len (n : Nat) : (zs n).length = n := by simp [zs]
def pgHead (no kind : Nat) (body : List UInt8) : List UInt8 := UInt8.ofNat kind :: 0 :: (leb body.length 2 ++ leb no 4)
def pgTail (body : List UInt8) : List UInt8 := body ++ zs (244 - body.length)
def pgPack (no kind : Nat) (body : List UInt8) : List UInt8 := pgHead no kind body ++ (leb (crc (pgHead no kind body ++ pgTail body)) 4 ++ pgTail body)
theorem pgHead_len (no kind : Nat) (body : List UInt8) : (pgHead no kind body).length = 8 := by simp [pgHead, leb_len]
theorem pgTail_len {body : List UInt8} (h : body.length ≤ 244) : (pgTail body).length = 244 := by simp [pgTail, zs]; omega
theorem pgPack_len (no kind : Nat) {body : List UInt8} (h : body.length ≤ 244) : (pgPack no kind body).length = 256 := by simp [pgPack, pgHead_len, pgTail_len h, leb_len]
def pagePack (no kind : Int) (body : List UInt8) : List UInt8 × Int :=
 if no < 0 ∨ 1048576 ≤ no ∨ kind < 1 ∨ 9 < kind then ([], 1) else
 if 244 < body.length then ([], 10) else (pgPack no.toNat kind.toNat body, 0)
def pageOpen (no : Int) (b : List UInt8) : Int × List UInt8 × Int :=
 if no < 0 ∨ 1048576 ≤ no then (0, [], 1) else
 if b.length ≠ 256 then (0, [], 3) else
 if lei ((b.drop 8).take 4) ≠ crc (b.take 8 ++ b.drop 12) then (0, [], 5) else
 let kind := lei (b.take 1)
 let n := lei ((b.drop 2).take 2)
 if (b.drop 1).take 1 ≠ [0] ∨ kind < 1 ∨ 9 < kind ∨ 244 < n ∨ (lei ((b.drop 4).take 4) : Int) ≠ no then (0, [], 4) else
 if (b.drop (12 + n)).any (· != 0) then (0, [], 4) else
 (kind, (b.drop 12).take n, 0)
theorem pgPack_parts (no kind : Nat) {body : List UInt8} (h : body.length ≤ 244) :
 (pgPack no kind body).take 8 = pgHead no kind body ∧ ((pgPack no kind body).drop 8).take 4 = leb (crc (pgHead no kind body ++ pgTail body)) 4 ∧ (pgPack no kind body).drop 12 = pgTail body := by
 have h8 := pgHead_len no kind body
 have h4 := leb_len (crc (pgHead no kind body ++ pgTail body)) 4
 unfold pgPack
 refine ⟨?_, ?_, ?_⟩
 · rw [List.take_append_of_le_length (by omega), List.take_of_length_le (by omega)]
 · rw [List.drop_append_of_le_length (by omega), List.drop_of_length_le (by omega), List.nil_append, List.take_append_of_le_length (by omega), List.take_of_length_le (by omega)]
 · rw [← List.append_assoc, List.drop_append_of_le_length (by simp; omega), List.drop_of_length_le (by simp; omega), List.nil_append]
theorem open_pack {no kind : Nat} {body : List UInt8} (hn : no < 1048576) (hk : 1 ≤ kind ∧ kind ≤ 9) (hb : body.length ≤ 244) : pageOpen no (pgPack no kind body) = ((kind : Int), body, 0) := by
 obtain ⟨p1, p2, p3⟩ := pgPack_parts no kind hb
 have hlen := pgPack_len no kind hb
 have hcr := crc_lt (pgHead no kind body ++ pgTail body)
 obtain ⟨P, hP⟩ : ∃ P, pgPack no kind body = P := ⟨_, rfl⟩
 rw [hP] at p1 p2 p3 hlen
 have q1 : P.take 1 = [UInt8.ofNat kind] := by
  have : P.take 1 = (P.take 8).take 1 := by rw [List.take_take]; rfl
  rw [this, p1]; rfl
 have q2 : (P.drop 1).take 1 = [0] := by
  have : (P.drop 1).take 1 = ((P.take 8).drop 1).take 1 := by rw [List.drop_take, List.take_take]; rfl
  rw [this, p1]; rfl
 have q3 : (P.drop 2).take 2 = leb body.length 2 := by
  have : (P.drop 2).take 2 = ((P.take 8).drop 2).take 2 := by rw [List.drop_take, List.take_take]; rfl
  rw [this, p1]
  show (leb body.length 2 ++ leb no 4).take 2 = _
  rw [List.take_append_of_le_length (by rw [leb_len]; omega), List.take_of_length_le (by rw [leb_len]; omega)]
 have q4 : (P.drop 4).take 4 = leb no 4 := by
  have : (P.drop 4).take 4 = ((P.take 8).drop 4).take 4 := by rw [List.drop_take, List.take_take]; rfl
  rw [this, p1]
  show ((leb body.length 2 ++ leb no 4).drop 2).take 4 = _
  rw [List.drop_append_of_le_length (by rw [leb_len]; omega), List.drop_of_length_le (by rw [leb_len]; omega), List.nil_append, List.take_of_length_le (by rw [leb_len]; omega)]
 have k1 : lei [UInt8.ofNat kind] = kind := by simp [lei, UInt8.toNat_ofNat']; omega
 have k3 : lei (leb body.length 2) = body.length := lei_leb _ _ (by omega)
 have k4 : lei (leb no 4) = no := lei_leb _ _ (by omega)
 have d1 : P.drop (12 + body.length) = zs (244 - body.length) := by
  rw [← List.drop_drop, p3]
  unfold pgTail
  rw [List.drop_append_of_le_length (Nat.le_refl _), List.drop_of_length_le (Nat.le_refl _), List.nil_append]
 have d2 : (P.drop 12).take body.length = body := by
  rw [p3]
  unfold pgTail
  rw [List.take_append_of_le_length (Nat.le_refl _), List.take_of_length_le (Nat.le_refl _)]
 rw [hP]
 unfold pageOpen
 rw [if_neg (by omega), if_neg (by omega), p1, p2, p3, lei_leb _ _ (by omega), if_neg (by simp)]
 simp only [q1, q2, q3, q4, k1, k3, k4]
 rw [if_neg (by simp; omega), d1, if_neg (by simp [zs]), ← p3, d2]
end Go.Tr
namespace Go.Tr
set_option linter.unusedSimpArgs false
set_option linter.unusedVariables false
structure Ent where
 src : Int
 pos : Int
 len : Int
 lines : Int
deriving DecidableEq
structure Kd where
 page : Int
 bytes : Int
 lines : Int
 scraps : Int
deriving DecidableEq
structure Nd where
 leaf : Bool
 ents : List Ent
 kids : List Kd
deriving DecidableEq
def nd0 : Nd := ⟨false, [], []⟩
def mayEnt (x : Ent) : Bool :=
 decide ((x.src = 0 ∨ x.src = 1) ∧ 0 ≤ x.pos ∧ x.pos ≤ 16777216 ∧ 1 ≤ x.len ∧ x.len ≤ 16777216 - x.pos ∧ x.len ≤ 1048576 ∧ (-1 ≤ x.lines ∧ x.lines ≤ x.len) ∧ (x.src = 1 ∨ x.lines = -1))
def mayKid (k : Kd) : Bool :=
 decide (1 ≤ k.page ∧ k.page < 1048576 ∧ 1 ≤ k.bytes ∧ k.bytes ≤ 1048576 ∧ (-1 ≤ k.lines ∧ k.lines ≤ k.bytes) ∧ 1 ≤ k.scraps ∧ k.scraps ≤ k.bytes)
def eBytes (l : List Ent) : Int := (l.map (·.len)).sum
def kBytes (l : List Kd) : Int := (l.map (·.bytes)).sum
def kScraps (l : List Kd) : Int := (l.map (·.scraps)).sum
def may (n : Nd) : Bool :=
 if n.ents.any (fun x => !n.leaf || !mayEnt x) then false else
 if n.kids.any (fun k => n.leaf || !mayKid k) then false else
 let many := if n.leaf then n.ents.length else n.kids.length
 let least := if n.leaf then 1 else 2
 decide (least ≤ many ∧ many ≤ 12 ∧ eBytes n.ents + kBytes n.kids ≤ 1048576 ∧ kScraps n.kids ≤ 1024)
def n4 (n : Int) : Nat := if n = -1 then 4294967295 else n.toNat
def i4 (n : Nat) : Int := if n = 4294967295 then -1 else n
theorem i4_n4 {n : Int} (h1 : -1 ≤ n) (h2 : n < 4294967295) : i4 (n4 n) = n := by
 unfold i4 n4
 split
 · rename_i h; rw [if_pos rfl, h]
 · rw [if_neg (by omega)]; omega
theorem n4_lt {n : Int} (h2 : n < 4294967295) : n4 n < 256 ^ 4 := by unfold n4; split <;> omega
def eb (x : Ent) : List UInt8 := leb x.src.toNat 1 ++ (leb (n4 x.pos) 4 ++ (leb (n4 x.len) 4 ++ leb (n4 x.lines) 4))
def kb (k : Kd) : List UInt8 := leb (n4 k.page) 4 ++ (leb (n4 k.bytes) 4 ++ (leb (n4 k.lines) 4 ++ leb (n4 k.scraps) 4))
theorem eb_len (x : Ent) : (eb x).length = 13 := by simp [eb, leb_len]
theorem kb_len (k : Kd) : (kb k).length = 16 := by simp [kb, leb_len]
def ndPack (n : Nd) : Int × List UInt8 × Int :=
 if may n = false then (0, [], 1) else
 if n.leaf then (1, leb n.ents.length 1 ++ n.ents.flatMap eb, 0) else (2, leb n.kids.length 1 ++ n.kids.flatMap kb, 0)
def ue (b : List UInt8) : Ent := ⟨lei (b.take 1), i4 (lei ((b.drop 1).take 4)), i4 (lei ((b.drop 5).take 4)), i4 (lei ((b.drop 9).take 4))⟩
def uk (b : List UInt8) : Kd := ⟨i4 (lei (b.take 4)), i4 (lei ((b.drop 4).take 4)), i4 (lei ((b.drop 8).take 4)), i4 (lei ((b.drop 12).take 4))⟩
def ues : Nat → List UInt8 → List Ent
 | 0, _ => []
 | n + 1, b => ue (b.take 13) :: ues n (b.drop 13)
def uks : Nat → List UInt8 → List Kd
 | 0, _ => []
 | n + 1, b => uk (b.take 16) :: uks n (b.drop 16)
def ndOpen (kind : Int) (body : List UInt8) : Nd × Int :=
 match body with
 | [] => (nd0, 4)
 | b :: rest =>
   if kind ≠ 1 ∧ kind ≠ 2 then (nd0, 4) else
   if rest.length ≠ b.toNat * (if kind = 1 then 13 else 16) then (nd0, 4) else
   let n : Nd := if kind = 1 then ⟨true, ues b.toNat rest, []⟩ else ⟨false, [], uks b.toNat rest⟩
   if may n then (n, 0) else (nd0, 4)
def addL (a b : Int) : Int := if b < 0 ∨ a < 0 then -1 else a + b
def ndSum (n : Nd) : Int × Int × Int :=
 if may n then
  (eBytes n.ents + kBytes n.kids, (n.kids.map (·.lines)).foldl addL ((n.ents.map (·.lines)).foldl addL 0), n.ents.length + kScraps n.kids)
 else (0, 0, 0)
theorem take4 {a b : List UInt8} {n : Nat} (h : a.length = n) : (a ++ b).take n = a := by subst h; simp
theorem drop4 {a b : List UInt8} {n : Nat} (h : a.length = n) : (a ++ b).drop n = b := by subst h; simp
theorem ue_eb {x : Ent} (h : mayEnt x = true) : ue (eb x) = x := by
 unfold mayEnt at h
 simp only [decide_eq_true_eq] at h
 obtain ⟨h1, h2, h3, h4, h5, h6, h7, h8⟩ := h
 have a1 : (eb x).take 1 = leb x.src.toNat 1 := take4 (leb_len _ _)
 have a2 : (eb x).drop 1 = leb (n4 x.pos) 4 ++ (leb (n4 x.len) 4 ++ leb (n4 x.lines) 4) := drop4 (leb_len _ _)
 have a3 : (eb x).drop 5 = leb (n4 x.len) 4 ++ leb (n4 x.lines) 4 := by rw [show 5 = 1 + 4 from rfl, ← List.drop_drop, a2, drop4 (leb_len _ _)]
 have a4 : (eb x).drop 9 = leb (n4 x.lines) 4 := by rw [show 9 = 5 + 4 from rfl, ← List.drop_drop, a3, drop4 (leb_len _ _)]
 unfold ue
 rw [a1, a2, a3, a4, take4 (leb_len _ _), take4 (leb_len _ _), List.take_of_length_le (by rw [leb_len]; omega), lei_leb _ _ (by omega), lei_leb _ _ (n4_lt (by omega)), lei_leb _ _ (n4_lt (by omega)), lei_leb _ _ (n4_lt (by omega)), i4_n4 (by omega) (by omega), i4_n4 (by omega) (by omega), i4_n4 (by omega) (by omega)]
 cases x
 simp only [Ent.mk.injEq, and_true]
 simp only at h1
 omega
theorem uk_kb {k : Kd} (h : mayKid k = true) : uk (kb k) = k := by
 unfold mayKid at h
 simp only [decide_eq_true_eq] at h
 obtain ⟨h1, h2, h3, h4, h5, h6, h7⟩ := h
 have a1 : (kb k).take 4 = leb (n4 k.page) 4 := take4 (leb_len _ _)
 have a2 : (kb k).drop 4 = leb (n4 k.bytes) 4 ++ (leb (n4 k.lines) 4 ++ leb (n4 k.scraps) 4) := drop4 (leb_len _ _)
 have a3 : (kb k).drop 8 = leb (n4 k.lines) 4 ++ leb (n4 k.scraps) 4 := by rw [show 8 = 4 + 4 from rfl, ← List.drop_drop, a2, drop4 (leb_len _ _)]
 have a4 : (kb k).drop 12 = leb (n4 k.scraps) 4 := by rw [show 12 = 8 + 4 from rfl, ← List.drop_drop, a3, drop4 (leb_len _ _)]
 unfold uk
 rw [a1, a2, a3, a4, take4 (leb_len _ _), take4 (leb_len _ _), List.take_of_length_le (by rw [leb_len]; omega), lei_leb _ _ (n4_lt (by omega)), lei_leb _ _ (n4_lt (by omega)), lei_leb _ _ (n4_lt (by omega)), lei_leb _ _ (n4_lt (by omega)), i4_n4 (by omega) (by omega), i4_n4 (by omega) (by omega), i4_n4 (by omega) (by omega), i4_n4 (by omega) (by omega)]
theorem ues_ebs {l : List Ent} (h : ∀ x ∈ l, mayEnt x = true) : ues l.length (l.flatMap eb) = l := by
 induction l with
 | nil => rfl
 | cons x l ih =>
   rw [List.length_cons, List.flatMap_cons]
   show ue ((eb x ++ l.flatMap eb).take 13) :: ues l.length ((eb x ++ l.flatMap eb).drop 13) = _
   rw [take4 (eb_len x), drop4 (eb_len x), ue_eb (h x (by simp)), ih fun y hy => h y (by simp [hy])]
theorem uks_kbs {l : List Kd} (h : ∀ x ∈ l, mayKid x = true) : uks l.length (l.flatMap kb) = l := by
 induction l with
 | nil => rfl
 | cons x l ih =>
   rw [List.length_cons, List.flatMap_cons]
   show uk ((kb x ++ l.flatMap kb).take 16) :: uks l.length ((kb x ++ l.flatMap kb).drop 16) = _
   rw [take4 (kb_len x), drop4 (kb_len x), uk_kb (h x (by simp)), ih fun y hy => h y (by simp [hy])]
theorem flat_len {α : Type} {f : α → List UInt8} {c : Nat} (hf : ∀ x, (f x).length = c) (l : List α) : (l.flatMap f).length = l.length * c := by
 induction l with
 | nil => simp
 | cons x l ih => rw [List.flatMap_cons, List.length_append, hf, ih, List.length_cons, Nat.add_mul]; omega
theorem may_leaf {n : Nd} (h : may n = true) (hl : n.leaf = true) : n.kids = [] ∧ (∀ x ∈ n.ents, mayEnt x = true) ∧ 1 ≤ n.ents.length ∧ n.ents.length ≤ 12 ∧ eBytes n.ents ≤ 1048576 := by
 unfold may at h
 by_cases h1 : n.ents.any (fun x => !n.leaf || !mayEnt x) = true
 · rw [if_pos h1] at h; cases h
 rw [if_neg h1] at h
 by_cases h2 : n.kids.any (fun k => n.leaf || !mayKid k) = true
 · rw [if_pos h2] at h; cases h
 rw [if_neg h2, hl] at h
 simp only [if_true, decide_eq_true_eq] at h
 have hk : n.kids = [] := by
  cases hk : n.kids with
  | nil => rfl
  | cons k l => exfalso; apply h2; rw [hk, hl]; simp
 rw [hk] at h
 refine ⟨hk, ?_, h.1, h.2.1, ?_⟩
 · intro x hx
   cases hm : mayEnt x with
   | true => rfl
   | false => exfalso; apply h1; rw [List.any_eq_true]; exact ⟨x, hx, by simp [hm]⟩
 · have := h.2.2.1
   simp [kBytes] at this
   exact this
theorem may_inner {n : Nd} (h : may n = true) (hl : n.leaf = false) : n.ents = [] ∧ (∀ x ∈ n.kids, mayKid x = true) ∧ 2 ≤ n.kids.length ∧ n.kids.length ≤ 12 ∧ kBytes n.kids ≤ 1048576 ∧ kScraps n.kids ≤ 1024 := by
 unfold may at h
 by_cases h1 : n.ents.any (fun x => !n.leaf || !mayEnt x) = true
 · rw [if_pos h1] at h; cases h
 rw [if_neg h1] at h
 by_cases h2 : n.kids.any (fun k => n.leaf || !mayKid k) = true
 · rw [if_pos h2] at h; cases h
 rw [if_neg h2, hl] at h
 simp only [Bool.false_eq_true, if_false, decide_eq_true_eq] at h
 have hk : n.ents = [] := by
  cases hk : n.ents with
  | nil => rfl
  | cons k l => exfalso; apply h1; rw [hk, hl]; simp
 rw [hk] at h
 refine ⟨hk, ?_, h.1, h.2.1, ?_, h.2.2.2⟩
 · intro x hx
   cases hm : mayKid x with
   | true => rfl
   | false => exfalso; apply h2; rw [List.any_eq_true]; exact ⟨x, hx, by simp [hm]⟩
 · have := h.2.2.1
   simp [eBytes] at this
   exact this
theorem nd_open_pack {n : Nd} (h : may n = true) : ∃ (kind : Nat) (body : List UInt8), ndPack n = ((kind : Int), body, 0) ∧ (kind = 1 ∨ kind = 2) ∧ body.length ≤ 244 ∧ ndOpen kind body = (n, 0) := by
 cases hl : n.leaf with
 | true =>
   obtain ⟨hk, he, h1, h12, _⟩ := may_leaf h hl
   refine ⟨1, leb n.ents.length 1 ++ n.ents.flatMap eb, ?_, .inl rfl, ?_, ?_⟩
   · unfold ndPack; rw [if_neg (by simp [h]), if_pos hl]; rfl
   · rw [List.length_append, leb_len, flat_len eb_len]; omega
   · show (if (1 : Int) ≠ 1 ∧ (1 : Int) ≠ 2 then (nd0, 4) else if (leb (n.ents.length / 256) 0 ++ n.ents.flatMap eb).length ≠ (UInt8.ofNat n.ents.length).toNat * 13 then (nd0, 4) else _) = _
     have e0 : (UInt8.ofNat n.ents.length).toNat = n.ents.length := by rw [UInt8.toNat_ofNat']; omega
     have e1 : leb (n.ents.length / 256) 0 ++ n.ents.flatMap eb = n.ents.flatMap eb := rfl
     rw [if_neg (by simp), e0, e1, if_neg (by rw [flat_len eb_len]; simp)]
     have e2 : (⟨true, ues n.ents.length (n.ents.flatMap eb), []⟩ : Nd) = n := by rw [ues_ebs he, ← hl, ← hk]
     show (if may ⟨true, ues n.ents.length (n.ents.flatMap eb), []⟩ = true then ((⟨true, ues n.ents.length (n.ents.flatMap eb), []⟩ : Nd), (0 : Int)) else (nd0, 4)) = _
     rw [e2, if_pos h]
 | false =>
   obtain ⟨hk, he, h1, h12, _⟩ := may_inner h hl
   refine ⟨2, leb n.kids.length 1 ++ n.kids.flatMap kb, ?_, .inr rfl, ?_, ?_⟩
   · unfold ndPack; rw [if_neg (by simp [h]), if_neg (by simp [hl])]; rfl
   · rw [List.length_append, leb_len, flat_len kb_len]; omega
   · show (if (2 : Int) ≠ 1 ∧ (2 : Int) ≠ 2 then (nd0, 4) else if (leb (n.kids.length / 256) 0 ++ n.kids.flatMap kb).length ≠ (UInt8.ofNat n.kids.length).toNat * 16 then (nd0, 4) else _) = _
     have e0 : (UInt8.ofNat n.kids.length).toNat = n.kids.length := by rw [UInt8.toNat_ofNat']; omega
     have e1 : leb (n.kids.length / 256) 0 ++ n.kids.flatMap kb = n.kids.flatMap kb := rfl
     rw [if_neg (by simp), e0, e1, if_neg (by rw [flat_len kb_len]; simp)]
     have e2 : (⟨false, [], uks n.kids.length (n.kids.flatMap kb)⟩ : Nd) = n := by rw [uks_kbs he, ← hl, ← hk]
     show (if may ⟨false, [], uks n.kids.length (n.kids.flatMap kb)⟩ = true then ((⟨false, [], uks n.kids.length (n.kids.flatMap kb)⟩ : Nd), (0 : Int)) else (nd0, 4)) = _
     rw [e2, if_pos h]
end Go.Tr
namespace Go.Tr
set_option linter.unusedSimpArgs false
set_option linter.unusedVariables false
/-! the space -/
structure Sp where
 reserved : Int
 used : List Int
 waiting : List Int
 taken : List Int
namespace Sp
def new (r : Int) : Sp := ⟨r, [], [], []⟩
def busy (s : Sp) (no : Int) : Bool := s.used.contains no || s.waiting.contains no
def least (s : Sp) : Nat → Int → Option Int
 | 0, _ => none
 | k + 1, no => if s.busy no then least s k (no + 1) else some no
def free (s : Sp) : Option Int := s.least (1048576 - s.reserved).toNat s.reserved
def take (s : Sp) : (Int × Int) × Sp :=
 match s.free with
 | none => ((0, 9), s)
 | some no => ((no, 0), { s with used := s.used ++ [no], taken := s.taken ++ [no] })
def mark (s : Sp) : Int := s.taken.length
def since (s : Sp) (m : Nat) : List Int := (s.taken.drop m).filter fun no => s.used.contains no
def back (s : Sp) (m : Nat) : Sp := { s with used := s.used.filter fun no => !(s.taken.drop m).contains no, taken := s.taken.take m }
end Sp
theorem Sp.least_some {s : Sp} : ∀ {k : Nat} {no x : Int}, s.least k no = some x → no ≤ x ∧ x < no + k ∧ s.busy x = false ∧ ∀ y, no ≤ y → y < x → s.busy y = true
 | 0, _, _, h => by cases h
 | k + 1, no, x, h => by
   unfold Sp.least at h
   cases hb : s.busy no with
   | true =>
     rw [hb, if_pos rfl] at h
     obtain ⟨h1, h2, h3, h4⟩ := Sp.least_some h
     refine ⟨by omega, by omega, h3, fun y y1 y2 => ?_⟩
     by_cases e : y = no
     · rw [e]; exact hb
     · exact h4 y (by omega) y2
   | false =>
     rw [hb, if_neg (by simp)] at h
     cases h
     exact ⟨by omega, by omega, hb, fun y y1 y2 => by omega⟩
/-! lists of entries -/
def mayList : List Ent → Bool
 | l => l.all mayEnt && decide (eBytes l ≤ 1048576)
def meets (a b : Ent) : Bool := decide (a.src = b.src ∧ a.pos + a.len = b.pos)
def glue (a b : Ent) : Ent := { a with len := a.len + b.len, lines := if a.lines < 0 ∨ b.lines < 0 then -1 else a.lines + b.lines }
def joinTo (out : List Ent) (x : Ent) : List Ent :=
 match out.getLast? with
 | none => [x]
 | some a => if meets a x then out.dropLast ++ [glue a x] else out ++ [x]
def join (l : List Ent) : List Ent := l.foldl joinTo []
def part (x : Ent) (a b : Int) : List Ent :=
 if b ≤ a then [] else
 if 0 < a ∨ b < x.len then [{ x with pos := x.pos + a, len := b - a, lines := if x.lines ≠ 0 then -1 else 0 }] else [x]
theorem eBytes_append (a b : List Ent) : eBytes (a ++ b) = eBytes a + eBytes b := by simp [eBytes]
theorem eBytes_joinTo (out : List Ent) (x : Ent) : eBytes (joinTo out x) = eBytes out + x.len := by
 unfold joinTo
 cases h : out.getLast? with
 | none =>
   have : out = [] := List.getLast?_eq_none_iff.1 h
   subst this
   simp [eBytes]
 | some a =>
   have e : out = out.dropLast ++ [a] := by
    have := List.getLast?_eq_some_iff.1 h
    obtain ⟨ys, rfl⟩ := this
    simp
   simp only
   split
   · conv => rhs; rw [e]
     rw [eBytes_append, eBytes_append]
     simp [eBytes, glue]
     omega
   · rw [eBytes_append]; simp [eBytes]
theorem eBytes_join (l : List Ent) : eBytes (join l) = eBytes l := by
 unfold join
 have h : ∀ (l out : List Ent), eBytes (l.foldl joinTo out) = eBytes out + eBytes l := by
  intro l
  induction l with
  | nil => intro out; simp [eBytes]
  | cons x l ih =>
    intro out
    rw [List.foldl_cons, ih, eBytes_joinTo]
    have : eBytes (x :: l) = x.len + eBytes l := by simp [eBytes]
    omega
 rw [h]
 simp [eBytes]
end Go.Tr
