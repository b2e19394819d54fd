/-
  Of all versions the pages that are told are just those of their trees in the file in the form of the document, and a root that is none is refused. No condition. (part 5)
-/
import Derived.WalkKit
set_option linter.unusedSimpArgs false
set_option linter.unusedVariables false
namespace Go.Dk
set_option linter.unusedSimpArgs false
set_option linter.unusedVariables false
structure Fl where
 now : List UInt8
 safe : List UInt8
 sure : Bool
structure Pc where
 nm : ByteArray
 pos : Nat
 b : Option (List UInt8)
structure Dk where
 room : Int
 changes : Int
 left : Int
 armed : Bool
 down : Bool
 files : List (ByteArray × Fl)
 pend : List Pc
def fget (nm : ByteArray) : List (ByteArray × Fl) → Option Fl
 | [] => none
 | p :: l => if nm = p.1 then some p.2 else fget nm l
def fput (nm : ByteArray) (f : Fl) : List (ByteArray × Fl) → List (ByteArray × Fl)
 | [] => [(nm, f)]
 | p :: l => if nm = p.1 then (nm, f) :: l else p :: fput nm f l
def named (s : ByteArray) : Bool := decide (1 ≤ s.size) && decide (s.size ≤ 16) && s.data.toList.all fun c => decide (97 ≤ c.toNat) && decide (c.toNat ≤ 122)
def sum (fs : List (ByteArray × Fl)) : Nat := (fs.map fun p => p.2.now.length).sum
def had (f : Option Fl) : Nat := (f.map fun x => x.now.length).getD 0
namespace Dk
def new (room : Int) : Dk := ⟨room, 0, 0, false, false, [], []⟩
def get (d : Dk) (nm : ByteArray) : Option Fl := fget nm d.files
def may (d : Dk) (nm : ByteArray) (there : Bool) : Int :=
 if named nm = false then 1 else if d.down then 8 else if there && (d.get nm).isNone then 6 else 0
def fits (d : Dk) (f : Option Fl) (size : Int) : Int :=
 if f.isNone && decide (16 ≤ d.files.length) then 11 else
 if decide ((had f : Int) < size) && decide (d.room < (sum d.files : Int) - had f + size) then 7 else 0
def stop (d : Dk) : Bool := d.armed && d.left == 0
def ticked (d : Dk) : Dk := { d with left := d.left - 1, changes := d.changes + 1 }
def settled (d : Dk) (nm : ByteArray) : Dk := { d with pend := d.pend.filter fun p => p.nm != nm }
def put (d : Dk) (nm : ByteArray) (f : Fl) : Dk := { d with files := fput nm f d.files }
end Dk
def laid (into : List UInt8) (at_ : Nat) (b : List UInt8) : List UInt8 :=
 (into ++ List.replicate (at_ + b.length - into.length) 0).take at_ ++ b ++ into.drop (at_ + b.length)
theorem laid_len (into : List UInt8) (k : Nat) (b : List UInt8) : (laid into k b).length = max into.length (k + b.length) := by
 simp [laid]; omega
def part (k n : Nat) : Nat := min n (64 - k % 64)
theorem part_pos {k n : Nat} (h : 0 < n) : 0 < part k n ∧ part k n ≤ n ∧ part k n ≤ 64 := by unfold part; omega
def sect (nm : ByteArray) (k : Nat) (b : List UInt8) : List Pc :=
 if h : b.length = 0 then [] else ⟨nm, k, some (b.take (part k b.length))⟩ :: sect nm (k + part k b.length) (b.drop (part k b.length))
termination_by b.length
decreasing_by have := part_pos (k := k) (n := b.length) (by omega); simp; omega
theorem sect_nil (nm : ByteArray) (k : Nat) : sect nm k [] = [] := by rw [sect]; simp
theorem sect_cons (nm : ByteArray) (k : Nat) (b : List UInt8) (h : 0 < b.length) : sect nm k b = ⟨nm, k, some (b.take (part k b.length))⟩ :: sect nm (k + part k b.length) (b.drop (part k b.length)) := by
 rw [sect]; rw [dif_neg (by omega)]
theorem sect_len (nm : ByteArray) : ∀ (n k : Nat) (b : List UInt8), b.length ≤ n → (sect nm k b).length ≤ b.length
 | 0, k, b, h => by
   have : b = [] := by cases b with | nil => rfl | cons _ _ => simp at h
   subst this; rw [sect_nil]; simp
 | n + 1, k, b, h => by
   by_cases hb : 0 < b.length
   · rw [sect_cons nm k b hb]
     have hp := part_pos (k := k) hb
     have := sect_len nm n (k + part k b.length) (b.drop (part k b.length)) (by simp; omega)
     simp at this ⊢
     omega
   · have : b = [] := by cases b with | nil => rfl | cons _ _ => simp at hb
     subst this; rw [sect_nil]; simp
theorem sect_mem (nm : ByteArray) : ∀ (n k : Nat) (b : List UInt8), b.length ≤ n → ∀ p ∈ sect nm k b, p.nm = nm ∧ ∃ l, p.b = some l ∧ p.pos + l.length ≤ k + b.length ∧ k ≤ p.pos
 | 0, k, b, h => by
   have : b = [] := by cases b with | nil => rfl | cons _ _ => simp at h
   subst this; rw [sect_nil]; simp
 | n + 1, k, b, h => by
   by_cases hb : 0 < b.length
   · rw [sect_cons nm k b hb]
     have hp := part_pos (k := k) hb
     have := sect_mem nm n (k + part k b.length) (b.drop (part k b.length)) (by simp; omega)
     intro p hpm
     rcases List.mem_cons.1 hpm with rfl | hpm
     · exact ⟨rfl, _, rfl, by simp; omega, Nat.le_refl _⟩
     · obtain ⟨h1, l, h2, h3, h4⟩ := this p hpm
       refine ⟨h1, l, h2, ?_, by omega⟩
       simp at h3; omega
   · have : b = [] := by cases b with | nil => rfl | cons _ _ => simp at hb
     subst this; rw [sect_nil]; simp
namespace Dk
def fl0 : Fl := ⟨[], [], false⟩
def load (d : Dk) (nm : ByteArray) (b : List UInt8) : Int × Dk :=
 if named nm = false then (1, d) else
 if d.fits (d.get nm) b.length ≠ 0 then (d.fits (d.get nm) b.length, d) else
 (0, (d.settled nm).put nm ⟨b, b, true⟩)
def written (d : Dk) (nm : ByteArray) (k : Nat) (b : List UInt8) : Dk :=
 let f := (d.get nm).getD fl0
 { d.ticked.put nm { f with now := laid f.now k b } with pend := d.pend ++ sect nm k b }
def write (d : Dk) (nm : ByteArray) (k : Int) (b : List UInt8) : Int × Dk :=
 if d.may nm false ≠ 0 then (d.may nm false, d) else
 if k < 0 ∨ (had (d.get nm) : Int) < k then (2, d) else
 if b.length = 0 then (0, d) else
 if d.fits (d.get nm) (max (had (d.get nm)) (k + b.length)) ≠ 0 then (d.fits (d.get nm) (max (had (d.get nm)) (k + b.length)), d) else
 if d.stop then (8, { d with down := true }) else
 (0, d.written nm k.toNat b)
def cut (d : Dk) (nm : ByteArray) (n : Int) : Int × Dk :=
 if d.may nm true ≠ 0 then (d.may nm true, d) else
 if n < 0 ∨ (had (d.get nm) : Int) < n then (2, d) else
 if d.stop then (8, { d with down := true }) else
 let f := (d.get nm).getD fl0
 (0, { d.ticked.put nm { f with now := f.now.take n.toNat } with pend := d.pend ++ [⟨nm, n.toNat, none⟩] })
def sync (d : Dk) (nm : ByteArray) : Int × Dk :=
 if d.may nm true ≠ 0 then (d.may nm true, d) else
 if d.stop then (8, { d with down := true }) else
 let f := (d.get nm).getD fl0
 (0, (d.ticked.put nm { f with safe := f.now, sure := true }).settled nm)
def read (d : Dk) (nm : ByteArray) (k n : Int) : Int × List UInt8 :=
 if d.may nm true ≠ 0 then (d.may nm true, []) else
 let f := (d.get nm).getD fl0
 if k < 0 ∨ n < 0 ∨ (f.now.length : Int) < k ∨ (f.now.length : Int) - k < n then (2, []) else
 (0, (f.now.drop k.toNat).take n.toNat)
def size (d : Dk) (nm : ByteArray) : Int := if d.may nm true ≠ 0 then -1 else ((d.get nm).getD fl0).now.length
end Dk
def picked (picks : List Int) (i : Nat) : Bool := match picks[i % picks.length]? with
 | none => false
 | some z => z % 2 == 1
def ofName (nm : ByteArray) (ps : List Pc) : List Pc := ps.filter fun p => p.nm == nm
def big : Nat := 1099511627776
structure Ok (m : Nat) (d : Dk) : Prop where
 nd : (d.files.map (·.1)).Nodup
 room : 0 ≤ d.room ∧ d.room ≤ big
 left : -(m : Int) ≤ d.left ∧ d.left ≤ 9223372036854775807
 changes : 0 ≤ d.changes ∧ d.changes ≤ m
 pend : d.pend.length ≤ m
 nf : d.files.length ≤ 16
 sz : ∀ p ∈ d.files, p.2.now.length ≤ big ∧ p.2.safe.length ≤ big
 pc : ∀ p ∈ d.pend, p.pos + (p.b.getD []).length ≤ big
 pn : ∀ p ∈ d.pend, (d.get p.nm).isSome = true
end Go.Dk
