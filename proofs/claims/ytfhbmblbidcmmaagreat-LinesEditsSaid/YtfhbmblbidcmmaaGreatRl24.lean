/-
  Walks and plain laws that the lines of texts lean on. No condition (part 24)
-/
import Derived.Test.YtfhbmblbidcmmaaGreatRl1
set_option linter.unusedSimpArgs false
set_option linter.unusedVariables false
namespace Go.Sl
class Sz (w : World) (n : outParam Nat) : Prop where
 out : w.heap.size = n
instance (priority := low) sz_self (w : World) : Sz w w.heap.size := ⟨rfl⟩
instance sz_alloc (w : World) (o : Obj) (n : Nat) [h : Sz w n] : Sz (w.alloc o) (n + 1) := ⟨by show (w.heap.push _).size = _; rw [Array.size_push, h.out]⟩
instance sz_drew (w : World) (n : Nat) [h : Sz w n] : Sz w.drew n := ⟨h.out⟩
instance sz_drewN (w : World) (n k : Nat) [h : Sz w n] : Sz (w.drewN k) n := ⟨h.out⟩
instance (priority := 20000) alloc_sz {A : Assn} {w : World} {c : Array Value} {t n : Nat} [h : SatI A w] [z : Sz w n] : SatI (Sl.block n t c.toList * A) (w.alloc (.cells c t)) := ⟨by
 have := h.out.alloc c t
 rwa [z.out] at this⟩
instance (priority := 21000) alloc_szl {A : Assn} {w : World} {l : List Value} {t n : Nat} [h : SatI A w] [z : Sz w n] : SatI (Sl.block n t l * A) (w.alloc (.cells l.toArray t)) := ⟨by
 have := h.out.alloc l.toArray t
 rwa [z.out] at this⟩
end Go.Sl
