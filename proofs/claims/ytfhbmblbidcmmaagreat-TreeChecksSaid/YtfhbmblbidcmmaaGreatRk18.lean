/-
  Of any pages in a file a root is found to be a tree just if it is one in the form of the document. No condition. (part 18)
-/
import Derived.Test.YtfhbmblbidcmmaaGreatRk1
import Derived.Test.YtfhbmblbidcmmaaGreatProg
import Derived.WalkLawsBesides
import Derived.Deep.QuietTactic
import Derived.BigQuiet
set_option linter.unusedSimpArgs false
set_option linter.unusedVariables false
namespace Go.Proofs.YtfhbmblbidcmmaaGreat
set_option linter.unusedSimpArgs false
set_option linter.unusedVariables false
open Go.RowKit Go.Sl
def Ints (w : World) (v : Value) (zs : List Int) : Prop := ∃ a c, v = .slice a zs.length c ∧ ∀ i z, zs[i]? = some z → ∃ b o, a = some ⟨b, o, none⟩ ∧ w.cell? ⟨b, o + i, none⟩ = some (.int .i64 z)
theorem Ints.len {w : World} {v : Value} {zs : List Int} (h : Ints w v zs) : ∃ a c, v = .slice a zs.length c := by
 obtain ⟨a, c, h, _⟩ := h
 exact ⟨a, c, h⟩
theorem Ints.at {w : World} {a : Option Addr} {n c q : Nat} {zs : List Int} {z : Int} (h : Ints w (.slice a n c) zs) (hq : zs[q]? = some z) : ∃ b o, a = some ⟨b, o, none⟩ ∧ w.cell? ⟨b, o + q, none⟩ = some (.int .i64 z) := by
 obtain ⟨a', c', h1, h2⟩ := h
 cases h1
 exact h2 q z hq
theorem Ints.of_rw {w : World} {v : Value} {zs : List Int} {F : Assn} {e : Nat} (hs : Sat (rw e 1 v (zs.map (Value.int .i64)) * F) w) : Ints w v zs := by
 rcases hs.rw_open with ⟨h1, h2, h3⟩ | ⟨g, n', cap', sp, h1, h2, h3, h4, h5, h6⟩
 · have : zs = [] := by simpa using h2
   subst this
   exact ⟨none, 0, h1, fun i z hz => by simp at hz⟩
 · have : n' = zs.length := by simpa using h2.symm
   subst this
   refine ⟨_, cap', h1, fun i z hz => ⟨g, 0, rfl, ?_⟩⟩
   have h7 : Sat (cells g 0 (zs.map (Value.int .i64)) * (hdr g e (zs.map (Value.int .i64) ++ sp).length * (cells g (zs.map (Value.int .i64)).length sp * F))) w := h6.eq (by rw [block_split]; ac_rfl)
   exact h7.cells_at i (.int .i64 z) (by simp [hz])
end Go.Proofs.YtfhbmblbidcmmaaGreat
