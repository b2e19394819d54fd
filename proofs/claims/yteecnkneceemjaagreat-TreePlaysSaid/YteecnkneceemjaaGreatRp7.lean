/-
  TreePlays: what its proof leans on (part 7)
-/
import Derived.Test.YteecnkneceemjaaGreatRp1
set_option linter.unusedSimpArgs false
set_option linter.unusedVariables false
namespace Go.Proofs.YteecnkneceemjaaGreat
set_option linter.unusedSimpArgs false
set_option linter.unusedVariables false
open Go.RowKit Go.Sl
theorem rw_ex (e s n c g : Nat) (xs : List Value) (L : Nat) (hL : xs.length = L) : rw e s (.slice (some ⟨g, 0, none⟩) n c) xs = ex fun sp : {sp : List Value // L = n * s ∧ L + sp.length = c * s ∧ n ≤ c ∧ c ≤ maxLen} => block g e (xs ++ sp.1) := by
 subst hL
 funext h
 apply propext
 constructor
 · rintro (⟨h1, _⟩ | ⟨g', n', c', sp, h1, h2, h3, h4, h5, h6⟩)
   · cases h1
   · cases h1
     exact ⟨⟨sp, h2, by simpa using h3, h4, h5⟩, h6⟩
 · rintro ⟨⟨sp, h2, h3, h4, h5⟩, h6⟩
   exact .inr ⟨g, n, c, sp, rfl, h2, by simpa using h3, h4, h5, h6⟩
theorem rw_split {e s n c g k : Nat} {xs : List Value} {v : Value} (h : xs[k]? = some v) : ∃ R, rw e s (.slice (some ⟨g, 0, none⟩) n c) xs = Sl.cell g k v * R ∧ ∀ v', rw e s (.slice (some ⟨g, 0, none⟩) n c) (xs.set k v') = Sl.cell g k v' * R := by
 have hk := (List.getElem?_eq_some_iff.1 h).1
 have hc : ∀ sp : List Value, ∃ F, cells g 0 (xs ++ sp) = Sl.cell g k v * F ∧ ∀ v', cells g 0 (xs.set k v' ++ sp) = Sl.cell g k v' * F := by
  intro sp
  obtain ⟨F, h1, h2⟩ := cells_at_split g (xs ++ sp) 0 k v (by rw [List.getElem?_append_left hk]; exact h)
  rw [Nat.zero_add] at h1
  refine ⟨F, h1, fun v' => ?_⟩
  have h3 := h2 v'
  rw [List.set_append_left _ _ hk, Nat.zero_add] at h3
  exact h3
 let F : List Value → Assn := fun sp => Classical.choose (hc sp)
 have hF : ∀ sp, cells g 0 (xs ++ sp) = Sl.cell g k v * F sp ∧ ∀ v', cells g 0 (xs.set k v' ++ sp) = Sl.cell g k v' * F sp := fun sp => Classical.choose_spec (hc sp)
 refine ⟨ex fun sp : {sp : List Value // xs.length = n * s ∧ xs.length + sp.length = c * s ∧ n ≤ c ∧ c ≤ maxLen} => hdr g e (xs.length + sp.1.length) * F sp.1, ?_, fun v' => ?_⟩
 · rw [rw_ex _ _ _ _ _ _ xs.length rfl, sep_comm, ex_sep]
   congr 1
   funext sp
   unfold block
   rw [(hF sp.1).1, List.length_append]
   ac_rfl
 · rw [rw_ex _ _ _ _ _ _ xs.length List.length_set, sep_comm, ex_sep]
   congr 1
   funext sp
   unfold block
   rw [(hF sp.1).2 v', List.length_append, List.length_set]
   ac_rfl
instance rws_has (e s n c g k : Nat) (xs : List Value) (v : Value) [h : At xs k v] : HasC (rw e s (.slice (some ⟨g, 0, none⟩) n c) xs) g k v :=
 let ⟨R, h1, _⟩ := rw_split (e := e) (s := s) (n := n) (c := c) (g := g) h.out; ⟨R, h1⟩
instance rws_upd (e s n c g k : Nat) (xs : List Value) (v v' : Value) [h : At xs k v] : Upd (rw e s (.slice (some ⟨g, 0, none⟩) n c) xs) g k v' (rw e s (.slice (some ⟨g, 0, none⟩) n c) (xs.set k v')) :=
 let ⟨R, h1, h2⟩ := rw_split (e := e) (s := s) (n := n) (c := c) (g := g) h.out; ⟨v, R, h1, h2 v'⟩
theorem row_some {e s : Nat} {a : Option Addr} {n c : Nat} {xs : List Value} {F : Assn} {w : World} (hs : Sat (rw e s (.slice a n c) xs * F) w) (hn : 0 < n) : ∃ g, a = some ⟨g, 0, none⟩ := by
 rcases hs.rw_open with ⟨h1, _⟩ | ⟨g', n', cap, sp, h1, _⟩
 · cases h1; omega
 · cases h1; exact ⟨_, rfl⟩
theorem rw_max {e s : Nat} {a : Option Addr} {n c : Nat} {xs : List Value} {F : Assn} {w : World} (hs : Sat (rw e s (.slice a n c) xs * F) w) : xs.length = n * s ∧ n ≤ c ∧ c ≤ 9223372036854775807 := by
 rcases hs.rw_open with ⟨h1, h2, _⟩ | ⟨g', n', cap, sp, h1, h2, h3, h4, h5, _⟩
 · cases h1; subst h2; simp
 · cases h1; exact ⟨h2, h4, by simpa [maxLen] using h5⟩
end Go.Proofs.YteecnkneceemjaaGreat
