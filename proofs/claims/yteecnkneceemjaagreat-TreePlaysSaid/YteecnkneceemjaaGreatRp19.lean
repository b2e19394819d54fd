/-
  TreePlays: what its proof leans on (part 19)
-/
import Derived.Test.YteecnkneceemjaaGreatRp1
import Derived.Test.YteecnkneceemjaaGreatProg
import Derived.WalkLawsBesides
import Derived.Deep.QuietTactic
import Derived.BigQuiet
set_option linter.unusedSimpArgs false
set_option linter.unusedVariables false
namespace Go.Proofs.YteecnkneceemjaaGreat
set_option linter.unusedSimpArgs false
set_option linter.unusedVariables false
open Go.RowKit Go.Sl
set_option maxHeartbeats 400000 in
theorem pick_any (x n : Int) (w : World) (h1 : 1 ≤ n) (h2 : n ≤ 4611686018427387904) :
 Calls Tryz.prog 10 #[.int .i64 x, .int .i64 n] w fun e w' => e = .returned (.int .i64 (x % n)) ∧ w = w' := by
 have hb := Int.tmod_lt_of_pos x (show 0 < n by omega)
 have hb2 := Int.lt_tmod_of_pos x (show 0 < n by omega)
 have hn0 : (n == 0) = false := by simp; omega
 by_cases h : x.tmod n < 0
 · have e : x % n = x.tmod n + n := by
    rw [Int.emod_eq_tmod]
    have hx : ¬ 0 ≤ x := fun h' => by have := Int.tmod_nonneg n h'; omega
    have hd : ¬ n ∣ x := fun h' => by rw [Int.tmod_eq_zero_of_dvd h'] at h; omega
    rw [if_neg (by simp [hd]; omega)]
    omega
   rw [e]
   clear e
   go_enter Tryz.func10, Tryz.ntmps10
   go_wp2
   go_ret
   exact ⟨rfl, rfl⟩
 · have e : x % n = x.tmod n := by
    rw [Int.emod_eq_tmod]
    rw [if_pos]
    · omega
    · by_cases hx : 0 ≤ x
      · exact .inl hx
      · right
        have h3 : (-x).tmod n = - x.tmod n := Int.neg_tmod _ _
        have h4 := Int.tmod_nonneg n (show 0 ≤ -x by omega)
        exact Int.dvd_of_tmod_eq_zero (by omega)
   rw [e]
   clear e
   go_enter Tryz.func10, Tryz.ntmps10
   go_wp2
   go_ret
   exact ⟨rfl, rfl⟩
def Ints (w : World) (v : Value) (zs : List Int) : Prop := ∃ a c, v = .slice a zs.length c ∧ ∀ i z, zs[i]? = some z → ∃ b o, a = some ⟨b, o, none⟩ ∧ w.cell? ⟨b, o + i, none⟩ = some (.int .i64 z)
theorem Ints.len {w : World} {v : Value} {zs : List Int} (h : Ints w v zs) : ∃ a c, v = .slice a zs.length c := by
 obtain ⟨a, c, h, _⟩ := h
 exact ⟨a, c, h⟩
theorem Ints.at {w : World} {a : Option Addr} {n c q : Nat} {zs : List Int} {z : Int} (h : Ints w (.slice a n c) zs) (hq : zs[q]? = some z) : ∃ b o, a = some ⟨b, o, none⟩ ∧ w.cell? ⟨b, o + q, none⟩ = some (.int .i64 z) := by
 obtain ⟨a', c', h1, h2⟩ := h
 cases h1
 exact h2 q z hq
theorem Ints.of_rw {w : World} {v : Value} {zs : List Int} {F : Assn} {e : Nat} (hs : Sat (rw e 1 v (zs.map (Value.int .i64)) * F) w) : Ints w v zs := by
 rcases hs.rw_open with ⟨h1, h2, h3⟩ | ⟨g, n', cap', sp, h1, h2, h3, h4, h5, h6⟩
 · have : zs = [] := by simpa using h2
   subst this
   exact ⟨none, 0, h1, fun i z hz => by simp at hz⟩
 · have : n' = zs.length := by simpa using h2.symm
   subst this
   refine ⟨_, cap', h1, fun i z hz => ⟨g, 0, rfl, ?_⟩⟩
   have h7 : Sat (cells g 0 (zs.map (Value.int .i64)) * (hdr g e (zs.map (Value.int .i64) ++ sp).length * (cells g (zs.map (Value.int .i64)).length sp * F))) w := h6.eq (by rw [block_split]; ac_rfl)
   exact h7.cells_at i (.int .i64 z) (by simp [hz])
end Go.Proofs.YteecnkneceemjaaGreat
