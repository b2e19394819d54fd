/-
  Walks of package octavoref01's small functions: Pick, Ints, Same.
-/
import Derived.Test.YtjhkmmpgjiciiaaSlb
import Derived.Test.YtjhkmmpgjiciiaaProg
import Derived.WalkLawsBesides
import Derived.Deep.QuietTactic
import Derived.BigQuiet
namespace Go.Proofs.Ytjhkmmpgjiciiaa
set_option linter.unusedSimpArgs false
set_option linter.unusedVariables false
open Go.RowKit Go.Sl

set_option maxHeartbeats 400000 in
theorem pick_any (x n : Int) (w : World) (h1 : 1 ≤ n) (h2 : n ≤ 4611686018427387904) :
    Calls Try.prog 17 #[.int .i64 x, .int .i64 n] w fun e w' => e = .returned (.int .i64 (x % n)) ∧ w = w' := by
  have hb := Int.tmod_lt_of_pos x (show 0 < n by omega)
  have hb2 := Int.lt_tmod_of_pos x (show 0 < n by omega)
  have hn0 : (n == 0) = false := by simp; omega
  by_cases h : x.tmod n < 0
  · have e : x % n = x.tmod n + n := by
      rw [Int.emod_eq_tmod]
      have hx : ¬ 0 ≤ x := fun h' => by have := Int.tmod_nonneg n h'; omega
      have hd : ¬ n ∣ x := fun h' => by rw [Int.tmod_eq_zero_of_dvd h'] at h; omega
      rw [if_neg (by simp [hd]; omega)]
      omega
    rw [e]
    clear e
    go_enter Try.func17, Try.ntmps17
    go_wp2
    go_ret
    exact ⟨rfl, rfl⟩
  · have e : x % n = x.tmod n := by
      rw [Int.emod_eq_tmod]
      rw [if_pos]
      · omega
      · by_cases hx : 0 ≤ x
        · exact .inl hx
        · right
          have h3 : (-x).tmod n = - x.tmod n := Int.neg_tmod _ _
          have h4 := Int.tmod_nonneg n (show 0 ≤ -x by omega)
          exact Int.dvd_of_tmod_eq_zero (by omega)
    rw [e]
    clear e
    go_enter Try.func17, Try.ntmps17
    go_wp2
    go_ret
    exact ⟨rfl, rfl⟩

/-- the numbers of a slice, as they lie in memory -/
def Ints (w : World) (v : Value) (zs : List Int) : Prop := ∃ a c, v = .slice a zs.length c ∧ ∀ i z, zs[i]? = some z → ∃ b o, a = some ⟨b, o, none⟩ ∧ w.cell? ⟨b, o + i, none⟩ = some (.int .i64 z)

theorem Ints.len {w : World} {v : Value} {zs : List Int} (h : Ints w v zs) : ∃ a c, v = .slice a zs.length c := by
  obtain ⟨a, c, h, _⟩ := h
  exact ⟨a, c, h⟩

theorem Ints.at {w : World} {a : Option Addr} {n c q : Nat} {zs : List Int} {z : Int} (h : Ints w (.slice a n c) zs) (hq : zs[q]? = some z) : ∃ b o, a = some ⟨b, o, none⟩ ∧ w.cell? ⟨b, o + q, none⟩ = some (.int .i64 z) := by
  obtain ⟨a', c', h1, h2⟩ := h
  cases h1
  exact h2 q z hq

theorem Ints.old {w0 w : World} {F : Assn} {v : Value} {zs : List Int} (h : Ints w0 v zs) (hs : Sat (old w0 * F) w) : Ints w v zs := by
  obtain ⟨a, c, h1, h2⟩ := h
  refine ⟨a, c, h1, fun i z hz => ?_⟩
  obtain ⟨b, o, h3, h4⟩ := h2 i z hz
  exact ⟨b, o, h3, hs.old_cell h4⟩

theorem Ints.of_rw {w : World} {v : Value} {zs : List Int} {F : Assn} {e : Nat} (hs : Sat (rw e 1 v (zs.map (Value.int .i64)) * F) w) : Ints w v zs := by
  rcases hs.rw_open with ⟨h1, h2, h3⟩ | ⟨g, n', cap', sp, h1, h2, h3, h4, h5, h6⟩
  · have : zs = [] := by simpa using h2
    subst this
    exact ⟨none, 0, h1, fun i z hz => by simp at hz⟩
  · have : n' = zs.length := by simpa using h2.symm
    subst this
    refine ⟨_, cap', h1, fun i z hz => ⟨g, 0, rfl, ?_⟩⟩
    have h7 : Sat (cells g 0 (zs.map (Value.int .i64)) * (hdr g e (zs.map (Value.int .i64) ++ sp).length * (cells g (zs.map (Value.int .i64)).length sp * F))) w := h6.eq (by rw [block_split]; ac_rfl)
    exact h7.cells_at i (.int .i64 z) (by simp [hz])

theorem Ints.of_block {w : World} {zs : List Int} {F : Assn} {b e c : Nat} (hs : Sat (block b e (zs.map (Value.int .i64)) * F) w) : Ints w (.slice (some ⟨b, 0, none⟩) zs.length c) zs := by
  refine ⟨_, c, rfl, fun i z hz => ⟨b, 0, rfl, ?_⟩⟩
  have h7 : Sat (cells b 0 (zs.map (Value.int .i64)) * (hdr b e (zs.map (Value.int .i64)).length * F)) w := hs.eq (by unfold block; ac_rfl)
  exact h7.cells_at i (.int .i64 z) (by simp [hz])

set_option maxHeartbeats 400000 in
theorem ints_any (v1 v2 : Value) (z1 z2 : List Int) (w : World) (h1 : Ints w v1 z1) (h2 : Ints w v2 z2) (hm : z1.length ≤ 4611686018427387904) (hm2 : z2.length ≤ 4611686018427387904) :
    Calls Try.prog 40 #[v1, v2] w fun e w' => e = .returned (.bool (decide (z1 = z2))) ∧ ∃ n, w' = w.drewN n := by
  obtain ⟨a1, c1, rfl⟩ := h1.len
  obtain ⟨a2, c2, rfl⟩ := h2.len
  by_cases hl : z1.length = z2.length
  · have hne2 : ((z1.length : Int) != (z2.length : Int)) = false := by simp; omega
    have HL : Aside (z1.length = z2.length) := hl
    clear hl
    go_enter Try.func40, Try.ntmps40
    go_wp2
    go_loopg [5] z1.length (fun k i wr => ∃ j : Nat, i = .int .i64 j ∧ j ≤ z1.length ∧ Aside (k = z1.length - j ∧ z1.take j = z2.take j) ∧ ∃ n, w.drewN n = wr)
    case atStart => exact ⟨0, rfl, by omega, ⟨rfl, rfl⟩, 0, rfl⟩
    case round =>
      obtain ⟨j, rfl, hj, A, nn, rfl⟩ := hrel
      by_cases hlt : j < z1.length
      · have hlt2 : j < z2.length := by have := HL.out; omega
        obtain ⟨b1, o1, rfl, x1⟩ := h1.at (show z1[j]? = some z1[j] by simp [hlt])
        obtain ⟨b2, o2, rfl, x2⟩ := h2.at (show z2[j]? = some z2[j] by simp [hlt2])
        clear h1 h2 hne2
        have hlt3 : (j : Int) < z1.length := by omega
        have hlt4 : (j : Int) < z2.length := by omega
        by_cases he : z1[j] = z2[j]
        · have he1 : (z1[j] != z2[j]) = false := by simpa using he
          have HE : Aside (z1[j] = z2[j]) := he
          clear he
          go_wp2
          go_quiet (fail)
          go_wp2
          go_roundg (z1.length - (j + 1))
          case measure => have := A.out.1; omega
          case rel =>
            refine ⟨j + 1, by go_num, by omega, ⟨rfl, ?_⟩, nn + nq, rfl⟩
            rw [List.take_succ_eq_append_getElem hlt, List.take_succ_eq_append_getElem hlt2, A.out.2, HE.out]
        · have he1 : (z1[j] != z2[j]) = true := by simpa using he
          have HE : Aside (z1[j] ≠ z2[j]) := he
          clear he
          go_wp2
          go_quiet (fail)
          go_wp2
          go_ret
          have : z1 ≠ z2 := fun e => HE.out (by subst e; rfl)
          exact ⟨by simp [this], nn + nq, by rw [World.drewN_drewN]⟩
      · have : j = z1.length := by omega
        subst this
        clear hlt hne2 h1 h2
        go_wp2
        go_ret
        have e : z1 = z2 := by
          have := A.out.2
          rw [List.take_of_length_le (Nat.le_refl _), List.take_of_length_le (by have := HL.out; omega)] at this
          exact this
        exact ⟨by simp [e], nn, rfl⟩
  · have hne : z1 ≠ z2 := fun e => hl (by rw [e])
    have hne2 : ((z1.length : Int) != (z2.length : Int)) = true := by simp; omega
    have e : decide (z1 = z2) = false := by simpa using hne
    rw [e]
    clear e hne h1 h2 hl
    go_enter Try.func40, Try.ntmps40
    go_wp2
    go_ret
    exact ⟨rfl, 0, rfl⟩

end Go.Proofs.Ytjhkmmpgjiciiaa
