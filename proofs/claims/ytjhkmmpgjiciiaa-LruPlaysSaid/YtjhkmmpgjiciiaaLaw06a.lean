/-
  octavolaw06.awake: the document's example is as it says.
-/
import Derived.Test.YtjhkmmpgjiciiaaLru4
import Derived.Test.YtjhkmmpgjiciiaaRef1
import Derived.Test.YtjhkmmpgjiciiaaSlo
namespace Go.Proofs.Ytjhkmmpgjiciiaa
set_option linter.unusedSimpArgs false
set_option linter.unusedVariables false
open Go.RowKit Go.Sl Go.Lru

theorem add_none_room {cap : Int} {ns : List Nd} {k g : Int} {h : Bool} {c : Int} {ns' : List Nd} (hA : AddIs cap ns k g h c ns') (hk : hasB ns k = false) (hl : (ns.length : Int) ≠ cap) :
    g = 0 ∧ h = false ∧ c = 0 ∧ ∃ b, ns' = ns ++ [⟨b, k, 0, false⟩] := by
  rcases hA with ⟨h1, _⟩ | ⟨_, _, h2⟩ | ⟨_, h1, _⟩ | ⟨_, h1, _⟩
  · rw [hk] at h1; cases h1
  · exact h2
  · exact absurd h1 hl
  · exact absurd h1 hl

set_option maxHeartbeats 400000 in
theorem awake06 (F : Assn) (w : World) (hs : Sat F w) :
    Calls Try.prog 19 #[] w fun e w' => e = .returned (.bool true) ∧ Sat F w' := by
  go_enter Try.func19, Try.ntmps19
  go_wp2_with fail
  refine (new_yes 2 F w hs (by omega) (by omega)).mono ?_
  rintro e w1 ⟨L, M, rfl, hs1⟩
  clear hs
  go_wp2_with fail
  refine (add_any L M 2 [] 1 F w1 hs1 .nil).mono ?_
  rintro e w2 ⟨g, h, c, ns2, rfl, hA, hs2⟩
  obtain ⟨_, _, _, b1, rfl⟩ := add_none_room hA rfl (by simp)
  clear hA hs1
  go_wp2_with fail
  refine (add_any L M 2 _ 2 F w2 hs2 (by simp [Keyd])).mono ?_
  rintro e w3 ⟨g3, h3, c3, ns3, rfl, hA, hs3⟩
  obtain ⟨_, _, _, b2, rfl⟩ := add_none_room hA rfl (by simp)
  clear hA hs2
  go_wp2_with fail
  refine (use_any L M 2 _ 1 F w3 hs3 (by simp [Keyd])).mono ?_
  rintro e w4 ⟨rfl, hs4⟩
  clear hs3
  simp only [List.nil_append, List.cons_append, useL, outL, List.filter] at hs4
  simp only [show ((1 : Int) != 1) = false from rfl, show ((2 : Int) != 1) = true from rfl, show ((1 : Int) == 1) = true from rfl, show ((2 : Int) == 1) = false from rfl, List.cons_append, List.nil_append] at hs4
  go_wp2_with fail
  refine (add_any L M 2 _ 3 F w4 hs4 (by simp [Keyd])).mono ?_
  rintro e w5 ⟨g5, h5, c5, ns5, rfl, hA, hs5⟩
  have hR : g5 = 2 ∧ h5 = true ∧ c5 = 0 ∧ ∃ b, ns5 = [⟨b1, 1, 0, false⟩, ⟨b, 3, 0, false⟩] := by
    rcases hA with ⟨h1, _⟩ | ⟨_, h1, _⟩ | ⟨_, _, h1, _⟩ | ⟨_, _, n, h1, h2, h3, h4, b, h5⟩
    · cases h1
    · simp at h1
    · cases h1
    · cases h1
      exact ⟨h2, h3, h4, b, h5⟩
  obtain ⟨rfl, rfl, rfl, b3, rfl⟩ := hR
  clear hA hs4
  go_wp2_with fail
  refine (keys_any L M 2 _ F w5 hs5 (by simp)).mono ?_
  rintro e w6 ⟨a, c, rfl, hs6⟩
  clear hs5
  simp only [List.length_cons, List.length_nil, List.map_cons, List.map_nil, kval, Nat.reduceAdd, Nat.zero_add] at hs6
  have hs7 := hs6.alloc #[.int .i64 1, .int .i64 3] 3
  go_wp2_with fail
  refine (ints_any _ _ [1, 3] [1, 3] _ (Ints.of_rw (hs7.take (rw 3 1 (.slice a 2 c) [.int .i64 1, .int .i64 3]))) (Ints.of_block (zs := [1, 3]) hs7) (by simp) (by simp)).mono ?_
  rintro e w7 ⟨rfl, n, rfl⟩
  have hs8 := (hs7.take F).weak.drewN n
  clear hs7 hs6
  go_wp2
  go_ret
  exact ⟨rfl, hs8⟩

end Go.Proofs.Ytjhkmmpgjiciiaa
