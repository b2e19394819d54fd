/-
  Of all versions the pages that are told are just those of their trees in the file in the form of the document, and a root that is none is refused. No condition. (part 47)
-/
import Derived.Test.YtfhbmblbidcmmaaGreatVa15
set_option linter.unusedSimpArgs false
set_option linter.unusedVariables false
namespace Go.Tr
set_option linter.unusedSimpArgs false
set_option linter.unusedVariables false
theorem lei1 (x : UInt8) : lei [x] = x.toNat := by simp [lei]
theorem pack_open {no : Nat} {b : List UInt8} {k : Int} {body : List UInt8} (h : pageOpen no b = (k, body, 0)) : 1 ≤ k ∧ k ≤ 9 ∧ pgPack no k.toNat body = b ∧ body.length ≤ 244 ∧ no < 1048576 ∧ k = lei (b.take 1) ∧ body = (b.drop 12).take (lei ((b.drop 2).take 2)) ∧ lei ((b.drop 2).take 2) = body.length := by
 unfold pageOpen at h
 split at h
 · cases h
 rename_i h1
 split at h
 · cases h
 rename_i h2
 split at h
 · cases h
 rename_i h3
 simp only at h
 split at h
 · cases h
 rename_i h4
 split at h
 · cases h
 rename_i h5
 simp only [Prod.mk.injEq, and_true] at h
 obtain ⟨rfl, rfl⟩ := h
 simp only [not_or, ne_eq, Decidable.not_not] at h2 h3 h4
 obtain ⟨g1, g2, g3, g4, g5⟩ := h4
 have hn : lei ((b.drop 2).take 2) ≤ 244 := by omega
 obtain ⟨n, hn0⟩ : ∃ n, lei ((b.drop 2).take 2) = n := ⟨_, rfl⟩
 rw [hn0] at hn h5 ⊢
 have hbl : ((b.drop 12).take n).length = n := by rw [List.length_take, List.length_drop]; omega
 have t1 : b.take 1 = [UInt8.ofNat (lei (b.take 1))] := by
  cases b with
  | nil => simp at h2
  | cons x b =>
    show [x] = [UInt8.ofNat (lei [x])]
    rw [lei1]
    simp
 have t2 : (b.drop 2).take 2 = leb n 2 := by
  have e := leb_lei ((b.drop 2).take 2)
  rw [hn0, show ((b.drop 2).take 2).length = 2 by rw [List.length_take, List.length_drop]; omega] at e
  exact e.symm
 have t4 : (b.drop 4).take 4 = leb no 4 := by
  have e := leb_lei ((b.drop 4).take 4)
  rw [show lei ((b.drop 4).take 4) = no by omega, show ((b.drop 4).take 4).length = 4 by rw [List.length_take, List.length_drop]; omega] at e
  exact e.symm
 have hz : b.drop (12 + n) = zs (244 - n) := by
  have hl : (b.drop (12 + n)).length = 244 - n := by rw [List.length_drop]; omega
  rw [← hl]
  unfold zs
  refine List.eq_replicate_iff.2 ⟨rfl, fun x hx => ?_⟩
  have h6 : (b.drop (12 + n)).any (· != 0) = false := by simpa using h5
  have h7 := List.any_eq_false.1 h6 x hx
  simpa using h7
 have hhead : pgHead no (lei (b.take 1)) ((b.drop 12).take n) = b.take 8 := by
  unfold pgHead
  rw [hbl, ← t2, ← t4]
  have e1 : b.take 8 = b.take 1 ++ ((b.drop 1).take 1 ++ ((b.drop 2).take 2 ++ (b.drop 4).take 4)) := by
   rw [show (8 : Nat) = 1 + (1 + (2 + 4)) from rfl, List.take_add, List.take_add (l := b.drop 1), List.take_add (l := (b.drop 1).drop 1), List.drop_drop, List.drop_drop]
  rw [e1, g1]
  exact congrArg (· ++ ([0] ++ (List.take 2 (List.drop 2 b) ++ List.take 4 (List.drop 4 b)))) t1.symm
 have htail : pgTail ((b.drop 12).take n) = b.drop 12 := by
  unfold pgTail
  rw [hbl, ← hz, ← List.drop_drop, List.take_append_drop]
 have hc : leb (crc (b.take 8 ++ b.drop 12)) 4 = (b.drop 8).take 4 := by
  have e := leb_lei ((b.drop 8).take 4)
  rw [h3, show ((b.drop 8).take 4).length = 4 by rw [List.length_take, List.length_drop]; omega] at e
  exact e
 refine ⟨by omega, by omega, ?_, by rw [hbl]; exact hn, by omega, rfl, rfl, hbl.symm⟩
 rw [Int.toNat_natCast]
 unfold pgPack
 rw [hhead, htail, hc]
 have e2 : b.drop 12 = (b.drop 8).drop 4 := by rw [List.drop_drop]
 rw [e2, List.take_append_drop, List.take_append_drop]
def refOpen (no : Int) (b : List UInt8) : Int × List UInt8 × Int :=
 if no < 0 ∨ 1048576 ≤ no then (0, [], 1) else
 if b.length ≠ 256 then (0, [], 3) else
 if lei ((b.drop 8).take 4) ≠ crc (b.take 8 ++ b.drop 12) then (0, [], 5) else
 if 244 < lei ((b.drop 2).take 2) then (0, [], 4) else
 if (pagePack no (lei (b.take 1)) ((b.drop 12).take (lei ((b.drop 2).take 2)))).2 ≠ 0 ∨ (pagePack no (lei (b.take 1)) ((b.drop 12).take (lei ((b.drop 2).take 2)))).1 ≠ b then (0, [], 4) else
 (lei (b.take 1), (b.drop 12).take (lei ((b.drop 2).take 2)), 0)
theorem refOpen_is (no : Int) (b : List UInt8) : refOpen no b = pageOpen no b := by
 by_cases h1 : no < 0 ∨ 1048576 ≤ no
 · unfold refOpen pageOpen; rw [if_pos h1, if_pos h1]
 by_cases h2 : b.length ≠ 256
 · unfold refOpen pageOpen; rw [if_neg h1, if_neg h1, if_pos h2, if_pos h2]
 by_cases h3 : lei ((b.drop 8).take 4) ≠ crc (b.take 8 ++ b.drop 12)
 · unfold refOpen pageOpen; rw [if_neg h1, if_neg h1, if_neg h2, if_neg h2, if_pos h3, if_pos h3]
 obtain ⟨m, rfl⟩ := Int.eq_ofNat_of_zero_le (show 0 ≤ no by omega)
 by_cases h4 : 244 < lei ((b.drop 2).take 2)
 · unfold refOpen pageOpen
   rw [if_neg h1, if_neg h1, if_neg h2, if_neg h2, if_neg h3, if_neg h3, if_pos h4]
   simp only
   rw [if_pos (.inr (.inr (.inr (.inl h4))))]
 have hbl : ((b.drop 12).take (lei ((b.drop 2).take 2))).length ≤ 244 := by rw [List.length_take]; omega
 by_cases hk : (lei (b.take 1) : Int) < 1 ∨ 9 < (lei (b.take 1) : Int)
 · have e1 : pagePack (m : Int) (lei (b.take 1)) ((b.drop 12).take (lei ((b.drop 2).take 2))) = ([], 1) := by
    unfold pagePack; rw [if_pos (by omega)]
   unfold refOpen pageOpen
   rw [if_neg h1, if_neg h1, if_neg h2, if_neg h2, if_neg h3, if_neg h3, if_neg h4, e1, if_pos (.inl (by decide))]
   simp only
   rw [if_pos (by omega)]
 have e1 : pagePack (m : Int) (lei (b.take 1)) ((b.drop 12).take (lei ((b.drop 2).take 2))) = (pgPack m (lei (b.take 1)) ((b.drop 12).take (lei ((b.drop 2).take 2))), 0) := by
  unfold pagePack
  rw [if_neg (by omega), if_neg (by omega), Int.toNat_natCast, Int.toNat_natCast]
 have e2 : refOpen (m : Int) b = if pgPack m (lei (b.take 1)) ((b.drop 12).take (lei ((b.drop 2).take 2))) ≠ b then (0, [], 4) else (((lei (b.take 1) : Nat) : Int), (b.drop 12).take (lei ((b.drop 2).take 2)), 0) := by
  unfold refOpen
  rw [if_neg h1, if_neg h2, if_neg h3, if_neg h4, e1]
  simp
 rw [e2]
 by_cases hp : pgPack m (lei (b.take 1)) ((b.drop 12).take (lei ((b.drop 2).take 2))) = b
 · rw [if_neg (by simpa using hp)]
   have h9 := open_pack (no := m) (kind := lei (b.take 1)) (body := (b.drop 12).take (lei ((b.drop 2).take 2))) (by omega) (by omega) hbl
   rw [hp] at h9
   exact h9.symm
 · rw [if_pos hp]
   have h9 : ¬ ∃ k body, pageOpen (m : Int) b = (k, body, 0) := by
    rintro ⟨k, body, h9⟩
    obtain ⟨_, _, g3, _, _, g6, g7, _⟩ := pack_open h9
    subst g6
    rw [← g7] at hp
    rw [Int.toNat_natCast] at g3
    exact hp g3
   unfold pageOpen at h9 ⊢
   rw [if_neg h1, if_neg h2, if_neg h3] at h9 ⊢
   simp only at h9 ⊢
   split
   · rfl
   · rename_i g1
     rw [if_neg g1] at h9
     split
     · rfl
     · rename_i g2
       rw [if_neg g2] at h9
       exact absurd ⟨_, _, rfl⟩ h9
end Go.Tr
