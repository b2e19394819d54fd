/-
  ScriptBack: a line that is parsed would have been printed so.
-/
import Derived.Test.YthkncacabmngoaaGreatDoorScI
import Derived.Test.YthkncacabmngoaaGreatDoorEv25a
namespace Go.Sc
theorem flat_ge : ∀ o : Bs, o.length ≤ (o.flatMap qb).length
  | [] => by simp
  | x :: o => by
    have := qb_pos x
    have := flat_ge o
    rw [List.flatMap_cons, List.length_append, List.length_cons]
    omega
theorem print_bound {c : Cmd} {s : Bs} (h : print c = some s) : c.word.length ≤ s.length ∧ c.text.length ≤ s.length := by
  unfold print at h
  split at h
  · rename_i hm
    cases h
    refine ⟨by simp only [List.length_append]; omega, ?_⟩
    unfold may at hm
    cases hq : asks c.word with
    | none => rw [hq] at hm; cases hm
    | some y =>
      obtain ⟨a, b, t⟩ := y
      rw [hq] at hm
      cases t with
      | true =>
        have := flat_ge c.text
        simp only [quoted, List.length_append, List.length_cons, List.length_nil]
        omega
      | false =>
        simp only [Bool.and_eq_true, Bool.false_or] at hm
        have he : c.text = [] := by simpa using hm.1.2
        rw [he]
        simp
  · cases h
end Go.Sc
namespace Go.Proofs.YthkncacabmngoaaGreatDoor
set_option linter.unusedSimpArgs false
set_option linter.unusedVariables false
open Go.RowKit Go.Sl Go.Sc
attribute [local go_sem] Go.Sl.cell_sat Go.Sl.frozen_sat Go.Sc.str_toList Go.Sc.str_size Go.Sc.str_extract

theorem awake25_any (w : World) : Calls Tryz.prog 4 #[] w fun e w' => e = .returned (.bool true) ∧ Below w.heap.size w w' :=
  (awake25_tru w).mono fun _ _ ⟨he, hs⟩ => ⟨he, hs.below⟩

set_option maxHeartbeats 1600000 in
theorem back_any (l : Bs) (w : World) (hc : Ctx w) : Calls Tryz.prog 3 #[.string (str l)] w fun e w' => e = .returned (.bool true) ∧ Below w.heap.size w w' := by
  have haw := awake25_any w
  by_cases hl : 3000 < l.length
  · have hl' : (3000 : Int) < l.length := by omega
    go_enter Tryz.func3, Tryz.ntmps3
    go_wp2_with fail
    refine haw.mono ?_
    rintro e w1 ⟨rfl, hb1⟩
    have haw2 := awake25_any w1
    go_wp2_with fail
    refine haw2.mono ?_
    rintro e w2 ⟨rfl, hb2⟩
    go_wp2
    go_ret
    exact ⟨rfl, hb1.trans (hb2.mono hb1.size)⟩
  · have hl' : ¬ (3000 : Int) < l.length := by omega
    have HC : Aside (Ctx w) := hc
    clear hc
    go_enter Tryz.func3, Tryz.ntmps3
    go_wp2_with fail
    refine haw.mono ?_
    rintro e w1 ⟨rfl, hb1⟩
    have HC1 : Aside (Ctx w1) := HC.out.below hb1
    have hpar := parse_any l (by omega) w1 HC1.out
    go_wp2_with fail
    refine hpar.mono ?_
    rintro e w2 ⟨hp, hb2⟩
    have hb12 := hb1.trans (hb2.mono hb1.size)
    rcases hp with ⟨c, v, hq, rfl, hv⟩ | ⟨hq, rfl⟩
    · obtain ⟨hmay, hpr⟩ := parse_print hq
      obtain ⟨hw1, ht1⟩ := print_bound hpr
      obtain ⟨v1, v2, rfl, hz, hb⟩ := hv
      obtain ⟨a1, c1, rfl, _, _⟩ := hz.len
      obtain ⟨a2, c2, rfl, _, _⟩ := hb.len
      have hs2 := (Sat.old_self w2).alloc #[.string (str c.word), .slice a1 c.nums.length c1, .slice a2 c.text.length c2] TCm
      have hb3 := (Sat.eq hs2 (sep_comm _ _)).old_below
      have hcm : CmdAt (w2.alloc (.cells #[.string (str c.word), .slice a1 c.nums.length c1, .slice a2 c.text.length c2] TCm)) (cmdV c.word (.slice a1 c.nums.length c1) (.slice a2 c.text.length c2)) c := CmdAt.below ⟨_, _, rfl, hz, hb⟩ hb3
      have hprc := print_any c _ _ hcm ((HC1.out.below hb2).below hb3) (by omega) (by omega)
      rw [hpr] at hprc
      have hmy := fun w h => may_any c.word (.slice a1 c.nums.length c1) c.nums a2 c.text.length c2 w h
      rw [← may_n c.word c.nums c.text, show (⟨c.word, c.nums, c.text⟩ : Cmd) = c from rfl, hmay] at hmy
      have HM : Aside (∀ w, Zat w (.slice a1 c.nums.length c1) c.nums → Calls Tryz.prog 7 #[cmdV c.word (.slice a1 c.nums.length c1) (.slice a2 c.text.length c2)] w fun e w' => e = .returned (.bool true) ∧ Below w.heap.size w w') := hmy
      have HZ : Aside (Zat w2 (.slice a1 c.nums.length c1) c.nums) := hz
      have HB : Aside (Below w.heap.size w w2 ∧ Below w2.heap.size w2 (w2.alloc (.cells #[.string (str c.word), .slice a1 c.nums.length c1, .slice a2 c.text.length c2] TCm))) := ⟨hb12, hb3⟩
      haveI := (Sat.old_self w2).i
      clear hmy hz hb hcm hpar hb1 hb2 hb12 hb3 hq hmay hpr hw1 ht1
      go_wp2_with fail
      refine hprc.mono ?_
      rintro e w3 ⟨hp3, hb3⟩
      rcases hp3 with ⟨s, hs, rfl⟩ | ⟨hs, rfl⟩
      · cases hs
        have hs3 := hs2.below hb3
        haveI := hs3.i
        have hz3 := (HZ.out.below HB.out.2).below hb3
        go_wp2_with fail
        refine (HM.out _ hz3).mono ?_
        rintro e w4 ⟨rfl, hb4⟩
        go_wp2
        go_ret
        have hb24 := (HB.out.2.trans (hb3.mono HB.out.2.size)).trans (hb4.mono (Nat.le_trans HB.out.2.size hb3.size))
        exact ⟨by simp, HB.out.1.trans (hb24.mono HB.out.1.size)⟩
      · cases hs
    · haveI := (Sat.old_self w2).i
      unfold zeroC cmdV
      have hs2 := (Sat.old_self w2).alloc #[.string (str []), .slice none 0 0, .slice none 0 0] TCm
      have hb3 := (Sat.eq hs2 (sep_comm _ _)).old_below
      clear hpar hq
      go_wp2
      go_ret
      exact ⟨by simp, hb12.trans (hb3.mono hb12.size)⟩
theorem scriptBack_walk (s : ByteArray) (w : World) (hc : Ctx w) : Calls Tryz.prog 3 #[.string s] w fun e w' => e = .returned (.bool true) ∧ Below w.heap.size w w' := by
  rw [str_eta s]
  exact back_any _ w hc
end Go.Proofs.YthkncacabmngoaaGreatDoor
