/-
  TreePlays: what its proof leans on (part 49)
-/
import Derived.Test.YteecnkneceemjaaGreatRp34
import Derived.Test.YteecnkneceemjaaGreatRp47
import Derived.Test.YteecnkneceemjaaGreatRp48
set_option linter.unusedSimpArgs false
set_option linter.unusedVariables false
namespace Go.Proofs.YteecnkneceemjaaGreat
set_option linter.unusedSimpArgs false
set_option linter.unusedVariables false
open Go.RowKit Go.Sl Go.Dk Go.Tr
attribute [local go_sem ↓] Go.wp_at_zero Go.wp_at_succ
attribute [local go_sem] Go.Sl.cell_sat Go.Sl.frozen_sat
def nmS : ByteArray := ⟨#[115, 116, 111, 114, 101]⟩
def ck0 (room cap : Int) : Ck := ⟨nmS, cap, 0, Dk.new room, [], []⟩
def ts0 (room cap : Int) : TS := ⟨ck0 room cap, Sp.new 1, 0⟩
theorem ck0_ok (room cap : Int) (h1 : 0 ≤ room) (h2 : room ≤ 1099511627776) (h3 : 1 ≤ cap) (h4 : cap ≤ 4096) : CkOk 0 (ck0 room cap) :=
 ⟨⟨by simp [ck0, keysI], by simp [ck0], by simp [ck0]⟩, by simp [ck0], fun k => by simp [ck0, hasI, pget], rfl, by simp [ck0], by simp only [ck0]; omega, by simp [ck0]; omega, ok_new room h1 (by unfold big; omega), (by show Dk.named nmS = true; decide +kernel), by simp [ck0]⟩
theorem ts0_inv (room cap : Int) (h1 : 0 ≤ room) (h2 : room ≤ 1099511627776) (h3 : 1 ≤ cap) (h4 : cap ≤ 4096) (r : Bool) (hr : r = true → 268435456 ≤ room) : TInv r (ts0 room cap) where
 ts := ⟨⟨0, ck0_ok room cap h1 h2 h3 h4⟩, by
  have e : (fnow (ck0 room cap).d (ck0 room cap).nm) = [] := rfl
  exact ⟨Int.le_refl _, Int.le_refl _, Nat.zero_le _, Int.le_refl _, by show (fnow (ck0 room cap).d (ck0 room cap).nm).length ≤ _; rw [e]; simp⟩, by unfold ts0 opsMax; simp, by simp [ts0, Sp.new], by simp [ts0, Sp.new]⟩
 good := ⟨⟨rfl, rfl, (by show Dk.named nmS = true; decide +kernel), by show ([] : List (ByteArray × Fl)).length + _ ≤ 8; split <;> simp⟩, by simp [ts0, ck0], by simp [ts0, ck0], ⟨by show ([] : List UInt8).length ≤ _; simp, by simp [ts0, ck0]⟩⟩
 res := by simp [ts0, Sp.new]
 used := by simp [ts0, Sp.new]
 roomy h := ⟨.inl rfl, by show ((256 * TOP : Nat) : Int) ≤ room; have := hr h; unfold TOP; omega⟩
theorem ts0_room (room cap : Int) : roomOf (ts0 room cap).sp = 1048575 := by
 simp [roomOf, ts0, Sp.new, TOP]
end Go.Proofs.YteecnkneceemjaaGreat
namespace Go.Proofs.YteecnkneceemjaaGreat
set_option linter.unusedSimpArgs false
set_option linter.unusedVariables false
open Go.RowKit Go.Sl Go.Dk Go.Tr
attribute [local go_sem ↓] Go.wp_at_zero Go.wp_at_succ
attribute [local go_sem] Go.Sl.cell_sat Go.Sl.frozen_sat
set_option maxHeartbeats 800000 in
theorem newT_yes (C S : Nat) (F : Assn) (w : World) (hs : Sat F w) :
 Calls Tryz.prog 36 #[.pointer (some ⟨C, 0, none⟩), .pointer (some ⟨S, 0, none⟩)] w fun e w' => ∃ t : Nat, e = .returned (.tuple #[.pointer (some ⟨t, 0, none⟩), .int .i64 0]) ∧ Sat (Sl.block t TTr [.pointer (some ⟨C, 0, none⟩), .pointer (some ⟨S, 0, none⟩)] * F) w' := by
 haveI := hs.i
 go_enter Tryz.func36, Tryz.ntmps36
 go_wp2
 go_ret2
 exact ⟨_, rfl, keep2 _ _⟩
abbrev TBe : TypeId := 43
set_option maxRecDepth 100000 in
set_option maxHeartbeats 1600000 in
theorem set_any (room cap : Int) (F : Assn) (w : World) (hs : Sat F w) (h1 : 0 ≤ room) (h2 : room ≤ 1099511627776) (h3 : 1 ≤ cap) (h4 : cap ≤ 4096) :
 Calls Tryz.prog 9 #[.int .i64 room, .int .i64 cap] w fun e w' => ∃ (b : Nat) (h : Th), e = .returned (.pointer (some ⟨b, 0, none⟩)) ∧ Sat (Sl.block b TBe [.pointer (some ⟨h.D, 0, none⟩), .pointer (some ⟨h.C, 0, none⟩), .pointer (some ⟨h.S, 0, none⟩), .pointer (some ⟨h.t, 0, none⟩)] * (treeP h (ts0 room cap) * F)) w' := by
 have hts := (ts0_inv room cap h1 h2 h3 h4 false (by simp)).ts
 have hnm : Dk.named nmS = true := by decide +kernel
 go_enter Tryz.func9, Tryz.ntmps9
 go_wp2_with fail
 with_reducible refine Calls.mono (newD_yes room F _ hs h1 h2) ?_
 rintro e w1 ⟨D, rfl, q1⟩
 haveI := q1.i
 go_wp2_with fail
 refine Calls.mono (newC_yes D (Dk.new room) nmS cap F _ q1 hnm h3 h4) ?_
 rintro e w2 ⟨C, rfl, q2⟩
 haveI := q2.i
 go_wp2_with fail
 with_reducible refine Calls.mono (spNew_yes 1 _ _ (by omega) (by omega) q2) ?_
 rintro e w3 ⟨S, rfl, q3⟩
 haveI := q3.i
 go_wp2_with fail
 with_reducible refine Calls.mono (newT_yes C S _ _ q3) ?_
 rintro e w4 ⟨t, rfl, q4⟩
 have q5 : Sat (treeP ⟨t, C, S, D⟩ (ts0 room cap) * F) w4 := tree_join hts (q4.eq (by show _ = cacheP C D (ck0 room cap) * _; unfold ck0; ac_rfl))
 haveI := q5.i
 clear q1 q2 q3 q4
 go_wp2
 go_ret
 exact ⟨_, ⟨t, C, S, D⟩, rfl, keep3 _ _ _⟩
end Go.Proofs.YteecnkneceemjaaGreat
