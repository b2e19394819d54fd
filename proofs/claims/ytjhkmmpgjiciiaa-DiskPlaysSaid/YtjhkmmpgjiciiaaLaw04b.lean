/-
  The laws of the disk: the document's example.
-/
import Derived.Test.YtjhkmmpgjiciiaaLaw04a
namespace Go.Proofs.Ytjhkmmpgjiciiaa
set_option linter.unusedSimpArgs false
set_option linter.unusedVariables false
open Go.RowKit Go.Sl Go.Dk
attribute [local go_sem ↓] Go.wp_at_zero Go.wp_at_succ

def nmA : ByteArray := ⟨#[97]⟩
def awD : Dk := ⟨1000, 1, -1, false, false, [(nmA, ⟨List.replicate 100 7, [], false⟩)], [⟨nmA, 0, some (List.replicate 64 7)⟩, ⟨nmA, 64, some (List.replicate 36 7)⟩]⟩

theorem aw_sect : sect nmA 0 (List.replicate 100 7) = [⟨nmA, 0, some (List.replicate 64 7)⟩, ⟨nmA, 64, some (List.replicate 36 7)⟩] := by
  rw [sect_cons _ _ _ (by simp)]
  have p1 : Dk.part 0 (List.replicate 100 (7 : UInt8)).length = 64 := by decide +kernel
  rw [p1]
  have t1 : (List.replicate 100 (7 : UInt8)).take 64 = List.replicate 64 7 := by decide +kernel
  have t2 : (List.replicate 100 (7 : UInt8)).drop 64 = List.replicate 36 7 := by decide +kernel
  rw [t1, t2, sect_cons _ _ _ (by simp)]
  have p2 : Dk.part (0 + 64) (List.replicate 36 (7 : UInt8)).length = 36 := by decide +kernel
  rw [p2]
  have t3 : (List.replicate 36 (7 : UInt8)).take 36 = List.replicate 36 7 := by decide +kernel
  have t4 : (List.replicate 36 (7 : UInt8)).drop 36 = [] := by decide +kernel
  rw [t3, t4, sect_nil]

theorem aw_write : (Dk.new 1000).write nmA 0 (List.replicate 100 7) = (0, awD) := by
  have h1 : (Dk.new 1000).may nmA false = 0 := by decide +kernel
  have h2 : (Dk.new 1000).fits ((Dk.new 1000).get nmA) (max (had ((Dk.new 1000).get nmA)) (0 + (List.replicate 100 (7 : UInt8)).length)) = 0 := by decide +kernel
  unfold Dk.write
  rw [if_neg (by simp [h1]), if_neg (by decide +kernel), if_neg (by simp), if_neg (fun h => h h2), if_neg (by decide +kernel)]
  show (0, (Dk.new 1000).written nmA 0 (List.replicate 100 7)) = _
  unfold Dk.written
  rw [aw_sect]
  have h3 : laid (((Dk.new 1000).get nmA).getD Dk.fl0).now 0 (List.replicate 100 (7 : UInt8)) = List.replicate 100 7 := by decide +kernel
  simp only [h3]
  rfl
theorem aw_read : (awD.crash [0, 1]).read nmA 60 10 = (0, [0, 0, 0, 0, 7, 7, 7, 7, 7, 7]) := by decide +kernel
theorem aw_size : (awD.crash [0, 1]).size nmA = 100 := by decide +kernel

set_option maxRecDepth 100000 in
set_option maxHeartbeats 1000000 in
theorem awake04 (F : Assn) (w : World) (hs : Sat F w) :
    Calls Try.prog 29 #[] w fun e w' => e = .returned (.bool true) ∧ Sat F w' := by
  have hok0 : Ok 0 (Dk.new 1000) := ok_new 1000 (by omega) (by unfold big; omega)
  have hok1 : Ok 101 awD := by
    have := ok_write hok0 nmA 0 (List.replicate 100 7)
    rw [aw_write] at this
    exact this
  have hok2 := ok_crash hok1 [0, 1]
  have HOK : Aside (Ok 101 awD ∧ Ok 101 (awD.crash [0, 1])) := ⟨hok1, hok2⟩
  clear hok1 hok2
  go_enter Try.func29, Try.ntmps29
  go_wp2_with fail
  refine (newD_yes 1000 F w hs (by omega) (by omega)).mono ?_
  rintro e w1 ⟨D, rfl, hs1⟩
  have hfull := full_any 100 7 _ w1 hs1 (by omega)
  have e7 : (((7 : UInt8).toNat : Nat) : Int) = 7 := rfl
  have e100 : ((100 : Nat) : Int) = 100 := rfl
  rw [e7, e100] at hfull
  clear hs hs1 e7 e100
  go_wp2_with fail
  refine hfull.mono ?_
  rintro e w2 ⟨a, c, rfl, hs2⟩
  have hwr := write_any D (Dk.new 1000) 0 nmA 0 (.slice a 100 c) (List.replicate 100 7) (rw TB 1 (.slice a 100 c) (bys (List.replicate 100 7))) F w2 Reads.rw (hs2.eq (by ac_rfl)) (by decide) (by simp) hok0 (by simp)
  rw [aw_write] at hwr
  unfold nmA at hwr
  clear hfull hs2 hok0
  go_wp2_with fail
  refine hwr.mono ?_
  rintro e w3 ⟨rfl, hs3⟩
  have hs3' : Sat (diskP D awD * F) w3 := Sat.weak (B := rw TB 1 (.slice a 100 c) (bys (List.replicate 100 7))) (hs3.eq (by ac_rfl))
  have hs4 := hs3'.alloc #[.int .i64 0, .int .i64 1] 3
  have hcr := crash_any D awD 101 [0, 1] (.slice (some ⟨w3.heap.size, 0, none⟩) 2 2) (block w3.heap.size 3 ([0, 1].map (Value.int .i64))) F _ (fun F' w' h => Ints.of_block h) (hs4.eq (by show block _ _ _ * _ = _; simp only [List.map_cons, List.map_nil]; ac_rfl)) (by simp) HOK.out.1 (by unfold big; omega)
  clear hwr hs3 hs3' hs4
  go_wp2_with fail
  refine hcr.mono ?_
  rintro e w4 ⟨rfl, hs5⟩
  have hrd := read_any D (awD.crash [0, 1]) nmA 60 10 _ w4 hs5 (by decide) (fun p hp => (HOK.out.2.sz p hp).1)
  rw [aw_read] at hrd
  unfold nmA at hrd
  clear hcr
  go_wp2_with fail
  refine hrd.mono ?_
  rintro e w5 ⟨v, rfl, hs6⟩
  obtain ⟨va, vc, rfl, _, _⟩ := rw_vb hs6
  have hsize := size_any D (awD.crash [0, 1]) nmA _ w5 (hs6.eq (sep_left _ _ _)) (by decide)
  rw [aw_size] at hsize
  unfold nmA at hsize
  clear hrd hs5
  go_wp2_with fail
  refine hsize.mono ?_
  rintro e w5' ⟨rfl, rfl⟩
  have hs7 := hs6.alloc #[.int .u8 0, .int .u8 0, .int .u8 0, .int .u8 0, .int .u8 7, .int .u8 7, .int .u8 7, .int .u8 7, .int .u8 7, .int .u8 7] TB
  have hb2 : Byt _ (.slice (some ⟨w5.heap.size, 0, none⟩) 10 10) [0, 0, 0, 0, 7, 7, 7, 7, 7, 7] := Reads.block (b := w5.heap.size) (e := TB) (c := 10) (l := [0, 0, 0, 0, 7, 7, 7, 7, 7, 7]) (sp := []) (by decide) (by decide) _ _ hs7
  have hb1 : Byt _ (.slice va 10 vc) [0, 0, 0, 0, 7, 7, 7, 7, 7, 7] := Reads.rw _ _ (hs7.take (rw TB 1 (.slice va [(0 : UInt8), 0, 0, 0, 7, 7, 7, 7, 7, 7].length vc) (bys [0, 0, 0, 0, 7, 7, 7, 7, 7, 7])))
  have hsame := same_any _ _ _ _ _ hb1 hb2
  simp only [decide_true] at hsame
  clear hsize hs6
  go_wp2_with fail
  refine hsame.mono ?_
  rintro e w6 ⟨rfl, n6, rfl⟩
  go_wp2
  go_ret
  refine ⟨rfl, ?_⟩
  exact (hs7.drewN n6).right.right.right.right

end Go.Proofs.Ytjhkmmpgjiciiaa
