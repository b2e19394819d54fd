/-
  A run reckoned out: the library's functions that are told at this seat: bytes.Count of one byte, sort.Slice of a row of ranges.
-/
import Derived.Test.YtebhnbecjmdicaaGreatDoorEvs
import Derived.Test.YtebhnbecjmdicaaGreatDoorEvk
import Derived.Test.YtebhnbecjmdicaaGreatDoorShelf
import Derived.Deep.QuietTactic
import Derived.Deep.DrawnRows
namespace Go.Proofs.YtebhnbecjmdicaaGreatDoor
set_option linter.unusedSimpArgs false
set_option linter.unusedVariables false
open Go.RowKit Go.Ev Go.Sort
attribute [local go_sem ↓] Go.wp_at_zero Go.wp_at_succ

theorem hkCount_ok : HkOk Tryz.prog (hkCnt 117 : Hk Empty) :=
  hkCnt_ok Tryz.call117 (fun a n c b2 o2 d xs cv w hx hc hc2 => Any.bytes_Count_one_at Tryz.laysSlB13 a n c b2 o2 d xs cv w hx hc hc2)
    (fun b2 o2 d cv w hc2 => Any.bytes_Count_one_nil Tryz.laysSlB13 b2 o2 d cv w hc2)

set_option maxHeartbeats 2000000 in
theorem less_pairs (blk off c Bs Os size : Nat) (W : World) (G : Nat → Int) (hs : W.cell? ⟨Bs, Os, none⟩ = some (.slice (some ⟨blk, off, none⟩) size c))
    (hc : ∀ t, t < size → W.cell? ⟨blk, off + t * 2, none⟩ = some (.int .i64 (G t))) (i j : Nat) (hi : i < size) (hj : j < size) (_hsz : size < 4611686018427387904) :
    Calls Tryz.prog 380 #[.int .i64 i, .int .i64 j, .pointer (some ⟨Bs, Os, none⟩)] W fun e w' => e = .returned (.bool (decide (G i < G j))) ∧ ∃ q, w' = W.drewN q := by
  have ci := hc i hi
  have cj := hc j hj
  go_enter Tryz.func380, Tryz.ntmps380
  go_wp2
  go_quiet (fail)
  go_wp2
  go_ret
  exact ⟨rfl, nq, rfl⟩

noncomputable def svT : TypeInfo := (Tryz.prog.info? 250).get (by kernel_rfl)
noncomputable def svE : TypeInfo := (Tryz.prog.info? 348).get (by kernel_rfl)
theorem svK (n : Nat) (h2 : 2 ≤ n) : Lib.swapperK n svE 25 = 9 := by
  have a : svE.hasPointers = false := by kernel_rfl
  have b : svE.bytes = 16 := by kernel_rfl
  have c : (n == 0) = false := by simp; omega
  have d : (n == 1) = false := by simp; omega
  simp [Lib.swapperK, a, b, c, d]
theorem svK0 : Lib.swapperK 0 svE 25 = 1 := by simp [Lib.swapperK]
theorem svK1 : Lib.swapperK 1 svE 25 = 2 := by simp [Lib.swapperK]

theorem slice_none_or_one (p : Option Addr) (n c : Nat) (h : n ≤ 1) (lf : Fn) (la lb : Array Value) (w : World) :
    Calls Tryz.prog 379 #[.iface 250 (.slice p n c), .func lf la lb] w fun e w' => e = .returned (.tuple #[]) ∧ ∃ os, w' = grow w os := by
  match n, h with
  | 0, _ => exact Any.sort_Slice_tiny Tryz.laysGg6 250 348 svT svE (by kernel_rfl) (by kernel_rfl) (by kernel_rfl) (by kernel_rfl) 25 (fun _ => by kernel_rfl) p 0 c (by omega) 390 (by rw [svK0]; kernel_rfl) lf la lb w
  | 1, _ => exact Any.sort_Slice_tiny Tryz.laysGg6 250 348 svT svE (by kernel_rfl) (by kernel_rfl) (by kernel_rfl) (by kernel_rfl) 25 (fun _ => by kernel_rfl) p 1 c (by omega) 391 (by rw [svK1]; kernel_rfl) lf la lb w

theorem slice_two (blk off c b2 o2 c2 : Nat) (d : Array (Int × Int)) (w : World) (h2 : 2 ≤ d.size) (h12 : d.size ≤ 12) (hH : HoldsK encR 2 w blk off d) (hblk : blk < w.heap.size) (hne : b2 ≠ blk) (hb2 : b2 < w.heap.size) (hs : w.cell? ⟨b2, o2, none⟩ = some (.slice (some ⟨blk, off, none⟩) d.size c2)) :
    Calls Tryz.prog 379 #[.iface 250 (.slice (some ⟨blk, off, none⟩) d.size c), .func (.func 380) #[] #[.pointer (some ⟨b2, o2, none⟩)]] w fun e w' => e = .returned (.tuple #[]) ∧ ∃ n os, w' = grow (putRowK encR 2 (Sort.ahead w n) blk off (Sort.insertionSort ltR d 0 d.size)) os := by
  have hless : LessReadsK Tryz.prog 380 #[.pointer (some ⟨b2, o2, none⟩)] encR 2 ltR blk off d.size w := by
    intro m os dk hsz i j hi hj
    have e : sortWorldK encR 2 w blk off m dk os = putRowK encR 2 (grow (Sort.ahead w m) os) blk off dk := by
      unfold sortWorldK; rw [putRowK_grow _ _ (Sort.ahead w m) _ blk off _ hblk]
    have hHg : HoldsK encR 2 (grow (Sort.ahead w m) os) blk off d := holdsK_grow _ _ _ _ blk off d hblk (holdsK_ahead _ _ _ _ _ _ _ hH)
    refine less_pairs blk off c2 b2 o2 d.size _ (fun t => dk[t]!.1) ?_ (fun t ht => ?_) i j hi hj (by omega)
    · rw [e, cell?_putRowK_other _ _ _ blk off dk _ hne, cell?_grow _ _ _ hb2]
      exact hs
    · rw [e]; exact ((holdsK_putRowK _ _ _ blk off d dk hHg hsz).cell (i := t) (c := 0) (by omega) (by omega)).1
  exact Any.sort_Slice_small_cells Tryz.laysGg6 250 348 svT svE (by kernel_rfl) (by kernel_rfl) (by kernel_rfl) (by kernel_rfl) 25 (fun _ => by kernel_rfl) encR 2 (fun _ => rfl) (by kernel_rfl) (fun _ => by kernel_rfl)
    (fun x v hv => by simp [encR] at hv; rcases hv with rfl | rfl <;> rfl) ltR 380 _
    (enters_of Tryz.func380 (by kernel_rfl) rfl) blk off c d h2 h12 398 (by rw [svK _ h2]; kernel_rfl) false
    (fun args W => run_callFunc_extern Tryz.func398 (by kernel_rfl) (by kernel_rfl) (by kernel_rfl) (e := Extern.ReflectliteSwapper.swap false) (by kernel_rfl) args W) w hless hH hblk

theorem hkSlice_ok : HkOk Tryz.prog (hkSort 379 250 380 : Hk Empty) :=
  hkSort_ok Tryz.call379 slice_none_or_one slice_two
end Go.Proofs.YtebhnbecjmdicaaGreatDoor
