/-
  A run reckoned out: the functions on strings that are told at this seat: stringslite.Index of one byte, Builder.copyCheck, Builder.String, strings.Join.
-/
import Derived.Test.YthkncacabmngoaaGreatDoorEvb
import Derived.Test.YthkncacabmngoaaGreatDoorEvi
import Derived.Test.YthkncacabmngoaaGreatDoorShelf
import Derived.Lib.UnsafeStr
import Derived.Deep.QuietTactic
import Derived.Deep.DrawnRows
namespace Go.Proofs.YthkncacabmngoaaGreatDoor
set_option linter.unusedSimpArgs false
set_option linter.unusedVariables false
open Go.RowKit Go.Ev
attribute [local go_sem ↓] Go.wp_at_zero Go.wp_at_succ

theorem hkIndex_ok : HkOk Tryz.prog (hkIdx 39 : Hk Empty) :=
  hkIdx_ok Tryz.call39 (fun s c w => Any.stringslite_Index_one Tryz.lays219 s c w)

theorem frz (w : World) (g n b' : Nat) (h : b' ≠ g) : (w.freeze ⟨g, 0, none⟩ n).heap[b']? = w.heap[b']? := by
  unfold World.freeze
  split
  · rfl
  · simp only [Array.getElem?_modify]
    rw [if_neg (fun e => h e.symm)]
theorem frzS (w : World) (g n : Nat) : (w.freeze ⟨g, 0, none⟩ n).heap.size = w.heap.size ∧ (w.freeze ⟨g, 0, none⟩ n).os = w.os ∧ (w.freeze ⟨g, 0, none⟩ n).tape = w.tape ∧ (w.freeze ⟨g, 0, none⟩ n).output = w.output := by
  unfold World.freeze
  split
  · exact ⟨rfl, rfl, rfl, rfl⟩
  · exact ⟨by simp, rfl, rfl, rfl⟩

set_option maxHeartbeats 1000000 in
theorem str_any (b g cap : Nat) (fz : Nat × Nat) (cur : Array Value) (l : List UInt8) (w : World) (c1 : w.cell? ⟨b, 1, none⟩ = some (.slice (some ⟨g, 0, none⟩) l.length cap)) (hg : w.heap[g]? = some (.cells cur 5 fz)) (h0 : l ≠ []) (hn : l.length ≤ cur.size) (hcap : l.length ≤ cap) (h6 : l.length ≤ 1000000) (hx : ∀ (j : Nat) (x : UInt8), l[j]? = some x → w.cell? ⟨g, j, none⟩ = some (.int .u8 x.toNat)) :
    Calls Tryz.prog 22 #[.pointer (some ⟨b, 0, none⟩)] w fun e w' => e = .returned (.string ⟨l.toArray⟩) ∧ (∀ b', b' ≠ g → w'.heap[b']? = w.heap[b']?) ∧ w.heap.size ≤ w'.heap.size ∧ w'.os = w.os ∧ w'.tape = w.tape ∧ w'.output = w.output := by
  have c1d : w.drew.cell? ⟨b, 1, none⟩ = some (.slice (some ⟨g, 0, none⟩) l.length cap) := c1
  have hl0 : l.length ≠ 0 := by simpa using h0
  have hSD : (Builtin.unsafeSliceData_ #[24] 89 #[.slice (some ⟨g, 0, none⟩) l.length cap]).run Tryz.prog w.drew = .ok (.pointer (some ⟨g, 0, none⟩)) w.drew :=
    Lib.run_unsafeSliceData_row _ _ _ _ _ _ (by omega)
  have hUS : (Builtin.unsafeString_ #[89, 3] 9 #[.pointer (some ⟨g, 0, none⟩), .int .i64 l.length]).run Tryz.prog w.drew = .ok (.string ⟨l.toArray⟩) (w.drew.freeze ⟨g, 0, none⟩ l.length) := by
    refine Lib.run_unsafeString_row w.drew 89 3 9 5 Tryz.underlying89 (by kernel_rfl) g cur.size (by have hg' : w.drew.heap[g]? = some (.cells cur 5 fz) := hg; simp [World.shape?, hg']) l h0 (by omega) (by omega) ?_
    intro j x hj
    rw [Ev.Addr.add_none, Nat.zero_add]
    exact hx j x hj
  have hfin : (∀ b', b' ≠ g → (w.drew.freeze ⟨g, 0, none⟩ l.length).heap[b']? = w.heap[b']?) ∧ w.heap.size ≤ (w.drew.freeze ⟨g, 0, none⟩ l.length).heap.size ∧ (w.drew.freeze ⟨g, 0, none⟩ l.length).os = w.os ∧ (w.drew.freeze ⟨g, 0, none⟩ l.length).tape = w.tape ∧ (w.drew.freeze ⟨g, 0, none⟩ l.length).output = w.output := by
    obtain ⟨s1, s2, s3, s4⟩ := frzS w.drew g l.length
    exact ⟨fun b' hb => frz w.drew g l.length b' hb, Nat.le_of_eq s1.symm, s2, s3, s4⟩
  clear hx h0 hn hg
  go_enter Tryz.func22, Tryz.ntmps22
  go_wp2
  go_region
  all_goals (go_wp2; go_ret; exact ⟨rfl, hfin⟩)
set_option maxHeartbeats 1000000 in
theorem str_nil (b c : Nat) (w : World) (c1 : w.cell? ⟨b, 1, none⟩ = some (.slice none 0 c)) :
    Calls Tryz.prog 22 #[.pointer (some ⟨b, 0, none⟩)] w fun e w' => e = .returned (.string .empty) ∧ Below w.heap.size w w' := by
  have hUS : ∀ W : World, (Builtin.unsafeString_ #[89, 3] 9 #[.pointer none, .int .i64 0]).run Tryz.prog W = .ok (.string .empty) W := fun W => Lib.run_unsafeString_none W _ _ _ none
  have c1d : w.drew.cell? ⟨b, 1, none⟩ = some (.slice none 0 c) := c1
  have hSD : (Builtin.unsafeSliceData_ #[24] 89 #[.slice none 0 c]).run Tryz.prog w.drew = .ok (.pointer none) w.drew := rfl
  go_enter Tryz.func22, Tryz.ntmps22
  go_wp2
  go_region
  all_goals (go_wp2; go_ret; exact ⟨rfl, Below.drew (Below.refl _ w)⟩)
theorem hkString_ok : HkOk Tryz.prog (hkStr 22 5 : Hk Empty) :=
  hkStr_ok Tryz.call22 str_any str_nil
theorem hkCopyCheck_ok : HkOk Tryz.prog (hkCopy 30 55 : Hk Empty) :=
  hkCopy_ok Tryz.call30 (fun b w h0 hsh hfz => Any.Builder_copyCheck_fresh { Tryz.lays156 with } { Tryz.Builder_Extra_156 with } b w h0 hsh hfz) (fun b w h0 => Any.Builder_copyCheck_used { Tryz.lays156 with } { Tryz.Builder_Extra_156 with } b w h0)
theorem hkJoin_ok' : HkOk Tryz.prog (hkJoin 46 : Hk Empty) :=
  hkJoin_ok Tryz.call46 (fun bk o c xs sep w hc hb h1 h2 h3 => Any.strings_Join Tryz.lays156 Tryz.Builder_Extra_156 bk o c xs sep w hc hb h1 h2 h3)
end Go.Proofs.YthkncacabmngoaaGreatDoor
