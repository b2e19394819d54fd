/-
  LruNil: the walk.
-/
import Derived.Test.YtjhkmmpgjiciiaaLaw06a
import Derived.Test.YtjhkmmpgjiciiaaLru5
namespace Go.Proofs.Ytjhkmmpgjiciiaa
set_option linter.unusedSimpArgs false
set_option linter.unusedVariables false
open Go.RowKit Go.Sl Go.Lru

set_option maxRecDepth 100000 in
set_option maxHeartbeats 1000000 in
theorem lruNil_walk (k : Int) (w : World) :
    Calls Try.prog 9 #[.int .i64 k] w fun e w' => e = .returned (.bool true) ∧ Below w.heap.size w w' := by
  go_enter Try.func9, Try.ntmps9
  go_wp2_with (first
    | (go_at_call 22; refine (add_nil _ _).mono ?_; rintro e w' ⟨rfl, rfl⟩)
    | (go_at_call 25; refine (oldest_nil _).mono ?_; rintro e w' ⟨rfl, rfl⟩))
  refine (awake06 _ w (Sat.old_self w)).mono ?_
  rintro e w1 ⟨rfl, hs1⟩
  go_wp2_with (first
    | (go_at_call 21; refine (use_nil _ _).mono ?_; rintro e w' ⟨rfl, rfl⟩)
    | (go_at_call 26; refine (drop_nil _ _).mono ?_; rintro e w' ⟨rfl, rfl⟩)
    | (go_at_call 23; refine (pin_nil _ _).mono ?_; rintro e w' ⟨rfl, rfl⟩)
    | (go_at_call 27; refine (unpin_nil _ _).mono ?_; rintro e w' ⟨rfl, rfl⟩)
    | (go_at_call 39; refine (mark_nil _ _ _).mono ?_; rintro e w' ⟨rfl, rfl⟩)
    | (go_at_call 20; refine (has_nil _ _).mono ?_; rintro e w' ⟨rfl, rfl⟩)
    | (go_at_call 24; refine (keys_nil _).mono ?_; rintro e w' ⟨rfl, rfl⟩)
    | (go_at_call 41; refine (marked_nil _).mono ?_; rintro e w' ⟨rfl, rfl⟩))
  go_ret
  exact ⟨rfl, (hs1.eq (sep_one _).symm).old_below⟩

end Go.Proofs.Ytjhkmmpgjiciiaa
