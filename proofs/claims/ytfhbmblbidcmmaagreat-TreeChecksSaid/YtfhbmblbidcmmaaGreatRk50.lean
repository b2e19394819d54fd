/-
  Of any pages in a file a root is found to be a tree just if it is one in the form of the document. No condition. (part 50)
-/
import Derived.Test.YtfhbmblbidcmmaaGreatRk49
import Derived.Test.YtfhbmblbidcmmaaGreatRk32
set_option linter.unusedSimpArgs false
set_option linter.unusedVariables false
namespace Go.Proofs.YtfhbmblbidcmmaaGreat
set_option linter.unusedSimpArgs false
set_option linter.unusedVariables false
open Go.RowKit Go.Sl Go.Tr Go.Dk
attribute [local go_sem ↓] Go.wp_at_zero Go.wp_at_succ
attribute [local go_sem] Go.Sl.cell_sat Go.Sl.frozen_sat
theorem rnumber_any (v : Value) (l : List UInt8) (B F : Assn) (w : World) (hB : Reads B v l) (hs : Sat (B * F) w) (h : l.length = 4) :
 Calls Tryz.prog 179 #[v] w fun e w' => e = .returned (.int .i64 (i4 (lei l))) ∧ w = w' := by
 have hi := rint_any v l B F w hB hs (by omega) (by omega)
 have hlt := lei_lt l
 rw [h] at hlt
 have hlt2 : lei l < 4294967296 := hlt
 obtain ⟨n, hn⟩ : ∃ n, lei l = n := ⟨_, rfl⟩
 rw [hn] at hi hlt2 ⊢
 clear hn hlt hB hs h
 by_cases h4 : n = 4294967295
 · subst h4
   have hz : i4 4294967295 = -1 := rfl
   rw [hz]
   clear hz
   go_enter Tryz.func179, Tryz.ntmps179
   go_wp2_with fail
   refine hi.mono ?_
   rintro e w1 ⟨rfl, rfl⟩
   go_wp2
   go_ret
   exact ⟨rfl, rfl⟩
 · have hz : i4 n = (n : Int) := by unfold i4; rw [if_neg h4]
   rw [hz]
   have h5 : ((n : Int) == 4294967295) = false := by simp; omega
   have h6 : (n == 4294967295) = false := by simpa using h4
   clear hz
   go_enter Tryz.func179, Tryz.ntmps179
   go_wp2_with fail
   refine hi.mono ?_
   rintro e w1 ⟨rfl, rfl⟩
   go_wp2
   go_ret
   exact ⟨rfl, rfl⟩
end Go.Proofs.YtfhbmblbidcmmaaGreat
