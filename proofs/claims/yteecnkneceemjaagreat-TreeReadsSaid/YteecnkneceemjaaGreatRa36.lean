/-
  Lemmas for TreeReads. No condition (part 36)
-/
import Derived.Test.YteecnkneceemjaaGreatRa34
import Derived.Test.YteecnkneceemjaaGreatRa35
set_option linter.unusedSimpArgs false
set_option linter.unusedVariables false
namespace Go.Proofs.YteecnkneceemjaaGreat
set_option linter.unusedSimpArgs false
set_option linter.unusedVariables false
open Go.RowKit Go.Sl Go.Dk Go.Tr
attribute [local go_sem ↓] Go.wp_at_zero Go.wp_at_succ
attribute [local go_sem] Go.Sl.cell_sat Go.Sl.frozen_sat
def forgets (l : List Int) (c : Ck) : Ck := l.foldl (fun c no => (c.forget no).2) c
end Go.Proofs.YteecnkneceemjaaGreat
namespace Go.Proofs.YteecnkneceemjaaGreat
set_option linter.unusedSimpArgs false
set_option linter.unusedVariables false
open Go.RowKit Go.Sl Go.Dk Go.Tr
open Go.Lru (ikey)
theorem forget_ok {m : Nat} {s : Ck} (hw : CkOk m s) (no : Int) : CkOk m (s.forget no).2 := by
 unfold Ck.forget
 by_cases hd : dropB s.its no = true
 · simp only [hd, if_true]
   have ho := out_len hw.lru (drop_has hd)
   refine ⟨ok_out hw.lru no, hw.nd.sublist ((pdel_sub _ _).map _), ?_, ?_, fun p hp => hw.page p ((pdel_sub _ _).subset hp), hw.cap, ?_, hw.dk, hw.nm, hw.reads⟩
   · intro k
     show hasI (outI s.its no) k = (pget k (pdel no s.pgs)).isSome
     rw [pget_pdel hw.nd]
     by_cases hk : k = no
     · rw [if_pos hk]
       subst hk
       show _ = false
       rw [Bool.eq_false_iff]
       intro h
       exact (out_mem.1 (hasI_iff.1 h)).2 rfl
     · rw [if_neg hk, ← hw.same k, Bool.eq_iff_iff, hasI_iff, hasI_iff, out_mem]
       simp [hk]
   · show (pdel no s.pgs).length = (outI s.its no).length
     have := pdel_len (k := no) (l := s.pgs) (by rw [← hw.same]; exact drop_has hd)
     have := hw.len
     omega
   · have := hw.most
     show ((outI s.its no).length : Int) ≤ s.cap
     omega
 · rw [if_neg hd]
   exact hw
theorem forgets_ok {m : Nat} (l : List Int) {s : Ck} (hw : CkOk m s) : CkOk m (forgets l s) := by
 induction l generalizing s with
 | nil => exact hw
 | cons a l ih => exact ih (forget_ok hw a)
end Go.Proofs.YteecnkneceemjaaGreat
