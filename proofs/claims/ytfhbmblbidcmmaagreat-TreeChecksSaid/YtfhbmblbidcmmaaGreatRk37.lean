/-
  Of any pages in a file a root is found to be a tree just if it is one in the form of the document. No condition. (part 37)
-/
import Derived.Test.YtfhbmblbidcmmaaGreatRk35
import Derived.Test.YtfhbmblbidcmmaaGreatRk24
set_option linter.unusedSimpArgs false
set_option linter.unusedVariables false
namespace Go.Proofs.YtfhbmblbidcmmaaGreat
set_option linter.unusedSimpArgs false
set_option linter.unusedVariables false
open Go.RowKit Go.Sl Go.Dk Go.Tr
attribute [local go_sem ↓] Go.wp_at_zero Go.wp_at_succ
attribute [local go_sem] Go.Sl.cell_sat Go.Sl.frozen_sat
end Go.Proofs.YtfhbmblbidcmmaaGreat
namespace Go.Proofs.YtfhbmblbidcmmaaGreat
set_option linter.unusedSimpArgs false
set_option linter.unusedVariables false
open Go.RowKit Go.Sl Go.Dk
open Go.Lru (ikey)
attribute [local go_sem ↓] Go.wp_at_zero Go.wp_at_succ
attribute [local go_sem] Go.Sl.cell_sat Go.Sl.frozen_sat look_PM len_PM put_PM del_PM
def Ck.forget (s : Ck) (no : Int) : Bool × Ck := if dropB s.its no then (true, { s with its := outI s.its no, pgs := pdel no s.pgs }) else (false, s)
set_option maxRecDepth 100000 in
set_option maxHeartbeats 1000000 in
theorem forget_any (C D : Nat) (s : Ck) (m : Nat) (no : Int) (F : Assn) (w : World) (hs : Sat (cacheP C D s * F) w) (ok : CkOk m s) :
 Calls Tryz.prog 135 #[.pointer (some ⟨C, 0, none⟩), .int .i64 no] w fun e w' => e = .returned (.bool (s.forget no).1) ∧ Sat (cacheP C D (s.forget no).2 * F) w' := by
 obtain ⟨L, PM, ps, hp, hs⟩ := Sat.cache_open hs
 have hdr := fun F w h => dropH L s.cap s.its no F w h ok.lru
 unfold Ck.forget
 unfold cacheA at hs
 haveI := hs.i
 cases hd : dropB s.its no with
 | true =>
   rw [hd, if_pos rfl] at hdr
   rw [if_pos rfl]
   obtain ⟨b, hb, hl, h0, h1⟩ := ok.key (drop_has hd)
   have HDR : Aside (∀ (F : Assn) (w : World), Sat (lruI L s.cap s.its * F) w → Calls Tryz.prog 164 #[.pointer (some ⟨L, 0, none⟩), .int .i64 no] w fun e w' => e = .returned (.bool true) ∧ Sat (lruI L s.cap (outI s.its no) * F) w') := hdr
   have HP : Aside (pgents ps = s.pgs ∧ pget no s.pgs = some b) := ⟨hp, hb⟩
   clear hdr hl h0 h1 hd
   rcases pg_cases ps no with ⟨l1, p, l2, rfl, rfl, hl1⟩ | hno
   · obtain ⟨_, _, _, q4, q5⟩ := pg_found (l2 := l2) hl1
     have HQ : Aside (pgents (l1 ++ l2) = pdel p.key s.pgs ∧ mdel p.key ((l1 ++ p :: l2).map kvP) = (l1 ++ l2).map kvP) := ⟨by rw [← HP.out.1]; exact q4.symm, q5⟩
     clear q4 q5 hp hb
     go_enter Tryz.func135, Tryz.ntmps135
     go_wp2_with fail
     refine (HDR.out _ _ (takeI (lruI L s.cap s.its))).mono ?_
     rintro e w3 ⟨rfl, hs3⟩
     haveI := hs3.i
     clear hs
     go_wp2
     go_ret
     refine ⟨rfl, ?_⟩
     refine Sat.cache_shut (L := L) (PM := PM) (ps := l1 ++ l2) HQ.out.1 ?_
     refine satI_weak (C := rw TB 1 p.v (bys p.b)) ?_
     rw [HQ.out.2, pagesA_append, show pagesA (p :: l2) = rw TB 1 p.v (bys p.b) * pagesA l2 from rfl]
     show _ = coreC C L D PM s * (lruI L s.cap (outI s.its p.key) * (diskP D s.d * (mp ikey PM ((l1 ++ l2).map kvP) * pagesA (l1 ++ l2)))) * F * rw TB 1 p.v (bys p.b)
     rw [pagesA_append]
     ac_rfl
   · have := HP.out.2
     rw [← HP.out.1, (pg_none hno).1] at this
     cases this
 | false =>
   rw [hd, if_neg (by simp)] at hdr
   rw [if_neg (by simp)]
   have HP : Aside (pgents ps = s.pgs) := hp
   clear hd hp
   go_enter Tryz.func135, Tryz.ntmps135
   go_wp2_with fail
   refine (hdr _ _ (takeI (lruI L s.cap s.its))).mono ?_
   rintro e w3 ⟨rfl, hs3⟩
   haveI := hs3.i
   go_wp2
   go_ret
   refine ⟨rfl, Sat.cache_shut (L := L) (PM := PM) HP.out ?_⟩
   unfold cacheA
   exact satI_eq (by ac_rfl)
end Go.Proofs.YtfhbmblbidcmmaaGreat
namespace Go.Proofs.YtfhbmblbidcmmaaGreat
set_option linter.unusedSimpArgs false
set_option linter.unusedVariables false
open Go.RowKit Go.Sl Go.Dk Go.Tr
attribute [local go_sem ↓] Go.wp_at_zero Go.wp_at_succ
attribute [local go_sem] Go.Sl.cell_sat Go.Sl.frozen_sat
def forgets (l : List Int) (c : Ck) : Ck := l.foldl (fun c no => (c.forget no).2) c
end Go.Proofs.YtfhbmblbidcmmaaGreat
namespace Go.Proofs.YtfhbmblbidcmmaaGreat
set_option linter.unusedSimpArgs false
set_option linter.unusedVariables false
open Go.RowKit Go.Sl Go.Dk Go.Tr
open Go.Lru (ikey)
theorem forget_ok {m : Nat} {s : Ck} (hw : CkOk m s) (no : Int) : CkOk m (s.forget no).2 := by
 unfold Ck.forget
 by_cases hd : dropB s.its no = true
 · simp only [hd, if_true]
   have ho := out_len hw.lru (drop_has hd)
   refine ⟨ok_out hw.lru no, hw.nd.sublist ((pdel_sub _ _).map _), ?_, ?_, fun p hp => hw.page p ((pdel_sub _ _).subset hp), hw.cap, ?_, hw.dk, hw.nm, hw.reads⟩
   · intro k
     show hasI (outI s.its no) k = (pget k (pdel no s.pgs)).isSome
     rw [pget_pdel hw.nd]
     by_cases hk : k = no
     · rw [if_pos hk]
       subst hk
       show _ = false
       rw [Bool.eq_false_iff]
       intro h
       exact (out_mem.1 (hasI_iff.1 h)).2 rfl
     · rw [if_neg hk, ← hw.same k, Bool.eq_iff_iff, hasI_iff, hasI_iff, out_mem]
       simp [hk]
   · show (pdel no s.pgs).length = (outI s.its no).length
     have := pdel_len (k := no) (l := s.pgs) (by rw [← hw.same]; exact drop_has hd)
     have := hw.len
     omega
   · have := hw.most
     show ((outI s.its no).length : Int) ≤ s.cap
     omega
 · rw [if_neg hd]
   exact hw
theorem forgets_ok {m : Nat} (l : List Int) {s : Ck} (hw : CkOk m s) : CkOk m (forgets l s) := by
 induction l generalizing s with
 | nil => exact hw
 | cons a l ih => exact ih (forget_ok hw a)
end Go.Proofs.YtfhbmblbidcmmaaGreat
