/-
  TreePlays: what its proof leans on (part 39)
-/
import Derived.Test.YteecnkneceemjaaGreatRp25
set_option linter.unusedSimpArgs false
set_option linter.unusedVariables false
namespace Go.Proofs.YteecnkneceemjaaGreat
set_option linter.unusedSimpArgs false
set_option linter.unusedVariables false
open Go.RowKit Go.Sl Go.Dk
open Go.Lru (ikey)
attribute [local go_sem ↓] Go.wp_at_zero Go.wp_at_succ
attribute [local go_sem] Go.Sl.cell_sat Go.Sl.frozen_sat look_PM len_PM put_PM del_PM
def Ck.forget (s : Ck) (no : Int) : Bool × Ck := if dropB s.its no then (true, { s with its := outI s.its no, pgs := pdel no s.pgs }) else (false, s)
set_option maxRecDepth 100000 in
set_option maxHeartbeats 1000000 in
theorem forget_any (C D : Nat) (s : Ck) (m : Nat) (no : Int) (F : Assn) (w : World) (hs : Sat (cacheP C D s * F) w) (ok : CkOk m s) :
 Calls Tryz.prog 101 #[.pointer (some ⟨C, 0, none⟩), .int .i64 no] w fun e w' => e = .returned (.bool (s.forget no).1) ∧ Sat (cacheP C D (s.forget no).2 * F) w' := by
 obtain ⟨L, PM, ps, hp, hs⟩ := Sat.cache_open hs
 have hdr := fun F w h => dropH L s.cap s.its no F w h ok.lru
 unfold Ck.forget
 unfold cacheA at hs
 haveI := hs.i
 cases hd : dropB s.its no with
 | true =>
   rw [hd, if_pos rfl] at hdr
   rw [if_pos rfl]
   obtain ⟨b, hb, hl, h0, h1⟩ := ok.key (drop_has hd)
   have HDR : Aside (∀ (F : Assn) (w : World), Sat (lruI L s.cap s.its * F) w → Calls Tryz.prog 104 #[.pointer (some ⟨L, 0, none⟩), .int .i64 no] w fun e w' => e = .returned (.bool true) ∧ Sat (lruI L s.cap (outI s.its no) * F) w') := hdr
   have HP : Aside (pgents ps = s.pgs ∧ pget no s.pgs = some b) := ⟨hp, hb⟩
   clear hdr hl h0 h1 hd
   rcases pg_cases ps no with ⟨l1, p, l2, rfl, rfl, hl1⟩ | hno
   · obtain ⟨_, _, _, q4, q5⟩ := pg_found (l2 := l2) hl1
     have HQ : Aside (pgents (l1 ++ l2) = pdel p.key s.pgs ∧ mdel p.key ((l1 ++ p :: l2).map kvP) = (l1 ++ l2).map kvP) := ⟨by rw [← HP.out.1]; exact q4.symm, q5⟩
     clear q4 q5 hp hb
     go_enter Tryz.func101, Tryz.ntmps101
     go_wp2_with fail
     refine (HDR.out _ _ (takeI (lruI L s.cap s.its))).mono ?_
     rintro e w3 ⟨rfl, hs3⟩
     haveI := hs3.i
     clear hs
     go_wp2
     go_ret
     refine ⟨rfl, ?_⟩
     refine Sat.cache_shut (L := L) (PM := PM) (ps := l1 ++ l2) HQ.out.1 ?_
     refine satI_weak (C := rw TB 1 p.v (bys p.b)) ?_
     rw [HQ.out.2, pagesA_append, show pagesA (p :: l2) = rw TB 1 p.v (bys p.b) * pagesA l2 from rfl]
     show _ = coreC C L D PM s * (lruI L s.cap (outI s.its p.key) * (diskP D s.d * (mp ikey PM ((l1 ++ l2).map kvP) * pagesA (l1 ++ l2)))) * F * rw TB 1 p.v (bys p.b)
     rw [pagesA_append]
     ac_rfl
   · have := HP.out.2
     rw [← HP.out.1, (pg_none hno).1] at this
     cases this
 | false =>
   rw [hd, if_neg (by simp)] at hdr
   rw [if_neg (by simp)]
   have HP : Aside (pgents ps = s.pgs) := hp
   clear hd hp
   go_enter Tryz.func101, Tryz.ntmps101
   go_wp2_with fail
   refine (hdr _ _ (takeI (lruI L s.cap s.its))).mono ?_
   rintro e w3 ⟨rfl, hs3⟩
   haveI := hs3.i
   go_wp2
   go_ret
   refine ⟨rfl, Sat.cache_shut (L := L) (PM := PM) HP.out ?_⟩
   unfold cacheA
   exact satI_eq (by ac_rfl)
end Go.Proofs.YteecnkneceemjaaGreat
