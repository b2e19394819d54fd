/-
  Of any pages in a file a root is found to be a tree just if it is one in the form of the document. No condition. (part 28)
-/
import Derived.Test.YtfhbmblbidcmmaaGreatRk25
import Derived.Deep.RegionHeld3
import Derived.Test.YtfhbmblbidcmmaaGreatRk1
set_option linter.unusedSimpArgs false
set_option linter.unusedVariables false
namespace Go.Proofs.YtfhbmblbidcmmaaGreat
set_option linter.unusedSimpArgs false
set_option linter.unusedVariables false
open Go.RowKit Go.Sl Go.Dk Go.Tr
attribute [local go_sem ↓] Go.wp_at_zero Go.wp_at_succ
attribute [local go_sem] Go.Sl.cell_sat Go.Sl.frozen_sat
theorem readsI (b : Nat) (ns : List Int) (hn : ns.length ≤ 1048576) : ReadsR 1 (Sl.block b TIn (ints ns)) (.slice (some ⟨b, 0, none⟩) ns.length ns.length) ns.length (ints ns) := by
 refine ⟨by simp [ints], _, _, rfl, Nat.le_refl _, by omega, fun j u hj => ⟨b, 0, rfl, ?_⟩⟩
 haveI : At (ints ns) j u := ⟨hj⟩
 rw [Nat.zero_add]
 infer_instance
section
variable (o : List UInt8) (a : Option Addr) (m c b : Nat) (F : Assn) (w : World)
theorem put1_any (x : Int) (hm : m = o.length) (hs : Sat (rw TB 1 (.slice a m c) (bys o) * (Sl.block b TIn [.int .i64 x] * F)) w) (ho : m ≤ 1048576) (h0 : 0 ≤ x) (hx : x < 256) :
 Calls Tryz.prog 233 #[.slice a m c, .int .i64 1, .slice (some ⟨b, 0, none⟩) 1 1] w fun e w' => ∃ a' c', e = .returned (.slice a' (m + 1) c') ∧ Sat (rw TB 1 (.slice a' (m + 1) c') (bys (o ++ leb x.toNat 1)) * (Sl.block b TIn [.int .i64 x] * F)) w' := by
 subst hm
 have e4 : n4 x = x.toNat := by unfold n4; rw [if_neg (by omega)]
 have h := ndPut_any o a c 1 [x] _ _ F w (readsI b [x] (by simp)) hs ho (by simp) (by omega) (by omega) (by intro n hn; simp at hn; subst hn; rw [e4]; omega)
 refine h.mono ?_
 rintro e w' ⟨a', c', rfl, h1⟩
 have e5 : o ++ nbs 1 [x] = o ++ leb x.toNat 1 := by simp [nbs, e4]
 have e6 : (o ++ nbs 1 [x]).length = o.length + 1 := by rw [List.length_append, nbs_len]; rfl
 rw [e6, e5] at h1
 exact ⟨a', c', by rw [e6], h1⟩
theorem put3_any (x y z : Int) (hm : m = o.length) (hs : Sat (rw TB 1 (.slice a m c) (bys o) * (Sl.block b TIn [.int .i64 x, .int .i64 y, .int .i64 z] * F)) w) (ho : m ≤ 1048576) (hx : -1 ≤ x ∧ x ≤ 16777216) (hy : -1 ≤ y ∧ y ≤ 16777216) (hz : -1 ≤ z ∧ z ≤ 16777216) :
 Calls Tryz.prog 233 #[.slice a m c, .int .i64 4, .slice (some ⟨b, 0, none⟩) 3 3] w fun e w' => ∃ a' c', e = .returned (.slice a' (m + 12) c') ∧ Sat (rw TB 1 (.slice a' (m + 12) c') (bys (o ++ (leb (n4 x) 4 ++ (leb (n4 y) 4 ++ leb (n4 z) 4)))) * (Sl.block b TIn [.int .i64 x, .int .i64 y, .int .i64 z] * F)) w' := by
 subst hm
 have h := ndPut_any o a c 4 [x, y, z] _ _ F w (readsI b [x, y, z] (by simp)) hs ho (by simp) (by omega) (by omega) (by
  intro n hn
  simp at hn
  rcases hn with rfl | rfl | rfl
  · exact ⟨hx.1, by omega, n4_lt (by omega)⟩
  · exact ⟨hy.1, by omega, n4_lt (by omega)⟩
  · exact ⟨hz.1, by omega, n4_lt (by omega)⟩)
 refine h.mono ?_
 rintro e w' ⟨a', c', rfl, h1⟩
 have e5 : nbs 4 [x, y, z] = leb (n4 x) 4 ++ (leb (n4 y) 4 ++ leb (n4 z) 4) := by simp [nbs]
 have e6 : (o ++ nbs 4 [x, y, z]).length = o.length + 12 := by rw [List.length_append, nbs_len]; rfl
 rw [e6, e5] at h1
 exact ⟨a', c', by rw [e6], h1⟩
theorem put4_any (x y z q : Int) (hm : m = o.length) (hs : Sat (rw TB 1 (.slice a m c) (bys o) * (Sl.block b TIn [.int .i64 x, .int .i64 y, .int .i64 z, .int .i64 q] * F)) w) (ho : m ≤ 1048576) (hx : -1 ≤ x ∧ x ≤ 16777216) (hy : -1 ≤ y ∧ y ≤ 16777216) (hz : -1 ≤ z ∧ z ≤ 16777216) (hq : -1 ≤ q ∧ q ≤ 16777216) :
 Calls Tryz.prog 233 #[.slice a m c, .int .i64 4, .slice (some ⟨b, 0, none⟩) 4 4] w fun e w' => ∃ a' c', e = .returned (.slice a' (m + 16) c') ∧ Sat (rw TB 1 (.slice a' (m + 16) c') (bys (o ++ (leb (n4 x) 4 ++ (leb (n4 y) 4 ++ (leb (n4 z) 4 ++ leb (n4 q) 4))))) * (Sl.block b TIn [.int .i64 x, .int .i64 y, .int .i64 z, .int .i64 q] * F)) w' := by
 subst hm
 have h := ndPut_any o a c 4 [x, y, z, q] _ _ F w (readsI b [x, y, z, q] (by simp)) hs ho (by simp) (by omega) (by omega) (by
  intro n hn
  simp at hn
  rcases hn with rfl | rfl | rfl | rfl
  · exact ⟨hx.1, by omega, n4_lt (by omega)⟩
  · exact ⟨hy.1, by omega, n4_lt (by omega)⟩
  · exact ⟨hz.1, by omega, n4_lt (by omega)⟩
  · exact ⟨hq.1, by omega, n4_lt (by omega)⟩)
 refine h.mono ?_
 rintro e w' ⟨a', c', rfl, h1⟩
 have e5 : nbs 4 [x, y, z, q] = leb (n4 x) 4 ++ (leb (n4 y) 4 ++ (leb (n4 z) 4 ++ leb (n4 q) 4)) := by simp [nbs]
 have e6 : (o ++ nbs 4 [x, y, z, q]).length = o.length + 16 := by rw [List.length_append, nbs_len]; rfl
 rw [e6, e5] at h1
 exact ⟨a', c', by rw [e6], h1⟩
end
theorem mayE_all {x : Ent} (h : mayEnt x = true) : (0 ≤ x.src ∧ x.src < 2) ∧ (0 ≤ x.pos ∧ x.pos ≤ 16777216) ∧ (1 ≤ x.len ∧ x.len ≤ 1048576) ∧ (-1 ≤ x.lines ∧ x.lines ≤ x.len) := by
 unfold mayEnt at h
 simp only [decide_eq_true_eq] at h
 omega
theorem mayK_all {x : Kd} (h : mayKid x = true) : (1 ≤ x.page ∧ x.page < 1048576) ∧ (1 ≤ x.bytes ∧ x.bytes ≤ 1048576) ∧ (-1 ≤ x.lines ∧ x.lines ≤ x.bytes) ∧ (1 ≤ x.scraps ∧ x.scraps ≤ x.bytes) := by
 unfold mayKid at h
 simp only [decide_eq_true_eq] at h
 omega
end Go.Proofs.YtfhbmblbidcmmaaGreat
namespace Go.Sl
class Sz (w : World) (n : outParam Nat) : Prop where
 out : w.heap.size = n
instance (priority := low) sz_self (w : World) : Sz w w.heap.size := ⟨rfl⟩
instance sz_alloc (w : World) (o : Obj) (n : Nat) [h : Sz w n] : Sz (w.alloc o) (n + 1) := ⟨by show (w.heap.push _).size = _; rw [Array.size_push, h.out]⟩
instance sz_drew (w : World) (n : Nat) [h : Sz w n] : Sz w.drew n := ⟨h.out⟩
instance sz_drewN (w : World) (n k : Nat) [h : Sz w n] : Sz (w.drewN k) n := ⟨h.out⟩
instance (priority := 20000) alloc_sz {A : Assn} {w : World} {c : Array Value} {t n : Nat} [h : SatI A w] [z : Sz w n] : SatI (Sl.block n t c.toList * A) (w.alloc (.cells c t)) := ⟨by
 have := h.out.alloc c t
 rwa [z.out] at this⟩
instance (priority := 21000) alloc_szl {A : Assn} {w : World} {l : List Value} {t n : Nat} [h : SatI A w] [z : Sz w n] : SatI (Sl.block n t l * A) (w.alloc (.cells l.toArray t)) := ⟨by
 have := h.out.alloc l.toArray t
 rwa [z.out] at this⟩
end Go.Sl
