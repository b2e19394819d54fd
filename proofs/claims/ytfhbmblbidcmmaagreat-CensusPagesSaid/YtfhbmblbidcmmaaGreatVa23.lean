/-
  Of all versions the pages that are told are just those of their trees in the file in the form of the document, and a root that is none is refused. No condition. (part 23)
-/
import Derived.Test.YtfhbmblbidcmmaaGreatVa20
import Derived.Deep.RegionHeld3
import Derived.Test.YtfhbmblbidcmmaaGreatVa1
import Derived.Handy
set_option linter.unusedSimpArgs false
set_option linter.unusedVariables false
namespace Go.Proofs.YtfhbmblbidcmmaaGreat
set_option linter.unusedSimpArgs false
set_option linter.unusedVariables false
open Go.RowKit Go.Sl Go.Dk Go.Tr
attribute [local go_sem ↓] Go.wp_at_zero Go.wp_at_succ
attribute [local go_sem] Go.Sl.cell_sat Go.Sl.frozen_sat
theorem readsI (b : Nat) (ns : List Int) (hn : ns.length ≤ 1048576) : ReadsR 1 (Sl.block b TIn (ints ns)) (.slice (some ⟨b, 0, none⟩) ns.length ns.length) ns.length (ints ns) := by
 refine ⟨by simp [ints], _, _, rfl, Nat.le_refl _, by omega, fun j u hj => ⟨b, 0, rfl, ?_⟩⟩
 haveI : At (ints ns) j u := ⟨hj⟩
 rw [Nat.zero_add]
 infer_instance
section
variable (o : List UInt8) (a : Option Addr) (m c b : Nat) (F : Assn) (w : World)
theorem put1_any (x : Int) (hm : m = o.length) (hs : Sat (rw TB 1 (.slice a m c) (bys o) * (Sl.block b TIn [.int .i64 x] * F)) w) (ho : m ≤ 1048576) (h0 : 0 ≤ x) (hx : x < 256) :
 Calls Tryz.prog 233 #[.slice a m c, .int .i64 1, .slice (some ⟨b, 0, none⟩) 1 1] w fun e w' => ∃ a' c', e = .returned (.slice a' (m + 1) c') ∧ Sat (rw TB 1 (.slice a' (m + 1) c') (bys (o ++ leb x.toNat 1)) * (Sl.block b TIn [.int .i64 x] * F)) w' := by
 subst hm
 have e4 : n4 x = x.toNat := by unfold n4; rw [if_neg (by omega)]
 have h := ndPut_any o a c 1 [x] _ _ F w (readsI b [x] (by simp)) hs ho (by simp) (by omega) (by omega) (by intro n hn; simp at hn; subst hn; rw [e4]; omega)
 refine h.mono ?_
 rintro e w' ⟨a', c', rfl, h1⟩
 have e5 : o ++ nbs 1 [x] = o ++ leb x.toNat 1 := by simp [nbs, e4]
 have e6 : (o ++ nbs 1 [x]).length = o.length + 1 := by rw [List.length_append, nbs_len]; rfl
 rw [e6, e5] at h1
 exact ⟨a', c', by rw [e6], h1⟩
theorem put3_any (x y z : Int) (hm : m = o.length) (hs : Sat (rw TB 1 (.slice a m c) (bys o) * (Sl.block b TIn [.int .i64 x, .int .i64 y, .int .i64 z] * F)) w) (ho : m ≤ 1048576) (hx : -1 ≤ x ∧ x ≤ 16777216) (hy : -1 ≤ y ∧ y ≤ 16777216) (hz : -1 ≤ z ∧ z ≤ 16777216) :
 Calls Tryz.prog 233 #[.slice a m c, .int .i64 4, .slice (some ⟨b, 0, none⟩) 3 3] w fun e w' => ∃ a' c', e = .returned (.slice a' (m + 12) c') ∧ Sat (rw TB 1 (.slice a' (m + 12) c') (bys (o ++ (leb (n4 x) 4 ++ (leb (n4 y) 4 ++ leb (n4 z) 4)))) * (Sl.block b TIn [.int .i64 x, .int .i64 y, .int .i64 z] * F)) w' := by
 subst hm
 have h := ndPut_any o a c 4 [x, y, z] _ _ F w (readsI b [x, y, z] (by simp)) hs ho (by simp) (by omega) (by omega) (by
  intro n hn
  simp at hn
  rcases hn with rfl | rfl | rfl
  · exact ⟨hx.1, by omega, n4_lt (by omega)⟩
  · exact ⟨hy.1, by omega, n4_lt (by omega)⟩
  · exact ⟨hz.1, by omega, n4_lt (by omega)⟩)
 refine h.mono ?_
 rintro e w' ⟨a', c', rfl, h1⟩
 have e5 : nbs 4 [x, y, z] = leb (n4 x) 4 ++ (leb (n4 y) 4 ++ leb (n4 z) 4) := by simp [nbs]
 have e6 : (o ++ nbs 4 [x, y, z]).length = o.length + 12 := by rw [List.length_append, nbs_len]; rfl
 rw [e6, e5] at h1
 exact ⟨a', c', by rw [e6], h1⟩
theorem put4_any (x y z q : Int) (hm : m = o.length) (hs : Sat (rw TB 1 (.slice a m c) (bys o) * (Sl.block b TIn [.int .i64 x, .int .i64 y, .int .i64 z, .int .i64 q] * F)) w) (ho : m ≤ 1048576) (hx : -1 ≤ x ∧ x ≤ 16777216) (hy : -1 ≤ y ∧ y ≤ 16777216) (hz : -1 ≤ z ∧ z ≤ 16777216) (hq : -1 ≤ q ∧ q ≤ 16777216) :
 Calls Tryz.prog 233 #[.slice a m c, .int .i64 4, .slice (some ⟨b, 0, none⟩) 4 4] w fun e w' => ∃ a' c', e = .returned (.slice a' (m + 16) c') ∧ Sat (rw TB 1 (.slice a' (m + 16) c') (bys (o ++ (leb (n4 x) 4 ++ (leb (n4 y) 4 ++ (leb (n4 z) 4 ++ leb (n4 q) 4))))) * (Sl.block b TIn [.int .i64 x, .int .i64 y, .int .i64 z, .int .i64 q] * F)) w' := by
 subst hm
 have h := ndPut_any o a c 4 [x, y, z, q] _ _ F w (readsI b [x, y, z, q] (by simp)) hs ho (by simp) (by omega) (by omega) (by
  intro n hn
  simp at hn
  rcases hn with rfl | rfl | rfl | rfl
  · exact ⟨hx.1, by omega, n4_lt (by omega)⟩
  · exact ⟨hy.1, by omega, n4_lt (by omega)⟩
  · exact ⟨hz.1, by omega, n4_lt (by omega)⟩
  · exact ⟨hq.1, by omega, n4_lt (by omega)⟩)
 refine h.mono ?_
 rintro e w' ⟨a', c', rfl, h1⟩
 have e5 : nbs 4 [x, y, z, q] = leb (n4 x) 4 ++ (leb (n4 y) 4 ++ (leb (n4 z) 4 ++ leb (n4 q) 4)) := by simp [nbs]
 have e6 : (o ++ nbs 4 [x, y, z, q]).length = o.length + 16 := by rw [List.length_append, nbs_len]; rfl
 rw [e6, e5] at h1
 exact ⟨a', c', by rw [e6], h1⟩
end
theorem mayE_all {x : Ent} (h : mayEnt x = true) : (0 ≤ x.src ∧ x.src < 2) ∧ (0 ≤ x.pos ∧ x.pos ≤ 16777216) ∧ (1 ≤ x.len ∧ x.len ≤ 1048576) ∧ (-1 ≤ x.lines ∧ x.lines ≤ x.len) := by
 unfold mayEnt at h
 simp only [decide_eq_true_eq] at h
 omega
theorem mayK_all {x : Kd} (h : mayKid x = true) : (1 ≤ x.page ∧ x.page < 1048576) ∧ (1 ≤ x.bytes ∧ x.bytes ≤ 1048576) ∧ (-1 ≤ x.lines ∧ x.lines ≤ x.bytes) ∧ (1 ≤ x.scraps ∧ x.scraps ≤ x.bytes) := by
 unfold mayKid at h
 simp only [decide_eq_true_eq] at h
 omega
end Go.Proofs.YtfhbmblbidcmmaaGreat
namespace Go.Sl
class Sz (w : World) (n : outParam Nat) : Prop where
 out : w.heap.size = n
instance (priority := low) sz_self (w : World) : Sz w w.heap.size := ⟨rfl⟩
instance sz_alloc (w : World) (o : Obj) (n : Nat) [h : Sz w n] : Sz (w.alloc o) (n + 1) := ⟨by show (w.heap.push _).size = _; rw [Array.size_push, h.out]⟩
instance sz_drew (w : World) (n : Nat) [h : Sz w n] : Sz w.drew n := ⟨h.out⟩
instance sz_drewN (w : World) (n k : Nat) [h : Sz w n] : Sz (w.drewN k) n := ⟨h.out⟩
instance (priority := 20000) alloc_sz {A : Assn} {w : World} {c : Array Value} {t n : Nat} [h : SatI A w] [z : Sz w n] : SatI (Sl.block n t c.toList * A) (w.alloc (.cells c t)) := ⟨by
 have := h.out.alloc c t
 rwa [z.out] at this⟩
instance (priority := 21000) alloc_szl {A : Assn} {w : World} {l : List Value} {t n : Nat} [h : SatI A w] [z : Sz w n] : SatI (Sl.block n t l * A) (w.alloc (.cells l.toArray t)) := ⟨by
 have := h.out.alloc l.toArray t
 rwa [z.out] at this⟩
end Go.Sl
namespace Go.Proofs.YtfhbmblbidcmmaaGreat
set_option linter.unusedSimpArgs false
set_option linter.unusedVariables false
open Go.RowKit Go.Sl Go.Dk Go.Tr
attribute [local go_sem ↓] Go.wp_at_zero Go.wp_at_succ
attribute [local go_sem] Go.Sl.cell_sat Go.Sl.frozen_sat
def PackOut (B F : Assn) (r : Int × List UInt8 × Int) (e : Ending) (w' : World) : Prop := ∃ a c, e = .returned (.tuple #[.int .i64 r.1, .slice a r.2.1.length c, .int .i64 r.2.2]) ∧ Sat (rw TB 1 (.slice a r.2.1.length c) (bys r.2.1) * (B * F)) w'
set_option maxRecDepth 100000 in
set_option maxHeartbeats 1600000 in
theorem ndPack_leaf (es : List Ent) (n : Nat) (hn : es.length = n) (aE aK : Option Addr) (cE nK cK : Nat) (B F : Assn) (w : World) (hE : ReadsE B (.slice aE es.length cE) es) (hs : Sat (B * F) w) (h12 : n ≤ 12) (hme : ∀ x ∈ es, mayEnt x = true)
 (hmay : ∀ F w, Sat (B * F) w → Calls Tryz.prog 133 #[.agg #[.bool true, .slice aE n cE, .slice aK nK cK]] w fun e w' => e = .returned (.bool true) ∧ Sat (B * F) w') :
 Calls Tryz.prog 192 #[.agg #[.bool true, .slice aE n cE, .slice aK nK cK]] w (PackOut B F (1, leb n 1 ++ es.flatMap eb, 0)) := by
 have HE : Aside (ReadsE B (.slice aE es.length cE) es) := hE
 have HN : Aside (es.length = n) := hn
 have HME : Aside (∀ x ∈ es, mayEnt x = true) := hme
 haveI := hs.i
 clear hE hme hn
 go_enter Tryz.func192, Tryz.ntmps192
 go_wp2_with fail
 refine (hmay _ _ (takeI B)).mono ?_
 rintro e w1 ⟨rfl, q1⟩
 clear hs hmay
 obtain ⟨N, hN⟩ : ∃ N, w.heap.size = N := ⟨_, rfl⟩
 rw [hN] at q1 ⊢
 clear hN this
 haveI := q1.i
 go_wp2_with fail
 refine (put1_any [] none 0 0 w1.heap.size _ _ (n : Int) rfl (Sat.rw_nil (e := TB) (s := 1) (satI : Sat _ (w1.alloc (.cells #[.int .i64 n] TIn)))) (by simp) (by omega) (by omega)).mono ?_
 rintro e w3 ⟨a3, c3, rfl, q3⟩
 have q4 : Sat (rw TB 1 (.slice a3 1 c3) (bys (leb n 1)) * (B * (Sl.block N TNd [.bool true, .slice aE n cE, .slice aK nK cK] * F))) w3 := Sat.weak (B := Sl.block w1.heap.size TIn [.int .i64 n]) (q3.eq (by rw [Int.toNat_natCast]; show rw TB 1 (.slice a3 1 c3) (bys ([] ++ leb n 1)) * _ = _; rw [List.nil_append]; ac_rfl))
 clear q3 q1 this
 haveI := q4.i
 go_wp2_with fail
 go_loopg [3, 23] n (fun g t3 t23 wr => ∃ (i m : Nat) (o : List UInt8) (a2 : Option Addr) (c2 : Nat), t23 = .int .i64 i ∧ t3 = .slice a2 m c2 ∧ i ≤ n ∧ m ≤ 1048000 ∧ Aside (m = 1 + 13 * i ∧ m = o.length) ∧ Aside (g = n - i ∧ o = leb n 1 ++ (es.take i).flatMap eb) ∧
  Sat (rw TB 1 (.slice a2 m c2) (bys o) * (B * (Sl.block N TNd [.bool true, .slice aE n cE, .slice aK nK cK] * F))) wr)
 case atStart => exact ⟨0, 1, _, a3, c3, rfl, rfl, by omega, by omega, ⟨rfl, by rw [leb_len]⟩, ⟨rfl, by simp⟩, q4⟩
 case round =>
  obtain ⟨i, m, o, a2, c2, rfl, rfl, hi, hm, HM, A, hsr⟩ := hrel
  clear q4 this
  haveI := hsr.i
  by_cases hlt : i < n
  · have hlt' : (i : Int) < n := by omega
    obtain ⟨y, hy⟩ : ∃ y, es[i]? = some y := ⟨_, List.getElem?_eq_getElem (by rw [HN.out]; exact hlt)⟩
    obtain ⟨b, q, rfl, r1, r2, r3, r4⟩ := readsE_at HE.out hy
    obtain ⟨g1, g2, g3, g4⟩ := mayE_all (HME.out y (List.mem_of_getElem? hy))
    have HT : Aside (es.take (i + 1) = es.take i ++ [y]) := take_snoc' hy
    have HY : Aside (eb y = leb y.src.toNat 1 ++ (leb (n4 y.pos) 4 ++ (leb (n4 y.len) 4 ++ leb (n4 y.lines) 4))) := rfl
    obtain ⟨y1, y2, y3, y4⟩ := y
    simp only at g1 g2 g3 g4 r1 r2 r3 r4 HY
    clear hy
    have HP1 : Aside (∀ b F w, Sat (rw TB 1 (.slice a2 m c2) (bys o) * (Sl.block b TIn [.int .i64 y1] * F)) w → Calls Tryz.prog 233 #[.slice a2 m c2, .int .i64 1, .slice (some ⟨b, 0, none⟩) 1 1] w fun e w' => ∃ a' c', e = .returned (.slice a' (m + 1) c') ∧ Sat (rw TB 1 (.slice a' (m + 1) c') (bys (o ++ leb y1.toNat 1)) * (Sl.block b TIn [.int .i64 y1] * F)) w') :=
     fun b F w h => put1_any o a2 m c2 b F w y1 HM.out.2 h (by omega) (by omega) (by omega)
    have HP2 : Aside (∀ a c b F w, Sat (rw TB 1 (.slice a (m + 1) c) (bys (o ++ leb y1.toNat 1)) * (Sl.block b TIn [.int .i64 y2, .int .i64 y3, .int .i64 y4] * F)) w → Calls Tryz.prog 233 #[.slice a (m + 1) c, .int .i64 4, .slice (some ⟨b, 0, none⟩) 3 3] w fun e w' => ∃ a' c', e = .returned (.slice a' (m + 1 + 12) c') ∧ Sat (rw TB 1 (.slice a' (m + 1 + 12) c') (bys (o ++ leb y1.toNat 1 ++ (leb (n4 y2) 4 ++ (leb (n4 y3) 4 ++ leb (n4 y4) 4)))) * (Sl.block b TIn [.int .i64 y2, .int .i64 y3, .int .i64 y4] * F)) w') :=
     fun a c b F w h => put3_any (o ++ leb y1.toNat 1) a (m + 1) c b F w y2 y3 y4 (by rw [List.length_append, leb_len]; have := HM.out.2; omega) h (by omega) (by omega) (by omega) (by omega)
    clear g1 g2 g3 g4
    go_upto_region 8 with (fail)
    go_region_held3 (fun w' => w'.cell? ⟨wr.heap.size, 0, none⟩ = some (.int .i64 y1) ∧ w'.cell? ⟨wr.heap.size, 1, none⟩ = some (.int .i64 y2) ∧ w'.cell? ⟨wr.heap.size, 2, none⟩ = some (.int .i64 y3) ∧ w'.cell? ⟨wr.heap.size, 3, none⟩ = some (.int .i64 y4)) (exact ⟨cell_sat _ _ _, cell_sat _ _ _, cell_sat _ _ _, cell_sat _ _ _⟩) (first
     | (go_at_call 233; with_reducible refine Calls.mono (HP1.out _ _ _ (takeI2 _ _)) ?_; rintro e w6 ⟨a6, c6, rfl, hs6⟩; haveI := hs6.i)
     | (go_at_call 233; with_reducible refine Calls.mono (HP2.out _ _ _ _ _ (takeI2 _ _)) ?_; rintro e w7 ⟨a7, c7, rfl, hs7⟩; haveI := hs7.i))
    all_goals
     go_wp2_with fail
     go_roundg (n - (i + 1))
     case measure => have := A.out.1; omega
     case rel =>
      refine ⟨i + 1, m + 1 + 12, o ++ leb y1.toNat 1 ++ (leb (n4 y2) 4 ++ (leb (n4 y3) 4 ++ leb (n4 y4) 4)), a7, c7, by go_num, rfl, by omega, by have := HM.out.1; omega, ⟨by have := HM.out.1; omega, by have := HM.out.2; simp [leb_len]; omega⟩, ⟨rfl, ?_⟩, keep4 _ _ _ _⟩
      rw [HT.out, List.flatMap_append, ← List.append_assoc (leb n 1), ← A.out.2]
      simp [HY.out]
  · have hlt' : ¬ (i : Int) < n := by omega
    obtain rfl : i = n := by omega
    have HO : Aside (o = leb i 1 ++ es.flatMap eb) := (by rw [A.out.2, List.take_of_length_le (by rw [HN.out]; exact Nat.le_refl _)] : _ = _)
    go_wp2
    go_ret3
    refine ⟨a2, c2, ?_, ?_⟩
    · simp only [PackOut]
      rw [← HO.out, ← HM.out.2]
      rfl
    · show Sat (rw TB 1 (.slice a2 (leb i 1 ++ es.flatMap eb).length c2) (bys (leb i 1 ++ es.flatMap eb)) * (B * F)) wr
      rw [← HO.out, ← HM.out.2]
      exact keep3 _ _ _
set_option maxRecDepth 100000 in
set_option maxHeartbeats 1600000 in
theorem ndPack_inner (es : List Kd) (n : Nat) (hn : es.length = n) (aE aK : Option Addr) (cE nE cK : Nat) (B F : Assn) (w : World) (hE : ReadsK B (.slice aK es.length cK) es) (hs : Sat (B * F) w) (h12 : n ≤ 12) (hme : ∀ x ∈ es, mayKid x = true)
 (hmay : ∀ F w, Sat (B * F) w → Calls Tryz.prog 133 #[.agg #[.bool false, .slice aE nE cE, .slice aK n cK]] w fun e w' => e = .returned (.bool true) ∧ Sat (B * F) w') :
 Calls Tryz.prog 192 #[.agg #[.bool false, .slice aE nE cE, .slice aK n cK]] w (PackOut B F (2, leb n 1 ++ es.flatMap kb, 0)) := by
 have HE : Aside (ReadsK B (.slice aK es.length cK) es) := hE
 have HN : Aside (es.length = n) := hn
 have HME : Aside (∀ x ∈ es, mayKid x = true) := hme
 haveI := hs.i
 clear hE hme hn
 go_enter Tryz.func192, Tryz.ntmps192
 go_wp2_with fail
 refine (hmay _ _ (takeI B)).mono ?_
 rintro e w1 ⟨rfl, q1⟩
 clear hs hmay
 obtain ⟨N, hN⟩ : ∃ N, w.heap.size = N := ⟨_, rfl⟩
 rw [hN] at q1 ⊢
 clear hN this
 haveI := q1.i
 go_wp2_with fail
 refine (put1_any [] none 0 0 w1.heap.size _ _ (n : Int) rfl (Sat.rw_nil (e := TB) (s := 1) (satI : Sat _ (w1.alloc (.cells #[.int .i64 n] TIn)))) (by simp) (by omega) (by omega)).mono ?_
 rintro e w3 ⟨a3, c3, rfl, q3⟩
 have q4 : Sat (rw TB 1 (.slice a3 1 c3) (bys (leb n 1)) * (B * (Sl.block N TNd [.bool false, .slice aE nE cE, .slice aK n cK] * F))) w3 := Sat.weak (B := Sl.block w1.heap.size TIn [.int .i64 n]) (q3.eq (by rw [Int.toNat_natCast]; show rw TB 1 (.slice a3 1 c3) (bys ([] ++ leb n 1)) * _ = _; rw [List.nil_append]; ac_rfl))
 clear q3 q1 this
 haveI := q4.i
 go_wp2_with fail
 go_loopg [3, 54] n (fun g t3 t23 wr => ∃ (i m : Nat) (o : List UInt8) (a2 : Option Addr) (c2 : Nat), t23 = .int .i64 i ∧ t3 = .slice a2 m c2 ∧ i ≤ n ∧ m ≤ 1048000 ∧ Aside (m = 1 + 16 * i ∧ m = o.length) ∧ Aside (g = n - i ∧ o = leb n 1 ++ (es.take i).flatMap kb) ∧
  Sat (rw TB 1 (.slice a2 m c2) (bys o) * (B * (Sl.block N TNd [.bool false, .slice aE nE cE, .slice aK n cK] * F))) wr)
 case atStart => exact ⟨0, 1, _, a3, c3, rfl, rfl, by omega, by omega, ⟨rfl, by rw [leb_len]⟩, ⟨rfl, by simp⟩, q4⟩
 case round =>
  obtain ⟨i, m, o, a2, c2, rfl, rfl, hi, hm, HM, A, hsr⟩ := hrel
  clear q4 this
  haveI := hsr.i
  by_cases hlt : i < n
  · have hlt' : (i : Int) < n := by omega
    obtain ⟨y, hy⟩ : ∃ y, es[i]? = some y := ⟨_, List.getElem?_eq_getElem (by rw [HN.out]; exact hlt)⟩
    obtain ⟨b, q, rfl, r1, r2, r3, r4⟩ := readsK_at HE.out hy
    obtain ⟨g1, g2, g3, g4⟩ := mayK_all (HME.out y (List.mem_of_getElem? hy))
    have HT : Aside (es.take (i + 1) = es.take i ++ [y]) := take_snoc' hy
    have HY : Aside (kb y = leb (n4 y.page) 4 ++ (leb (n4 y.bytes) 4 ++ (leb (n4 y.lines) 4 ++ leb (n4 y.scraps) 4))) := rfl
    obtain ⟨y1, y2, y3, y4⟩ := y
    simp only at g1 g2 g3 g4 r1 r2 r3 r4 HY
    clear hy
    have HP2 : Aside (∀ b F w, Sat (rw TB 1 (.slice a2 m c2) (bys o) * (Sl.block b TIn [.int .i64 y1, .int .i64 y2, .int .i64 y3, .int .i64 y4] * F)) w → Calls Tryz.prog 233 #[.slice a2 m c2, .int .i64 4, .slice (some ⟨b, 0, none⟩) 4 4] w fun e w' => ∃ a' c', e = .returned (.slice a' (m + 16) c') ∧ Sat (rw TB 1 (.slice a' (m + 16) c') (bys (o ++ (leb (n4 y1) 4 ++ (leb (n4 y2) 4 ++ (leb (n4 y3) 4 ++ leb (n4 y4) 4))))) * (Sl.block b TIn [.int .i64 y1, .int .i64 y2, .int .i64 y3, .int .i64 y4] * F)) w') :=
     fun b F w h => put4_any o a2 m c2 b F w y1 y2 y3 y4 HM.out.2 h (by omega) (by omega) (by omega) (by omega) (by omega)
    clear g1 g2 g3 g4
    go_wp2_with fail
    refine Calls.mono (HP2.out _ _ _ (takeI2 _ (Sl.block _ TIn _))) ?_
    rintro e w7 ⟨a7, c7, rfl, hs7⟩
    haveI := hs7.i
    go_wp2_with fail
    go_roundg (n - (i + 1))
    case measure => have := A.out.1; omega
    case rel =>
     refine ⟨i + 1, m + 16, o ++ (leb (n4 y1) 4 ++ (leb (n4 y2) 4 ++ (leb (n4 y3) 4 ++ leb (n4 y4) 4))), a7, c7, by go_num, rfl, by omega, by have := HM.out.1; omega, ⟨by have := HM.out.1; omega, by have := HM.out.2; simp [leb_len]; omega⟩, ⟨rfl, ?_⟩, keep4 _ _ _ _⟩
     rw [HT.out, List.flatMap_append, ← List.append_assoc (leb n 1), ← A.out.2]
     simp [HY.out]
  · have hlt' : ¬ (i : Int) < n := by omega
    obtain rfl : i = n := by omega
    have HO : Aside (o = leb i 1 ++ es.flatMap kb) := (by rw [A.out.2, List.take_of_length_le (by rw [HN.out]; exact Nat.le_refl _)] : _ = _)
    go_wp2
    go_ret3
    refine ⟨a2, c2, ?_, ?_⟩
    · simp only [PackOut]
      rw [← HO.out, ← HM.out.2]
      rfl
    · show Sat (rw TB 1 (.slice a2 (leb i 1 ++ es.flatMap kb).length c2) (bys (leb i 1 ++ es.flatMap kb)) * (B * F)) wr
      rw [← HO.out, ← HM.out.2]
      exact keep3 _ _ _
theorem may_len {n : Nd} (h : may n = true) : n.ents.length ≤ 12 ∧ n.kids.length ≤ 12 := by
 unfold may at h
 split at h
 · cases h
 · rename_i h1
   split at h
   · cases h
   · rename_i h2
     simp only [decide_eq_true_eq] at h
     cases hl : n.leaf with
     | true =>
       rw [hl] at h h2
       simp only [if_true] at h
       have : n.kids = [] := by
        cases hk : n.kids with
        | nil => rfl
        | cons k l => rw [hk] at h2; simp at h2
       rw [this]
       exact ⟨h.2.1, by simp⟩
     | false =>
       rw [hl] at h h1
       simp only [Bool.false_eq_true, if_false] at h
       have : n.ents = [] := by
        cases hk : n.ents with
        | nil => rfl
        | cons k l => rw [hk] at h1; simp at h1
       rw [this]
       exact ⟨by simp, h.2.1⟩
theorem may_facts {n : Nd} (h : may n = true) : (∀ x ∈ n.ents, n.leaf = true ∧ mayEnt x = true) ∧ (∀ x ∈ n.kids, n.leaf = false ∧ mayKid x = true) := by
 constructor
 · intro x hx
   cases h1 : n.leaf with
   | false => rw [may_badE hx (.inl h1)] at h; cases h
   | true =>
     cases h2 : mayEnt x with
     | true => exact ⟨rfl, rfl⟩
     | false => rw [may_badE hx (.inr h2)] at h; cases h
 · intro x hx
   cases h1 : n.leaf with
   | true => rw [may_badK hx (.inl h1)] at h; cases h
   | false =>
     cases h2 : mayKid x with
     | true => exact ⟨rfl, rfl⟩
     | false => rw [may_badK hx (.inr h2)] at h; cases h
set_option maxHeartbeats 800000 in
theorem ndPack_any (n : Nd) (v : Value) (B F : Assn) (w : World) (hN : ReadsN B v n) (hs : Sat (B * F) w) (hle : n.ents.length ≤ 4294967296) (hlk : n.kids.length ≤ 4294967296) :
 Calls Tryz.prog 192 #[v] w (PackOut B F (ndPack n)) := by
 have hmay := fun F w h => may_any n v B F w hN h hle hlk
 obtain ⟨vE, vK, rfl, hE, hK⟩ := hN
 obtain ⟨aE, cE, rfl, hE1, hE2⟩ := hE.v
 obtain ⟨aK, cK, rfl, hK1, hK2⟩ := hK.v
 unfold ndPack
 cases hm : may n with
 | false =>
   rw [if_pos rfl]
   rw [hm] at hmay
   haveI := hs.i
   clear hE hK hm
   go_enter Tryz.func192, Tryz.ntmps192
   go_wp2_with fail
   refine (hmay _ _ (takeI B)).mono ?_
   rintro e w1 ⟨rfl, q1⟩
   haveI := q1.i
   go_wp2
   go_ret3
   exact ⟨none, 0, rfl, by simpa [bys] using (keep2 B F).rw_nil⟩
 | true =>
   rw [if_neg (by simp)]
   rw [hm] at hmay
   obtain ⟨f1, f2⟩ := may_facts hm
   obtain ⟨l1, l2⟩ : n.ents.length ≤ 12 ∧ n.kids.length ≤ 12 := may_len hm
   cases hl : n.leaf with
   | true =>
     rw [hl] at hmay
     exact ndPack_leaf n.ents _ rfl aE aK cE _ cK B F w hE hs l1 (fun x hx => (f1 x hx).2) hmay
   | false =>
     rw [hl] at hmay
     exact ndPack_inner n.kids _ rfl aE aK cE _ cK B F w hK hs l2 (fun x hx => (f2 x hx).2) hmay
end Go.Proofs.YtfhbmblbidcmmaaGreat
