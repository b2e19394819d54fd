/-
  Of any pages in a file a root is found to be a tree just if it is one in the form of the document. No condition. (part 51)
-/
import Derived.Test.YtfhbmblbidcmmaaGreatRk35
import Derived.BigQuiet
import Derived.IntWalk
import Derived.Test.YtfhbmblbidcmmaaGreatRk39
import Derived.Test.YtfhbmblbidcmmaaGreatRk11
import Derived.Test.YtfhbmblbidcmmaaGreatRk50
import Derived.Test.YtfhbmblbidcmmaaGreatRk33
import Derived.Test.YtfhbmblbidcmmaaGreatRk36
import Derived.Deep.RegionLaw
import Derived.Deep.RegionHeld3
set_option linter.unusedSimpArgs false
set_option linter.unusedVariables false
namespace Go.Tr
end Go.Tr
namespace Go.Proofs.YtfhbmblbidcmmaaGreat
set_option linter.unusedSimpArgs false
set_option linter.unusedVariables false
open Go.RowKit Go.Sl Go.Dk Go.Tr
attribute [local go_sem ↓] Go.wp_at_zero Go.wp_at_succ
attribute [local go_sem] Go.Sl.cell_sat Go.Sl.frozen_sat
end Go.Proofs.YtfhbmblbidcmmaaGreat
namespace Go.Proofs.YtfhbmblbidcmmaaGreat
set_option linter.unusedSimpArgs false
set_option linter.unusedVariables false
open Go.RowKit Go.Sl Go.Dk Go.Tr
attribute [local go_sem ↓] Go.wp_at_zero Go.wp_at_succ
attribute [local go_sem] Go.Sl.cell_sat Go.Sl.frozen_sat
def rOk (x : Ent) : Prop := (x.src = 0 ∨ x.src = 1) ∧ 0 ≤ x.pos ∧ 1 ≤ x.len ∧ x.pos ≤ 16777216 ∧ x.len ≤ 16777216 ∧ x.pos + x.len ≤ 16777216 ∧ -1 ≤ x.lines ∧ x.lines ≤ x.len ∧ (x.src = 1 ∨ x.lines = -1)
theorem rOk_may {x : Ent} : mayEnt x = true ↔ rOk x ∧ x.len ≤ 1048576 := by
 rw [mayE_iff]
 unfold rOk
 omega
theorem rOk_not {x : Ent} (h : ¬ rOk x) : mayEnt x = false := by
 cases hm : mayEnt x with
 | false => rfl
 | true => exact absurd (rOk_may.1 hm).1 h
theorem rleaf_good {l : List Ent} (h : ∀ x ∈ l, rOk x) (h1 : 1 ≤ l.length) (h2 : l.length ≤ 12) : may ⟨true, l, []⟩ = decide (eBytes l ≤ 1048576) := by
 by_cases hb : eBytes l ≤ 1048576
 · have hm : ∀ x ∈ l, mayEnt x = true := fun x hx => rOk_may.2 ⟨h x hx, by
    have := (okE_len (o := l) fun y hy => by have := h y hy; unfold rOk at this; unfold OkE; omega).2 x hx
    omega⟩
   rw [may_good (fun x hx => ⟨rfl, hm x hx⟩) (fun x hx => by cases hx), decide_eq_true hb]
   simp [kBytes, kScraps]
   omega
 · rw [decide_eq_false hb]
   by_cases hm : ∀ x ∈ l, mayEnt x = true
   · rw [may_good (fun x hx => ⟨rfl, hm x hx⟩) (fun x hx => by cases hx)]
     simp [kBytes, kScraps]
     omega
   · obtain ⟨x, hx, he⟩ : ∃ x ∈ l, mayEnt x = false := by
      rcases Classical.em (∃ x ∈ l, mayEnt x = false) with h | h
      · exact h
      · exfalso; apply hm; intro x hx
        cases hq : mayEnt x with
        | true => rfl
        | false => exact absurd ⟨x, hx, hq⟩ h
     exact may_badE hx (.inr he)
set_option maxRecDepth 100000 in
set_option maxHeartbeats 3200000 in
theorem r13may_leafG (ka : Option Addr) (kc : Nat) (es : List Ent) (a : Option Addr) (c : Nat) (B F : Assn) (w : World) (hE : ReadsE B (.slice a es.length c) es) (hs : Sat (B * F) w) :
 Calls Tryz.prog 64 #[.agg #[.bool true, .slice a es.length c, .slice ka 0 kc]] w fun e w' => e = .returned (.bool (may ⟨true, es, []⟩)) ∧ Sat (B * F) w' := by
 have HE : Aside (ReadsE B (.slice a es.length c) es) := hE
 obtain ⟨mr, hmr⟩ : ∃ r, may ⟨true, es, []⟩ = r := ⟨_, rfl⟩
 have HR : Aside (may ⟨true, es, []⟩ = mr) := hmr
 rw [hmr]
 obtain ⟨n, hn⟩ : ∃ n, es.length = n := ⟨_, rfl⟩
 have HN : Aside (es.length = n) := hn
 rw [hn] at hE ⊢
 clear hE hmr hn
 haveI := hs.i
 by_cases h1 : n < 1
 · have hz : n = 0 := by omega
   have HF : Aside (mr = false) := (by
    have : es = [] := List.length_eq_zero_iff.1 (by rw [HN.out, hz])
    rw [← HR.out, this]; rfl : _ = _)
   subst hz
   go_enter Tryz.func64, Tryz.ntmps64
   go_wp2
   go_ret
   exact ⟨by rw [HF.out]; rfl, keep2 B F⟩
 by_cases h2 : 12 < n
 · have HF : Aside (mr = false) := (by
    rw [← HR.out]
    by_cases hm : ∀ x ∈ es, mayEnt x = true
    · rw [may_good (fun x hx => ⟨rfl, hm x hx⟩) (fun x hx => by cases hx)]
      have := HN.out
      simp [kBytes, kScraps]
      omega
    · obtain ⟨x, hx, he⟩ : ∃ x ∈ es, mayEnt x = false := by
       rcases Classical.em (∃ x ∈ es, mayEnt x = false) with h | h
       · exact h
       · exfalso; apply hm; intro x hx
         cases hq : mayEnt x with
         | true => rfl
         | false => exact absurd ⟨x, hx, hq⟩ h
      exact may_badE hx (.inr he) : _ = _)
   have h1i : ¬ (n : Int) < 1 := by omega
   have h2i : (12 : Int) < n := by omega
   go_enter Tryz.func64, Tryz.ntmps64
   go_wp2
   go_ret
   exact ⟨by rw [HF.out]; rfl, keep2 B F⟩
 have h1i : ¬ (n : Int) < 1 := by omega
 have h2i : ¬ (12 : Int) < n := by omega
 go_enter Tryz.func64, Tryz.ntmps64
 go_wp2_with fail
 obtain ⟨N, hN⟩ : ∃ N, w.heap.size = N := ⟨_, rfl⟩
 have q0 : Sat (Sl.block N TNd [.bool true, .slice a n c, .slice ka 0 kc] * (B * F)) (w.alloc (.cells #[.bool true, .slice a n c, .slice ka 0 kc] TNd)) := by
  rw [← hN]
  exact satI
 try rw [hN]
 generalize w.alloc (.cells #[.bool true, .slice a n c, .slice ka 0 kc] TNd) = w0 at q0 ⊢
 clear hN hs this
 go_loopg [3, 4] n (fun g t3 t4 wr => ∃ (i : Nat) (su : Int), t4 = .int .i64 i ∧ t3 = .int .i64 su ∧ i ≤ n ∧ 0 ≤ su ∧ su ≤ i * 16777216 ∧ Aside (g = n - i ∧ su = eBytes (es.take i) ∧ ∀ x ∈ es.take i, rOk x) ∧
  Sat (Sl.block N TNd [.bool true, .slice a n c, .slice ka 0 kc] * (B * F)) wr)
 case atStart => exact ⟨0, 0, rfl, rfl, by omega, by omega, by omega, ⟨rfl, by simp [eBytes], by simp⟩, q0⟩
 case round =>
  obtain ⟨i, su, rfl, rfl, hi, hs0, hs1, A, q1⟩ := hrel
  clear q0
  haveI := q1.i
  by_cases hlt : i < n
  · have hlt' : (i : Int) < n := by omega
    obtain ⟨x, hx⟩ : ∃ x, es[i]? = some x := ⟨_, List.getElem?_eq_getElem (by rw [HN.out]; exact hlt)⟩
    obtain ⟨b, o, rfl, r1, r2, r3, r4⟩ := readsE_at HE.out hx
    have HX : Aside (es[i]? = some x) := hx
    obtain ⟨x1, x2, x3, x4⟩ := x
    simp only at r1 r2 r3 r4
    have HBAD : Aside (¬ rOk ⟨x1, x2, x3, x4⟩ → mr = false) := fun h => HR.out.symm.trans (may_badE (List.mem_of_getElem? HX.out) (.inr (rOk_not h)))
    clear hx
    by_cases hok : rOk ⟨x1, x2, x3, x4⟩
    · have HK : Aside (rOk ⟨x1, x2, x3, x4⟩) := hok
      unfold rOk at hok
      simp only at hok
      obtain ⟨k1, k2, k3, k4, k5, k6, k7, k8, k9⟩ := hok
      have hw2 : IntKind.i64.wrap (su + x3) = su + x3 := IntWalk.i64_in _ (by omega)
      have hw1 : IntKind.i64.wrap (x2 + x3) = x2 + x3 := IntWalk.i64_in _ (by omega)
      have d1 : decide (x2 < 0) = false := decide_eq_false (by omega)
      have d2 : decide (x3 < 1) = false := decide_eq_false (by omega)
      have d3 : decide (16777216 < x2) = false := decide_eq_false (by omega)
      have d4 : decide (16777216 < x3) = false := decide_eq_false (by omega)
      have d5 : decide (16777216 < x2 + x3) = false := decide_eq_false (by omega)
      have d6 : decide (x4 < -1) = false := decide_eq_false (by omega)
      have d7 : decide (x3 < x4) = false := decide_eq_false (by omega)
      rcases k1 with k1 | k1
      · obtain rfl : x4 = -1 := by omega
        subst k1
        clear k9
        go_wp2_with fail
        go_region_held3 (fun w' => w'.cell? ⟨N, 1, none⟩ = some (.slice (some ⟨b, o, none⟩) n c) ∧ w'.cell? ⟨b, o + i * 4, none⟩ = some (.int .i64 0) ∧ w'.cell? ⟨b, o + i * 4 + 1, none⟩ = some (.int .i64 x2) ∧ w'.cell? ⟨b, o + i * 4 + 2, none⟩ = some (.int .i64 x3) ∧ w'.cell? ⟨b, o + i * 4 + 3, none⟩ = some (.int .i64 (-1))) (first | exact ⟨cell_sat _ _ _, cell_sat _ _ _, cell_sat _ _ _, cell_sat _ _ _, cell_sat _ _ _⟩) (fail)
        go_wp2
        go_roundg (n - (i + 1))
        case measure => have := A.out.1; omega
        case rel =>
         refine ⟨i + 1, su + x3, by go_num, rfl, by omega, by omega, by omega, ⟨rfl, ?_, ?_⟩, keep3 _ B F⟩
         · rw [eBytes_snoc HX.out, A.out.2.1]
         · rw [take_snoc' HX.out]
           intro y hy
           rcases List.mem_append.1 hy with hy | hy
           · exact A.out.2.2 y hy
           · simp at hy; subst hy; exact HK.out
      · subst k1
        clear k9
        go_wp2_with fail
        go_region_held3 (fun w' => w'.cell? ⟨N, 1, none⟩ = some (.slice (some ⟨b, o, none⟩) n c) ∧ w'.cell? ⟨b, o + i * 4, none⟩ = some (.int .i64 1) ∧ w'.cell? ⟨b, o + i * 4 + 1, none⟩ = some (.int .i64 x2) ∧ w'.cell? ⟨b, o + i * 4 + 2, none⟩ = some (.int .i64 x3) ∧ w'.cell? ⟨b, o + i * 4 + 3, none⟩ = some (.int .i64 x4)) (first | exact ⟨cell_sat _ _ _, cell_sat _ _ _, cell_sat _ _ _, cell_sat _ _ _, cell_sat _ _ _⟩) (fail)
        go_wp2
        go_roundg (n - (i + 1))
        case measure => have := A.out.1; omega
        case rel =>
         refine ⟨i + 1, su + x3, by go_num, rfl, by omega, by omega, by omega, ⟨rfl, ?_, ?_⟩, keep3 _ B F⟩
         · rw [eBytes_snoc HX.out, A.out.2.1]
         · rw [take_snoc' HX.out]
           intro y hy
           rcases List.mem_append.1 hy with hy | hy
           · exact A.out.2.2 y hy
           · simp at hy; subst hy; exact HK.out
    · have HF : Aside (mr = false) := HBAD.out hok
      have HO : Aside (¬ rOk ⟨x1, x2, x3, x4⟩) := hok
      clear hok HBAD
      go_wp2_with fail
      go_region_held3 (fun w' => w'.cell? ⟨N, 1, none⟩ = some (.slice (some ⟨b, o, none⟩) n c) ∧ w'.cell? ⟨b, o + i * 4, none⟩ = some (.int .i64 x1) ∧ w'.cell? ⟨b, o + i * 4 + 1, none⟩ = some (.int .i64 x2) ∧ w'.cell? ⟨b, o + i * 4 + 2, none⟩ = some (.int .i64 x3) ∧ w'.cell? ⟨b, o + i * 4 + 3, none⟩ = some (.int .i64 x4)) (first | exact ⟨cell_sat _ _ _, cell_sat _ _ _, cell_sat _ _ _, cell_sat _ _ _, cell_sat _ _ _⟩) (fail)
      all_goals go_wp2
      all_goals (try go_ret)
      all_goals first
       | exact ⟨by rw [HF.out]; rfl, keep2 B F⟩
       | (exfalso; apply HO.out; unfold rOk; simp only; simp at *; omega)
  · have hlt' : ¬ (i : Int) < n := by omega
    obtain rfl : i = n := by omega
    have hx : es.take i = es := List.take_of_length_le (by rw [HN.out]; exact Nat.le_refl _)
    have HG : Aside (mr = decide (su ≤ 1048576)) := (by
     have h3 := A.out.2
     rw [hx] at h3
     rw [← HR.out, rleaf_good h3.2 (by rw [HN.out]; omega) (by rw [HN.out]; omega), h3.1] : _ = _)
    clear hx
    by_cases hsu : su ≤ 1048576
    · have HF : Aside (mr = true) := HG.out.trans (decide_eq_true hsu)
      go_wp2
      go_ret
      exact ⟨by rw [HF.out]; rfl, keep2 B F⟩
    · have HF : Aside (mr = false) := HG.out.trans (decide_eq_false hsu)
      go_wp2
      go_ret
      exact ⟨by rw [HF.out]; rfl, keep2 B F⟩
theorem r13may_leaf (es : List Ent) (a : Option Addr) (c : Nat) (B F : Assn) (w : World) (hE : ReadsE B (.slice a es.length c) es) (hs : Sat (B * F) w) :
 Calls Tryz.prog 64 #[.agg #[.bool true, .slice a es.length c, .slice none 0 0]] w fun e w' => e = .returned (.bool (may ⟨true, es, []⟩)) ∧ Sat (B * F) w' := r13may_leafG none 0 es a c B F w hE hs
end Go.Proofs.YtfhbmblbidcmmaaGreat
namespace Go.Tr
theorem mayK_iff {k : Kd} : mayKid k = true ↔ (1 ≤ k.page ∧ k.page < 1048576 ∧ 1 ≤ k.bytes ∧ k.bytes ≤ 1048576 ∧ (-1 ≤ k.lines ∧ k.lines ≤ k.bytes) ∧ 1 ≤ k.scraps ∧ k.scraps ≤ k.bytes) := by
 unfold mayKid
 exact decide_eq_true_iff
end Go.Tr
namespace Go.Proofs.YtfhbmblbidcmmaaGreat
set_option linter.unusedSimpArgs false
set_option linter.unusedVariables false
open Go.RowKit Go.Sl Go.Tr Go.Dk
attribute [local go_sem ↓] Go.wp_at_zero Go.wp_at_succ
attribute [local go_sem] Go.Sl.cell_sat Go.Sl.frozen_sat
theorem rkids_good {l : List Kd} (h : ∀ x ∈ l, mayKid x = true) (h1 : 2 ≤ l.length) (h2 : l.length ≤ 12) : may ⟨false, [], l⟩ = decide (kBytes l ≤ 1048576 ∧ kScraps l ≤ 1024) := by
 rw [may_good (fun x hx => by cases hx) (fun x hx => ⟨rfl, h x hx⟩)]
 show decide (2 ≤ l.length ∧ l.length ≤ 12 ∧ eBytes [] + kBytes l ≤ 1048576 ∧ kScraps l ≤ 1024) = _
 have e0 : eBytes [] = 0 := rfl
 exact decide_eq_decide.2 (by rw [e0]; constructor <;> intro h9 <;> omega)
theorem rkids_len {l : List Kd} (h : l.length < 2 ∨ 12 < l.length) : may ⟨false, [], l⟩ = false := by
 by_cases hm : ∀ x ∈ l, mayKid x = true
 · rw [may_good (fun x hx => by cases hx) (fun x hx => ⟨rfl, hm x hx⟩)]
   simp [eBytes]
   omega
 · obtain ⟨x, hx, he⟩ : ∃ x ∈ l, mayKid x = false := by
    rcases Classical.em (∃ x ∈ l, mayKid x = false) with h | h
    · exact h
    · exfalso; apply hm; intro x hx
      cases hq : mayKid x with
      | true => rfl
      | false => exact absurd ⟨x, hx, hq⟩ h
   exact may_badK hx (.inr he)
set_option maxRecDepth 100000 in
set_option maxHeartbeats 6400000 in
theorem r13may_kidsG (ka : Option Addr) (kc : Nat) (ks : List Kd) (a : Option Addr) (c : Nat) (B F : Assn) (w : World) (hK : ReadsK B (.slice a ks.length c) ks) (hs : Sat (B * F) w) :
 Calls Tryz.prog 64 #[.agg #[.bool false, .slice ka 0 kc, .slice a ks.length c]] w fun e w' => e = .returned (.bool (may ⟨false, [], ks⟩)) ∧ Sat (B * F) w' := by
 have HK : Aside (ReadsK B (.slice a ks.length c) ks) := hK
 obtain ⟨mr, hmr⟩ : ∃ r, may ⟨false, [], ks⟩ = r := ⟨_, rfl⟩
 have HR : Aside (may ⟨false, [], ks⟩ = mr) := hmr
 rw [hmr]
 obtain ⟨n, hn⟩ : ∃ n, ks.length = n := ⟨_, rfl⟩
 have HN : Aside (ks.length = n) := hn
 rw [hn] at hK ⊢
 clear hK hmr hn
 haveI := hs.i
 by_cases h1 : n < 2
 · have HF : Aside (mr = false) := (by rw [← HR.out]; exact rkids_len (.inl (by rw [HN.out]; exact h1)) : _ = _)
   have h1i : (n : Int) < 2 := by omega
   have h1d : decide ((n : Int) < 2) = true := decide_eq_true h1i
   go_enter Tryz.func64, Tryz.ntmps64
   go_wp2
   go_ret
   exact ⟨by rw [HF.out]; rfl, keep2 B F⟩
 by_cases h2 : 12 < n
 · have HF : Aside (mr = false) := (by rw [← HR.out]; exact rkids_len (.inr (by rw [HN.out]; exact h2)) : _ = _)
   have h1i : ¬ (n : Int) < 2 := by omega
   have h2i : (12 : Int) < n := by omega
   have h1d : decide ((n : Int) < 2) = false := decide_eq_false h1i
   have h2d : decide ((12 : Int) < n) = true := decide_eq_true h2i
   go_enter Tryz.func64, Tryz.ntmps64
   go_wp2
   go_ret
   exact ⟨by rw [HF.out]; rfl, keep2 B F⟩
 have h1i : ¬ (n : Int) < 2 := by omega
 have h2i : ¬ (12 : Int) < n := by omega
 have h1d : decide ((n : Int) < 2) = false := decide_eq_false h1i
 have h2d : decide ((12 : Int) < n) = false := decide_eq_false h2i
 go_enter Tryz.func64, Tryz.ntmps64
 go_wp2_with fail
 obtain ⟨N, hN⟩ : ∃ N, w.heap.size = N := ⟨_, rfl⟩
 have q0 : Sat (Sl.block N TNd [.bool false, .slice ka 0 kc, .slice a n c] * (B * F)) (w.alloc (.cells #[.bool false, .slice ka 0 kc, .slice a n c] TNd)) := by
  rw [← hN]
  exact satI
 try rw [hN]
 generalize w.alloc (.cells #[.bool false, .slice ka 0 kc, .slice a n c] TNd) = w0 at q0 ⊢
 clear hN hs this
 go_loopg [3, 7, 8] n (fun g t3 t7 t8 wr => ∃ (i : Nat) (su sc : Int), t8 = .int .i64 i ∧ t3 = .int .i64 su ∧ t7 = .int .i64 sc ∧ i ≤ n ∧ 0 ≤ su ∧ su ≤ i * 16777216 ∧ 0 ≤ sc ∧ sc ≤ i * 16777216 ∧ Aside (g = n - i ∧ su = kBytes (ks.take i) ∧ sc = kScraps (ks.take i) ∧ ∀ x ∈ ks.take i, mayKid x = true) ∧
  Sat (Sl.block N TNd [.bool false, .slice ka 0 kc, .slice a n c] * (B * F)) wr)
 case atStart => exact ⟨0, 0, 0, rfl, rfl, rfl, by omega, by omega, by omega, by omega, by omega, ⟨rfl, by simp [kBytes], by simp [kScraps], by simp⟩, q0⟩
 case round =>
  obtain ⟨i, su, sc, rfl, rfl, rfl, hi, hs0, hs1, hs2, hs3, A, q1⟩ := hrel
  clear q0
  haveI := q1.i
  by_cases hlt : i < n
  · have hlt' : (i : Int) < n := by omega
    obtain ⟨x, hx⟩ : ∃ x, ks[i]? = some x := ⟨_, List.getElem?_eq_getElem (by rw [HN.out]; exact hlt)⟩
    obtain ⟨b, o, rfl, r1, r2, r3, r4⟩ := readsK_at HK.out hx
    have HX : Aside (ks[i]? = some x) := hx
    obtain ⟨x1, x2, x3, x4⟩ := x
    simp only at r1 r2 r3 r4
    clear hx
    by_cases hok : mayKid ⟨x1, x2, x3, x4⟩ = true
    · have HKO : Aside (mayKid ⟨x1, x2, x3, x4⟩ = true) := hok
      rw [mayK_iff] at hok
      simp only at hok
      obtain ⟨k1, k2, k3, k4, ⟨k5, k6⟩, k7, k8⟩ := hok
      have hw1 : IntKind.i64.wrap (su + x2) = su + x2 := IntWalk.i64_in _ (by omega)
      have hw2 : IntKind.i64.wrap (sc + x4) = sc + x4 := IntWalk.i64_in _ (by omega)
      have d1 : decide (x1 < 1) = false := decide_eq_false (by omega)
      have d2 : decide (1048576 ≤ x1) = false := decide_eq_false (by omega)
      have d3 : decide (x2 < 1) = false := decide_eq_false (by omega)
      have d4 : decide (1048576 < x2) = false := decide_eq_false (by omega)
      have d5 : decide (x3 < -1) = false := decide_eq_false (by omega)
      have d6 : decide (x2 < x3) = false := decide_eq_false (by omega)
      have d7 : decide (x4 < 1) = false := decide_eq_false (by omega)
      have d8 : decide (x2 < x4) = false := decide_eq_false (by omega)
      go_wp2
      go_roundg (n - (i + 1))
      case measure => have := A.out.1; omega
      case rel =>
       refine ⟨i + 1, su + x2, sc + x4, by go_num, rfl, rfl, by omega, by omega, by omega, by omega, by omega, ⟨rfl, ?_, ?_, ?_⟩, keep3 _ B F⟩
       · rw [kBytes_snoc HX.out, A.out.2.1]
       · rw [kScraps_snoc HX.out, A.out.2.2.1]
       · rw [take_snoc' HX.out]
         intro y hy
         rcases List.mem_append.1 hy with hy | hy
         · exact A.out.2.2.2 y hy
         · simp at hy; subst hy; exact HKO.out
    · have HO : Aside (mayKid ⟨x1, x2, x3, x4⟩ ≠ true) := hok
      have HF : Aside (mr = false) := HR.out.symm.trans (may_badK (n := ⟨false, [], ks⟩) (List.mem_of_getElem? HX.out) (.inr (by simpa using hok)))
      clear hok
      by_cases c1 : x1 < 1
      · have d1 : decide (x1 < 1) = true := decide_eq_true c1
        clear c1
        go_wp2
        go_ret
        exact ⟨by rw [HF.out]; rfl, keep2 B F⟩
      have d1 : decide (x1 < 1) = false := decide_eq_false c1
      by_cases c2 : 1048576 ≤ x1
      · have d2 : decide (1048576 ≤ x1) = true := decide_eq_true c2
        clear c2
        go_wp2
        go_ret
        exact ⟨by rw [HF.out]; rfl, keep2 B F⟩
      have d2 : decide (1048576 ≤ x1) = false := decide_eq_false c2
      by_cases c3 : x2 < 1
      · have d3 : decide (x2 < 1) = true := decide_eq_true c3
        clear c3
        go_wp2
        go_ret
        exact ⟨by rw [HF.out]; rfl, keep2 B F⟩
      have d3 : decide (x2 < 1) = false := decide_eq_false c3
      by_cases c4 : 1048576 < x2
      · have d4 : decide (1048576 < x2) = true := decide_eq_true c4
        clear c4
        go_wp2
        go_ret
        exact ⟨by rw [HF.out]; rfl, keep2 B F⟩
      have d4 : decide (1048576 < x2) = false := decide_eq_false c4
      by_cases c5 : x3 < -1
      · have d5 : decide (x3 < -1) = true := decide_eq_true c5
        clear c5
        go_wp2
        go_ret
        exact ⟨by rw [HF.out]; rfl, keep2 B F⟩
      have d5 : decide (x3 < -1) = false := decide_eq_false c5
      by_cases c6 : x2 < x3
      · have d6 : decide (x2 < x3) = true := decide_eq_true c6
        clear c6
        go_wp2
        go_ret
        exact ⟨by rw [HF.out]; rfl, keep2 B F⟩
      have d6 : decide (x2 < x3) = false := decide_eq_false c6
      by_cases c7 : x4 < 1
      · have d7 : decide (x4 < 1) = true := decide_eq_true c7
        clear c7
        go_wp2
        go_ret
        exact ⟨by rw [HF.out]; rfl, keep2 B F⟩
      have d7 : decide (x4 < 1) = false := decide_eq_false c7
      by_cases c8 : x2 < x4
      · have d8 : decide (x2 < x4) = true := decide_eq_true c8
        clear c8
        go_wp2
        go_ret
        exact ⟨by rw [HF.out]; rfl, keep2 B F⟩
      have d8 : decide (x2 < x4) = false := decide_eq_false c8
      exact absurd (mayK_iff.2 (by show 1 ≤ x1 ∧ x1 < 1048576 ∧ 1 ≤ x2 ∧ x2 ≤ 1048576 ∧ (-1 ≤ x3 ∧ x3 ≤ x2) ∧ 1 ≤ x4 ∧ x4 ≤ x2; omega)) HO.out
  · have hlt' : ¬ (i : Int) < n := by omega
    obtain rfl : i = n := by omega
    have hx : ks.take i = ks := List.take_of_length_le (by rw [HN.out]; exact Nat.le_refl _)
    have HG : Aside (mr = decide (su ≤ 1048576 ∧ sc ≤ 1024)) := (by
     have h3 := A.out.2
     rw [hx] at h3
     rw [← HR.out, rkids_good h3.2.2 (by rw [HN.out]; omega) (by rw [HN.out]; omega), h3.1, h3.2.1] : _ = _)
    clear hx
    by_cases hsu : su ≤ 1048576
    · by_cases hsc : sc ≤ 1024
      · have HF : Aside (mr = true) := HG.out.trans (decide_eq_true ⟨hsu, hsc⟩)
        have e1 : decide (su ≤ 1048576) = true := decide_eq_true hsu
        have e2 : decide (sc ≤ 1024) = true := decide_eq_true hsc
        go_wp2
        go_ret
        exact ⟨by rw [HF.out]; rfl, keep2 B F⟩
      · have HF : Aside (mr = false) := HG.out.trans (decide_eq_false fun h => hsc h.2)
        have e1 : decide (su ≤ 1048576) = true := decide_eq_true hsu
        have e2 : decide (sc ≤ 1024) = false := decide_eq_false hsc
        go_wp2
        go_ret
        exact ⟨by rw [HF.out]; rfl, keep2 B F⟩
    · have HF : Aside (mr = false) := HG.out.trans (decide_eq_false fun h => hsu h.1)
      have e1 : decide (su ≤ 1048576) = false := decide_eq_false hsu
      go_wp2
      go_ret
      exact ⟨by rw [HF.out]; rfl, keep2 B F⟩
theorem r13may_kids (ks : List Kd) (a : Option Addr) (c : Nat) (B F : Assn) (w : World) (hK : ReadsK B (.slice a ks.length c) ks) (hs : Sat (B * F) w) :
 Calls Tryz.prog 64 #[.agg #[.bool false, .slice none 0 0, .slice a ks.length c]] w fun e w' => e = .returned (.bool (may ⟨false, [], ks⟩)) ∧ Sat (B * F) w' := r13may_kidsG none 0 ks a c B F w hK hs
end Go.Proofs.YtfhbmblbidcmmaaGreat
namespace Go.Proofs.YtfhbmblbidcmmaaGreat
set_option linter.unusedSimpArgs false
set_option linter.unusedVariables false
open Go.RowKit Go.Sl Go.Tr Go.Dk
attribute [local go_sem ↓] Go.wp_at_zero Go.wp_at_succ
attribute [local go_sem] Go.Sl.cell_sat Go.Sl.frozen_sat
theorem byte_at {B F : Assn} {w : World} {va : Option Addr} {n c : Nat} {l : List UInt8} (h : Reads B (.slice va n c) l) (hs : Sat (B * F) w) {q : Nat} {x : UInt8} (hq : l[q]? = some x) : ∃ b o, va = some ⟨b, o, none⟩ ∧ RdC B b (o + q) (.int .u8 x.toNat) := by
 obtain ⟨b, o, e, _⟩ := (h F w hs).at hq
 refine ⟨b, o, e, ⟨fun G w' h' => ?_⟩⟩
 obtain ⟨b', o', e', hc⟩ := (h G w' h').at hq
 rw [e] at e'
 cases e'
 exact hc
set_option maxHeartbeats 800000 in
theorem r13open_none (kind : Int) (v : Value) (B F : Assn) (w : World) (hB : Reads B v []) (hs : Sat (B * F) w) :
 Calls Tryz.prog 156 #[.int .i64 kind, v] w (NoOut B F (nd0, 4)) := by
 obtain ⟨va, vc, rfl, hvc, hvm⟩ := (hB F w hs).len
 haveI := hs.i
 have e0 : ([] : List UInt8).length = 0 := rfl
 rw [e0]
 go_enter Tryz.func156, Tryz.ntmps156
 go_wp2
 go_returns
 exact no_zero (keep2 B F)
set_option maxRecDepth 100000 in
set_option maxHeartbeats 1600000 in
theorem r13open_bad (kind : Int) (x : UInt8) (rest : List UInt8) (v : Value) (B F : Assn) (w : World) (hB : Reads B v (x :: rest)) (hs : Sat (B * F) w) (hl : rest.length ≤ 1048576) (h1 : ¬ (kind = 1 ∧ rest.length = x.toNat * 13)) (h2 : ¬ (kind = 2 ∧ rest.length = x.toNat * 16)) :
 Calls Tryz.prog 156 #[.int .i64 kind, v] w (NoOut B F (nd0, 4)) := by
 obtain ⟨va, vc, rfl, hvc, hvm⟩ := (hB F w hs).len
 obtain ⟨i0, E⟩ := elemB
 haveI := hs.i
 have hx := x.toNat_lt
 obtain ⟨m, hm⟩ : ∃ m, x.toNat = m := ⟨_, rfl⟩
 obtain ⟨n, hn⟩ : ∃ n, rest.length = n := ⟨_, rfl⟩
 rw [List.length_cons, hn] at hB hvc ⊢
 rw [hn] at hl h1 h2
 have HM : Aside (x.toNat = m) := hm
 rw [hm] at h1 h2 hx
 have HB : Aside (Reads B (.slice va (n + 1) vc) (x :: rest)) := hB
 have hc1 : ∀ w, (Instr.sliceAt 26 (.slice va (n + 1) vc) (some (.int .i64 1)) none none).run Tryz.prog w = .ok (.slice (cutA va vc 1 1) n (vc - 1)) w := fun w => at_from E 1 (by omega) w
 obtain ⟨b2, o2, e5, hc0⟩ := byte_at hB hs (q := 0) (x := x) rfl
 rw [Nat.add_zero, hm] at hc0
 subst e5
 have hlen1 : ¬ ((n : Int) + 1 < 1) := by omega
 have hm13 : 13 * (m : Int) ≤ 3315 := by omega
 have hm16 : 16 * (m : Int) ≤ 4080 := by omega
 clear hB hn hm
 by_cases k1 : kind = 1
 · subst k1
   have hne : ((n : Int) == 13 * (m : Int)) = false := by simp; omega
   have hne2 : ¬ ((n : Int) = 13 * (m : Int)) := by omega
   go_enter Tryz.func156, Tryz.ntmps156
   go_wp2
   try rw [Exit.noGoto_ret]
   go_returns
   exact no_zero (keep2 B F)
 by_cases k2 : kind = 2
 · subst k2
   have hne : ((n : Int) == 16 * (m : Int)) = false := by simp; omega
   go_enter Tryz.func156, Tryz.ntmps156
   go_wp2
   try rw [Exit.noGoto_ret]
   go_returns
   exact no_zero (keep2 B F)
 · have g1 : (kind == 1) = false := by simpa using k1
   have g2 : (kind == 2) = false := by simpa using k2
   go_enter Tryz.func156, Tryz.ntmps156
   go_wp2
   try rw [Exit.noGoto_ret]
   go_returns
   exact no_zero (keep2 B F)
end Go.Proofs.YtfhbmblbidcmmaaGreat
namespace Go.Proofs.YtfhbmblbidcmmaaGreat
set_option linter.unusedSimpArgs false
set_option linter.unusedVariables false
open Go.RowKit Go.Sl Go.Tr Go.Dk
attribute [local go_sem ↓] Go.wp_at_zero Go.wp_at_succ
attribute [local go_sem] Go.Sl.cell_sat Go.Sl.frozen_sat
set_option maxRecDepth 100000 in
set_option maxHeartbeats 1600000 in
theorem r13sum_any (n : Nd) (v : Value) (B F : Assn) (w : World) (hN : ReadsN B v n) (ho : SumOk n) (hs : Sat (B * F) w) :
 Calls Tryz.prog 127 #[v] w fun e w' => e = .returned (.tuple #[.int .i64 (rSum n).1, .int .i64 (rSum n).2.1, .int .i64 (rSum n).2.2]) ∧ Sat (B * F) w' := by
 obtain ⟨vE, vK, rfl, hE, hK⟩ := hN
 obtain ⟨aE, cE, rfl, _⟩ := ReadsR.v hE
 obtain ⟨aK, cK, rfl, _⟩ := ReadsR.v hK
 have HE : Aside (ReadsE B (.slice aE n.ents.length cE) n.ents) := hE
 have HK : Aside (ReadsK B (.slice aK n.kids.length cK) n.kids) := hK
 have HO : Aside (SumOk n) := ho
 have h1 := ho.e
 have h2 := ho.k
 obtain ⟨le, hle⟩ : ∃ k, n.ents.length = k := ⟨_, rfl⟩
 obtain ⟨lk, hlk⟩ : ∃ k, n.kids.length = k := ⟨_, rfl⟩
 have HLE : Aside (n.ents.length = le) := hle
 have HLK : Aside (n.kids.length = lk) := hlk
 obtain ⟨rr, hrr⟩ : ∃ r, rSum n = r := ⟨_, rfl⟩
 have HR : Aside (rSum n = rr) := hrr
 rw [hrr]
 rw [hle] at h1 ⊢
 rw [hlk] at h2 ⊢
 clear hE hK ho hle hlk hrr
 obtain ⟨lf, hlf⟩ : ∃ b, n.leaf = b := ⟨_, rfl⟩
 rw [hlf]
 clear hlf
 haveI := hs.i
 go_enter Tryz.func127, Tryz.ntmps127
 go_wp2_with fail
 obtain ⟨N, hN⟩ : ∃ N, w.heap.size = N := ⟨_, rfl⟩
 have q0 : Sat (Sl.block N TNd [.bool lf, .slice aE le cE, .slice aK lk cK] * (B * F)) (w.alloc (.cells #[.bool lf, .slice aE le cE, .slice aK lk cK] TNd)) := by
  rw [← hN]
  exact satI
 try rw [hN]
 generalize w.alloc (.cells #[.bool lf, .slice aE le cE, .slice aK lk cK] TNd) = w0 at q0 ⊢
 clear hN hs this
 haveI := q0.i
 go_region
 go_wp2_with fail
 go_loopg [5, 6, 8] le (fun g t5 t6 t8 wr => ∃ (i : Nat) (su L : Int), t8 = .int .i64 i ∧ t5 = .int .i64 su ∧ t6 = .int .i64 L ∧ i ≤ le ∧ 0 ≤ su ∧ su ≤ i * 1048576 ∧ -1099511627777 ≤ L ∧ L ≤ i * 1048576 ∧ Aside (g = le - i ∧ su = eBytes (n.ents.take i) ∧ L = linR ((n.ents.take i).map (·.lines)) 0) ∧
  Sat (Sl.block N TNd [.bool lf, .slice aE le cE, .slice aK lk cK] * (B * F)) wr)
 case atStart => exact ⟨0, 0, 0, rfl, rfl, rfl, by omega, by omega, by omega, by omega, by omega, ⟨rfl, by simp [eBytes], by simp [linR]⟩, satI_eq (by ac_rfl)⟩
 case round =>
  obtain ⟨i, su, L, rfl, rfl, rfl, hi, hs0, hs1, hs2, hs3, A, q1⟩ := hrel
  clear q0
  haveI := q1.i
  by_cases hlt : i < le
  · have hlt' : (i : Int) < le := by omega
    obtain ⟨x, hx⟩ : ∃ x, n.ents[i]? = some x := ⟨_, List.getElem?_eq_getElem (by rw [HLE.out]; exact hlt)⟩
    obtain ⟨b, o, rfl, r1, r2, r3, r4⟩ := readsE_at HE.out hx
    have HX : Aside (n.ents[i]? = some x) := hx
    have hb := HO.out.es x (List.mem_of_getElem? hx)
    have HS : Aside (eBytes (n.ents.take (i + 1)) = su + x.len) := (by rw [eBytes_snoc hx, A.out.2.1] : _ = _)
    have HL : Aside (linR ((n.ents.take (i + 1)).map (·.lines)) 0 = (if x.lines < 0 then -1099511627776 else L) + x.lines) := (by rw [linR_at (fun e : Ent => e.lines) hx, A.out.2.2] : _ = _)
    obtain ⟨x1, x2, x3, x4⟩ := x
    simp only at r1 r2 r3 r4 hb
    clear hx
    have hw1 : IntKind.i64.wrap (su + x3) = su + x3 := IntWalk.i64_in _ (by omega)
    by_cases hn : x4 < 0
    · have hw2 : IntKind.i64.wrap (-1099511627776 + x4) = -1099511627776 + x4 := IntWalk.i64_in _ (by omega)
      go_wp2
      go_roundg (le - (i + 1))
      case measure => have := A.out.1; omega
      case rel =>
       refine ⟨i + 1, su + x3, -1099511627776 + x4, by go_num, rfl, rfl, by omega, by omega, by omega, by omega, by omega, ⟨rfl, HS.out.symm, ?_⟩, satI_eq (by ac_rfl)⟩
       rw [HL.out, if_pos hn]
    · have hw2 : IntKind.i64.wrap (L + x4) = L + x4 := IntWalk.i64_in _ (by omega)
      go_wp2
      go_roundg (le - (i + 1))
      case measure => have := A.out.1; omega
      case rel =>
       refine ⟨i + 1, su + x3, L + x4, by go_num, rfl, rfl, by omega, by omega, by omega, by omega, by omega, ⟨rfl, HS.out.symm, ?_⟩, satI_eq (by ac_rfl)⟩
       rw [HL.out, if_neg (by omega)]
  · have hlt' : ¬ (i : Int) < le := by omega
    obtain rfl : i = le := by omega
    have hx : n.ents.take i = n.ents := List.take_of_length_le (by rw [HLE.out]; exact Nat.le_refl _)
    have HA : Aside (su = eBytes n.ents ∧ L = linR (n.ents.map (·.lines)) 0) := (by have := A.out.2; rw [hx] at this; exact this : _ ∧ _)
    clear A hx hlt
    go_wp2_with fail
    go_loopg [5, 6, 7, 9] lk (fun g t5 t6 t7 t9 wr => ∃ (j : Nat) (sb M sc : Int), t9 = .int .i64 j ∧ t5 = .int .i64 sb ∧ t6 = .int .i64 M ∧ t7 = .int .i64 sc ∧ j ≤ lk ∧ 0 ≤ sb ∧ sb ≤ 12582912 + j * 1048576 ∧ -1099511627777 ≤ M ∧ M ≤ 12582912 + j * 1048576 ∧ 0 ≤ sc ∧ sc ≤ 12 + j * 1048576 ∧ Aside (g = lk - j ∧ sb = su + kBytes (n.kids.take j) ∧ M = linR ((n.kids.take j).map (·.lines)) L ∧ sc = i + kScraps (n.kids.take j)) ∧
     Sat (Sl.block N TNd [.bool lf, .slice aE i cE, .slice aK lk cK] * (B * F)) wr)
    case atStart => exact ⟨0, su, L, i, rfl, rfl, rfl, rfl, by omega, by omega, by omega, by omega, by omega, by omega, by omega, ⟨rfl, by simp [kBytes], by simp [linR], by simp [kScraps]⟩, satI_eq (by ac_rfl)⟩
    case round =>
     obtain ⟨j, sb, M, sc, rfl, rfl, rfl, rfl, hj, hs4, hs5, hs6, hs7, hs8, hs9, A, q2⟩ := hrel
     clear q1
     haveI := q2.i
     by_cases hlt : j < lk
     · have hlt' : (j : Int) < lk := by omega
       obtain ⟨x, hx⟩ : ∃ x, n.kids[j]? = some x := ⟨_, List.getElem?_eq_getElem (by rw [HLK.out]; exact hlt)⟩
       obtain ⟨b, o, rfl, r1, r2, r3, r4⟩ := readsK_at HK.out hx
       have HX : Aside (n.kids[j]? = some x) := hx
       have hb := HO.out.ks x (List.mem_of_getElem? hx)
       have HS : Aside (su + kBytes (n.kids.take (j + 1)) = sb + x.bytes) := (by rw [kBytes_snoc hx, A.out.2.1]; omega : _ = _)
       have HC : Aside ((i : Int) + kScraps (n.kids.take (j + 1)) = sc + x.scraps) := (by rw [kScraps_snoc hx, A.out.2.2.2]; omega : _ = _)
       have HL : Aside (linR ((n.kids.take (j + 1)).map (·.lines)) L = (if x.lines < 0 then -1099511627776 else M) + x.lines) := (by rw [linR_at (fun e : Kd => e.lines) hx, A.out.2.2.1] : _ = _)
       obtain ⟨x1, x2, x3, x4⟩ := x
       simp only at r1 r2 r3 r4 hb
       clear hx
       have hw1 : IntKind.i64.wrap (sb + x2) = sb + x2 := IntWalk.i64_in _ (by omega)
       have hw3 : IntKind.i64.wrap (sc + x4) = sc + x4 := IntWalk.i64_in _ (by omega)
       by_cases hn : x3 < 0
       · have hw2 : IntKind.i64.wrap (-1099511627776 + x3) = -1099511627776 + x3 := IntWalk.i64_in _ (by omega)
         go_wp2
         go_roundg (lk - (j + 1))
         case measure => have := A.out.1; omega
         case rel =>
          refine ⟨j + 1, sb + x2, -1099511627776 + x3, sc + x4, by go_num, rfl, rfl, rfl, by omega, by omega, by omega, by omega, by omega, by omega, by omega, ⟨rfl, HS.out.symm, ?_, HC.out.symm⟩, satI_eq (by ac_rfl)⟩
          rw [HL.out, if_pos hn]
       · have hw2 : IntKind.i64.wrap (M + x3) = M + x3 := IntWalk.i64_in _ (by omega)
         go_wp2
         go_roundg (lk - (j + 1))
         case measure => have := A.out.1; omega
         case rel =>
          refine ⟨j + 1, sb + x2, M + x3, sc + x4, by go_num, rfl, rfl, rfl, by omega, by omega, by omega, by omega, by omega, by omega, by omega, ⟨rfl, HS.out.symm, ?_, HC.out.symm⟩, satI_eq (by ac_rfl)⟩
          rw [HL.out, if_neg (by omega)]
     · have hlt' : ¬ (j : Int) < lk := by omega
       obtain rfl : j = lk := by omega
       have hx : n.kids.take j = n.kids := List.take_of_length_le (by rw [HLK.out]; exact Nat.le_refl _)
       have HG : Aside (rr = (sb, max M (-1), sc)) := (by
        have h3 := A.out.2
        rw [hx] at h3
        rw [← HR.out]
        unfold rSum
        rw [h3.1, h3.2.1, h3.2.2, ← HA.out.1, ← HA.out.2, HLE.out] : _ = _)
       obtain ⟨r1, r2, r3⟩ := rr
       have HG2 : Aside (r1 = sb ∧ r2 = max M (-1) ∧ r3 = sc) := (by have := HG.out; simp only [Prod.mk.injEq] at this; exact this : _ ∧ _ ∧ _)
       clear HG HR A HA hx
       go_wp2
       go_returns
       obtain ⟨e1, e2, e3⟩ := HG2.out
       subst e1 e2 e3
       exact ⟨rfl, keep2 B F⟩
end Go.Proofs.YtfhbmblbidcmmaaGreat
namespace Go.Proofs.YtfhbmblbidcmmaaGreat
set_option linter.unusedSimpArgs false
set_option linter.unusedVariables false
open Go.RowKit Go.Sl Go.Tr Go.Dk
attribute [local go_sem ↓] Go.wp_at_zero Go.wp_at_succ
attribute [local go_sem] Go.Sl.cell_sat Go.Sl.frozen_sat
set_option maxRecDepth 100000 in
set_option maxHeartbeats 3200000 in
theorem r13open_leaf (x : UInt8) (rest : List UInt8) (v : Value) (B F : Assn) (w : World) (hB : Reads B v (x :: rest)) (hs : Sat (B * F) w) (hlen : rest.length = x.toNat * 13) :
 Calls Tryz.prog 156 #[.int .i64 1, v] w (NoOut B F (if may ⟨true, ues x.toNat rest, []⟩ then (⟨true, ues x.toNat rest, []⟩, 0) else (nd0, 4))) := by
 obtain ⟨va, vc, rfl, hvc, hvm⟩ := (hB F w hs).len
 obtain ⟨iB, EB⟩ := elemB
 obtain ⟨i0, E⟩ := elemEn
 haveI := hs.i
 have hx := x.toNat_lt
 have hrest : Reads B (.slice (cutA va vc 1 1) rest.length (vc - 1)) rest := by
  have h9 := Reads.from hB 1 (by simp)
  simpa using h9
 obtain ⟨m, hm⟩ : ∃ m, x.toNat = m := ⟨_, rfl⟩
 obtain ⟨n, hn⟩ : ∃ n, rest.length = n := ⟨_, rfl⟩
 rw [List.length_cons, hn] at hB hvc ⊢
 rw [hn] at hlen hrest
 rw [hm] at hlen hx ⊢
 obtain ⟨rr, hrr⟩ : ∃ r, (if may ⟨true, ues m rest, []⟩ then ((⟨true, ues m rest, []⟩ : Nd), (0 : Int)) else (nd0, 4)) = r := ⟨_, rfl⟩
 have HRR : Aside ((if may ⟨true, ues m rest, []⟩ then ((⟨true, ues m rest, []⟩ : Nd), (0 : Int)) else (nd0, 4)) = rr) := hrr
 rw [hrr]
 clear hrr
 have hc1 : ∀ w, (Instr.sliceAt 26 (.slice va (n + 1) vc) (some (.int .i64 1)) none none).run Tryz.prog w = .ok (.slice (cutA va vc 1 1) n (vc - 1)) w := fun w => at_from EB 1 (by omega) w
 obtain ⟨b2, o2, e5, hc0⟩ := byte_at hB hs (q := 0) (x := x) rfl
 rw [Nat.add_zero, hm] at hc0
 subst e5
 obtain ⟨cv, hcv⟩ : ∃ cv, cutA (some ⟨b2, o2, none⟩) vc 1 1 = cv := ⟨_, rfl⟩
 rw [hcv] at hc1 hrest
 have HRS : Aside (Reads B (.slice cv n (vc - 1)) rest ∧ rest.length = n ∧ n ≤ vc - 1 ∧ n = m * 13) := ⟨hrest, hn, by omega, hlen⟩
 have hlen1 : ¬ ((n : Int) + 1 < 1) := by omega
 have hm13 : 13 * (m : Int) ≤ 3315 := by omega
 have heq : ((n : Int) == 13 * (m : Int)) = true := by simp; omega
 have hnm : (n : Int) = 13 * (m : Int) := by omega
 obtain ⟨cc, hcc⟩ : ∃ cc, vc - 1 = cc := ⟨_, rfl⟩
 rw [hcc] at hc1 HRS
 clear hB hn hm hrest hcv hlen hnm
 go_enter Tryz.func156, Tryz.ntmps156
 go_wp2_with fail
 obtain ⟨N, hN⟩ : ∃ N, w.heap.size = N := ⟨_, rfl⟩
 have q0 : Sat (Sl.block (N + 1) TNd [.bool true, .slice none 0 0, .slice none 0 0] * (Sl.block N TNd [.bool false, .slice none 0 0, .slice none 0 0] * (B * F))) ((w.alloc (.cells #[.bool false, .slice none 0 0, .slice none 0 0] TNd)).alloc (.cells #[.bool true, .slice none 0 0, .slice none 0 0] TNd)) := by
  rw [← hN]
  exact satI_eq (by ac_rfl)
 rw [hN]
 generalize ((w.alloc (.cells #[.bool false, .slice none 0 0, .slice none 0 0] TNd)).alloc (.cells #[.bool true, .slice none 0 0, .slice none 0 0] TNd)) = w0 at q0 ⊢
 clear hN hs this
 go_loopg [9] m (fun g t9 wr => ∃ (i : Nat) (aE : Option Addr) (cE : Nat), t9 = .int .i64 i ∧ i ≤ m ∧ Aside (g = m - i) ∧
  Sat (rw TEn 4 (.slice aE i cE) (ecs (ues i rest)) * (Sl.block (N + 1) TNd [.bool true, .slice aE i cE, .slice none 0 0] * (Sl.block N TNd [.bool false, .slice none 0 0, .slice none 0 0] * (B * F)))) wr)
 case atStart =>
  exact ⟨0, none, 0, rfl, by omega, (rfl : _ = _), Sat.rw_nil q0⟩
 case round =>
  obtain ⟨i, aE, cE, rfl, hi, A, hsr⟩ := hrel
  haveI := hsr.i
  clear q0
  by_cases hlt : i < m
  · have hlt' : (i : Int) < m := by omega
    obtain ⟨p, hp⟩ : ∃ p, 13 * i = p := ⟨_, rfl⟩
    obtain ⟨p2, hp2⟩ : ∃ p2, p + 13 = p2 := ⟨_, rfl⟩
    have hp3 : p2 ≤ n := by have := HRS.out.2.2.2; omega
    have hncc : n ≤ cc := HRS.out.2.2.1
    have hw1 : IntKind.i64.wrap (13 * (i : Int)) = (p : Int) := (IntWalk.i64_in _ (by omega)).trans (by omega)
    have hw2 : IntKind.i64.wrap ((p : Int) + 13) = (p2 : Int) := (IntWalk.i64_in _ (by omega)).trans (by omega)
    have hc2 : ∀ w, (Instr.sliceAt 26 (.slice cv n cc) (some (.int .i64 p)) (some (.int .i64 p2)) none).run Tryz.prog w = .ok (.slice (cutA cv cc p 1) 13 (cc - p)) w := fun w => by
     have h9 := at_cut (P := Tryz.prog) EB (a := cv) (n := n) (c := cc) p p2 (by omega) (by omega) w
     rw [show p2 - p = 13 by omega] at h9
     exact h9
    have r10 : Reads B (.slice (cutA cv cc p 1) 13 (cc - p)) ((rest.drop p).take 13) := fun F w h => by
     have h9 := (HRS.out.1 F w h).cut p p2 (by omega) hp3
     rw [show p2 - p = 13 by omega] at h9
     exact h9
    obtain ⟨pc, hpc⟩ : ∃ pc, (rest.drop p).take 13 = pc := ⟨_, rfl⟩
    have hpl : pc.length = 13 := by rw [← hpc, List.length_take, List.length_drop, HRS.out.2.1]; omega
    have HY : Aside (ecs (ues (i + 1) rest) = ecs (ues i rest) ++ erow (ue pc)) := (by rw [ues_snoc, hp, hpc]; simp [ecs] : _ = _)
    rw [hpc] at r10
    obtain ⟨ct, hct⟩ : ∃ ct, cutA cv cc p 1 = ct := ⟨_, rfl⟩
    obtain ⟨ce, hce⟩ : ∃ ce, cc - p = ce := ⟨_, rfl⟩
    rw [hct, hce] at r10 hc2
    have hce13 : 13 ≤ ce := by omega
    obtain ⟨x0, hx0⟩ : ∃ x0, pc[0]? = some x0 := ⟨pc[0]'(by omega), by simp⟩
    have rA : Reads B (.slice (cutA ct ce 1 1) 4 (ce - 1)) ((pc.drop 1).take 4) := fun F w h => (r10 F w h).cut 1 5 (by omega) (by omega)
    have rB : Reads B (.slice (cutA ct ce 5 1) 4 (ce - 5)) ((pc.drop 5).take 4) := fun F w h => (r10 F w h).cut 5 9 (by omega) (by omega)
    have rC : Reads B (.slice (cutA ct ce 9 1) 4 (ce - 9)) ((pc.drop 9).take 4) := fun F w h => (r10 F w h).cut 9 13 (by omega) (by omega)
    have hA : ∀ w, (Instr.sliceAt 26 (.slice ct 13 ce) (some (.int .i64 1)) (some (.int .i64 5)) none).run Tryz.prog w = .ok (.slice (cutA ct ce 1 1) 4 (ce - 1)) w := fun w => at_cut EB 1 5 (by omega) (by omega) w
    have hBs : ∀ w, (Instr.sliceAt 26 (.slice ct 13 ce) (some (.int .i64 5)) (some (.int .i64 9)) none).run Tryz.prog w = .ok (.slice (cutA ct ce 5 1) 4 (ce - 5)) w := fun w => at_cut EB 5 9 (by omega) (by omega) w
    have hC : ∀ w, (Instr.sliceAt 26 (.slice ct 13 ce) (some (.int .i64 9)) (some (.int .i64 13)) none).run Tryz.prog w = .ok (.slice (cutA ct ce 9 1) 4 (ce - 9)) w := fun w => at_cut EB 9 13 (by omega) (by omega) w
    have nA := fun F w q => rnumber_any _ _ B F w rA q (by simp; omega)
    have nB := fun F w q => rnumber_any _ _ B F w rB q (by simp; omega)
    have nC := fun F w q => rnumber_any _ _ B F w rC q (by simp; omega)
    have hue : ue pc = ⟨(x0.toNat : Int), i4 (lei ((pc.drop 1).take 4)), i4 (lei ((pc.drop 5).take 4)), i4 (lei ((pc.drop 9).take 4))⟩ := by
     have h9 : lei (pc.take 1) = x0.toNat := by
      cases pc with
      | nil => simp at hx0
      | cons y l => simp at hx0; subst hx0; exact lei1 _
     unfold ue
     rw [h9]
    obtain ⟨y2, hy2⟩ : ∃ y, i4 (lei ((pc.drop 1).take 4)) = y := ⟨_, rfl⟩
    obtain ⟨y3, hy3⟩ : ∃ y, i4 (lei ((pc.drop 5).take 4)) = y := ⟨_, rfl⟩
    obtain ⟨y4, hy4⟩ : ∃ y, i4 (lei ((pc.drop 9).take 4)) = y := ⟨_, rfl⟩
    rw [hy2] at nA hue
    rw [hy3] at nB hue
    rw [hy4] at nC hue
    rw [hue] at HY
    have hq := hsr.take B
    obtain ⟨bb, oo, e6, hb0⟩ := byte_at r10 hq hx0
    rw [Nat.add_zero] at hb0
    subst e6
    obtain ⟨cA, hcA⟩ : ∃ cA, cutA (some ⟨bb, oo, none⟩) ce 1 1 = cA := ⟨_, rfl⟩
    obtain ⟨cB, hcB⟩ : ∃ cB, cutA (some ⟨bb, oo, none⟩) ce 5 1 = cB := ⟨_, rfl⟩
    obtain ⟨cC, hcC⟩ : ∃ cC, cutA (some ⟨bb, oo, none⟩) ce 9 1 = cC := ⟨_, rfl⟩
    rw [hcA] at hA nA
    rw [hcB] at hBs nB
    rw [hcC] at hC nC
    have NA : Aside (∀ (F : Assn) (w : World), Sat (B * F) w → Calls Tryz.prog 179 #[.slice cA 4 (ce - 1)] w fun e w' => e = .returned (.int .i64 y2) ∧ w = w') := nA
    have NB : Aside (∀ (F : Assn) (w : World), Sat (B * F) w → Calls Tryz.prog 179 #[.slice cB 4 (ce - 5)] w fun e w' => e = .returned (.int .i64 y3) ∧ w = w') := nB
    have NC : Aside (∀ (F : Assn) (w : World), Sat (B * F) w → Calls Tryz.prog 179 #[.slice cC 4 (ce - 9)] w fun e w' => e = .returned (.int .i64 y4) ∧ w = w') := nC
    have hx08 := x0.toNat_lt
    have hwx : IntKind.i64.wrap (x0.toNat : Int) = (x0.toNat : Int) := IntWalk.i64_in _ (by omega)
    clear nA nB nC rA rB rC r10 hue hy2 hy3 hy4 hcA hcB hcC hq hx0 hct hce hpc hpl hp hp2 hp3 hncc
    have him : i ≤ 255 := by omega
    go_upto_region 12 with (fail)
    refine Dr.wpB_start (fun w' => w'.cell? ⟨N + 1, 1, none⟩ = some (.slice aE i cE) ∧ w'.cell? ⟨bb, oo, none⟩ = some (.int .u8 x0.toNat)) [19, 20] (by kernel_rfl) ⟨cell_sat _ _ _, cell_sat _ _ _⟩ (fun hHeld => ?_)
    refine Dr.wpB_pure 0 (v := ?v0) (by simp only [List.getElem?_toArray, List.getElem?_cons_succ, List.getElem?_cons_zero]; rfl) (by kernel_rfl) ?hQ0 (.inl ⟨?hw0, fun w' => ?hy0⟩) ?_
    case hy0 => go_simp; try (with_reducible rfl)
    case hQ0 => exact fun _ _ _ h => h
    case hw0 => rfl
    simp only [Act.put, List.setIfInBounds_toArray, List.set_cons_zero, List.set_cons_succ]
    refine Dr.wpB_take 1 (v := ?v1) (by simp only [List.getElem?_toArray, List.getElem?_cons_succ, List.getElem?_cons_zero]; rfl) (by kernel_rfl) ?hQ1 (.inl ⟨?hw1, fun w' hw => ?hy1⟩) hHeld ?_
    case hy1 => (try dsimp only at hw); go_simp; try (with_reducible rfl)
    case hQ1 => exact fun _ _ _ h => h
    case hw1 => rfl
    simp only [Act.put, List.setIfInBounds_toArray, List.set_cons_zero, List.set_cons_succ]
    refine Dr.wpB_pure 2 (v := ?v2) (by simp only [List.getElem?_toArray, List.getElem?_cons_succ, List.getElem?_cons_zero]; rfl) (by kernel_rfl) ?hQ2 (.inl ⟨?hw2, fun w' => ?hy2⟩) ?_
    case hy2 => go_simp; try (with_reducible rfl)
    case hQ2 => exact fun _ _ _ h => h
    case hw2 => rfl
    simp only [Act.put, List.setIfInBounds_toArray, List.set_cons_zero, List.set_cons_succ]
    refine Dr.wpB_pure 3 (v := ?v3) (by simp only [List.getElem?_toArray, List.getElem?_cons_succ, List.getElem?_cons_zero]; rfl) (by kernel_rfl) ?hQ3 (.inl ⟨?hw3, fun w' => ?hy3⟩) ?_
    case hy3 => go_simp; try (with_reducible rfl)
    case hQ3 => exact fun _ _ _ h => h
    case hw3 => rfl
    simp only [Act.put, List.setIfInBounds_toArray, List.set_cons_zero, List.set_cons_succ]
    refine Dr.wpB_take 4 (v := ?v4) (by simp only [List.getElem?_toArray, List.getElem?_cons_succ, List.getElem?_cons_zero]; rfl) (by kernel_rfl) ?hQ4 (.inl ⟨?hw4, fun w' hw => ?hy4⟩) hHeld ?_
    case hy4 => (try dsimp only at hw); go_simp; try (with_reducible rfl)
    case hQ4 => exact fun _ _ _ h => h
    case hw4 => rfl
    simp only [Act.put, List.setIfInBounds_toArray, List.set_cons_zero, List.set_cons_succ]
    refine Dr.wpB_pure 5 (v := ?v5) (by simp only [List.getElem?_toArray, List.getElem?_cons_succ, List.getElem?_cons_zero]; rfl) (by kernel_rfl) ?hQ5 (.inl ⟨?hw5, fun w' => ?hy5⟩) ?_
    case hy5 => go_simp; try (with_reducible rfl)
    case hQ5 => exact fun _ _ _ h => h
    case hw5 => rfl
    simp only [Act.put, List.setIfInBounds_toArray, List.set_cons_zero, List.set_cons_succ]
    refine Dr.wpB_pure 6 (v := ?v6) (by simp only [List.getElem?_toArray, List.getElem?_cons_succ, List.getElem?_cons_zero]; rfl) (by kernel_rfl) ?hQ6 (.inl ⟨?hw6, fun w' => ?hy6⟩) ?_
    case hy6 => go_simp; try (with_reducible rfl)
    case hQ6 => exact fun _ _ _ h => h
    case hw6 => rfl
    simp only [Act.put, List.setIfInBounds_toArray, List.set_cons_zero, List.set_cons_succ]
    refine Dr.wpB_pure 7 (v := ?v7) (by simp only [List.getElem?_toArray, List.getElem?_cons_succ, List.getElem?_cons_zero]; rfl) (by kernel_rfl) ?hQ7 (.inl ⟨?hw7, fun w' => ?hy7⟩) ?_
    case hy7 => go_simp; try (with_reducible rfl)
    case hQ7 => exact fun _ _ _ h => h
    case hw7 => rfl
    simp only [Act.put, List.setIfInBounds_toArray, List.set_cons_zero, List.set_cons_succ]
    refine Dr.wpB_pure 9 (v := ?v9) (by simp only [List.getElem?_toArray, List.getElem?_cons_succ, List.getElem?_cons_zero]; rfl) (by kernel_rfl) ?hQ9 (.inl ⟨?hw9, fun w' => ?hy9⟩) ?_
    case hy9 => go_simp; try (with_reducible rfl)
    case hQ9 => exact fun _ _ _ h => h
    case hw9 => rfl
    simp only [Act.put, List.setIfInBounds_toArray, List.set_cons_zero, List.set_cons_succ]
    refine Dr.wpB_pure 10 (v := ?v10) (by simp only [List.getElem?_toArray, List.getElem?_cons_succ, List.getElem?_cons_zero]; rfl) (by kernel_rfl) ?hQ10 (.inl ⟨?hw10, fun w' => ?hy10⟩) ?_
    case hy10 => go_simp; try (with_reducible rfl)
    case hQ10 => exact fun _ _ _ h => h
    case hw10 => rfl
    simp only [Act.put, List.setIfInBounds_toArray, List.set_cons_zero, List.set_cons_succ]
    refine Dr.wpB_pure 13 (v := ?v13) (by simp only [List.getElem?_toArray, List.getElem?_cons_succ, List.getElem?_cons_zero]; rfl) (by kernel_rfl) ?hQ13 (.inl ⟨?hw13, fun w' => ?hy13⟩) ?_
    case hy13 => go_simp; try (with_reducible rfl)
    case hQ13 => exact fun _ _ _ h => h
    case hw13 => rfl
    simp only [Act.put, List.setIfInBounds_toArray, List.set_cons_zero, List.set_cons_succ]
    refine Dr.wpB_pure 14 (v := ?v14) (by simp only [List.getElem?_toArray, List.getElem?_cons_succ, List.getElem?_cons_zero]; rfl) (by kernel_rfl) ?hQ14 (.inl ⟨?hw14, fun w' => ?hy14⟩) ?_
    case hy14 => go_simp; try (with_reducible rfl)
    case hQ14 => exact fun _ _ _ h => h
    case hw14 => rfl
    simp only [Act.put, List.setIfInBounds_toArray, List.set_cons_zero, List.set_cons_succ]
    refine Dr.wpB_one 8 (by simp only [List.getElem?_toArray, List.getElem?_cons_succ, List.getElem?_cons_zero]; rfl) (by kernel_rfl) ?_
    go_wp2_with ((go_simp; go_at_call 179; with_reducible refine Calls.mono (NA.out _ _ (takeI B)) ?_; rintro e w7 ⟨rfl, rfl⟩))
    refine Dr.nextQ_n ⟨⟨cell_sat _ _ _, cell_sat _ _ _⟩, ?_⟩
    refine Dr.wpB_one 11 (by simp only [List.getElem?_toArray, List.getElem?_cons_succ, List.getElem?_cons_zero]; rfl) (by kernel_rfl) ?_
    go_wp2_with ((go_simp; go_at_call 179; with_reducible refine Calls.mono (NB.out _ _ (takeI B)) ?_; rintro e w7 ⟨rfl, rfl⟩))
    refine Dr.nextQ_n ⟨⟨cell_sat _ _ _, cell_sat _ _ _⟩, ?_⟩
    refine Dr.wpB_pure 12 (v := ?v12) (by simp only [List.getElem?_toArray, List.getElem?_cons_succ, List.getElem?_cons_zero]; rfl) (by kernel_rfl) ?hQ12 (.inl ⟨?hw12, fun w' => ?hy12⟩) ?_
    case hy12 => go_simp; try (with_reducible rfl)
    case hQ12 => exact fun _ _ _ h => h
    case hw12 => rfl
    simp only [Act.put, List.setIfInBounds_toArray, List.set_cons_zero, List.set_cons_succ]
    refine Dr.wpB_one 15 (by simp only [List.getElem?_toArray, List.getElem?_cons_succ, List.getElem?_cons_zero]; rfl) (by kernel_rfl) ?_
    go_wp2_with ((go_simp; go_at_call 179; with_reducible refine Calls.mono (NC.out _ _ (takeI B)) ?_; rintro e w7 ⟨rfl, rfl⟩))
    refine Dr.nextQ_n ⟨⟨cell_sat _ _ _, cell_sat _ _ _⟩, ?_⟩
    refine Dr.wpB_one 16 (by simp only [List.getElem?_toArray, List.getElem?_cons_succ, List.getElem?_cons_zero]; rfl) (by kernel_rfl) ?_
    go_wp2_with (fail)
    refine Dr.nextQ_n ⟨⟨cell_sat _ _ _, cell_sat _ _ _⟩, ?_⟩
    refine Dr.wpB_one 17 (by simp only [List.getElem?_toArray, List.getElem?_cons_succ, List.getElem?_cons_zero]; rfl) (by kernel_rfl) ?_
    go_wp2_with (fail)
    refine Dr.nextQ_n ⟨⟨cell_sat _ _ _, cell_sat _ _ _⟩, ?_⟩
    refine Dr.wpB_one 18 (by simp only [List.getElem?_toArray, List.getElem?_cons_succ, List.getElem?_cons_zero]; rfl) (by kernel_rfl) ?_
    go_wp2_with (at_builtin; refine wpl_append_same E rfl (.tmp 46) (.tmp 62) rfl rfl rfl (takeI (rw TEn 4 (.slice aE i cE) (ecs (ues i rest)))) (Src.new (e := TEn) (s := 4) (vs := [.int .i64 (x0.toNat : Int), .int .i64 y2, .int .i64 y3, .int .i64 y4]) (takeI (Sl.block _ TEn [.int .i64 (x0.toNat : Int), .int .i64 y2, .int .i64 y3, .int .i64 y4])) rfl (by intro u hu; simp at hu; rcases hu with rfl | rfl | rfl | rfl <;> rfl)) (by unfold maxLen; omega) (by omega) ?_; intro a9 c9 w9 hs9 hnil; clear hnil; haveI := hs9.i)
    refine Dr.nextQ_n ⟨⟨cell_sat _ _ _, cell_sat _ _ _⟩, ?_⟩
    refine Dr.wpB_tail [19, 20] (os := [_, _]) (by decide) (by simp only [List.map_cons, List.map_nil, List.getElem?_toArray, List.getElem?_cons_succ, List.getElem?_cons_zero]; rfl) (by kernel_rfl) ?_
    go_wp2_with fail
    go_roundg (m - (i + 1))
    case measure => have := A.out; omega
    case rel =>
     refine ⟨i + 1, a9, c9, by go_num, by omega, (rfl : _ = _), ?_⟩
     rw [HY.out]
     exact satI_weak (C := Sl.block wr.heap.size TEn [.int .i64 x0.toNat, .int .i64 y2, .int .i64 y3, .int .i64 y4]) (by unfold erow; ac_rfl)
  · have hlt' : ¬ (i : Int) < m := by omega
    obtain rfl : i = m := by omega
    have hue := ues_len rest i
    have hRE : ReadsE (rw TEn 4 (.slice aE i cE) (ecs (ues i rest))) (.slice aE i cE) (ues i rest) := readsE_rw hsr hue.symm
    obtain ⟨es, hes⟩ : ∃ es, ues i rest = es := ⟨_, rfl⟩
    rw [hes] at hue hRE hsr
    have HES : Aside (ues i rest = es) := hes
    have HRR2 : Aside ((if may ⟨true, es, []⟩ then ((⟨true, es, []⟩ : Nd), (0 : Int)) else (nd0, 4)) = rr) := (by rw [← HRR.out, hes] : _ = _)
    have hR2 : ReadsE (rw TEn 4 (.slice aE i cE) (ecs es)) (.slice aE es.length cE) es := by rw [hue]; exact hRE
    have hmay := r13may_leaf es aE cE _ _ wr hR2 hsr
    rw [hue] at hmay
    have HR2 : Aside (ReadsE (rw TEn 4 (.slice aE i cE) (ecs es)) (.slice aE i cE) es) := hRE
    haveI := hsr.i
    obtain ⟨mb, hmb⟩ : ∃ b, may ⟨true, es, []⟩ = b := ⟨_, rfl⟩
    rw [hmb] at hmay
    have HMB : Aside (may ⟨true, es, []⟩ = mb) := hmb
    clear hes hue hRE hR2 hmb HES
    go_wp2_with fail
    with_reducible refine Calls.mono hmay ?_
    rintro e w7 ⟨rfl, q7⟩
    haveI := q7.i
    clear hmay hsr
    cases mb with
    | true =>
      have HF : Aside (rr = (⟨true, es, []⟩, 0)) := (by rw [← HRR2.out, HMB.out]; rfl : _ = _)
      go_wp2
      go_returns
      rw [HF.out]
      exact ⟨_, _, rfl, ⟨_, _, rfl, HR2.out, ReadsR.nil 4 _⟩, keep3 _ B F⟩
    | false =>
      have HF : Aside (rr = (nd0, 4)) := (by rw [← HRR2.out, HMB.out]; rfl : _ = _)
      go_wp2
      go_returns
      rw [HF.out]
      exact no_zero (keep2 B F)
end Go.Proofs.YtfhbmblbidcmmaaGreat
