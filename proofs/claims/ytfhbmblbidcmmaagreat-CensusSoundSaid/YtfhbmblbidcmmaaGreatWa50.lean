/-
  Versions are found sound just if they are in the words of the document. No condition. (part 50)
-/
import Derived.Test.YtfhbmblbidcmmaaGreatWa30
import Derived.Test.YtfhbmblbidcmmaaGreatWa32
import Derived.Test.YtfhbmblbidcmmaaGreatWa21
import Derived.BigQuiet
import Derived.IntWalk
import Derived.Test.YtfhbmblbidcmmaaGreatWa49
import Derived.Test.YtfhbmblbidcmmaaGreatWa40
import Derived.Test.YtfhbmblbidcmmaaGreatWa44
import Derived.Deep.RegionLaw
import Derived.Deep.RegionHeld3
import Derived.Test.YtfhbmblbidcmmaaGreatWa26
import Derived.Test.YtfhbmblbidcmmaaGreatWa25
import Derived.Test.YtfhbmblbidcmmaaGreatWa16
set_option linter.unusedSimpArgs false
set_option linter.unusedVariables false
namespace Go.Proofs.YtfhbmblbidcmmaaGreat
set_option linter.unusedSimpArgs false
set_option linter.unusedVariables false
open Go.RowKit Go.Sl Go.Dk Go.Tr
attribute [local go_sem ↓] Go.wp_at_zero Go.wp_at_succ
attribute [local go_sem] Go.Sl.cell_sat Go.Sl.frozen_sat
def rOk (x : Ent) : Prop := (x.src = 0 ∨ x.src = 1) ∧ 0 ≤ x.pos ∧ 1 ≤ x.len ∧ x.pos ≤ 16777216 ∧ x.len ≤ 16777216 ∧ x.pos + x.len ≤ 16777216 ∧ -1 ≤ x.lines ∧ x.lines ≤ x.len ∧ (x.src = 1 ∨ x.lines = -1)
theorem rOk_may {x : Ent} : mayEnt x = true ↔ rOk x ∧ x.len ≤ 1048576 := by
 rw [mayE_iff]
 unfold rOk
 omega
theorem rOk_not {x : Ent} (h : ¬ rOk x) : mayEnt x = false := by
 cases hm : mayEnt x with
 | false => rfl
 | true => exact absurd (rOk_may.1 hm).1 h
theorem rleaf_good {l : List Ent} (h : ∀ x ∈ l, rOk x) (h1 : 1 ≤ l.length) (h2 : l.length ≤ 12) : may ⟨true, l, []⟩ = decide (eBytes l ≤ 1048576) := by
 by_cases hb : eBytes l ≤ 1048576
 · have hm : ∀ x ∈ l, mayEnt x = true := fun x hx => rOk_may.2 ⟨h x hx, by
    have := (okE_len (o := l) fun y hy => by have := h y hy; unfold rOk at this; unfold OkE; omega).2 x hx
    omega⟩
   rw [may_good (fun x hx => ⟨rfl, hm x hx⟩) (fun x hx => by cases hx), decide_eq_true hb]
   simp [kBytes, kScraps]
   omega
 · rw [decide_eq_false hb]
   by_cases hm : ∀ x ∈ l, mayEnt x = true
   · rw [may_good (fun x hx => ⟨rfl, hm x hx⟩) (fun x hx => by cases hx)]
     simp [kBytes, kScraps]
     omega
   · obtain ⟨x, hx, he⟩ : ∃ x ∈ l, mayEnt x = false := by
      rcases Classical.em (∃ x ∈ l, mayEnt x = false) with h | h
      · exact h
      · exfalso; apply hm; intro x hx
        cases hq : mayEnt x with
        | true => rfl
        | false => exact absurd ⟨x, hx, hq⟩ h
     exact may_badE hx (.inr he)
set_option maxRecDepth 100000 in
set_option maxHeartbeats 3200000 in
theorem r13may_leafG (ka : Option Addr) (kc : Nat) (es : List Ent) (a : Option Addr) (c : Nat) (B F : Assn) (w : World) (hE : ReadsE B (.slice a es.length c) es) (hs : Sat (B * F) w) :
 Calls Tryz.prog 64 #[.agg #[.bool true, .slice a es.length c, .slice ka 0 kc]] w fun e w' => e = .returned (.bool (may ⟨true, es, []⟩)) ∧ Sat (B * F) w' := by
 have HE : Aside (ReadsE B (.slice a es.length c) es) := hE
 obtain ⟨mr, hmr⟩ : ∃ r, may ⟨true, es, []⟩ = r := ⟨_, rfl⟩
 have HR : Aside (may ⟨true, es, []⟩ = mr) := hmr
 rw [hmr]
 obtain ⟨n, hn⟩ : ∃ n, es.length = n := ⟨_, rfl⟩
 have HN : Aside (es.length = n) := hn
 rw [hn] at hE ⊢
 clear hE hmr hn
 haveI := hs.i
 by_cases h1 : n < 1
 · have hz : n = 0 := by omega
   have HF : Aside (mr = false) := (by
    have : es = [] := List.length_eq_zero_iff.1 (by rw [HN.out, hz])
    rw [← HR.out, this]; rfl : _ = _)
   subst hz
   go_enter Tryz.func64, Tryz.ntmps64
   go_wp2
   go_ret
   exact ⟨by rw [HF.out]; rfl, keep2 B F⟩
 by_cases h2 : 12 < n
 · have HF : Aside (mr = false) := (by
    rw [← HR.out]
    by_cases hm : ∀ x ∈ es, mayEnt x = true
    · rw [may_good (fun x hx => ⟨rfl, hm x hx⟩) (fun x hx => by cases hx)]
      have := HN.out
      simp [kBytes, kScraps]
      omega
    · obtain ⟨x, hx, he⟩ : ∃ x ∈ es, mayEnt x = false := by
       rcases Classical.em (∃ x ∈ es, mayEnt x = false) with h | h
       · exact h
       · exfalso; apply hm; intro x hx
         cases hq : mayEnt x with
         | true => rfl
         | false => exact absurd ⟨x, hx, hq⟩ h
      exact may_badE hx (.inr he) : _ = _)
   have h1i : ¬ (n : Int) < 1 := by omega
   have h2i : (12 : Int) < n := by omega
   go_enter Tryz.func64, Tryz.ntmps64
   go_wp2
   go_ret
   exact ⟨by rw [HF.out]; rfl, keep2 B F⟩
 have h1i : ¬ (n : Int) < 1 := by omega
 have h2i : ¬ (12 : Int) < n := by omega
 go_enter Tryz.func64, Tryz.ntmps64
 go_wp2_with fail
 obtain ⟨N, hN⟩ : ∃ N, w.heap.size = N := ⟨_, rfl⟩
 have q0 : Sat (Sl.block N TNd [.bool true, .slice a n c, .slice ka 0 kc] * (B * F)) (w.alloc (.cells #[.bool true, .slice a n c, .slice ka 0 kc] TNd)) := by
  rw [← hN]
  exact satI
 try rw [hN]
 generalize w.alloc (.cells #[.bool true, .slice a n c, .slice ka 0 kc] TNd) = w0 at q0 ⊢
 clear hN hs this
 go_loopg [3, 4] n (fun g t3 t4 wr => ∃ (i : Nat) (su : Int), t4 = .int .i64 i ∧ t3 = .int .i64 su ∧ i ≤ n ∧ 0 ≤ su ∧ su ≤ i * 16777216 ∧ Aside (g = n - i ∧ su = eBytes (es.take i) ∧ ∀ x ∈ es.take i, rOk x) ∧
  Sat (Sl.block N TNd [.bool true, .slice a n c, .slice ka 0 kc] * (B * F)) wr)
 case atStart => exact ⟨0, 0, rfl, rfl, by omega, by omega, by omega, ⟨rfl, by simp [eBytes], by simp⟩, q0⟩
 case round =>
  obtain ⟨i, su, rfl, rfl, hi, hs0, hs1, A, q1⟩ := hrel
  clear q0
  haveI := q1.i
  by_cases hlt : i < n
  · have hlt' : (i : Int) < n := by omega
    obtain ⟨x, hx⟩ : ∃ x, es[i]? = some x := ⟨_, List.getElem?_eq_getElem (by rw [HN.out]; exact hlt)⟩
    obtain ⟨b, o, rfl, r1, r2, r3, r4⟩ := readsE_at HE.out hx
    have HX : Aside (es[i]? = some x) := hx
    obtain ⟨x1, x2, x3, x4⟩ := x
    simp only at r1 r2 r3 r4
    have HBAD : Aside (¬ rOk ⟨x1, x2, x3, x4⟩ → mr = false) := fun h => HR.out.symm.trans (may_badE (List.mem_of_getElem? HX.out) (.inr (rOk_not h)))
    clear hx
    by_cases hok : rOk ⟨x1, x2, x3, x4⟩
    · have HK : Aside (rOk ⟨x1, x2, x3, x4⟩) := hok
      unfold rOk at hok
      simp only at hok
      obtain ⟨k1, k2, k3, k4, k5, k6, k7, k8, k9⟩ := hok
      have hw2 : IntKind.i64.wrap (su + x3) = su + x3 := IntWalk.i64_in _ (by omega)
      have hw1 : IntKind.i64.wrap (x2 + x3) = x2 + x3 := IntWalk.i64_in _ (by omega)
      have d1 : decide (x2 < 0) = false := decide_eq_false (by omega)
      have d2 : decide (x3 < 1) = false := decide_eq_false (by omega)
      have d3 : decide (16777216 < x2) = false := decide_eq_false (by omega)
      have d4 : decide (16777216 < x3) = false := decide_eq_false (by omega)
      have d5 : decide (16777216 < x2 + x3) = false := decide_eq_false (by omega)
      have d6 : decide (x4 < -1) = false := decide_eq_false (by omega)
      have d7 : decide (x3 < x4) = false := decide_eq_false (by omega)
      rcases k1 with k1 | k1
      · obtain rfl : x4 = -1 := by omega
        subst k1
        clear k9
        go_wp2_with fail
        go_region_held3 (fun w' => w'.cell? ⟨N, 1, none⟩ = some (.slice (some ⟨b, o, none⟩) n c) ∧ w'.cell? ⟨b, o + i * 4, none⟩ = some (.int .i64 0) ∧ w'.cell? ⟨b, o + i * 4 + 1, none⟩ = some (.int .i64 x2) ∧ w'.cell? ⟨b, o + i * 4 + 2, none⟩ = some (.int .i64 x3) ∧ w'.cell? ⟨b, o + i * 4 + 3, none⟩ = some (.int .i64 (-1))) (first | exact ⟨cell_sat _ _ _, cell_sat _ _ _, cell_sat _ _ _, cell_sat _ _ _, cell_sat _ _ _⟩) (fail)
        go_wp2
        go_roundg (n - (i + 1))
        case measure => have := A.out.1; omega
        case rel =>
         refine ⟨i + 1, su + x3, by go_num, rfl, by omega, by omega, by omega, ⟨rfl, ?_, ?_⟩, keep3 _ B F⟩
         · rw [eBytes_snoc HX.out, A.out.2.1]
         · rw [take_snoc' HX.out]
           intro y hy
           rcases List.mem_append.1 hy with hy | hy
           · exact A.out.2.2 y hy
           · simp at hy; subst hy; exact HK.out
      · subst k1
        clear k9
        go_wp2_with fail
        go_region_held3 (fun w' => w'.cell? ⟨N, 1, none⟩ = some (.slice (some ⟨b, o, none⟩) n c) ∧ w'.cell? ⟨b, o + i * 4, none⟩ = some (.int .i64 1) ∧ w'.cell? ⟨b, o + i * 4 + 1, none⟩ = some (.int .i64 x2) ∧ w'.cell? ⟨b, o + i * 4 + 2, none⟩ = some (.int .i64 x3) ∧ w'.cell? ⟨b, o + i * 4 + 3, none⟩ = some (.int .i64 x4)) (first | exact ⟨cell_sat _ _ _, cell_sat _ _ _, cell_sat _ _ _, cell_sat _ _ _, cell_sat _ _ _⟩) (fail)
        go_wp2
        go_roundg (n - (i + 1))
        case measure => have := A.out.1; omega
        case rel =>
         refine ⟨i + 1, su + x3, by go_num, rfl, by omega, by omega, by omega, ⟨rfl, ?_, ?_⟩, keep3 _ B F⟩
         · rw [eBytes_snoc HX.out, A.out.2.1]
         · rw [take_snoc' HX.out]
           intro y hy
           rcases List.mem_append.1 hy with hy | hy
           · exact A.out.2.2 y hy
           · simp at hy; subst hy; exact HK.out
    · have HF : Aside (mr = false) := HBAD.out hok
      have HO : Aside (¬ rOk ⟨x1, x2, x3, x4⟩) := hok
      clear hok HBAD
      go_wp2_with fail
      go_region_held3 (fun w' => w'.cell? ⟨N, 1, none⟩ = some (.slice (some ⟨b, o, none⟩) n c) ∧ w'.cell? ⟨b, o + i * 4, none⟩ = some (.int .i64 x1) ∧ w'.cell? ⟨b, o + i * 4 + 1, none⟩ = some (.int .i64 x2) ∧ w'.cell? ⟨b, o + i * 4 + 2, none⟩ = some (.int .i64 x3) ∧ w'.cell? ⟨b, o + i * 4 + 3, none⟩ = some (.int .i64 x4)) (first | exact ⟨cell_sat _ _ _, cell_sat _ _ _, cell_sat _ _ _, cell_sat _ _ _, cell_sat _ _ _⟩) (fail)
      all_goals go_wp2
      all_goals (try go_ret)
      all_goals first
       | exact ⟨by rw [HF.out]; rfl, keep2 B F⟩
       | (exfalso; apply HO.out; unfold rOk; simp only; simp at *; omega)
  · have hlt' : ¬ (i : Int) < n := by omega
    obtain rfl : i = n := by omega
    have hx : es.take i = es := List.take_of_length_le (by rw [HN.out]; exact Nat.le_refl _)
    have HG : Aside (mr = decide (su ≤ 1048576)) := (by
     have h3 := A.out.2
     rw [hx] at h3
     rw [← HR.out, rleaf_good h3.2 (by rw [HN.out]; omega) (by rw [HN.out]; omega), h3.1] : _ = _)
    clear hx
    by_cases hsu : su ≤ 1048576
    · have HF : Aside (mr = true) := HG.out.trans (decide_eq_true hsu)
      go_wp2
      go_ret
      exact ⟨by rw [HF.out]; rfl, keep2 B F⟩
    · have HF : Aside (mr = false) := HG.out.trans (decide_eq_false hsu)
      go_wp2
      go_ret
      exact ⟨by rw [HF.out]; rfl, keep2 B F⟩
theorem r13may_leaf (es : List Ent) (a : Option Addr) (c : Nat) (B F : Assn) (w : World) (hE : ReadsE B (.slice a es.length c) es) (hs : Sat (B * F) w) :
 Calls Tryz.prog 64 #[.agg #[.bool true, .slice a es.length c, .slice none 0 0]] w fun e w' => e = .returned (.bool (may ⟨true, es, []⟩)) ∧ Sat (B * F) w' := r13may_leafG none 0 es a c B F w hE hs
theorem rmay_one (y : Ent) (a : Option Addr) (c : Nat) (B F : Assn) (w : World) (hE : ReadsE B (.slice a 1 c) [y]) (hs : Sat (B * F) w) :
 Calls Tryz.prog 64 #[.agg #[.bool true, .slice a 1 c, .slice none 0 0]] w fun e w' => e = .returned (.bool (mayEnt y)) ∧ Sat (B * F) w' := by
 rw [← may_one]
 exact r13may_leaf [y] a c B F w hE hs
end Go.Proofs.YtfhbmblbidcmmaaGreat
namespace Go.Tr
theorem mayK_iff {k : Kd} : mayKid k = true ↔ (1 ≤ k.page ∧ k.page < 1048576 ∧ 1 ≤ k.bytes ∧ k.bytes ≤ 1048576 ∧ (-1 ≤ k.lines ∧ k.lines ≤ k.bytes) ∧ 1 ≤ k.scraps ∧ k.scraps ≤ k.bytes) := by
 unfold mayKid
 exact decide_eq_true_iff
end Go.Tr
namespace Go.Proofs.YtfhbmblbidcmmaaGreat
set_option linter.unusedSimpArgs false
set_option linter.unusedVariables false
open Go.RowKit Go.Sl Go.Tr Go.Dk
attribute [local go_sem ↓] Go.wp_at_zero Go.wp_at_succ
attribute [local go_sem] Go.Sl.cell_sat Go.Sl.frozen_sat
theorem rkids_good {l : List Kd} (h : ∀ x ∈ l, mayKid x = true) (h1 : 2 ≤ l.length) (h2 : l.length ≤ 12) : may ⟨false, [], l⟩ = decide (kBytes l ≤ 1048576 ∧ kScraps l ≤ 1024) := by
 rw [may_good (fun x hx => by cases hx) (fun x hx => ⟨rfl, h x hx⟩)]
 show decide (2 ≤ l.length ∧ l.length ≤ 12 ∧ eBytes [] + kBytes l ≤ 1048576 ∧ kScraps l ≤ 1024) = _
 have e0 : eBytes [] = 0 := rfl
 exact decide_eq_decide.2 (by rw [e0]; constructor <;> intro h9 <;> omega)
theorem rkids_len {l : List Kd} (h : l.length < 2 ∨ 12 < l.length) : may ⟨false, [], l⟩ = false := by
 by_cases hm : ∀ x ∈ l, mayKid x = true
 · rw [may_good (fun x hx => by cases hx) (fun x hx => ⟨rfl, hm x hx⟩)]
   simp [eBytes]
   omega
 · obtain ⟨x, hx, he⟩ : ∃ x ∈ l, mayKid x = false := by
    rcases Classical.em (∃ x ∈ l, mayKid x = false) with h | h
    · exact h
    · exfalso; apply hm; intro x hx
      cases hq : mayKid x with
      | true => rfl
      | false => exact absurd ⟨x, hx, hq⟩ h
   exact may_badK hx (.inr he)
set_option maxRecDepth 100000 in
set_option maxHeartbeats 6400000 in
theorem r13may_kidsG (ka : Option Addr) (kc : Nat) (ks : List Kd) (a : Option Addr) (c : Nat) (B F : Assn) (w : World) (hK : ReadsK B (.slice a ks.length c) ks) (hs : Sat (B * F) w) :
 Calls Tryz.prog 64 #[.agg #[.bool false, .slice ka 0 kc, .slice a ks.length c]] w fun e w' => e = .returned (.bool (may ⟨false, [], ks⟩)) ∧ Sat (B * F) w' := by
 have HK : Aside (ReadsK B (.slice a ks.length c) ks) := hK
 obtain ⟨mr, hmr⟩ : ∃ r, may ⟨false, [], ks⟩ = r := ⟨_, rfl⟩
 have HR : Aside (may ⟨false, [], ks⟩ = mr) := hmr
 rw [hmr]
 obtain ⟨n, hn⟩ : ∃ n, ks.length = n := ⟨_, rfl⟩
 have HN : Aside (ks.length = n) := hn
 rw [hn] at hK ⊢
 clear hK hmr hn
 haveI := hs.i
 by_cases h1 : n < 2
 · have HF : Aside (mr = false) := (by rw [← HR.out]; exact rkids_len (.inl (by rw [HN.out]; exact h1)) : _ = _)
   have h1i : (n : Int) < 2 := by omega
   have h1d : decide ((n : Int) < 2) = true := decide_eq_true h1i
   go_enter Tryz.func64, Tryz.ntmps64
   go_wp2
   go_ret
   exact ⟨by rw [HF.out]; rfl, keep2 B F⟩
 by_cases h2 : 12 < n
 · have HF : Aside (mr = false) := (by rw [← HR.out]; exact rkids_len (.inr (by rw [HN.out]; exact h2)) : _ = _)
   have h1i : ¬ (n : Int) < 2 := by omega
   have h2i : (12 : Int) < n := by omega
   have h1d : decide ((n : Int) < 2) = false := decide_eq_false h1i
   have h2d : decide ((12 : Int) < n) = true := decide_eq_true h2i
   go_enter Tryz.func64, Tryz.ntmps64
   go_wp2
   go_ret
   exact ⟨by rw [HF.out]; rfl, keep2 B F⟩
 have h1i : ¬ (n : Int) < 2 := by omega
 have h2i : ¬ (12 : Int) < n := by omega
 have h1d : decide ((n : Int) < 2) = false := decide_eq_false h1i
 have h2d : decide ((12 : Int) < n) = false := decide_eq_false h2i
 go_enter Tryz.func64, Tryz.ntmps64
 go_wp2_with fail
 obtain ⟨N, hN⟩ : ∃ N, w.heap.size = N := ⟨_, rfl⟩
 have q0 : Sat (Sl.block N TNd [.bool false, .slice ka 0 kc, .slice a n c] * (B * F)) (w.alloc (.cells #[.bool false, .slice ka 0 kc, .slice a n c] TNd)) := by
  rw [← hN]
  exact satI
 try rw [hN]
 generalize w.alloc (.cells #[.bool false, .slice ka 0 kc, .slice a n c] TNd) = w0 at q0 ⊢
 clear hN hs this
 go_loopg [3, 7, 8] n (fun g t3 t7 t8 wr => ∃ (i : Nat) (su sc : Int), t8 = .int .i64 i ∧ t3 = .int .i64 su ∧ t7 = .int .i64 sc ∧ i ≤ n ∧ 0 ≤ su ∧ su ≤ i * 16777216 ∧ 0 ≤ sc ∧ sc ≤ i * 16777216 ∧ Aside (g = n - i ∧ su = kBytes (ks.take i) ∧ sc = kScraps (ks.take i) ∧ ∀ x ∈ ks.take i, mayKid x = true) ∧
  Sat (Sl.block N TNd [.bool false, .slice ka 0 kc, .slice a n c] * (B * F)) wr)
 case atStart => exact ⟨0, 0, 0, rfl, rfl, rfl, by omega, by omega, by omega, by omega, by omega, ⟨rfl, by simp [kBytes], by simp [kScraps], by simp⟩, q0⟩
 case round =>
  obtain ⟨i, su, sc, rfl, rfl, rfl, hi, hs0, hs1, hs2, hs3, A, q1⟩ := hrel
  clear q0
  haveI := q1.i
  by_cases hlt : i < n
  · have hlt' : (i : Int) < n := by omega
    obtain ⟨x, hx⟩ : ∃ x, ks[i]? = some x := ⟨_, List.getElem?_eq_getElem (by rw [HN.out]; exact hlt)⟩
    obtain ⟨b, o, rfl, r1, r2, r3, r4⟩ := readsK_at HK.out hx
    have HX : Aside (ks[i]? = some x) := hx
    obtain ⟨x1, x2, x3, x4⟩ := x
    simp only at r1 r2 r3 r4
    clear hx
    by_cases hok : mayKid ⟨x1, x2, x3, x4⟩ = true
    · have HKO : Aside (mayKid ⟨x1, x2, x3, x4⟩ = true) := hok
      rw [mayK_iff] at hok
      simp only at hok
      obtain ⟨k1, k2, k3, k4, ⟨k5, k6⟩, k7, k8⟩ := hok
      have hw1 : IntKind.i64.wrap (su + x2) = su + x2 := IntWalk.i64_in _ (by omega)
      have hw2 : IntKind.i64.wrap (sc + x4) = sc + x4 := IntWalk.i64_in _ (by omega)
      have d1 : decide (x1 < 1) = false := decide_eq_false (by omega)
      have d2 : decide (1048576 ≤ x1) = false := decide_eq_false (by omega)
      have d3 : decide (x2 < 1) = false := decide_eq_false (by omega)
      have d4 : decide (1048576 < x2) = false := decide_eq_false (by omega)
      have d5 : decide (x3 < -1) = false := decide_eq_false (by omega)
      have d6 : decide (x2 < x3) = false := decide_eq_false (by omega)
      have d7 : decide (x4 < 1) = false := decide_eq_false (by omega)
      have d8 : decide (x2 < x4) = false := decide_eq_false (by omega)
      go_wp2
      go_roundg (n - (i + 1))
      case measure => have := A.out.1; omega
      case rel =>
       refine ⟨i + 1, su + x2, sc + x4, by go_num, rfl, rfl, by omega, by omega, by omega, by omega, by omega, ⟨rfl, ?_, ?_, ?_⟩, keep3 _ B F⟩
       · rw [kBytes_snoc HX.out, A.out.2.1]
       · rw [kScraps_snoc HX.out, A.out.2.2.1]
       · rw [take_snoc' HX.out]
         intro y hy
         rcases List.mem_append.1 hy with hy | hy
         · exact A.out.2.2.2 y hy
         · simp at hy; subst hy; exact HKO.out
    · have HO : Aside (mayKid ⟨x1, x2, x3, x4⟩ ≠ true) := hok
      have HF : Aside (mr = false) := HR.out.symm.trans (may_badK (n := ⟨false, [], ks⟩) (List.mem_of_getElem? HX.out) (.inr (by simpa using hok)))
      clear hok
      by_cases c1 : x1 < 1
      · have d1 : decide (x1 < 1) = true := decide_eq_true c1
        clear c1
        go_wp2
        go_ret
        exact ⟨by rw [HF.out]; rfl, keep2 B F⟩
      have d1 : decide (x1 < 1) = false := decide_eq_false c1
      by_cases c2 : 1048576 ≤ x1
      · have d2 : decide (1048576 ≤ x1) = true := decide_eq_true c2
        clear c2
        go_wp2
        go_ret
        exact ⟨by rw [HF.out]; rfl, keep2 B F⟩
      have d2 : decide (1048576 ≤ x1) = false := decide_eq_false c2
      by_cases c3 : x2 < 1
      · have d3 : decide (x2 < 1) = true := decide_eq_true c3
        clear c3
        go_wp2
        go_ret
        exact ⟨by rw [HF.out]; rfl, keep2 B F⟩
      have d3 : decide (x2 < 1) = false := decide_eq_false c3
      by_cases c4 : 1048576 < x2
      · have d4 : decide (1048576 < x2) = true := decide_eq_true c4
        clear c4
        go_wp2
        go_ret
        exact ⟨by rw [HF.out]; rfl, keep2 B F⟩
      have d4 : decide (1048576 < x2) = false := decide_eq_false c4
      by_cases c5 : x3 < -1
      · have d5 : decide (x3 < -1) = true := decide_eq_true c5
        clear c5
        go_wp2
        go_ret
        exact ⟨by rw [HF.out]; rfl, keep2 B F⟩
      have d5 : decide (x3 < -1) = false := decide_eq_false c5
      by_cases c6 : x2 < x3
      · have d6 : decide (x2 < x3) = true := decide_eq_true c6
        clear c6
        go_wp2
        go_ret
        exact ⟨by rw [HF.out]; rfl, keep2 B F⟩
      have d6 : decide (x2 < x3) = false := decide_eq_false c6
      by_cases c7 : x4 < 1
      · have d7 : decide (x4 < 1) = true := decide_eq_true c7
        clear c7
        go_wp2
        go_ret
        exact ⟨by rw [HF.out]; rfl, keep2 B F⟩
      have d7 : decide (x4 < 1) = false := decide_eq_false c7
      by_cases c8 : x2 < x4
      · have d8 : decide (x2 < x4) = true := decide_eq_true c8
        clear c8
        go_wp2
        go_ret
        exact ⟨by rw [HF.out]; rfl, keep2 B F⟩
      have d8 : decide (x2 < x4) = false := decide_eq_false c8
      exact absurd (mayK_iff.2 (by show 1 ≤ x1 ∧ x1 < 1048576 ∧ 1 ≤ x2 ∧ x2 ≤ 1048576 ∧ (-1 ≤ x3 ∧ x3 ≤ x2) ∧ 1 ≤ x4 ∧ x4 ≤ x2; omega)) HO.out
  · have hlt' : ¬ (i : Int) < n := by omega
    obtain rfl : i = n := by omega
    have hx : ks.take i = ks := List.take_of_length_le (by rw [HN.out]; exact Nat.le_refl _)
    have HG : Aside (mr = decide (su ≤ 1048576 ∧ sc ≤ 1024)) := (by
     have h3 := A.out.2
     rw [hx] at h3
     rw [← HR.out, rkids_good h3.2.2 (by rw [HN.out]; omega) (by rw [HN.out]; omega), h3.1, h3.2.1] : _ = _)
    clear hx
    by_cases hsu : su ≤ 1048576
    · by_cases hsc : sc ≤ 1024
      · have HF : Aside (mr = true) := HG.out.trans (decide_eq_true ⟨hsu, hsc⟩)
        have e1 : decide (su ≤ 1048576) = true := decide_eq_true hsu
        have e2 : decide (sc ≤ 1024) = true := decide_eq_true hsc
        go_wp2
        go_ret
        exact ⟨by rw [HF.out]; rfl, keep2 B F⟩
      · have HF : Aside (mr = false) := HG.out.trans (decide_eq_false fun h => hsc h.2)
        have e1 : decide (su ≤ 1048576) = true := decide_eq_true hsu
        have e2 : decide (sc ≤ 1024) = false := decide_eq_false hsc
        go_wp2
        go_ret
        exact ⟨by rw [HF.out]; rfl, keep2 B F⟩
    · have HF : Aside (mr = false) := HG.out.trans (decide_eq_false fun h => hsu h.1)
      have e1 : decide (su ≤ 1048576) = false := decide_eq_false hsu
      go_wp2
      go_ret
      exact ⟨by rw [HF.out]; rfl, keep2 B F⟩
theorem r13may_kids (ks : List Kd) (a : Option Addr) (c : Nat) (B F : Assn) (w : World) (hK : ReadsK B (.slice a ks.length c) ks) (hs : Sat (B * F) w) :
 Calls Tryz.prog 64 #[.agg #[.bool false, .slice none 0 0, .slice a ks.length c]] w fun e w' => e = .returned (.bool (may ⟨false, [], ks⟩)) ∧ Sat (B * F) w' := r13may_kidsG none 0 ks a c B F w hK hs
end Go.Proofs.YtfhbmblbidcmmaaGreat
namespace Go.Proofs.YtfhbmblbidcmmaaGreat
set_option linter.unusedSimpArgs false
set_option linter.unusedVariables false
open Go.RowKit Go.Sl Go.Tr Go.Dk
attribute [local go_sem ↓] Go.wp_at_zero Go.wp_at_succ
attribute [local go_sem] Go.Sl.cell_sat Go.Sl.frozen_sat
theorem byte_at {B F : Assn} {w : World} {va : Option Addr} {n c : Nat} {l : List UInt8} (h : Reads B (.slice va n c) l) (hs : Sat (B * F) w) {q : Nat} {x : UInt8} (hq : l[q]? = some x) : ∃ b o, va = some ⟨b, o, none⟩ ∧ RdC B b (o + q) (.int .u8 x.toNat) := by
 obtain ⟨b, o, e, _⟩ := (h F w hs).at hq
 refine ⟨b, o, e, ⟨fun G w' h' => ?_⟩⟩
 obtain ⟨b', o', e', hc⟩ := (h G w' h').at hq
 rw [e] at e'
 cases e'
 exact hc
set_option maxHeartbeats 800000 in
theorem r13open_none (kind : Int) (v : Value) (B F : Assn) (w : World) (hB : Reads B v []) (hs : Sat (B * F) w) :
 Calls Tryz.prog 156 #[.int .i64 kind, v] w (NoOut B F (nd0, 4)) := by
 obtain ⟨va, vc, rfl, hvc, hvm⟩ := (hB F w hs).len
 haveI := hs.i
 have e0 : ([] : List UInt8).length = 0 := rfl
 rw [e0]
 go_enter Tryz.func156, Tryz.ntmps156
 go_wp2
 go_returns
 exact no_zero (keep2 B F)
set_option maxRecDepth 100000 in
set_option maxHeartbeats 1600000 in
theorem r13open_bad (kind : Int) (x : UInt8) (rest : List UInt8) (v : Value) (B F : Assn) (w : World) (hB : Reads B v (x :: rest)) (hs : Sat (B * F) w) (hl : rest.length ≤ 1048576) (h1 : ¬ (kind = 1 ∧ rest.length = x.toNat * 13)) (h2 : ¬ (kind = 2 ∧ rest.length = x.toNat * 16)) :
 Calls Tryz.prog 156 #[.int .i64 kind, v] w (NoOut B F (nd0, 4)) := by
 obtain ⟨va, vc, rfl, hvc, hvm⟩ := (hB F w hs).len
 obtain ⟨i0, E⟩ := elemB
 haveI := hs.i
 have hx := x.toNat_lt
 obtain ⟨m, hm⟩ : ∃ m, x.toNat = m := ⟨_, rfl⟩
 obtain ⟨n, hn⟩ : ∃ n, rest.length = n := ⟨_, rfl⟩
 rw [List.length_cons, hn] at hB hvc ⊢
 rw [hn] at hl h1 h2
 have HM : Aside (x.toNat = m) := hm
 rw [hm] at h1 h2 hx
 have HB : Aside (Reads B (.slice va (n + 1) vc) (x :: rest)) := hB
 have hc1 : ∀ w, (Instr.sliceAt 26 (.slice va (n + 1) vc) (some (.int .i64 1)) none none).run Tryz.prog w = .ok (.slice (cutA va vc 1 1) n (vc - 1)) w := fun w => at_from E 1 (by omega) w
 obtain ⟨b2, o2, e5, hc0⟩ := byte_at hB hs (q := 0) (x := x) rfl
 rw [Nat.add_zero, hm] at hc0
 subst e5
 have hlen1 : ¬ ((n : Int) + 1 < 1) := by omega
 have hm13 : 13 * (m : Int) ≤ 3315 := by omega
 have hm16 : 16 * (m : Int) ≤ 4080 := by omega
 clear hB hn hm
 by_cases k1 : kind = 1
 · subst k1
   have hne : ((n : Int) == 13 * (m : Int)) = false := by simp; omega
   have hne2 : ¬ ((n : Int) = 13 * (m : Int)) := by omega
   go_enter Tryz.func156, Tryz.ntmps156
   go_wp2
   try rw [Exit.noGoto_ret]
   go_returns
   exact no_zero (keep2 B F)
 by_cases k2 : kind = 2
 · subst k2
   have hne : ((n : Int) == 16 * (m : Int)) = false := by simp; omega
   go_enter Tryz.func156, Tryz.ntmps156
   go_wp2
   try rw [Exit.noGoto_ret]
   go_returns
   exact no_zero (keep2 B F)
 · have g1 : (kind == 1) = false := by simpa using k1
   have g2 : (kind == 2) = false := by simpa using k2
   go_enter Tryz.func156, Tryz.ntmps156
   go_wp2
   try rw [Exit.noGoto_ret]
   go_returns
   exact no_zero (keep2 B F)
end Go.Proofs.YtfhbmblbidcmmaaGreat
namespace Go.Proofs.YtfhbmblbidcmmaaGreat
set_option linter.unusedSimpArgs false
set_option linter.unusedVariables false
open Go.RowKit Go.Sl Go.Tr Go.Dk
attribute [local go_sem ↓] Go.wp_at_zero Go.wp_at_succ
attribute [local go_sem] Go.Sl.cell_sat Go.Sl.frozen_sat
set_option maxRecDepth 100000 in
set_option maxHeartbeats 1600000 in
theorem r13sum_any (n : Nd) (v : Value) (B F : Assn) (w : World) (hN : ReadsN B v n) (ho : SumOk n) (hs : Sat (B * F) w) :
 Calls Tryz.prog 127 #[v] w fun e w' => e = .returned (.tuple #[.int .i64 (rSum n).1, .int .i64 (rSum n).2.1, .int .i64 (rSum n).2.2]) ∧ Sat (B * F) w' := by
 obtain ⟨vE, vK, rfl, hE, hK⟩ := hN
 obtain ⟨aE, cE, rfl, _⟩ := ReadsR.v hE
 obtain ⟨aK, cK, rfl, _⟩ := ReadsR.v hK
 have HE : Aside (ReadsE B (.slice aE n.ents.length cE) n.ents) := hE
 have HK : Aside (ReadsK B (.slice aK n.kids.length cK) n.kids) := hK
 have HO : Aside (SumOk n) := ho
 have h1 := ho.e
 have h2 := ho.k
 obtain ⟨le, hle⟩ : ∃ k, n.ents.length = k := ⟨_, rfl⟩
 obtain ⟨lk, hlk⟩ : ∃ k, n.kids.length = k := ⟨_, rfl⟩
 have HLE : Aside (n.ents.length = le) := hle
 have HLK : Aside (n.kids.length = lk) := hlk
 obtain ⟨rr, hrr⟩ : ∃ r, rSum n = r := ⟨_, rfl⟩
 have HR : Aside (rSum n = rr) := hrr
 rw [hrr]
 rw [hle] at h1 ⊢
 rw [hlk] at h2 ⊢
 clear hE hK ho hle hlk hrr
 obtain ⟨lf, hlf⟩ : ∃ b, n.leaf = b := ⟨_, rfl⟩
 rw [hlf]
 clear hlf
 haveI := hs.i
 go_enter Tryz.func127, Tryz.ntmps127
 go_wp2_with fail
 obtain ⟨N, hN⟩ : ∃ N, w.heap.size = N := ⟨_, rfl⟩
 have q0 : Sat (Sl.block N TNd [.bool lf, .slice aE le cE, .slice aK lk cK] * (B * F)) (w.alloc (.cells #[.bool lf, .slice aE le cE, .slice aK lk cK] TNd)) := by
  rw [← hN]
  exact satI
 try rw [hN]
 generalize w.alloc (.cells #[.bool lf, .slice aE le cE, .slice aK lk cK] TNd) = w0 at q0 ⊢
 clear hN hs this
 haveI := q0.i
 go_region
 go_wp2_with fail
 go_loopg [5, 6, 8] le (fun g t5 t6 t8 wr => ∃ (i : Nat) (su L : Int), t8 = .int .i64 i ∧ t5 = .int .i64 su ∧ t6 = .int .i64 L ∧ i ≤ le ∧ 0 ≤ su ∧ su ≤ i * 1048576 ∧ -1099511627777 ≤ L ∧ L ≤ i * 1048576 ∧ Aside (g = le - i ∧ su = eBytes (n.ents.take i) ∧ L = linR ((n.ents.take i).map (·.lines)) 0) ∧
  Sat (Sl.block N TNd [.bool lf, .slice aE le cE, .slice aK lk cK] * (B * F)) wr)
 case atStart => exact ⟨0, 0, 0, rfl, rfl, rfl, by omega, by omega, by omega, by omega, by omega, ⟨rfl, by simp [eBytes], by simp [linR]⟩, satI_eq (by ac_rfl)⟩
 case round =>
  obtain ⟨i, su, L, rfl, rfl, rfl, hi, hs0, hs1, hs2, hs3, A, q1⟩ := hrel
  clear q0
  haveI := q1.i
  by_cases hlt : i < le
  · have hlt' : (i : Int) < le := by omega
    obtain ⟨x, hx⟩ : ∃ x, n.ents[i]? = some x := ⟨_, List.getElem?_eq_getElem (by rw [HLE.out]; exact hlt)⟩
    obtain ⟨b, o, rfl, r1, r2, r3, r4⟩ := readsE_at HE.out hx
    have HX : Aside (n.ents[i]? = some x) := hx
    have hb := HO.out.es x (List.mem_of_getElem? hx)
    have HS : Aside (eBytes (n.ents.take (i + 1)) = su + x.len) := (by rw [eBytes_snoc hx, A.out.2.1] : _ = _)
    have HL : Aside (linR ((n.ents.take (i + 1)).map (·.lines)) 0 = (if x.lines < 0 then -1099511627776 else L) + x.lines) := (by rw [linR_at (fun e : Ent => e.lines) hx, A.out.2.2] : _ = _)
    obtain ⟨x1, x2, x3, x4⟩ := x
    simp only at r1 r2 r3 r4 hb
    clear hx
    have hw1 : IntKind.i64.wrap (su + x3) = su + x3 := IntWalk.i64_in _ (by omega)
    by_cases hn : x4 < 0
    · have hw2 : IntKind.i64.wrap (-1099511627776 + x4) = -1099511627776 + x4 := IntWalk.i64_in _ (by omega)
      go_wp2
      go_roundg (le - (i + 1))
      case measure => have := A.out.1; omega
      case rel =>
       refine ⟨i + 1, su + x3, -1099511627776 + x4, by go_num, rfl, rfl, by omega, by omega, by omega, by omega, by omega, ⟨rfl, HS.out.symm, ?_⟩, satI_eq (by ac_rfl)⟩
       rw [HL.out, if_pos hn]
    · have hw2 : IntKind.i64.wrap (L + x4) = L + x4 := IntWalk.i64_in _ (by omega)
      go_wp2
      go_roundg (le - (i + 1))
      case measure => have := A.out.1; omega
      case rel =>
       refine ⟨i + 1, su + x3, L + x4, by go_num, rfl, rfl, by omega, by omega, by omega, by omega, by omega, ⟨rfl, HS.out.symm, ?_⟩, satI_eq (by ac_rfl)⟩
       rw [HL.out, if_neg (by omega)]
  · have hlt' : ¬ (i : Int) < le := by omega
    obtain rfl : i = le := by omega
    have hx : n.ents.take i = n.ents := List.take_of_length_le (by rw [HLE.out]; exact Nat.le_refl _)
    have HA : Aside (su = eBytes n.ents ∧ L = linR (n.ents.map (·.lines)) 0) := (by have := A.out.2; rw [hx] at this; exact this : _ ∧ _)
    clear A hx hlt
    go_wp2_with fail
    go_loopg [5, 6, 7, 9] lk (fun g t5 t6 t7 t9 wr => ∃ (j : Nat) (sb M sc : Int), t9 = .int .i64 j ∧ t5 = .int .i64 sb ∧ t6 = .int .i64 M ∧ t7 = .int .i64 sc ∧ j ≤ lk ∧ 0 ≤ sb ∧ sb ≤ 12582912 + j * 1048576 ∧ -1099511627777 ≤ M ∧ M ≤ 12582912 + j * 1048576 ∧ 0 ≤ sc ∧ sc ≤ 12 + j * 1048576 ∧ Aside (g = lk - j ∧ sb = su + kBytes (n.kids.take j) ∧ M = linR ((n.kids.take j).map (·.lines)) L ∧ sc = i + kScraps (n.kids.take j)) ∧
     Sat (Sl.block N TNd [.bool lf, .slice aE i cE, .slice aK lk cK] * (B * F)) wr)
    case atStart => exact ⟨0, su, L, i, rfl, rfl, rfl, rfl, by omega, by omega, by omega, by omega, by omega, by omega, by omega, ⟨rfl, by simp [kBytes], by simp [linR], by simp [kScraps]⟩, satI_eq (by ac_rfl)⟩
    case round =>
     obtain ⟨j, sb, M, sc, rfl, rfl, rfl, rfl, hj, hs4, hs5, hs6, hs7, hs8, hs9, A, q2⟩ := hrel
     clear q1
     haveI := q2.i
     by_cases hlt : j < lk
     · have hlt' : (j : Int) < lk := by omega
       obtain ⟨x, hx⟩ : ∃ x, n.kids[j]? = some x := ⟨_, List.getElem?_eq_getElem (by rw [HLK.out]; exact hlt)⟩
       obtain ⟨b, o, rfl, r1, r2, r3, r4⟩ := readsK_at HK.out hx
       have HX : Aside (n.kids[j]? = some x) := hx
       have hb := HO.out.ks x (List.mem_of_getElem? hx)
       have HS : Aside (su + kBytes (n.kids.take (j + 1)) = sb + x.bytes) := (by rw [kBytes_snoc hx, A.out.2.1]; omega : _ = _)
       have HC : Aside ((i : Int) + kScraps (n.kids.take (j + 1)) = sc + x.scraps) := (by rw [kScraps_snoc hx, A.out.2.2.2]; omega : _ = _)
       have HL : Aside (linR ((n.kids.take (j + 1)).map (·.lines)) L = (if x.lines < 0 then -1099511627776 else M) + x.lines) := (by rw [linR_at (fun e : Kd => e.lines) hx, A.out.2.2.1] : _ = _)
       obtain ⟨x1, x2, x3, x4⟩ := x
       simp only at r1 r2 r3 r4 hb
       clear hx
       have hw1 : IntKind.i64.wrap (sb + x2) = sb + x2 := IntWalk.i64_in _ (by omega)
       have hw3 : IntKind.i64.wrap (sc + x4) = sc + x4 := IntWalk.i64_in _ (by omega)
       by_cases hn : x3 < 0
       · have hw2 : IntKind.i64.wrap (-1099511627776 + x3) = -1099511627776 + x3 := IntWalk.i64_in _ (by omega)
         go_wp2
         go_roundg (lk - (j + 1))
         case measure => have := A.out.1; omega
         case rel =>
          refine ⟨j + 1, sb + x2, -1099511627776 + x3, sc + x4, by go_num, rfl, rfl, rfl, by omega, by omega, by omega, by omega, by omega, by omega, by omega, ⟨rfl, HS.out.symm, ?_, HC.out.symm⟩, satI_eq (by ac_rfl)⟩
          rw [HL.out, if_pos hn]
       · have hw2 : IntKind.i64.wrap (M + x3) = M + x3 := IntWalk.i64_in _ (by omega)
         go_wp2
         go_roundg (lk - (j + 1))
         case measure => have := A.out.1; omega
         case rel =>
          refine ⟨j + 1, sb + x2, M + x3, sc + x4, by go_num, rfl, rfl, rfl, by omega, by omega, by omega, by omega, by omega, by omega, by omega, ⟨rfl, HS.out.symm, ?_, HC.out.symm⟩, satI_eq (by ac_rfl)⟩
          rw [HL.out, if_neg (by omega)]
     · have hlt' : ¬ (j : Int) < lk := by omega
       obtain rfl : j = lk := by omega
       have hx : n.kids.take j = n.kids := List.take_of_length_le (by rw [HLK.out]; exact Nat.le_refl _)
       have HG : Aside (rr = (sb, max M (-1), sc)) := (by
        have h3 := A.out.2
        rw [hx] at h3
        rw [← HR.out]
        unfold rSum
        rw [h3.1, h3.2.1, h3.2.2, ← HA.out.1, ← HA.out.2, HLE.out] : _ = _)
       obtain ⟨r1, r2, r3⟩ := rr
       have HG2 : Aside (r1 = sb ∧ r2 = max M (-1) ∧ r3 = sc) := (by have := HG.out; simp only [Prod.mk.injEq] at this; exact this : _ ∧ _ ∧ _)
       clear HG HR A HA hx
       go_wp2
       go_returns
       obtain ⟨e1, e2, e3⟩ := HG2.out
       subst e1 e2 e3
       exact ⟨rfl, keep2 B F⟩
end Go.Proofs.YtfhbmblbidcmmaaGreat
namespace Go.Proofs.YtfhbmblbidcmmaaGreat
set_option linter.unusedSimpArgs false
set_option linter.unusedVariables false
open Go.RowKit Go.Sl Go.Tr Go.Dk
attribute [local go_sem ↓] Go.wp_at_zero Go.wp_at_succ
attribute [local go_sem] Go.Sl.cell_sat Go.Sl.frozen_sat
set_option maxRecDepth 100000 in
set_option maxHeartbeats 3200000 in
theorem r13open_leaf (x : UInt8) (rest : List UInt8) (v : Value) (B F : Assn) (w : World) (hB : Reads B v (x :: rest)) (hs : Sat (B * F) w) (hlen : rest.length = x.toNat * 13) :
 Calls Tryz.prog 156 #[.int .i64 1, v] w (NoOut B F (if may ⟨true, ues x.toNat rest, []⟩ then (⟨true, ues x.toNat rest, []⟩, 0) else (nd0, 4))) := by
 obtain ⟨va, vc, rfl, hvc, hvm⟩ := (hB F w hs).len
 obtain ⟨iB, EB⟩ := elemB
 obtain ⟨i0, E⟩ := elemEn
 haveI := hs.i
 have hx := x.toNat_lt
 have hrest : Reads B (.slice (cutA va vc 1 1) rest.length (vc - 1)) rest := by
  have h9 := Reads.from hB 1 (by simp)
  simpa using h9
 obtain ⟨m, hm⟩ : ∃ m, x.toNat = m := ⟨_, rfl⟩
 obtain ⟨n, hn⟩ : ∃ n, rest.length = n := ⟨_, rfl⟩
 rw [List.length_cons, hn] at hB hvc ⊢
 rw [hn] at hlen hrest
 rw [hm] at hlen hx ⊢
 obtain ⟨rr, hrr⟩ : ∃ r, (if may ⟨true, ues m rest, []⟩ then ((⟨true, ues m rest, []⟩ : Nd), (0 : Int)) else (nd0, 4)) = r := ⟨_, rfl⟩
 have HRR : Aside ((if may ⟨true, ues m rest, []⟩ then ((⟨true, ues m rest, []⟩ : Nd), (0 : Int)) else (nd0, 4)) = rr) := hrr
 rw [hrr]
 clear hrr
 have hc1 : ∀ w, (Instr.sliceAt 26 (.slice va (n + 1) vc) (some (.int .i64 1)) none none).run Tryz.prog w = .ok (.slice (cutA va vc 1 1) n (vc - 1)) w := fun w => at_from EB 1 (by omega) w
 obtain ⟨b2, o2, e5, hc0⟩ := byte_at hB hs (q := 0) (x := x) rfl
 rw [Nat.add_zero, hm] at hc0
 subst e5
 obtain ⟨cv, hcv⟩ : ∃ cv, cutA (some ⟨b2, o2, none⟩) vc 1 1 = cv := ⟨_, rfl⟩
 rw [hcv] at hc1 hrest
 have HRS : Aside (Reads B (.slice cv n (vc - 1)) rest ∧ rest.length = n ∧ n ≤ vc - 1 ∧ n = m * 13) := ⟨hrest, hn, by omega, hlen⟩
 have hlen1 : ¬ ((n : Int) + 1 < 1) := by omega
 have hm13 : 13 * (m : Int) ≤ 3315 := by omega
 have heq : ((n : Int) == 13 * (m : Int)) = true := by simp; omega
 have hnm : (n : Int) = 13 * (m : Int) := by omega
 obtain ⟨cc, hcc⟩ : ∃ cc, vc - 1 = cc := ⟨_, rfl⟩
 rw [hcc] at hc1 HRS
 clear hB hn hm hrest hcv hlen hnm
 go_enter Tryz.func156, Tryz.ntmps156
 go_wp2_with fail
 obtain ⟨N, hN⟩ : ∃ N, w.heap.size = N := ⟨_, rfl⟩
 have q0 : Sat (Sl.block (N + 1) TNd [.bool true, .slice none 0 0, .slice none 0 0] * (Sl.block N TNd [.bool false, .slice none 0 0, .slice none 0 0] * (B * F))) ((w.alloc (.cells #[.bool false, .slice none 0 0, .slice none 0 0] TNd)).alloc (.cells #[.bool true, .slice none 0 0, .slice none 0 0] TNd)) := by
  rw [← hN]
  exact satI_eq (by ac_rfl)
 rw [hN]
 generalize ((w.alloc (.cells #[.bool false, .slice none 0 0, .slice none 0 0] TNd)).alloc (.cells #[.bool true, .slice none 0 0, .slice none 0 0] TNd)) = w0 at q0 ⊢
 clear hN hs this
 go_loopg [9] m (fun g t9 wr => ∃ (i : Nat) (aE : Option Addr) (cE : Nat), t9 = .int .i64 i ∧ i ≤ m ∧ Aside (g = m - i) ∧
  Sat (rw TEn 4 (.slice aE i cE) (ecs (ues i rest)) * (Sl.block (N + 1) TNd [.bool true, .slice aE i cE, .slice none 0 0] * (Sl.block N TNd [.bool false, .slice none 0 0, .slice none 0 0] * (B * F)))) wr)
 case atStart =>
  exact ⟨0, none, 0, rfl, by omega, (rfl : _ = _), Sat.rw_nil q0⟩
 case round =>
  obtain ⟨i, aE, cE, rfl, hi, A, hsr⟩ := hrel
  haveI := hsr.i
  clear q0
  by_cases hlt : i < m
  · have hlt' : (i : Int) < m := by omega
    obtain ⟨p, hp⟩ : ∃ p, 13 * i = p := ⟨_, rfl⟩
    obtain ⟨p2, hp2⟩ : ∃ p2, p + 13 = p2 := ⟨_, rfl⟩
    have hp3 : p2 ≤ n := by have := HRS.out.2.2.2; omega
    have hncc : n ≤ cc := HRS.out.2.2.1
    have hw1 : IntKind.i64.wrap (13 * (i : Int)) = (p : Int) := (IntWalk.i64_in _ (by omega)).trans (by omega)
    have hw2 : IntKind.i64.wrap ((p : Int) + 13) = (p2 : Int) := (IntWalk.i64_in _ (by omega)).trans (by omega)
    have hc2 : ∀ w, (Instr.sliceAt 26 (.slice cv n cc) (some (.int .i64 p)) (some (.int .i64 p2)) none).run Tryz.prog w = .ok (.slice (cutA cv cc p 1) 13 (cc - p)) w := fun w => by
     have h9 := at_cut (P := Tryz.prog) EB (a := cv) (n := n) (c := cc) p p2 (by omega) (by omega) w
     rw [show p2 - p = 13 by omega] at h9
     exact h9
    have r10 : Reads B (.slice (cutA cv cc p 1) 13 (cc - p)) ((rest.drop p).take 13) := fun F w h => by
     have h9 := (HRS.out.1 F w h).cut p p2 (by omega) hp3
     rw [show p2 - p = 13 by omega] at h9
     exact h9
    obtain ⟨pc, hpc⟩ : ∃ pc, (rest.drop p).take 13 = pc := ⟨_, rfl⟩
    have hpl : pc.length = 13 := by rw [← hpc, List.length_take, List.length_drop, HRS.out.2.1]; omega
    have HY : Aside (ecs (ues (i + 1) rest) = ecs (ues i rest) ++ erow (ue pc)) := (by rw [ues_snoc, hp, hpc]; simp [ecs] : _ = _)
    rw [hpc] at r10
    obtain ⟨ct, hct⟩ : ∃ ct, cutA cv cc p 1 = ct := ⟨_, rfl⟩
    obtain ⟨ce, hce⟩ : ∃ ce, cc - p = ce := ⟨_, rfl⟩
    rw [hct, hce] at r10 hc2
    have hce13 : 13 ≤ ce := by omega
    obtain ⟨x0, hx0⟩ : ∃ x0, pc[0]? = some x0 := ⟨pc[0]'(by omega), by simp⟩
    have rA : Reads B (.slice (cutA ct ce 1 1) 4 (ce - 1)) ((pc.drop 1).take 4) := fun F w h => (r10 F w h).cut 1 5 (by omega) (by omega)
    have rB : Reads B (.slice (cutA ct ce 5 1) 4 (ce - 5)) ((pc.drop 5).take 4) := fun F w h => (r10 F w h).cut 5 9 (by omega) (by omega)
    have rC : Reads B (.slice (cutA ct ce 9 1) 4 (ce - 9)) ((pc.drop 9).take 4) := fun F w h => (r10 F w h).cut 9 13 (by omega) (by omega)
    have hA : ∀ w, (Instr.sliceAt 26 (.slice ct 13 ce) (some (.int .i64 1)) (some (.int .i64 5)) none).run Tryz.prog w = .ok (.slice (cutA ct ce 1 1) 4 (ce - 1)) w := fun w => at_cut EB 1 5 (by omega) (by omega) w
    have hBs : ∀ w, (Instr.sliceAt 26 (.slice ct 13 ce) (some (.int .i64 5)) (some (.int .i64 9)) none).run Tryz.prog w = .ok (.slice (cutA ct ce 5 1) 4 (ce - 5)) w := fun w => at_cut EB 5 9 (by omega) (by omega) w
    have hC : ∀ w, (Instr.sliceAt 26 (.slice ct 13 ce) (some (.int .i64 9)) (some (.int .i64 13)) none).run Tryz.prog w = .ok (.slice (cutA ct ce 9 1) 4 (ce - 9)) w := fun w => at_cut EB 9 13 (by omega) (by omega) w
    have nA := fun F w q => rnumber_any _ _ B F w rA q (by simp; omega)
    have nB := fun F w q => rnumber_any _ _ B F w rB q (by simp; omega)
    have nC := fun F w q => rnumber_any _ _ B F w rC q (by simp; omega)
    have hue : ue pc = ⟨(x0.toNat : Int), i4 (lei ((pc.drop 1).take 4)), i4 (lei ((pc.drop 5).take 4)), i4 (lei ((pc.drop 9).take 4))⟩ := by
     have h9 : lei (pc.take 1) = x0.toNat := by
      cases pc with
      | nil => simp at hx0
      | cons y l => simp at hx0; subst hx0; exact lei1 _
     unfold ue
     rw [h9]
    obtain ⟨y2, hy2⟩ : ∃ y, i4 (lei ((pc.drop 1).take 4)) = y := ⟨_, rfl⟩
    obtain ⟨y3, hy3⟩ : ∃ y, i4 (lei ((pc.drop 5).take 4)) = y := ⟨_, rfl⟩
    obtain ⟨y4, hy4⟩ : ∃ y, i4 (lei ((pc.drop 9).take 4)) = y := ⟨_, rfl⟩
    rw [hy2] at nA hue
    rw [hy3] at nB hue
    rw [hy4] at nC hue
    rw [hue] at HY
    have hq := hsr.take B
    obtain ⟨bb, oo, e6, hb0⟩ := byte_at r10 hq hx0
    rw [Nat.add_zero] at hb0
    subst e6
    obtain ⟨cA, hcA⟩ : ∃ cA, cutA (some ⟨bb, oo, none⟩) ce 1 1 = cA := ⟨_, rfl⟩
    obtain ⟨cB, hcB⟩ : ∃ cB, cutA (some ⟨bb, oo, none⟩) ce 5 1 = cB := ⟨_, rfl⟩
    obtain ⟨cC, hcC⟩ : ∃ cC, cutA (some ⟨bb, oo, none⟩) ce 9 1 = cC := ⟨_, rfl⟩
    rw [hcA] at hA nA
    rw [hcB] at hBs nB
    rw [hcC] at hC nC
    have NA : Aside (∀ (F : Assn) (w : World), Sat (B * F) w → Calls Tryz.prog 179 #[.slice cA 4 (ce - 1)] w fun e w' => e = .returned (.int .i64 y2) ∧ w = w') := nA
    have NB : Aside (∀ (F : Assn) (w : World), Sat (B * F) w → Calls Tryz.prog 179 #[.slice cB 4 (ce - 5)] w fun e w' => e = .returned (.int .i64 y3) ∧ w = w') := nB
    have NC : Aside (∀ (F : Assn) (w : World), Sat (B * F) w → Calls Tryz.prog 179 #[.slice cC 4 (ce - 9)] w fun e w' => e = .returned (.int .i64 y4) ∧ w = w') := nC
    have hx08 := x0.toNat_lt
    have hwx : IntKind.i64.wrap (x0.toNat : Int) = (x0.toNat : Int) := IntWalk.i64_in _ (by omega)
    clear nA nB nC rA rB rC r10 hue hy2 hy3 hy4 hcA hcB hcC hq hx0 hct hce hpc hpl hp hp2 hp3 hncc
    have him : i ≤ 255 := by omega
    go_upto_region 12 with (fail)
    refine Dr.wpB_start (fun w' => w'.cell? ⟨N + 1, 1, none⟩ = some (.slice aE i cE) ∧ w'.cell? ⟨bb, oo, none⟩ = some (.int .u8 x0.toNat)) [19, 20] (by kernel_rfl) ⟨cell_sat _ _ _, cell_sat _ _ _⟩ (fun hHeld => ?_)
    refine Dr.wpB_pure 0 (v := ?v0) (by simp only [List.getElem?_toArray, List.getElem?_cons_succ, List.getElem?_cons_zero]; rfl) (by kernel_rfl) ?hQ0 (.inl ⟨?hw0, fun w' => ?hy0⟩) ?_
    case hy0 => go_simp; try (with_reducible rfl)
    case hQ0 => exact fun _ _ _ h => h
    case hw0 => rfl
    simp only [Act.put, List.setIfInBounds_toArray, List.set_cons_zero, List.set_cons_succ]
    refine Dr.wpB_take 1 (v := ?v1) (by simp only [List.getElem?_toArray, List.getElem?_cons_succ, List.getElem?_cons_zero]; rfl) (by kernel_rfl) ?hQ1 (.inl ⟨?hw1, fun w' hw => ?hy1⟩) hHeld ?_
    case hy1 => (try dsimp only at hw); go_simp; try (with_reducible rfl)
    case hQ1 => exact fun _ _ _ h => h
    case hw1 => rfl
    simp only [Act.put, List.setIfInBounds_toArray, List.set_cons_zero, List.set_cons_succ]
    refine Dr.wpB_pure 2 (v := ?v2) (by simp only [List.getElem?_toArray, List.getElem?_cons_succ, List.getElem?_cons_zero]; rfl) (by kernel_rfl) ?hQ2 (.inl ⟨?hw2, fun w' => ?hy2⟩) ?_
    case hy2 => go_simp; try (with_reducible rfl)
    case hQ2 => exact fun _ _ _ h => h
    case hw2 => rfl
    simp only [Act.put, List.setIfInBounds_toArray, List.set_cons_zero, List.set_cons_succ]
    refine Dr.wpB_pure 3 (v := ?v3) (by simp only [List.getElem?_toArray, List.getElem?_cons_succ, List.getElem?_cons_zero]; rfl) (by kernel_rfl) ?hQ3 (.inl ⟨?hw3, fun w' => ?hy3⟩) ?_
    case hy3 => go_simp; try (with_reducible rfl)
    case hQ3 => exact fun _ _ _ h => h
    case hw3 => rfl
    simp only [Act.put, List.setIfInBounds_toArray, List.set_cons_zero, List.set_cons_succ]
    refine Dr.wpB_take 4 (v := ?v4) (by simp only [List.getElem?_toArray, List.getElem?_cons_succ, List.getElem?_cons_zero]; rfl) (by kernel_rfl) ?hQ4 (.inl ⟨?hw4, fun w' hw => ?hy4⟩) hHeld ?_
    case hy4 => (try dsimp only at hw); go_simp; try (with_reducible rfl)
    case hQ4 => exact fun _ _ _ h => h
    case hw4 => rfl
    simp only [Act.put, List.setIfInBounds_toArray, List.set_cons_zero, List.set_cons_succ]
    refine Dr.wpB_pure 5 (v := ?v5) (by simp only [List.getElem?_toArray, List.getElem?_cons_succ, List.getElem?_cons_zero]; rfl) (by kernel_rfl) ?hQ5 (.inl ⟨?hw5, fun w' => ?hy5⟩) ?_
    case hy5 => go_simp; try (with_reducible rfl)
    case hQ5 => exact fun _ _ _ h => h
    case hw5 => rfl
    simp only [Act.put, List.setIfInBounds_toArray, List.set_cons_zero, List.set_cons_succ]
    refine Dr.wpB_pure 6 (v := ?v6) (by simp only [List.getElem?_toArray, List.getElem?_cons_succ, List.getElem?_cons_zero]; rfl) (by kernel_rfl) ?hQ6 (.inl ⟨?hw6, fun w' => ?hy6⟩) ?_
    case hy6 => go_simp; try (with_reducible rfl)
    case hQ6 => exact fun _ _ _ h => h
    case hw6 => rfl
    simp only [Act.put, List.setIfInBounds_toArray, List.set_cons_zero, List.set_cons_succ]
    refine Dr.wpB_pure 7 (v := ?v7) (by simp only [List.getElem?_toArray, List.getElem?_cons_succ, List.getElem?_cons_zero]; rfl) (by kernel_rfl) ?hQ7 (.inl ⟨?hw7, fun w' => ?hy7⟩) ?_
    case hy7 => go_simp; try (with_reducible rfl)
    case hQ7 => exact fun _ _ _ h => h
    case hw7 => rfl
    simp only [Act.put, List.setIfInBounds_toArray, List.set_cons_zero, List.set_cons_succ]
    refine Dr.wpB_pure 9 (v := ?v9) (by simp only [List.getElem?_toArray, List.getElem?_cons_succ, List.getElem?_cons_zero]; rfl) (by kernel_rfl) ?hQ9 (.inl ⟨?hw9, fun w' => ?hy9⟩) ?_
    case hy9 => go_simp; try (with_reducible rfl)
    case hQ9 => exact fun _ _ _ h => h
    case hw9 => rfl
    simp only [Act.put, List.setIfInBounds_toArray, List.set_cons_zero, List.set_cons_succ]
    refine Dr.wpB_pure 10 (v := ?v10) (by simp only [List.getElem?_toArray, List.getElem?_cons_succ, List.getElem?_cons_zero]; rfl) (by kernel_rfl) ?hQ10 (.inl ⟨?hw10, fun w' => ?hy10⟩) ?_
    case hy10 => go_simp; try (with_reducible rfl)
    case hQ10 => exact fun _ _ _ h => h
    case hw10 => rfl
    simp only [Act.put, List.setIfInBounds_toArray, List.set_cons_zero, List.set_cons_succ]
    refine Dr.wpB_pure 13 (v := ?v13) (by simp only [List.getElem?_toArray, List.getElem?_cons_succ, List.getElem?_cons_zero]; rfl) (by kernel_rfl) ?hQ13 (.inl ⟨?hw13, fun w' => ?hy13⟩) ?_
    case hy13 => go_simp; try (with_reducible rfl)
    case hQ13 => exact fun _ _ _ h => h
    case hw13 => rfl
    simp only [Act.put, List.setIfInBounds_toArray, List.set_cons_zero, List.set_cons_succ]
    refine Dr.wpB_pure 14 (v := ?v14) (by simp only [List.getElem?_toArray, List.getElem?_cons_succ, List.getElem?_cons_zero]; rfl) (by kernel_rfl) ?hQ14 (.inl ⟨?hw14, fun w' => ?hy14⟩) ?_
    case hy14 => go_simp; try (with_reducible rfl)
    case hQ14 => exact fun _ _ _ h => h
    case hw14 => rfl
    simp only [Act.put, List.setIfInBounds_toArray, List.set_cons_zero, List.set_cons_succ]
    refine Dr.wpB_one 8 (by simp only [List.getElem?_toArray, List.getElem?_cons_succ, List.getElem?_cons_zero]; rfl) (by kernel_rfl) ?_
    go_wp2_with ((go_simp; go_at_call 179; with_reducible refine Calls.mono (NA.out _ _ (takeI B)) ?_; rintro e w7 ⟨rfl, rfl⟩))
    refine Dr.nextQ_n ⟨⟨cell_sat _ _ _, cell_sat _ _ _⟩, ?_⟩
    refine Dr.wpB_one 11 (by simp only [List.getElem?_toArray, List.getElem?_cons_succ, List.getElem?_cons_zero]; rfl) (by kernel_rfl) ?_
    go_wp2_with ((go_simp; go_at_call 179; with_reducible refine Calls.mono (NB.out _ _ (takeI B)) ?_; rintro e w7 ⟨rfl, rfl⟩))
    refine Dr.nextQ_n ⟨⟨cell_sat _ _ _, cell_sat _ _ _⟩, ?_⟩
    refine Dr.wpB_pure 12 (v := ?v12) (by simp only [List.getElem?_toArray, List.getElem?_cons_succ, List.getElem?_cons_zero]; rfl) (by kernel_rfl) ?hQ12 (.inl ⟨?hw12, fun w' => ?hy12⟩) ?_
    case hy12 => go_simp; try (with_reducible rfl)
    case hQ12 => exact fun _ _ _ h => h
    case hw12 => rfl
    simp only [Act.put, List.setIfInBounds_toArray, List.set_cons_zero, List.set_cons_succ]
    refine Dr.wpB_one 15 (by simp only [List.getElem?_toArray, List.getElem?_cons_succ, List.getElem?_cons_zero]; rfl) (by kernel_rfl) ?_
    go_wp2_with ((go_simp; go_at_call 179; with_reducible refine Calls.mono (NC.out _ _ (takeI B)) ?_; rintro e w7 ⟨rfl, rfl⟩))
    refine Dr.nextQ_n ⟨⟨cell_sat _ _ _, cell_sat _ _ _⟩, ?_⟩
    refine Dr.wpB_one 16 (by simp only [List.getElem?_toArray, List.getElem?_cons_succ, List.getElem?_cons_zero]; rfl) (by kernel_rfl) ?_
    go_wp2_with (fail)
    refine Dr.nextQ_n ⟨⟨cell_sat _ _ _, cell_sat _ _ _⟩, ?_⟩
    refine Dr.wpB_one 17 (by simp only [List.getElem?_toArray, List.getElem?_cons_succ, List.getElem?_cons_zero]; rfl) (by kernel_rfl) ?_
    go_wp2_with (fail)
    refine Dr.nextQ_n ⟨⟨cell_sat _ _ _, cell_sat _ _ _⟩, ?_⟩
    refine Dr.wpB_one 18 (by simp only [List.getElem?_toArray, List.getElem?_cons_succ, List.getElem?_cons_zero]; rfl) (by kernel_rfl) ?_
    go_wp2_with (at_builtin; refine wpl_append_same E rfl (.tmp 46) (.tmp 62) rfl rfl rfl (takeI (rw TEn 4 (.slice aE i cE) (ecs (ues i rest)))) (Src.new (e := TEn) (s := 4) (vs := [.int .i64 (x0.toNat : Int), .int .i64 y2, .int .i64 y3, .int .i64 y4]) (takeI (Sl.block _ TEn [.int .i64 (x0.toNat : Int), .int .i64 y2, .int .i64 y3, .int .i64 y4])) rfl (by intro u hu; simp at hu; rcases hu with rfl | rfl | rfl | rfl <;> rfl)) (by unfold maxLen; omega) (by omega) ?_; intro a9 c9 w9 hs9 hnil; clear hnil; haveI := hs9.i)
    refine Dr.nextQ_n ⟨⟨cell_sat _ _ _, cell_sat _ _ _⟩, ?_⟩
    refine Dr.wpB_tail [19, 20] (os := [_, _]) (by decide) (by simp only [List.map_cons, List.map_nil, List.getElem?_toArray, List.getElem?_cons_succ, List.getElem?_cons_zero]; rfl) (by kernel_rfl) ?_
    go_wp2_with fail
    go_roundg (m - (i + 1))
    case measure => have := A.out; omega
    case rel =>
     refine ⟨i + 1, a9, c9, by go_num, by omega, (rfl : _ = _), ?_⟩
     rw [HY.out]
     exact satI_weak (C := Sl.block wr.heap.size TEn [.int .i64 x0.toNat, .int .i64 y2, .int .i64 y3, .int .i64 y4]) (by unfold erow; ac_rfl)
  · have hlt' : ¬ (i : Int) < m := by omega
    obtain rfl : i = m := by omega
    have hue := ues_len rest i
    have hRE : ReadsE (rw TEn 4 (.slice aE i cE) (ecs (ues i rest))) (.slice aE i cE) (ues i rest) := readsE_rw hsr hue.symm
    obtain ⟨es, hes⟩ : ∃ es, ues i rest = es := ⟨_, rfl⟩
    rw [hes] at hue hRE hsr
    have HES : Aside (ues i rest = es) := hes
    have HRR2 : Aside ((if may ⟨true, es, []⟩ then ((⟨true, es, []⟩ : Nd), (0 : Int)) else (nd0, 4)) = rr) := (by rw [← HRR.out, hes] : _ = _)
    have hR2 : ReadsE (rw TEn 4 (.slice aE i cE) (ecs es)) (.slice aE es.length cE) es := by rw [hue]; exact hRE
    have hmay := r13may_leaf es aE cE _ _ wr hR2 hsr
    rw [hue] at hmay
    have HR2 : Aside (ReadsE (rw TEn 4 (.slice aE i cE) (ecs es)) (.slice aE i cE) es) := hRE
    haveI := hsr.i
    obtain ⟨mb, hmb⟩ : ∃ b, may ⟨true, es, []⟩ = b := ⟨_, rfl⟩
    rw [hmb] at hmay
    have HMB : Aside (may ⟨true, es, []⟩ = mb) := hmb
    clear hes hue hRE hR2 hmb HES
    go_wp2_with fail
    with_reducible refine Calls.mono hmay ?_
    rintro e w7 ⟨rfl, q7⟩
    haveI := q7.i
    clear hmay hsr
    cases mb with
    | true =>
      have HF : Aside (rr = (⟨true, es, []⟩, 0)) := (by rw [← HRR2.out, HMB.out]; rfl : _ = _)
      go_wp2
      go_returns
      rw [HF.out]
      exact ⟨_, _, rfl, ⟨_, _, rfl, HR2.out, ReadsR.nil 4 _⟩, keep3 _ B F⟩
    | false =>
      have HF : Aside (rr = (nd0, 4)) := (by rw [← HRR2.out, HMB.out]; rfl : _ = _)
      go_wp2
      go_returns
      rw [HF.out]
      exact no_zero (keep2 B F)
end Go.Proofs.YtfhbmblbidcmmaaGreat
namespace Go.Proofs.YtfhbmblbidcmmaaGreat
set_option linter.unusedSimpArgs false
set_option linter.unusedVariables false
open Go.RowKit Go.Sl Go.Tr Go.Dk
attribute [local go_sem ↓] Go.wp_at_zero Go.wp_at_succ
attribute [local go_sem] Go.Sl.cell_sat Go.Sl.frozen_sat
set_option maxRecDepth 100000 in
set_option maxHeartbeats 3200000 in
theorem r13open_kids (x : UInt8) (rest : List UInt8) (v : Value) (B F : Assn) (w : World) (hB : Reads B v (x :: rest)) (hs : Sat (B * F) w) (hlen : rest.length = x.toNat * 16) :
 Calls Tryz.prog 156 #[.int .i64 2, v] w (NoOut B F (if may ⟨false, [], uks x.toNat rest⟩ then (⟨false, [], uks x.toNat rest⟩, 0) else (nd0, 4))) := by
 obtain ⟨va, vc, rfl, hvc, hvm⟩ := (hB F w hs).len
 obtain ⟨iB, EB⟩ := elemB
 obtain ⟨i0, E⟩ := elemKd
 haveI := hs.i
 have hx := x.toNat_lt
 have hrest : Reads B (.slice (cutA va vc 1 1) rest.length (vc - 1)) rest := by
  have h9 := Reads.from hB 1 (by simp)
  simpa using h9
 obtain ⟨m, hm⟩ : ∃ m, x.toNat = m := ⟨_, rfl⟩
 obtain ⟨n, hn⟩ : ∃ n, rest.length = n := ⟨_, rfl⟩
 rw [List.length_cons, hn] at hB hvc ⊢
 rw [hn] at hlen hrest
 rw [hm] at hlen hx ⊢
 obtain ⟨rr, hrr⟩ : ∃ r, (if may ⟨false, [], uks m rest⟩ then ((⟨false, [], uks m rest⟩ : Nd), (0 : Int)) else (nd0, 4)) = r := ⟨_, rfl⟩
 have HRR : Aside ((if may ⟨false, [], uks m rest⟩ then ((⟨false, [], uks m rest⟩ : Nd), (0 : Int)) else (nd0, 4)) = rr) := hrr
 rw [hrr]
 clear hrr
 have hc1 : ∀ w, (Instr.sliceAt 26 (.slice va (n + 1) vc) (some (.int .i64 1)) none none).run Tryz.prog w = .ok (.slice (cutA va vc 1 1) n (vc - 1)) w := fun w => at_from EB 1 (by omega) w
 obtain ⟨b2, o2, e5, hc0⟩ := byte_at hB hs (q := 0) (x := x) rfl
 rw [Nat.add_zero, hm] at hc0
 subst e5
 obtain ⟨cv, hcv⟩ : ∃ cv, cutA (some ⟨b2, o2, none⟩) vc 1 1 = cv := ⟨_, rfl⟩
 rw [hcv] at hc1 hrest
 have HRS : Aside (Reads B (.slice cv n (vc - 1)) rest ∧ rest.length = n ∧ n ≤ vc - 1 ∧ n = m * 16) := ⟨hrest, hn, by omega, hlen⟩
 have hlen1 : ¬ ((n : Int) + 1 < 1) := by omega
 have hm13 : 16 * (m : Int) ≤ 4080 := by omega
 have heq : ((n : Int) == 16 * (m : Int)) = true := by simp; omega
 have hnm : (n : Int) = 16 * (m : Int) := by omega
 obtain ⟨cc, hcc⟩ : ∃ cc, vc - 1 = cc := ⟨_, rfl⟩
 rw [hcc] at hc1 HRS
 clear hB hn hm hrest hcv hlen hnm
 go_enter Tryz.func156, Tryz.ntmps156
 go_wp2_with fail
 obtain ⟨N, hN⟩ : ∃ N, w.heap.size = N := ⟨_, rfl⟩
 have q0 : Sat (Sl.block (N + 1) TNd [.bool false, .slice none 0 0, .slice none 0 0] * (Sl.block N TNd [.bool false, .slice none 0 0, .slice none 0 0] * (B * F))) ((w.alloc (.cells #[.bool false, .slice none 0 0, .slice none 0 0] TNd)).alloc (.cells #[.bool false, .slice none 0 0, .slice none 0 0] TNd)) := by
  rw [← hN]
  exact satI_eq (by ac_rfl)
 rw [hN]
 generalize ((w.alloc (.cells #[.bool false, .slice none 0 0, .slice none 0 0] TNd)).alloc (.cells #[.bool false, .slice none 0 0, .slice none 0 0] TNd)) = w0 at q0 ⊢
 clear hN hs this
 go_loopg [11] m (fun g t11 wr => ∃ (i : Nat) (aE : Option Addr) (cE : Nat), t11 = .int .i64 i ∧ i ≤ m ∧ Aside (g = m - i) ∧
  Sat (rw TKd 4 (.slice aE i cE) (kcs (uks i rest)) * (Sl.block (N + 1) TNd [.bool false, .slice none 0 0, .slice aE i cE] * (Sl.block N TNd [.bool false, .slice none 0 0, .slice none 0 0] * (B * F)))) wr)
 case atStart =>
  exact ⟨0, none, 0, rfl, by omega, (rfl : _ = _), Sat.rw_nil q0⟩
 case round =>
  obtain ⟨i, aE, cE, rfl, hi, A, hsr⟩ := hrel
  haveI := hsr.i
  clear q0
  by_cases hlt : i < m
  · have hlt' : (i : Int) < m := by omega
    obtain ⟨p, hp⟩ : ∃ p, 16 * i = p := ⟨_, rfl⟩
    obtain ⟨p2, hp2⟩ : ∃ p2, p + 16 = p2 := ⟨_, rfl⟩
    have hp3 : p2 ≤ n := by have := HRS.out.2.2.2; omega
    have hncc : n ≤ cc := HRS.out.2.2.1
    have hw1 : IntKind.i64.wrap (16 * (i : Int)) = (p : Int) := (IntWalk.i64_in _ (by omega)).trans (by omega)
    have hw2 : IntKind.i64.wrap ((p : Int) + 16) = (p2 : Int) := (IntWalk.i64_in _ (by omega)).trans (by omega)
    have hc2 : ∀ w, (Instr.sliceAt 26 (.slice cv n cc) (some (.int .i64 p)) (some (.int .i64 p2)) none).run Tryz.prog w = .ok (.slice (cutA cv cc p 1) 16 (cc - p)) w := fun w => by
     have h9 := at_cut (P := Tryz.prog) EB (a := cv) (n := n) (c := cc) p p2 (by omega) (by omega) w
     rw [show p2 - p = 16 by omega] at h9
     exact h9
    have r10 : Reads B (.slice (cutA cv cc p 1) 16 (cc - p)) ((rest.drop p).take 16) := fun F w h => by
     have h9 := (HRS.out.1 F w h).cut p p2 (by omega) hp3
     rw [show p2 - p = 16 by omega] at h9
     exact h9
    obtain ⟨pc, hpc⟩ : ∃ pc, (rest.drop p).take 16 = pc := ⟨_, rfl⟩
    have hpl : pc.length = 16 := by rw [← hpc, List.length_take, List.length_drop, HRS.out.2.1]; omega
    have HY : Aside (kcs (uks (i + 1) rest) = kcs (uks i rest) ++ krow (uk pc)) := (by rw [uks_snoc, hp, hpc]; simp [kcs] : _ = _)
    rw [hpc] at r10
    obtain ⟨ct, hct⟩ : ∃ ct, cutA cv cc p 1 = ct := ⟨_, rfl⟩
    obtain ⟨ce, hce⟩ : ∃ ce, cc - p = ce := ⟨_, rfl⟩
    rw [hct, hce] at r10 hc2
    have hce13 : 16 ≤ ce := by omega
    have rA : Reads B (.slice (cutA ct ce 0 1) 4 ce) (pc.take 4) := fun F w h => (r10 F w h).cut 0 4 (by omega) (by omega)
    have rB : Reads B (.slice (cutA ct ce 4 1) 4 (ce - 4)) ((pc.drop 4).take 4) := fun F w h => (r10 F w h).cut 4 8 (by omega) (by omega)
    have rC : Reads B (.slice (cutA ct ce 8 1) 4 (ce - 8)) ((pc.drop 8).take 4) := fun F w h => (r10 F w h).cut 8 12 (by omega) (by omega)
    have rD : Reads B (.slice (cutA ct ce 12 1) 4 (ce - 12)) ((pc.drop 12).take 4) := fun F w h => (r10 F w h).cut 12 16 (by omega) (by omega)
    have hA : ∀ w, (Instr.sliceAt 26 (.slice ct 16 ce) (some (.int .i64 0)) (some (.int .i64 4)) none).run Tryz.prog w = .ok (.slice (cutA ct ce 0 1) 4 ce) w := fun w => at_cut EB 0 4 (by omega) (by omega) w
    have hBs : ∀ w, (Instr.sliceAt 26 (.slice ct 16 ce) (some (.int .i64 4)) (some (.int .i64 8)) none).run Tryz.prog w = .ok (.slice (cutA ct ce 4 1) 4 (ce - 4)) w := fun w => at_cut EB 4 8 (by omega) (by omega) w
    have hC : ∀ w, (Instr.sliceAt 26 (.slice ct 16 ce) (some (.int .i64 8)) (some (.int .i64 12)) none).run Tryz.prog w = .ok (.slice (cutA ct ce 8 1) 4 (ce - 8)) w := fun w => at_cut EB 8 12 (by omega) (by omega) w
    have hD : ∀ w, (Instr.sliceAt 26 (.slice ct 16 ce) (some (.int .i64 12)) (some (.int .i64 16)) none).run Tryz.prog w = .ok (.slice (cutA ct ce 12 1) 4 (ce - 12)) w := fun w => at_cut EB 12 16 (by omega) (by omega) w
    have nA := fun F w q => rnumber_any _ _ B F w rA q (by simp; omega)
    have nB := fun F w q => rnumber_any _ _ B F w rB q (by simp; omega)
    have nC := fun F w q => rnumber_any _ _ B F w rC q (by simp; omega)
    have nD := fun F w q => rnumber_any _ _ B F w rD q (by simp; omega)
    have huk : uk pc = ⟨i4 (lei (pc.take 4)), i4 (lei ((pc.drop 4).take 4)), i4 (lei ((pc.drop 8).take 4)), i4 (lei ((pc.drop 12).take 4))⟩ := rfl
    obtain ⟨y1, hy1⟩ : ∃ y, i4 (lei (pc.take 4)) = y := ⟨_, rfl⟩
    obtain ⟨y2, hy2⟩ : ∃ y, i4 (lei ((pc.drop 4).take 4)) = y := ⟨_, rfl⟩
    obtain ⟨y3, hy3⟩ : ∃ y, i4 (lei ((pc.drop 8).take 4)) = y := ⟨_, rfl⟩
    obtain ⟨y4, hy4⟩ : ∃ y, i4 (lei ((pc.drop 12).take 4)) = y := ⟨_, rfl⟩
    rw [hy1] at nA
    rw [hy2] at nB
    rw [hy3] at nC
    rw [hy4] at nD
    rw [huk, hy1, hy2, hy3, hy4] at HY
    obtain ⟨cA, hcA⟩ : ∃ cA, cutA ct ce 0 1 = cA := ⟨_, rfl⟩
    obtain ⟨cB, hcB⟩ : ∃ cB, cutA ct ce 4 1 = cB := ⟨_, rfl⟩
    obtain ⟨cC, hcC⟩ : ∃ cC, cutA ct ce 8 1 = cC := ⟨_, rfl⟩
    obtain ⟨cD, hcD⟩ : ∃ cD, cutA ct ce 12 1 = cD := ⟨_, rfl⟩
    rw [hcA] at hA nA
    rw [hcB] at hBs nB
    rw [hcC] at hC nC
    rw [hcD] at hD nD
    have NA : Aside (∀ (F : Assn) (w : World), Sat (B * F) w → Calls Tryz.prog 179 #[.slice cA 4 ce] w fun e w' => e = .returned (.int .i64 y1) ∧ w = w') := nA
    have NB : Aside (∀ (F : Assn) (w : World), Sat (B * F) w → Calls Tryz.prog 179 #[.slice cB 4 (ce - 4)] w fun e w' => e = .returned (.int .i64 y2) ∧ w = w') := nB
    have NC : Aside (∀ (F : Assn) (w : World), Sat (B * F) w → Calls Tryz.prog 179 #[.slice cC 4 (ce - 8)] w fun e w' => e = .returned (.int .i64 y3) ∧ w = w') := nC
    have ND : Aside (∀ (F : Assn) (w : World), Sat (B * F) w → Calls Tryz.prog 179 #[.slice cD 4 (ce - 12)] w fun e w' => e = .returned (.int .i64 y4) ∧ w = w') := nD
    clear nA nB nC nD rA rB rC rD r10 huk hy1 hy2 hy3 hy4 hcA hcB hcC hcD hct hce hpc hpl hp hp2 hp3 hncc
    have him : i ≤ 255 := by omega
    go_upto_region 18 with (fail)
    refine Dr.wpB_start (fun w' => w'.cell? ⟨N + 1, 2, none⟩ = some (.slice aE i cE)) [17, 18] (by kernel_rfl) (cell_sat _ _ _) (fun hHeld => ?_)
    refine Dr.wpB_pure 0 (v := ?v0) (by simp only [List.getElem?_toArray, List.getElem?_cons_succ, List.getElem?_cons_zero]; rfl) (by kernel_rfl) ?hQ0 (.inl ⟨?hw0, fun w' => ?hy0⟩) ?_
    case hy0 => go_simp; try (with_reducible rfl)
    case hQ0 => exact fun _ _ _ h => h
    case hw0 => rfl
    simp only [Act.put, List.setIfInBounds_toArray, List.set_cons_zero, List.set_cons_succ]
    refine Dr.wpB_take 1 (v := ?v1) (by simp only [List.getElem?_toArray, List.getElem?_cons_succ, List.getElem?_cons_zero]; rfl) (by kernel_rfl) ?hQ1 (.inl ⟨?hw1, fun w' hw => ?hy1⟩) hHeld ?_
    case hy1 => (try dsimp only at hw); go_simp; try (with_reducible rfl)
    case hQ1 => exact fun _ _ _ h => h
    case hw1 => rfl
    simp only [Act.put, List.setIfInBounds_toArray, List.set_cons_zero, List.set_cons_succ]
    refine Dr.wpB_pure 2 (v := ?v2) (by simp only [List.getElem?_toArray, List.getElem?_cons_succ, List.getElem?_cons_zero]; rfl) (by kernel_rfl) ?hQ2 (.inl ⟨?hw2, fun w' => ?hy2⟩) ?_
    case hy2 => go_simp; try (with_reducible rfl)
    case hQ2 => exact fun _ _ _ h => h
    case hw2 => rfl
    simp only [Act.put, List.setIfInBounds_toArray, List.set_cons_zero, List.set_cons_succ]
    refine Dr.wpB_pure 3 (v := ?v3) (by simp only [List.getElem?_toArray, List.getElem?_cons_succ, List.getElem?_cons_zero]; rfl) (by kernel_rfl) ?hQ3 (.inl ⟨?hw3, fun w' => ?hy3⟩) ?_
    case hy3 => go_simp; try (with_reducible rfl)
    case hQ3 => exact fun _ _ _ h => h
    case hw3 => rfl
    simp only [Act.put, List.setIfInBounds_toArray, List.set_cons_zero, List.set_cons_succ]
    refine Dr.wpB_pure 5 (v := ?v5) (by simp only [List.getElem?_toArray, List.getElem?_cons_succ, List.getElem?_cons_zero]; rfl) (by kernel_rfl) ?hQ5 (.inl ⟨?hw5, fun w' => ?hy5⟩) ?_
    case hy5 => go_simp; try (with_reducible rfl)
    case hQ5 => exact fun _ _ _ h => h
    case hw5 => rfl
    simp only [Act.put, List.setIfInBounds_toArray, List.set_cons_zero, List.set_cons_succ]
    refine Dr.wpB_pure 6 (v := ?v6) (by simp only [List.getElem?_toArray, List.getElem?_cons_succ, List.getElem?_cons_zero]; rfl) (by kernel_rfl) ?hQ6 (.inl ⟨?hw6, fun w' => ?hy6⟩) ?_
    case hy6 => go_simp; try (with_reducible rfl)
    case hQ6 => exact fun _ _ _ h => h
    case hw6 => rfl
    simp only [Act.put, List.setIfInBounds_toArray, List.set_cons_zero, List.set_cons_succ]
    refine Dr.wpB_pure 8 (v := ?v8) (by simp only [List.getElem?_toArray, List.getElem?_cons_succ, List.getElem?_cons_zero]; rfl) (by kernel_rfl) ?hQ8 (.inl ⟨?hw8, fun w' => ?hy8⟩) ?_
    case hy8 => go_simp; try (with_reducible rfl)
    case hQ8 => exact fun _ _ _ h => h
    case hw8 => rfl
    simp only [Act.put, List.setIfInBounds_toArray, List.set_cons_zero, List.set_cons_succ]
    refine Dr.wpB_pure 9 (v := ?v9) (by simp only [List.getElem?_toArray, List.getElem?_cons_succ, List.getElem?_cons_zero]; rfl) (by kernel_rfl) ?hQ9 (.inl ⟨?hw9, fun w' => ?hy9⟩) ?_
    case hy9 => go_simp; try (with_reducible rfl)
    case hQ9 => exact fun _ _ _ h => h
    case hw9 => rfl
    simp only [Act.put, List.setIfInBounds_toArray, List.set_cons_zero, List.set_cons_succ]
    refine Dr.wpB_pure 11 (v := ?v11) (by simp only [List.getElem?_toArray, List.getElem?_cons_succ, List.getElem?_cons_zero]; rfl) (by kernel_rfl) ?hQ11 (.inl ⟨?hw11, fun w' => ?hy11⟩) ?_
    case hy11 => go_simp; try (with_reducible rfl)
    case hQ11 => exact fun _ _ _ h => h
    case hw11 => rfl
    simp only [Act.put, List.setIfInBounds_toArray, List.set_cons_zero, List.set_cons_succ]
    refine Dr.wpB_pure 12 (v := ?v12) (by simp only [List.getElem?_toArray, List.getElem?_cons_succ, List.getElem?_cons_zero]; rfl) (by kernel_rfl) ?hQ12 (.inl ⟨?hw12, fun w' => ?hy12⟩) ?_
    case hy12 => go_simp; try (with_reducible rfl)
    case hQ12 => exact fun _ _ _ h => h
    case hw12 => rfl
    simp only [Act.put, List.setIfInBounds_toArray, List.set_cons_zero, List.set_cons_succ]
    refine Dr.wpB_one 4 (by simp only [List.getElem?_toArray, List.getElem?_cons_succ, List.getElem?_cons_zero]; rfl) (by kernel_rfl) ?_
    go_wp2_with ((go_simp; go_at_call 179; with_reducible refine Calls.mono (NA.out _ _ (takeI B)) ?_; rintro e w7 ⟨rfl, rfl⟩))
    refine Dr.nextQ_n ⟨(cell_sat _ _ _), ?_⟩
    refine Dr.wpB_one 7 (by simp only [List.getElem?_toArray, List.getElem?_cons_succ, List.getElem?_cons_zero]; rfl) (by kernel_rfl) ?_
    go_wp2_with ((go_simp; go_at_call 179; with_reducible refine Calls.mono (NB.out _ _ (takeI B)) ?_; rintro e w7 ⟨rfl, rfl⟩))
    refine Dr.nextQ_n ⟨(cell_sat _ _ _), ?_⟩
    refine Dr.wpB_one 10 (by simp only [List.getElem?_toArray, List.getElem?_cons_succ, List.getElem?_cons_zero]; rfl) (by kernel_rfl) ?_
    go_wp2_with ((go_simp; go_at_call 179; with_reducible refine Calls.mono (NC.out _ _ (takeI B)) ?_; rintro e w7 ⟨rfl, rfl⟩))
    refine Dr.nextQ_n ⟨(cell_sat _ _ _), ?_⟩
    refine Dr.wpB_one 13 (by simp only [List.getElem?_toArray, List.getElem?_cons_succ, List.getElem?_cons_zero]; rfl) (by kernel_rfl) ?_
    go_wp2_with ((go_simp; go_at_call 179; with_reducible refine Calls.mono (ND.out _ _ (takeI B)) ?_; rintro e w7 ⟨rfl, rfl⟩))
    refine Dr.nextQ_n ⟨(cell_sat _ _ _), ?_⟩
    refine Dr.wpB_pure 14 (v := ?v14) (by simp only [List.getElem?_toArray, List.getElem?_cons_succ, List.getElem?_cons_zero]; rfl) (by kernel_rfl) ?hQ14 (.inl ⟨?hw14, fun w' => ?hy14⟩) ?_
    case hy14 => go_simp; try (with_reducible rfl)
    case hQ14 => exact fun _ _ _ h => h
    case hw14 => rfl
    simp only [Act.put, List.setIfInBounds_toArray, List.set_cons_zero, List.set_cons_succ]
    refine Dr.wpB_one 15 (by simp only [List.getElem?_toArray, List.getElem?_cons_succ, List.getElem?_cons_zero]; rfl) (by kernel_rfl) ?_
    go_wp2_with (fail)
    refine Dr.nextQ_n ⟨(cell_sat _ _ _), ?_⟩
    refine Dr.wpB_one 16 (by simp only [List.getElem?_toArray, List.getElem?_cons_succ, List.getElem?_cons_zero]; rfl) (by kernel_rfl) ?_
    go_wp2_with (at_builtin; refine wpl_append_same E rfl (.tmp 87) (.tmp 101) rfl rfl rfl (takeI (rw TKd 4 (.slice aE i cE) (kcs (uks i rest)))) (Src.new (e := TKd) (s := 4) (vs := [.int .i64 y1, .int .i64 y2, .int .i64 y3, .int .i64 y4]) (takeI (Sl.block _ TKd [.int .i64 y1, .int .i64 y2, .int .i64 y3, .int .i64 y4])) rfl (by intro u hu; simp at hu; rcases hu with rfl | rfl | rfl | rfl <;> rfl)) (by unfold maxLen; omega) (by omega) ?_; intro a9 c9 w9 hs9 hnil; clear hnil; haveI := hs9.i)
    refine Dr.nextQ_n ⟨(cell_sat _ _ _), ?_⟩
    refine Dr.wpB_tail [17, 18] (os := [_, _]) (by decide) (by simp only [List.map_cons, List.map_nil, List.getElem?_toArray, List.getElem?_cons_succ, List.getElem?_cons_zero]; rfl) (by kernel_rfl) ?_
    go_wp2_with fail
    go_roundg (m - (i + 1))
    case measure => have := A.out; omega
    case rel =>
     refine ⟨i + 1, a9, c9, by go_num, by omega, (rfl : _ = _), ?_⟩
     rw [HY.out]
     exact satI_weak (C := Sl.block wr.heap.size TKd [.int .i64 y1, .int .i64 y2, .int .i64 y3, .int .i64 y4]) (by unfold krow; ac_rfl)
  · have hlt' : ¬ (i : Int) < m := by omega
    obtain rfl : i = m := by omega
    have hue := uks_len rest i
    have hRE : ReadsK (rw TKd 4 (.slice aE i cE) (kcs (uks i rest))) (.slice aE i cE) (uks i rest) := readsK_rw hsr hue.symm
    obtain ⟨es, hes⟩ : ∃ es, uks i rest = es := ⟨_, rfl⟩
    rw [hes] at hue hRE hsr
    have HES : Aside (uks i rest = es) := hes
    have HRR2 : Aside ((if may ⟨false, [], es⟩ then ((⟨false, [], es⟩ : Nd), (0 : Int)) else (nd0, 4)) = rr) := (by rw [← HRR.out, hes] : _ = _)
    have hR2 : ReadsK (rw TKd 4 (.slice aE i cE) (kcs es)) (.slice aE es.length cE) es := by rw [hue]; exact hRE
    have hmay := r13may_kids es aE cE _ _ wr hR2 hsr
    rw [hue] at hmay
    have HR2 : Aside (ReadsK (rw TKd 4 (.slice aE i cE) (kcs es)) (.slice aE i cE) es) := hRE
    haveI := hsr.i
    obtain ⟨mb, hmb⟩ : ∃ b, may ⟨false, [], es⟩ = b := ⟨_, rfl⟩
    rw [hmb] at hmay
    have HMB : Aside (may ⟨false, [], es⟩ = mb) := hmb
    clear hes hue hRE hR2 hmb HES
    go_wp2_with fail
    with_reducible refine Calls.mono hmay ?_
    rintro e w7 ⟨rfl, q7⟩
    haveI := q7.i
    clear hmay hsr
    cases mb with
    | true =>
      have HF : Aside (rr = (⟨false, [], es⟩, 0)) := (by rw [← HRR2.out, HMB.out]; rfl : _ = _)
      go_wp2
      go_returns
      rw [HF.out]
      exact ⟨_, _, rfl, ⟨_, _, rfl, ReadsR.nil 4 _, HR2.out⟩, keep3 _ B F⟩
    | false =>
      have HF : Aside (rr = (nd0, 4)) := (by rw [← HRR2.out, HMB.out]; rfl : _ = _)
      go_wp2
      go_returns
      rw [HF.out]
      exact no_zero (keep2 B F)
theorem r13open_any (kind : Int) (b : List UInt8) (v : Value) (B F : Assn) (w : World) (hB : Reads B v b) (hs : Sat (B * F) w) (hl : b.length ≤ 1048576) :
 Calls Tryz.prog 156 #[.int .i64 kind, v] w (NoOut B F (ndOpen kind b)) := by
 cases b with
 | nil => exact r13open_none kind v B F w hB hs
 | cons x rest =>
   rw [List.length_cons] at hl
   unfold ndOpen
   simp only
   by_cases hk : kind ≠ 1 ∧ kind ≠ 2
   · rw [if_pos hk]
     exact r13open_bad kind x rest v B F w hB hs (by omega) (fun h => hk.1 h.1) (fun h => hk.2 h.1)
   · rw [if_neg hk]
     by_cases h1 : kind = 1
     · subst h1
       simp only [if_true]
       by_cases hn : rest.length ≠ x.toNat * 13
       · rw [if_pos hn]
         exact r13open_bad 1 x rest v B F w hB hs (by omega) (fun h => hn h.2) (fun h => by omega)
       · rw [if_neg hn]
         exact r13open_leaf x rest v B F w hB hs (by omega)
     · have h2 : kind = 2 := by omega
       subst h2
       simp only [show ¬ (2 : Int) = 1 by omega, if_false]
       by_cases hn : rest.length ≠ x.toNat * 16
       · rw [if_pos hn]
         exact r13open_bad 2 x rest v B F w hB hs (by omega) (fun h => by omega) (fun h => hn h.2)
       · rw [if_neg hn]
         exact r13open_kids x rest v B F w hB hs (by omega)
end Go.Proofs.YtfhbmblbidcmmaaGreat
namespace Go.Proofs.YtfhbmblbidcmmaaGreat
set_option linter.unusedSimpArgs false
set_option linter.unusedVariables false
open Go.RowKit Go.Sl Go.Tr Go.Dk
attribute [local go_sem ↓] Go.wp_at_zero Go.wp_at_succ
attribute [local go_sem] Go.Sl.cell_sat Go.Sl.frozen_sat
theorem ndOpen_bad {kind : Int} {b : List UInt8} (h : (ndOpen kind b).2 ≠ 0) : (ndOpen kind b).1 = nd0 := by
 cases b with
 | nil => rfl
 | cons b rest =>
   unfold ndOpen at h ⊢
   simp only at h ⊢
   by_cases h1 : kind ≠ 1 ∧ kind ≠ 2
   · rw [if_pos h1]
   · rw [if_neg h1] at h ⊢
     by_cases h2 : rest.length ≠ b.toNat * (if kind = 1 then 13 else 16)
     · rw [if_pos h2]
     · rw [if_neg h2] at h ⊢
       generalize (if kind = 1 then (⟨true, ues b.toNat rest, []⟩ : Nd) else ⟨false, [], uks b.toNat rest⟩) = n at h ⊢
       by_cases h3 : may n = true
       · rw [if_pos h3] at h; exact absurd rfl h
       · rw [if_neg h3]
def NodeOut (B F : Assn) (o : Option Nd) (e : Ending) (w' : World) : Prop := ∃ v' G, e = .returned (.tuple #[v', .bool o.isSome]) ∧ ReadsN G v' (o.getD nd0) ∧ Sat (G * (B * F)) w'
theorem nodeOut_none {B F : Assn} {w : World} (hs : Sat (B * F) w) : NodeOut B F none (.returned (.tuple #[.agg #[.bool false, .slice none 0 0, .slice none 0 0], .bool false])) w :=
 ⟨_, 1, rfl, ⟨_, _, rfl, ReadsR.nil 4 _, ReadsR.nil 4 _⟩, by rw [one_sep]; exact hs⟩
set_option maxRecDepth 100000 in
set_option maxHeartbeats 1600000 in
theorem r14node_any (file : List UInt8) (v : Value) (no : Int) (B F : Assn) (w : World) (hB : Reads B v file) (hl : file.length ≤ 1099511627776) (hs : Sat (B * F) w) :
 Calls Tryz.prog 126 #[v, .int .i64 no] w (NodeOut B F (fileNode file no)) := by
 obtain ⟨i0, E⟩ := elemB
 obtain ⟨va, vc, rfl, hvc, hvm⟩ := (hB F w hs).len
 have HB : Aside (Reads B (.slice va file.length vc) file) := hB
 obtain ⟨R, hR⟩ : ∃ R, fileNode file no = R := ⟨_, rfl⟩
 have HR : Aside (fileNode file no = R) := hR
 rw [hR]
 obtain ⟨n, hn⟩ : ∃ n, file.length = n := ⟨_, rfl⟩
 have HN : Aside (file.length = n) := hn
 rw [hn] at hl hvc ⊢
 clear hB hR hn
 haveI := hs.i
 by_cases h1 : no < 1
 · have d1 : decide (no < 1) = true := decide_eq_true h1
   have HF : Aside (R = none) := (by rw [← HR.out]; unfold fileNode; rw [if_pos (.inl h1)] : _ = _)
   go_enter Tryz.func126, Tryz.ntmps126
   go_wp2
   go_returns
   rw [HF.out]
   exact nodeOut_none (keep2 B F)
 have d1 : decide (no < 1) = false := decide_eq_false h1
 by_cases h2 : 1048576 ≤ no
 · have d2 : decide (1048576 ≤ no) = true := decide_eq_true h2
   have HF : Aside (R = none) := (by rw [← HR.out]; unfold fileNode; rw [if_pos (.inr (.inl h2))] : _ = _)
   go_enter Tryz.func126, Tryz.ntmps126
   go_wp2
   go_returns
   rw [HF.out]
   exact nodeOut_none (keep2 B F)
 have d2 : decide (1048576 ≤ no) = false := decide_eq_false h2
 obtain ⟨p, hp⟩ : ∃ p : Nat, no = p := ⟨no.toNat, by omega⟩
 subst hp
 have hw1 : IntKind.i64.wrap (256 * (p : Int)) = ((256 * p : Nat) : Int) := (IntWalk.i64_in _ (by omega)).trans (by omega)
 have hw2 : IntKind.i64.wrap (((256 * p : Nat) : Int) + 256) = ((256 * p + 256 : Nat) : Int) := (IntWalk.i64_in _ (by omega)).trans (by omega)
 obtain ⟨q, hq⟩ : ∃ q, 256 * p = q := ⟨_, rfl⟩
 rw [hq] at hw1 hw2
 obtain ⟨q2, hq2⟩ : ∃ x, q + 256 = x := ⟨_, rfl⟩
 rw [hq2] at hw2
 by_cases h3 : n < q2
 · have d3 : decide ((n : Int) < (q2 : Int)) = true := decide_eq_true (by omega)
   have h3' : (n : Int) < (q2 : Int) := by omega
   have HF : Aside (R = none) := (by rw [← HR.out]; unfold fileNode; rw [if_pos (.inr (.inr (by rw [HN.out]; omega)))] : _ = _)
   go_enter Tryz.func126, Tryz.ntmps126
   go_wp2
   go_returns
   rw [HF.out]
   exact nodeOut_none (keep2 B F)
 have d3 : decide ((n : Int) < (q2 : Int)) = false := decide_eq_false (by omega)
 have h3' : ¬ (n : Int) < (q2 : Int) := by omega
 have hc : ∀ w, (Instr.sliceAt 26 (.slice va n vc) (some (.int .i64 q)) (some (.int .i64 (q2 : Int))) none).run Tryz.prog w = .ok (.slice (cutA va vc q 1) 256 (vc - q)) w := fun w => by
  have h9 := at_cut (P := Tryz.prog) E (a := va) (n := n) (c := vc) q q2 (by omega) (by omega) w
  rw [show q2 - q = 256 by omega] at h9
  exact h9
 obtain ⟨pg, hpg⟩ : ∃ pg, (file.drop q).take 256 = pg := ⟨_, rfl⟩
 have hr : Reads B (.slice (cutA va vc q 1) 256 (vc - q)) pg := fun F w h => by
  have h9 := (HB.out F w h).cut q q2 (by omega) (by rw [HN.out]; omega)
  rw [show q2 - q = 256 by omega, hpg] at h9
  exact h9
 have HG : Aside (R = openNd (p : Int) pg) := (by
  rw [← HR.out]
  unfold fileNode
  rw [if_neg (by rw [HN.out]; omega), Int.toNat_natCast, hq, hpg] : _ = _)
 have ho := fun F w h => ropen05_any (p : Int) _ pg B F w hr h
 unfold RoOut at ho
 obtain ⟨⟨zk, zb, ze⟩, hz⟩ : ∃ r, pageOpen (p : Int) pg = r := ⟨_, rfl⟩
 have HZ : Aside (pageOpen (p : Int) pg = (zk, zb, ze)) := hz
 rw [hz] at ho
 obtain ⟨cv, hcv⟩ : ∃ cv, cutA va vc q 1 = cv := ⟨_, rfl⟩
 rw [hcv] at hc ho
 have hzl : zb.length ≤ 256 := by
  have h9 := pageOpen_len (p : Int) pg
  have h8 : pg.length ≤ 256 := by rw [← hpg, List.length_take]; omega
  rw [hz] at h9
  simp only at h9
  omega
 simp only at ho
 clear hz hr hcv hpg
 go_enter Tryz.func126, Tryz.ntmps126
 go_wp2_with fail
 with_reducible refine Calls.mono (ho _ _ (takeI B)) ?_
 rintro e w1 ⟨a, c, rfl, q1⟩
 haveI := q1.i
 clear ho hs
 by_cases he : ze = 0
 · subst he
   have hop := r13open_any zk zb (.slice a zb.length c) (rw TB 1 (.slice a zb.length c) (bys zb)) _ w1 Reads.rw q1 (by omega)
   go_wp2_with fail
   with_reducible refine Calls.mono hop ?_
   rintro e w2 ⟨v', G, rfl, hN, q2⟩
   obtain ⟨vE, vK, rfl, hE, hK⟩ := hN
   obtain ⟨aE, cE, rfl, hE1, hE2⟩ := hE.v
   obtain ⟨aK, cK, rfl, hK1, hK2⟩ := hK.v
   haveI := q2.i
   have HH : Aside (R = openNd (p : Int) pg) := HG
   have HE : Aside (ReadsE G (.slice aE (ndOpen zk zb).1.ents.length cE) (ndOpen zk zb).1.ents) := hE
   have HK : Aside (ReadsK G (.slice aK (ndOpen zk zb).1.kids.length cK) (ndOpen zk zb).1.kids) := hK
   obtain ⟨⟨o, oe⟩, hor⟩ : ∃ r, ndOpen zk zb = r := ⟨_, rfl⟩
   have HO : Aside (ndOpen zk zb = (o, oe)) := hor
   rw [hor] at HE HK hE1 hK1 ⊢
   simp only at HE HK hE1 hK1 ⊢
   have hnz : oe ≠ 0 → o = nd0 := fun h => by have h9 := ndOpen_bad (kind := zk) (b := zb) (by rw [hor]; exact h); rw [hor] at h9; exact h9
   have HNZ : Aside (oe ≠ 0 → o = nd0) := hnz
   clear hop hE hK q1 hor hnz
   by_cases hoe : oe = 0
   · subst hoe
     have HF : Aside (R = some o) := (by rw [HH.out]; unfold openNd; rw [HZ.out]; simp only; rw [HO.out]; simp : _ = _)
     go_wp2
     go_returns
     rw [HF.out]
     exact ⟨_, G, rfl, ⟨_, _, rfl, HE.out, HK.out⟩, keep3 G B F⟩
   · have d4 : (oe == 0) = false := by simpa using hoe
     have HF : Aside (R = none) := (by rw [HH.out]; unfold openNd; rw [HZ.out]; simp only; rw [HO.out]; simp [hoe] : _ = _)
     have HD : Aside (o = nd0) := HNZ.out hoe
     go_wp2
     go_returns
     rw [HF.out]
     exact ⟨_, G, rfl, by rw [show (none : Option Nd).getD nd0 = o from HD.out.symm]; exact ⟨_, _, rfl, HE.out, HK.out⟩, keep3 G B F⟩
 · have d4 : (ze != 0) = true := by simpa using he
   have d5 : (ze == 0) = false := by simpa using he
   have HF : Aside (R = none) := (by rw [HG.out]; unfold openNd; rw [HZ.out]; exact if_neg he : _ = _)
   go_wp2
   go_returns
   rw [HF.out]
   exact nodeOut_none (keep2 B F)
end Go.Proofs.YtfhbmblbidcmmaaGreat
namespace Go.Proofs.YtfhbmblbidcmmaaGreat
set_option linter.unusedSimpArgs false
set_option linter.unusedVariables false
open Go.RowKit Go.Sl Go.Tr Go.Dk
attribute [local go_sem ↓] Go.wp_at_zero Go.wp_at_succ
attribute [local go_sem] Go.Sl.cell_sat Go.Sl.frozen_sat
abbrev TLk : TypeId := 47
def icv (l : List Int) : List Value := l.map (Value.int .i64)
theorem icv_one (l : List Int) : ∀ u ∈ icv l, u.oneCell' = true := by
 intro u hu
 unfold icv at hu
 obtain ⟨x, _, rfl⟩ := List.mem_map.1 hu
 rfl
theorem ecs_cat (a b : List Ent) : ecs (a ++ b) = ecs a ++ ecs b := by simp [ecs]
theorem icv_app (a b : List Int) : icv (a ++ b) = icv a ++ icv b := by simp [icv]
def ReadsI (B : Assn) (v : Value) (l : List Int) : Prop := ReadsR 1 B v l.length (icv l)
def ReadsLk (G : Assn) (v : Value) (l : Lk) : Prop := ∃ vE vP, v = .agg #[.bool l.ok, .int .i64 l.height, vE, vP] ∧ ReadsE G vE l.ents ∧ ReadsI G vP l.pages
def LkOut (B F : Assn) (l : Lk) (e : Ending) (w' : World) : Prop := ∃ v G, e = .returned v ∧ ReadsLk G v l ∧ Sat (G * (B * F)) w'
theorem lkOut_zero {B F : Assn} {w : World} (hs : Sat (B * F) w) : LkOut B F lk0 (.returned (.agg #[.bool false, .int .i64 0, .slice none 0 0, .slice none 0 0])) w :=
 ⟨_, 1, rfl, ⟨_, _, rfl, ReadsR.nil 4 _, ReadsR.nil 1 _⟩, by rw [one_sep]; exact hs⟩
theorem readsI_rw {a : Option Addr} {n c : Nat} {l : List Int} {F : Assn} {w : World} (hs : Sat (rw TIn 1 (.slice a n c) (icv l) * F) w) (hn : n = l.length) : ReadsI (rw TIn 1 (.slice a n c) (icv l)) (.slice a n c) l := by
 subst hn
 exact ReadsR.rw hs ⟨a, c, rfl⟩
structure BlI (V : Int → Option Nd) (f : Nat) (kids : List Kd) (R : Lk) (J : Assn) (g lk j ne np : Nat) (oh : Int) (oe : List Ent) (op : List Int) (aE : Option Addr) (cE : Nat) (aP : Option Addr) (cP : Nat) (vK : Value) : Prop where
 meas : g = lk - j
 rest : rKids V (fun p => rBelow V f p false) (kids.drop j) (j == 0) ⟨true, oh, oe, op⟩ = R
 e : ReadsE J (.slice aE ne cE) oe
 p : ReadsI J (.slice aP np cP) op
 k : ReadsK J vK kids
 ne : oe.length = ne
 np : op.length = np
theorem blk_rw {e s n g : Nat} {l : List Value} {F : Assn} {w : World} (hl : l.length = n * s) (hn : n ≤ 1099511627776) (hs : Sat (Sl.block g e l * F) w) : Sat (rw e s (.slice (some ⟨g, 0, none⟩) n n) l * F) w :=
 Sat.rw_shut (sp := []) hl (by simpa using hl) (Nat.le_refl _) (by unfold maxLen; omega) (by simpa using hs)
theorem rKids_at {V : Int → Option Nd} {bl : Int → Lk} {ks : List Kd} {j : Nat} {k : Kd} (hk : ks[j]? = some k) (o : Lk) : rKids V bl (ks.drop j) (j == 0) o = match rKid (bl k.page) (rSum (nodeOr V k.page)) (j == 0) k o with
 | none => lk0
 | some o' => rKids V bl (ks.drop (j + 1)) (j + 1 == 0) o' := by
 have h1 : ks.drop j = k :: ks.drop (j + 1) := by
  obtain ⟨h2, h3⟩ := List.getElem?_eq_some_iff.1 hk
  rw [List.drop_eq_getElem_cons h2, h3]
 rw [h1]
 rfl
theorem rBelow_none {V : Int → Option Nd} {p : Int} (h : V p = none) (f : Nat) (top : Bool) : rBelow V (f + 1) p top = lk0 := by
 show (match V p with | none => lk0 | some n => if top = false ∧ many n < 4 then lk0 else rKids V (fun p => rBelow V f p false) n.kids true ⟨true, 0, n.ents, [p]⟩) = _
 rw [h]
theorem rBelow_some {V : Int → Option Nd} {p : Int} {n : Nd} (h : V p = some n) (f : Nat) (top : Bool) : rBelow V (f + 1) p top = if top = false ∧ many n < 4 then lk0 else rKids V (fun p => rBelow V f p false) n.kids true ⟨true, 0, n.ents, [p]⟩ := by
 show (match V p with | none => lk0 | some n => if top = false ∧ many n < 4 then lk0 else rKids V (fun p => rBelow V f p false) n.kids true ⟨true, 0, n.ents, [p]⟩) = _
 rw [h]
theorem rKid_none {x : Lk} {s : Int × Int × Int} {first : Bool} {k : Kd} {o : Lk} (h : x.ok = false ∨ s.1 ≠ k.bytes ∨ s.2.1 ≠ k.lines ∨ s.2.2 ≠ k.scraps ∨ (first = false ∧ x.height + 1 ≠ o.height)) : rKid x s first k o = none := by
 unfold rKid
 rw [if_pos h]
set_option maxRecDepth 100000 in
set_option maxHeartbeats 12800000 in
theorem r14below_any (file : List UInt8) (v : Value) (B : Assn) (hB : Reads B v file) (hl : file.length ≤ 1099511627776) : ∀ (f : Nat) (no deep : Int) (top : Bool) (F : Assn) (w : World), f ≤ 13 → deep = 13 - (f : Int) → Sat (B * F) w →
 Calls Tryz.prog 71 #[v, .int .i64 no, .bool top, .int .i64 deep] w (LkOut B F (rBelow (fileNode file) f no top)) := by
 intro f
 induction f with
 | zero =>
   intro no deep top F w hf hd hs
   have hq : deep = 13 := by omega
   clear hd hf
   subst hq
   haveI := hs.i
   have hno := r14node_any file v no B F w hB hl hs
   unfold rBelow
   go_enter Tryz.func71, Tryz.ntmps71
   go_wp2_with fail
   with_reducible refine Calls.mono (r14node_any file v no B _ _ hB hl (takeI B)) ?_
   rintro e w1 ⟨v', G, rfl, hN, q1⟩
   obtain ⟨vE, vK, rfl, hE, hK⟩ := hN
   obtain ⟨aE, cE, rfl, hE1, hE2⟩ := hE.v
   obtain ⟨aK, cK, rfl, hK1, hK2⟩ := hK.v
   haveI := q1.i
   obtain ⟨b, hb⟩ : ∃ b, (fileNode file no).isSome = b := ⟨_, rfl⟩
   rw [hb]
   obtain ⟨o, ho⟩ : ∃ o, (fileNode file no).getD nd0 = o := ⟨_, rfl⟩
   rw [ho] at hE1 hK1 ⊢
   obtain ⟨le, hle⟩ : ∃ k, o.ents.length = k := ⟨_, rfl⟩
   obtain ⟨lk, hlk⟩ : ∃ k, o.kids.length = k := ⟨_, rfl⟩
   obtain ⟨lf, hlf⟩ : ∃ k, o.leaf = k := ⟨_, rfl⟩
   rw [hle] at hE1 ⊢
   rw [hlk] at hK1 ⊢
   rw [hlf]
   clear hno hs hE hK hb ho hle hlk hlf
   cases b with
   | true =>
     go_wp2
     go_returns
     exact lkOut_zero (keep2 B F)
   | false =>
     go_wp2
     go_returns
     exact lkOut_zero (keep2 B F)
 | succ f ih =>
   intro no deep top F w hf hd hs
   obtain ⟨i0, E⟩ := elemEn
   obtain ⟨i1, E1⟩ := elemIS
   haveI := hs.i
   obtain ⟨R, hR⟩ : ∃ R, rBelow (fileNode file) (f + 1) no top = R := ⟨_, rfl⟩
   have HR : Aside (rBelow (fileNode file) (f + 1) no top = R) := hR
   rw [hR]
   clear hR
   have hd12 : ¬ (12 : Int) < deep := by omega
   have hd12' : decide ((12 : Int) < deep) = false := decide_eq_false hd12
   have hwd : IntKind.i64.wrap (deep + 1) = deep + 1 := IntWalk.i64_in _ (by omega)
   have HD : Aside (deep = 13 - ((f + 1 : Nat) : Int) ∧ f + 1 ≤ 13) := ⟨hd, hf⟩
   have IH : Aside (∀ (no deep : Int) (top : Bool) (F : Assn) (w : World), f ≤ 13 → deep = 13 - (f : Int) → Sat (B * F) w → Calls Tryz.prog 71 #[v, .int .i64 no, .bool top, .int .i64 deep] w (LkOut B F (rBelow (fileNode file) f no top))) := ih
   have NO : Aside (∀ (no : Int) (F : Assn) (w : World), Sat (B * F) w → Calls Tryz.prog 126 #[v, .int .i64 no] w (NodeOut B F (fileNode file no))) := fun no F w h => r14node_any file v no B F w hB hl h
   have HV : Aside (∀ p n, fileNode file p = some n → may n = true) := fun p n h => fileNode_may h
   clear ih hd hf
   go_enter Tryz.func71, Tryz.ntmps71
   go_wp2_with fail
   with_reducible refine Calls.mono (NO.out no _ _ (takeI B)) ?_
   rintro e w1 ⟨v', G, rfl, hN, q1⟩
   obtain ⟨vE, vK, rfl, hE, hK⟩ := hN
   obtain ⟨aE, cE, rfl, hE1, hE2⟩ := hE.v
   obtain ⟨aK, cK, rfl, hK1, hK2⟩ := hK.v
   clear hs
   cases hopt : fileNode file no with
   | none =>
     have HF : Aside (R = lk0) := (by rw [← HR.out]; exact rBelow_none hopt _ _ : _ = _)
     haveI := q1.i
     clear hE hK hopt
     go_wp2
     go_returns
     rw [HF.out]
     exact lkOut_zero (keep2 B F)
   | some n =>
     rw [hopt] at hE hK hE1 hK1
     simp only [Option.getD_some, Option.isSome_some] at hE hK hE1 hK1 ⊢
     have hm := HV.out no n hopt
     have hle : n.ents.length ≤ 12 ∧ n.kids.length ≤ 12 := ⟨(SumOk.of hm).e, (SumOk.of hm).k⟩
     have HF : Aside (R = if top = false ∧ many n < 4 then lk0 else rKids (fileNode file) (fun p => rBelow (fileNode file) f p false) n.kids true ⟨true, 0, n.ents, [no]⟩) := (by rw [← HR.out]; exact rBelow_some hopt _ _ : _ = _)
     have HM : Aside (may n = true) := hm
     have HE : Aside (ReadsE G (.slice aE n.ents.length cE) n.ents) := hE
     have HK : Aside (ReadsK G (.slice aK n.kids.length cK) n.kids) := hK
     obtain ⟨le, hlen⟩ : ∃ k, n.ents.length = k := ⟨_, rfl⟩
     obtain ⟨lk, hlkn⟩ : ∃ k, n.kids.length = k := ⟨_, rfl⟩
     have HLE : Aside (n.ents.length = le) := hlen
     have HLK : Aside (n.kids.length = lk) := hlkn
     rw [hlen] at hle hE1 ⊢
     rw [hlkn] at hle hK1 ⊢
     obtain ⟨hle1, hle2⟩ := hle
     have hws : IntKind.i64.wrap ((le : Int) + (lk : Int)) = (le : Int) + (lk : Int) := IntWalk.i64_in _ (by omega)
     obtain ⟨lf, hlf⟩ : ∃ b, n.leaf = b := ⟨_, rfl⟩
     rw [hlf]
     haveI := q1.i
     clear hE hK hopt hm hlen hlkn hlf
     obtain ⟨fw, hfw⟩ : ∃ b, decide (top = false ∧ le + lk < 4) = b := ⟨_, rfl⟩
     have HFW : Aside (decide (top = false ∧ le + lk < 4) = fw) := hfw
     clear hfw
     go_upto_region 2 with (fail)
     go_cut [45] (fun t45 wx => t45 = .bool fw ∧ Sat (Sl.block w1.heap.size TNd [.bool lf, .slice aE le cE, .slice aK lk cK] * (Sl.block w.heap.size TLk [.bool false, .int .i64 0, .slice none 0 0, .slice none 0 0] * (G * (B * F)))) wx)
     case first =>
      cases top with
      | true =>
        have hz : fw = false := by rw [← HFW.out]; simp
        subst hz
        go_wp2_with fail
        go_meet
        exact ⟨rfl, satI_eq (by ac_rfl)⟩
      | false =>
        by_cases h4 : le + lk < 4
        · have hz : fw = true := by rw [← HFW.out]; simp [h4]
          subst hz
          have hf4' : (le : Int) + (lk : Int) < 4 := by omega
          have hf4d : decide ((le : Int) + (lk : Int) < 4) = true := decide_eq_true hf4'
          go_wp2_with fail
          go_meet
          exact ⟨rfl, satI_eq (by ac_rfl)⟩
        · have hz : fw = false := by rw [← HFW.out]; simp [h4]
          subst hz
          have hf4' : ¬ (le : Int) + (lk : Int) < 4 := by omega
          have hf4d : decide ((le : Int) + (lk : Int) < 4) = false := decide_eq_false hf4'
          go_wp2_with fail
          go_meet
          exact ⟨rfl, satI_eq (by ac_rfl)⟩
     case rest =>
      obtain ⟨rfl, q2⟩ := hcut
      obtain ⟨N9, hN9⟩ : ∃ N, w1.heap.size = N := ⟨_, rfl⟩
      obtain ⟨N8, hN8⟩ : ∃ N, w.heap.size = N := ⟨_, rfl⟩
      rw [hN9, hN8] at q2 ⊢
      clear q1 this hN8 hN9
      haveI := q2.i
      cases fw with
      | true =>
        have HF2 : Aside (R = lk0) := (by
         rw [HF.out, if_pos]
         have h9 := of_decide_eq_true HFW.out
         exact ⟨h9.1, by unfold many; rw [HLE.out, HLK.out]; exact h9.2⟩ : _ = _)
        go_wp2
        go_returns
        rw [HF2.out]
        exact lkOut_zero (keep2 B F)
      | false =>
        have HF2 : Aside (rKids (fileNode file) (fun p => rBelow (fileNode file) f p false) n.kids true ⟨true, 0, n.ents, [no]⟩ = R) := (by
         rw [HF.out, if_neg]
         have h9 := of_decide_eq_false HFW.out
         rintro ⟨h1, h2⟩
         exact h9 ⟨h1, by unfold many at h2; rw [HLE.out, HLK.out] at h2; exact h2⟩ : _ = _)
        clear HF HR HFW
        obtain ⟨i0, E⟩ := elemEn
        obtain ⟨i1, E1⟩ := elemIS
        go_wp2_with fail
        obtain ⟨N, hN⟩ : ∃ N, wc.heap.size = N := ⟨_, rfl⟩
        have q3 : Sat (Sl.block N TIn [.int .i64 no] * (Sl.block (N + 1) TLk [.bool true, .int .i64 0, .slice aE le cE, .slice (some ⟨N, 0, none⟩) 1 1] * (Sl.block N9 TNd [.bool lf, .slice aE le cE, .slice aK lk cK] * (Sl.block N8 TLk [.bool false, .int .i64 0, .slice none 0 0, .slice none 0 0] * (G * (B * F)))))) ((wc.alloc (.cells #[.int .i64 no] TIn)).alloc (.cells #[.bool true, .int .i64 0, .slice aE le cE, .slice (some ⟨wc.heap.size, 0, none⟩) 1 1] TLk)) := by
         rw [← hN]
         exact satI_eq (by ac_rfl)
        rw [hN] at q3 ⊢
        generalize ((wc.alloc (.cells #[.int .i64 no] TIn)).alloc (.cells #[.bool true, .int .i64 0, .slice aE le cE, .slice (some ⟨N, 0, none⟩) 1 1] TLk)) = w3 at q3 ⊢
        have q4 := blk_rw (s := 1) (n := 1) rfl (by omega) q3
        have hI0 : ReadsI (rw TIn 1 (.slice (some ⟨N, 0, none⟩) 1 1) [.int .i64 no]) (.slice (some ⟨N, 0, none⟩) 1 1) [no] := readsI_rw (l := [no]) q4 rfl
        have HI0 : Aside (BlI (fileNode file) f n.kids R (rw TIn 1 (.slice (some ⟨N, 0, none⟩) 1 1) [.int .i64 no] * G) lk lk 0 le 1 0 n.ents [no] aE cE (some ⟨N, 0, none⟩) 1 (.slice aK lk cK)) :=
         ⟨rfl, HF2.out, by have := HE.out; rw [HLE.out] at this; exact ReadsR.right this, ReadsR.left hI0, by have := HK.out; rw [HLK.out] at this; exact ReadsR.right this, HLE.out, rfl⟩
        obtain ⟨N11, hN11⟩ : ∃ N', N + 1 = N' := ⟨_, rfl⟩
        rw [hN11] at q4 ⊢
        clear q2 q3 hN hN11 hI0 HF2 this
        go_loopg [12] lk (fun g t12 wr => ∃ (j ne np : Nat) (oh : Int) (oe : List Ent) (op : List Int) (a1 : Option Addr) (c1 : Nat) (a2 : Option Addr) (c2 : Nat) (J : Assn), t12 = .int .i64 j ∧ j ≤ lk ∧ 0 ≤ oh ∧ oh ≤ 13 ∧ ne ≤ 1036 ∧ np ≤ 1037 ∧ np ≤ ne + 1 ∧ Aside (BlI (fileNode file) f n.kids R J g lk j ne np oh oe op a1 c1 a2 c2 (.slice aK lk cK)) ∧
         Sat (Sl.block N11 TLk [.bool true, .int .i64 oh, .slice a1 ne c1, .slice a2 np c2] * (Sl.block N9 TNd [.bool lf, .slice aE le cE, .slice aK lk cK] * (Sl.block N8 TLk [.bool false, .int .i64 0, .slice none 0 0, .slice none 0 0] * (J * (B * F))))) wr)
        case atStart => exact ⟨0, le, 1, 0, n.ents, [no], aE, cE, some ⟨N, 0, none⟩, 1, _, rfl, by omega, by omega, by omega, by omega, by omega, by omega, HI0, q4.eq (by ac_rfl)⟩
        case round =>
         obtain ⟨j, ne, np, oh, oe, op, a1, c1, a2, c2, J, rfl, hj, ho1, ho2, hne, hnp, hnn, A, q5⟩ := hrel
         clear q4 HI0
         haveI := q5.i
         by_cases hlt : j < lk
         · have hlt' : (j : Int) < lk := by omega
           obtain ⟨k, hk⟩ : ∃ k, n.kids[j]? = some k := ⟨_, List.getElem?_eq_getElem (by rw [HLK.out]; exact hlt)⟩
           obtain ⟨b, ofs, e9, r1, r2, r3, r4⟩ := readsK_at (a := aK) (c := cK) (by have := A.out.k; rw [← HLK.out] at this; exact this) hk
           subst e9
           obtain ⟨x, hx⟩ : ∃ x, rBelow (fileNode file) f k.page false = x := ⟨_, rfl⟩
           have hxo : LkOk false f x := by rw [← hx]; exact rBelow_ok HV.out f k.page false
           have hso : SumOk (nodeOr (fileNode file) k.page) := by
            unfold nodeOr
            cases hq : fileNode file k.page with
            | none => exact SumOk.zero
            | some m => exact SumOk.of (HV.out _ m hq)
           obtain ⟨⟨s1, s2, s3⟩, hsum⟩ : ∃ s, rSum (nodeOr (fileNode file) k.page) = s := ⟨_, rfl⟩
           have HST : Aside (R = match rKid x (s1, s2, s3) (j == 0) k ⟨true, oh, oe, op⟩ with
            | none => lk0
            | some o' => rKids (fileNode file) (fun p => rBelow (fileNode file) f p false) (n.kids.drop (j + 1)) (j + 1 == 0) o') := (by
            have h9 := A.out.rest
            rw [rKids_at hk, hx, hsum] at h9
            exact h9.symm : _ = _)
           obtain ⟨k1, k2, k3, k4⟩ := k
           simp only at r1 r2 r3 r4 hx hso hsum
           have HX : Aside (rBelow (fileNode file) f k1 false = x) := hx
           have HXO : Aside (LkOk false f x) := hxo
           have HSO : Aside (SumOk (nodeOr (fileNode file) k1)) := hso
           have HSUM : Aside (rSum (nodeOr (fileNode file) k1) = (s1, s2, s3)) := hsum
           clear hk hx hxo hso hsum
           go_wp2_with fail
           with_reducible refine Calls.mono (IH.out k1 (deep + 1) false _ _ ?_ ?_ (takeI B)) ?_
           · have := HD.out; omega
           · have := HD.out; omega
           rintro e w4 ⟨v2, G2, rfl, hLk, q6⟩
           rw [HX.out] at hLk
           obtain ⟨vE2, vP2, rfl, hE3, hP3⟩ := hLk
           obtain ⟨xE, dE, rfl, hE4, hE5⟩ := hE3.v
           obtain ⟨xP, dP, rfl, hP4, hP5⟩ := hP3.v
           have hxh := HXO.out.h0
           have hxh2 := HXO.out.h1
           have hxe := HXO.out.ents
           have hxp := HXO.out.pages
           obtain ⟨xo, xh, xe, xp⟩ := x
           simp only at hxh hxh2 hxe hxp hE4 hP4 hE3 hP3
           obtain ⟨me, hme⟩ : ∃ z, xe.length = z := ⟨_, rfl⟩
           obtain ⟨mp', hmp⟩ : ∃ z, xp.length = z := ⟨_, rfl⟩
           have HME : Aside (xe.length = me ∧ xp.length = mp') := ⟨hme, hmp⟩
           have HXE : Aside (ReadsE G2 (.slice xE xe.length dE) xe ∧ ReadsI G2 (.slice xP xp.length dP) xp) := ⟨hE3, hP3⟩
           have hf13 : (f : Int) ≤ 12 := by have := HD.out; omega
           rw [hme] at hxe hE4 hxp
           rw [hmp] at hP4 hxp
           simp only [hme, hmp] at q6 ⊢
           haveI := q6.i
           have hwh : IntKind.i64.wrap (xh + 1) = xh + 1 := IntWalk.i64_in _ (by omega)
           clear hE3 hP3 hme hmp q5
           go_wp2_with fail
           with_reducible refine Calls.mono (NO.out k1 _ _ (takeI B)) ?_
           rintro e w5 ⟨v3, G3, rfl, hN3, q7⟩
           have hN3' : ReadsN G3 v3 (nodeOr (fileNode file) k1) := hN3
           have hsm := r13sum_any (nodeOr (fileNode file) k1) v3 G3
           rw [HSUM.out] at hsm
           simp only at hsm
           obtain ⟨vE3, vK3, rfl, hE6, hK6⟩ := hN3
           obtain ⟨bE, fE, rfl, hE7, hE8⟩ := hE6.v
           obtain ⟨bK, fK, rfl, hK7, hK8⟩ := hK6.v
           obtain ⟨nn, hnn⟩ : ∃ z, (fileNode file k1).getD nd0 = z := ⟨_, rfl⟩
           obtain ⟨ge, hge⟩ : ∃ z, nn.ents.length = z := ⟨_, rfl⟩
           obtain ⟨gk, hgk⟩ : ∃ z, nn.kids.length = z := ⟨_, rfl⟩
           obtain ⟨gl, hgl⟩ : ∃ z, nn.leaf = z := ⟨_, rfl⟩
           obtain ⟨go, hgo⟩ : ∃ z, (fileNode file k1).isSome = z := ⟨_, rfl⟩
           rw [hnn, hge, hgk, hgl] at hN3' hsm
           rw [hnn, hge, hgk, hgl, hgo]
           have HSM : Aside (∀ (F : Assn) (w : World), Sat (G3 * F) w → Calls Tryz.prog 127 #[.agg #[.bool gl, .slice bE ge fE, .slice bK gk fK]] w fun e w' => e = .returned (.tuple #[.int .i64 s1, .int .i64 s2, .int .i64 s3]) ∧ Sat (G3 * F) w') := fun F w h => hsm F w hN3' HSO.out h
           haveI := q7.i
           clear hN3' hsm hE6 hK6 hE7 hK7 hnn hge hgk hgl hgo q6
           go_wp2_with fail
           with_reducible refine Calls.mono (HSM.out _ _ (takeI G3)) ?_
           rintro e w6 ⟨rfl, q8⟩
           haveI := q8.i
           clear q7
           obtain ⟨bd, hbd⟩ : ∃ b, decide (xo = false ∨ s1 ≠ k2 ∨ s2 ≠ k3 ∨ s3 ≠ k4 ∨ ((j == 0) = false ∧ xh + 1 ≠ oh)) = b := ⟨_, rfl⟩
           have HBD : Aside (decide (xo = false ∨ s1 ≠ k2 ∨ s2 ≠ k3 ∨ s3 ≠ k4 ∨ ((j == 0) = false ∧ xh + 1 ≠ oh)) = bd) := hbd
           clear hbd
           have q9 : Sat (Sl.block w4.heap.size TLk [.bool xo, .int .i64 xh, .slice xE me dE, .slice xP mp' dP] * (G2 * (Sl.block N11 TLk [.bool true, .int .i64 oh, .slice a1 ne c1, .slice a2 np c2] * (Sl.block N9 TNd [.bool lf, .slice aE le cE, .slice (some ⟨b, ofs, none⟩) lk cK] * (Sl.block N8 TLk [.bool false, .int .i64 0, .slice none 0 0, .slice none 0 0] * (J * (B * F))))))) w6 := satI_weak (C := G3 * (Sl.block w5.heap.size TNd [.bool gl, .slice bE ge fE, .slice bK gk fK] * Sl.block wr.heap.size 141 [.int .i64 k1, .int .i64 k2, .int .i64 k3, .int .i64 k4])) (by ac_rfl)
           go_upto_region 12 with (fail)
           go_cut [115] (fun t115 wx => t115 = .bool bd ∧ Sat (Sl.block w4.heap.size TLk [.bool xo, .int .i64 xh, .slice xE me dE, .slice xP mp' dP] * (G2 * (Sl.block N11 TLk [.bool true, .int .i64 oh, .slice a1 ne c1, .slice a2 np c2] * (Sl.block N9 TNd [.bool lf, .slice aE le cE, .slice (some ⟨b, ofs, none⟩) lk cK] * (Sl.block N8 TLk [.bool false, .int .i64 0, .slice none 0 0, .slice none 0 0] * (J * (B * F))))))) wx)
           case first =>
            cases hxo : xo with
            | false =>
              subst hxo
              have hz : bd = true := by rw [← HBD.out]; simp
              subst hz
              go_wp2_with fail
              go_meet
              exact ⟨rfl, q9⟩
            | true =>
              subst hxo
              cases e2 : (s1 != k2) with
              | true =>
                have hz : bd = true := by
                 have c2 : s1 ≠ k2 := by simpa using e2
                 rw [← HBD.out]
                 simp [*]
                subst hz
                go_wp2_with fail
                go_meet
                exact ⟨rfl, q9⟩
              | false =>
                cases e3 : (s2 != k3) with
                | true =>
                  have hz : bd = true := by
                   have c3 : s2 ≠ k3 := by simpa using e3
                   rw [← HBD.out]
                   simp [*]
                  subst hz
                  go_wp2_with fail
                  go_meet
                  exact ⟨rfl, q9⟩
                | false =>
                  cases e4 : (s3 != k4) with
                  | true =>
                    have hz : bd = true := by
                     have c4 : s3 ≠ k4 := by simpa using e4
                     rw [← HBD.out]
                     simp [*]
                    subst hz
                    go_wp2_with fail
                    go_meet
                    exact ⟨rfl, q9⟩
                  | false =>
                    by_cases c5 : j = 0
                    · have hj0 : (j : Int) = 0 := by omega
                      have hjd : decide ((0 : Int) < (j : Int)) = false := decide_eq_false (by omega)
                      have hz : bd = false := by
                       clear hj0 hjd
                       have c2 : s1 = k2 := by simpa using e2
                       have c3 : s2 = k3 := by simpa using e3
                       have c4 : s3 = k4 := by simpa using e4
                       rw [← HBD.out]
                       simp [*]
                      subst hz
                      go_wp2_with fail
                      go_meet
                      exact ⟨rfl, q9⟩
                    · have hjp : (0 : Int) < j := by omega
                      have hjd : decide ((0 : Int) < (j : Int)) = true := decide_eq_true hjp
                      cases e6 : (xh + 1 != oh) with
                      | true =>
                        have hz : bd = true := by
                         clear hjp hjd
                         have c6 : xh + 1 ≠ oh := by simpa using e6
                         rw [← HBD.out]
                         simp [*]
                        subst hz
                        go_wp2_with fail
                        go_meet
                        exact ⟨rfl, q9⟩
                      | false =>
                        have hz : bd = false := by
                         clear hjp hjd
                         have c2 : s1 = k2 := by simpa using e2
                         have c3 : s2 = k3 := by simpa using e3
                         have c4 : s3 = k4 := by simpa using e4
                         have c6 : xh + 1 = oh := by simpa using e6
                         rw [← HBD.out]
                         simp [*]
                        subst hz
                        go_wp2_with fail
                        go_meet
                        exact ⟨rfl, q9⟩
           case rest =>
            obtain ⟨rfl, q10⟩ := hcut
            clear q8 q9 this HSM
            haveI := q10.i
            cases bd with
            | true =>
              have HF3 : Aside (R = lk0) := (by
               rw [HST.out, rKid_none (of_decide_eq_true HBD.out)] : _ = _)
              go_wp2
              go_returns
              rw [HF3.out]
              exact lkOut_zero (keep2 B F)
            | false =>
              obtain ⟨NX, hNX⟩ : ∃ z, w4.heap.size = z := ⟨_, rfl⟩
              rw [hNX] at q10 ⊢
              clear hNX this
              haveI := q10.i
              have SE : Aside (∀ (F : Assn) (w : World), Sat (J * F) w → Src Tryz.prog 4 w (.slice a1 ne c1) ne (ecs oe)) := fun F w h => by
               have h9 := ReadsR.src (P := Tryz.prog) A.out.e (ecs_one oe) h
               rw [A.out.ne] at h9
               exact h9
              have SP : Aside (∀ (F : Assn) (w : World), Sat (J * F) w → Src Tryz.prog 1 w (.slice a2 np c2) np (icv op)) := fun F w h => by
               have h9 := ReadsR.src (P := Tryz.prog) A.out.p (icv_one op) h
               rw [A.out.np] at h9
               exact h9
              have SX : Aside (∀ (F : Assn) (w : World), Sat (G2 * F) w → Src Tryz.prog 4 w (.slice xE me dE) me (ecs xe)) := fun F w h => by
               have h9 := ReadsR.src (P := Tryz.prog) HXE.out.1 (ecs_one xe) h
               rw [HME.out.1] at h9
               exact h9
              have SXP : Aside (∀ (F : Assn) (w : World), Sat (G2 * F) w → Src Tryz.prog 1 w (.slice xP mp' dP) mp' (icv xp)) := fun F w h => by
               have h9 := ReadsR.src (P := Tryz.prog) HXE.out.2 (icv_one xp) h
               rw [HME.out.2] at h9
               exact h9
              go_upto_region 15 with (fail)
              have q11 : Sat (Sl.block N11 TLk [.bool true, .int .i64 (xh + 1), .slice a1 ne c1, .slice a2 np c2] * (Sl.block NX TLk [.bool xo, .int .i64 xh, .slice xE me dE, .slice xP mp' dP] * (G2 * (Sl.block N9 TNd [.bool lf, .slice aE le cE, .slice (some ⟨b, ofs, none⟩) lk cK] * (Sl.block N8 TLk [.bool false, .int .i64 0, .slice none 0 0, .slice none 0 0] * (J * (B * F))))))) (wc.setCell ⟨N11, 1, none⟩ (.int .i64 (xh + 1))) := satI_eq (by ac_rfl)
              generalize wc.setCell ⟨N11, 1, none⟩ (.int .i64 (xh + 1)) = w7 at q11 ⊢
              clear q10 this
              haveI := q11.i
              refine Dr.wpB_start (fun w' => w'.cell? ⟨N11, 2, none⟩ = some (.slice a1 ne c1) ∧ w'.cell? ⟨NX, 2, none⟩ = some (.slice xE me dE)) [7, 8] (by kernel_rfl) ⟨cell_sat _ _ _, cell_sat _ _ _⟩ (fun hHeld => ?_)
              refine Dr.wpB_pure 1 (v := ?v1) (by simp only [List.getElem?_toArray, List.getElem?_cons_succ, List.getElem?_cons_zero]; rfl) (by kernel_rfl) ?hQ1 (.inl ⟨?hw1, fun w' => ?hy1⟩) ?_
              case hy1 => go_simp; try (with_reducible rfl)
              case hQ1 => exact fun _ _ _ h => h
              case hw1 => rfl
              simp only [Act.put, List.setIfInBounds_toArray, List.set_cons_zero, List.set_cons_succ]
              refine Dr.wpB_take 2 (v := ?v2) (by simp only [List.getElem?_toArray, List.getElem?_cons_succ, List.getElem?_cons_zero]; rfl) (by kernel_rfl) ?hQ2 (.inl ⟨?hw2, fun w' hw => ?hy2⟩) hHeld ?_
              case hy2 => (try dsimp only at hw); go_simp; try (with_reducible rfl)
              case hQ2 => exact fun _ _ _ h => h
              case hw2 => rfl
              simp only [Act.put, List.setIfInBounds_toArray, List.set_cons_zero, List.set_cons_succ]
              refine Dr.wpB_pure 4 (v := ?v4) (by simp only [List.getElem?_toArray, List.getElem?_cons_succ, List.getElem?_cons_zero]; rfl) (by kernel_rfl) ?hQ4 (.inl ⟨?hw4, fun w' => ?hy4⟩) ?_
              case hy4 => go_simp; try (with_reducible rfl)
              case hQ4 => exact fun _ _ _ h => h
              case hw4 => rfl
              simp only [Act.put, List.setIfInBounds_toArray, List.set_cons_zero, List.set_cons_succ]
              refine Dr.wpB_take 5 (v := ?v5) (by simp only [List.getElem?_toArray, List.getElem?_cons_succ, List.getElem?_cons_zero]; rfl) (by kernel_rfl) ?hQ5 (.inl ⟨?hw5, fun w' hw => ?hy5⟩) hHeld ?_
              case hy5 => (try dsimp only at hw); go_simp; try (with_reducible rfl)
              case hQ5 => exact fun _ _ _ h => h
              case hw5 => rfl
              simp only [Act.put, List.setIfInBounds_toArray, List.set_cons_zero, List.set_cons_succ]
              refine Dr.wpB_one 0 (by simp only [List.getElem?_toArray, List.getElem?_cons_succ, List.getElem?_cons_zero]; rfl) (by kernel_rfl) ?_
              go_wp2_with (fail)
              refine Dr.nextQ_n ⟨⟨cell_sat _ _ _, cell_sat _ _ _⟩, ?_⟩
              refine Dr.wpB_one 3 (by simp only [List.getElem?_toArray, List.getElem?_cons_succ, List.getElem?_cons_zero]; rfl) (by kernel_rfl) ?_
              go_wp2_with (at_builtin; refine wpl_append_same E rfl (.tmp 121) (.tmp 123) rfl rfl rfl row0S (SE.out _ _ (takeI J)) (by unfold maxLen; omega) (by omega) ?_; intro a5 c5 w8 q12 z9; clear z9; rw [Nat.zero_add, List.nil_append] at q12; rw [Nat.zero_add]; haveI := q12.i)
              refine Dr.nextQ_n ⟨⟨cell_sat _ _ _, cell_sat _ _ _⟩, ?_⟩
              refine Dr.wpB_one 6 (by simp only [List.getElem?_toArray, List.getElem?_cons_succ, List.getElem?_cons_zero]; rfl) (by kernel_rfl) ?_
              go_wp2_with (at_builtin; refine wpl_append_same E rfl (.tmp 124) (.tmp 126) rfl rfl rfl (takeI (rw TEn 4 (.slice a5 ne c5) (ecs oe))) (SX.out _ _ (takeI G2)) (by unfold maxLen; omega) (by omega) ?_; intro a6 c6 w9 q13 z9; clear z9; haveI := q13.i)
              refine Dr.nextQ_n ⟨⟨cell_sat _ _ _, cell_sat _ _ _⟩, ?_⟩
              refine Dr.wpB_tail [7, 8] (os := [_, _]) (by decide) (by simp only [List.map_cons, List.map_nil, List.getElem?_toArray, List.getElem?_cons_succ, List.getElem?_cons_zero]; rfl) (by kernel_rfl) ?_
              go_upto_region 16 with (fail)
              have q14 : Sat (Sl.block N11 TLk [.bool true, .int .i64 (xh + 1), .slice a6 (ne + me) c6, .slice a2 np c2] * (Sl.block NX TLk [.bool xo, .int .i64 xh, .slice xE me dE, .slice xP mp' dP] * (G2 * (Sl.block N9 TNd [.bool lf, .slice aE le cE, .slice (some ⟨b, ofs, none⟩) lk cK] * (Sl.block N8 TLk [.bool false, .int .i64 0, .slice none 0 0, .slice none 0 0] * (rw TEn 4 (.slice a6 (ne + me) c6) (ecs oe ++ ecs xe) * (J * (B * F)))))))) (w9.setCell ⟨N11, 2, none⟩ (.slice a6 (ne + me) c6)) := satI_eq (by ac_rfl)
              generalize w9.setCell ⟨N11, 2, none⟩ (.slice a6 (ne + me) c6) = w10 at q14 ⊢
              clear q12 q13 this
              haveI := q14.i
              refine Dr.wpB_start (fun w' => w'.cell? ⟨N11, 3, none⟩ = some (.slice a2 np c2) ∧ w'.cell? ⟨NX, 3, none⟩ = some (.slice xP mp' dP)) [7, 8] (by kernel_rfl) ⟨cell_sat _ _ _, cell_sat _ _ _⟩ (fun hHeld => ?_)
              refine Dr.wpB_pure 1 (v := ?v1b) (by simp only [List.getElem?_toArray, List.getElem?_cons_succ, List.getElem?_cons_zero]; rfl) (by kernel_rfl) ?hQ1b (.inl ⟨?hw1b, fun w' => ?hy1b⟩) ?_
              case hy1b => go_simp; try (with_reducible rfl)
              case hQ1b => exact fun _ _ _ h => h
              case hw1b => rfl
              simp only [Act.put, List.setIfInBounds_toArray, List.set_cons_zero, List.set_cons_succ]
              refine Dr.wpB_take 2 (v := ?v2b) (by simp only [List.getElem?_toArray, List.getElem?_cons_succ, List.getElem?_cons_zero]; rfl) (by kernel_rfl) ?hQ2b (.inl ⟨?hw2b, fun w' hw => ?hy2b⟩) hHeld ?_
              case hy2b => (try dsimp only at hw); go_simp; try (with_reducible rfl)
              case hQ2b => exact fun _ _ _ h => h
              case hw2b => rfl
              simp only [Act.put, List.setIfInBounds_toArray, List.set_cons_zero, List.set_cons_succ]
              refine Dr.wpB_pure 4 (v := ?v4b) (by simp only [List.getElem?_toArray, List.getElem?_cons_succ, List.getElem?_cons_zero]; rfl) (by kernel_rfl) ?hQ4b (.inl ⟨?hw4b, fun w' => ?hy4b⟩) ?_
              case hy4b => go_simp; try (with_reducible rfl)
              case hQ4b => exact fun _ _ _ h => h
              case hw4b => rfl
              simp only [Act.put, List.setIfInBounds_toArray, List.set_cons_zero, List.set_cons_succ]
              refine Dr.wpB_take 5 (v := ?v5b) (by simp only [List.getElem?_toArray, List.getElem?_cons_succ, List.getElem?_cons_zero]; rfl) (by kernel_rfl) ?hQ5b (.inl ⟨?hw5b, fun w' hw => ?hy5b⟩) hHeld ?_
              case hy5b => (try dsimp only at hw); go_simp; try (with_reducible rfl)
              case hQ5b => exact fun _ _ _ h => h
              case hw5b => rfl
              simp only [Act.put, List.setIfInBounds_toArray, List.set_cons_zero, List.set_cons_succ]
              refine Dr.wpB_one 0 (by simp only [List.getElem?_toArray, List.getElem?_cons_succ, List.getElem?_cons_zero]; rfl) (by kernel_rfl) ?_
              go_wp2_with (fail)
              refine Dr.nextQ_n ⟨⟨cell_sat _ _ _, cell_sat _ _ _⟩, ?_⟩
              refine Dr.wpB_one 3 (by simp only [List.getElem?_toArray, List.getElem?_cons_succ, List.getElem?_cons_zero]; rfl) (by kernel_rfl) ?_
              go_wp2_with (at_builtin; refine wpl_append_same E1 rfl (.tmp 129) (.tmp 131) rfl rfl rfl row0S (SP.out _ _ (takeI J)) (by unfold maxLen; omega) (by omega) ?_; intro a7 c7 w11 q15 z9; clear z9; rw [Nat.zero_add, List.nil_append] at q15; rw [Nat.zero_add]; haveI := q15.i)
              refine Dr.nextQ_n ⟨⟨cell_sat _ _ _, cell_sat _ _ _⟩, ?_⟩
              refine Dr.wpB_one 6 (by simp only [List.getElem?_toArray, List.getElem?_cons_succ, List.getElem?_cons_zero]; rfl) (by kernel_rfl) ?_
              go_wp2_with (at_builtin; refine wpl_append_same E1 rfl (.tmp 132) (.tmp 134) rfl rfl rfl (takeI (rw TIn 1 (.slice a7 np c7) (icv op))) (SXP.out _ _ (takeI G2)) (by unfold maxLen; omega) (by omega) ?_; intro a8 c8 w12 q16 z9; clear z9; haveI := q16.i)
              refine Dr.nextQ_n ⟨⟨cell_sat _ _ _, cell_sat _ _ _⟩, ?_⟩
              refine Dr.wpB_tail [7, 8] (os := [_, _]) (by decide) (by simp only [List.map_cons, List.map_nil, List.getElem?_toArray, List.getElem?_cons_succ, List.getElem?_cons_zero]; rfl) (by kernel_rfl) ?_
              go_upto_region 17 with (fail)
              by_cases hbig : 1024 < ne + me
              · have hb' : (1024 : Int) < ((ne + me : Nat) : Int) := by omega
                have HF3 : Aside (R = lk0) := (by rw [HST.out]; unfold rKid; rw [if_neg (of_decide_eq_false HBD.out), if_pos (by rw [List.length_append, HME.out.1, A.out.ne]; exact hbig)] : _ = _)
                go_wp2
                go_returns
                rw [HF3.out]
                exact lkOut_zero (keep2 B F)
              · have hb' : ¬ (1024 : Int) < ((ne + me : Nat) : Int) := by omega
                have HF3 : Aside (rKids (fileNode file) (fun p => rBelow (fileNode file) f p false) (n.kids.drop (j + 1)) (j + 1 == 0) ⟨true, xh + 1, oe ++ xe, op ++ xp⟩ = R) := (by rw [HST.out]; unfold rKid; rw [if_neg (of_decide_eq_false HBD.out), if_neg (by rw [List.length_append, HME.out.1, A.out.ne]; exact hbig)] : _ = _)
                have hxo : xo = true := by
                 cases xo with
                 | true => rfl
                 | false => exact absurd (.inl rfl) (of_decide_eq_false HBD.out)
                have HLO : Aside (mp' + 1 ≤ me) := (by have h9 := HXO.out.low rfl hxo; simp only [HME.out.1, HME.out.2] at h9; exact h9 : _ ≤ _)
                have hE9 : ReadsE (rw TEn 4 (.slice a6 (ne + me) c6) (ecs oe ++ ecs xe)) (.slice a6 (ne + me) c6) (oe ++ xe) := by
                 rw [← ecs_cat]
                 exact readsE_rw (by rw [ecs_cat]; exact q14.take (rw TEn 4 (.slice a6 (ne + me) c6) (ecs oe ++ ecs xe))) (by rw [List.length_append, HME.out.1, A.out.ne])
                have hP9 : ReadsI (rw TIn 1 (.slice a8 (np + mp') c8) (icv op ++ icv xp)) (.slice a8 (np + mp') c8) (op ++ xp) := by
                 rw [← icv_app]
                 exact readsI_rw (by rw [icv_app]; exact q16.take (rw TIn 1 (.slice a8 (np + mp') c8) (icv op ++ icv xp))) (by rw [List.length_append, HME.out.2, A.out.np])
                have HB9 : Aside (BlI (fileNode file) f n.kids R (rw TEn 4 (.slice a6 (ne + me) c6) (ecs oe ++ ecs xe) * (rw TIn 1 (.slice a8 (np + mp') c8) (icv op ++ icv xp) * J)) (lk - (j + 1)) lk (j + 1) (ne + me) (np + mp') (xh + 1) (oe ++ xe) (op ++ xp) a6 c6 a8 c8 (.slice (some ⟨b, ofs, none⟩) lk cK)) :=
                 ⟨rfl, HF3.out, ReadsR.left hE9, ReadsR.right (ReadsR.left hP9), ReadsR.right (ReadsR.right A.out.k), by rw [List.length_append, HME.out.1, A.out.ne], by rw [List.length_append, HME.out.2, A.out.np]⟩
                clear hE9 hP9 hxo
                go_wp2_with fail
                go_roundg (lk - (j + 1))
                case measure => have := A.out.meas; omega
                case rel =>
                 exact ⟨j + 1, ne + me, np + mp', xh + 1, oe ++ xe, op ++ xp, a6, c6, a8, c8, _, by go_num, by omega, by omega, by omega, by omega, by have := HLO.out; omega, by have := HLO.out; omega, HB9, satI_weak (C := G2 * Sl.block NX TLk [.bool xo, .int .i64 xh, .slice xE me dE, .slice xP mp' dP]) (by ac_rfl)⟩
         · have hlt' : ¬ (j : Int) < lk := by omega
           obtain rfl : j = lk := by omega
           have HF3 : Aside (R = ⟨true, oh, oe, op⟩) := (by
            have h9 := A.out.rest
            rw [← HLK.out, List.drop_length] at h9
            exact h9.symm : _ = _)
           have HEE : Aside (ReadsE J (.slice a1 oe.length c1) oe ∧ ReadsI J (.slice a2 op.length c2) op) := ⟨by have := A.out.e; rw [← A.out.ne] at this; exact this, by have := A.out.p; rw [← A.out.np] at this; exact this⟩
           have HNN : Aside (oe.length = ne ∧ op.length = np) := ⟨A.out.ne, A.out.np⟩
           clear A
           go_wp2
           go_returns
           rw [HF3.out]
           refine ⟨_, J, rfl, ⟨_, _, rfl, by have := HEE.out.1; rw [HNN.out.1] at this; exact this, by have := HEE.out.2; rw [HNN.out.2] at this; exact this⟩, keep3 J B F⟩
end Go.Proofs.YtfhbmblbidcmmaaGreat
namespace Go.Proofs.YtfhbmblbidcmmaaGreat
set_option linter.unusedSimpArgs false
set_option linter.unusedVariables false
open Go.RowKit Go.Sl Go.Dk Go.Tr
attribute [local go_sem ↓] Go.wp_at_zero Go.wp_at_succ
attribute [local go_sem] Go.Sl.cell_sat Go.Sl.frozen_sat
theorem mayList_big {l : List Ent} {i : Nat} {y : Ent} (hy : l[i]? = some y) (h : 1048576 < eBytes (l.take i) + y.len) : mayList l = false := by
 rw [mayList_eq]
 by_cases hall : l.all mayEnt = true
 · have h1 : eBytes l = eBytes (l.take (i + 1)) + eBytes (l.drop (i + 1)) := by rw [← eBytes_append, List.take_append_drop]
   have h2 : 0 ≤ eBytes (l.drop (i + 1)) := by
    have := (eBytes_take_bound (l := l.drop (i + 1)) (fun x hx => by
     have := mayE_bounds (List.all_eq_true.1 hall x (List.mem_of_mem_drop hx))
     omega) (l.drop (i + 1)).length).1
    rwa [List.take_of_length_le (Nat.le_refl _)] at this
   have h3 := eBytes_snoc hy
   rw [decide_eq_false (by omega), Bool.and_false]
 · rw [Bool.not_eq_true] at hall
   rw [hall]
   rfl
theorem ecs_one1 (y : Ent) : ecs [y] = erow y := by simp [ecs]
theorem readsE_one {y : Ent} {a : Option Addr} {c : Nat} {F : Assn} {w : World} (h : Sat (rw TEn 4 (.slice a 1 c) (erow y) * F) w) : ReadsE (rw TEn 4 (.slice a 1 c) (erow y)) (.slice a 1 c) [y] := by
 rw [← ecs_one1] at h ⊢
 exact readsE_rw h rfl
set_option maxRecDepth 100000 in
set_option maxHeartbeats 3200000 in
theorem rmay_any (l : List Ent) (v : Value) (B F : Assn) (w : World) (hE : ReadsE B v l) (hs : Sat (B * F) w) (hl : l.length ≤ 65536) :
 Calls Tryz.prog 105 #[v] w fun e w' => e = .returned (.bool (mayList l)) ∧ Sat (B * F) w' := by
 obtain ⟨i0, E⟩ := elemEn
 obtain ⟨a0, c0, rfl, hE1, hE2⟩ := hE.v
 have HE : Aside (ReadsE B (.slice a0 l.length c0) l) := hE
 obtain ⟨n, hn⟩ : ∃ n, l.length = n := ⟨_, rfl⟩
 rw [hn] at hl ⊢
 have HN : Aside (l.length = n) := hn
 obtain ⟨mr, hmr⟩ : ∃ r, mayList l = r := ⟨_, rfl⟩
 rw [hmr]
 have HR : Aside (mayList l = mr) := hmr
 haveI := hs.i
 clear hE hn hmr
 go_enter Tryz.func105, Tryz.ntmps105
 go_wp2
 go_loopg [3, 4] n (fun g t3 t4 wr => ∃ (i : Nat), t4 = .int .i64 i ∧ t3 = .int .i64 (eBytes (l.take i)) ∧ i ≤ n ∧ Aside (g = n - i) ∧ Aside ((∀ x ∈ l.take i, mayEnt x = true) ∧ 0 ≤ eBytes (l.take i) ∧ eBytes (l.take i) ≤ 1048576) ∧ Sat (B * F) wr)
 case atStart => exact ⟨0, rfl, by simp [eBytes], by omega, rfl, ⟨by simp, by simp [eBytes], by simp [eBytes]⟩, hs⟩
 case round =>
  obtain ⟨i, rfl, rfl, hi, A, HI, hsr⟩ := hrel
  haveI := hsr.i
  clear hs
  by_cases hlt : i < n
  · have hlt' : (i : Int) < n := by omega
    obtain ⟨y, hy⟩ : ∃ y, l[i]? = some y := ⟨_, List.getElem?_eq_getElem (by rw [HN.out]; exact hlt)⟩
    obtain ⟨b, q, rfl, r1, r2, r3, r4⟩ := readsE_at HE.out hy
    have HT : Aside (eBytes (l.take (i + 1)) = eBytes (l.take i) + y.len ∧ l.take (i + 1) = l.take i ++ [y]) := ⟨eBytes_snoc hy, take_snoc' hy⟩
    have HMY : Aside (∀ (a : Option Addr) (c : Nat) (F : Assn) (w : World), Sat (rw TEn 4 (.slice a 1 c) (erow y) * F) w → Calls Tryz.prog 64 #[.agg #[.bool true, .slice a 1 c, .slice none 0 0]] w fun e w' => e = .returned (.bool (mayEnt y)) ∧ Sat (rw TEn 4 (.slice a 1 c) (erow y) * F) w') := fun a c F w h =>
     rmay_one y a c _ F w (readsE_one h) h
    have HMF : Aside (mayEnt y = false → mr = false) := fun h => HR.out.symm.trans (mayList_stop hy h)
    have HBG : Aside (1048576 < eBytes (l.take i) + y.len → mr = false) := fun h => HR.out.symm.trans (mayList_big hy h)
    have hbd := HI.out.2
    obtain ⟨z, hz⟩ : ∃ z, eBytes (l.take i) = z := ⟨_, rfl⟩
    rw [hz] at hbd HT HBG ⊢
    obtain ⟨me, hme⟩ : ∃ r, mayEnt y = r := ⟨_, rfl⟩
    have HME : Aside (mayEnt y = me) := hme
    rw [hme] at HMY
    obtain ⟨y1, y2, y3, y4⟩ := y
    unfold erow at HMY
    simp only at r1 r2 r3 r4 HT HBG HMY
    clear hy hz
    go_wp2_with (at_builtin; refine wpl_append_same E rfl (.tmp 12) (.tmp 17) rfl rfl rfl (Sat.rw_nil (e := TEn) (s := 4) satI) (Src.new (b := wr.heap.size) (e := TEn) (s := 4) (vs := [.int .i64 y1, .int .i64 y2, .int .i64 y3, .int .i64 y4]) (takeI _) rfl (by intro u hu; simp at hu; rcases hu with rfl | rfl | rfl | rfl <;> rfl)) (by unfold maxLen; omega) (by omega) ?_; intro a9 c9 w9 q9 z9; clear z9)
    rw [Nat.zero_add, List.nil_append] at q9
    haveI := q9.i
    go_wp2_with fail
    refine (HMY.out _ _ _ _ (takeI (rw TEn 4 (.slice a9 1 c9) [.int .i64 y1, .int .i64 y2, .int .i64 y3, .int .i64 y4]))).mono ?_
    rintro e w10 ⟨rfl, q10⟩
    haveI := q10.i
    cases me with
    | false =>
      have HF : Aside (mr = false) := HMF.out HME.out
      go_wp2
      go_ret
      exact ⟨by rw [HF.out]; rfl, keep2 B F⟩
    | true =>
      have hyb := mayE_bounds HME.out
      simp only at hyb
      have hw : IntKind.i64.wrap (z + y3) = z + y3 := IntWalk.i64_in _ (by omega)
      by_cases hb : 1048576 < z + y3
      · have HF : Aside (mr = false) := HBG.out hb
        go_wp2
        go_ret
        exact ⟨by rw [HF.out]; rfl, keep2 B F⟩
      · go_wp2
        go_roundg (n - (i + 1))
        case measure => have := A.out; omega
        case rel =>
         refine ⟨i + 1, by go_num, by rw [HT.out.1], by omega, rfl, ⟨?_, by rw [HT.out.1]; omega, by rw [HT.out.1]; omega⟩, keep2 _ _⟩
         rw [HT.out.2]
         intro x hx
         rcases List.mem_append.1 hx with hx | hx
         · exact HI.out.1 x hx
         · simp at hx; subst hx; exact HME.out
  · have hlt' : ¬ (i : Int) < n := by omega
    obtain rfl : i = n := by omega
    have HF : Aside (mr = true) := (by
     rw [← HR.out]
     have h := HI.out
     rw [List.take_of_length_le (by rw [HN.out]; exact Nat.le_refl _)] at h
     rw [mayList_eq]
     rw [List.all_eq_true.2 h.1, decide_eq_true h.2.2]
     rfl : _ = _)
    go_wp2
    go_ret
    exact ⟨by rw [HF.out]; rfl, keep2 B F⟩
end Go.Proofs.YtfhbmblbidcmmaaGreat
namespace Go.Proofs.YtfhbmblbidcmmaaGreat
set_option linter.unusedSimpArgs false
set_option linter.unusedVariables false
open Go.RowKit Go.Sl Go.Dk Go.Tr
attribute [local go_sem ↓] Go.wp_at_zero Go.wp_at_succ
attribute [local go_sem] Go.Sl.cell_sat Go.Sl.frozen_sat
theorem ecs_glue2 (p : List Ent) (a : Ent) (n : Nat) (hn : p.length = n) (l m : Int) : ((ecs (p ++ [a])).set (n * 4 + 3) (.int .i64 m)).set (n * 4 + 2) (.int .i64 l) = ecs (p ++ [⟨a.src, a.pos, l, m⟩]) := by
 rw [← ecs_glue p a n hn l m, List.set_comm _ _ (by omega)]
set_option maxRecDepth 100000 in
set_option maxHeartbeats 3200000 in
theorem rjoin_any (l : List Ent) (v : Value) (B F : Assn) (w : World) (hE : ReadsE B v l) (hs : Sat (B * F) w) (hl : l.length ≤ 1048576) (hm : ∀ x ∈ l, mayEnt x = true) (hb : eBytes l ≤ 1099511627776) :
 Calls Tryz.prog 72 #[v] w fun e w' => ∃ a c, e = .returned (.slice a (join l).length c) ∧ Sat (rw TEn 4 (.slice a (join l).length c) (ecs (join l)) * (B * F)) w' := by
 obtain ⟨i0, E⟩ := elemEn
 obtain ⟨a0, c0, rfl, hE1, hE2⟩ := hE.v
 have HL : Aside (ReadsE B (.slice a0 l.length c0) l) := hE
 have HM : Aside (∀ x ∈ l, mayEnt x = true) := hm
 have HBt : Aside (eBytes l ≤ 1099511627776) := hb
 obtain ⟨R, hR⟩ : ∃ R, join l = R := ⟨_, rfl⟩
 rw [hR]
 have HR : Aside (join l = R) := hR
 obtain ⟨nl, hnl⟩ : ∃ nl, l.length = nl := ⟨_, rfl⟩
 have HNL : Aside (l.length = nl) := hnl
 rw [hnl] at hl hE1 ⊢
 have q0 := hs.rw_nil (e := TEn) (s := 4)
 haveI := hs.i
 clear hE hm hb hnl hR
 go_enter Tryz.func72, Tryz.ntmps72
 go_wp2
 go_loopg [3, 4] nl (fun g t3 t4 wr => ∃ (j : Nat) (o2 : List Ent) (a2 : Option Addr) (c2 : Nat), t4 = .int .i64 j ∧ t3 = .slice a2 o2.length c2 ∧ j ≤ nl ∧ o2.length ≤ 1048576 ∧ Aside (g = nl - j ∧ o2 = (l.take j).foldl joinTo []) ∧ Aside (o2.length ≤ j ∧ (∀ y ∈ o2, OkE y) ∧ eBytes o2 = eBytes (l.take j)) ∧
  Sat (rw TEn 4 (.slice a2 o2.length c2) (ecs o2) * (B * F)) wr)
 case atStart => exact ⟨0, [], none, 0, rfl, rfl, by omega, by simp, ⟨rfl, rfl⟩, ⟨by simp, by simp, by simp [eBytes]⟩, q0⟩
 case round =>
  obtain ⟨j, o2, a2, c2, rfl, rfl, hj, hol2, J, J2, hsr2⟩ := hrel
  clear q0 hs this
  haveI := hsr2.i
  by_cases hlj : j < nl
  · have hlj' : (j : Int) < nl := by omega
    obtain ⟨y, hy⟩ : ∃ y, l[j]? = some y := ⟨_, List.getElem?_eq_getElem (by have := HNL.out; omega)⟩
    obtain ⟨b, q, rfl, r1, r2, r3, r4⟩ := readsE_at HL.out hy
    have HT : Aside ((l.take (j + 1)).foldl joinTo [] = joinTo o2 y ∧ eBytes (l.take (j + 1)) = eBytes (l.take j) + y.len) := ⟨by rw [take_snoc' hy, List.foldl_append, ← J.out.2]; rfl, eBytes_snoc hy⟩
    obtain ⟨hok, hyl⟩ := OkE.of (HM.out y (List.mem_of_getElem? hy))
    have HJ : Aside ((joinTo o2 y).length ≤ j + 1 ∧ (∀ z ∈ joinTo o2 y, OkE z) ∧ eBytes (joinTo o2 y) = eBytes (l.take (j + 1)) ∧ (joinTo o2 y).length ≤ 1048576) := by
     have h1 := joinTo_len o2 y
     have h2 := J2.out.1
     have h5 := HNL.out
     refine ⟨by omega, okE_join J2.out.2.1 hok, ?_, by omega⟩
     rw [eBytes_joinTo, HT.out.2, J2.out.2.2]
    have hyo : OkE y := hok
    obtain ⟨y1, y2, y3, y4⟩ := y
    unfold OkE at hyo
    simp only at hyo hyl r1 r2 r3 r4
    clear hok hy
    have hbe : eBytes o2 ≤ 1099511627776 := by
     have h1 := J2.out.2.2
     have h3 := HBt.out
     have h4 : eBytes l = eBytes (l.take j) + eBytes (l.drop j) := by rw [← eBytes_append, List.take_append_drop]
     have h5 := (okE_len (o := l.drop j) (fun y hy => (OkE.of (HM.out y (List.mem_of_mem_drop hy))).1)).1
     omega
    have hoa := okE_len J2.out.2.1
    rcases List.eq_nil_or_concat o2 with rfl | ⟨p, a, hcat⟩
    · clear hbe hoa
      simp only [List.length_nil] at hsr2 ⊢
      haveI := hsr2.i
      go_wp2_with fail
      go_quiet (fail)
      go_wp2_with (at_builtin; refine wpl_append_same E rfl (.tmp 93) (.tmp 95) rfl rfl rfl (takeI (rw TEn 4 (.slice a2 0 c2) (ecs []))) (Src.new (b := wr.heap.size + 1) (e := TEn) (s := 4) (vs := [.int .i64 y1, .int .i64 y2, .int .i64 y3, .int .i64 y4]) (takeI _) rfl (by intro u hu; simp at hu; rcases hu with rfl | rfl | rfl | rfl <;> rfl)) (by unfold maxLen; omega) (by omega) ?_; intro a9 c9 w9 q9 z9; clear z9; haveI := q9.i)
      go_roundg (nl - (j + 1))
      case measure => have := J.out.1; omega
      case rel =>
       refine ⟨j + 1, [⟨y1, y2, y3, y4⟩], a9, c9, by go_num, rfl, by omega, by simp, ⟨rfl, ?_⟩, ?_, ?_⟩
       · rw [HT.out.1]; rfl
       · have := HJ.out; exact ⟨this.1, this.2.1, this.2.2.1⟩
       · show Sat (rw TEn 4 (.slice a9 (0 + 1) c9) (ecs [] ++ [.int .i64 y1, .int .i64 y2, .int .i64 y3, .int .i64 y4]) * (B * F)) _
         exact keep3 _ _ _
    · rw [List.concat_eq_append] at hcat
      subst hcat
      obtain ⟨np, hnp⟩ : ∃ np, p.length = np := ⟨_, rfl⟩
      have HP : Aside (p.length = np) := hnp
      have hlen : (p ++ [a]).length = np + 1 := by rw [List.length_append, hnp]; rfl
      have hav := hoa.2 a (by simp)
      have hao := J2.out.2.1 a (by simp)
      rw [hlen] at hol2 hsr2 ⊢
      obtain ⟨g, rfl⟩ := row_some hsr2 (by omega)
      have t0 := ecs_at p a np hnp 0 _ rfl
      have t1 := ecs_at p a np hnp 1 _ rfl
      have t2 := ecs_at p a np hnp 2 _ rfl
      have t3 := ecs_at p a np hnp 3 _ rfl
      obtain ⟨e1, e2, e3, e4⟩ := a
      unfold OkE at hao
      simp only at hao hav t0 t1 t2 t3
      have hae : e3 ≤ 1099511627776 := by omega
      obtain ⟨xs, hxs⟩ : ∃ xs, ecs (p ++ [⟨e1, e2, e3, e4⟩]) = xs := ⟨_, rfl⟩
      have HX : Aside (ecs (p ++ [⟨e1, e2, e3, e4⟩]) = xs) := hxs
      rw [hxs] at t0 t1 t2 t3 hsr2
      clear hxs
      haveI : At xs (np * 4) (.int .i64 e1) := ⟨t0⟩
      haveI : At xs (np * 4 + 1) (.int .i64 e2) := ⟨t1⟩
      haveI : At xs (np * 4 + 2) (.int .i64 e3) := ⟨t2⟩
      haveI : At xs (np * 4 + 3) (.int .i64 e4) := ⟨t3⟩
      haveI : ∀ u, At (xs.set (np * 4 + 3) u) (np * 4 + 2) (.int .i64 e3) := fun u => ⟨by rw [List.getElem?_set_ne (by omega)]; exact t2⟩
      haveI := hsr2.i
      have hix : (np : Int) < (np : Int) + 1 := by omega
      have hix2 : (0 : Int) ≤ (np : Int) := by omega
      have hd : decide ((0 : Int) ≤ (np : Int)) = true := decide_eq_true (by omega)
      have hnn : (np : Int) ≤ 1048576 := by omega
      have hw0 : IntKind.i64.wrap ((np : Int) + 1 - 1) = (np : Int) := by rw [IntWalk.i64_in _ (by omega)]; omega
      have hw1 : IntKind.i64.wrap (e2 + e3) = e2 + e3 := IntWalk.i64_in _ (by omega)
      have hw2 : IntKind.i64.wrap (e3 + y3) = e3 + y3 := IntWalk.i64_in _ (by omega)
      have hw3 : IntKind.i64.wrap (e4 + y4) = e4 + y4 := IntWalk.i64_in _ (by omega)
      clear hbe hoa hav hnp hlen t0 t1 t2 t3
      by_cases h1 : e1 = y1
      · subst h1
        have b1 : (e1 == e1) = true := by simp
        by_cases h2 : e2 + e3 = y2
        · have hm : meets ⟨e1, e2, e3, e4⟩ ⟨e1, y2, y3, y4⟩ = true := by unfold meets; simp [h2]
          have b2 : (e2 + e3 == y2) = true := by simp [h2]
          by_cases h4 : e4 < 0
          · have HE : Aside (joinTo (p ++ [⟨e1, e2, e3, e4⟩]) ⟨e1, y2, y3, y4⟩ = p ++ [⟨e1, e2, e3 + y3, -1⟩]) := by rw [joinTo_go hm]; unfold glue; simp [h4]; exact (trivial : True)
            have d1 : decide (0 ≤ e4) = false := decide_eq_false (by omega)
            clear hm
            go_wp2_with fail
            go_quiet (fail)
            go_wp2_with fail
            go_region
            go_wp2_with fail
            go_roundg (nl - (j + 1))
            case measure => have := J.out.1; omega
            case rel =>
             refine ⟨j + 1, p ++ [⟨e1, e2, e3 + y3, -1⟩], some ⟨g, 0, none⟩, c2, by go_num, ?_, by omega, ?_, ⟨rfl, ?_⟩, ?_, ?_⟩
             · rw [List.length_append, HP.out]; rfl
             · have := HJ.out.2.2.2; rw [HE.out] at this; exact this
             · rw [HT.out.1, HE.out]
             · have := HJ.out; rw [HE.out] at this; exact ⟨this.1, this.2.1, this.2.2.1⟩
             · rw [show ecs (p ++ [⟨e1, e2, e3 + y3, -1⟩]) = _ from (ecs_glue2 p (Ent.mk e1 e2 e3 e4) np HP.out (e3 + y3) (-1)).symm, HX.out, List.length_append, HP.out]
               show Sat (rw TEn 4 (.slice (some ⟨g, 0, none⟩) (np + 1) c2) ((xs.set (np * 4 + 3) (Value.int .i64 (-1))).set (np * 4 + 2) (Value.int .i64 (e3 + y3))) * (B * F)) _
               first | exact keep3 _ _ _ | exact Sat.drewN 1 (keep3 _ _ _)
          · have d1 : decide (0 ≤ e4) = true := decide_eq_true (by omega)
            by_cases h5 : y4 < 0
            · have HE : Aside (joinTo (p ++ [⟨e1, e2, e3, e4⟩]) ⟨e1, y2, y3, y4⟩ = p ++ [⟨e1, e2, e3 + y3, -1⟩]) := by rw [joinTo_go hm]; unfold glue; simp [h4, h5]; exact (trivial : True)
              have d2 : decide (0 ≤ y4) = false := decide_eq_false (by omega)
              clear hm
              go_wp2_with fail
              go_quiet (fail)
              go_wp2_with fail
              go_region
              go_wp2_with fail
              go_roundg (nl - (j + 1))
              case measure => have := J.out.1; omega
              case rel =>
               refine ⟨j + 1, p ++ [⟨e1, e2, e3 + y3, -1⟩], some ⟨g, 0, none⟩, c2, by go_num, ?_, by omega, ?_, ⟨rfl, ?_⟩, ?_, ?_⟩
               · rw [List.length_append, HP.out]; rfl
               · have := HJ.out.2.2.2; rw [HE.out] at this; exact this
               · rw [HT.out.1, HE.out]
               · have := HJ.out; rw [HE.out] at this; exact ⟨this.1, this.2.1, this.2.2.1⟩
               · rw [show ecs (p ++ [⟨e1, e2, e3 + y3, -1⟩]) = _ from (ecs_glue2 p (Ent.mk e1 e2 e3 e4) np HP.out (e3 + y3) (-1)).symm, HX.out, List.length_append, HP.out]
                 show Sat (rw TEn 4 (.slice (some ⟨g, 0, none⟩) (np + 1) c2) ((xs.set (np * 4 + 3) (Value.int .i64 (-1))).set (np * 4 + 2) (Value.int .i64 (e3 + y3))) * (B * F)) _
                 first | exact keep3 _ _ _ | exact Sat.drewN 1 (keep3 _ _ _)
            · have HE : Aside (joinTo (p ++ [⟨e1, e2, e3, e4⟩]) ⟨e1, y2, y3, y4⟩ = p ++ [⟨e1, e2, e3 + y3, e4 + y4⟩]) := by rw [joinTo_go hm]; unfold glue; simp [h4, h5]; exact (trivial : True)
              have d2 : decide (0 ≤ y4) = true := decide_eq_true (by omega)
              clear hm
              go_wp2_with fail
              go_quiet (fail)
              go_wp2_with fail
              go_region
              go_wp2_with fail
              go_region
              go_wp2_with fail
              go_roundg (nl - (j + 1))
              case measure => have := J.out.1; omega
              case rel =>
               refine ⟨j + 1, p ++ [⟨e1, e2, e3 + y3, e4 + y4⟩], some ⟨g, 0, none⟩, c2, by go_num, ?_, by omega, ?_, ⟨rfl, ?_⟩, ?_, ?_⟩
               · rw [List.length_append, HP.out]; rfl
               · have := HJ.out.2.2.2; rw [HE.out] at this; exact this
               · rw [HT.out.1, HE.out]
               · have := HJ.out; rw [HE.out] at this; exact ⟨this.1, this.2.1, this.2.2.1⟩
               · rw [show ecs (p ++ [⟨e1, e2, e3 + y3, e4 + y4⟩]) = _ from (ecs_glue2 p (Ent.mk e1 e2 e3 e4) np HP.out (e3 + y3) (e4 + y4)).symm, HX.out, List.length_append, HP.out]
                 show Sat (rw TEn 4 (.slice (some ⟨g, 0, none⟩) (np + 1) c2) ((xs.set (np * 4 + 3) (Value.int .i64 (e4 + y4))).set (np * 4 + 2) (Value.int .i64 (e3 + y3))) * (B * F)) _
                 first | exact keep3 _ _ _ | exact Sat.drewN 1 (keep3 _ _ _)
        · have HE : Aside (joinTo (p ++ [⟨e1, e2, e3, e4⟩]) ⟨e1, y2, y3, y4⟩ = (p ++ [⟨e1, e2, e3, e4⟩]) ++ [⟨e1, y2, y3, y4⟩]) := joinTo_stop (by unfold meets; simp [h2])
          have b2 : (e2 + e3 == y2) = false := by simp [h2]
          go_wp2_with fail
          go_quiet (fail)
          go_wp2_with (at_builtin; refine wpl_append_same E rfl (.tmp 93) (.tmp 95) rfl rfl rfl (takeI (rw TEn 4 (.slice (some ⟨g, 0, none⟩) (np + 1) c2) xs)) (Src.new (b := wr.heap.size + 1) (e := TEn) (s := 4) (vs := [.int .i64 e1, .int .i64 y2, .int .i64 y3, .int .i64 y4]) (takeI _) rfl (by intro u hu; simp at hu; rcases hu with rfl | rfl | rfl | rfl <;> rfl)) (by unfold maxLen; omega) (by omega) ?_; intro a9 c9 w9 q9 z9; clear z9; haveI := q9.i)
          go_roundg (nl - (j + 1))
          case measure => have := J.out.1; omega
          case rel =>
           refine ⟨j + 1, (p ++ [⟨e1, e2, e3, e4⟩]) ++ [⟨e1, y2, y3, y4⟩], a9, c9, by go_num, ?_, by omega, ?_, ⟨rfl, ?_⟩, ?_, ?_⟩
           · rw [List.length_append, List.length_append, HP.out]; rfl
           · have := HJ.out.2.2.2; rw [HE.out] at this; exact this
           · rw [HT.out.1, HE.out]
           · have := HJ.out; rw [HE.out] at this; exact ⟨this.1, this.2.1, this.2.2.1⟩
           · rw [ecs_last (p ++ [Ent.mk e1 e2 e3 e4]), HX.out, List.length_append, List.length_append, HP.out]
             show Sat (rw TEn 4 (.slice a9 (np + 1 + 1) c9) (xs ++ [.int .i64 e1, .int .i64 y2, .int .i64 y3, .int .i64 y4]) * (B * F)) _
             exact keep3 _ _ _
      · have HE : Aside (joinTo (p ++ [⟨e1, e2, e3, e4⟩]) ⟨y1, y2, y3, y4⟩ = (p ++ [⟨e1, e2, e3, e4⟩]) ++ [⟨y1, y2, y3, y4⟩]) := joinTo_stop (by unfold meets; simp [h1])
        have b1 : (e1 == y1) = false := by simp [h1]
        go_wp2_with fail
        go_quiet (fail)
        go_wp2_with (at_builtin; refine wpl_append_same E rfl (.tmp 93) (.tmp 95) rfl rfl rfl (takeI (rw TEn 4 (.slice (some ⟨g, 0, none⟩) (np + 1) c2) xs)) (Src.new (b := wr.heap.size + 1) (e := TEn) (s := 4) (vs := [.int .i64 y1, .int .i64 y2, .int .i64 y3, .int .i64 y4]) (takeI _) rfl (by intro u hu; simp at hu; rcases hu with rfl | rfl | rfl | rfl <;> rfl)) (by unfold maxLen; omega) (by omega) ?_; intro a9 c9 w9 q9 z9; clear z9; haveI := q9.i)
        go_roundg (nl - (j + 1))
        case measure => have := J.out.1; omega
        case rel =>
         refine ⟨j + 1, (p ++ [⟨e1, e2, e3, e4⟩]) ++ [⟨y1, y2, y3, y4⟩], a9, c9, by go_num, ?_, by omega, ?_, ⟨rfl, ?_⟩, ?_, ?_⟩
         · rw [List.length_append, List.length_append, HP.out]; rfl
         · have := HJ.out.2.2.2; rw [HE.out] at this; exact this
         · rw [HT.out.1, HE.out]
         · have := HJ.out; rw [HE.out] at this; exact ⟨this.1, this.2.1, this.2.2.1⟩
         · rw [ecs_last (p ++ [Ent.mk e1 e2 e3 e4]), HX.out, List.length_append, List.length_append, HP.out]
           show Sat (rw TEn 4 (.slice a9 (np + 1 + 1) c9) (xs ++ [.int .i64 y1, .int .i64 y2, .int .i64 y3, .int .i64 y4]) * (B * F)) _
           exact keep3 _ _ _
  · have hlj' : ¬ (j : Int) < nl := by omega
    have hJ := J.out.2
    rw [List.take_of_length_le (by rw [HNL.out]; omega)] at hJ
    have HF : Aside (o2 = R) := (by rw [hJ, ← HR.out]; rfl : _ = _)
    clear hJ
    go_wp2
    go_ret
    exact ⟨a2, c2, by rw [HF.out]; rfl, by rw [← HF.out]; exact keep3 _ _ _⟩
end Go.Proofs.YtfhbmblbidcmmaaGreat
namespace Go.Proofs.YtfhbmblbidcmmaaGreat
set_option linter.unusedSimpArgs false
set_option linter.unusedVariables false
open Go.RowKit Go.Sl Go.Tr Go.Dk
attribute [local go_sem ↓] Go.wp_at_zero Go.wp_at_succ
attribute [local go_sem] Go.Sl.cell_sat Go.Sl.frozen_sat
theorem eB_le {l : List Ent} (hm : ∀ x ∈ l, mayEnt x = true) : eBytes l ≤ l.length * 1048576 := by
 induction l with
 | nil => simp [eBytes]
 | cons x l ih =>
   have h1 := mayE_iff.1 (hm x (List.mem_cons_self ..))
   have h2 := ih fun y hy => hm y (List.mem_cons_of_mem _ hy)
   rw [eBytes_cons, List.length_cons]
   omega
set_option maxRecDepth 100000 in
set_option maxHeartbeats 3200000 in
theorem r14tree_any (file : List UInt8) (v : Value) (B : Assn) (root : Int) (F : Assn) (w : World) (hB : Reads B v file) (hl : file.length ≤ 1099511627776) (hs : Sat (B * F) w) :
 Calls Tryz.prog 16 #[v, .int .i64 root] w (LkOut B F (rTree (fileNode file) root)) := by
 by_cases h0 : root = 0
 · subst h0
   have hR : rTree (fileNode file) 0 = ⟨true, 0, [], []⟩ := rfl
   rw [hR]
   haveI := hs.i
   go_enter Tryz.func16, Tryz.ntmps16
   go_wp2
   go_returns
   exact ⟨_, 1, rfl, ⟨_, _, rfl, ReadsR.nil 4 _, ReadsR.nil 1 _⟩, by rw [one_sep]; exact keep2 B F⟩
 obtain ⟨R, hR⟩ : ∃ R, rTree (fileNode file) root = R := ⟨_, rfl⟩
 obtain ⟨x, hx⟩ : ∃ x, rBelow (fileNode file) 13 root true = x := ⟨_, rfl⟩
 have HR : Aside (R = if x.ok = false ∨ (join x.ents).length ≠ x.ents.length then lk0 else x) := (by
  rw [← hR]; unfold rTree; rw [if_neg h0, hx] : _ = _)
 rw [hR]
 have hxo : LkOk true 13 x := by rw [← hx]; exact rBelow_ok (fun p n h => fileNode_may h) 13 root true
 have hbl := r14below_any file v B hB hl 13 root 0 true
 rw [hx] at hbl
 have HBL : Aside (∀ (F : Assn) (w : World), Sat (B * F) w → Calls Tryz.prog 71 #[v, .int .i64 root, .bool true, .int .i64 0] w (LkOut B F x)) := fun F w h => hbl F w (by omega) (by omega) h
 have h0' : (root == 0) = false := by simpa using h0
 haveI := hs.i
 clear hR hx hbl
 go_enter Tryz.func16, Tryz.ntmps16
 go_wp2_with fail
 with_reducible refine Calls.mono (HBL.out _ _ (takeI B)) ?_
 rintro e w1 ⟨v1, G, rfl, hL, q1⟩
 obtain ⟨vE, vP, rfl, hE, hP⟩ := hL
 obtain ⟨xE, dE, rfl, hE1, hE2⟩ := hE.v
 obtain ⟨xP, dP, rfl, hP1, hP2⟩ := hP.v
 have HO : Aside (LkOk true 13 x) := hxo
 have hxe := hxo.ents
 obtain ⟨xo, xh, xe, xp⟩ := x
 simp only at hxe hE hP hE1 hP1
 have HJ : Aside (∀ (F : Assn) (w : World), Sat (G * F) w → Calls Tryz.prog 72 #[.slice xE xe.length dE] w fun e w' => ∃ a c, e = .returned (.slice a (join xe).length c) ∧ Sat (rw TEn 4 (.slice a (join xe).length c) (ecs (join xe)) * (G * F)) w') := fun F w h => rjoin_any xe _ G F w hE h (by omega) HO.out.may (by have := eB_le HO.out.may; simp only at this; omega)
 obtain ⟨jl, hjl⟩ : ∃ z, (join xe).length = z := ⟨_, rfl⟩
 obtain ⟨me, hme⟩ : ∃ z, xe.length = z := ⟨_, rfl⟩
 obtain ⟨mp', hmp⟩ : ∃ z, xp.length = z := ⟨_, rfl⟩
 have HEP : Aside (ReadsE G (.slice xE xe.length dE) xe ∧ ReadsI G (.slice xP xp.length dP) xp ∧ (join xe).length = jl ∧ xe.length = me ∧ xp.length = mp') := ⟨hE, hP, hjl, hme, hmp⟩
 simp only [hjl, hme] at HJ
 simp only [hme, hmp] at q1 ⊢
 haveI := q1.i
 clear hE hP hE1 hP1 hxe hxo hjl hme hmp hs HBL
 cases xo with
 | false =>
   have HF : Aside (R = lk0) := (by rw [HR.out, if_pos (.inl rfl)] : _ = _)
   go_upto_region 4 with (fail)
   go_region
   go_wp2
   go_returns
   rw [HF.out]
   exact lkOut_zero (keep2 B F)
 | true =>
   go_upto_region 4 with (fail)
   go_region_held3 (fun w' => w'.cell? ⟨w1.heap.size, 0, none⟩ = some (.bool true) ∧ w'.cell? ⟨w1.heap.size, 2, none⟩ = some (.slice xE me dE)) (exact ⟨cell_sat _ _ _, cell_sat _ _ _⟩) (first
    | (go_at_call 72; with_reducible refine Calls.mono (HJ.out _ _ (takeI G)) ?_; rintro e w7 ⟨a7, c7, rfl, q7⟩; haveI := q7.i))
   all_goals
    cases e9 : ((jl : Int) != (me : Int)) with
    | true =>
      have HF : Aside (R = lk0) := (by
       have c9 : jl ≠ me := by intro h; rw [h] at e9; simp at e9
       rw [HR.out, if_pos (.inr (by rw [HEP.out.2.2.1, HEP.out.2.2.2.1]; exact c9))] : _ = _)
      go_wp2
      go_returns
      rw [HF.out]
      exact lkOut_zero (keep2 B F)
    | false =>
      have HF : Aside (R = ⟨true, xh, xe, xp⟩) := (by
       have c9 : jl = me := by have : (jl : Int) = me := by simpa using e9
                               omega
       rw [HR.out, if_neg (by rw [HEP.out.2.2.1, HEP.out.2.2.2.1]; simp [c9])] : _ = _)
      go_wp2
      go_returns
      rw [HF.out]
      exact ⟨_, G, rfl, ⟨_, _, rfl, by have := HEP.out.1; rw [HEP.out.2.2.2.1] at this; exact this, by have := HEP.out.2.1; rw [HEP.out.2.2.2.2] at this; exact this⟩, keep3 G B F⟩
end Go.Proofs.YtfhbmblbidcmmaaGreat
