/-
  Of all roots that are made the pages are a tree in the form of the document, and just these are told, and each is in use. No condition. (part 45)
-/
import Derived.Test.YtfhbmblbidcmmaaGreatSk41
import Derived.Test.YtfhbmblbidcmmaaGreatSk29
import Derived.Test.YtfhbmblbidcmmaaGreatSk21
import Derived.BigQuiet
import Derived.IntWalk
set_option linter.unusedSimpArgs false
set_option linter.unusedVariables false
namespace Go.Proofs.YtfhbmblbidcmmaaGreat
set_option linter.unusedSimpArgs false
set_option linter.unusedVariables false
open Go.RowKit Go.Sl Go.Dk Go.Tr
attribute [local go_sem ↓] Go.wp_at_zero Go.wp_at_succ
attribute [local go_sem] Go.Sl.cell_sat Go.Sl.frozen_sat
def rOk (x : Ent) : Prop := (x.src = 0 ∨ x.src = 1) ∧ 0 ≤ x.pos ∧ 1 ≤ x.len ∧ x.pos ≤ 16777216 ∧ x.len ≤ 16777216 ∧ x.pos + x.len ≤ 16777216 ∧ -1 ≤ x.lines ∧ x.lines ≤ x.len ∧ (x.src = 1 ∨ x.lines = -1)
theorem rOk_may {x : Ent} : mayEnt x = true ↔ rOk x ∧ x.len ≤ 1048576 := by
 rw [mayE_iff]
 unfold rOk
 omega
theorem rOk_not {x : Ent} (h : ¬ rOk x) : mayEnt x = false := by
 cases hm : mayEnt x with
 | false => rfl
 | true => exact absurd (rOk_may.1 hm).1 h
theorem rleaf_good {l : List Ent} (h : ∀ x ∈ l, rOk x) (h1 : 1 ≤ l.length) (h2 : l.length ≤ 12) : may ⟨true, l, []⟩ = decide (eBytes l ≤ 1048576) := by
 by_cases hb : eBytes l ≤ 1048576
 · have hm : ∀ x ∈ l, mayEnt x = true := fun x hx => rOk_may.2 ⟨h x hx, by
    have := (okE_len (o := l) fun y hy => by have := h y hy; unfold rOk at this; unfold OkE; omega).2 x hx
    omega⟩
   rw [may_good (fun x hx => ⟨rfl, hm x hx⟩) (fun x hx => by cases hx), decide_eq_true hb]
   simp [kBytes, kScraps]
   omega
 · rw [decide_eq_false hb]
   by_cases hm : ∀ x ∈ l, mayEnt x = true
   · rw [may_good (fun x hx => ⟨rfl, hm x hx⟩) (fun x hx => by cases hx)]
     simp [kBytes, kScraps]
     omega
   · obtain ⟨x, hx, he⟩ : ∃ x ∈ l, mayEnt x = false := by
      rcases Classical.em (∃ x ∈ l, mayEnt x = false) with h | h
      · exact h
      · exfalso; apply hm; intro x hx
        cases hq : mayEnt x with
        | true => rfl
        | false => exact absurd ⟨x, hx, hq⟩ h
     exact may_badE hx (.inr he)
set_option maxRecDepth 100000 in
set_option maxHeartbeats 3200000 in
theorem r13may_leafG (ka : Option Addr) (kc : Nat) (es : List Ent) (a : Option Addr) (c : Nat) (B F : Assn) (w : World) (hE : ReadsE B (.slice a es.length c) es) (hs : Sat (B * F) w) :
 Calls Tryz.prog 64 #[.agg #[.bool true, .slice a es.length c, .slice ka 0 kc]] w fun e w' => e = .returned (.bool (may ⟨true, es, []⟩)) ∧ Sat (B * F) w' := by
 have HE : Aside (ReadsE B (.slice a es.length c) es) := hE
 obtain ⟨mr, hmr⟩ : ∃ r, may ⟨true, es, []⟩ = r := ⟨_, rfl⟩
 have HR : Aside (may ⟨true, es, []⟩ = mr) := hmr
 rw [hmr]
 obtain ⟨n, hn⟩ : ∃ n, es.length = n := ⟨_, rfl⟩
 have HN : Aside (es.length = n) := hn
 rw [hn] at hE ⊢
 clear hE hmr hn
 haveI := hs.i
 by_cases h1 : n < 1
 · have hz : n = 0 := by omega
   have HF : Aside (mr = false) := (by
    have : es = [] := List.length_eq_zero_iff.1 (by rw [HN.out, hz])
    rw [← HR.out, this]; rfl : _ = _)
   subst hz
   go_enter Tryz.func64, Tryz.ntmps64
   go_wp2
   go_ret
   exact ⟨by rw [HF.out]; rfl, keep2 B F⟩
 by_cases h2 : 12 < n
 · have HF : Aside (mr = false) := (by
    rw [← HR.out]
    by_cases hm : ∀ x ∈ es, mayEnt x = true
    · rw [may_good (fun x hx => ⟨rfl, hm x hx⟩) (fun x hx => by cases hx)]
      have := HN.out
      simp [kBytes, kScraps]
      omega
    · obtain ⟨x, hx, he⟩ : ∃ x ∈ es, mayEnt x = false := by
       rcases Classical.em (∃ x ∈ es, mayEnt x = false) with h | h
       · exact h
       · exfalso; apply hm; intro x hx
         cases hq : mayEnt x with
         | true => rfl
         | false => exact absurd ⟨x, hx, hq⟩ h
      exact may_badE hx (.inr he) : _ = _)
   have h1i : ¬ (n : Int) < 1 := by omega
   have h2i : (12 : Int) < n := by omega
   go_enter Tryz.func64, Tryz.ntmps64
   go_wp2
   go_ret
   exact ⟨by rw [HF.out]; rfl, keep2 B F⟩
 have h1i : ¬ (n : Int) < 1 := by omega
 have h2i : ¬ (12 : Int) < n := by omega
 go_enter Tryz.func64, Tryz.ntmps64
 go_wp2_with fail
 obtain ⟨N, hN⟩ : ∃ N, w.heap.size = N := ⟨_, rfl⟩
 have q0 : Sat (Sl.block N TNd [.bool true, .slice a n c, .slice ka 0 kc] * (B * F)) (w.alloc (.cells #[.bool true, .slice a n c, .slice ka 0 kc] TNd)) := by
  rw [← hN]
  exact satI
 try rw [hN]
 generalize w.alloc (.cells #[.bool true, .slice a n c, .slice ka 0 kc] TNd) = w0 at q0 ⊢
 clear hN hs this
 go_loopg [3, 4] n (fun g t3 t4 wr => ∃ (i : Nat) (su : Int), t4 = .int .i64 i ∧ t3 = .int .i64 su ∧ i ≤ n ∧ 0 ≤ su ∧ su ≤ i * 16777216 ∧ Aside (g = n - i ∧ su = eBytes (es.take i) ∧ ∀ x ∈ es.take i, rOk x) ∧
  Sat (Sl.block N TNd [.bool true, .slice a n c, .slice ka 0 kc] * (B * F)) wr)
 case atStart => exact ⟨0, 0, rfl, rfl, by omega, by omega, by omega, ⟨rfl, by simp [eBytes], by simp⟩, q0⟩
 case round =>
  obtain ⟨i, su, rfl, rfl, hi, hs0, hs1, A, q1⟩ := hrel
  clear q0
  haveI := q1.i
  by_cases hlt : i < n
  · have hlt' : (i : Int) < n := by omega
    obtain ⟨x, hx⟩ : ∃ x, es[i]? = some x := ⟨_, List.getElem?_eq_getElem (by rw [HN.out]; exact hlt)⟩
    obtain ⟨b, o, rfl, r1, r2, r3, r4⟩ := readsE_at HE.out hx
    have HX : Aside (es[i]? = some x) := hx
    obtain ⟨x1, x2, x3, x4⟩ := x
    simp only at r1 r2 r3 r4
    have HBAD : Aside (¬ rOk ⟨x1, x2, x3, x4⟩ → mr = false) := fun h => HR.out.symm.trans (may_badE (List.mem_of_getElem? HX.out) (.inr (rOk_not h)))
    clear hx
    by_cases hok : rOk ⟨x1, x2, x3, x4⟩
    · have HK : Aside (rOk ⟨x1, x2, x3, x4⟩) := hok
      unfold rOk at hok
      simp only at hok
      obtain ⟨k1, k2, k3, k4, k5, k6, k7, k8, k9⟩ := hok
      have hw2 : IntKind.i64.wrap (su + x3) = su + x3 := IntWalk.i64_in _ (by omega)
      have hw1 : IntKind.i64.wrap (x2 + x3) = x2 + x3 := IntWalk.i64_in _ (by omega)
      have d1 : decide (x2 < 0) = false := decide_eq_false (by omega)
      have d2 : decide (x3 < 1) = false := decide_eq_false (by omega)
      have d3 : decide (16777216 < x2) = false := decide_eq_false (by omega)
      have d4 : decide (16777216 < x3) = false := decide_eq_false (by omega)
      have d5 : decide (16777216 < x2 + x3) = false := decide_eq_false (by omega)
      have d6 : decide (x4 < -1) = false := decide_eq_false (by omega)
      have d7 : decide (x3 < x4) = false := decide_eq_false (by omega)
      rcases k1 with k1 | k1
      · obtain rfl : x4 = -1 := by omega
        subst k1
        clear k9
        go_wp2_with fail
        go_region_held3 (fun w' => w'.cell? ⟨N, 1, none⟩ = some (.slice (some ⟨b, o, none⟩) n c) ∧ w'.cell? ⟨b, o + i * 4, none⟩ = some (.int .i64 0) ∧ w'.cell? ⟨b, o + i * 4 + 1, none⟩ = some (.int .i64 x2) ∧ w'.cell? ⟨b, o + i * 4 + 2, none⟩ = some (.int .i64 x3) ∧ w'.cell? ⟨b, o + i * 4 + 3, none⟩ = some (.int .i64 (-1))) (first | exact ⟨cell_sat _ _ _, cell_sat _ _ _, cell_sat _ _ _, cell_sat _ _ _, cell_sat _ _ _⟩) (fail)
        go_wp2
        go_roundg (n - (i + 1))
        case measure => have := A.out.1; omega
        case rel =>
         refine ⟨i + 1, su + x3, by go_num, rfl, by omega, by omega, by omega, ⟨rfl, ?_, ?_⟩, keep3 _ B F⟩
         · rw [eBytes_snoc HX.out, A.out.2.1]
         · rw [take_snoc' HX.out]
           intro y hy
           rcases List.mem_append.1 hy with hy | hy
           · exact A.out.2.2 y hy
           · simp at hy; subst hy; exact HK.out
      · subst k1
        clear k9
        go_wp2_with fail
        go_region_held3 (fun w' => w'.cell? ⟨N, 1, none⟩ = some (.slice (some ⟨b, o, none⟩) n c) ∧ w'.cell? ⟨b, o + i * 4, none⟩ = some (.int .i64 1) ∧ w'.cell? ⟨b, o + i * 4 + 1, none⟩ = some (.int .i64 x2) ∧ w'.cell? ⟨b, o + i * 4 + 2, none⟩ = some (.int .i64 x3) ∧ w'.cell? ⟨b, o + i * 4 + 3, none⟩ = some (.int .i64 x4)) (first | exact ⟨cell_sat _ _ _, cell_sat _ _ _, cell_sat _ _ _, cell_sat _ _ _, cell_sat _ _ _⟩) (fail)
        go_wp2
        go_roundg (n - (i + 1))
        case measure => have := A.out.1; omega
        case rel =>
         refine ⟨i + 1, su + x3, by go_num, rfl, by omega, by omega, by omega, ⟨rfl, ?_, ?_⟩, keep3 _ B F⟩
         · rw [eBytes_snoc HX.out, A.out.2.1]
         · rw [take_snoc' HX.out]
           intro y hy
           rcases List.mem_append.1 hy with hy | hy
           · exact A.out.2.2 y hy
           · simp at hy; subst hy; exact HK.out
    · have HF : Aside (mr = false) := HBAD.out hok
      have HO : Aside (¬ rOk ⟨x1, x2, x3, x4⟩) := hok
      clear hok HBAD
      go_wp2_with fail
      go_region_held3 (fun w' => w'.cell? ⟨N, 1, none⟩ = some (.slice (some ⟨b, o, none⟩) n c) ∧ w'.cell? ⟨b, o + i * 4, none⟩ = some (.int .i64 x1) ∧ w'.cell? ⟨b, o + i * 4 + 1, none⟩ = some (.int .i64 x2) ∧ w'.cell? ⟨b, o + i * 4 + 2, none⟩ = some (.int .i64 x3) ∧ w'.cell? ⟨b, o + i * 4 + 3, none⟩ = some (.int .i64 x4)) (first | exact ⟨cell_sat _ _ _, cell_sat _ _ _, cell_sat _ _ _, cell_sat _ _ _, cell_sat _ _ _⟩) (fail)
      all_goals go_wp2
      all_goals (try go_ret)
      all_goals first
       | exact ⟨by rw [HF.out]; rfl, keep2 B F⟩
       | (exfalso; apply HO.out; unfold rOk; simp only; simp at *; omega)
  · have hlt' : ¬ (i : Int) < n := by omega
    obtain rfl : i = n := by omega
    have hx : es.take i = es := List.take_of_length_le (by rw [HN.out]; exact Nat.le_refl _)
    have HG : Aside (mr = decide (su ≤ 1048576)) := (by
     have h3 := A.out.2
     rw [hx] at h3
     rw [← HR.out, rleaf_good h3.2 (by rw [HN.out]; omega) (by rw [HN.out]; omega), h3.1] : _ = _)
    clear hx
    by_cases hsu : su ≤ 1048576
    · have HF : Aside (mr = true) := HG.out.trans (decide_eq_true hsu)
      go_wp2
      go_ret
      exact ⟨by rw [HF.out]; rfl, keep2 B F⟩
    · have HF : Aside (mr = false) := HG.out.trans (decide_eq_false hsu)
      go_wp2
      go_ret
      exact ⟨by rw [HF.out]; rfl, keep2 B F⟩
theorem r13may_leaf (es : List Ent) (a : Option Addr) (c : Nat) (B F : Assn) (w : World) (hE : ReadsE B (.slice a es.length c) es) (hs : Sat (B * F) w) :
 Calls Tryz.prog 64 #[.agg #[.bool true, .slice a es.length c, .slice none 0 0]] w fun e w' => e = .returned (.bool (may ⟨true, es, []⟩)) ∧ Sat (B * F) w' := r13may_leafG none 0 es a c B F w hE hs
theorem rmay_one (y : Ent) (a : Option Addr) (c : Nat) (B F : Assn) (w : World) (hE : ReadsE B (.slice a 1 c) [y]) (hs : Sat (B * F) w) :
 Calls Tryz.prog 64 #[.agg #[.bool true, .slice a 1 c, .slice none 0 0]] w fun e w' => e = .returned (.bool (mayEnt y)) ∧ Sat (B * F) w' := by
 rw [← may_one]
 exact r13may_leaf [y] a c B F w hE hs
end Go.Proofs.YtfhbmblbidcmmaaGreat
namespace Go.Proofs.YtfhbmblbidcmmaaGreat
set_option linter.unusedSimpArgs false
set_option linter.unusedVariables false
open Go.RowKit Go.Sl Go.Dk Go.Tr
attribute [local go_sem ↓] Go.wp_at_zero Go.wp_at_succ
attribute [local go_sem] Go.Sl.cell_sat Go.Sl.frozen_sat
theorem mayList_big {l : List Ent} {i : Nat} {y : Ent} (hy : l[i]? = some y) (h : 1048576 < eBytes (l.take i) + y.len) : mayList l = false := by
 rw [mayList_eq]
 by_cases hall : l.all mayEnt = true
 · have h1 : eBytes l = eBytes (l.take (i + 1)) + eBytes (l.drop (i + 1)) := by rw [← eBytes_append, List.take_append_drop]
   have h2 : 0 ≤ eBytes (l.drop (i + 1)) := by
    have := (eBytes_take_bound (l := l.drop (i + 1)) (fun x hx => by
     have := mayE_bounds (List.all_eq_true.1 hall x (List.mem_of_mem_drop hx))
     omega) (l.drop (i + 1)).length).1
    rwa [List.take_of_length_le (Nat.le_refl _)] at this
   have h3 := eBytes_snoc hy
   rw [decide_eq_false (by omega), Bool.and_false]
 · rw [Bool.not_eq_true] at hall
   rw [hall]
   rfl
theorem ecs_one1 (y : Ent) : ecs [y] = erow y := by simp [ecs]
theorem readsE_one {y : Ent} {a : Option Addr} {c : Nat} {F : Assn} {w : World} (h : Sat (rw TEn 4 (.slice a 1 c) (erow y) * F) w) : ReadsE (rw TEn 4 (.slice a 1 c) (erow y)) (.slice a 1 c) [y] := by
 rw [← ecs_one1] at h ⊢
 exact readsE_rw h rfl
set_option maxRecDepth 100000 in
set_option maxHeartbeats 3200000 in
theorem rmay_any (l : List Ent) (v : Value) (B F : Assn) (w : World) (hE : ReadsE B v l) (hs : Sat (B * F) w) (hl : l.length ≤ 65536) :
 Calls Tryz.prog 105 #[v] w fun e w' => e = .returned (.bool (mayList l)) ∧ Sat (B * F) w' := by
 obtain ⟨i0, E⟩ := elemEn
 obtain ⟨a0, c0, rfl, hE1, hE2⟩ := hE.v
 have HE : Aside (ReadsE B (.slice a0 l.length c0) l) := hE
 obtain ⟨n, hn⟩ : ∃ n, l.length = n := ⟨_, rfl⟩
 rw [hn] at hl ⊢
 have HN : Aside (l.length = n) := hn
 obtain ⟨mr, hmr⟩ : ∃ r, mayList l = r := ⟨_, rfl⟩
 rw [hmr]
 have HR : Aside (mayList l = mr) := hmr
 haveI := hs.i
 clear hE hn hmr
 go_enter Tryz.func105, Tryz.ntmps105
 go_wp2
 go_loopg [3, 4] n (fun g t3 t4 wr => ∃ (i : Nat), t4 = .int .i64 i ∧ t3 = .int .i64 (eBytes (l.take i)) ∧ i ≤ n ∧ Aside (g = n - i) ∧ Aside ((∀ x ∈ l.take i, mayEnt x = true) ∧ 0 ≤ eBytes (l.take i) ∧ eBytes (l.take i) ≤ 1048576) ∧ Sat (B * F) wr)
 case atStart => exact ⟨0, rfl, by simp [eBytes], by omega, rfl, ⟨by simp, by simp [eBytes], by simp [eBytes]⟩, hs⟩
 case round =>
  obtain ⟨i, rfl, rfl, hi, A, HI, hsr⟩ := hrel
  haveI := hsr.i
  clear hs
  by_cases hlt : i < n
  · have hlt' : (i : Int) < n := by omega
    obtain ⟨y, hy⟩ : ∃ y, l[i]? = some y := ⟨_, List.getElem?_eq_getElem (by rw [HN.out]; exact hlt)⟩
    obtain ⟨b, q, rfl, r1, r2, r3, r4⟩ := readsE_at HE.out hy
    have HT : Aside (eBytes (l.take (i + 1)) = eBytes (l.take i) + y.len ∧ l.take (i + 1) = l.take i ++ [y]) := ⟨eBytes_snoc hy, take_snoc' hy⟩
    have HMY : Aside (∀ (a : Option Addr) (c : Nat) (F : Assn) (w : World), Sat (rw TEn 4 (.slice a 1 c) (erow y) * F) w → Calls Tryz.prog 64 #[.agg #[.bool true, .slice a 1 c, .slice none 0 0]] w fun e w' => e = .returned (.bool (mayEnt y)) ∧ Sat (rw TEn 4 (.slice a 1 c) (erow y) * F) w') := fun a c F w h =>
     rmay_one y a c _ F w (readsE_one h) h
    have HMF : Aside (mayEnt y = false → mr = false) := fun h => HR.out.symm.trans (mayList_stop hy h)
    have HBG : Aside (1048576 < eBytes (l.take i) + y.len → mr = false) := fun h => HR.out.symm.trans (mayList_big hy h)
    have hbd := HI.out.2
    obtain ⟨z, hz⟩ : ∃ z, eBytes (l.take i) = z := ⟨_, rfl⟩
    rw [hz] at hbd HT HBG ⊢
    obtain ⟨me, hme⟩ : ∃ r, mayEnt y = r := ⟨_, rfl⟩
    have HME : Aside (mayEnt y = me) := hme
    rw [hme] at HMY
    obtain ⟨y1, y2, y3, y4⟩ := y
    unfold erow at HMY
    simp only at r1 r2 r3 r4 HT HBG HMY
    clear hy hz
    go_wp2_with (at_builtin; refine wpl_append_same E rfl (.tmp 12) (.tmp 17) rfl rfl rfl (Sat.rw_nil (e := TEn) (s := 4) satI) (Src.new (b := wr.heap.size) (e := TEn) (s := 4) (vs := [.int .i64 y1, .int .i64 y2, .int .i64 y3, .int .i64 y4]) (takeI _) rfl (by intro u hu; simp at hu; rcases hu with rfl | rfl | rfl | rfl <;> rfl)) (by unfold maxLen; omega) (by omega) ?_; intro a9 c9 w9 q9 z9; clear z9)
    rw [Nat.zero_add, List.nil_append] at q9
    haveI := q9.i
    go_wp2_with fail
    refine (HMY.out _ _ _ _ (takeI (rw TEn 4 (.slice a9 1 c9) [.int .i64 y1, .int .i64 y2, .int .i64 y3, .int .i64 y4]))).mono ?_
    rintro e w10 ⟨rfl, q10⟩
    haveI := q10.i
    cases me with
    | false =>
      have HF : Aside (mr = false) := HMF.out HME.out
      go_wp2
      go_ret
      exact ⟨by rw [HF.out]; rfl, keep2 B F⟩
    | true =>
      have hyb := mayE_bounds HME.out
      simp only at hyb
      have hw : IntKind.i64.wrap (z + y3) = z + y3 := IntWalk.i64_in _ (by omega)
      by_cases hb : 1048576 < z + y3
      · have HF : Aside (mr = false) := HBG.out hb
        go_wp2
        go_ret
        exact ⟨by rw [HF.out]; rfl, keep2 B F⟩
      · go_wp2
        go_roundg (n - (i + 1))
        case measure => have := A.out; omega
        case rel =>
         refine ⟨i + 1, by go_num, by rw [HT.out.1], by omega, rfl, ⟨?_, by rw [HT.out.1]; omega, by rw [HT.out.1]; omega⟩, keep2 _ _⟩
         rw [HT.out.2]
         intro x hx
         rcases List.mem_append.1 hx with hx | hx
         · exact HI.out.1 x hx
         · simp at hx; subst hx; exact HME.out
  · have hlt' : ¬ (i : Int) < n := by omega
    obtain rfl : i = n := by omega
    have HF : Aside (mr = true) := (by
     rw [← HR.out]
     have h := HI.out
     rw [List.take_of_length_le (by rw [HN.out]; exact Nat.le_refl _)] at h
     rw [mayList_eq]
     rw [List.all_eq_true.2 h.1, decide_eq_true h.2.2]
     rfl : _ = _)
    go_wp2
    go_ret
    exact ⟨by rw [HF.out]; rfl, keep2 B F⟩
end Go.Proofs.YtfhbmblbidcmmaaGreat
namespace Go.Proofs.YtfhbmblbidcmmaaGreat
set_option linter.unusedSimpArgs false
set_option linter.unusedVariables false
open Go.RowKit Go.Sl Go.Dk Go.Tr
attribute [local go_sem ↓] Go.wp_at_zero Go.wp_at_succ
attribute [local go_sem] Go.Sl.cell_sat Go.Sl.frozen_sat
theorem ecs_glue2 (p : List Ent) (a : Ent) (n : Nat) (hn : p.length = n) (l m : Int) : ((ecs (p ++ [a])).set (n * 4 + 3) (.int .i64 m)).set (n * 4 + 2) (.int .i64 l) = ecs (p ++ [⟨a.src, a.pos, l, m⟩]) := by
 rw [← ecs_glue p a n hn l m, List.set_comm _ _ (by omega)]
set_option maxRecDepth 100000 in
set_option maxHeartbeats 3200000 in
theorem rjoin_any (l : List Ent) (v : Value) (B F : Assn) (w : World) (hE : ReadsE B v l) (hs : Sat (B * F) w) (hl : l.length ≤ 1048576) (hm : ∀ x ∈ l, mayEnt x = true) (hb : eBytes l ≤ 1099511627776) :
 Calls Tryz.prog 72 #[v] w fun e w' => ∃ a c, e = .returned (.slice a (join l).length c) ∧ Sat (rw TEn 4 (.slice a (join l).length c) (ecs (join l)) * (B * F)) w' := by
 obtain ⟨i0, E⟩ := elemEn
 obtain ⟨a0, c0, rfl, hE1, hE2⟩ := hE.v
 have HL : Aside (ReadsE B (.slice a0 l.length c0) l) := hE
 have HM : Aside (∀ x ∈ l, mayEnt x = true) := hm
 have HBt : Aside (eBytes l ≤ 1099511627776) := hb
 obtain ⟨R, hR⟩ : ∃ R, join l = R := ⟨_, rfl⟩
 rw [hR]
 have HR : Aside (join l = R) := hR
 obtain ⟨nl, hnl⟩ : ∃ nl, l.length = nl := ⟨_, rfl⟩
 have HNL : Aside (l.length = nl) := hnl
 rw [hnl] at hl hE1 ⊢
 have q0 := hs.rw_nil (e := TEn) (s := 4)
 haveI := hs.i
 clear hE hm hb hnl hR
 go_enter Tryz.func72, Tryz.ntmps72
 go_wp2
 go_loopg [3, 4] nl (fun g t3 t4 wr => ∃ (j : Nat) (o2 : List Ent) (a2 : Option Addr) (c2 : Nat), t4 = .int .i64 j ∧ t3 = .slice a2 o2.length c2 ∧ j ≤ nl ∧ o2.length ≤ 1048576 ∧ Aside (g = nl - j ∧ o2 = (l.take j).foldl joinTo []) ∧ Aside (o2.length ≤ j ∧ (∀ y ∈ o2, OkE y) ∧ eBytes o2 = eBytes (l.take j)) ∧
  Sat (rw TEn 4 (.slice a2 o2.length c2) (ecs o2) * (B * F)) wr)
 case atStart => exact ⟨0, [], none, 0, rfl, rfl, by omega, by simp, ⟨rfl, rfl⟩, ⟨by simp, by simp, by simp [eBytes]⟩, q0⟩
 case round =>
  obtain ⟨j, o2, a2, c2, rfl, rfl, hj, hol2, J, J2, hsr2⟩ := hrel
  clear q0 hs this
  haveI := hsr2.i
  by_cases hlj : j < nl
  · have hlj' : (j : Int) < nl := by omega
    obtain ⟨y, hy⟩ : ∃ y, l[j]? = some y := ⟨_, List.getElem?_eq_getElem (by have := HNL.out; omega)⟩
    obtain ⟨b, q, rfl, r1, r2, r3, r4⟩ := readsE_at HL.out hy
    have HT : Aside ((l.take (j + 1)).foldl joinTo [] = joinTo o2 y ∧ eBytes (l.take (j + 1)) = eBytes (l.take j) + y.len) := ⟨by rw [take_snoc' hy, List.foldl_append, ← J.out.2]; rfl, eBytes_snoc hy⟩
    obtain ⟨hok, hyl⟩ := OkE.of (HM.out y (List.mem_of_getElem? hy))
    have HJ : Aside ((joinTo o2 y).length ≤ j + 1 ∧ (∀ z ∈ joinTo o2 y, OkE z) ∧ eBytes (joinTo o2 y) = eBytes (l.take (j + 1)) ∧ (joinTo o2 y).length ≤ 1048576) := by
     have h1 := joinTo_len o2 y
     have h2 := J2.out.1
     have h5 := HNL.out
     refine ⟨by omega, okE_join J2.out.2.1 hok, ?_, by omega⟩
     rw [eBytes_joinTo, HT.out.2, J2.out.2.2]
    have hyo : OkE y := hok
    obtain ⟨y1, y2, y3, y4⟩ := y
    unfold OkE at hyo
    simp only at hyo hyl r1 r2 r3 r4
    clear hok hy
    have hbe : eBytes o2 ≤ 1099511627776 := by
     have h1 := J2.out.2.2
     have h3 := HBt.out
     have h4 : eBytes l = eBytes (l.take j) + eBytes (l.drop j) := by rw [← eBytes_append, List.take_append_drop]
     have h5 := (okE_len (o := l.drop j) (fun y hy => (OkE.of (HM.out y (List.mem_of_mem_drop hy))).1)).1
     omega
    have hoa := okE_len J2.out.2.1
    rcases List.eq_nil_or_concat o2 with rfl | ⟨p, a, hcat⟩
    · clear hbe hoa
      simp only [List.length_nil] at hsr2 ⊢
      haveI := hsr2.i
      go_wp2_with fail
      go_quiet (fail)
      go_wp2_with (at_builtin; refine wpl_append_same E rfl (.tmp 93) (.tmp 95) rfl rfl rfl (takeI (rw TEn 4 (.slice a2 0 c2) (ecs []))) (Src.new (b := wr.heap.size + 1) (e := TEn) (s := 4) (vs := [.int .i64 y1, .int .i64 y2, .int .i64 y3, .int .i64 y4]) (takeI _) rfl (by intro u hu; simp at hu; rcases hu with rfl | rfl | rfl | rfl <;> rfl)) (by unfold maxLen; omega) (by omega) ?_; intro a9 c9 w9 q9 z9; clear z9; haveI := q9.i)
      go_roundg (nl - (j + 1))
      case measure => have := J.out.1; omega
      case rel =>
       refine ⟨j + 1, [⟨y1, y2, y3, y4⟩], a9, c9, by go_num, rfl, by omega, by simp, ⟨rfl, ?_⟩, ?_, ?_⟩
       · rw [HT.out.1]; rfl
       · have := HJ.out; exact ⟨this.1, this.2.1, this.2.2.1⟩
       · show Sat (rw TEn 4 (.slice a9 (0 + 1) c9) (ecs [] ++ [.int .i64 y1, .int .i64 y2, .int .i64 y3, .int .i64 y4]) * (B * F)) _
         exact keep3 _ _ _
    · rw [List.concat_eq_append] at hcat
      subst hcat
      obtain ⟨np, hnp⟩ : ∃ np, p.length = np := ⟨_, rfl⟩
      have HP : Aside (p.length = np) := hnp
      have hlen : (p ++ [a]).length = np + 1 := by rw [List.length_append, hnp]; rfl
      have hav := hoa.2 a (by simp)
      have hao := J2.out.2.1 a (by simp)
      rw [hlen] at hol2 hsr2 ⊢
      obtain ⟨g, rfl⟩ := row_some hsr2 (by omega)
      have t0 := ecs_at p a np hnp 0 _ rfl
      have t1 := ecs_at p a np hnp 1 _ rfl
      have t2 := ecs_at p a np hnp 2 _ rfl
      have t3 := ecs_at p a np hnp 3 _ rfl
      obtain ⟨e1, e2, e3, e4⟩ := a
      unfold OkE at hao
      simp only at hao hav t0 t1 t2 t3
      have hae : e3 ≤ 1099511627776 := by omega
      obtain ⟨xs, hxs⟩ : ∃ xs, ecs (p ++ [⟨e1, e2, e3, e4⟩]) = xs := ⟨_, rfl⟩
      have HX : Aside (ecs (p ++ [⟨e1, e2, e3, e4⟩]) = xs) := hxs
      rw [hxs] at t0 t1 t2 t3 hsr2
      clear hxs
      haveI : At xs (np * 4) (.int .i64 e1) := ⟨t0⟩
      haveI : At xs (np * 4 + 1) (.int .i64 e2) := ⟨t1⟩
      haveI : At xs (np * 4 + 2) (.int .i64 e3) := ⟨t2⟩
      haveI : At xs (np * 4 + 3) (.int .i64 e4) := ⟨t3⟩
      haveI : ∀ u, At (xs.set (np * 4 + 3) u) (np * 4 + 2) (.int .i64 e3) := fun u => ⟨by rw [List.getElem?_set_ne (by omega)]; exact t2⟩
      haveI := hsr2.i
      have hix : (np : Int) < (np : Int) + 1 := by omega
      have hix2 : (0 : Int) ≤ (np : Int) := by omega
      have hd : decide ((0 : Int) ≤ (np : Int)) = true := decide_eq_true (by omega)
      have hnn : (np : Int) ≤ 1048576 := by omega
      have hw0 : IntKind.i64.wrap ((np : Int) + 1 - 1) = (np : Int) := by rw [IntWalk.i64_in _ (by omega)]; omega
      have hw1 : IntKind.i64.wrap (e2 + e3) = e2 + e3 := IntWalk.i64_in _ (by omega)
      have hw2 : IntKind.i64.wrap (e3 + y3) = e3 + y3 := IntWalk.i64_in _ (by omega)
      have hw3 : IntKind.i64.wrap (e4 + y4) = e4 + y4 := IntWalk.i64_in _ (by omega)
      clear hbe hoa hav hnp hlen t0 t1 t2 t3
      by_cases h1 : e1 = y1
      · subst h1
        have b1 : (e1 == e1) = true := by simp
        by_cases h2 : e2 + e3 = y2
        · have hm : meets ⟨e1, e2, e3, e4⟩ ⟨e1, y2, y3, y4⟩ = true := by unfold meets; simp [h2]
          have b2 : (e2 + e3 == y2) = true := by simp [h2]
          by_cases h4 : e4 < 0
          · have HE : Aside (joinTo (p ++ [⟨e1, e2, e3, e4⟩]) ⟨e1, y2, y3, y4⟩ = p ++ [⟨e1, e2, e3 + y3, -1⟩]) := by rw [joinTo_go hm]; unfold glue; simp [h4]; exact (trivial : True)
            have d1 : decide (0 ≤ e4) = false := decide_eq_false (by omega)
            clear hm
            go_wp2_with fail
            go_quiet (fail)
            go_wp2_with fail
            go_region
            go_wp2_with fail
            go_roundg (nl - (j + 1))
            case measure => have := J.out.1; omega
            case rel =>
             refine ⟨j + 1, p ++ [⟨e1, e2, e3 + y3, -1⟩], some ⟨g, 0, none⟩, c2, by go_num, ?_, by omega, ?_, ⟨rfl, ?_⟩, ?_, ?_⟩
             · rw [List.length_append, HP.out]; rfl
             · have := HJ.out.2.2.2; rw [HE.out] at this; exact this
             · rw [HT.out.1, HE.out]
             · have := HJ.out; rw [HE.out] at this; exact ⟨this.1, this.2.1, this.2.2.1⟩
             · rw [show ecs (p ++ [⟨e1, e2, e3 + y3, -1⟩]) = _ from (ecs_glue2 p (Ent.mk e1 e2 e3 e4) np HP.out (e3 + y3) (-1)).symm, HX.out, List.length_append, HP.out]
               show Sat (rw TEn 4 (.slice (some ⟨g, 0, none⟩) (np + 1) c2) ((xs.set (np * 4 + 3) (Value.int .i64 (-1))).set (np * 4 + 2) (Value.int .i64 (e3 + y3))) * (B * F)) _
               first | exact keep3 _ _ _ | exact Sat.drewN 1 (keep3 _ _ _)
          · have d1 : decide (0 ≤ e4) = true := decide_eq_true (by omega)
            by_cases h5 : y4 < 0
            · have HE : Aside (joinTo (p ++ [⟨e1, e2, e3, e4⟩]) ⟨e1, y2, y3, y4⟩ = p ++ [⟨e1, e2, e3 + y3, -1⟩]) := by rw [joinTo_go hm]; unfold glue; simp [h4, h5]; exact (trivial : True)
              have d2 : decide (0 ≤ y4) = false := decide_eq_false (by omega)
              clear hm
              go_wp2_with fail
              go_quiet (fail)
              go_wp2_with fail
              go_region
              go_wp2_with fail
              go_roundg (nl - (j + 1))
              case measure => have := J.out.1; omega
              case rel =>
               refine ⟨j + 1, p ++ [⟨e1, e2, e3 + y3, -1⟩], some ⟨g, 0, none⟩, c2, by go_num, ?_, by omega, ?_, ⟨rfl, ?_⟩, ?_, ?_⟩
               · rw [List.length_append, HP.out]; rfl
               · have := HJ.out.2.2.2; rw [HE.out] at this; exact this
               · rw [HT.out.1, HE.out]
               · have := HJ.out; rw [HE.out] at this; exact ⟨this.1, this.2.1, this.2.2.1⟩
               · rw [show ecs (p ++ [⟨e1, e2, e3 + y3, -1⟩]) = _ from (ecs_glue2 p (Ent.mk e1 e2 e3 e4) np HP.out (e3 + y3) (-1)).symm, HX.out, List.length_append, HP.out]
                 show Sat (rw TEn 4 (.slice (some ⟨g, 0, none⟩) (np + 1) c2) ((xs.set (np * 4 + 3) (Value.int .i64 (-1))).set (np * 4 + 2) (Value.int .i64 (e3 + y3))) * (B * F)) _
                 first | exact keep3 _ _ _ | exact Sat.drewN 1 (keep3 _ _ _)
            · have HE : Aside (joinTo (p ++ [⟨e1, e2, e3, e4⟩]) ⟨e1, y2, y3, y4⟩ = p ++ [⟨e1, e2, e3 + y3, e4 + y4⟩]) := by rw [joinTo_go hm]; unfold glue; simp [h4, h5]; exact (trivial : True)
              have d2 : decide (0 ≤ y4) = true := decide_eq_true (by omega)
              clear hm
              go_wp2_with fail
              go_quiet (fail)
              go_wp2_with fail
              go_region
              go_wp2_with fail
              go_region
              go_wp2_with fail
              go_roundg (nl - (j + 1))
              case measure => have := J.out.1; omega
              case rel =>
               refine ⟨j + 1, p ++ [⟨e1, e2, e3 + y3, e4 + y4⟩], some ⟨g, 0, none⟩, c2, by go_num, ?_, by omega, ?_, ⟨rfl, ?_⟩, ?_, ?_⟩
               · rw [List.length_append, HP.out]; rfl
               · have := HJ.out.2.2.2; rw [HE.out] at this; exact this
               · rw [HT.out.1, HE.out]
               · have := HJ.out; rw [HE.out] at this; exact ⟨this.1, this.2.1, this.2.2.1⟩
               · rw [show ecs (p ++ [⟨e1, e2, e3 + y3, e4 + y4⟩]) = _ from (ecs_glue2 p (Ent.mk e1 e2 e3 e4) np HP.out (e3 + y3) (e4 + y4)).symm, HX.out, List.length_append, HP.out]
                 show Sat (rw TEn 4 (.slice (some ⟨g, 0, none⟩) (np + 1) c2) ((xs.set (np * 4 + 3) (Value.int .i64 (e4 + y4))).set (np * 4 + 2) (Value.int .i64 (e3 + y3))) * (B * F)) _
                 first | exact keep3 _ _ _ | exact Sat.drewN 1 (keep3 _ _ _)
        · have HE : Aside (joinTo (p ++ [⟨e1, e2, e3, e4⟩]) ⟨e1, y2, y3, y4⟩ = (p ++ [⟨e1, e2, e3, e4⟩]) ++ [⟨e1, y2, y3, y4⟩]) := joinTo_stop (by unfold meets; simp [h2])
          have b2 : (e2 + e3 == y2) = false := by simp [h2]
          go_wp2_with fail
          go_quiet (fail)
          go_wp2_with (at_builtin; refine wpl_append_same E rfl (.tmp 93) (.tmp 95) rfl rfl rfl (takeI (rw TEn 4 (.slice (some ⟨g, 0, none⟩) (np + 1) c2) xs)) (Src.new (b := wr.heap.size + 1) (e := TEn) (s := 4) (vs := [.int .i64 e1, .int .i64 y2, .int .i64 y3, .int .i64 y4]) (takeI _) rfl (by intro u hu; simp at hu; rcases hu with rfl | rfl | rfl | rfl <;> rfl)) (by unfold maxLen; omega) (by omega) ?_; intro a9 c9 w9 q9 z9; clear z9; haveI := q9.i)
          go_roundg (nl - (j + 1))
          case measure => have := J.out.1; omega
          case rel =>
           refine ⟨j + 1, (p ++ [⟨e1, e2, e3, e4⟩]) ++ [⟨e1, y2, y3, y4⟩], a9, c9, by go_num, ?_, by omega, ?_, ⟨rfl, ?_⟩, ?_, ?_⟩
           · rw [List.length_append, List.length_append, HP.out]; rfl
           · have := HJ.out.2.2.2; rw [HE.out] at this; exact this
           · rw [HT.out.1, HE.out]
           · have := HJ.out; rw [HE.out] at this; exact ⟨this.1, this.2.1, this.2.2.1⟩
           · rw [ecs_last (p ++ [Ent.mk e1 e2 e3 e4]), HX.out, List.length_append, List.length_append, HP.out]
             show Sat (rw TEn 4 (.slice a9 (np + 1 + 1) c9) (xs ++ [.int .i64 e1, .int .i64 y2, .int .i64 y3, .int .i64 y4]) * (B * F)) _
             exact keep3 _ _ _
      · have HE : Aside (joinTo (p ++ [⟨e1, e2, e3, e4⟩]) ⟨y1, y2, y3, y4⟩ = (p ++ [⟨e1, e2, e3, e4⟩]) ++ [⟨y1, y2, y3, y4⟩]) := joinTo_stop (by unfold meets; simp [h1])
        have b1 : (e1 == y1) = false := by simp [h1]
        go_wp2_with fail
        go_quiet (fail)
        go_wp2_with (at_builtin; refine wpl_append_same E rfl (.tmp 93) (.tmp 95) rfl rfl rfl (takeI (rw TEn 4 (.slice (some ⟨g, 0, none⟩) (np + 1) c2) xs)) (Src.new (b := wr.heap.size + 1) (e := TEn) (s := 4) (vs := [.int .i64 y1, .int .i64 y2, .int .i64 y3, .int .i64 y4]) (takeI _) rfl (by intro u hu; simp at hu; rcases hu with rfl | rfl | rfl | rfl <;> rfl)) (by unfold maxLen; omega) (by omega) ?_; intro a9 c9 w9 q9 z9; clear z9; haveI := q9.i)
        go_roundg (nl - (j + 1))
        case measure => have := J.out.1; omega
        case rel =>
         refine ⟨j + 1, (p ++ [⟨e1, e2, e3, e4⟩]) ++ [⟨y1, y2, y3, y4⟩], a9, c9, by go_num, ?_, by omega, ?_, ⟨rfl, ?_⟩, ?_, ?_⟩
         · rw [List.length_append, List.length_append, HP.out]; rfl
         · have := HJ.out.2.2.2; rw [HE.out] at this; exact this
         · rw [HT.out.1, HE.out]
         · have := HJ.out; rw [HE.out] at this; exact ⟨this.1, this.2.1, this.2.2.1⟩
         · rw [ecs_last (p ++ [Ent.mk e1 e2 e3 e4]), HX.out, List.length_append, List.length_append, HP.out]
           show Sat (rw TEn 4 (.slice a9 (np + 1 + 1) c9) (xs ++ [.int .i64 y1, .int .i64 y2, .int .i64 y3, .int .i64 y4]) * (B * F)) _
           exact keep3 _ _ _
  · have hlj' : ¬ (j : Int) < nl := by omega
    have hJ := J.out.2
    rw [List.take_of_length_le (by rw [HNL.out]; omega)] at hJ
    have HF : Aside (o2 = R) := (by rw [hJ, ← HR.out]; rfl : _ = _)
    clear hJ
    go_wp2
    go_ret
    exact ⟨a2, c2, by rw [HF.out]; rfl, by rw [← HF.out]; exact keep3 _ _ _⟩
end Go.Proofs.YtfhbmblbidcmmaaGreat
namespace Go.Tr
theorem first_cons (x : Ent) (l : List Ent) (n : Int) : first (x :: l) n = if x.len ≤ n then (x :: (first l (n - x.len)).1, (first l (n - x.len)).2)
 else if n ≤ 0 then ((first l (n - x.len)).1, x :: (first l (n - x.len)).2)
 else (cutE x 0 n :: (first l (n - x.len)).1, cutE x n (x.len - n) :: (first l (n - x.len)).2) := by rw [first]
theorem first_snoc (y : Ent) : ∀ (l : List Ent) (n : Int), first (l ++ [y]) n = ((first l n).1 ++ (first [y] (n - eBytes l)).1, (first l n).2 ++ (first [y] (n - eBytes l)).2)
 | [], n => by simp [first, eBytes]
 | x :: l, n => by
   have h := first_snoc y l (n - x.len)
   have e : n - x.len - eBytes l = n - eBytes (x :: l) := by
    have : eBytes (x :: l) = x.len + eBytes l := by simp [eBytes]
    omega
   rw [e] at h
   rw [List.cons_append, first_cons x (l ++ [y]) n, h, first_cons x l n]
   generalize first [y] (n - eBytes (x :: l)) = f
   split
   · rfl
   · split <;> rfl
theorem first_one (x : Ent) (n : Int) : first [x] n = if x.len ≤ n then ([x], []) else if n ≤ 0 then ([], [x]) else ([cutE x 0 n], [cutE x n (x.len - n)]) := by
 rw [first]
 simp only [first]
theorem first_len (l : List Ent) (n : Int) : (first l n).1.length ≤ l.length ∧ (first l n).2.length ≤ l.length := by
 induction l generalizing n with
 | nil => simp [first]
 | cons x l ih =>
   have := ih (n - x.len)
   rw [first]
   split
   · simp; omega
   · split
     · simp; omega
     · simp; omega
end Go.Tr
namespace Go.Proofs.YtfhbmblbidcmmaaGreat
set_option linter.unusedSimpArgs false
set_option linter.unusedVariables false
open Go.RowKit Go.Sl Go.Dk Go.Tr
attribute [local go_sem ↓] Go.wp_at_zero Go.wp_at_succ
attribute [local go_sem] Go.Sl.cell_sat Go.Sl.frozen_sat
set_option maxRecDepth 100000 in
set_option maxHeartbeats 3200000 in
theorem rfirst_any (l : List Ent) (n0 : Int) (v : Value) (B F : Assn) (w : World) (hE : ReadsE B v l) (hs : Sat (B * F) w) (hl : l.length ≤ 65536) (hm : ∀ x ∈ l, mayEnt x = true) (h0 : -1099511627776 ≤ n0) (h1 : n0 ≤ 1099511627776) :
 Calls Tryz.prog 106 #[v, .int .i64 n0] w fun e w' => ∃ a c a' c', e = .returned (.tuple #[.slice a (first l n0).1.length c, .slice a' (first l n0).2.length c']) ∧
  Sat (rw TEn 4 (.slice a (first l n0).1.length c) (ecs (first l n0).1) * (rw TEn 4 (.slice a' (first l n0).2.length c') (ecs (first l n0).2) * (B * F))) w' := by
 obtain ⟨i0, E⟩ := elemEn
 obtain ⟨a0, c0, rfl, hE1, hE2⟩ := hE.v
 have HL : Aside (ReadsE B (.slice a0 l.length c0) l) := hE
 have HM : Aside (∀ x ∈ l, mayEnt x = true) := hm
 have HB : Aside (∀ i : Nat, 0 ≤ eBytes (l.take i) ∧ eBytes (l.take i) ≤ i * 1048576) := eBytes_take_bound fun x hx => by have := mayE_bounds (hm x hx); omega
 have HFL : Aside (∀ i, (first (l.take i) n0).1.length ≤ i ∧ (first (l.take i) n0).2.length ≤ i) := fun i => by
  have := first_len (l.take i) n0
  have h2 : (l.take i).length ≤ i := by rw [List.length_take]; omega
  omega
 obtain ⟨nl, hnl⟩ : ∃ nl, l.length = nl := ⟨_, rfl⟩
 have HNL : Aside (l.length = nl) := hnl
 have HR : Aside (first l n0 = first (l.take nl) n0) := (by rw [← hnl, List.take_length] : first l n0 = first (l.take nl) n0)
 rw [hnl] at hl hE1 ⊢
 obtain ⟨R, hR⟩ : ∃ R, first l n0 = R := ⟨_, rfl⟩
 rw [hR]
 have HRR : Aside (first l n0 = R) := hR
 have q0 := hs.rw_nil (e := TEn) (s := 4) |>.rw_nil (e := TEn) (s := 4)
 haveI := hs.i
 clear hE hm hnl hR
 go_enter Tryz.func106, Tryz.ntmps106
 go_wp2
 go_loopg [1, 6, 7, 8] nl (fun g t1 t6 t7 t8 wr => ∃ (j : Nat) (L R : List Ent) (a : Option Addr) (c : Nat) (a' : Option Addr) (c' : Nat), t8 = .int .i64 j ∧ t1 = .int .i64 (n0 - eBytes (l.take j)) ∧ t6 = .slice a L.length c ∧ t7 = .slice a' R.length c' ∧ j ≤ nl ∧ L.length ≤ 65536 ∧ R.length ≤ 65536 ∧ Aside (g = nl - j ∧ L = (first (l.take j) n0).1 ∧ R = (first (l.take j) n0).2) ∧
  Sat (rw TEn 4 (.slice a L.length c) (ecs L) * (rw TEn 4 (.slice a' R.length c') (ecs R) * (B * F))) wr)
 case atStart => exact ⟨0, [], [], none, 0, none, 0, rfl, by simp [eBytes], rfl, rfl, by omega, by simp, by simp, ⟨rfl, by simp [first], by simp [first]⟩, q0⟩
 case round =>
  obtain ⟨j, L, R', a, c, a', c', rfl, rfl, rfl, rfl, hj, hL, hR, J, hsr⟩ := hrel
  clear q0 hs this
  haveI := hsr.i
  by_cases hlj : j < nl
  · have hlj' : (j : Int) < nl := by omega
    obtain ⟨y, hy⟩ : ∃ y, l[j]? = some y := ⟨_, List.getElem?_eq_getElem (by have := HNL.out; omega)⟩
    obtain ⟨b, q, rfl, r1, r2, r3, r4⟩ := readsE_at HL.out hy
    have hsn := first_snoc y (l.take j) n0
    rw [← take_snoc' hy, ← J.out.2.1, ← J.out.2.2, first_one] at hsn
    have hbn := eBytes_snoc hy
    have hyb := mayE_iff.1 (HM.out y (List.mem_of_getElem? hy))
    have hbd := HB.out j
    have hfl := HFL.out (j + 1)
    obtain ⟨z, hz⟩ : ∃ z, n0 - eBytes (l.take j) = z := ⟨_, rfl⟩
    rw [hz] at hsn ⊢
    have hz2 : n0 - eBytes (l.take (j + 1)) = z - y.len := by rw [hbn]; omega
    have hzb : -1168231104512 ≤ z ∧ z ≤ 1168231104512 := by omega
    obtain ⟨k, hk⟩ : ∃ k, first (l.take (j + 1)) n0 = k := ⟨_, rfl⟩
    rw [hk] at hfl
    have HS : Aside (first (l.take (j + 1)) n0 = k ∧ k.1.length ≤ j + 1 ∧ k.2.length ≤ j + 1 ∧ n0 - eBytes (l.take (j + 1)) = z - y.len) := ⟨hk, hfl.1, hfl.2, hz2⟩
    rw [hk] at hsn
    obtain ⟨y1, y2, y3, y4⟩ := y
    simp only at r1 r2 r3 r4 hyb hsn HS
    have hw1 : IntKind.i64.wrap (z - y3) = z - y3 := IntWalk.i64_in _ (by omega)
    clear hy hbn hbd hfl hz hz2 hk
    by_cases c1 : y3 ≤ z
    · rw [if_pos c1] at hsn
      have HK : Aside (k = (L ++ [⟨y1, y2, y3, y4⟩], R' ++ [])) := hsn
      clear hsn
      go_wp2_with (at_builtin; refine wpl_append_same E rfl (.tmp 26) (.tmp 28) rfl rfl rfl (takeI (rw TEn 4 (.slice a L.length c) (ecs L))) (Src.new (b := wr.heap.size + 1) (e := TEn) (s := 4) (vs := [.int .i64 y1, .int .i64 y2, .int .i64 y3, .int .i64 y4]) (takeI _) rfl (by intro u hu; simp at hu; rcases hu with rfl | rfl | rfl | rfl <;> rfl)) (by unfold maxLen; omega) (by omega) ?_; intro a9 c9 w9 q9 z9; clear z9; haveI := q9.i)
      go_roundg (nl - (j + 1))
      case measure => have := J.out.1; omega
      case rel =>
       refine ⟨j + 1, L ++ [⟨y1, y2, y3, y4⟩], R', a9, c9, a', c', by go_num, by rw [HS.out.2.2.2], ?_, rfl, by omega, ?_, hR, ⟨rfl, ?_, ?_⟩, ?_⟩
       · rw [List.length_append]; rfl
       · have := HS.out.2.1; rw [HK.out] at this; simp only at this; omega
       · rw [HS.out.1, HK.out]
       · rw [HS.out.1, HK.out, List.append_nil]
       · rw [ecs_last, List.length_append]
         show Sat (rw TEn 4 (.slice a9 (L.length + 1) c9) (ecs L ++ [.int .i64 y1, .int .i64 y2, .int .i64 y3, .int .i64 y4]) * (rw TEn 4 (.slice a' R'.length c') (ecs R') * (B * F))) _
         exact keep4 _ _ _ _
    rw [if_neg c1] at hsn
    by_cases c2 : z ≤ 0
    · rw [if_pos c2] at hsn
      have HK : Aside (k = (L ++ [], R' ++ [⟨y1, y2, y3, y4⟩])) := hsn
      clear hsn
      go_wp2_with (at_builtin; refine wpl_append_same E rfl (.tmp 32) (.tmp 34) rfl rfl rfl (takeI (rw TEn 4 (.slice a' R'.length c') (ecs R'))) (Src.new (b := wr.heap.size + 1) (e := TEn) (s := 4) (vs := [.int .i64 y1, .int .i64 y2, .int .i64 y3, .int .i64 y4]) (takeI _) rfl (by intro u hu; simp at hu; rcases hu with rfl | rfl | rfl | rfl <;> rfl)) (by unfold maxLen; omega) (by omega) ?_; intro a9 c9 w9 q9 z9; clear z9; haveI := q9.i)
      go_roundg (nl - (j + 1))
      case measure => have := J.out.1; omega
      case rel =>
       refine ⟨j + 1, L, R' ++ [⟨y1, y2, y3, y4⟩], a, c, a9, c9, by go_num, by rw [HS.out.2.2.2], rfl, ?_, by omega, hL, ?_, ⟨rfl, ?_, ?_⟩, ?_⟩
       · rw [List.length_append]; rfl
       · have := HS.out.2.2.1; rw [HK.out] at this; simp only at this; omega
       · rw [HS.out.1, HK.out, List.append_nil]
       · rw [HS.out.1, HK.out]
       · rw [ecs_last, List.length_append]
         show Sat (rw TEn 4 (.slice a L.length c) (ecs L) * (rw TEn 4 (.slice a9 (R'.length + 1) c9) (ecs R' ++ [.int .i64 y1, .int .i64 y2, .int .i64 y3, .int .i64 y4]) * (B * F))) _
         exact keep4 _ _ _ _
    rw [if_neg c2] at hsn
    have hw2 : IntKind.i64.wrap (y2 + z) = y2 + z := IntWalk.i64_in _ (by omega)
    have hw3 : IntKind.i64.wrap (y3 - z) = y3 - z := IntWalk.i64_in _ (by omega)
    have HK : Aside (k = (L ++ [⟨y1, y2, z, if y4 = 0 then 0 else -1⟩], R' ++ [⟨y1, y2 + z, y3 - z, if y4 = 0 then 0 else -1⟩])) := by
     rw [hsn]
     unfold cutE
     simp only [Int.add_zero]
     exact (trivial : True)
    clear hsn
    by_cases c3 : y4 = 0
    · subst c3
      go_wp2_with (first | (at_builtin; refine wpl_append_same E rfl (.tmp 39) (.tmp 50) rfl rfl rfl (takeI (rw TEn 4 (.slice a L.length c) (ecs L))) (Src.new (b := wr.heap.size + 1) (e := TEn) (s := 4) (vs := [.int .i64 y1, .int .i64 y2, .int .i64 z, .int .i64 (0)]) (takeI _) rfl (by intro u hu; simp at hu; rcases hu with rfl | rfl | rfl | rfl <;> rfl)) (by unfold maxLen; omega) (by omega) ?_; intro a9 c9 w9 q9 z9; clear z9; haveI := q9.i) | (at_builtin; refine wpl_append_same E rfl (.tmp 52) (.tmp 69) rfl rfl rfl (takeI (rw TEn 4 (.slice a' R'.length c') (ecs R'))) (Src.new (b := w9.heap.size) (e := TEn) (s := 4) (vs := [.int .i64 y1, .int .i64 (y2 + z), .int .i64 (y3 - z), .int .i64 (0)]) (takeI _) rfl (by intro u hu; simp at hu; rcases hu with rfl | rfl | rfl | rfl <;> rfl)) (by unfold maxLen; omega) (by omega) ?_; intro a8 c8 w8 q8 z8; clear z8; haveI := q8.i))
      go_roundg (nl - (j + 1))
      case measure => have := J.out.1; omega
      case rel =>
       refine ⟨j + 1, L ++ [⟨y1, y2, z, 0⟩], R' ++ [⟨y1, y2 + z, y3 - z, 0⟩], a9, c9, a8, c8, by go_num, by rw [HS.out.2.2.2], ?_, ?_, by omega, ?_, ?_, ⟨rfl, ?_, ?_⟩, ?_⟩
       · rw [List.length_append]; rfl
       · rw [List.length_append]; rfl
       · have := HS.out.2.1; rw [HK.out] at this; simp only [List.length_append, List.length_singleton] at this ⊢; omega
       · have := HS.out.2.2.1; rw [HK.out] at this; simp only [List.length_append, List.length_singleton] at this ⊢; omega
       · rw [HS.out.1, HK.out]; simp
       · rw [HS.out.1, HK.out]; simp
       · rw [ecs_last, ecs_last, List.length_append, List.length_append]
         show Sat (rw TEn 4 (.slice a9 (L.length + 1) c9) (ecs L ++ [.int .i64 y1, .int .i64 y2, .int .i64 z, .int .i64 (0)]) * (rw TEn 4 (.slice a8 (R'.length + 1) c8) (ecs R' ++ [.int .i64 y1, .int .i64 (y2 + z), .int .i64 (y3 - z), .int .i64 (0)]) * (B * F))) _
         exact keep4 _ _ _ _
    · have c4 : (y4 == 0) = false := by simp [c3]
      have C3 : Aside (¬ y4 = 0) := c3
      go_wp2_with (first | (at_builtin; refine wpl_append_same E rfl (.tmp 39) (.tmp 50) rfl rfl rfl (takeI (rw TEn 4 (.slice a L.length c) (ecs L))) (Src.new (b := wr.heap.size + 1) (e := TEn) (s := 4) (vs := [.int .i64 y1, .int .i64 y2, .int .i64 z, .int .i64 (-1)]) (takeI _) rfl (by intro u hu; simp at hu; rcases hu with rfl | rfl | rfl | rfl <;> rfl)) (by unfold maxLen; omega) (by omega) ?_; intro a9 c9 w9 q9 z9; clear z9; haveI := q9.i) | (at_builtin; refine wpl_append_same E rfl (.tmp 52) (.tmp 69) rfl rfl rfl (takeI (rw TEn 4 (.slice a' R'.length c') (ecs R'))) (Src.new (b := w9.heap.size) (e := TEn) (s := 4) (vs := [.int .i64 y1, .int .i64 (y2 + z), .int .i64 (y3 - z), .int .i64 (-1)]) (takeI _) rfl (by intro u hu; simp at hu; rcases hu with rfl | rfl | rfl | rfl <;> rfl)) (by unfold maxLen; omega) (by omega) ?_; intro a8 c8 w8 q8 z8; clear z8; haveI := q8.i))
      go_roundg (nl - (j + 1))
      case measure => have := J.out.1; omega
      case rel =>
       refine ⟨j + 1, L ++ [⟨y1, y2, z, -1⟩], R' ++ [⟨y1, y2 + z, y3 - z, -1⟩], a9, c9, a8, c8, by go_num, by rw [HS.out.2.2.2], ?_, ?_, by omega, ?_, ?_, ⟨rfl, ?_, ?_⟩, ?_⟩
       · rw [List.length_append]; rfl
       · rw [List.length_append]; rfl
       · have := HS.out.2.1; rw [HK.out] at this; simp only [List.length_append, List.length_singleton] at this ⊢; omega
       · have := HS.out.2.2.1; rw [HK.out] at this; simp only [List.length_append, List.length_singleton] at this ⊢; omega
       · rw [HS.out.1, HK.out]; simp [C3.out]
       · rw [HS.out.1, HK.out]; simp [C3.out]
       · rw [ecs_last, ecs_last, List.length_append, List.length_append]
         show Sat (rw TEn 4 (.slice a9 (L.length + 1) c9) (ecs L ++ [.int .i64 y1, .int .i64 y2, .int .i64 z, .int .i64 (-1)]) * (rw TEn 4 (.slice a8 (R'.length + 1) c8) (ecs R' ++ [.int .i64 y1, .int .i64 (y2 + z), .int .i64 (y3 - z), .int .i64 (-1)]) * (B * F))) _
         exact keep4 _ _ _ _
  · have hlj' : ¬ (j : Int) < nl := by omega
    have hjn : j = nl := by omega
    have HF : Aside (L = R.1 ∧ R' = R.2) := (by rw [J.out.2.1, J.out.2.2, hjn, ← HR.out, HRR.out]; exact ⟨rfl, rfl⟩ : _ ∧ _)
    clear hjn
    go_wp2
    go_ret2
    rw [HF.out.1, HF.out.2] at hsr
    exact ⟨a, c, a', c', by rw [HF.out.1, HF.out.2]; rfl, hsr⟩
end Go.Proofs.YtfhbmblbidcmmaaGreat
