/-
  Walks and plain laws that the lines of texts lean on. No condition (part 47)
-/
import Derived.Test.YtfhbmblbidcmmaaGreatRl42
import Derived.Test.YtfhbmblbidcmmaaGreatRl2
import Derived.Test.YtfhbmblbidcmmaaGreatRl7
import Derived.Test.YtfhbmblbidcmmaaGreatRl14
import Derived.IntWalk
import Derived.BigQuiet
set_option linter.unusedSimpArgs false
set_option linter.unusedVariables false
namespace Go.Proofs.YtfhbmblbidcmmaaGreat
set_option linter.unusedSimpArgs false
set_option linter.unusedVariables false
open Go.RowKit Go.Sl Go.Dk Go.Tr
attribute [local go_sem ↓] Go.wp_at_zero Go.wp_at_succ
attribute [local go_sem] Go.Sl.cell_sat Go.Sl.frozen_sat
theorem byteI {B : Assn} {a : Option Addr} {n c q : Nat} {l : List UInt8} {x : UInt8} (hB : Reads B (.slice a n c) l) {A R : Assn} {w : World} [h : SatI A w] [t : Take A B R] (hq : l[q]? = some x) : ∃ b o, a = some ⟨b, o, none⟩ ∧ w.cell? ⟨b, o + q, none⟩ = some (.int .u8 x.toNat) :=
 (hB R w (h.take B)).at hq
theorem ends_snoc {l : List UInt8} {i : Nat} {x : UInt8} (h : l[i]? = some x) : endsC (l.take (i + 1)) = endsC (l.take i) + (if x = 10 then 1 else 0) := by
 rw [take_snoc' h, endsC_app, endsC_cons]
 rfl
theorem ten_iff {x : UInt8} (h : x = 10) : ((x.toNat : Int) == 10) = true := by subst h; rfl
theorem ten_not {x : UInt8} (h : ¬ x = 10) : ((x.toNat : Int) == 10) = false := by
 rw [Bool.eq_false_iff]
 intro e
 have e : (x.toNat : Int) = 10 := by simpa using e
 exact h (UInt8.toNat_inj.mp (by simpa using (by omega : x.toNat = 10)))
set_option maxRecDepth 100000 in
set_option maxHeartbeats 1600000 in
theorem ends_any (v : Value) (l : List UInt8) (B F : Assn) (w : World) (hB : Reads B v l) (hs : Sat (B * F) w) (hl : l.length ≤ 1048576) :
 Calls Tryz.prog 25 #[v] w fun e w' => ∃ a c, e = .returned (.slice a (endsC l) c) ∧ Sat (B * F) w' := by
 obtain ⟨i0, E⟩ := elemInt
 obtain ⟨va, vc, rfl, hc1, hc2⟩ := (hB F w hs).len
 have HB : Aside (Reads B (.slice va l.length vc) l) := hB
 obtain ⟨R, hR⟩ : ∃ R, endsC l = R := ⟨_, rfl⟩
 rw [hR]
 have HR : Aside (endsC l = R) := hR
 obtain ⟨nl, hnl⟩ : ∃ nl, l.length = nl := ⟨_, rfl⟩
 have HNL : Aside (l.length = nl) := hnl
 rw [hnl] at hl hc1 ⊢
 have q0 := hs.rw_nil (e := 3) (s := 1)
 clear hB hR hnl hs
 go_enter Tryz.func25, Tryz.ntmps25
 go_wp2
 go_loopg [3, 4] nl (fun g t3 t4 wr => ∃ (i k c' : Nat) (a' : Option Addr) (zs : List Value), t4 = .int .i64 i ∧ t3 = .slice a' k c' ∧ i ≤ nl ∧ k ≤ i ∧ Aside (g = nl - i ∧ k = endsC (l.take i)) ∧ Sat (rw 3 1 (.slice a' k c') zs * (B * F)) wr)
 case atStart => exact ⟨0, 0, 0, none, [], rfl, rfl, by omega, by omega, ⟨rfl, rfl⟩, q0⟩
 case round =>
  obtain ⟨i, k, c', a', zs, rfl, rfl, hi, hk, J, hsr⟩ := hrel
  clear q0
  haveI := hsr.i
  by_cases hlt : i < nl
  · have hlt' : (i : Int) < nl := by omega
    obtain ⟨x, hx⟩ : ∃ x, l[i]? = some x := ⟨_, List.getElem?_eq_getElem (by have := HNL.out; omega)⟩
    have hb0 := HB.out
    rw [HNL.out] at hb0
    obtain ⟨b, o, rfl, hcx⟩ := byteI (w := wr) hb0 hx
    have HS : Aside (endsC (l.take (i + 1)) = k + if x = 10 then 1 else 0) := (by rw [ends_snoc hx, J.out.2] : _ = _)
    clear hx hb0
    by_cases h10 : x = 10
    · rw [if_pos h10] at HS
      have hd := ten_iff h10
      go_wp2_with (at_builtin; refine wpl_append_same E rfl (.tmp 16) (.tmp 18) rfl rfl rfl (takeI (rw 3 1 (.slice a' k c') zs)) (Src.new (b := wr.heap.size) (e := 3) (s := 1) (vs := [.int .i64 i]) (takeI _) rfl (by intro u hu; simp at hu; subst hu; rfl)) (by unfold maxLen; omega) (by omega) ?_; intro a9 c9 w9 q9 z9; clear z9; haveI := q9.i)
      go_roundg (nl - (i + 1))
      case measure => have := J.out.1; omega
      case rel => exact ⟨i + 1, k + 1, c9, a9, zs ++ [.int .i64 i], by go_num, rfl, by omega, by omega, ⟨rfl, HS.out.symm⟩, keep3 _ _ _⟩
    · rw [if_neg h10] at HS
      have hd := ten_not h10
      go_wp2
      go_roundg (nl - (i + 1))
      case measure => have := J.out.1; omega
      case rel => exact ⟨i + 1, k, c', a', zs, by go_num, rfl, by omega, by omega, ⟨rfl, HS.out.symm⟩, keep3 _ _ _⟩
  · have hlt' : ¬ (i : Int) < nl := by omega
    have HF : Aside (k = R) := (by
     have := J.out.2
     rw [List.take_of_length_le (by rw [HNL.out]; omega), HR.out] at this
     exact this : _ = _)
    clear J
    go_wp2
    go_ret
    exact ⟨⟨_, _, by rw [← HF.out]; rfl⟩, keep2 _ _⟩
set_option maxRecDepth 100000 in
set_option maxHeartbeats 1600000 in
theorem rline_any (v : Value) (l : List UInt8) (p : Nat) (B F : Assn) (w : World) (hB : Reads B v l) (hs : Sat (B * F) w) (hl : l.length ≤ 1048576) (hp : p ≤ l.length) :
 Calls Tryz.prog 27 #[v, .int .i64 (p : Int)] w fun e w' => e = .returned (.int .i64 (endsC (l.take p) : Nat)) ∧ Sat (B * F) w' := by
 obtain ⟨va, vc, rfl, hc1, hc2⟩ := (hB F w hs).len
 have HB : Aside (Reads B (.slice va l.length vc) l) := hB
 obtain ⟨R, hR⟩ : ∃ R, endsC (l.take p) = R := ⟨_, rfl⟩
 rw [hR]
 have HR : Aside (endsC (l.take p) = R) := hR
 obtain ⟨nl, hnl⟩ : ∃ nl, l.length = nl := ⟨_, rfl⟩
 have HNL : Aside (l.length = nl) := hnl
 rw [hnl] at hl hc1 hp ⊢
 have q0 := hs
 clear hB hR hnl hs
 go_enter Tryz.func27, Tryz.ntmps27
 go_wp2
 go_loopg [5, 6] p (fun g t5 t6 wr => ∃ (i k : Nat), t6 = .int .i64 i ∧ t5 = .int .i64 k ∧ i ≤ p ∧ k ≤ i ∧ Aside (g = p - i ∧ k = endsC (l.take i)) ∧ Sat (B * F) wr)
 case atStart => exact ⟨0, 0, rfl, rfl, by omega, by omega, ⟨rfl, rfl⟩, q0⟩
 case round =>
  obtain ⟨i, k, rfl, rfl, hi, hk, J, hsr⟩ := hrel
  clear q0
  haveI := hsr.i
  by_cases hlt : i < p
  · have hlt' : (i : Int) < p := by omega
    obtain ⟨x, hx⟩ : ∃ x, l[i]? = some x := ⟨_, List.getElem?_eq_getElem (by have := HNL.out; omega)⟩
    have hb0 := HB.out
    rw [HNL.out] at hb0
    obtain ⟨b, o, rfl, hcx⟩ := byteI (w := wr) hb0 hx
    have HS : Aside (endsC (l.take (i + 1)) = k + if x = 10 then 1 else 0) := (by rw [ends_snoc hx, J.out.2] : _ = _)
    have hil : (i : Int) < nl := by omega
    clear hx hb0
    by_cases h10 : x = 10
    · rw [if_pos h10] at HS
      have hd := ten_iff h10
      go_wp2
      go_roundg (p - (i + 1))
      case measure => have := J.out.1; omega
      case rel => exact ⟨i + 1, k + 1, by go_num, by go_num, by omega, by omega, ⟨rfl, HS.out.symm⟩, keep2 _ _⟩
    · rw [if_neg h10] at HS
      have hd := ten_not h10
      go_wp2
      go_roundg (p - (i + 1))
      case measure => have := J.out.1; omega
      case rel => exact ⟨i + 1, k, by go_num, rfl, by omega, by omega, ⟨rfl, HS.out.symm⟩, keep2 _ _⟩
  · have hlt' : ¬ (i : Int) < p := by omega
    obtain rfl : i = p := by omega
    have HF : Aside (k = R) := (by rw [← HR.out]; exact J.out.2 : _ = _)
    clear J
    go_wp2
    go_ret
    exact ⟨by rw [← HF.out]; rfl, hsr⟩
def startI (l : List UInt8) (k : Int) : Int := if k < 0 then -1 else match startOf l k.toNat with
 | some p => (p : Int)
 | none => -1
theorem startOf_snoc {l : List UInt8} {i k : Nat} (h : endsC (l.take i) + 1 = k) (hx : l[i]? = some 10) : startOf l k = some (i + 1) := by
 subst h
 refine startOf_end l _ i (Nat.le_refl _) ?_
 rw [ends_snoc hx, if_pos rfl]
 omega
set_option maxRecDepth 100000 in
set_option maxHeartbeats 1600000 in
theorem rstart_any (v : Value) (l : List UInt8) (p : Int) (B F : Assn) (w : World) (hB : Reads B v l) (hs : Sat (B * F) w) (hl : l.length ≤ 1048576) :
 Calls Tryz.prog 29 #[v, .int .i64 p] w fun e w' => e = .returned (.int .i64 (startI l p)) ∧ Sat (B * F) w' := by
 obtain ⟨va, vc, rfl, hc1, hc2⟩ := (hB F w hs).len
 have HB : Aside (Reads B (.slice va l.length vc) l) := hB
 obtain ⟨R, hR⟩ : ∃ R, startI l p = R := ⟨_, rfl⟩
 rw [hR]
 have HR : Aside (startI l p = R) := hR
 obtain ⟨nl, hnl⟩ : ∃ nl, l.length = nl := ⟨_, rfl⟩
 have HNL : Aside (l.length = nl) := hnl
 rw [hnl] at hl hc1 ⊢
 by_cases h0 : p = 0
 · have HF : Aside (R = 0) := (by rw [← HR.out, h0]; unfold startI; rw [if_neg (by omega)]; simp [startOf_zero] : _ = _)
   subst h0
   clear hB hR hnl
   go_enter Tryz.func29, Tryz.ntmps29
   go_wp2
   go_ret
   exact ⟨by rw [HF.out]; rfl, hs⟩
 · have h0' : (p == 0) = false := by simpa using h0
   have q0 := hs
   clear hB hR hnl hs
   go_enter Tryz.func29, Tryz.ntmps29
   go_wp2
   go_loopg [5, 6] nl (fun g t5 t6 wr => ∃ (i k : Nat), t6 = .int .i64 i ∧ t5 = .int .i64 k ∧ i ≤ nl ∧ k ≤ i ∧ Aside (g = nl - i ∧ k = endsC (l.take i) ∧ ¬ ((1 : Int) ≤ p ∧ p ≤ k)) ∧ Sat (B * F) wr)
   case atStart => exact ⟨0, 0, rfl, rfl, by omega, by omega, ⟨rfl, rfl, by omega⟩, q0⟩
   case round =>
    obtain ⟨i, k, rfl, rfl, hi, hk, J, hsr⟩ := hrel
    clear q0
    haveI := hsr.i
    by_cases hlt : i < nl
    · have hlt' : (i : Int) < nl := by omega
      obtain ⟨x, hx⟩ : ∃ x, l[i]? = some x := ⟨_, List.getElem?_eq_getElem (by have := HNL.out; omega)⟩
      have hb0 := HB.out
      rw [HNL.out] at hb0
      obtain ⟨b, o, rfl, hcx⟩ := byteI (w := wr) hb0 hx
      have HS : Aside (endsC (l.take (i + 1)) = k + if x = 10 then 1 else 0) := (by rw [ends_snoc hx, J.out.2.1] : _ = _)
      have HX : Aside (l[i]? = some x) := hx
      clear hx hb0
      by_cases h10 : x = 10
      · rw [if_pos h10] at HS
        have hd := ten_iff h10
        by_cases hp : (k : Int) + 1 = p
        · have hpe : ((k : Int) + 1 == p) = true := by simpa using hp
          have HF : Aside (R = (i + 1 : Nat)) := (by
           rw [← HR.out]
           unfold startI
           rw [if_neg (by omega), startOf_snoc (i := i) (by have := J.out.2.1; omega) (by rw [HX.out, h10])] : _ = _)
          clear J HS HX
          go_wp2
          go_ret
          exact ⟨by rw [HF.out]; go_num, hsr⟩
        · have hpe : ((k : Int) + 1 == p) = false := by simpa using hp
          go_wp2
          go_roundg (nl - (i + 1))
          case measure => have := J.out.1; omega
          case rel => exact ⟨i + 1, k + 1, by go_num, by go_num, by omega, by omega, ⟨rfl, HS.out.symm, by have := J.out.2.2; omega⟩, hsr⟩
      · rw [if_neg h10] at HS
        have hd := ten_not h10
        go_wp2
        go_roundg (nl - (i + 1))
        case measure => have := J.out.1; omega
        case rel => exact ⟨i + 1, k, by go_num, rfl, by omega, by omega, ⟨rfl, HS.out.symm, J.out.2.2⟩, hsr⟩
    · have hlt' : ¬ (i : Int) < nl := by omega
      have HF : Aside (R = -1) := (by
       have h1 := J.out.2.1
       have h2 := J.out.2.2
       rw [List.take_of_length_le (by rw [HNL.out]; omega)] at h1
       rw [← HR.out]
       unfold startI
       by_cases hn : p < 0
       · rw [if_pos hn]
       · rw [if_neg hn, (startOf_none l p.toNat).2 (by omega)] : _ = _)
      clear J
      go_wp2
      go_ret
      exact ⟨by rw [HF.out]; rfl, hsr⟩
end Go.Proofs.YtfhbmblbidcmmaaGreat
