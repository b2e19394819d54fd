/-
  Of all versions the pages that are told are just those of their trees in the file in the form of the document, and a root that is none is refused. No condition. (part 44)
-/
import Derived.Test.YtfhbmblbidcmmaaGreatVa30
import Derived.Test.YtfhbmblbidcmmaaGreatVa3
import Derived.Lib.Bytealg
import Derived.Lib.Bytes
import Derived.Deep.DrawnRows
import Derived.Deep.RegionHeld3
import Derived.IntWalk
import Derived.BigQuiet
import Derived.Test.YtfhbmblbidcmmaaGreatVa28
import Derived.Test.YtfhbmblbidcmmaaGreatVa27
import Derived.Test.YtfhbmblbidcmmaaGreatVa2
import Derived.Test.YtfhbmblbidcmmaaGreatVa7
import Derived.Test.YtfhbmblbidcmmaaGreatVa14
import Derived.Test.YtfhbmblbidcmmaaGreatVa8
import Derived.Test.YtfhbmblbidcmmaaGreatVa19
import Derived.OrdersHeld
import Derived.Deep.RegionHeld
import Derived.Tactics
set_option linter.unusedSimpArgs false
set_option linter.unusedVariables false
namespace Go.Proofs.YtfhbmblbidcmmaaGreat
set_option linter.unusedSimpArgs false
set_option linter.unusedVariables false
set_option linter.unusedSectionVars false
open Go.RowKit Go.Sl Go.Dk Go.Tr
open Go.Lru (ikey)
variable [TopN]
attribute [local go_sem ↓] Go.wp_at_zero Go.wp_at_succ
attribute [local go_sem] Go.Sl.cell_sat Go.Sl.frozen_sat
theorem count_ends (l : List UInt8) : Go.Lib.countByte (Go.Lib.bytesOf (l.map fun x => (x.toNat : Int))) (10 : Int).toNat.toUInt8 = endsC l := by
 have e : Go.Lib.bytesOf (l.map fun x => (x.toNat : Int)) = l := by
  unfold Go.Lib.bytesOf
  rw [List.map_map]
  exact List.map_id'' (fun x => by simp) l
 rw [e]
 rfl
set_option maxRecDepth 100000 in
set_option maxHeartbeats 1600000 in
theorem eolCount_any (v : Value) (l : List UInt8) (F : Assn) (w : World) (hs : Sat (rw TB 1 v (bys l) * F) w) :
 Calls Tryz.prog 142 #[v] w fun e w' => e = .returned (.int .i64 (endsC l : Nat)) ∧ Sat (rw TB 1 v (bys l) * F) w' := by
 have hq := hs
 rcases hs.rw_open with ⟨h1, h2, h3⟩ | ⟨g, n, cap, sp, h1, h2, h3, h4, h5, h6⟩
 · have hl : l = [] := by simpa [bys] using h2
   subst hl h1
   haveI := hq.i
   clear hs hq h2 h3
   go_enter Tryz.func142, Tryz.ntmps142
   go_wp2_with fail
   refine Calls.mono (Any.bytes_Count_one_nil Tryz.laysSlB13 w.heap.size 0 1 10 _ (cell_sat _ _ _)) ?_
   rintro e w' ⟨rfl, rfl⟩
   go_wp2
   go_ret
   exact ⟨rfl, keep2 _ _⟩
 · rw [bys_len, Nat.mul_one] at h2
   subst h2 h1
   have hat : ∀ i, i < l.length → ∀ w1 : World, Sat (rw TB 1 (.slice (some ⟨g, 0, none⟩) l.length cap) (bys l) * (Sl.block w.heap.size TB [.int .u8 10] * F)) w1 → w1.cell? ((⟨g, 0, none⟩ : Addr).add i) = some (.int .u8 ((l.map fun x => (x.toNat : Int)).getD i 0)) := by
    intro i hi w1 q1
    obtain ⟨b, o, e1, e2⟩ := (Reads.rw _ _ q1).at (q := i) (x := l[i]) (List.getElem?_eq_getElem hi)
    cases e1
    rw [List.getD_eq_getElem?_getD, List.getElem?_map, List.getElem?_eq_getElem hi, show ((⟨g, 0, none⟩ : Addr).add i) = ⟨g, 0 + i, none⟩ by (unfold Addr.add; split <;> simp_all)]
    exact e2
   haveI := hq.i
   clear hs hq h3 h4 h5 h6
   go_enter Tryz.func142, Tryz.ntmps142
   go_wp2_with fail
   have q1 : Sat (rw TB 1 (.slice (some ⟨g, 0, none⟩) l.length cap) (bys l) * (Sl.block w.heap.size TB [.int .u8 10] * F)) (w.alloc (.cells #[.int .u8 10] TB)) := satI_eq (by ac_rfl)
   refine Calls.mono (Any.bytes_Count_one_at Tryz.laysSlB13 ⟨g, 0, none⟩ l.length cap w.heap.size 0 1 (l.map fun x => (x.toNat : Int)) 10 _ (by simp) (fun i hi => hat i hi _ q1) (cell_sat _ _ _)) ?_
   rintro e w' ⟨rfl, rfl⟩
   rw [count_ends]
   clear hat
   go_wp2
   go_ret
   exact ⟨rfl, keep2 _ _⟩
instance indexC0 (X M D : Nat) (n : Int) (x : Ix) : HasC (indexA X M D n x) X 0 (.pointer (some ⟨D, 0, none⟩)) := by unfold indexA; infer_instance
instance indexC1 (X M D : Nat) (n : Int) (x : Ix) : HasC (indexA X M D n x) X 1 (.string nmO) := by unfold indexA; infer_instance
instance indexC2 (X M D : Nat) (n : Int) (x : Ix) : HasC (indexA X M D n x) X 2 (.int .i64 n) := by unfold indexA; infer_instance
instance indexC3 (X M D : Nat) (n : Int) (x : Ix) : HasC (indexA X M D n x) X 3 (.int .i64 x.rd) := by unfold indexA; infer_instance
instance indexC4 (X M D : Nat) (n : Int) (x : Ix) : HasC (indexA X M D n x) X 4 (.map (some M)) := by unfold indexA; infer_instance
instance indexU3 (X M D : Nat) (n : Int) (x : Ix) (r : Int) : Upd (indexA X M D n x) X 3 (.int .i64 r) (indexA X M D n ⟨r, x.cs⟩) := by
 show Upd (_ * _) _ _ _ (Sl.block X TIx ([.pointer (some ⟨D, 0, none⟩), .string nmO, .int .i64 n, .int .i64 x.rd, .map (some M)].set 3 (.int .i64 r)) * mp ikey M (kvI x.cs))
 infer_instance
instance indexM (X M D : Nat) (n : Int) (x : Ix) : HasM (indexA X M D n x) M ikey (kvI x.cs) := by unfold indexA; infer_instance
instance indexUM (X M D : Nat) (n : Int) (x : Ix) (k v : Int) : UpdM (indexA X M D n x) M ikey (mput k (.int .i64 v) (kvI x.cs)) (indexA X M D n ⟨x.rd, iput k v x.cs⟩) := by
 rw [mput_kvI]
 unfold indexA
 infer_instance
end Go.Proofs.YtfhbmblbidcmmaaGreat

namespace Go.Proofs.YtfhbmblbidcmmaaGreat
set_option linter.unusedSimpArgs false
set_option linter.unusedVariables false
open Go.RowKit Go.Sl Go.Dk Go.Tr
attribute [local go_sem ↓] Go.wp_at_zero Go.wp_at_succ
attribute [local go_sem] Go.Sl.cell_sat Go.Sl.frozen_sat
theorem byteI {B : Assn} {a : Option Addr} {n c q : Nat} {l : List UInt8} {x : UInt8} (hB : Reads B (.slice a n c) l) {A R : Assn} {w : World} [h : SatI A w] [t : Take A B R] (hq : l[q]? = some x) : ∃ b o, a = some ⟨b, o, none⟩ ∧ w.cell? ⟨b, o + q, none⟩ = some (.int .u8 x.toNat) :=
 (hB R w (h.take B)).at hq
theorem ends_snoc {l : List UInt8} {i : Nat} {x : UInt8} (h : l[i]? = some x) : endsC (l.take (i + 1)) = endsC (l.take i) + (if x = 10 then 1 else 0) := by
 rw [take_snoc' h, endsC_app, endsC_cons]
 rfl
theorem ten_iff {x : UInt8} (h : x = 10) : ((x.toNat : Int) == 10) = true := by subst h; rfl
theorem ten_not {x : UInt8} (h : ¬ x = 10) : ((x.toNat : Int) == 10) = false := by
 rw [Bool.eq_false_iff]
 intro e
 have e : (x.toNat : Int) = 10 := by simpa using e
 exact h (UInt8.toNat_inj.mp (by simpa using (by omega : x.toNat = 10)))
set_option maxRecDepth 100000 in
set_option maxHeartbeats 1600000 in
theorem ends_any (v : Value) (l : List UInt8) (B F : Assn) (w : World) (hB : Reads B v l) (hs : Sat (B * F) w) (hl : l.length ≤ 1048576) :
 Calls Tryz.prog 25 #[v] w fun e w' => ∃ a c, e = .returned (.slice a (endsC l) c) ∧ Sat (B * F) w' := by
 obtain ⟨i0, E⟩ := elemInt
 obtain ⟨va, vc, rfl, hc1, hc2⟩ := (hB F w hs).len
 have HB : Aside (Reads B (.slice va l.length vc) l) := hB
 obtain ⟨R, hR⟩ : ∃ R, endsC l = R := ⟨_, rfl⟩
 rw [hR]
 have HR : Aside (endsC l = R) := hR
 obtain ⟨nl, hnl⟩ : ∃ nl, l.length = nl := ⟨_, rfl⟩
 have HNL : Aside (l.length = nl) := hnl
 rw [hnl] at hl hc1 ⊢
 have q0 := hs.rw_nil (e := 3) (s := 1)
 clear hB hR hnl hs
 go_enter Tryz.func25, Tryz.ntmps25
 go_wp2
 go_loopg [3, 4] nl (fun g t3 t4 wr => ∃ (i k c' : Nat) (a' : Option Addr) (zs : List Value), t4 = .int .i64 i ∧ t3 = .slice a' k c' ∧ i ≤ nl ∧ k ≤ i ∧ Aside (g = nl - i ∧ k = endsC (l.take i)) ∧ Sat (rw 3 1 (.slice a' k c') zs * (B * F)) wr)
 case atStart => exact ⟨0, 0, 0, none, [], rfl, rfl, by omega, by omega, ⟨rfl, rfl⟩, q0⟩
 case round =>
  obtain ⟨i, k, c', a', zs, rfl, rfl, hi, hk, J, hsr⟩ := hrel
  clear q0
  haveI := hsr.i
  by_cases hlt : i < nl
  · have hlt' : (i : Int) < nl := by omega
    obtain ⟨x, hx⟩ : ∃ x, l[i]? = some x := ⟨_, List.getElem?_eq_getElem (by have := HNL.out; omega)⟩
    have hb0 := HB.out
    rw [HNL.out] at hb0
    obtain ⟨b, o, rfl, hcx⟩ := byteI (w := wr) hb0 hx
    have HS : Aside (endsC (l.take (i + 1)) = k + if x = 10 then 1 else 0) := (by rw [ends_snoc hx, J.out.2] : _ = _)
    clear hx hb0
    by_cases h10 : x = 10
    · rw [if_pos h10] at HS
      have hd := ten_iff h10
      go_wp2_with (at_builtin; refine wpl_append_same E rfl (.tmp 16) (.tmp 18) rfl rfl rfl (takeI (rw 3 1 (.slice a' k c') zs)) (Src.new (b := wr.heap.size) (e := 3) (s := 1) (vs := [.int .i64 i]) (takeI _) rfl (by intro u hu; simp at hu; subst hu; rfl)) (by unfold maxLen; omega) (by omega) ?_; intro a9 c9 w9 q9 z9; clear z9; haveI := q9.i)
      go_roundg (nl - (i + 1))
      case measure => have := J.out.1; omega
      case rel => exact ⟨i + 1, k + 1, c9, a9, zs ++ [.int .i64 i], by go_num, rfl, by omega, by omega, ⟨rfl, HS.out.symm⟩, keep3 _ _ _⟩
    · rw [if_neg h10] at HS
      have hd := ten_not h10
      go_wp2
      go_roundg (nl - (i + 1))
      case measure => have := J.out.1; omega
      case rel => exact ⟨i + 1, k, c', a', zs, by go_num, rfl, by omega, by omega, ⟨rfl, HS.out.symm⟩, keep3 _ _ _⟩
  · have hlt' : ¬ (i : Int) < nl := by omega
    have HF : Aside (k = R) := (by
     have := J.out.2
     rw [List.take_of_length_le (by rw [HNL.out]; omega), HR.out] at this
     exact this : _ = _)
    clear J
    go_wp2
    go_ret
    exact ⟨⟨_, _, by rw [← HF.out]; rfl⟩, keep2 _ _⟩
end Go.Proofs.YtfhbmblbidcmmaaGreat
namespace Go.Proofs.YtfhbmblbidcmmaaGreat
set_option linter.unusedSimpArgs false
set_option linter.unusedVariables false
open Go.RowKit Go.Sl Go.Dk Go.Tr
attribute [local go_sem ↓] Go.wp_at_zero Go.wp_at_succ
attribute [local go_sem] Go.Sl.cell_sat Go.Sl.frozen_sat
theorem Reads.cut {B : Assn} {a : Option Addr} {n c : Nat} {l : List UInt8} (h : Reads B (.slice a n c) l) (lo hi : Nat) (h1 : lo ≤ hi) (h2 : hi ≤ n) : Reads B (.slice (cutA a c lo 1) (hi - lo) (c - lo)) ((l.drop lo).take (hi - lo)) :=
 fun F w hs => (h F w hs).cut lo hi h1 h2
theorem readsB {B : Assn} {v : Value} {l : List UInt8} (hB : Reads B v l) {F : Assn} {w : World} (hs : Sat (B * F) w) : ∃ a c, v = .slice a l.length c ∧ l.length ≤ c ∧ c ≤ 9223372036854775807 := by
 obtain ⟨a, c, h1, h2, h3⟩ := (hB F w hs).len
 exact ⟨a, c, h1, h2, by simpa [maxLen] using h3⟩
end Go.Proofs.YtfhbmblbidcmmaaGreat
namespace Go.Dr
open Go
section
variable {P : Program} {ops : Array Oper} {Q : Exit → Act → World → Prop} {md : Region.Mode} {S : World → Prop} {bar : List Nat}
def wpAnyB (P : Program) (md : Region.Mode) (ops : Array Oper) (Q : Exit → Act → World → Prop) (S : World → Prop) (bar : List Nat) : Nat → Array Bool → Act → World → Prop
 | 0, listed, a, w => Region.ready md ops listed = [] ∧ Q .normal a w
 | fuel + 1, listed, a, w =>
   (Region.ready md ops listed = [] → Q .normal a w) ∧
   ∀ i ∈ Region.ready md ops listed, wpOp P ops Q i (fun a' w' => (bar.contains i = false → S w → S w') ∧ wpAnyB P md ops Q S bar fuel (listed.setIfInBounds i true) a' w') a w
theorem wpAny_of_B : ∀ (fuel : Nat) (listed : Array Bool) (a : Act) (w : World), wpAnyB P md ops Q S bar fuel listed a w → wpAny P md ops Q fuel listed a w
 | 0, _, _, _, h => h
 | fuel + 1, _, _, _, h => ⟨h.1, fun i hi => wpOp_mono (fun a' w' h' => wpAny_of_B fuel _ a' w' h'.2) (h.2 i hi)⟩
def waits (md : Region.Mode) (ops : Array Oper) (j i : Nat) : Bool := (ops[j]?).any fun o => o.after.any fun e => Region.binds md e && e.on == i
theorem wpAnyB_first {i : Nat} {oi : Oper} {v : Value} (hi : ops[i]? = some oi) (hsel : ∀ (j : Nat) (o : Oper) cs b, ops[j]? = some o → o.op ≠ .select cs b)
 (hbar : ∀ j ∈ bar, waits md ops j i = true)
 (hQ : ∀ c a w, Q (.panic c) (a.put oi.dst v) w → Q (.panic c) a w) :
 ∀ (fuel : Nat) (listed : Array Bool) (a : Act) (w : World),
  (∀ j oj, ops[j]? = some oj → j ≠ i → listed.getD j true = false → (∀ e ∈ oj.after, Region.binds md e = true → e.on ≠ i) → oi.apart ops oj = true) →
  i ∈ Region.ready md ops listed → YieldsIf P ops S oi v a → S w →
  wpAnyB P md ops Q S bar fuel (listed.setIfInBounds i true) (a.put oi.dst v) w → wpAnyB P md ops Q S bar (fuel + 1) listed a w := by
 intro fuel
 induction fuel with
 | zero =>
   intro listed a w _ hr hy hS H
   refine ⟨fun h => (by rw [h] at hr; cases hr), fun j hj => ?_⟩
   by_cases hji : j = i
   · subst hji; exact hy.wpOp hi hS ⟨fun _ h => h, H⟩
   · have := ready_mono hj hji
     rw [H.1] at this
     cases this
 | succ fuel ih =>
   intro listed a w hfree hr hy hS H
   refine ⟨fun h => (by rw [h] at hr; cases hr), fun j hj => ?_⟩
   by_cases hji : j = i
   · subst hji; exact hy.wpOp hi hS ⟨fun _ h => h, H⟩
   · have h1 := H.2 j (ready_mono hj hji)
     obtain ⟨hjun, oj, hoj, hall⟩ := mem_ready.1 hj
     have hnot : ∀ e ∈ oj.after, Region.binds md e = true → e.on ≠ i := fun e he hb heq => by
      have h1 := hall e he hb
      have h0 := (mem_ready.1 hr).1
      rw [heq] at h1
      rcases Nat.lt_or_ge i listed.size with h' | h'
      · simp [h'] at h0 h1; rw [h0] at h1; cases h1
      · simp [Array.getElem?_eq_none h'] at h1
     have hjb : bar.contains j = false := by
      cases hc : bar.contains j with
      | false => rfl
      | true =>
        have hw := hbar j (by simpa using hc)
        unfold waits at hw
        rw [hoj] at hw
        simp only [Option.any_some, Array.any_eq_true'] at hw
        obtain ⟨e, he, h2⟩ := hw
        rw [Bool.and_eq_true] at h2
        exact absurd (by simpa using h2.2) (hnot e he h2.1)
     have h2 := wpOp_putIf hoj (hfree j oj hoj hji hjun hnot) (fun cs b => hsel i oi cs b hi) (fun cs b => hsel j oj cs b hoj) hQ hy h1
     have hfree' : ∀ k ok, ops[k]? = some ok → k ≠ i → (listed.setIfInBounds j true).getD k true = false →
      (∀ e ∈ ok.after, Region.binds md e = true → e.on ≠ i) → oi.apart ops ok = true := fun k ok hk hki hun hno => by
      refine hfree k ok hk hki ?_ hno
      by_cases hjk : j = k
      · subst hjk; exact hjun
      · rw [getD_set_ne true hjk] at hun; exact hun
     refine wpOp_mono (fun a' w' h3 => ⟨h3.2.1, ih (listed.setIfInBounds j true) a' w' hfree' (ready_mono hr (Ne.symm hji)) h3.1 (h3.2.1 hjb hS) ?_⟩) h2
     rw [Array.setIfInBounds_comm _ _ hji]
     exact h3.2.2
theorem wpAnyB_pure {i : Nat} {oi : Oper} {v : Value} (hi : ops[i]? = some oi) (hsel : ∀ (j : Nat) (o : Oper) cs b, ops[j]? = some o → o.op ≠ .select cs b)
 (hQ : ∀ c a w, Q (.panic c) (a.put oi.dst v) w → Q (.panic c) a w) :
 ∀ (fuel : Nat) (listed : Array Bool) (a : Act) (w : World),
  (∀ j oj, ops[j]? = some oj → j ≠ i → listed.getD j true = false → (∀ e ∈ oj.after, Region.binds md e = true → e.on ≠ i) → oi.apart ops oj = true) →
  i ∈ Region.ready md ops listed → Yields P ops oi v a →
  wpAnyB P md ops Q S bar fuel (listed.setIfInBounds i true) (a.put oi.dst v) w → wpAnyB P md ops Q S bar (fuel + 1) listed a w := by
 intro fuel
 induction fuel with
 | zero =>
   intro listed a w _ hr hy H
   refine ⟨fun h => (by rw [h] at hr; cases hr), fun j hj => ?_⟩
   by_cases hji : j = i
   · subst hji; exact hy.wpOp hi ⟨fun _ h => h, H⟩
   · have := ready_mono hj hji
     rw [H.1] at this
     cases this
 | succ fuel ih =>
   intro listed a w hfree hr hy H
   refine ⟨fun h => (by rw [h] at hr; cases hr), fun j hj => ?_⟩
   by_cases hji : j = i
   · subst hji; exact hy.wpOp hi ⟨fun _ h => h, H⟩
   · have h1 := H.2 j (ready_mono hj hji)
     obtain ⟨hjun, oj, hoj, hall⟩ := mem_ready.1 hj
     have hnot : ∀ e ∈ oj.after, Region.binds md e = true → e.on ≠ i := fun e he hb heq => by
      have h1 := hall e he hb
      have h0 := (mem_ready.1 hr).1
      rw [heq] at h1
      rcases Nat.lt_or_ge i listed.size with h' | h'
      · simp [h'] at h0 h1; rw [h0] at h1; cases h1
      · simp [Array.getElem?_eq_none h'] at h1
     have h2 := wpOp_put hoj (hfree j oj hoj hji hjun hnot) (fun cs b => hsel i oi cs b hi) (fun cs b => hsel j oj cs b hoj) hQ hy h1
     have hfree' : ∀ k ok, ops[k]? = some ok → k ≠ i → (listed.setIfInBounds j true).getD k true = false →
      (∀ e ∈ ok.after, Region.binds md e = true → e.on ≠ i) → oi.apart ops ok = true := fun k ok hk hki hun hno => by
      refine hfree k ok hk hki ?_ hno
      by_cases hjk : j = k
      · subst hjk; exact hjun
      · rw [getD_set_ne true hjk] at hun; exact hun
     refine wpOp_mono (fun a' w' h3 => ⟨h3.2.1, ih (listed.setIfInBounds j true) a' w' hfree' (ready_mono hr (Ne.symm hji)) h3.1 ?_⟩) h2
     rw [Array.setIfInBounds_comm _ _ hji]
     exact h3.2.2
def takeOk (md : Region.Mode) (ops : Array Oper) (bar : List Nat) (listed : Array Bool) (i : Nat) : Bool :=
 Region.noSelect ops && Region.free md ops listed i && (Region.ready md ops listed).contains i && bar.all fun j => waits md ops j i
theorem wpB_take (i : Nat) {oi : Oper} {v : Value} {fuel : Nat} {listed : Array Bool} {a : Act} {w : World} (hi : ops[i]? = some oi) (hc : takeOk md ops bar listed i = true)
 (hQ : ∀ c a w, Q (.panic c) (a.put oi.dst v) w → Q (.panic c) a w) (hy : YieldsIf P ops S oi v a) (hS : S w)
 (h : wpAnyB P md ops Q S bar fuel (listed.setIfInBounds i true) (a.put oi.dst v) w) : wpAnyB P md ops Q S bar (fuel + 1) listed a w := by
 unfold takeOk at hc
 simp only [Bool.and_eq_true, List.all_eq_true] at hc
 obtain ⟨⟨⟨h1, h2⟩, h3⟩, h4⟩ := hc
 exact wpAnyB_first hi (Region.noSelect_spec h1) h4 hQ fuel listed a w (Region.free_spec hi h2) (by simpa using h3) hy hS h
def pureOk (md : Region.Mode) (ops : Array Oper) (listed : Array Bool) (i : Nat) : Bool :=
 Region.noSelect ops && Region.free md ops listed i && (Region.ready md ops listed).contains i
theorem wpB_pure (i : Nat) {oi : Oper} {v : Value} {fuel : Nat} {listed : Array Bool} {a : Act} {w : World} (hi : ops[i]? = some oi) (hc : pureOk md ops listed i = true)
 (hQ : ∀ c a w, Q (.panic c) (a.put oi.dst v) w → Q (.panic c) a w) (hy : Yields P ops oi v a)
 (h : wpAnyB P md ops Q S bar fuel (listed.setIfInBounds i true) (a.put oi.dst v) w) : wpAnyB P md ops Q S bar (fuel + 1) listed a w := by
 unfold pureOk at hc
 simp only [Bool.and_eq_true] at hc
 obtain ⟨⟨h1, h2⟩, h3⟩ := hc
 exact wpAnyB_pure hi (Region.noSelect_spec h1) hQ fuel listed a w (Region.free_spec hi h2) (by simpa using h3) hy h
def nextQ (Q : Exit → Act → World → Prop) (K : Act → World → Prop) : Exit → Act → World → Prop
 | .normal, a, w => K a w
 | e, a, w => Q e a w
theorem nextQ_n {K : Act → World → Prop} {a : Act} {w : World} (h : K a w) : nextQ Q K .normal a w := h
theorem nextQ_lets {K : Act → World → Prop} (h : LetsOut (nextQ Q K)) : LetsOut Q := h
theorem wpOp_of_list {i : Nat} {o : Oper} {K : Act → World → Prop} {a : Act} {w : World} (hi : ops[i]? = some o) (h : wpList P ops (nextQ Q K) [o] a w) : wpOp P ops Q i K a w := by
 unfold wpOp
 rw [hi]
 simp only
 unfold wpList at h
 split
 · rename_i hw
   rw [if_pos hw] at h
   rcases h with h | ⟨h1, h2⟩
   · left
     unfold Oper.wp at *
     generalize (execOp a.eval o).run P w = r at *
     cases r with
     | ok n w' => cases n <;> exact h
     | halt x w' => cases x <;> exact h
   · exact .inr ⟨h1, nextQ_lets h2⟩
 · rename_i hw
   rw [if_neg hw] at h
   exact h
theorem wpB_one (i : Nat) {o : Oper} {fuel : Nat} {listed : Array Bool} {a : Act} {w : World} (hi : ops[i]? = some o) (hr : Region.ready md ops listed = [i])
 (h : wpList P ops (nextQ Q fun a' w' => S w' ∧ wpAnyB P md ops Q S bar fuel (listed.setIfInBounds i true) a' w') [o] a w) : wpAnyB P md ops Q S bar (fuel + 1) listed a w :=
 ⟨fun h0 => (by rw [hr] at h0; cases h0), fun j hj => by
   rw [hr] at hj
   obtain rfl : j = i := by simpa using hj
   exact wpOp_mono (fun a' w' h => ⟨fun _ _ => h.1, h.2⟩) (wpOp_of_list hi h)⟩
def forced (md : Region.Mode) (ops : Array Oper) (bar : List Nat) : List Nat → Array Bool → Bool
 | [], listed => (Region.ready md ops listed).isEmpty
 | i :: is, listed => Region.ready md ops listed == [i] && bar.contains i && forced md ops bar is (listed.setIfInBounds i true)
theorem wpB_forced : ∀ (is : List Nat) (os : List Oper) (listed : Array Bool) (fuel : Nat) (a : Act) (w : World), is.map (fun i => ops[i]?) = os.map some → forced md ops bar is listed = true → is.length ≤ fuel → wpList P ops Q os a w → wpAnyB P md ops Q S bar fuel listed a w
 | [], [], listed, 0, a, w, _, hf, _, h => ⟨by unfold forced at hf; simpa using hf, h⟩
 | [], [], listed, fuel + 1, a, w, _, hf, _, h => ⟨fun _ => h, fun i hi => by
  have : Region.ready md ops listed = [] := by unfold forced at hf; simpa using hf
  rw [this] at hi; cases hi⟩
 | [], o :: os, listed, fuel, a, w, ho, _, _, _ => by simp at ho
 | i :: is, [], listed, fuel, a, w, ho, _, _, _ => by simp at ho
 | i :: is, o :: os, listed, 0, a, w, _, _, hl, _ => by simp at hl
 | i :: is, o :: os, listed, fuel + 1, a, w, ho, hf, hl, h => by
   simp only [List.map_cons, List.cons.injEq] at ho
   unfold forced at hf
   simp only [Bool.and_eq_true] at hf
   obtain ⟨⟨h1, h2⟩, h3⟩ := hf
   have h1 : Region.ready md ops listed = [i] := by simpa using h1
   refine ⟨fun h0 => (by rw [h1] at h0; cases h0), fun j hj => ?_⟩
   rw [h1] at hj
   obtain rfl : j = i := by simpa using hj
   have key : wpOp P ops Q j (wpList P ops Q os) a w := by
    unfold wpOp
    rw [ho.1]
    unfold wpList at h
    exact h
   exact wpOp_mono (fun a' w' hk => ⟨fun hc _ => (by rw [h2] at hc; cases hc), wpB_forced is os _ fuel a' w' ho.2 h3 (by simpa using hl) hk⟩) key
theorem wpB_tail (is : List Nat) {os : List Oper} {listed : Array Bool} {fuel : Nat} {a : Act} {w : World} (hl : is.length ≤ fuel) (ho : is.map (fun i => ops[i]?) = os.map some) (hf : forced md ops bar is listed = true) (h : wpList P ops Q os a w) : wpAnyB P md ops Q S bar fuel listed a w :=
 wpB_forced is os listed fuel a w ho hf hl h
theorem wpB_start (S : World → Prop) (bar : List Nat) {id : Nat} {a : Act} {w : World} (hm : P.follows .mixedOrders = true) (hS : S w.drew)
 (h : S w.drew → wpAnyB P .any ops Q S bar ops.size (Array.replicate ops.size false) a w.drew) : (Code.region id ops true).wp P Q a w :=
 wp_region_any hm (wpAny_of_B _ _ _ _ (h hS))
end
end Go.Dr
