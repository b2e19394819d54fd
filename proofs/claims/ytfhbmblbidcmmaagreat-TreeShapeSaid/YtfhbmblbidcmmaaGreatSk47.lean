/-
  Of all roots that are made the pages are a tree in the form of the document, and just these are told, and each is in use. No condition. (part 47)
-/
import Derived.OrdersHeld
import Derived.Deep.RegionHeld
import Derived.Tactics
set_option linter.unusedSimpArgs false
set_option linter.unusedVariables false
namespace Go.Dr
open Go
section
variable {P : Program} {ops : Array Oper} {Q : Exit → Act → World → Prop} {md : Region.Mode} {S : World → Prop} {bar : List Nat}
def wpAnyB (P : Program) (md : Region.Mode) (ops : Array Oper) (Q : Exit → Act → World → Prop) (S : World → Prop) (bar : List Nat) : Nat → Array Bool → Act → World → Prop
 | 0, listed, a, w => Region.ready md ops listed = [] ∧ Q .normal a w
 | fuel + 1, listed, a, w =>
   (Region.ready md ops listed = [] → Q .normal a w) ∧
   ∀ i ∈ Region.ready md ops listed, wpOp P ops Q i (fun a' w' => (bar.contains i = false → S w → S w') ∧ wpAnyB P md ops Q S bar fuel (listed.setIfInBounds i true) a' w') a w
theorem wpAny_of_B : ∀ (fuel : Nat) (listed : Array Bool) (a : Act) (w : World), wpAnyB P md ops Q S bar fuel listed a w → wpAny P md ops Q fuel listed a w
 | 0, _, _, _, h => h
 | fuel + 1, _, _, _, h => ⟨h.1, fun i hi => wpOp_mono (fun a' w' h' => wpAny_of_B fuel _ a' w' h'.2) (h.2 i hi)⟩
def waits (md : Region.Mode) (ops : Array Oper) (j i : Nat) : Bool := (ops[j]?).any fun o => o.after.any fun e => Region.binds md e && e.on == i
theorem wpAnyB_first {i : Nat} {oi : Oper} {v : Value} (hi : ops[i]? = some oi) (hsel : ∀ (j : Nat) (o : Oper) cs b, ops[j]? = some o → o.op ≠ .select cs b)
 (hbar : ∀ j ∈ bar, waits md ops j i = true)
 (hQ : ∀ c a w, Q (.panic c) (a.put oi.dst v) w → Q (.panic c) a w) :
 ∀ (fuel : Nat) (listed : Array Bool) (a : Act) (w : World),
  (∀ j oj, ops[j]? = some oj → j ≠ i → listed.getD j true = false → (∀ e ∈ oj.after, Region.binds md e = true → e.on ≠ i) → oi.apart ops oj = true) →
  i ∈ Region.ready md ops listed → YieldsIf P ops S oi v a → S w →
  wpAnyB P md ops Q S bar fuel (listed.setIfInBounds i true) (a.put oi.dst v) w → wpAnyB P md ops Q S bar (fuel + 1) listed a w := by
 intro fuel
 induction fuel with
 | zero =>
   intro listed a w _ hr hy hS H
   refine ⟨fun h => (by rw [h] at hr; cases hr), fun j hj => ?_⟩
   by_cases hji : j = i
   · subst hji; exact hy.wpOp hi hS ⟨fun _ h => h, H⟩
   · have := ready_mono hj hji
     rw [H.1] at this
     cases this
 | succ fuel ih =>
   intro listed a w hfree hr hy hS H
   refine ⟨fun h => (by rw [h] at hr; cases hr), fun j hj => ?_⟩
   by_cases hji : j = i
   · subst hji; exact hy.wpOp hi hS ⟨fun _ h => h, H⟩
   · have h1 := H.2 j (ready_mono hj hji)
     obtain ⟨hjun, oj, hoj, hall⟩ := mem_ready.1 hj
     have hnot : ∀ e ∈ oj.after, Region.binds md e = true → e.on ≠ i := fun e he hb heq => by
      have h1 := hall e he hb
      have h0 := (mem_ready.1 hr).1
      rw [heq] at h1
      rcases Nat.lt_or_ge i listed.size with h' | h'
      · simp [h'] at h0 h1; rw [h0] at h1; cases h1
      · simp [Array.getElem?_eq_none h'] at h1
     have hjb : bar.contains j = false := by
      cases hc : bar.contains j with
      | false => rfl
      | true =>
        have hw := hbar j (by simpa using hc)
        unfold waits at hw
        rw [hoj] at hw
        simp only [Option.any_some, Array.any_eq_true'] at hw
        obtain ⟨e, he, h2⟩ := hw
        rw [Bool.and_eq_true] at h2
        exact absurd (by simpa using h2.2) (hnot e he h2.1)
     have h2 := wpOp_putIf hoj (hfree j oj hoj hji hjun hnot) (fun cs b => hsel i oi cs b hi) (fun cs b => hsel j oj cs b hoj) hQ hy h1
     have hfree' : ∀ k ok, ops[k]? = some ok → k ≠ i → (listed.setIfInBounds j true).getD k true = false →
      (∀ e ∈ ok.after, Region.binds md e = true → e.on ≠ i) → oi.apart ops ok = true := fun k ok hk hki hun hno => by
      refine hfree k ok hk hki ?_ hno
      by_cases hjk : j = k
      · subst hjk; exact hjun
      · rw [getD_set_ne true hjk] at hun; exact hun
     refine wpOp_mono (fun a' w' h3 => ⟨h3.2.1, ih (listed.setIfInBounds j true) a' w' hfree' (ready_mono hr (Ne.symm hji)) h3.1 (h3.2.1 hjb hS) ?_⟩) h2
     rw [Array.setIfInBounds_comm _ _ hji]
     exact h3.2.2
theorem wpAnyB_pure {i : Nat} {oi : Oper} {v : Value} (hi : ops[i]? = some oi) (hsel : ∀ (j : Nat) (o : Oper) cs b, ops[j]? = some o → o.op ≠ .select cs b)
 (hQ : ∀ c a w, Q (.panic c) (a.put oi.dst v) w → Q (.panic c) a w) :
 ∀ (fuel : Nat) (listed : Array Bool) (a : Act) (w : World),
  (∀ j oj, ops[j]? = some oj → j ≠ i → listed.getD j true = false → (∀ e ∈ oj.after, Region.binds md e = true → e.on ≠ i) → oi.apart ops oj = true) →
  i ∈ Region.ready md ops listed → Yields P ops oi v a →
  wpAnyB P md ops Q S bar fuel (listed.setIfInBounds i true) (a.put oi.dst v) w → wpAnyB P md ops Q S bar (fuel + 1) listed a w := by
 intro fuel
 induction fuel with
 | zero =>
   intro listed a w _ hr hy H
   refine ⟨fun h => (by rw [h] at hr; cases hr), fun j hj => ?_⟩
   by_cases hji : j = i
   · subst hji; exact hy.wpOp hi ⟨fun _ h => h, H⟩
   · have := ready_mono hj hji
     rw [H.1] at this
     cases this
 | succ fuel ih =>
   intro listed a w hfree hr hy H
   refine ⟨fun h => (by rw [h] at hr; cases hr), fun j hj => ?_⟩
   by_cases hji : j = i
   · subst hji; exact hy.wpOp hi ⟨fun _ h => h, H⟩
   · have h1 := H.2 j (ready_mono hj hji)
     obtain ⟨hjun, oj, hoj, hall⟩ := mem_ready.1 hj
     have hnot : ∀ e ∈ oj.after, Region.binds md e = true → e.on ≠ i := fun e he hb heq => by
      have h1 := hall e he hb
      have h0 := (mem_ready.1 hr).1
      rw [heq] at h1
      rcases Nat.lt_or_ge i listed.size with h' | h'
      · simp [h'] at h0 h1; rw [h0] at h1; cases h1
      · simp [Array.getElem?_eq_none h'] at h1
     have h2 := wpOp_put hoj (hfree j oj hoj hji hjun hnot) (fun cs b => hsel i oi cs b hi) (fun cs b => hsel j oj cs b hoj) hQ hy h1
     have hfree' : ∀ k ok, ops[k]? = some ok → k ≠ i → (listed.setIfInBounds j true).getD k true = false →
      (∀ e ∈ ok.after, Region.binds md e = true → e.on ≠ i) → oi.apart ops ok = true := fun k ok hk hki hun hno => by
      refine hfree k ok hk hki ?_ hno
      by_cases hjk : j = k
      · subst hjk; exact hjun
      · rw [getD_set_ne true hjk] at hun; exact hun
     refine wpOp_mono (fun a' w' h3 => ⟨h3.2.1, ih (listed.setIfInBounds j true) a' w' hfree' (ready_mono hr (Ne.symm hji)) h3.1 ?_⟩) h2
     rw [Array.setIfInBounds_comm _ _ hji]
     exact h3.2.2
def takeOk (md : Region.Mode) (ops : Array Oper) (bar : List Nat) (listed : Array Bool) (i : Nat) : Bool :=
 Region.noSelect ops && Region.free md ops listed i && (Region.ready md ops listed).contains i && bar.all fun j => waits md ops j i
theorem wpB_take (i : Nat) {oi : Oper} {v : Value} {fuel : Nat} {listed : Array Bool} {a : Act} {w : World} (hi : ops[i]? = some oi) (hc : takeOk md ops bar listed i = true)
 (hQ : ∀ c a w, Q (.panic c) (a.put oi.dst v) w → Q (.panic c) a w) (hy : YieldsIf P ops S oi v a) (hS : S w)
 (h : wpAnyB P md ops Q S bar fuel (listed.setIfInBounds i true) (a.put oi.dst v) w) : wpAnyB P md ops Q S bar (fuel + 1) listed a w := by
 unfold takeOk at hc
 simp only [Bool.and_eq_true, List.all_eq_true] at hc
 obtain ⟨⟨⟨h1, h2⟩, h3⟩, h4⟩ := hc
 exact wpAnyB_first hi (Region.noSelect_spec h1) h4 hQ fuel listed a w (Region.free_spec hi h2) (by simpa using h3) hy hS h
def pureOk (md : Region.Mode) (ops : Array Oper) (listed : Array Bool) (i : Nat) : Bool :=
 Region.noSelect ops && Region.free md ops listed i && (Region.ready md ops listed).contains i
theorem wpB_pure (i : Nat) {oi : Oper} {v : Value} {fuel : Nat} {listed : Array Bool} {a : Act} {w : World} (hi : ops[i]? = some oi) (hc : pureOk md ops listed i = true)
 (hQ : ∀ c a w, Q (.panic c) (a.put oi.dst v) w → Q (.panic c) a w) (hy : Yields P ops oi v a)
 (h : wpAnyB P md ops Q S bar fuel (listed.setIfInBounds i true) (a.put oi.dst v) w) : wpAnyB P md ops Q S bar (fuel + 1) listed a w := by
 unfold pureOk at hc
 simp only [Bool.and_eq_true] at hc
 obtain ⟨⟨h1, h2⟩, h3⟩ := hc
 exact wpAnyB_pure hi (Region.noSelect_spec h1) hQ fuel listed a w (Region.free_spec hi h2) (by simpa using h3) hy h
def nextQ (Q : Exit → Act → World → Prop) (K : Act → World → Prop) : Exit → Act → World → Prop
 | .normal, a, w => K a w
 | e, a, w => Q e a w
theorem nextQ_n {K : Act → World → Prop} {a : Act} {w : World} (h : K a w) : nextQ Q K .normal a w := h
theorem nextQ_lets {K : Act → World → Prop} (h : LetsOut (nextQ Q K)) : LetsOut Q := h
theorem wpOp_of_list {i : Nat} {o : Oper} {K : Act → World → Prop} {a : Act} {w : World} (hi : ops[i]? = some o) (h : wpList P ops (nextQ Q K) [o] a w) : wpOp P ops Q i K a w := by
 unfold wpOp
 rw [hi]
 simp only
 unfold wpList at h
 split
 · rename_i hw
   rw [if_pos hw] at h
   rcases h with h | ⟨h1, h2⟩
   · left
     unfold Oper.wp at *
     generalize (execOp a.eval o).run P w = r at *
     cases r with
     | ok n w' => cases n <;> exact h
     | halt x w' => cases x <;> exact h
   · exact .inr ⟨h1, nextQ_lets h2⟩
 · rename_i hw
   rw [if_neg hw] at h
   exact h
theorem wpB_one (i : Nat) {o : Oper} {fuel : Nat} {listed : Array Bool} {a : Act} {w : World} (hi : ops[i]? = some o) (hr : Region.ready md ops listed = [i])
 (h : wpList P ops (nextQ Q fun a' w' => S w' ∧ wpAnyB P md ops Q S bar fuel (listed.setIfInBounds i true) a' w') [o] a w) : wpAnyB P md ops Q S bar (fuel + 1) listed a w :=
 ⟨fun h0 => (by rw [hr] at h0; cases h0), fun j hj => by
   rw [hr] at hj
   obtain rfl : j = i := by simpa using hj
   exact wpOp_mono (fun a' w' h => ⟨fun _ _ => h.1, h.2⟩) (wpOp_of_list hi h)⟩
theorem wpB_two (i j : Nat) {o u : Oper} {fuel : Nat} {listed : Array Bool} {a : Act} {w : World} (hi : ops[i]? = some o) (hj : ops[j]? = some u) (hr : Region.ready md ops listed = [i, j])
 (h : wpList P ops (nextQ Q fun a' w' => S w' ∧ wpAnyB P md ops Q S bar fuel (listed.setIfInBounds i true) a' w') [o] a w)
 (k : wpList P ops (nextQ Q fun a' w' => S w' ∧ wpAnyB P md ops Q S bar fuel (listed.setIfInBounds j true) a' w') [u] a w) : wpAnyB P md ops Q S bar (fuel + 1) listed a w :=
 ⟨fun h0 => (by rw [hr] at h0; cases h0), fun n hn => by
   rw [hr] at hn
   rcases List.mem_cons.1 hn with rfl | hn
   · exact wpOp_mono (fun a' w' h => ⟨fun _ _ => h.1, h.2⟩) (wpOp_of_list hi h)
   · obtain rfl : n = j := by simpa using hn
     exact wpOp_mono (fun a' w' h => ⟨fun _ _ => h.1, h.2⟩) (wpOp_of_list hj k)⟩
def forced (md : Region.Mode) (ops : Array Oper) (bar : List Nat) : List Nat → Array Bool → Bool
 | [], listed => (Region.ready md ops listed).isEmpty
 | i :: is, listed => Region.ready md ops listed == [i] && bar.contains i && forced md ops bar is (listed.setIfInBounds i true)
theorem wpB_forced : ∀ (is : List Nat) (os : List Oper) (listed : Array Bool) (fuel : Nat) (a : Act) (w : World), is.map (fun i => ops[i]?) = os.map some → forced md ops bar is listed = true → is.length ≤ fuel → wpList P ops Q os a w → wpAnyB P md ops Q S bar fuel listed a w
 | [], [], listed, 0, a, w, _, hf, _, h => ⟨by unfold forced at hf; simpa using hf, h⟩
 | [], [], listed, fuel + 1, a, w, _, hf, _, h => ⟨fun _ => h, fun i hi => by
  have : Region.ready md ops listed = [] := by unfold forced at hf; simpa using hf
  rw [this] at hi; cases hi⟩
 | [], o :: os, listed, fuel, a, w, ho, _, _, _ => by simp at ho
 | i :: is, [], listed, fuel, a, w, ho, _, _, _ => by simp at ho
 | i :: is, o :: os, listed, 0, a, w, _, _, hl, _ => by simp at hl
 | i :: is, o :: os, listed, fuel + 1, a, w, ho, hf, hl, h => by
   simp only [List.map_cons, List.cons.injEq] at ho
   unfold forced at hf
   simp only [Bool.and_eq_true] at hf
   obtain ⟨⟨h1, h2⟩, h3⟩ := hf
   have h1 : Region.ready md ops listed = [i] := by simpa using h1
   refine ⟨fun h0 => (by rw [h1] at h0; cases h0), fun j hj => ?_⟩
   rw [h1] at hj
   obtain rfl : j = i := by simpa using hj
   have key : wpOp P ops Q j (wpList P ops Q os) a w := by
    unfold wpOp
    rw [ho.1]
    unfold wpList at h
    exact h
   exact wpOp_mono (fun a' w' hk => ⟨fun hc _ => (by rw [h2] at hc; cases hc), wpB_forced is os _ fuel a' w' ho.2 h3 (by simpa using hl) hk⟩) key
theorem wpB_tail (is : List Nat) {os : List Oper} {listed : Array Bool} {fuel : Nat} {a : Act} {w : World} (hl : is.length ≤ fuel) (ho : is.map (fun i => ops[i]?) = os.map some) (hf : forced md ops bar is listed = true) (h : wpList P ops Q os a w) : wpAnyB P md ops Q S bar fuel listed a w :=
 wpB_forced is os listed fuel a w ho hf hl h
theorem wpB_start (S : World → Prop) (bar : List Nat) {id : Nat} {a : Act} {w : World} (hm : P.follows .mixedOrders = true) (hS : S w.drew)
 (h : S w.drew → wpAnyB P .any ops Q S bar ops.size (Array.replicate ops.size false) a w.drew) : (Code.region id ops true).wp P Q a w :=
 wp_region_any hm (wpAny_of_B _ _ _ _ (h hS))
end
end Go.Dr
