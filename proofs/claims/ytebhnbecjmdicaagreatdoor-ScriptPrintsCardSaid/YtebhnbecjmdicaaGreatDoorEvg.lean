/-
  A run reckoned out: strings.Builder's look at its own address, its String, and strings.Join, told by their contracts (premises).
  A run reckoned out: the place of one byte in a string (stringslite.Index), told by its contract.
  A run reckoned out: the functions on strings that are told at this seat: stringslite.Index of one byte, Builder.copyCheck, Builder.String, strings.Join.
-/
import Derived.Test.YtebhnbecjmdicaaGreatDoorEvx
import Derived.Lib.Join
import Derived.Test.YtebhnbecjmdicaaGreatDoorEv17
import Derived.Lib.Bytealg
import Derived.Test.YtebhnbecjmdicaaGreatDoorShelf
import Derived.Lib.UnsafeStr
import Derived.Deep.QuietTactic
import Derived.Deep.DrawnRows
namespace Go.Ev
open Go.RowKit
set_option linter.unusedVariables false
set_option linter.unusedSimpArgs false
set_option linter.unusedSectionVars false

section
variable {X : Type} [ExtA X]
/-- strings -/
noncomputable def strsOf : List Value → Option (List ByteArray)
  | [] => some []
  | .string b :: l => match strsOf l with
    | some r => some (b :: r)
    | none => none
  | _ => none
theorem strsOf_ok {m : Mp} : ∀ {l l' : List Value} {xs : List ByteArray}, strsOf l = some xs → RVs m l l' → xs.length = l.length ∧ ∀ (j : Nat) (x : ByteArray), xs[j]? = some x → l'[j]? = some (Value.string x)
  | [], _, _, e, .nil => by
    cases e
    exact ⟨rfl, fun j x h => by simp at h⟩
  | v :: l, _, xs, e, .cons r1 r2 => by
    unfold strsOf at e
    split at e
    · rename_i c; cases c
    · rename_i b l2 c
      cases c
      split at e
      · rename_i r hr
        cases e
        obtain ⟨h1, h2⟩ := strsOf_ok hr r2
        refine ⟨by simp [h1], fun j x h => ?_⟩
        cases j with
        | zero =>
          simp at h
          subst h
          have := r1.string_inv
          simp [this]
        | succ j => simpa using h2 j x (by simpa using h)
      · cases e
    · cases e

noncomputable def hkJoin (f : Nat) : Hk X := fun g args h => bif Nat.beq g f then (match args with
  | [.slice (some a) n c, .string sep] => match rd h a.block a.off n with
    | some l => match strsOf l with
      | some xs => bif Nat.ble n c && Nat.blt n 1000000 && Nat.blt (Go.Lib.join (xs.map (·.data.toList)) sep.data.toList).length 1000000 then some (.ret (.string ⟨(Go.Lib.join (xs.map (·.data.toList)) sep.data.toList).toArray⟩) h) else none
      | none => none
    | none => none
  | _ => none) else none
theorem hkJoin_ok {P : Program} {f : Nat} (hc : ∀ args w, (callFunc f args).run P w = .ok (.enter f args) w)
    (h1 : ∀ (bk o c : Nat) (xs : List ByteArray) (sep : ByteArray) (w : World), (∀ (j : Nat) x, xs[j]? = some x → w.cell? ⟨bk, o + j, none⟩ = some (.string x)) → bk < w.heap.size → xs.length ≤ 140737488355328 → xs.length ≤ c → (Go.Lib.join (xs.map (·.data.toList)) sep.data.toList).length ≤ 140737488355328 →
      Calls P f #[.slice (some ⟨bk, o, none⟩) xs.length c, .string sep] w fun e w' => e = .returned (.string ⟨(Go.Lib.join (xs.map (·.data.toList)) sep.data.toList).toArray⟩) ∧ Below w.heap.size w w') : HkOk P (hkJoin f : Hk X) := by
  intro g args h r e m w args' hr hf htp ha
  unfold hkJoin at e
  cases hb : Nat.beq g f with
  | false => rw [hb] at e; cases e
  | true =>
    rw [hb, cond_true] at e
    obtain rfl := Nat.eq_of_beq_eq_true hb
    refine ⟨hc _ _, ?_⟩
    split at e
    · rename_i a n c sep
      split at e
      · rename_i l hl
        split at e
        · rename_i xs hxs
          cases hb : (Nat.ble n c && Nat.blt n 1000000 && Nat.blt (Go.Lib.join (xs.map (·.data.toList)) sep.data.toList).length 1000000) with
          | false => rw [hb] at e; cases e
          | true =>
            rw [hb, cond_true] at e
            simp only [Bool.and_eq_true] at hb
            have c1 := Nat.le_of_ble_eq_true hb.1.1
            have c2 := Nat.blt_eq.mp hb.1.2
            have c3 := Nat.blt_eq.mp hb.2
            cases e
            cases ha with
            | cons r1 r2 =>
              cases r2 with
              | cons r2 r3 =>
                cases r3
                cases r2.string_inv
                obtain ⟨b1, q1, _, rfl, hm1⟩ := r1.slice_inv
                obtain ⟨l3, g1, g2, g3, g4⟩ := rd_ok hr hl hm1
                obtain ⟨d1, d2⟩ := strsOf_ok hxs g1
                have hn : xs.length = n := by rw [d1, ← g1.len, g2]
                subst hn
                have hlt : b1 < w.heap.size := hr.lt a.block _ _ (by unfold rd at hl; intro c; rw [c] at hl; cases hl) hm1
                refine (h1 b1 a.off (c + q1) xs sep w (fun j x hj => ?_) hlt (by omega) (by omega) (by omega)).mono ?_
                · have := g3 j _ (d2 j x hj)
                  rw [Addr.add_none] at this
                  exact this
                · rintro en w' ⟨rfl, hbel⟩
                  exact ⟨m, _, rfl, .scal rfl, Mo.below hr hf htp hbel⟩
        · cases e
      · cases e
    · cases e

noncomputable def hkCopy (f t0 : Nat) : Hk X := fun g args h => bif Nat.beq g f then (match args with
  | [.pointer (some ⟨k, 0, none⟩)] => match h.at k with
    | some (.cells [.pointer none, _] t true) => bif Nat.beq t t0 then (match wr h k 0 [.pointer (some ⟨k, 0, none⟩)] with
      | some h' => some (.ret (.tuple #[]) h')
      | none => none) else none
    | some (.cells [.pointer (some ⟨k', 0, none⟩), _] t true) => bif Nat.beq t t0 && Nat.beq k' k then some (.ret (.tuple #[]) h) else none
    | _ => none
  | _ => none) else none
theorem store_one {P : Program} {b : Nat} {v : Value} {w w' : World} (h : (storeCells ⟨b, 0, none⟩ [v]).run P w = .ok () w') : (store ⟨b, 0, none⟩ v).run P w = .ok () w' := by
  unfold storeCells at h
  have e : (⟨b, 0, none⟩ : Addr).add 0 = ⟨b, 0, none⟩ := by simp [Addr.add]
  rw [e] at h
  cases hs : (store ⟨b, 0, none⟩ v).run P w with
  | ok u w2 =>
    simp only [Sem.run_bind, hs, Result.andThen, storeCells, Sem.run_pure] at h
    exact h
  | _ => simp [Sem.run_bind, hs, Result.andThen] at h
theorem hkCopy_ok {P : Program} {f t0 : Nat} (hc : ∀ args w, (callFunc f args).run P w = .ok (.enter f args) w)
    (h1 : ∀ (b : Nat) (w : World), w.cell? ⟨b, 0, none⟩ = some (.pointer none) → w.shape? b = some (t0, 2) → w.frozen? ⟨b, 0, none⟩ = false → Calls P f #[.pointer (some ⟨b, 0, none⟩)] w fun e w' => e = .returned (.tuple #[]) ∧ w' = w.setCell ⟨b, 0, none⟩ (.pointer (some ⟨b, 0, none⟩)))
    (h2 : ∀ (b : Nat) (w : World), w.cell? ⟨b, 0, none⟩ = some (.pointer (some ⟨b, 0, none⟩)) → Calls P f #[.pointer (some ⟨b, 0, none⟩)] w fun e w' => e = .returned (.tuple #[]) ∧ w' = w) : HkOk P (hkCopy f t0 : Hk X) := by
  intro g args h r e m w args' hr hf htp ha
  unfold hkCopy at e
  cases hb : Nat.beq g f with
  | false => rw [hb] at e; cases e
  | true =>
    rw [hb, cond_true] at e
    obtain rfl := Nat.eq_of_beq_eq_true hb
    refine ⟨hc _ _, ?_⟩
    split at e
    · rename_i k
      cases ha with
      | cons r1 r2 =>
        cases r2
        obtain ⟨b, x, _, rfl, hm⟩ := r1.ptr_inv
        split at e
        · rename_i v t hat
          cases ht : Nat.beq t t0 with
          | false => rw [ht] at e; cases e
          | true =>
            rw [ht, cond_true] at e
            obtain rfl := Nat.eq_of_beq_eq_true ht
            split at e
            · rename_i h' hw
              cases e
              obtain ⟨c', fz, g1, g2, g3, g4, g5⟩ := hr.cellsF hat hm
              obtain ⟨rfl, rfl⟩ := g5 rfl
              obtain ⟨w', q1, q2, q3, q4⟩ := wr_ok hr hw hm (vs' := [.pointer (some ⟨b, 0, none⟩)]) (.cons (.ptr hm) .nil)
              obtain ⟨v', f1, f2, f3⟩ := hr.cell hat hm (o := 0) (v := .pointer none) rfl
              cases f3.scal_inv rfl
              have hsh : w.shape? b = some (t, 2) := by simp [World.shape?, g1]; simpa using g3
              refine (h1 b w f1 hsh f2).mono ?_
              rintro en w2 ⟨rfl, rfl⟩
              have hst := store_one q1
              have : w' = w.setCell ⟨b, 0, none⟩ (.pointer (some ⟨b, 0, none⟩)) := by
                have hs2 : (store ⟨b, 0, none⟩ (.pointer (some ⟨b, 0, none⟩))).run P w = .ok () (w.setCell ⟨b, 0, none⟩ (.pointer (some ⟨b, 0, none⟩))) := by
                  rw [run_store P w _ _ _ rfl, f1]
                  simp [f2]
                rw [hs2] at hst
                cases hst
                rfl
              subst this
              exact ⟨m, _, rfl, .tuple .nil, q2, fun k hk => hf k (by rw [q4] at hk; exact hk), q3, by rw [q4]; exact Nat.le_refl _, fun k hk => q3.top htp (by rw [q4]; exact Nat.le_refl _) k hk⟩
            · cases e
        · rename_i k' v t hat
          cases ht : (Nat.beq t t0 && Nat.beq k' k) with
          | false => rw [ht] at e; cases e
          | true =>
            rw [ht, cond_true] at e
            simp only [Bool.and_eq_true] at ht
            obtain rfl := Nat.eq_of_beq_eq_true ht.1
            obtain rfl := Nat.eq_of_beq_eq_true ht.2
            cases e
            obtain ⟨v', f1, f2, f3⟩ := hr.cell hat hm (o := 0) (v := .pointer (some ⟨k', 0, none⟩)) rfl
            obtain ⟨b2, x2, _, rfl, hm2⟩ := f3.ptr_inv
            rw [hm] at hm2
            cases hm2
            refine (h2 b w f1).mono ?_
            rintro en w2 ⟨rfl, rfl⟩
            exact ⟨m, _, rfl, .tuple .nil, hr, hf, Stp.refl _ _ _ _ _, Nat.le_refl _, htp⟩
        · cases e
    · cases e

noncomputable def bytes8 : List Value → Option (List UInt8)
  | [] => some []
  | .int .u8 (.ofNat x) :: l => match bytes8 l with
    | some r => bif Nat.blt x 256 then some (UInt8.ofNat x :: r) else none
    | none => none
  | _ => none
theorem bytes8_ok {m : Mp} : ∀ {l l' : List Value} {bs : List UInt8}, bytes8 l = some bs → RVs m l l' → bs.length = l.length ∧ ∀ (j : Nat) (x : UInt8), bs[j]? = some x → l'[j]? = some (Value.int .u8 x.toNat)
  | [], _, _, e, .nil => by
    cases e
    exact ⟨rfl, fun j x h => by simp at h⟩
  | v :: l, _, bs, e, .cons r1 r2 => by
    unfold bytes8 at e
    split at e
    · rename_i c; cases c
    · rename_i x l2 c
      cases c
      split at e
      · rename_i r hr
        cases hb : Nat.blt x 256 with
        | false => rw [hb] at e; cases e
        | true =>
          rw [hb, cond_true] at e
          have hx := Nat.blt_eq.mp hb
          cases e
          obtain ⟨h1, h2⟩ := bytes8_ok hr r2
          refine ⟨by simp [h1], fun j y h => ?_⟩
          cases j with
          | zero =>
            simp at h
            subst h
            have := r1.int_inv
            simp [this]
            omega
          | succ j => simpa using h2 j y (by simpa using h)
      · cases e
    · cases e
noncomputable def hkStr (f tB : Nat) : Hk X := fun g args h => bif Nat.beq g f then (match args with
  | [.pointer (some ⟨k, 0, none⟩)] => match h.at k with
    | some (.cells [_, .slice none 0 _] t true) => some (.ret (.string .empty) h)
    | some (.cells [_, .slice (some ⟨j, 0, none⟩) n c] t true) => match h.at j with
      | some (.cells cs tj _) => bif Nat.beq tj tB && leLen cs n && Nat.ble n c && Nat.blt 0 n && Nat.blt n 1000000 && Nat.blt j 1000000 then (match bytes8 (takeR cs n) with
        | some bs => some (.ret (.string ⟨bs.toArray⟩) (h.set j none))
        | none => none) else none
      | _ => none
    | _ => none
  | _ => none) else none
theorem hkStr_ok {P : Program} {f tB : Nat} (hc : ∀ args w, (callFunc f args).run P w = .ok (.enter f args) w)
    (h1 : ∀ (b g cap : Nat) (fz : Nat × Nat) (cur : Array Value) (l : List UInt8) (w : World), w.cell? ⟨b, 1, none⟩ = some (.slice (some ⟨g, 0, none⟩) l.length cap) → w.heap[g]? = some (.cells cur tB fz) → l ≠ [] → l.length ≤ cur.size → l.length ≤ cap → l.length ≤ 1000000 → (∀ (j : Nat) (x : UInt8), l[j]? = some x → w.cell? ⟨g, j, none⟩ = some (.int .u8 x.toNat)) →
      Calls P f #[.pointer (some ⟨b, 0, none⟩)] w fun e w' => e = .returned (.string ⟨l.toArray⟩) ∧ (∀ b', b' ≠ g → w'.heap[b']? = w.heap[b']?) ∧ w.heap.size ≤ w'.heap.size ∧ w'.os = w.os ∧ w'.tape = w.tape ∧ w'.output = w.output)
    (h2 : ∀ (b c : Nat) (w : World), w.cell? ⟨b, 1, none⟩ = some (.slice none 0 c) → Calls P f #[.pointer (some ⟨b, 0, none⟩)] w fun e w' => e = .returned (.string .empty) ∧ Below w.heap.size w w') : HkOk P (hkStr f tB : Hk X) := by
  intro g args h r e m w args' hr hf htp ha
  unfold hkStr at e
  cases hb : Nat.beq g f with
  | false => rw [hb] at e; cases e
  | true =>
    rw [hb, cond_true] at e
    obtain rfl := Nat.eq_of_beq_eq_true hb
    refine ⟨hc _ _, ?_⟩
    split at e
    · rename_i k
      cases ha with
      | cons r1 r2 =>
        cases r2
        obtain ⟨b, x, _, rfl, hm⟩ := r1.ptr_inv
        split at e
        · rename_i v c t hat
          cases e
          obtain ⟨v', f1, f2, f3⟩ := hr.cell hat hm (o := 1) (v := .slice none 0 c) rfl
          cases f3.slice_none
          refine (h2 b c w f1).mono ?_
          rintro en w' ⟨rfl, hbel⟩
          exact ⟨m, _, rfl, .scal rfl, Mo.below hr hf htp hbel⟩
        · rename_i v j n c t hat
          split at e
          · rename_i cs tj ex hatj
            cases ht : (Nat.beq tj tB && leLen cs n && Nat.ble n c && Nat.blt 0 n && Nat.blt n 1000000 && Nat.blt j 1000000) with
            | false => rw [ht] at e; cases e
            | true =>
              rw [ht, cond_true] at e
              simp only [Bool.and_eq_true] at ht
              obtain ⟨⟨⟨⟨⟨t1, t2⟩, t3⟩, t4⟩, t5⟩, t6⟩ := ht
              obtain rfl := Nat.eq_of_beq_eq_true t1
              rw [leLen_eq] at t2
              have t2 := Nat.le_of_ble_eq_true t2
              have t3 := Nat.le_of_ble_eq_true t3
              have t4 := Nat.blt_eq.mp t4
              have t5 := Nat.blt_eq.mp t5
              have t6 := Nat.blt_eq.mp t6
              split at e
              · rename_i bs hbs
                cases e
                obtain ⟨v', f1, f2, f3⟩ := hr.cell hat hm (o := 1) (v := .slice (some ⟨j, 0, none⟩) n c) rfl
                obtain ⟨b1, q1, _, rfl, hm1⟩ := f3.slice_inv
                obtain ⟨c', fz, g1, g2, g3, g4, g5⟩ := hr.cellsF hatj hm1
                rw [takeR_eq] at hbs
                have hrv := RVs.take n g4
                obtain ⟨d1, d2⟩ := bytes8_ok hbs hrv
                have hn : bs.length = n := by rw [d1, List.length_take]; omega
                subst hn
                refine (h1 b b1 (c + q1) fz c' bs w f1 g1 (by intro hz; rw [hz] at t4; simp at t4) (by omega) (by omega) (by omega) (fun i y hi => ?_)).mono ?_
                · have hlt : i < bs.length := (List.getElem?_eq_some_iff.1 hi).1
                  have := d2 i y hi
                  rw [List.getElem?_take_of_lt hlt, List.getElem?_take_of_lt (by omega), Array.getElem?_toList] at this
                  exact cell_some g1 this
                · rintro en w' ⟨rfl, k1, k2, k3, k4, k5⟩
                  exact ⟨m, _, rfl, .scal rfl, Mo.lose hr hf htp hatj rfl hm1 t6 k1 k2 k3 k4 k5⟩
              · cases e
          · cases e
        · cases e
    · cases e
end
end Go.Ev

namespace Go.Ev
set_option linter.unusedVariables false
set_option linter.unusedSimpArgs false
set_option linter.unusedSectionVars false
variable {X : Type} [ExtA X]
noncomputable def idxB (c : UInt8) : List UInt8 → Nat → Int
  | [], _ => -1
  | b :: l, k => bif Nat.beq b.toNat c.toNat then .ofNat k else idxB c l (k + 1)
theorem idxB_eq (c : UInt8) : ∀ (l : List UInt8) (k : Nat), idxB c l k = bif Lib.indexByte l c == -1 then -1 else Lib.indexByte l c + k
  | [], k => rfl
  | b :: l, k => by
    unfold idxB Lib.indexByte
    cases h : Nat.beq b.toNat c.toNat with
    | true =>
      have e : b = c := UInt8.toNat_inj.mp (Nat.eq_of_beq_eq_true h)
      subst e
      simp
    | false =>
      have e : (b == c) = false := by
        rw [beq_eq_false_iff_ne]
        intro q
        subst q
        simp at h
      have hg := Lib.indexByte_ge l c
      rw [e, cond_false, idxB_eq c l (k + 1)]
      cases h1 : (Lib.indexByte l c == -1) with
      | true => simp
      | false =>
        have h2 : ¬ Lib.indexByte l c = -1 := by simpa using h1
        have h3 : (Lib.indexByte l c + 1 == -1) = false := by
          rw [beq_eq_false_iff_ne]
          omega
        simp [h3]
        omega
noncomputable def hkIdx (f : Nat) : Hk X := fun g args h => bif Nat.beq g f then (match args with
  | [.string s, .string ⟨⟨[c]⟩⟩] => some (.ret (.int .i64 (idxB c s.data.toList 0)) h)
  | _ => none) else none
theorem hkIdx_ok {P : Program} {f : Nat} (hc : ∀ args w, (callFunc f args).run P w = .ok (.enter f args) w)
    (h1 : ∀ (s : ByteArray) (c : UInt8) (w : World), Calls P f #[.string s, .string ⟨#[c]⟩] w fun e w' => e = .returned (.int .i64 (Lib.indexByte s.data.toList c)) ∧ w' = w) : HkOk P (hkIdx f : Hk X) := by
  intro g args h r e m w args' hr hf ht ha
  unfold hkIdx at e
  cases hb : Nat.beq g f with
  | false => rw [hb] at e; cases e
  | true =>
    rw [hb, cond_true] at e
    obtain rfl := Nat.eq_of_beq_eq_true hb
    refine ⟨hc _ _, ?_⟩
    split at e
    · rename_i s c
      cases e
      cases ha with
      | cons r1 r2 =>
        cases r2 with
        | cons r2 r3 =>
          cases r3
          cases r1.string_inv
          cases r2.string_inv
          refine (h1 s c w).mono ?_
          rintro en w' ⟨rfl, rfl⟩
          have : idxB c s.data.toList 0 = Lib.indexByte s.data.toList c := by
            rw [idxB_eq]
            cases h1 : (Lib.indexByte s.data.toList c == -1) with
            | true => simpa using (beq_iff_eq.mp h1).symm
            | false => simp
          rw [← this]
          exact ⟨m, _, rfl, .scal rfl, hr, hf, Stp.refl _ _ _ _ _, Nat.le_refl _, ht⟩
    · cases e
end Go.Ev

namespace Go.Proofs.YtebhnbecjmdicaaGreatDoor
set_option linter.unusedSimpArgs false
set_option linter.unusedVariables false
open Go.RowKit Go.Ev
attribute [local go_sem ↓] Go.wp_at_zero Go.wp_at_succ

theorem hkIndex_ok : HkOk Tryz.prog (hkIdx 51 : Hk Empty) :=
  hkIdx_ok Tryz.call51 (fun s c w => Any.stringslite_Index_one Tryz.lays219 s c w)

theorem frz (w : World) (g n b' : Nat) (h : b' ≠ g) : (w.freeze ⟨g, 0, none⟩ n).heap[b']? = w.heap[b']? := by
  unfold World.freeze
  split
  · rfl
  · simp only [Array.getElem?_modify]
    rw [if_neg (fun e => h e.symm)]
theorem frzS (w : World) (g n : Nat) : (w.freeze ⟨g, 0, none⟩ n).heap.size = w.heap.size ∧ (w.freeze ⟨g, 0, none⟩ n).os = w.os ∧ (w.freeze ⟨g, 0, none⟩ n).tape = w.tape ∧ (w.freeze ⟨g, 0, none⟩ n).output = w.output := by
  unfold World.freeze
  split
  · exact ⟨rfl, rfl, rfl, rfl⟩
  · exact ⟨by simp, rfl, rfl, rfl⟩

set_option maxHeartbeats 1000000 in
theorem str_any (b g cap : Nat) (fz : Nat × Nat) (cur : Array Value) (l : List UInt8) (w : World) (c1 : w.cell? ⟨b, 1, none⟩ = some (.slice (some ⟨g, 0, none⟩) l.length cap)) (hg : w.heap[g]? = some (.cells cur 5 fz)) (h0 : l ≠ []) (hn : l.length ≤ cur.size) (hcap : l.length ≤ cap) (h6 : l.length ≤ 1000000) (hx : ∀ (j : Nat) (x : UInt8), l[j]? = some x → w.cell? ⟨g, j, none⟩ = some (.int .u8 x.toNat)) :
    Calls Tryz.prog 33 #[.pointer (some ⟨b, 0, none⟩)] w fun e w' => e = .returned (.string ⟨l.toArray⟩) ∧ (∀ b', b' ≠ g → w'.heap[b']? = w.heap[b']?) ∧ w.heap.size ≤ w'.heap.size ∧ w'.os = w.os ∧ w'.tape = w.tape ∧ w'.output = w.output := by
  have c1d : w.drew.cell? ⟨b, 1, none⟩ = some (.slice (some ⟨g, 0, none⟩) l.length cap) := c1
  have hl0 : l.length ≠ 0 := by simpa using h0
  have hSD : (Builtin.unsafeSliceData_ #[23] 98 #[.slice (some ⟨g, 0, none⟩) l.length cap]).run Tryz.prog w.drew = .ok (.pointer (some ⟨g, 0, none⟩)) w.drew :=
    Lib.run_unsafeSliceData_row _ _ _ _ _ _ (by omega)
  have hUS : (Builtin.unsafeString_ #[98, 3] 9 #[.pointer (some ⟨g, 0, none⟩), .int .i64 l.length]).run Tryz.prog w.drew = .ok (.string ⟨l.toArray⟩) (w.drew.freeze ⟨g, 0, none⟩ l.length) := by
    refine Lib.run_unsafeString_row w.drew 98 3 9 5 Tryz.underlying98 (by kernel_rfl) g cur.size (by have hg' : w.drew.heap[g]? = some (.cells cur 5 fz) := hg; simp [World.shape?, hg']) l h0 (by omega) (by omega) ?_
    intro j x hj
    rw [Ev.Addr.add_none, Nat.zero_add]
    exact hx j x hj
  have hfin : (∀ b', b' ≠ g → (w.drew.freeze ⟨g, 0, none⟩ l.length).heap[b']? = w.heap[b']?) ∧ w.heap.size ≤ (w.drew.freeze ⟨g, 0, none⟩ l.length).heap.size ∧ (w.drew.freeze ⟨g, 0, none⟩ l.length).os = w.os ∧ (w.drew.freeze ⟨g, 0, none⟩ l.length).tape = w.tape ∧ (w.drew.freeze ⟨g, 0, none⟩ l.length).output = w.output := by
    obtain ⟨s1, s2, s3, s4⟩ := frzS w.drew g l.length
    exact ⟨fun b' hb => frz w.drew g l.length b' hb, Nat.le_of_eq s1.symm, s2, s3, s4⟩
  clear hx h0 hn hg
  go_enter Tryz.func33, Tryz.ntmps33
  go_wp2
  go_region
  all_goals (go_wp2; go_ret; exact ⟨rfl, hfin⟩)
set_option maxHeartbeats 1000000 in
theorem str_nil (b c : Nat) (w : World) (c1 : w.cell? ⟨b, 1, none⟩ = some (.slice none 0 c)) :
    Calls Tryz.prog 33 #[.pointer (some ⟨b, 0, none⟩)] w fun e w' => e = .returned (.string .empty) ∧ Below w.heap.size w w' := by
  have hUS : ∀ W : World, (Builtin.unsafeString_ #[98, 3] 9 #[.pointer none, .int .i64 0]).run Tryz.prog W = .ok (.string .empty) W := fun W => Lib.run_unsafeString_none W _ _ _ none
  have c1d : w.drew.cell? ⟨b, 1, none⟩ = some (.slice none 0 c) := c1
  have hSD : (Builtin.unsafeSliceData_ #[23] 98 #[.slice none 0 c]).run Tryz.prog w.drew = .ok (.pointer none) w.drew := rfl
  go_enter Tryz.func33, Tryz.ntmps33
  go_wp2
  go_region
  all_goals (go_wp2; go_ret; exact ⟨rfl, Below.drew (Below.refl _ w)⟩)
theorem hkString_ok : HkOk Tryz.prog (hkStr 33 5 : Hk Empty) :=
  hkStr_ok Tryz.call33 str_any str_nil
theorem hkCopyCheck_ok : HkOk Tryz.prog (hkCopy 41 62 : Hk Empty) :=
  hkCopy_ok Tryz.call41 (fun b w h0 hsh hfz => Any.Builder_copyCheck_fresh { Tryz.lays156 with } { Tryz.Builder_Extra_156 with } b w h0 hsh hfz) (fun b w h0 => Any.Builder_copyCheck_used { Tryz.lays156 with } { Tryz.Builder_Extra_156 with } b w h0)
theorem hkJoin_ok' : HkOk Tryz.prog (hkJoin 57 : Hk Empty) :=
  hkJoin_ok Tryz.call57 (fun bk o c xs sep w hc hb h1 h2 h3 => Any.strings_Join Tryz.lays156 Tryz.Builder_Extra_156 bk o c xs sep w hc hb h1 h2 h3)
end Go.Proofs.YtebhnbecjmdicaaGreatDoor
