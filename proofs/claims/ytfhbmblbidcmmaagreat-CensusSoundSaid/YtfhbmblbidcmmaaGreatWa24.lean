/-
  Versions are found sound just if they are in the words of the document. No condition. (part 24)
-/
import Derived.Test.YtfhbmblbidcmmaaGreatWa19
import Derived.Test.YtfhbmblbidcmmaaGreatWa18
import Derived.Deep.RegionHeld3
import Derived.Deep.RegionLaw
set_option linter.unusedSimpArgs false
set_option linter.unusedVariables false
namespace Go.Proofs.YtfhbmblbidcmmaaGreat
set_option linter.unusedSimpArgs false
set_option linter.unusedVariables false
open Go.RowKit Go.Sl Go.Dk Go.Tr
attribute [local go_sem ↓] Go.wp_at_zero Go.wp_at_succ
attribute [local go_sem] Go.Sl.cell_sat Go.Sl.frozen_sat
class Ne2 (k j : Nat) : Prop where
 out : k ≠ j
instance ne2_l (j : Nat) : Ne2 0 (j + 1) := ⟨by omega⟩
instance ne2_r (k : Nat) : Ne2 (k + 1) 0 := ⟨by omega⟩
instance ne2_s (k j : Nat) [h : Ne2 k j] : Ne2 (k + 1) (j + 1) := ⟨by have := h.out; omega⟩
instance at_set_same (vs : List Value) (k : Nat) (v u : Value) [h : At vs k u] : At (vs.set k v) k v := ⟨by
 have := (List.getElem?_eq_some_iff.1 h.out).1
 rw [List.getElem?_set_self this]⟩
instance at_set_ne (vs : List Value) (k j : Nat) (v u : Value) [n : Ne2 k j] [h : At vs j u] : At (vs.set k v) j u := ⟨by rw [List.getElem?_set_ne n.out]; exact h.out⟩
theorem four_any (R : Nat) (a : Option Addr) (c : Nat) (l : List UInt8) (p : Nat) (F : Assn) (w : World) (hs : Sat (rdA R a c l p * F) w) (hl : l.length ≤ 1099511627776) (h : p + 4 ≤ l.length) :
 Calls Tryz.prog 189 #[.pointer (some ⟨R, 0, none⟩)] w fun e w' => e = .returned (.int .i64 (i4 (lei ((l.drop p).take 4)))) ∧ Sat (rdA R a c l (p + 4) * F) w' := by
 have h7 := rdInt_go R a c l p 4 F w hs hl h (by omega) (by omega)
 obtain ⟨n, hn⟩ : ∃ n, lei ((l.drop p).take 4) = n := ⟨_, rfl⟩
 rw [hn] at h7 ⊢
 by_cases hc : n = 4294967295
 · subst hc
   clear hn
   go_enter Tryz.func189, Tryz.ntmps189
   go_wp2_with fail
   refine h7.mono ?_
   rintro e w' ⟨rfl, hs2⟩
   go_wp2
   go_ret
   exact ⟨rfl, hs2⟩
 · have hc2 : ((n : Int) == 4294967295) = false := by simp; omega
   have hi : i4 n = n := by unfold i4; rw [if_neg hc]
   rw [hi]
   clear hn hi hc
   go_enter Tryz.func189, Tryz.ntmps189
   go_wp2_with fail
   refine h7.mono ?_
   rintro e w' ⟨rfl, hs2⟩
   go_wp2
   go_ret
   exact ⟨rfl, hs2⟩
theorem elemEn : ∃ i, ElemOk Tryz.prog 29 TEn 4 32 i (.agg #[.int .i64 0, .int .i64 0, .int .i64 0, .int .i64 0]) := elemOk Tryz.underlying29 (by kernel_rfl) rfl (by omega)
theorem elemKd : ∃ i, ElemOk Tryz.prog 30 TKd 4 32 i (.agg #[.int .i64 0, .int .i64 0, .int .i64 0, .int .i64 0]) := elemOk Tryz.underlying30 (by kernel_rfl) rfl (by omega)
theorem ues_snoc (b : List UInt8) : ∀ i : Nat, ues (i + 1) b = ues i b ++ [ue ((b.drop (13 * i)).take 13)] := by
 intro i
 induction i generalizing b with
 | zero => simp [ues]
 | succ i ih =>
   rw [ues, ih (b.drop 13), List.drop_drop]
   conv => rhs; rw [ues]
   rw [show 13 + 13 * i = 13 * (i + 1) by omega]
   rfl
theorem uks_snoc (b : List UInt8) : ∀ i : Nat, uks (i + 1) b = uks i b ++ [uk ((b.drop (16 * i)).take 16)] := by
 intro i
 induction i generalizing b with
 | zero => simp [uks]
 | succ i ih =>
   rw [uks, ih (b.drop 16), List.drop_drop]
   conv => rhs; rw [uks]
   rw [show 16 + 16 * i = 16 * (i + 1) by omega]
   rfl
theorem ues_len (b : List UInt8) : ∀ i : Nat, (ues i b).length = i := by
 intro i
 induction i generalizing b with
 | zero => rfl
 | succ i ih => rw [ues, List.length_cons, ih]
theorem uks_len (b : List UInt8) : ∀ i : Nat, (uks i b).length = i := by
 intro i
 induction i generalizing b with
 | zero => rfl
 | succ i ih => rw [uks, List.length_cons, ih]
theorem take_mid (l : List UInt8) (p j k n : Nat) (h : j + k ≤ n) : (((l.drop p).take n).drop j).take k = (l.drop (p + j)).take k := by
 rw [List.drop_take, List.take_take, List.drop_drop, Nat.min_eq_left (by omega)]
theorem ue_at (x : UInt8) (rest : List UInt8) (i : Nat) : ue ((rest.drop (13 * i)).take 13) =
 ⟨(lei (((x :: rest).drop (1 + 13 * i)).take 1) : Nat), i4 (lei (((x :: rest).drop (1 + 13 * i + 1)).take 4)), i4 (lei (((x :: rest).drop (1 + 13 * i + 1 + 4)).take 4)), i4 (lei (((x :: rest).drop (1 + 13 * i + 1 + 4 + 4)).take 4))⟩ := by
 have e : ∀ j, (x :: rest).drop (1 + 13 * i + j) = rest.drop (13 * i + j) := fun j => by rw [show 1 + 13 * i + j = 13 * i + j + 1 by omega, List.drop_succ_cons]
 have e0 := e 0
 unfold ue
 rw [List.take_take, take_mid _ _ _ _ _ (by omega), take_mid _ _ _ _ _ (by omega), take_mid _ _ _ _ _ (by omega), show 1 + 13 * i + 1 + 4 = 1 + 13 * i + 5 by omega, show 1 + 13 * i + 5 + 4 = 1 + 13 * i + 9 by omega, e 1, e 5, e 9]
 simp only [Nat.add_zero] at e0
 rw [e0]
 rfl
theorem uk_at (x : UInt8) (rest : List UInt8) (i : Nat) : uk ((rest.drop (16 * i)).take 16) =
 ⟨i4 (lei (((x :: rest).drop (1 + 16 * i)).take 4)), i4 (lei (((x :: rest).drop (1 + 16 * i + 4)).take 4)), i4 (lei (((x :: rest).drop (1 + 16 * i + 4 + 4)).take 4)), i4 (lei (((x :: rest).drop (1 + 16 * i + 4 + 4 + 4)).take 4))⟩ := by
 have e : ∀ j, (x :: rest).drop (1 + 16 * i + j) = rest.drop (16 * i + j) := fun j => by rw [show 1 + 16 * i + j = 16 * i + j + 1 by omega, List.drop_succ_cons]
 have e0 := e 0
 unfold uk
 rw [List.take_take, take_mid _ _ _ _ _ (by omega), take_mid _ _ _ _ _ (by omega), take_mid _ _ _ _ _ (by omega), show 1 + 16 * i + 4 + 4 = 1 + 16 * i + 8 by omega, show 1 + 16 * i + 8 + 4 = 1 + 16 * i + 12 by omega, e 4, e 8, e 12]
 simp only [Nat.add_zero] at e0
 rw [e0]
 rfl
end Go.Proofs.YtfhbmblbidcmmaaGreat
