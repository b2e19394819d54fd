/-
  Walk: script.Print.
  Walk of the document's answer for lines: Print.
-/
import Derived.Test.YtebhnbecjmdicaaGreatDoorScH
import Derived.Test.YtebhnbecjmdicaaGreatDoorScU
namespace Go.Sc
open Go.Lib
theorem itoa_len (n : Int) (h0 : -999999999999999999 ≤ n) (h1 : n ≤ 999999999999999999) : (itoa n).length ≤ 19 := by
  unfold itoa
  split
  · have := digits_len18 n.natAbs (by omega)
    simp
    omega
  · have := digits_len18 n.toNat (by omega)
    omega
theorem add32 (x : Bs) : (⟨#[32]⟩ : ByteArray) ++ str x = str (32 :: x) := str_append [32] x
theorem sz32 : (⟨#[32]⟩ : ByteArray).size = 1 := rfl
def sofar (c : Cmd) (i : Nat) : Bs := c.word ++ (c.nums.take i).flatMap (fun n => 32 :: itoa n)
theorem sofar_next {c : Cmd} {i : Nat} {n : Int} (h : c.nums[i]? = some n) : sofar c (i + 1) = sofar c i ++ 32 :: itoa n := by
  unfold sofar
  rw [List.take_add_one, h]
  simp
theorem sofar_len (c : Cmd) (h : numsOk c.nums = true) : ∀ i, (sofar c i).length ≤ c.word.length + 20 * i
  | 0 => by simp [sofar]
  | i + 1 => by
    have ih := sofar_len c h i
    cases hx : c.nums[i]? with
    | none =>
      have : sofar c (i + 1) = sofar c i := by
        have hl : c.nums.length ≤ i := by simpa using hx
        unfold sofar
        rw [List.take_of_length_le hl, List.take_of_length_le (by omega)]
      rw [this]
      omega
    | some n =>
      rw [sofar_next hx]
      unfold numsOk at h
      rw [List.all_eq_true] at h
      have h2 := h n (List.mem_of_getElem? hx)
      simp only [Bool.and_eq_true, decide_eq_true_eq] at h2
      have := itoa_len n h2.1 h2.2
      simp
      omega
end Go.Sc
namespace Go.Proofs.YtebhnbecjmdicaaGreatDoor
set_option linter.unusedSimpArgs false
set_option linter.unusedVariables false
open Go.RowKit Go.Sl Go.Sc
attribute [local go_sem] Go.Sl.cell_sat Go.Sl.frozen_sat Go.Sc.str_toList Go.Sc.str_size Go.Sc.str_extract Go.Sc.str_append Go.Sc.add32 Go.Sc.sz32

theorem word_short {wd : Bs} {y : Nat × Nat × Bool} (h : asks wd = some y) : wd.length ≤ 1000000000 := by
  have : ∀ p ∈ tab, p.1.length ≤ 8 := by decide
  have := this _ (lookup_mem h)
  have h2 : wd.length ≤ 8 := this
  omega
theorem mayN_some {wd : Bs} {nums : List Int} {n : Nat} (h : mayN wd nums n = true) : ∃ a b t, asks wd = some (a, b, t) ∧ nums.length ≤ 64 ∧ numsOk nums = true := by
  unfold mayN at h
  cases hq : asks wd with
  | none => rw [hq] at h; cases h
  | some y =>
    obtain ⟨a, b, t⟩ := y
    rw [hq] at h
    simp only [Bool.and_eq_true, decide_eq_true_eq] at h
    have hb : ∀ p ∈ tab, p.2.2.1 ≤ 64 := by decide
    have hb64 : b ≤ 64 := hb (wd, a, b, t) (lookup_mem hq)
    exact ⟨a, b, t, rfl, by omega, h.2⟩
def PriR (r : Option Bs) (e : Ending) : Prop := (∃ s, r = some s ∧ e = .returned (.tuple #[.string (str s), .int .i64 0])) ∨ (r = none ∧ e = .returned (.tuple #[.string (str []), .int .i64 1]))

set_option maxHeartbeats 1600000 in
theorem print_any (c : Cmd) (v : Value) (w : World) (hv : CmdAt w v c) (hc : Ctx w) (htl : c.text.length ≤ 1000000000) :
    Calls Tryz.prog 6 #[v] w fun e w' => PriR (print c) e ∧ Below w.heap.size w w' := by
  obtain ⟨v1, v2, rfl, hz, hb⟩ := hv
  obtain ⟨a1, c1, rfl, _, _⟩ := hz.len
  obtain ⟨a2, c2, rfl, _, _⟩ := hb.len
  have HZ : Aside (Zat w (.slice a1 c.nums.length c1) c.nums) := hz
  have HB : Aside (Byt w (.slice a2 c.text.length c2) c.text) := hb
  have HC : Aside (Ctx w) := hc
  clear hz hb hc
  have HIt : Aside (∀ (n : Int) (w : World), -9223372036854775808 ≤ n → n ≤ 9223372036854775807 → Ctx w → Calls Tryz.prog 16 #[.int .i64 n] w fun e w' => e = .returned (.string (str (Lib.itoa n))) ∧ Below w.heap.size w w') := fun n w h0 h1 hc => itoa_any n h0 h1 w hc
  have HQu : Aside (∀ (v : Value) (o : Bs) (w : World), Byt w v o → o.length ≤ 1000000000 → Calls Tryz.prog 18 #[v] w fun e w' => e = .returned (.string (str (Go.Sc.quoted o))) ∧ Below w.heap.size w w') := fun v o w h1 h2 => quoted_any v o w h1 h2
  have HAsk : Aside (∀ (l : Bs) (w : World), Calls Tryz.prog 17 #[.string (str l)] w fun e w' => e = .returned (askV (asks l)) ∧ w' = w) := asks_any
  have hmy := fun w h => may_any c.word (.slice a1 c.nums.length c1) c.nums a2 c.text.length c2 w h
  have hmn := may_n c.word c.nums c.text
  obtain ⟨r, hr⟩ : ∃ r, print c = r := ⟨_, rfl⟩
  rw [hr]
  have HR : Aside (print c = r) := hr
  clear hr
  haveI := (Sat.old_self w).i
  have hs0 := (Sat.old_self w).alloc #[.string (str c.word), .slice a1 c.nums.length c1, .slice a2 c.text.length c2] TCm
  cases hm : mayN c.word c.nums c.text.length with
  | false =>
    have HN : Aside (print c = none) := (by unfold print; rw [show may c = false from hmn.trans hm]; rfl : _ = _)
    rw [hm] at hmy
    clear hmn hm
    go_enter Tryz.func6, Tryz.ntmps6
    go_wp2_with fail
    refine (hmy _ (HZ.out.below (Sat.eq hs0 (sep_comm _ _)).old_below)).mono ?_
    rintro e w2 ⟨rfl, hb2⟩
    have hs2 := hs0.below hb2
    go_wp2
    go_ret2
    exact ⟨.inr ⟨HR.out.symm.trans HN.out, rfl⟩, (Sat.eq hs2 (sep_comm _ _)).old_below⟩
  | true =>
    obtain ⟨a, b, t, hq, hn64, hok⟩ := mayN_some hm
    have hwl := word_short hq
    have HN : Aside (print c = some (sofar c c.nums.length ++ (if t then 32 :: Go.Sc.quoted c.text else []))) := (by
      unfold print sofar
      rw [show may c = true from hmn.trans hm, hq, List.take_length]
      cases t <;> rfl : _ = _)
    have HL : Aside (∀ i, (sofar c i).length ≤ c.word.length + 20 * i) := sofar_len c hok
    have HK : Aside (numsOk c.nums = true) := hok
    have hask : ∀ w, Calls Tryz.prog 17 #[.string (str c.word)] w fun e w' => e = .returned (.tuple #[.int .i64 a, .int .i64 b, .bool t, .bool true]) ∧ w' = w := fun w => by
      have h := HAsk.out c.word w
      rw [hq] at h
      exact h
    have HA2 : Aside (∀ w, Calls Tryz.prog 17 #[.string (str c.word)] w fun e w' => e = .returned (.tuple #[.int .i64 a, .int .i64 b, .bool t, .bool true]) ∧ w' = w) := hask
    rw [hm] at hmy
    clear hmn hm hq hok hask
    go_enter Tryz.func6, Tryz.ntmps6
    go_wp2_with fail
    refine (hmy _ (HZ.out.below (Sat.eq hs0 (sep_comm _ _)).old_below)).mono ?_
    rintro e w2 ⟨rfl, hb2⟩
    have hs2 := hs0.below hb2
    haveI := hs2.i
    clear hmy
    go_wp2
    go_loopg [4, 19] c.nums.length (fun g t4 t19 wr => ∃ i : Nat, t19 = .int .i64 i ∧ t4 = .string (str (sofar c i)) ∧ i ≤ c.nums.length ∧ Aside (g = c.nums.length - i) ∧ Sat (block w.heap.size TCm [.string (str c.word), .slice a1 c.nums.length c1, .slice a2 c.text.length c2] * old w) wr)
    case atStart => exact ⟨0, rfl, by simp [sofar], by omega, rfl, hs2⟩
    case round =>
      obtain ⟨i, rfl, rfl, hi, A, hsr⟩ := hrel
      haveI := hsr.i
      clear hs2 hb2
      by_cases hlt : i < c.nums.length
      · have hlt' : (i : Int) < c.nums.length := by omega
        obtain ⟨n, hx⟩ : ∃ x, c.nums[i]? = some x := ⟨c.nums[i], by simp [hlt]⟩
        obtain ⟨b0, o0, rfl, hcell⟩ := HZ.out.at hx
        haveI : OldAt w b0 (o0 + i) (.int .i64 n) := ⟨hcell⟩
        have hb : -999999999999999999 ≤ n ∧ n ≤ 999999999999999999 := by
          have h := HK.out
          unfold numsOk at h
          rw [List.all_eq_true] at h
          have h2 := h n (List.mem_of_getElem? hx)
          simpa using h2
        have hil := itoa_len n hb.1 hb.2
        have HS : Aside (sofar c (i + 1) = sofar c i ++ 32 :: Lib.itoa n) := sofar_next hx
        have hsl := HL.out i
        obtain ⟨s, hs⟩ : ∃ s, sofar c i = s := ⟨_, rfl⟩
        rw [hs] at HS hsl ⊢
        have hsl' : s.length ≤ 2000000000 := by omega
        have i1 : (1 : Int) + (Lib.itoa n).length ≤ 9223372036854775807 := by omega
        have i1n : 1 + (Lib.itoa n).length ≤ 9223372036854775807 := by omega
        have i2n : s.length + ((Lib.itoa n).length + 1) ≤ 9223372036854775807 := by omega
        have i2 : (s.length : Int) + ((Lib.itoa n).length + 1) ≤ 9223372036854775807 := by omega
        have hit := fun w h => HIt.out n w (by omega) (by omega) h
        clear hx hcell hb hs hsl
        go_wp2_with fail
        refine (hit wr (HC.out.below (hsr.take (old w)).old_below)).mono ?_
        rintro e w3 ⟨rfl, hb3⟩
        have hs3 := hsr.below hb3
        haveI := hs3.i
        clear hsr hit
        go_wp2
        go_roundg (c.nums.length - (i + 1))
        case measure => have := A.out; omega
        case rel => exact ⟨i + 1, by go_num, by rw [HS.out], by omega, rfl, satI⟩
      · have hlt' : ¬ (i : Int) < c.nums.length := by omega
        obtain rfl : i = c.nums.length := by omega
        have hsl := HL.out c.nums.length
        obtain ⟨s, hs⟩ : ∃ s, sofar c c.nums.length = s := ⟨_, rfl⟩
        rw [hs] at HN hsl ⊢
        have hsl' : s.length ≤ 2000000000 := by omega
        clear hs hsl
        cases t with
        | false =>
          go_wp2_with fail
          refine (HA2.out _).mono ?_
          rintro e w3 ⟨rfl, rfl⟩
          go_wp2
          go_ret2
          exact ⟨.inl ⟨s, HR.out.symm.trans (HN.out.trans (by simp)), rfl⟩, (Sat.eq hsr (sep_comm _ _)).old_below⟩
        | true =>
          have hqu := HQu.out (.slice a2 c.text.length c2) c.text wr (HB.out.below (hsr.take (old w)).old_below) htl
          have hql : (Go.Sc.quoted c.text).length ≤ 4000000002 := by
            have := flat_len c.text
            unfold Go.Sc.quoted
            simp only [List.length_cons, List.length_append, List.length_nil]
            omega
          obtain ⟨q, hqe⟩ : ∃ q, Go.Sc.quoted c.text = q := ⟨_, rfl⟩
          rw [hqe] at hqu HN hql
          have i1 : (1 : Int) + q.length ≤ 9223372036854775807 := by omega
          have i1n : 1 + q.length ≤ 9223372036854775807 := by omega
          have i2n : s.length + (q.length + 1) ≤ 9223372036854775807 := by omega
          have i2 : (s.length : Int) + (q.length + 1) ≤ 9223372036854775807 := by omega
          clear hqe
          go_wp2_with fail
          refine (HA2.out _).mono ?_
          rintro e w3 ⟨rfl, rfl⟩
          go_wp2_with fail
          refine hqu.mono ?_
          rintro e w4 ⟨rfl, hb4⟩
          have hs4 := hsr.below hb4
          haveI := hs4.i
          go_wp2
          go_ret2
          exact ⟨.inl ⟨s ++ 32 :: q, HR.out.symm.trans (HN.out.trans (by simp)), rfl⟩, (Sat.eq hs4 (sep_comm _ _)).old_below⟩
end Go.Proofs.YtebhnbecjmdicaaGreatDoor

namespace Go.Sc
open Go.Lib
theorem add32r (x : Bs) : str x ++ (⟨#[32]⟩ : ByteArray) = str (x ++ [32]) := str_append x [32]
end Go.Sc
namespace Go.Proofs.YtebhnbecjmdicaaGreatDoor
set_option linter.unusedSimpArgs false
set_option linter.unusedVariables false
open Go.RowKit Go.Sl Go.Sc
attribute [local go_sem] Go.Sl.cell_sat Go.Sl.frozen_sat Go.Sc.str_toList Go.Sc.str_size Go.Sc.str_extract Go.Sc.str_append Go.Sc.add32r Go.Sc.sz32

set_option maxHeartbeats 1600000 in
theorem refPrint_any (c : Cmd) (v : Value) (w : World) (hv : CmdAt w v c) (htl : c.text.length ≤ 1000000000) :
    Calls Tryz.prog 7 #[v] w fun e w' => PriR (print c) e ∧ Below w.heap.size w w' := by
  obtain ⟨v1, v2, rfl, hz, hb⟩ := hv
  obtain ⟨a1, c1, rfl, _, _⟩ := hz.len
  obtain ⟨a2, c2, rfl, _, _⟩ := hb.len
  have HZ : Aside (Zat w (.slice a1 c.nums.length c1) c.nums) := hz
  have HB : Aside (Byt w (.slice a2 c.text.length c2) c.text) := hb
  clear hz hb
  have HIt : Aside (∀ (n : Int) (w : World), -999999999999999999 ≤ n → n ≤ 999999999999999999 → Calls Tryz.prog 19 #[.int .i64 n] w fun e w' => e = .returned (.string (str (Lib.itoa n))) ∧ w' = w) := fun n w h0 h1 => refNum_any n h0 h1 w
  have HQu : Aside (∀ (v : Value) (o : Bs) (w : World), Byt w v o → o.length ≤ 1000000000 → Calls Tryz.prog 21 #[v] w fun e w' => e = .returned (.string (str (Go.Sc.quoted o))) ∧ Below w.heap.size w w') := fun v o w h1 h2 => refQuoted_any v o w h1 h2
  have hmy := fun w h => refMay_any c.word (.slice a1 c.nums.length c1) c.nums a2 c.text.length c2 w h
  have hmn := may_n c.word c.nums c.text
  obtain ⟨r, hr⟩ : ∃ r, print c = r := ⟨_, rfl⟩
  rw [hr]
  have HR : Aside (print c = r) := hr
  clear hr
  haveI := (Sat.old_self w).i
  have hs0 := (Sat.old_self w).alloc #[.string (str c.word), .slice a1 c.nums.length c1, .slice a2 c.text.length c2] TCm
  cases hm : mayN c.word c.nums c.text.length with
  | false =>
    have HN : Aside (print c = none) := (by unfold print; rw [show may c = false from hmn.trans hm]; rfl : _ = _)
    rw [hm] at hmy
    clear hmn hm
    go_enter Tryz.func7, Tryz.ntmps7
    go_wp2_with fail
    refine (hmy _ (HZ.out.below (Sat.eq hs0 (sep_comm _ _)).old_below)).mono ?_
    rintro e w2 ⟨rfl, hb2⟩
    have hs2 := hs0.below hb2
    go_wp2
    go_ret2
    exact ⟨.inr ⟨HR.out.symm.trans HN.out, rfl⟩, (Sat.eq hs2 (sep_comm _ _)).old_below⟩
  | true =>
    obtain ⟨a, b, t, hq, hn64, hok⟩ := mayN_some hm
    have hwl := word_short hq
    have HN : Aside (print c = some (sofar c c.nums.length ++ (if t then 32 :: Go.Sc.quoted c.text else []))) := (by
      unfold print sofar
      rw [show may c = true from hmn.trans hm, hq, List.take_length]
      cases t <;> rfl : _ = _)
    have HL : Aside (∀ i, (sofar c i).length ≤ c.word.length + 20 * i) := sofar_len c hok
    have HK : Aside (numsOk c.nums = true) := hok
    have hask : ∀ w, Calls Tryz.prog 20 #[.string (str c.word)] w fun e w' => e = .returned (.tuple #[.int .i64 a, .int .i64 b, .bool t]) ∧ Below w.heap.size w w' := fun w => by
      have h := refAsks_any c.word w
      rw [hq] at h
      exact h
    have HA2 : Aside (∀ w, Calls Tryz.prog 20 #[.string (str c.word)] w fun e w' => e = .returned (.tuple #[.int .i64 a, .int .i64 b, .bool t]) ∧ Below w.heap.size w w') := hask
    rw [hm] at hmy
    clear hmn hm hq hok hask
    go_enter Tryz.func7, Tryz.ntmps7
    go_wp2_with fail
    refine (hmy _ (HZ.out.below (Sat.eq hs0 (sep_comm _ _)).old_below)).mono ?_
    rintro e w2 ⟨rfl, hb2⟩
    have hs2 := hs0.below hb2
    haveI := hs2.i
    clear hmy
    go_wp2
    go_loopg [4, 5] c.nums.length (fun g t4 t5 wr => ∃ i : Nat, t5 = .int .i64 i ∧ t4 = .string (str (sofar c i)) ∧ i ≤ c.nums.length ∧ Aside (g = c.nums.length - i) ∧ Sat (block w.heap.size TCm [.string (str c.word), .slice a1 c.nums.length c1, .slice a2 c.text.length c2] * old w) wr)
    case atStart => exact ⟨0, rfl, by simp [sofar], by omega, rfl, hs2⟩
    case round =>
      obtain ⟨i, rfl, rfl, hi, A, hsr⟩ := hrel
      haveI := hsr.i
      clear hs2 hb2
      by_cases hlt : i < c.nums.length
      · have hlt' : (i : Int) < c.nums.length := by omega
        obtain ⟨n, hx⟩ : ∃ x, c.nums[i]? = some x := ⟨c.nums[i], by simp [hlt]⟩
        obtain ⟨b0, o0, rfl, hcell⟩ := HZ.out.at hx
        haveI : OldAt w b0 (o0 + i) (.int .i64 n) := ⟨hcell⟩
        have hb : -999999999999999999 ≤ n ∧ n ≤ 999999999999999999 := by
          have h := HK.out
          unfold numsOk at h
          rw [List.all_eq_true] at h
          have h2 := h n (List.mem_of_getElem? hx)
          simpa using h2
        have hil := itoa_len n hb.1 hb.2
        have HS : Aside (sofar c (i + 1) = sofar c i ++ 32 :: Lib.itoa n) := sofar_next hx
        have hsl := HL.out i
        obtain ⟨s, hs⟩ : ∃ s, sofar c i = s := ⟨_, rfl⟩
        rw [hs] at HS hsl ⊢
        have hsl' : s.length ≤ 2000000000 := by omega
        have i1 : (s.length : Int) + 1 ≤ 9223372036854775807 := by omega
        have i1n : s.length + 1 ≤ 9223372036854775807 := by omega
        have i2n : s.length + 1 + (Lib.itoa n).length ≤ 9223372036854775807 := by omega
        have i2 : (s.length : Int) + 1 + (Lib.itoa n).length ≤ 9223372036854775807 := by omega
        have hit := HIt.out n wr hb.1 hb.2
        clear hx hcell hb hs hsl
        go_wp2_with fail
        refine hit.mono ?_
        rintro e w3 ⟨rfl, rfl⟩
        go_wp2
        go_roundg (c.nums.length - (i + 1))
        case measure => have := A.out; omega
        case rel => exact ⟨i + 1, by go_num, by first | (rw [HS.out]; done) | (rw [HS.out]; simp), by omega, rfl, satI⟩
      · have hlt' : ¬ (i : Int) < c.nums.length := by omega
        obtain rfl : i = c.nums.length := by omega
        have hsl := HL.out c.nums.length
        obtain ⟨s, hs⟩ : ∃ s, sofar c c.nums.length = s := ⟨_, rfl⟩
        rw [hs] at HN hsl ⊢
        have hsl' : s.length ≤ 2000000000 := by omega
        clear hs hsl
        cases t with
        | false =>
          go_wp2_with fail
          refine (HA2.out _).mono ?_
          rintro e w3 ⟨rfl, hb3⟩
          have hs3 := hsr.below hb3
          haveI := hs3.i
          go_wp2
          go_ret2
          exact ⟨.inl ⟨s, HR.out.symm.trans (HN.out.trans (by simp)), rfl⟩, (Sat.eq hs3 (sep_comm _ _)).old_below⟩
        | true =>
          have hql : (Go.Sc.quoted c.text).length ≤ 4000000002 := by
            have := flat_len c.text
            unfold Go.Sc.quoted
            simp only [List.length_cons, List.length_append, List.length_nil]
            omega
          obtain ⟨q, hqe⟩ : ∃ q, Go.Sc.quoted c.text = q := ⟨_, rfl⟩
          have HQ : Aside (Go.Sc.quoted c.text = q) := hqe
          rw [hqe] at HN hql
          have i1 : (s.length : Int) + 1 ≤ 9223372036854775807 := by omega
          have i1n : s.length + 1 ≤ 9223372036854775807 := by omega
          have i2n : s.length + 1 + q.length ≤ 9223372036854775807 := by omega
          have i2 : (s.length : Int) + 1 + q.length ≤ 9223372036854775807 := by omega
          clear hqe
          go_wp2_with fail
          refine (HA2.out _).mono ?_
          rintro e w3 ⟨rfl, hb3⟩
          have hs3 := hsr.below hb3
          haveI := hs3.i
          have hqu := HQu.out (.slice a2 c.text.length c2) c.text w3 (HB.out.below (hs3.take (old w)).old_below) htl
          rw [HQ.out] at hqu
          go_wp2_with fail
          refine hqu.mono ?_
          rintro e w4 ⟨rfl, hb4⟩
          have hs4 := hs3.below hb4
          haveI := hs4.i
          go_wp2
          go_ret2
          exact ⟨.inl ⟨s ++ 32 :: q, HR.out.symm.trans (HN.out.trans (by simp)), by simp⟩, (Sat.eq hs4 (sep_comm _ _)).old_below⟩
end Go.Proofs.YtebhnbecjmdicaaGreatDoor
