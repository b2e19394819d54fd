/-
  Walks: strconv.ParseUint of two letters; script.escaped.
  Walk: script.unquoted.
-/
import Derived.Test.YtebhnbecjmdicaaGreatDoorScE
import Derived.Deep.RegionHeld3
import Derived.Deep.RegionLaw
import Derived.Deep.DeepCutAuto
import Derived.Outline
namespace Go.Proofs.YtebhnbecjmdicaaGreatDoor
set_option linter.unusedSimpArgs false
set_option linter.unusedVariables false
open Go.RowKit Go.Sl Go.Sc
attribute [local go_sem] Go.Sl.cell_sat Go.Sl.frozen_sat Go.Sc.str_toList Go.Sc.str_size Go.Sc.str_extract

theorem pu_any (bs : Bs) (hlen : bs.length = 2) (w : World) (hc : Ctx w) :
    Calls Tryz.prog 54 #[.string (str bs), .int .i64 16, .int .i64 8] w fun e w' => (∃ (n : Nat) (v : Value), e = .returned (.tuple #[.int .u64 n, v]) ∧ (hexL 0 bs = some n ∧ v = .nilIface ∨ hexL 0 bs = none ∧ ∃ t p, v = .iface t p)) ∧ Below w.heap.size w w' := by
  have hi := ipu_any bs hlen w
  obtain ⟨te, pe, hes⟩ := hc.es
  cases hq : hexL 0 bs with
  | some n =>
    rw [hq] at hi
    have hi' : Calls Tryz.prog 102 #[.string (str bs), .int .i64 16, .int .i64 8] w fun e w' => e = .returned (.tuple #[.int .u64 n, .nilIface]) ∧ Below w.heap.size w w' := hi
    clear hi hes hq
    go_enter Tryz.func54, Tryz.ntmps54
    go_wp2_with fail
    refine hi'.mono ?_
    rintro e w1 ⟨rfl, hb⟩
    go_wp2
    go_ret2
    exact ⟨⟨n, _, rfl, .inl ⟨rfl, rfl⟩⟩, hb⟩
  | none =>
    rw [hq] at hi
    have hi' : Calls Tryz.prog 102 #[.string (str bs), .int .i64 16, .int .i64 8] w fun e w' => e = .returned (.tuple #[.int .u64 0, .iface 152 (.int .i64 2)]) ∧ Below w.heap.size w w' := hi
    have HT : Aside (∀ w1, Below w.heap.size w w1 → Calls Tryz.prog 53 #[.string ⟨#[80, 97, 114, 115, 101, 85, 105, 110, 116]⟩, .string (str bs), .int .i64 16, .int .i64 8, .iface 152 (.int .i64 2)] w1 fun e w' => (∃ t p, e = .returned (.iface t p)) ∧ Below w1.heap.size w1 w') := fun w1 hb => by
      refine (Any.strconv_toError_syntax Tryz.laysC245 ⟨#[80, 97, 114, 115, 101, 85, 105, 110, 116]⟩ (str bs) 16 8 _ w1 (by rw [str_size]; omega) (show w1.cell? ⟨2, 0, none⟩ = _ by rw [hb.cell (World.block_lt_of_cell? w _ hes)]; exact hes) (.inr ⟨te, pe, rfl⟩)).mono ?_
      rintro e w' ⟨N, rfl, _, _, hb2⟩
      exact ⟨⟨_, _, rfl⟩, hb2⟩
    clear hi hes hq
    go_enter Tryz.func54, Tryz.ntmps54
    go_wp2_with fail
    refine hi'.mono ?_
    rintro e w1 ⟨rfl, hb⟩
    go_wp2_with fail
    refine (HT.out w1 hb).mono ?_
    rintro e w2 ⟨⟨t, p, rfl⟩, hb2⟩
    go_wp2
    go_ret2
    exact ⟨⟨0, _, rfl, .inr ⟨by simp, t, p, rfl⟩⟩, hb.trans (hb2.mono hb.size)⟩

def escV : Option (UInt8 × Nat) → Value
  | some (x, n) => .tuple #[.int .u8 x.toNat, .int .i64 n]
  | none => .tuple #[.int .u8 0, .int .i64 0]
theorem hexL_two (a b : UInt8) : hexL 0 [a, b] = (match hexV a, hexV b with
    | some x, some y => some (16 * x + y)
    | _, _ => none) := by
  unfold hexL
  cases ha : hexV a with
  | none => rfl
  | some x =>
    simp only
    unfold hexL
    cases hb : hexV b with
    | none => rfl
    | some y =>
      show some ((0 * 16 + x) * 16 + y) = some (16 * x + y)
      congr 1
      omega
theorem hexV_lt {c : UInt8} {n : Nat} (h : hexV c = some n) : n < 16 := by
  have := (by decide +kernel : ∀ c : Fin 256, (hexV (UInt8.ofNat c.val)).getD 0 < 16) ⟨c.toNat, c.toNat_lt⟩
  simp only [of8, h] at this
  exact this

set_option maxHeartbeats 1600000 in
theorem escaped_any (l : Bs) (h92 : l.head? = some 92) (hmax : l.length ≤ 9223372036854775807) (w : World) (hc : Ctx w) :
    Calls Tryz.prog 37 #[.string (str l)] w fun e w' => e = .returned (escV (escP l)) ∧ Below w.heap.size w w' := by
  obtain ⟨r, hr⟩ : ∃ r, escP l = r := ⟨_, rfl⟩
  rw [hr]
  unfold escP at hr
  rw [if_pos h92] at hr
  by_cases h2 : 2 ≤ l.length
  · obtain ⟨y, hy⟩ : ∃ y, l[1]? = some y := ⟨l[1], by simp [h2]⟩
    have hg1 : l.getD 1 0 = y := by simp [List.getD, hy]
    rw [hg1] at hr
    haveI : StrAt l 1 y := ⟨by omega, hy⟩
    have hix := fun w => run_index_str (P := Tryz.prog) w 9 l .i64 1 y Tryz.underlying9
    have h2' : (2 : Int) ≤ l.length := by omega
    by_cases y1 : y = 110
    · rw [if_pos ⟨h2, y1⟩] at hr
      subst hr
      have y1' : (y.toNat : Int) = 110 := by rw [y1]; rfl
      clear hg1 hy y1
      go_enter Tryz.func37, Tryz.ntmps37
      go_wp2
      go_ret2
      exact ⟨rfl, Below.refl _ _⟩
    · rw [if_neg (fun h => y1 h.2)] at hr
      have b1 : ((y.toNat : Int) == 110) = false := by
        simp only [beq_eq_false_iff_ne, ne_eq]
        intro h
        exact y1 (UInt8.toNat_inj.mp (by simpa using (by omega : y.toNat = 110)))
      by_cases y2 : y = 120
      · rw [if_neg (fun h => h.2 y2)] at hr
        have y2' : (y.toNat : Int) = 120 := by rw [y2]; rfl
        by_cases h4 : 4 ≤ l.length
        · rw [if_pos h4] at hr
          have h4' : (4 : Int) ≤ l.length := by omega
          obtain ⟨a, ha⟩ : ∃ a, l[2]? = some a := ⟨l[2], by simp [h4]⟩
          obtain ⟨b, hb⟩ : ∃ b, l[3]? = some b := ⟨l[3], by simp [h4]⟩
          have e2 : (l.drop 2).take 2 = [a, b] := by
            apply List.ext_getElem?
            intro i
            match i with
            | 0 => simpa using ha
            | 1 => simpa using hb
            | i + 2 => simp; omega
          have hga : l.getD 2 0 = a := by simp [List.getD, ha]
          have hgb : l.getD 3 0 = b := by simp [List.getD, hb]
          rw [hga, hgb] at hr
          have hp := pu_any ((l.drop 2).take 2) (by rw [e2]; rfl) w hc
          rw [e2, hexL_two] at hp
          have HR : Aside ((match hexV a, hexV b with
            | some a, some b => some (UInt8.ofNat (16 * a + b), 4)
            | _, _ => none) = r) := hr
          have HP : Aside (Calls Tryz.prog 54 #[.string (str [a, b]), .int .i64 16, .int .i64 8] w fun e w' => (∃ (n : Nat) (v : Value), e = .returned (.tuple #[.int .u64 n, v]) ∧ ((match hexV a, hexV b with
            | some x, some y => some (16 * x + y)
            | _, _ => none) = some n ∧ v = .nilIface ∨ (match hexV a, hexV b with
            | some x, some y => some (16 * x + y)
            | _, _ => none) = none ∧ ∃ t p, v = .iface t p)) ∧ Below w.heap.size w w') := hp
          clear hr hp hga hgb ha hb hg1 hy y1 y2
          go_enter Tryz.func37, Tryz.ntmps37
          go_wp2_with fail
          refine HP.out.mono ?_
          rintro e w1 ⟨⟨n, v, rfl, hn⟩, hb⟩
          rcases hn with ⟨hn, rfl⟩ | ⟨hn, t, p, rfl⟩
          · have HN : Aside (n < 256 ∧ escV r = .tuple #[.int .u8 n, .int .i64 4]) := (by
              have h := HR.out
              cases qa : hexV a with
              | none => rw [qa] at hn; cases hn
              | some x =>
                cases qb : hexV b with
                | none => rw [qa, qb] at hn; cases hn
                | some y =>
                  rw [qa, qb] at hn h
                  have h1 := hexV_lt qa
                  have h2 := hexV_lt qb
                  cases hn
                  subst h
                  refine ⟨by omega, ?_⟩
                  show Value.tuple #[.int .u8 ((UInt8.ofNat (16 * x + y)).toNat : Nat), .int .i64 4] = _
                  have : (UInt8.ofNat (16 * x + y)).toNat = 16 * x + y := by simp [UInt8.toNat_ofNat']; omega
                  rw [this] : _ ∧ _)
            have hn8 : (n : Int) < 256 := by have := HN.out.1; omega
            clear hn
            go_wp2
            go_ret2
            exact ⟨by rw [HN.out.2]; rfl, hb⟩
          · have HN : Aside (escV r = .tuple #[.int .u8 0, .int .i64 0]) := (by
              have h := HR.out
              cases qa : hexV a with
              | none => rw [qa] at h; subst h; rfl
              | some x =>
                cases qb : hexV b with
                | none => rw [qa, qb] at h; subst h; rfl
                | some y => exact absurd hn (by rw [qa, qb]; simp) : _ = _)
            clear hn
            go_wp2
            go_ret2
            exact ⟨by rw [HN.out]; rfl, hb⟩
        · rw [if_neg h4] at hr
          subst hr
          have h4' : ¬ (4 : Int) ≤ l.length := by omega
          clear hg1 hy y1 y2
          go_enter Tryz.func37, Tryz.ntmps37
          go_wp2
          go_ret2
          exact ⟨rfl, Below.refl _ _⟩
      · rw [if_pos ⟨h2, y2⟩] at hr
        subst hr
        have b2 : ((y.toNat : Int) == 120) = false := by
          simp only [beq_eq_false_iff_ne, ne_eq]
          intro h
          exact y2 (UInt8.toNat_inj.mp (by simpa using (by omega : y.toNat = 120)))
        clear hg1 hy y1 y2
        go_enter Tryz.func37, Tryz.ntmps37
        go_wp2
        go_ret2
        exact ⟨rfl, Below.refl _ _⟩
  · rw [if_neg (fun h => h2 h.1), if_neg (fun h => h2 h.1), if_neg (by omega)] at hr
    subst hr
    have h2' : ¬ (2 : Int) ≤ l.length := by omega
    have h4' : ¬ (4 : Int) ≤ l.length := by omega
    go_enter Tryz.func37, Tryz.ntmps37
    go_wp2
    go_ret2
    exact ⟨rfl, Below.refl _ _⟩
end Go.Proofs.YtebhnbecjmdicaaGreatDoor

namespace Go.Sc
theorem escP_le {l : Bs} {x : UInt8} {n : Nat} (hl : l ≠ []) (h : escP l = some (x, n)) : 1 ≤ n ∧ n ≤ l.length := by
  have h1 : 1 ≤ l.length := List.length_pos_iff.mpr hl
  unfold escP at h
  split at h
  · split at h
    · rename_i hc
      cases h
      exact ⟨by omega, hc.1⟩
    · split at h
      · rename_i hc
        cases h
        exact ⟨by omega, hc.1⟩
      · split at h
        · rename_i hc
          split at h
          · cases h
            exact ⟨by omega, hc⟩
          · cases h
        · cases h
  · cases h
    exact ⟨by omega, h1⟩
theorem dec_fuel {esc : Bs → Option (UInt8 × Nat)} (hp : ∀ l x n, l ≠ [] → esc l = some (x, n) → 1 ≤ n ∧ n ≤ l.length) : ∀ (k : Nat) (l : Bs), l.length ≤ k → dec esc k l = dec esc l.length l := by
  intro k
  induction k using Nat.strongRecOn with
  | _ k ih =>
    intro l hl
    cases hk : k with
    | zero =>
      have : l = [] := List.eq_nil_of_length_eq_zero (by omega)
      subst this
      rfl
    | succ k' =>
      cases hm : l with
      | nil => rfl
      | cons a t =>
        rw [← hm]
        have hne : l ≠ [] := by rw [hm]; simp
        have hlen : l.length = t.length + 1 := by rw [hm]; rfl
        rw [hlen]
        unfold dec
        rw [if_neg hne, if_neg hne]
        cases he : esc l with
        | none => rfl
        | some y =>
          obtain ⟨x, n⟩ := y
          obtain ⟨h1, h2⟩ := hp l x n hne he
          simp only
          have hd : (l.drop n).length ≤ t.length := by rw [List.length_drop]; omega
          rw [ih k' (by omega) (l.drop n) (by omega), ih t.length (by omega) (l.drop n) hd]
def Dd (esc : Bs → Option (UInt8 × Nat)) (l : Bs) : Option Bs := dec esc l.length l
theorem Dd_nil (esc : Bs → Option (UInt8 × Nat)) : Dd esc [] = some [] := rfl
theorem Dd_step {esc : Bs → Option (UInt8 × Nat)} (hp : ∀ l x n, l ≠ [] → esc l = some (x, n) → 1 ≤ n ∧ n ≤ l.length) {l : Bs} (hl : l ≠ []) : Dd esc l = match esc l with
    | none => none
    | some (x, n) => (Dd esc (l.drop n)).map (x :: ·) := by
  unfold Dd
  cases hm : l with
  | nil => exact absurd hm hl
  | cons a t =>
    rw [← hm]
    have hlen : l.length = t.length + 1 := by rw [hm]; rfl
    rw [hlen]
    conv => lhs; unfold dec
    rw [if_neg hl]
    cases he : esc l with
    | none => rfl
    | some y =>
      obtain ⟨x, n⟩ := y
      obtain ⟨h1, h2⟩ := hp l x n hl he
      simp only
      rw [dec_fuel hp t.length (l.drop n) (by rw [List.length_drop]; omega)]
theorem map_next (D : Option Bs) (done : Bs) (y : UInt8) : (D.map (y :: ·)).map (done ++ ·) = D.map ((done ++ [y]) ++ ·) := by cases D <;> simp
theorem unq_eq (esc : Bs → Option (UInt8 × Nat)) (s : Bs) : unqBy esc s = if s.length < 2 ∨ s.head? ≠ some 34 ∨ s.getLast? ≠ some 34 then none else match Dd esc (mid s) with
    | none => none
    | some o => if quoted o = s then some o else none := rfl
end Go.Sc
namespace Go.Proofs.YtebhnbecjmdicaaGreatDoor
set_option linter.unusedSimpArgs false
set_option linter.unusedVariables false
open Go.RowKit Go.Sl Go.Sc
attribute [local go_sem] Go.Sl.cell_sat Go.Sl.frozen_sat Go.Sc.str_toList Go.Sc.str_size Go.Sc.str_extract
abbrev TBy : TypeId := 5
theorem elemBy : ∃ i, ElemOk Tryz.prog 23 TBy 1 1 i (.int .u8 0) := elemOk Tryz.underlying23 (by kernel_rfl) rfl (by omega)

def UnqR (r : Option Bs) (w : World) (e : Ending) (w' : World) : Prop := ∃ a n c ok, e = .returned (.tuple #[.slice a n c, .bool ok]) ∧ ((∃ o, r = some o ∧ ok = true ∧ Sat (rw TBy 1 (.slice a n c) (bys o) * old w) w') ∨ (r = none ∧ ok = false))
theorem unqR_no {r : Option Bs} (h : r = none) (a : Option Addr) (n c : Nat) (w w' : World) : UnqR r w (.returned (.tuple #[.slice a n c, .bool false])) w' := ⟨a, n, c, false, rfl, .inr ⟨h, rfl⟩⟩

set_option maxHeartbeats 1600000 in
theorem unquoted_any (s : Bs) (hmax : s.length ≤ 1000000000) (w : World) (hc : Ctx w) :
    Calls Tryz.prog 26 #[.string (str s)] w fun e w' => UnqR (unqBy escP s) w e w' ∧ Below w.heap.size w w' := by
  have hno : s.length < 2 ∨ s.head? ≠ some 34 ∨ s.getLast? ≠ some 34 → unqBy escP s = none := fun h => by rw [unq_eq, if_pos h]
  by_cases h2 : s.length < 2
  · have h2' : (s.length : Int) < 2 := by omega
    have hn : Aside (unqBy escP s = none) := hno (.inl h2)
    clear hno
    go_enter Tryz.func26, Tryz.ntmps26
    go_wp2
    go_ret2
    exact ⟨unqR_no hn.out _ _ _ _ _, Below.refl _ _⟩
  · have h2' : ¬ (s.length : Int) < 2 := by omega
    obtain ⟨x0, hx0⟩ : ∃ x, s[0]? = some x := ⟨s[0], by simp⟩
    obtain ⟨y0, hy0⟩ : ∃ y, s[s.length - 1]? = some y := ⟨s[s.length - 1], by simp⟩
    have hh : s.head? = some x0 := by rw [List.head?_eq_getElem?]; exact hx0
    have hg : s.getLast? = some y0 := by rw [List.getLast?_eq_getElem?]; exact hy0
    have hix := run_index_str (P := Tryz.prog) (h := Tryz.underlying9) (hx := (⟨by omega, hx0⟩ : StrAt s 0 x0)) (t := 9) (k := .i64)
    have hiy := run_index_str (P := Tryz.prog) (h := Tryz.underlying9) (hx := (⟨by omega, by rw [show ((s.length : Int) - 1).toNat = s.length - 1 by omega]; exact hy0⟩ : StrAt s ((s.length : Int) - 1) y0)) (t := 9) (k := .i64)
    by_cases q1 : x0 = 34
    · have q1' : (x0.toNat : Int) = 34 := by rw [q1]; rfl
      by_cases q2 : y0 = 34
      · have q2' : (y0.toNat : Int) = 34 := by rw [q2]; rfl
        have hm : (List.take (s.length - 1 - 1) (List.drop 1 s)) = mid s := by unfold mid; rw [Nat.sub_sub]
        have HM : Aside (mid s = List.take (s.length - 1 - 1) (List.drop 1 s) ∧ (mid s).length ≤ s.length ∧ ∀ o, Dd escP (mid s) = o → unqBy escP s = (match o with
          | none => none
          | some o => if Go.Sc.quoted o = s then some o else none)) := by
          refine ⟨hm.symm, by unfold mid; simp; omega, fun o ho => ?_⟩
          rw [unq_eq, if_neg (by rw [hh, hg, q1, q2]; simp; omega), ho]
        clear hno hm hh hg hx0 hy0 q1 q2
        have HE : Aside (∀ (l : Bs) (w : World), l.head? = some 92 → l.length ≤ 1000000000 → Ctx w → Calls Tryz.prog 37 #[.string (str l)] w fun e w' => e = .returned (escV (escP l)) ∧ Below w.heap.size w w') := fun l w h1 h2 h3 => escaped_any l h1 (by omega) w h3
        have HC : Aside (Ctx w) := hc
        clear hc
        obtain ⟨i0, E⟩ := elemBy
        have hs0 : Sat (rw TBy 1 (.slice none 0 0) (bys []) * old w) w := Sat.rw_nil (Sat.old_self w)
        haveI := hs0.i
        go_enter Tryz.func26, Tryz.ntmps26
        go_wp2
        go_loopg [4, 5] (List.take (s.length - 1 - 1) (List.tail s)).length (fun g t4 t5 wr => ∃ (rest done : Bs) (a : Option Addr) (c : Nat), t4 = .slice a done.length c ∧ t5 = .string (str rest) ∧ Aside (g = rest.length ∧ Dd escP (mid s) = (Dd escP rest).map (done ++ ·) ∧ done.length + rest.length ≤ s.length) ∧ Sat (rw TBy 1 (.slice a done.length c) (bys done) * old w) wr)
        case atStart =>
          refine ⟨List.take (s.length - 1 - 1) (List.tail s), [], none, 0, rfl, rfl, ⟨rfl, ?_, ?_⟩, satI⟩
          · have h := HM.out.1
            rw [List.drop_one] at h
            rw [← h]
            cases Dd escP (mid s) <;> simp
          · have h := HM.out
            rw [List.drop_one] at h
            rw [← h.1]
            simpa using h.2.1
        case round =>
          obtain ⟨rest, done, a, c, rfl, rfl, A, hsr⟩ := hrel
          haveI := hsr.i
          by_cases hr : rest = []
          · subst hr
            have HD : Aside (Dd escP (mid s) = some done) := (by rw [A.out.2.1, Dd_nil]; simp : _ = _)
            have hq := quoted_any (.slice a done.length c) done wr (Byt.rw hsr) (by have := A.out.2.2; omega)
            go_wp2_with fail
            refine hq.mono ?_
            rintro e w3 ⟨rfl, hb3⟩
            go_wp2
            go_ret2
            refine ⟨?_, (hsr.take (old w)).old_below.trans (hb3.mono (hsr.take (old w)).old_below.size)⟩
            have h := HM.out.2.2 _ HD.out
            simp only at h
            by_cases hq : Go.Sc.quoted done = s
            · rw [if_pos hq] at h
              exact ⟨a, done.length, c, true, by simp [hq], .inl ⟨done, h, rfl, hsr.below hb3⟩⟩
            · rw [if_neg hq] at h
              exact ⟨a, done.length, c, false, by simp [hq], .inr ⟨h, rfl⟩⟩
          · have hl1 : 1 ≤ rest.length := List.length_pos_iff.mpr hr
            obtain ⟨x, hx⟩ : ∃ x, rest[0]? = some x := ⟨rest[0], by simp⟩
            haveI : StrAt rest 0 x := ⟨by omega, hx⟩
            have hix := run_index_str (P := Tryz.prog) (h := Tryz.underlying9) (hx := (⟨by omega, hx⟩ : StrAt rest 0 x)) (t := 9) (k := .i64)
            have bne : (rest == []) = false := by simpa using hr
            have hhead : rest.head? = some x := by rw [List.head?_eq_getElem?]; exact hx
            have hst := Dd_step (esc := escP) (fun l x n h1 h2 => escP_le h1 h2) hr
            by_cases hx92 : x = 92
            · have x92' : (x.toNat : Int) = 92 := by rw [hx92]; rfl
              rw [hx92] at hhead
              have hesc := HE.out rest wr hhead (by have := A.out.2.2; omega) (HC.out.below (hsr.take (old w)).old_below)
              cases hes : escP rest with
              | none =>
                rw [hes] at hesc hst
                have HN : Aside (unqBy escP s = none) := (by
                  have h := HM.out.2.2 none (by rw [A.out.2.1, hst]; rfl)
                  exact h : _ = _)
                clear hst hes hhead hx hx92
                go_wp2_with fail
                refine hesc.mono ?_
                unfold escV
                rintro e w2 ⟨rfl, hb2⟩
                go_wp2
                go_ret2
                exact ⟨unqR_no HN.out _ _ _ _ _, (hsr.take (old w)).old_below.trans (hb2.mono (hsr.take (old w)).old_below.size)⟩
              | some yn =>
                obtain ⟨y, n⟩ := yn
                obtain ⟨n1, n2⟩ := escP_le hr hes
                rw [hes] at hesc hst
                have hesc' : Calls Tryz.prog 37 #[.string (str rest)] wr fun e w' => e = .returned (.tuple #[.int .u8 y.toNat, .int .i64 n]) ∧ Below wr.heap.size wr w' := hesc
                have HN : Aside (Dd escP (mid s) = (Dd escP (rest.drop n)).map ((done ++ [y]) ++ ·)) := (by
                  rw [A.out.2.1, hst]
                  exact map_next _ _ _ : _ = _)
                have bn : ((n : Int) == 0) = false := by simp; omega
                have n2' : (n : Int) ≤ rest.length := by omega
                have n0' : ¬ (n : Int) = 0 := by omega
                have hT : List.take (rest.length - n) (List.drop n rest) = List.drop n rest := List.take_of_length_le (by rw [List.length_drop]; exact Nat.le_refl _)
                have hdl : done.length ≤ 1000000000 := by have := A.out.2.2; omega
                clear hst hes hhead hx hx92 hesc
                go_wp2_with fail
                refine hesc'.mono ?_
                rintro e w2 ⟨rfl, hb2⟩
                have hs2 := hsr.below hb2
                haveI := hs2.i
                clear hesc' hsr
                go_upto_region 11 with (fail)
                go_region_law first
                  | (refine step_append_sl E rfl (.tmp 42) (.tmp 44) rfl rfl rfl (takeI (rw TBy 1 (.slice a done.length c) (bys done))) (Src.one_new (b := w2.heap.size) (e := TBy) (v := .int .u8 y.toNat) (takeI (Sl.block w2.heap.size TBy [.int .u8 y.toNat])) rfl) (by unfold maxLen; omega) (by omega) ?_; intro a2 c2 w3 hs3 hnn; clear hnn; haveI := hs3.i)
                all_goals
                  go_wp2
                  go_roundg (rest.length - n)
                  case measure => have := A.out.1; omega
                  case rel => exact ⟨rest.drop n, done ++ [y], a2, c2, by simp, (by first | rfl | rw [List.drop_one]), ⟨by rw [List.length_drop], HN.out, by rw [List.length_append, List.length_drop]; have := A.out.2.2; simp; omega⟩, satI_weak (C := Sl.block w2.heap.size TBy [.int .u8 y.toNat]) (by rw [bys_append, List.length_append]; show _ = rw TBy 1 (.slice a2 (done.length + 1) c2) (bys done ++ [.int .u8 y.toNat]) * _ * _; ac_rfl)⟩
            · have b92 : ((x.toNat : Int) == 92) = false := by
                simp only [beq_eq_false_iff_ne, ne_eq]
                intro h
                exact hx92 (UInt8.toNat_inj.mp (by simpa using (by omega : x.toNat = 92)))
              have hes : escP rest = some (x, 1) := by
                unfold escP
                rw [if_neg (by rw [hhead]; intro h; cases h; exact hx92 rfl)]
                simp [List.getD, hx]
              rw [hes] at hst
              have HN : Aside (Dd escP (mid s) = (Dd escP (rest.drop 1)).map ((done ++ [x]) ++ ·)) := (by
                rw [A.out.2.1, hst]
                exact map_next _ _ _ : _ = _)
              have n2' : (1 : Int) ≤ rest.length := by omega
              have hT : List.take (rest.length - 1) (List.drop 1 rest) = List.drop 1 rest := List.take_of_length_le (by rw [List.length_drop]; exact Nat.le_refl _)
              have hT2 : List.take (rest.length - 1) (List.tail rest) = List.drop 1 rest := by rw [← List.drop_one]; exact hT
              have hdl : done.length ≤ 1000000000 := by have := A.out.2.2; omega
              clear hst hes hhead hx hx92
              go_upto_region 11 with (fail)
              go_region_law first
                | (refine step_append_sl E rfl (.tmp 42) (.tmp 44) rfl rfl rfl (takeI (rw TBy 1 (.slice a done.length c) (bys done))) (Src.one_new (b := wr.heap.size) (e := TBy) (v := .int .u8 x.toNat) (takeI (Sl.block wr.heap.size TBy [.int .u8 x.toNat])) rfl) (by unfold maxLen; omega) (by omega) ?_; intro a2 c2 w3 hs3 hnn; clear hnn; haveI := hs3.i)
              all_goals
                go_wp2
                go_roundg (rest.length - 1)
                case measure => have := A.out.1; omega
                case rel => exact ⟨rest.drop 1, done ++ [x], a2, c2, by simp, (by first | rfl | rw [List.drop_one]), ⟨by rw [List.length_drop], HN.out, by rw [List.length_append, List.length_drop]; have := A.out.2.2; simp; omega⟩, satI_weak (C := Sl.block wr.heap.size TBy [.int .u8 x.toNat]) (by rw [bys_append, List.length_append]; show _ = rw TBy 1 (.slice a2 (done.length + 1) c2) (bys done ++ [.int .u8 x.toNat]) * _ * _; ac_rfl)⟩
      · have b2 : ((y0.toNat : Int) == 34) = false := by
          simp only [beq_eq_false_iff_ne, ne_eq]
          intro h
          exact q2 (UInt8.toNat_inj.mp (by simpa using (by omega : y0.toNat = 34)))
        have hn : Aside (unqBy escP s = none) := hno (.inr (.inr (by rw [hg]; intro h; cases h; exact q2 rfl)))
        clear hno
        go_enter Tryz.func26, Tryz.ntmps26
        go_wp2
        go_ret2
        exact ⟨unqR_no hn.out _ _ _ _ _, Below.refl _ _⟩
    · have b1 : ((x0.toNat : Int) == 34) = false := by
        simp only [beq_eq_false_iff_ne, ne_eq]
        intro h
        exact q1 (UInt8.toNat_inj.mp (by simpa using (by omega : x0.toNat = 34)))
      have hn : Aside (unqBy escP s = none) := hno (.inr (.inl (by rw [hh]; intro h; cases h; exact q1 rfl)))
      clear hno
      go_enter Tryz.func26, Tryz.ntmps26
      go_wp2
      go_ret2
      exact ⟨unqR_no hn.out _ _ _ _ _, Below.refl _ _⟩
end Go.Proofs.YtebhnbecjmdicaaGreatDoor
