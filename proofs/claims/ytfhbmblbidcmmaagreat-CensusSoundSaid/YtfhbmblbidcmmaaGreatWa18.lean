/-
  Versions are found sound just if they are in the words of the document. No condition. (part 18)
-/
import Derived.Test.YtfhbmblbidcmmaaGreatWa17
import Derived.Test.YtfhbmblbidcmmaaGreatWa14
import Derived.Laws.MakeOwn
import Derived.Deep.DeepCutAuto
import Derived.IntWalk
import Derived.Test.YtfhbmblbidcmmaaGreatWa15
import Derived.Deep.DrawnRows
import Derived.Deep.RegionHeld3
set_option linter.unusedSimpArgs false
set_option linter.unusedVariables false
namespace Go.Proofs.YtfhbmblbidcmmaaGreat
set_option linter.unusedSimpArgs false
set_option linter.unusedVariables false
open Go.RowKit Go.Sl Go.Dk Go.Tr
attribute [local go_sem ↓] Go.wp_at_zero Go.wp_at_succ
attribute [local go_sem] Go.Sl.cell_sat Go.Sl.frozen_sat
theorem leb_at (n w i : Nat) (h : i < w) : (leb n w)[i]? = some (UInt8.ofNat (n / 256 ^ i)) := by
 induction w generalizing n i with
 | zero => omega
 | succ w ih =>
   cases i with
   | zero => simp [leb]
   | succ i =>
     show (leb (n / 256) w)[i]? = _
     rw [ih _ _ (by omega), Nat.div_div_eq_div_mul, Nat.pow_succ, Nat.mul_comm]
theorem made_bytes0 (n : Nat) : madeCells (Value.int .u8 0).cells n = (bys (List.replicate n 0)).toArray := by
 apply Array.ext
 · simp [madeCells, bys]
 · intro i h1 h2
   have e : (Value.int .u8 0).cells = #[Value.int .u8 0] := rfl
   simp [madeCells, bys, bv, e, Nat.mod_one]
theorem mk_bytes0 (n : Nat) (hn : n ≤ 1099511627776) (w : World) : (Instr.makeSlice 26 (.int .i64 n) (.int .i64 n)).run Tryz.prog w = .ok (.slice (some ⟨w.heap.size, 0, none⟩) n n) (w.alloc (.cells (bys (List.replicate n 0)).toArray TB)) := by
 obtain ⟨i, E⟩ := elemB
 have h := run_make (P := Tryz.prog) w 26 TB i (.int .u8 0) E.und E.info E.zero .i64 .i64 n n (by omega) (by omega) (by rw [E.bytes]; omega) (by omega)
 rw [E.size, Nat.mul_one, Int.toNat_natCast, made_bytes0] at h
 exact h
theorem leb_step (n w i : Nat) (h : i < w) : ((leb n w).take i ++ zs (w - i)).set i (UInt8.ofNat (n / 256 ^ i)) = (leb n w).take (i + 1) ++ zs (w - (i + 1)) := by
 have h1 : w - i = (w - (i + 1)) + 1 := by omega
 have h2 : ((leb n w).take i).length = i := by simp [leb_len]; omega
 rw [h1, take_snoc' (leb_at n w i h), List.set_append_right _ _ (by omega), h2, Nat.sub_self]
 show ((leb n w).take i ++ ((0 : UInt8) :: List.replicate (w - (i + 1)) 0).set 0 (UInt8.ofNat (n / 256 ^ i))) = _
 rw [List.set_cons_zero, List.append_assoc]
 rfl
theorem leb_byte (n i : Nat) : ((UInt8.ofNat (n / 256 ^ i)).toNat : Int) = (n : Int) / 2 ^ (8 * i) % 256 := by
 have e : (256 : Nat) ^ i = 2 ^ (8 * i) := by rw [Nat.pow_mul]
 rw [UInt8.toNat_ofNat', e, Int.natCast_emod, Int.natCast_ediv, Int.natCast_pow]
 rfl
set_option maxHeartbeats 1600000 in
theorem leBytes_any (n w : Nat) (F : Assn) (wd : World) (hs : Sat F wd) (h1 : 1 ≤ w) (h8 : w ≤ 8) (hn : n < 256 ^ w) (hn2 : n ≤ 9223372036854775807) :
 Calls Tryz.prog 255 #[.int .i64 n, .int .i64 w] wd fun e w' => ∃ a c, e = .returned (.tuple #[.slice a w c, .int .i64 0]) ∧ Sat (rw TB 1 (.slice a w c) (bys (leb n w)) * F) w' := by
 have hmk := mk_bytes0 w (by omega)
 have hw1 : ¬ (w : Int) < 1 := by omega
 have hw8 : ¬ (8 : Int) < w := by omega
 have hdv : (n : Int) / 2 ^ (8 * w) = 0 := by
  rw [Int.ediv_eq_zero_of_lt (by omega)]
  have e : (256 : Nat) ^ w = 2 ^ (8 * w) := by rw [Nat.pow_mul]
  rw [e] at hn
  exact_mod_cast hn
 have hs1 := row_made (n := w) (List.replicate w 0) (by simp) (by omega) hs
 have hs2 : Sat (rw TB 1 (.slice (some ⟨wd.heap.size, 0, none⟩) w w) (bys ((leb n w).take 0 ++ zs (w - 0))) * F) _ := hs1
 obtain ⟨g, hg⟩ : ∃ z, wd.heap.size = z := ⟨_, rfl⟩
 rw [hg] at hs2
 clear hs1
 go_enter Tryz.func255, Tryz.ntmps255
 go_upto_region 3 with (fail)
 go_cut [27] (fun t27 wx => t27 = .bool false ∧ wd = wx)
 case first =>
  by_cases hlt : (w : Int) < 8
  · go_wp2_with fail
    go_meet
    exact ⟨rfl, rfl⟩
  · go_wp2_with fail
    go_meet
    exact ⟨rfl, rfl⟩
 case rest =>
  obtain ⟨rfl, rfl⟩ := hcut
  clear hdv
  go_wp2_with fail
  go_loopg [32] w (fun gk t32 wr => ∃ i : Nat, t32 = .int .i64 i ∧ i ≤ w ∧ Aside (gk = w - i) ∧ Sat (rw TB 1 (.slice (some ⟨g, 0, none⟩) w w) (bys ((leb n w).take i ++ zs (w - i))) * F) wr)
  case atStart => exact ⟨0, rfl, by omega, rfl, hs2⟩
  case round =>
   clear hs2
   obtain ⟨i, rfl, hi, A, hsr⟩ := hrel
   by_cases hlt : i < w
   · have hlt' : (i : Int) < w := by omega
     have HST : Aside ((bys ((leb n w).take i ++ zs (w - i))).set i (.int .u8 ((n : Int) / 2 ^ (8 * i) % 256)) = bys ((leb n w).take (i + 1) ++ zs (w - (i + 1)))) := (by rw [← leb_byte, bys_set, leb_step n w i hlt] : _ = _)
     obtain ⟨cur, hcur⟩ : ∃ l, (leb n w).take i ++ zs (w - i) = l := ⟨_, rfl⟩
     have hcl : cur.length = w := by rw [← hcur]; simp [leb_len, zs]; omega
     rw [hcur] at hsr HST
     obtain ⟨y, hy⟩ : ∃ y, cur[i]? = some y := ⟨cur[i]'(by omega), by simp⟩
     haveI : At (bys cur) i (.int .u8 y.toNat) := ⟨by unfold bys; rw [List.getElem?_map, hy]; rfl⟩
     haveI := hsr.i
     clear hcur hcl hy
     go_wp2
     go_roundg (w - (i + 1))
     case measure => have := A.out; omega
     case rel =>
      refine ⟨i + 1, by go_num, by omega, rfl, ?_⟩
      rw [← HST.out]
      exact satI
   · have hlt' : ¬ (i : Int) < w := by omega
     obtain rfl : i = w := by omega
     have e : (leb n i).take i ++ zs (i - i) = leb n i := by rw [List.take_of_length_le (by rw [leb_len]; omega), Nat.sub_self]; simp [zs]
     rw [e] at hsr
     clear e A
     go_wp2
     go_ret2
     exact ⟨some ⟨g, 0, none⟩, i, rfl, hsr⟩
theorem lei_get {b : List UInt8} {j : Nat} {x : UInt8} (h : b[j]? = some x) : lei (b.drop j) = x.toNat + 256 * lei (b.drop (j + 1)) := by
 obtain ⟨hj, rfl⟩ := List.getElem?_eq_some_iff.1 h
 rw [List.drop_eq_getElem_cons hj]
 rfl
theorem or8 (a : Nat) (x : UInt8) (h : a < 36028797018963968) : bits .or .i64 ((a : Int) * 256) (x.toNat : Int) = ((x.toNat + 256 * a : Nat) : Int) := by
 have hx := x.toNat_lt
 show IntKind.i64.wrap (((BitVec.ofInt 64 ((a : Int) * 256) ||| BitVec.ofInt 64 (x.toNat : Int)).toNat : Nat) : Int) = _
 have e1 : (BitVec.ofInt 64 ((a : Int) * 256)).toNat = a * 256 := by rw [BitVec.toNat_ofInt]; omega
 have e2 : (BitVec.ofInt 64 (x.toNat : Int)).toNat = x.toNat := by rw [BitVec.toNat_ofInt]; omega
 rw [BitVec.toNat_or, e1, e2]
 have e3 : a * 256 ||| x.toNat = x.toNat + 256 * a := by
  have := Nat.two_pow_add_eq_or_of_lt (i := 8) (b := x.toNat) (by omega) a
  rw [show (2 : Nat) ^ 8 = 256 from rfl] at this
  rw [Nat.mul_comm a 256, ← this]; omega
 rw [e3]
 exact IntWalk.i64_in _ (by omega)
set_option maxHeartbeats 1600000 in
theorem leInt_any (v : Value) (b : List UInt8) (wd : World) (hb : Byt wd v b) (h1 : 1 ≤ b.length) (h7 : b.length ≤ 7) :
 Calls Tryz.prog 182 #[v] wd fun e w' => e = .returned (.tuple #[.int .i64 (lei b : Nat), .int .i64 0]) ∧ wd = w' := by
 obtain ⟨va, vc, rfl, _, _⟩ := hb.len
 have g1 : ¬ (b.length : Int) < 1 := by omega
 have g2 : ¬ (8 : Int) < b.length := by omega
 have g3 : ((b.length : Int) == 8) = false := by rw [beq_eq_false_iff_ne]; omega
 have HB : Aside (Byt wd (.slice va b.length vc) b) := hb
 clear hb
 go_enter Tryz.func182, Tryz.ntmps182
 go_wp2
 go_loopg [4, 5] b.length (fun gk t4 t5 wr => ∃ (j n : Nat), t4 = .int .i64 n ∧ t5 = .int .i64 ((j : Int) - 1) ∧ j ≤ b.length ∧ n < 256 ^ (b.length - j) ∧ Aside (gk = j ∧ n = lei (b.drop j)) ∧ wd = wr)
 case atStart => exact ⟨b.length, 0, rfl, rfl, by omega, by simp, ⟨rfl, by simp [lei]⟩, rfl⟩
 case round =>
  obtain ⟨j, n, rfl, rfl, hj, hn, A, rfl⟩ := hrel
  by_cases h0 : j = 0
  · subst h0
    have HN : Aside (n = lei b) := (by have := A.out.2; simpa using this : _ = _)
    go_wp2
    go_ret2
    exact ⟨by rw [HN.out]; rfl, rfl⟩
  · obtain ⟨i, rfl⟩ : ∃ i, j = i + 1 := ⟨j - 1, by omega⟩
    have hil : i < b.length := by omega
    obtain ⟨x, hx⟩ : ∃ x, b[i]? = some x := ⟨b[i], by simp [hil]⟩
    obtain ⟨bb, o, rfl, hc⟩ := HB.out.at hx
    have hx8 := x.toNat_lt
    have hn6 : n < 281474976710656 := by
     have h6 : b.length - (i + 1) ≤ 6 := by omega
     have := Nat.pow_le_pow_right (n := 256) (by omega) h6
     omega
    have hor := or8 n x (by omega)
    have HG : Aside (lei (b.drop i) = x.toNat + 256 * n ∧ x.toNat + 256 * n < 256 ^ (b.length - i)) := ⟨by rw [lei_get hx, ← A.out.2], by
     have e : b.length - i = (b.length - (i + 1)) + 1 := by omega
     rw [e, Nat.pow_succ]; omega⟩
    have hi1 : ((i + 1 : Nat) : Int) - 1 = (i : Int) := by omega
    have hil' : (i : Int) < b.length := by omega
    rw [hi1]
    clear hi1 hx h0 hn
    go_wp2
    go_roundg i
    case measure => have := A.out.1; omega
    case rel => exact ⟨i, x.toNat + 256 * n, by go_num, rfl, by omega, HG.out.2, ⟨rfl, HG.out.1.symm⟩, rfl⟩
end Go.Proofs.YtfhbmblbidcmmaaGreat
namespace Go.Proofs.YtfhbmblbidcmmaaGreat
set_option linter.unusedSimpArgs false
set_option linter.unusedVariables false
open Go.RowKit Go.Sl Go.Dk Go.Tr
attribute [local go_sem ↓] Go.wp_at_zero Go.wp_at_succ
attribute [local go_sem] Go.Sl.cell_sat Go.Sl.frozen_sat
abbrev TRd : TypeId := 344
def coreL (R : Nat) (v : Value) (n : Nat) : Assn := hdr R TRd 2 * (Sl.cell R 0 v * Sl.cell R 1 (.int .i64 n))
instance (R : Nat) (v : Value) (n : Nat) : HasC (coreL R v n) R 0 v := by unfold coreL; infer_instance
instance (R : Nat) (v : Value) (n : Nat) : HasC (coreL R v n) R 1 (.int .i64 n) := by unfold coreL; infer_instance
def rdA (R : Nat) (a : Option Addr) (c : Nat) (l : List UInt8) (n : Nat) : Assn := coreL R (.slice a l.length c) n * rw TB 1 (.slice a l.length c) (bys l)
set_option maxHeartbeats 800000 in
theorem rdNext_go (R : Nat) (a : Option Addr) (c : Nat) (l : List UInt8) (p n : Nat) (F : Assn) (w : World) (hs : Sat (rdA R a c l p * F) w) (hp : p ≤ l.length) (hl : l.length ≤ 1099511627776) (h : p + n ≤ l.length) :
 Calls Tryz.prog 232 #[.pointer (some ⟨R, 0, none⟩), .int .i64 n] w fun e w' => e = .returned (.tuple #[.slice (cutA a c p 1) n (c - p), .int .i64 0]) ∧ Sat (rdA R a c l p * F) w' := by
 obtain ⟨i0, E⟩ := elemB
 have hs1 : Sat (coreL R (.slice a l.length c) p * (rw TB 1 (.slice a l.length c) (bys l) * F)) w := hs.eq (by unfold rdA; ac_rfl)
 obtain ⟨_, hc, hcm⟩ := rw_max (hs1.take (rw TB 1 (.slice a l.length c) (bys l)))
 have hcut := at_cut (P := Tryz.prog) E (a := a) (n := l.length) (c := c) p (p + n) (by omega) (by omega)
 have e2 : p + n - p = n := by omega
 rw [Int.natCast_add, e2] at hcut
 have hg : ¬ (l.length : Int) - p < n := by omega
 have hg1 : decide ((l.length : Int) - p < n) = false := by simp; omega
 haveI := hs1.i
 clear hs e2
 go_enter Tryz.func232, Tryz.ntmps232
 go_upto_region 3 with (fail)
 have hw1 : IntKind.i64.wrap ((l.length : Int) - p) = (l.length : Int) - p := IntWalk.i64_in _ (by omega)
 have hw2 : IntKind.i64.wrap ((p : Int) + n) = (p : Int) + n := IntWalk.i64_in _ (by omega)
 go_region_held3 (fun w' => w'.cell? ⟨R, 0, none⟩ = some (.slice a l.length c) ∧ w'.cell? ⟨R, 1, none⟩ = some (.int .i64 p)) (first | exact ⟨cell_sat _ _ _, cell_sat _ _ _⟩) (first | (fail))
 all_goals
  go_upto_region 5 with (fail)
  go_region_held3 (fun w' => w'.cell? ⟨R, 0, none⟩ = some (.slice a l.length c) ∧ w'.cell? ⟨R, 1, none⟩ = some (.int .i64 p)) (first | exact ⟨cell_sat _ _ _, cell_sat _ _ _⟩) (first | (fail))
  all_goals
   clear hw1 hw2
   go_wp2
   go_ret2
   exact ⟨rfl, satI_eq (by unfold rdA; ac_rfl)⟩
set_option maxHeartbeats 800000 in
theorem rdNext_no (R : Nat) (a : Option Addr) (c : Nat) (l : List UInt8) (p n : Nat) (F : Assn) (w : World) (hs : Sat (rdA R a c l p * F) w) (hp : p ≤ l.length) (hl : l.length ≤ 1099511627776) (h : l.length < p + n) (hn : n ≤ 1099511627776) :
 Calls Tryz.prog 232 #[.pointer (some ⟨R, 0, none⟩), .int .i64 n] w fun e w' => e = .returned (.tuple #[.slice none 0 0, .int .i64 3]) ∧ Sat (rdA R a c l p * F) w' := by
 have hs1 : Sat (coreL R (.slice a l.length c) p * (rw TB 1 (.slice a l.length c) (bys l) * F)) w := hs.eq (by unfold rdA; ac_rfl)
 have hg : (l.length : Int) - p < n := by omega
 haveI := hs1.i
 clear hs
 go_enter Tryz.func232, Tryz.ntmps232
 go_upto_region 3 with (fail)
 have hw1 : IntKind.i64.wrap ((l.length : Int) - p) = (l.length : Int) - p := IntWalk.i64_in _ (by omega)
 go_region_held3 (fun w' => w'.cell? ⟨R, 0, none⟩ = some (.slice a l.length c) ∧ w'.cell? ⟨R, 1, none⟩ = some (.int .i64 p)) (first | exact ⟨cell_sat _ _ _, cell_sat _ _ _⟩) (first | (fail))
 all_goals
  clear hw1
  go_wp2
  go_ret2
  exact ⟨rfl, satI_eq (by unfold rdA; ac_rfl)⟩
end Go.Proofs.YtfhbmblbidcmmaaGreat
namespace Go.Proofs.YtfhbmblbidcmmaaGreat
set_option linter.unusedSimpArgs false
set_option linter.unusedVariables false
open Go.RowKit Go.Sl Go.Dk Go.Tr
attribute [local go_sem ↓] Go.wp_at_zero Go.wp_at_succ
attribute [local go_sem] Go.Sl.cell_sat Go.Sl.frozen_sat
instance (R : Nat) (v : Value) (n m : Nat) : Upd (coreL R v n) R 1 (.int .i64 m) (coreL R v m) := by unfold coreL; infer_instance
instance (R : Nat) (v : Value) (n a b : Nat) : Upd (coreL R v n) R 1 (.int .i64 ((a : Int) + (b : Int))) (coreL R v (a + b)) := by rw [← Int.natCast_add]; infer_instance
theorem reads_part {a : Option Addr} {c : Nat} {l : List UInt8} (p n : Nat) (h : p + n ≤ l.length) : Reads (rw TB 1 (.slice a l.length c) (bys l)) (.slice (cutA a c p 1) n (c - p)) ((l.drop p).take n) := by
 intro F w hs
 have := (Reads.rw F w hs).cut p (p + n) (by omega) (by omega)
 rw [show p + n - p = n by omega] at this
 exact this
set_option maxHeartbeats 800000 in
theorem rdInt_go (R : Nat) (a : Option Addr) (c : Nat) (l : List UInt8) (p n : Nat) (F : Assn) (w : World) (hs : Sat (rdA R a c l p * F) w) (hl : l.length ≤ 1099511627776) (h : p + n ≤ l.length) (h1 : 1 ≤ n) (h7 : n ≤ 7) :
 Calls Tryz.prog 185 #[.pointer (some ⟨R, 0, none⟩), .int .i64 n] w fun e w' => e = .returned (.tuple #[.int .i64 (lei ((l.drop p).take n) : Nat), .int .i64 0]) ∧ Sat (rdA R a c l (p + n) * F) w' := by
 have hnx := rdNext_go R a c l p n F w hs (by omega) hl h
 have g1 : ¬ (n : Int) < 1 := by omega
 have g2 : ¬ (8 : Int) < n := by omega
 have hln : ((l.drop p).take n).length = n := by simp; omega
 have HI : Aside (∀ w', Sat (rdA R a c l p * F) w' → Calls Tryz.prog 182 #[.slice (cutA a c p 1) n (c - p)] w' fun e w'' => e = .returned (.tuple #[.int .i64 (lei ((l.drop p).take n) : Nat), .int .i64 0]) ∧ w' = w'') := fun w' h' => leInt_any _ _ w' (reads_part p n h (coreL R (.slice a l.length c) p * F) w' (h'.eq (by unfold rdA; ac_rfl))) (by omega) (by omega)
 obtain ⟨z, hz⟩ : ∃ z, lei ((l.drop p).take n) = z := ⟨_, rfl⟩
 rw [hz] at HI ⊢
 clear hz hln hs
 go_enter Tryz.func185, Tryz.ntmps185
 go_wp2_with fail
 refine hnx.mono ?_
 rintro e w1 ⟨rfl, hs1⟩
 clear hnx
 go_wp2_with fail
 refine (HI.out _ hs1).mono ?_
 rintro e w2 ⟨rfl, rfl⟩
 have hs2 : Sat (coreL R (.slice a l.length c) p * (rw TB 1 (.slice a l.length c) (bys l) * F)) w1 := hs1.eq (by unfold rdA; ac_rfl)
 haveI := hs2.i
 clear hs1
 go_wp2
 go_ret2
 exact ⟨rfl, satI_eq (by unfold rdA; ac_rfl)⟩
theorem rdInt_no (R : Nat) (a : Option Addr) (c : Nat) (l : List UInt8) (p n : Nat) (F : Assn) (w : World) (hs : Sat (rdA R a c l p * F) w) (hp : p ≤ l.length) (hl : l.length ≤ 1099511627776) (h : l.length < p + n) (h1 : 1 ≤ n) (h7 : n ≤ 7) :
 Calls Tryz.prog 185 #[.pointer (some ⟨R, 0, none⟩), .int .i64 n] w fun e w' => e = .returned (.tuple #[.int .i64 0, .int .i64 3]) ∧ Sat (rdA R a c l p * F) w' := by
 have hnx := rdNext_no R a c l p n F w hs hp hl h (by omega)
 have g1 : ¬ (n : Int) < 1 := by omega
 have g2 : ¬ (8 : Int) < n := by omega
 clear hs
 go_enter Tryz.func185, Tryz.ntmps185
 go_wp2_with fail
 refine hnx.mono ?_
 rintro e w1 ⟨rfl, hs1⟩
 clear hnx
 go_wp2
 go_ret2
 exact ⟨rfl, hs1⟩
set_option maxHeartbeats 800000 in
theorem rdTake_go (R : Nat) (a : Option Addr) (c : Nat) (l : List UInt8) (p n : Nat) (F : Assn) (w : World) (hs : Sat (rdA R a c l p * F) w) (hl : l.length ≤ 1099511627776) (h : p + n ≤ l.length) :
 Calls Tryz.prog 187 #[.pointer (some ⟨R, 0, none⟩), .int .i64 n] w fun e w' => ∃ b d, e = .returned (.tuple #[.slice b n d, .int .i64 0]) ∧ Sat (rw TB 1 (.slice b n d) (bys ((l.drop p).take n)) * (rdA R a c l (p + n) * F)) w' := by
 obtain ⟨i0, E⟩ := elemB
 have hnx := rdNext_go R a c l p n F w hs (by omega) hl h
 have hln : ((l.drop p).take n).length = n := by simp; omega
 clear hs
 go_enter Tryz.func187, Tryz.ntmps187
 go_wp2_with fail
 refine hnx.mono ?_
 rintro e w1 ⟨rfl, hs1⟩
 clear hnx
 have hs2 : Sat (coreL R (.slice a l.length c) p * (rw TB 1 (.slice a l.length c) (bys l) * F)) w1 := hs1.eq (by unfold rdA; ac_rfl)
 haveI := hs2.i
 clear hs1
 have HR := reads_part (a := a) (c := c) p n h
 go_upto_region 5 with (fail)
 have hs3 : Sat (coreL R (.slice a l.length c) (p + n) * (rw TB 1 (.slice a l.length c) (bys l) * F)) (w1.setCell ⟨R, 1, none⟩ (.int .i64 ((p : Int) + (n : Int)))) := satI
 generalize w1.setCell ⟨R, 1, none⟩ (.int .i64 ((p : Int) + (n : Int))) = w3 at hs3 ⊢
 haveI := hs3.i
 go_wp2_with (at_builtin; refine wpl_append_same E rfl (.tmp 25) (.tmp 26) rfl rfl rfl (rw_empty (b := w3.heap.size) (e := TB)) (Reads.srcI HR hln) (by unfold maxLen; omega) (by omega) ?_; intro a2 c2 w2 hs6 hnil; clear hnil; simp only [Nat.zero_add, List.nil_append] at hs6 ⊢)
 go_ret2
 exact ⟨a2, c2, rfl, hs6.eq (by unfold rdA; ac_rfl)⟩
theorem rdLeft_any (R : Nat) (a : Option Addr) (c : Nat) (l : List UInt8) (p : Nat) (F : Assn) (w : World) (hs : Sat (rdA R a c l p * F) w) (hp : p ≤ l.length) (hl : l.length ≤ 1099511627776) :
 Calls Tryz.prog 188 #[.pointer (some ⟨R, 0, none⟩)] w fun e w' => e = .returned (.int .i64 (l.length - p : Nat)) ∧ Sat (rdA R a c l p * F) w' := by
 have hs1 : Sat (coreL R (.slice a l.length c) p * (rw TB 1 (.slice a l.length c) (bys l) * F)) w := hs.eq (by unfold rdA; ac_rfl)
 haveI := hs1.i
 clear hs
 go_enter Tryz.func188, Tryz.ntmps188
 go_upto_region 3 with (fail)
 have hw1 : IntKind.i64.wrap ((l.length : Int) - p) = (l.length : Int) - p := IntWalk.i64_in _ (by omega)
 go_region_held3 (fun w' => w'.cell? ⟨R, 0, none⟩ = some (.slice a l.length c) ∧ w'.cell? ⟨R, 1, none⟩ = some (.int .i64 p)) (first | exact ⟨cell_sat _ _ _, cell_sat _ _ _⟩) (first | (fail))
 all_goals
  clear hw1
  go_wp2
  go_ret
  exact ⟨by rw [show ((l.length - p : Nat) : Int) = (l.length : Int) - p by omega]; rfl, satI_eq (by unfold rdA; ac_rfl)⟩
set_option maxHeartbeats 800000 in
theorem leOn_any (v : Value) (l : List UInt8) (B F : Assn) (w : World) (hB : Reads B v l) (hs : Sat (B * F) w) (hl : l.length ≤ 1099511627776) :
 Calls Tryz.prog 184 #[v] w fun e w' => ∃ R a c, e = .returned (.pointer (some ⟨R, 0, none⟩)) ∧ Sat (rdA R a c l 0 * (B * F)) w' := by
 obtain ⟨i0, E⟩ := elemB
 obtain ⟨va, vc, rfl, _, _⟩ := (hB F w hs).len
 haveI := hs.i
 go_enter Tryz.func184, Tryz.ntmps184
 go_wp2_with (at_builtin; refine wpl_append_same E rfl (.tmp 3) (.tmp 4) rfl rfl rfl (rw_empty (b := w.heap.size) (e := TB)) (Reads.srcI hB rfl) (by unfold maxLen; omega) (by omega) ?_; intro a2 c2 w2 hs6 hnil; clear hnil; simp only [Nat.zero_add, List.nil_append] at hs6 ⊢)
 go_ret
 have hs7 := hs6.alloc #[.slice a2 l.length c2, .int .i64 0] TRd
 refine ⟨w2.heap.size, a2, c2, rfl, hs7.eq ?_⟩
 unfold rdA coreL
 simp only [block, Sl.cells, sep_one, List.length_cons, List.length_nil, Nat.zero_add, Nat.reduceAdd]
 ac_rfl
end Go.Proofs.YtfhbmblbidcmmaaGreat
namespace Go.Proofs.YtfhbmblbidcmmaaGreat
set_option linter.unusedSimpArgs false
set_option linter.unusedVariables false
open Go.RowKit Go.Sl Go.Dk Go.Tr
attribute [local go_sem ↓] Go.wp_at_zero Go.wp_at_succ
attribute [local go_sem] Go.Sl.cell_sat Go.Sl.frozen_sat
set_option maxHeartbeats 800000 in
theorem rdZeros_go (R : Nat) (a : Option Addr) (c : Nat) (l : List UInt8) (p n : Nat) (F : Assn) (w : World) (hs : Sat (rdA R a c l p * F) w) (hl : l.length ≤ 1099511627776) (h : p + n ≤ l.length) :
 Calls Tryz.prog 186 #[.pointer (some ⟨R, 0, none⟩), .int .i64 n] w fun e w' => e = .returned (.int .i64 (if ((l.drop p).take n).any (· != 0) then 4 else 0)) ∧ Sat (rdA R a c l (if ((l.drop p).take n).any (· != 0) then p else p + n) * F) w' := by
 have hnx := rdNext_go R a c l p n F w hs (by omega) hl h
 have hln : ((l.drop p).take n).length = n := by simp; omega
 obtain ⟨z, hz⟩ : ∃ z, (l.drop p).take n = z := ⟨_, rfl⟩
 have HBy : Aside (∀ w', Sat (rdA R a c l p * F) w' → Byt w' (.slice (cutA a c p 1) n (c - p)) z) := fun w' h' => by
  rw [← hz]
  exact reads_part p n h (coreL R (.slice a l.length c) p * F) w' (h'.eq (by unfold rdA; ac_rfl))
 rw [hz] at hln ⊢
 obtain ⟨ca, hca0⟩ : ∃ q, cutA a c p 1 = q := ⟨_, rfl⟩
 rw [hca0] at hnx HBy
 obtain ⟨bz, hbz⟩ : ∃ q : Bool, z.any (· != 0) = q := ⟨_, rfl⟩
 rw [hbz]
 have HZ : Aside (z.any (· != 0) = bz) := hbz
 have HLN : Aside (z.length = n) := hln
 clear hs hz hln hca0 hbz
 go_enter Tryz.func186, Tryz.ntmps186
 go_wp2_with fail
 refine hnx.mono ?_
 rintro e w1 ⟨rfl, hs1⟩
 clear hnx
 go_wp2_with fail
 go_loopg [20] n (fun g t wr => ∃ j : Nat, t = .int .i64 j ∧ j ≤ n ∧ Aside (g = n - j ∧ (z.take j).any (· != 0) = false) ∧ w1 = wr)
 case atStart => exact ⟨0, rfl, by omega, ⟨rfl, by simp⟩, rfl⟩
 case round =>
  obtain ⟨j, rfl, hj, A, rfl⟩ := hrel
  by_cases hlt : j < n
  · have hlt' : (j : Int) < n := by omega
    obtain ⟨x, hx⟩ : ∃ x, z[j]? = some x := ⟨z[j]'(by rw [HLN.out]; exact hlt), by simp⟩
    obtain ⟨b, o, rfl, hc⟩ := (HBy.out w1 hs1).at hx
    have hx8 := x.toNat_lt
    by_cases h0 : x = 0
    · subst h0
      have HA : Aside ((z.take (j + 1)).any (· != 0) = false) := (by rw [take_snoc' hx, List.any_append, A.out.2]; simp : _ = _)
      have hc' : w1.cell? ⟨b, o + j, none⟩ = some (.int .u8 0) := hc
      clear hx hc
      go_wp2
      go_roundg (n - (j + 1))
      case measure => have := A.out.1; omega
      case rel => exact ⟨j + 1, by go_num, by omega, ⟨rfl, HA.out⟩, rfl⟩
    · obtain rfl : bz = true := by rw [← HZ.out, List.any_eq_true]; exact ⟨x, List.mem_of_getElem? hx, by simpa using h0⟩
      have hc' : w1.cell? ⟨b, o + j, none⟩ = some (.int .u8 x.toNat) := hc
      have h0' : ((x.toNat : Int) != 0) = true := by
       have : x.toNat ≠ 0 := fun e => h0 (UInt8.toNat_inj.1 e)
       simp; omega
      clear hx hc h0
      go_wp2
      go_ret
      exact ⟨rfl, hs1⟩
  · have hlt' : ¬ (j : Int) < n := by omega
    obtain rfl : bz = false := by have h9 := A.out.2; rw [List.take_of_length_le (by rw [HLN.out]; omega)] at h9; rw [← HZ.out]; exact h9
    have hs2 : Sat (coreL R (.slice a l.length c) p * (rw TB 1 (.slice a l.length c) (bys l) * F)) w1 := hs1.eq (by unfold rdA; ac_rfl)
    haveI := hs2.i
    clear hs1 A
    go_wp2
    go_ret
    refine ⟨rfl, satI_eq ?_⟩
    show _ = rdA R a c l (p + n) * F
    unfold rdA
    ac_rfl
end Go.Proofs.YtfhbmblbidcmmaaGreat
