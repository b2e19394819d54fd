/-
  Of all versions the pages that are told are just those of their trees in the file in the form of the document, and a root that is none is refused. No condition. (part 48)
-/
import Derived.Test.YtfhbmblbidcmmaaGreatVa17
import Derived.Test.YtfhbmblbidcmmaaGreatVa15
import Derived.Test.YtfhbmblbidcmmaaGreatVa14
set_option linter.unusedSimpArgs false
set_option linter.unusedVariables false
namespace Go.Proofs.YtfhbmblbidcmmaaGreat
set_option linter.unusedSimpArgs false
set_option linter.unusedVariables false
open Go.RowKit Go.Sl Go.Tr
attribute [local go_sem ↓] Go.wp_at_zero Go.wp_at_succ
attribute [local go_sem] Go.Sl.cell_sat Go.Sl.frozen_sat
theorem rmove_any (s : Nat) (hs : s < 4294967296) (w : World) :
 Calls Tryz.prog 125 #[.int .u32 s] w fun e w' => e = .returned (.int .u32 (crcSteps 8 s : Nat)) ∧ w = w' := by
 go_enter Tryz.func125, Tryz.ntmps125
 go_wp2
 go_loopg [0, 3, 4] 8 (fun g t0 t3 t4 wr => ∃ (k s4 : Nat) (b4 : Value), t0 = .int .u32 s4 ∧ t3 = .int .i64 k ∧ k ≤ 8 ∧ s4 < 4294967296 ∧ t4 = b4 ∧ Aside (g = 8 - k ∧ s4 = crcSteps k s) ∧ w = wr)
 case atStart => exact ⟨0, s, _, rfl, rfl, by omega, hs, rfl, ⟨rfl, rfl⟩, rfl⟩
 case round =>
  obtain ⟨k, s4, b4, rfl, rfl, hk, hs4, rfl, A3, rfl⟩ := hrel
  by_cases hk8 : k < 8
  · have hk8' : (k : Int) < 8 := by omega
    have hs5 := crcStep_lt hs4
    have HS : Aside (crcSteps (k + 1) s = crcStep s4) := (by rw [crcSteps_snoc, ← A3.out.2] : _ = _)
    have hx := xor32 (s4 / 2) 3988292384 (by omega) (by omega)
    have hx2 : bits .xor .u32 ((s4 : Int) / 2) 3988292384 = ((s4 / 2 ^^^ 3988292384 : Nat) : Int) := hx
    clear hx
    by_cases h : s4 % 2 = 1
    · have e : crcStep s4 = (s4 / 2) ^^^ 3988292384 := by unfold crcStep; rw [if_pos h]
      have h1 : ((s4 : Int) % 2) = 1 := by omega
      obtain ⟨s5, hs5e⟩ : ∃ z, (s4 / 2) ^^^ 3988292384 = z := ⟨_, rfl⟩
      rw [hs5e] at hx2 e
      rw [e] at HS hs5
      clear h e hs5e
      go_wp2
      go_roundg (8 - (k + 1))
      case measure => have := A3.out.1; omega
      case rel => exact ⟨k + 1, s5, _, rfl, by go_num, by omega, hs5, rfl, ⟨rfl, HS.out.symm⟩, rfl⟩
    · have e : crcStep s4 = s4 / 2 := by unfold crcStep; rw [if_neg h]
      have h1 : ((s4 : Int) % 2) = 0 := by omega
      rw [e] at HS hs5
      clear h e hx2
      go_wp2
      go_roundg (8 - (k + 1))
      case measure => have := A3.out.1; omega
      case rel => exact ⟨k + 1, s4 / 2, _, by go_num, by go_num, by omega, hs5, rfl, ⟨rfl, HS.out.symm⟩, rfl⟩
  · have hk8' : ¬ (k : Int) < 8 := by omega
    obtain rfl : k = 8 := by omega
    have HS : Aside (s4 = crcSteps 8 s) := A3.out.2
    clear A3
    go_wp2
    go_ret
    have h9 := HS.out
    exact ⟨by first | (simp [h9]; done) | (subst h9; rfl) | (rw [← h9]), rfl⟩
theorem rof_any (v : Value) (l : List UInt8) (B F : Assn) (w : World) (hB : Reads B v l) (hs : Sat (B * F) w) :
 Calls Tryz.prog 67 #[v] w fun e w' => e = .returned (.int .u32 (crc l : Nat)) ∧ w = w' := by
 have hb := hB _ _ hs
 obtain ⟨pa, pc, rfl, hpc, hpm⟩ := hb.len
 have hpm' : l.length ≤ 9223372036854775807 := by
  have : pc ≤ 9223372036854775807 := by simpa [maxLen] using hpm
  omega
 have HB : Aside (Byt w (.slice pa l.length pc) l) := hb
 obtain ⟨n, hn⟩ : ∃ n, l.length = n := ⟨_, rfl⟩
 have HN : Aside (l.length = n) := hn
 rw [hn] at hpm' HB ⊢
 clear hb hpm hs hB hpc hn
 go_enter Tryz.func67, Tryz.ntmps67
 go_wp2
 go_loopg [3, 4] n (fun g t3 t4 wr => ∃ j s2 : Nat, t3 = .int .u32 s2 ∧ t4 = .int .i64 j ∧ j ≤ n ∧ s2 < 4294967296 ∧ Aside (g = n - j ∧ s2 = crcRun 4294967295 (l.take j)) ∧ w = wr)
 case atStart => exact ⟨0, 4294967295, rfl, rfl, by omega, by omega, ⟨rfl, by simp [crcRun]⟩, rfl⟩
 case round =>
  obtain ⟨j, s2, rfl, rfl, hj, hs2, A2, rfl⟩ := hrel
  by_cases hjl : j < n
  · have hjl' : (j : Int) < n := by omega
    obtain ⟨x, hx⟩ : ∃ x, l[j]? = some x := ⟨l[j]'(by have := HN.out; omega), by simp⟩
    obtain ⟨b2, o2, rfl, hc2⟩ := HB.out.at hx
    have hx8 := x.toNat_lt
    have hxo := xor32 s2 x.toNat hs2 (by omega)
    have hlt2 : s2 ^^^ x.toNat < 4294967296 := Nat.xor_lt_two_pow (n := 32) (by omega) (by omega)
    obtain ⟨s3, hs3⟩ : ∃ z, s2 ^^^ x.toNat = z := ⟨_, rfl⟩
    have HS3 : Aside (crcRun 4294967295 (l.take (j + 1)) = crcSteps 8 s3) := (by rw [take_snoc' hx, crcRun_snoc, ← A2.out.2]; unfold crcByte; rw [hs3] : _ = _)
    rw [hs3] at hxo hlt2
    have hmv := rmove_any s3 hlt2 w
    have hs5 := crcSteps_lt 8 hlt2
    obtain ⟨s5, hs5e⟩ : ∃ z, crcSteps 8 s3 = z := ⟨_, rfl⟩
    rw [hs5e] at hmv hs5 HS3
    clear hx hs3 hs5e
    go_wp2_with fail
    refine hmv.mono ?_
    rintro e w' ⟨rfl, rfl⟩
    go_wp2
    go_roundg (n - (j + 1))
    case measure => have := A2.out.1; omega
    case rel => exact ⟨j + 1, s5, rfl, by go_num, by omega, hs5, ⟨rfl, HS3.out.symm⟩, rfl⟩
  · have hjl' : ¬ (j : Int) < n := by omega
    obtain rfl : j = n := by omega
    have e1 : s2 = crcRun 4294967295 l := by rw [A2.out.2, List.take_of_length_le (Nat.le_of_eq HN.out)]
    have hx := xor32 s2 4294967295 hs2 (by omega)
    have hx2 : bits .xor .u32 (s2 : Int) 4294967295 = ((s2 ^^^ 4294967295 : Nat) : Int) := hx
    have e2 : crc l = s2 ^^^ 4294967295 := by unfold crc; rw [← e1, Nat.xor_comm]
    obtain ⟨s6, h6⟩ : ∃ z, s2 ^^^ 4294967295 = z := ⟨_, rfl⟩
    rw [h6] at hx2 e2
    have HS : Aside (crc l = s6) := e2
    clear e1 hx e2 h6 A2
    go_wp2
    go_ret
    have h9 := HS.out
    exact ⟨by first | (simp [h9]; done) | (subst h9; rfl) | (rw [← h9]), rfl⟩
end Go.Proofs.YtfhbmblbidcmmaaGreat
namespace Go.Tr
theorem leb_snoc (n i : Nat) : leb n (i + 1) = leb n i ++ [UInt8.ofNat (n / 256 ^ i)] := by
 induction i generalizing n with
 | zero => simp [leb]
 | succ i ih =>
   show UInt8.ofNat n :: leb (n / 256) (i + 1) = UInt8.ofNat n :: leb (n / 256) i ++ _
   rw [ih, Nat.div_div_eq_div_mul, Nat.pow_succ, Nat.mul_comm 256, List.cons_append]
end Go.Tr
namespace Go.Proofs.YtfhbmblbidcmmaaGreat
set_option linter.unusedSimpArgs false
set_option linter.unusedVariables false
open Go.RowKit Go.Sl Go.Tr Go.Dk
attribute [local go_sem ↓] Go.wp_at_zero Go.wp_at_succ
attribute [local go_sem] Go.Sl.cell_sat Go.Sl.frozen_sat
set_option maxHeartbeats 800000 in
theorem rbytes_any (n wd : Nat) (F : Assn) (w : World) (hs : Sat F w) (h1 : 1 ≤ wd) (h2 : wd ≤ 7) (hn : n < 256 ^ wd) :
 Calls Tryz.prog 66 #[.int .i64 n, .int .i64 wd] w fun e w' => ∃ a c, e = .returned (.tuple #[.slice a wd c, .int .i64 0]) ∧ Sat (rw TB 1 (.slice a wd c) (bys (leb n wd)) * F) w' := by
 obtain ⟨i0, E⟩ := elemB
 have hp : (256 : Nat) ^ wd ≤ 256 ^ 7 := Nat.pow_le_pow_right (by omega) h2
 have hn2 : n < 72057594037927936 := by
  have : (256 : Nat) ^ 7 = 72057594037927936 := by decide
  omega
 have HZ : Aside (n / 256 ^ wd = 0) := Nat.div_eq_of_lt hn
 clear hp hn
 go_enter Tryz.func66, Tryz.ntmps66
 go_wp2
 go_loopg [0, 6, 7] wd (fun g t0 t6 t7 wr => ∃ (i q : Nat) (a : Option Addr) (c : Nat), t0 = .int .i64 q ∧ t7 = .int .i64 i ∧ t6 = .slice a i c ∧ i ≤ wd ∧ q < 72057594037927936 ∧ Aside (g = wd - i ∧ q = n / 256 ^ i) ∧ Sat (rw TB 1 (.slice a i c) (bys (leb n i)) * F) wr)
 case atStart => exact ⟨0, n, none, 0, rfl, rfl, rfl, by omega, hn2, ⟨rfl, by simp⟩, by simpa [bys, leb] using hs.rw_nil⟩
 case round =>
  obtain ⟨i, q, a, c, rfl, rfl, rfl, hi, hq, A, hsr⟩ := hrel
  clear hs
  by_cases hlt : i < wd
  · have hlt' : (i : Int) < wd := by omega
    obtain ⟨r, hr⟩ : ∃ r, q % 256 = r := ⟨_, rfl⟩
    obtain ⟨q2, hq2⟩ : ∃ q2, q / 256 = q2 := ⟨_, rfl⟩
    have hr3 : r < 256 := by omega
    have hr1 : (q : Int).tmod 256 = (r : Int) := by rw [Int.tmod_eq_emod_of_nonneg (by omega)]; omega
    have hr4 : (q : Int) % 256 = (r : Int) := by omega
    have hq1 : (q : Int).tdiv 256 = (q2 : Int) := by rw [Int.tdiv_eq_ediv_of_nonneg (by omega)]; omega
    have hq4 : (q : Int) / 256 = (q2 : Int) := by omega
    have hq3 : q2 < 72057594037927936 := by omega
    have HS : Aside (leb n (i + 1) = leb n i ++ [UInt8.ofNat r] ∧ q2 = n / 256 ^ (i + 1)) := by
     refine ⟨?_, ?_⟩
     · rw [leb_snoc, ← A.out.2, ← hr]
       congr 2
       apply UInt8.toNat_inj.1
       rw [UInt8.toNat_ofNat', UInt8.toNat_ofNat']
       omega
     · rw [← hq2, A.out.2, Nat.div_div_eq_div_mul, Nat.pow_succ]
    have HR : Aside ((UInt8.ofNat r).toNat = r) := (by rw [UInt8.toNat_ofNat']; omega : _ = _)
    have hs4 := hsr.alloc #[.int .u8 r] TB
    have hs5 := hs4.take (rw TB 1 (.slice a i c) (bys (leb n i)))
    have hsrc := Src.one_new (P := Tryz.prog) hs4 rfl
    clear hs4 hr hq2
    go_wp2_with (at_builtin; refine wpl_append_same E rfl (.tmp 23) (.tmp 27) rfl rfl rfl hs5 hsrc (by unfold maxLen; omega) (by omega) ?_; intro a' c' w' hs6 hnil; clear hnil hs5 hsrc)
    go_roundg (wd - (i + 1))
    case measure => have := A.out.1; omega
    case rel =>
     refine ⟨i + 1, q2, a', c', rfl, by go_num, rfl, by omega, hq3, ⟨rfl, HS.out.2⟩, ?_⟩
     rw [HS.out.1, bys_append]
     refine Sat.weak (B := block wr.heap.size TB [.int .u8 r]) (hs6.eq ?_)
     rw [show bys [UInt8.ofNat r] = [Value.int .u8 r] by show [Value.int .u8 ((UInt8.ofNat r).toNat : Int)] = _; rw [HR.out]]
     ac_rfl
  · have hlt' : ¬ (i : Int) < wd := by omega
    obtain rfl : i = wd := by omega
    obtain rfl : q = 0 := by rw [A.out.2, HZ.out]
    clear hlt hlt' hi A
    go_wp2
    go_ret2
    exact ⟨a, c, rfl, hsr⟩
set_option maxHeartbeats 800000 in
theorem rint_any (v : Value) (l : List UInt8) (B F : Assn) (w : World) (hB : Reads B v l) (hs : Sat (B * F) w) (h1 : 1 ≤ l.length) (h2 : l.length ≤ 7) :
 Calls Tryz.prog 177 #[v] w fun e w' => e = .returned (.tuple #[.int .i64 (lei l : Nat), .int .i64 0]) ∧ w = w' := by
 have hb := hB _ _ hs
 obtain ⟨pa, pc, rfl, hpc, hpm⟩ := hb.len
 have HB : Aside (Byt w (.slice pa l.length pc) l) := hb
 obtain ⟨n, hn⟩ : ∃ n, l.length = n := ⟨_, rfl⟩
 have HN : Aside (l.length = n) := hn
 rw [hn] at HB h1 h2 ⊢
 have h3 : ¬ (n : Int) < 1 := by omega
 have h4 : ¬ (8 : Int) < n := by omega
 have h5 : ((n : Int) == 8) = false := by simp; omega
 have h6 : (n == 8) = false := by simp; omega
 have h7 : (n : Int) ≤ 7 := by omega
 clear hb hpm hs hB hpc hn
 go_enter Tryz.func177, Tryz.ntmps177
 go_wp2
 go_loopg [4, 5] n (fun g t4 t5 wr => ∃ i q : Nat, t4 = .int .i64 q ∧ t5 = .int .i64 i ∧ i ≤ n ∧ q < 72057594037927936 ∧ Aside (g = n - i ∧ q = lei (l.drop (n - i))) ∧ w = wr)
 case atStart => exact ⟨0, 0, rfl, rfl, by omega, by omega, ⟨rfl, by rw [Nat.sub_zero, List.drop_of_length_le (Nat.le_of_eq HN.out)]; rfl⟩, rfl⟩
 case round =>
  obtain ⟨i, q, rfl, rfl, hi, hq, A, rfl⟩ := hrel
  by_cases hlt : i < n
  · have hlt' : (i : Int) < n := by omega
    obtain ⟨k, hk⟩ : ∃ k, n - 1 - i = k := ⟨_, rfl⟩
    have hk1 : (n : Int) - 1 - (i : Int) = (k : Int) := by omega
    have hkn : (k : Int) < n := by omega
    obtain ⟨x, hx⟩ : ∃ x, l[k]? = some x := ⟨l[k]'(by have := HN.out; omega), by simp⟩
    obtain ⟨b2, o2, rfl, hc2⟩ := HB.out.at hx
    have hx8 := x.toNat_lt
    have hd : l.drop k = x :: l.drop (k + 1) := by
     obtain ⟨hk2, rfl⟩ := List.getElem?_eq_some_iff.1 hx
     exact List.drop_eq_getElem_cons hk2
    obtain ⟨q2, hq2⟩ : ∃ q2, q * 256 + x.toNat = q2 := ⟨_, rfl⟩
    have e1 : q2 = lei (l.drop k) := by
     have h9 := A.out.2
     rw [show n - i = k + 1 by omega] at h9
     rw [hd, ← hq2, h9]
     exact (Nat.add_comm _ _).trans (congrArg (x.toNat + ·) (Nat.mul_comm _ _))
    have hq3 : q2 < 72057594037927936 := by
     have h9 := lei_lt (l.drop k)
     have h10 : (256 : Nat) ^ (l.drop k).length ≤ 256 ^ 7 := Nat.pow_le_pow_right (by omega) (by rw [List.length_drop, HN.out]; omega)
     exact Nat.lt_of_lt_of_le (e1 ▸ h9) h10
    have HS : Aside (q2 = lei (l.drop (n - (i + 1)))) := (by rw [show n - (i + 1) = k by omega]; exact e1 : q2 = lei (l.drop (n - (i + 1))))
    have hq4 : (q : Int) * 256 + (x.toNat : Int) = (q2 : Int) := by omega
    have hq5 : q * 256 ≤ 72057594037927936 := by omega
    clear hx hd e1 hk hq2
    go_wp2
    go_roundg (n - (i + 1))
    case measure => have := A.out.1; omega
    case rel => exact ⟨i + 1, q2, by go_num, by go_num, by omega, hq3, ⟨rfl, HS.out⟩, rfl⟩
  · have hlt' : ¬ (i : Int) < n := by omega
    obtain rfl : i = n := by omega
    have HS : Aside (lei l = q) := (by have h9 := A.out.2; rw [Nat.sub_self, List.drop_zero] at h9; exact h9.symm : lei l = q)
    clear A
    go_wp2
    go_ret2
    have h9 := HS.out
    exact ⟨by first | (simp [h9]; done) | (subst h9; rfl) | (rw [h9]), rfl⟩
end Go.Proofs.YtfhbmblbidcmmaaGreat
namespace Go.Proofs.YtfhbmblbidcmmaaGreat
set_option linter.unusedSimpArgs false
set_option linter.unusedVariables false
open Go.RowKit Go.Sl Go.Tr Go.Dk
attribute [local go_sem ↓] Go.wp_at_zero Go.wp_at_succ
attribute [local go_sem] Go.Sl.cell_sat Go.Sl.frozen_sat
theorem block_rwI {A R : Assn} {e n g : Nat} {l : List Value} {w : World} [h : SatI A w] [t : Take A (Sl.block g e l) R] (hl : l.length = n) (hn : n ≤ 1099511627776) : Sat (rw e 1 (.slice (some ⟨g, 0, none⟩) n n) l * R) w :=
 Sat.rw_shut (sp := []) (by omega) (by simpa using hl) (Nat.le_refl _) (by unfold maxLen; omega) (by simpa using h.out.take (Sl.block g e l))
set_option maxHeartbeats 400000 in
theorem copyQ (v : Value) (l : List UInt8) (B F : Assn) (w : World) (hB : Reads B v l) (hs : Sat (B * F) w) (hl : l.length ≤ 35184372088832) :
 Calls Tryz.prog 34 #[v] w fun e w' => ∃ a c, e = .returned (.slice a l.length c) ∧ Sat (rw TB 1 (.slice a l.length c) (bys l) * (B * F)) w' := by
 obtain ⟨i0, E⟩ := elemB
 obtain ⟨va, vc, rfl, _, _⟩ := (hB F w hs).len
 go_enter Tryz.func34, Tryz.ntmps34
 go_wp2
 go_loopg [3, 4] l.length (fun k t i wr => ∃ (j : Nat) (a : Option Addr) (c : Nat), i = .int .i64 j ∧ t = .slice a j c ∧ j ≤ l.length ∧ Aside (k = l.length - j) ∧ Sat (rw TB 1 (.slice a j c) (bys (l.take j)) * (B * F)) wr)
 case atStart => exact ⟨0, none, 0, rfl, rfl, by omega, rfl, by simpa [bys] using hs.rw_nil⟩
 case round =>
  obtain ⟨j, a, c, rfl, rfl, hj, A, hsr⟩ := hrel
  clear hs
  by_cases hlt : j < l.length
  · have hlt' : (j : Int) < l.length := by omega
    obtain ⟨x, hx⟩ : ∃ x, l[j]? = some x := ⟨l[j], by simp [hlt]⟩
    obtain ⟨b, o, rfl, hc⟩ := (hB _ _ (hsr.take B)).at hx
    have HT : Aside (l.take (j + 1) = l.take j ++ [x]) := take_snoc' hx
    have hs4 := hsr.alloc #[.int .u8 x.toNat] TB
    have hs5 := hs4.take (rw TB 1 (.slice a j c) (bys (l.take j)))
    have hsrc := Src.one_new (P := Tryz.prog) hs4 rfl
    clear hs4 hx
    go_wp2_with (at_builtin; refine wpl_append_same E rfl (.tmp 11) (.tmp 16) rfl rfl rfl hs5 hsrc (by unfold maxLen; omega) (by omega) ?_; intro a' c' w' hs6 hnil; clear hnil hs5 hsrc)
    go_roundg (l.length - (j + 1))
    case measure => have := A.out; omega
    case rel =>
     refine ⟨j + 1, a', c', by go_num, rfl, by omega, rfl, ?_⟩
     rw [HT.out, bys_append]
     refine Sat.weak (B := block wr.heap.size TB [.int .u8 x.toNat]) (hs6.eq ?_)
     rw [show bys [x] = [Value.int .u8 x.toNat] from rfl]
     ac_rfl
  · have hlt' : ¬ (j : Int) < l.length := by omega
    have hje : j = l.length := by omega
    subst hje
    rw [List.take_of_length_le (Nat.le_refl _)] at hsr
    clear hlt hlt' hj
    go_wp2
    go_ret
    exact ⟨a, c, rfl, hsr⟩
def PkOut (B F : Assn) (r : List UInt8 × Int) (e : Ending) (w' : World) : Prop := ∃ a c, e = .returned (.tuple #[.slice a r.1.length c, .int .i64 r.2]) ∧ Sat (rw TB 1 (.slice a r.1.length c) (bys r.1) * (B * F)) w'
set_option maxRecDepth 100000 in
set_option maxHeartbeats 3200000 in
theorem rpack05_bad (no kind : Int) (v : Value) (body : List UInt8) (B F : Assn) (w : World) (hB : Reads B v body) (hs : Sat (B * F) w) (h : no < 0 ∨ 1048576 ≤ no ∨ kind < 1 ∨ 9 < kind ∨ 244 < body.length) :
 Calls Tryz.prog 14 #[.int .i64 no, .int .i64 kind, v] w (PkOut B F (pagePack no kind body)) := by
 obtain ⟨pa, pc, rfl, hpc, hpm⟩ := (hB _ _ hs).len
 have hr : ∀ er : Int, pagePack no kind body = ([], er) → ∀ e, e = Ending.returned (.tuple #[.slice none 0 0, .int .i64 er]) → PkOut B F (pagePack no kind body) e w := by
  intro er e1 e e2
  rw [e1]
  exact ⟨none, 0, e2, by simpa [bys] using hs.rw_nil (e := TB) (s := 1)⟩
 by_cases h1 : no < 0 ∨ 1048576 ≤ no ∨ kind < 1 ∨ 9 < kind
 · have hr1 : Aside (∀ e, e = Ending.returned (.tuple #[.slice none 0 0, .int .i64 1]) → PkOut B F (pagePack no kind body) e w) := hr 1 (by unfold pagePack; rw [if_pos h1])
   clear hr h hB hs hpc hpm
   by_cases a1 : no < 0
   · go_enter Tryz.func14, Tryz.ntmps14
     go_wp2
     go_ret2
     exact hr1.out _ rfl
   by_cases a2 : 1048576 ≤ no
   · go_enter Tryz.func14, Tryz.ntmps14
     go_wp2
     go_ret2
     exact hr1.out _ rfl
   by_cases a3 : kind < 1
   · have a4 : 0 ≤ no := by omega
     have a5 : no < 1048576 := by omega
     clear h1
     go_enter Tryz.func14, Tryz.ntmps14
     go_wp2
     go_ret2
     exact hr1.out _ rfl
   · have a4 : 9 < kind := by omega
     clear h1
     go_enter Tryz.func14, Tryz.ntmps14
     go_wp2
     go_ret2
     exact hr1.out _ rfl
 · have hlong : 244 < body.length := by omega
   have hr1 : Aside (∀ e, e = Ending.returned (.tuple #[.slice none 0 0, .int .i64 10]) → PkOut B F (pagePack no kind body) e w) := hr 10 (by unfold pagePack; rw [if_neg h1, if_pos hlong])
   have b1 : ¬ no < 0 := by omega
   have b2 : ¬ 1048576 ≤ no := by omega
   have b3 : ¬ kind < 1 := by omega
   have b4 : ¬ 9 < kind := by omega
   have b5 : (244 : Int) < body.length := by omega
   clear hr h hB hs hpc hpm h1
   go_enter Tryz.func14, Tryz.ntmps14
   go_wp2
   go_ret2
   exact hr1.out _ rfl
theorem zs_snoc (n : Nat) : zs n ++ [0] = zs (n + 1) := by
 unfold zs
 rw [List.replicate_succ']
set_option maxRecDepth 100000 in
set_option maxHeartbeats 6400000 in
theorem rpack05_good (no kind : Nat) (v : Value) (body : List UInt8) (B F : Assn) (w : World) (hB : Reads B v body) (hs : Sat (B * F) w) (h1 : no < 1048576) (h2 : 1 ≤ kind) (h3 : kind ≤ 9) (h4 : body.length ≤ 244) :
 Calls Tryz.prog 14 #[.int .i64 (no : Int), .int .i64 (kind : Int), v] w fun e w' => ∃ a c, e = .returned (.tuple #[.slice a 256 c, .int .i64 0]) ∧ Sat (rw TB 1 (.slice a 256 c) (bys (pgPack no kind body)) * (B * F)) w' := by
 obtain ⟨pa, pc, rfl, hpc, hpm⟩ := (hB _ _ hs).len
 obtain ⟨i0, E⟩ := elemB
 have HBd : Aside (Reads B (.slice pa body.length pc) body ∧ body.length ≤ 244) := ⟨hB, h4⟩
 obtain ⟨n, hn⟩ : ∃ n, body.length = n := ⟨_, rfl⟩
 have HN : Aside (body.length = n) := hn
 have hb1 := fun F w q => rbytes_any n 2 F w q (by omega) (by omega) (by omega)
 have hb2 := fun F w q => rbytes_any no 4 F w q (by omega) (by omega) (by omega)
 have hcp := fun F w q => copyQ (.slice pa body.length pc) body B F w hB q (by omega)
 rw [hn] at hcp h4 ⊢
 obtain ⟨x1, hx1⟩ : ∃ x1, leb n 2 = x1 := ⟨_, rfl⟩
 obtain ⟨x2, hx2⟩ : ∃ x2, leb no 4 = x2 := ⟨_, rfl⟩
 have HX : Aside (leb n 2 = x1 ∧ leb no 4 = x2 ∧ x1.length = 2 ∧ x2.length = 4) := ⟨hx1, hx2, by rw [← hx1, leb_len], by rw [← hx2, leb_len]⟩
 rw [hx1] at hb1
 rw [hx2] at hb2
 haveI := hs.i
 have hk8 : IntKind.u8.wrap (kind : Int) = (kind : Int) := by simp [IntKind.wrap, IntKind.bits, IntKind.signed]; omega
 have b1 : ¬ (no : Int) < 0 := by omega
 have b2 : ¬ (1048576 : Int) ≤ no := by omega
 have b3 : ¬ (kind : Int) < 1 := by omega
 have b4 : ¬ (9 : Int) < kind := by omega
 have b5 : ¬ (244 : Int) < n := by omega
 clear hB hx1 hx2 hn hpm hpc h1 h2 h3
 go_enter Tryz.func14, Tryz.ntmps14
 go_wp2_with fail
 refine (hb1 _ _ hs).mono ?_
 rintro e w1 ⟨a1, c1, rfl, q1⟩
 haveI := q1.i
 clear hb1
 go_wp2_with fail
 refine (hb2 _ _ q1).mono ?_
 rintro e w2 ⟨a2, c2, rfl, q2⟩
 haveI := q2.i
 clear hb2 q1
 go_wp2_with (first
  | (at_builtin; refine wpl_append_same E rfl (.tmp 48) (.tmp 49) rfl rfl rfl (block_rwI (g := w2.heap.size) (l := [.int .u8 kind, .int .u8 0]) (n := 2) rfl (by omega)) (Reads.srcI (Reads.rw (e := TB) (v := .slice a1 2 c1) (l := x1)) HX.out.2.2.1) (by unfold maxLen; omega) (by omega) ?_; intro a3 c3 w3 q3 z3; clear z3; haveI := q3.i)
  | (at_builtin; refine wpl_append_same E rfl (.tmp 51) (.tmp 52) rfl rfl rfl q3 (Reads.srcI (Reads.rw (e := TB) (v := .slice a2 4 c2) (l := x2)) HX.out.2.2.2) (by unfold maxLen; omega) (by omega) ?_; intro a4 c4 w4 q4 z4; clear z4; haveI := q4.i))
 obtain ⟨hd, hhd⟩ : ∃ hd, pgHead no kind body = hd := ⟨_, rfl⟩
 have HH : Aside (pgHead no kind body = hd ∧ hd.length = 8 ∧ (pgTail body).length = 244 ∧ pgTail body = body ++ zs (244 - n)) := ⟨hhd, by rw [← hhd, pgHead_len], pgTail_len HBd.out.2, by unfold pgTail; rw [HN.out]⟩
 have q5 : Sat (rw TB 1 (.slice a4 8 c4) (bys hd) * (B * F)) w4 := by
  have e1 : bys hd = [.int .u8 kind, .int .u8 0] ++ bys x1 ++ bys x2 := by
   rw [← hhd, ← HX.out.1, ← HX.out.2.1, List.append_assoc, ← bys_append]
   unfold pgHead
   rw [HN.out]
   show Value.int .u8 ((UInt8.ofNat kind).toNat : Int) :: _ = _
   rw [UInt8.toNat_ofNat', Nat.mod_eq_of_lt (by omega)]
   rfl
  rw [e1]
  exact keep3 _ _ _
 haveI := q5.i
 clear q2 q3 q4 hhd hk8 b1 b2 b3 b4
 go_wp2_with fail
 refine (hcp _ _ (takeI B)).mono ?_
 rintro e w5 ⟨a5, c5, rfl, q6⟩
 haveI := q6.i
 have q7 : Sat (rw TB 1 (.slice a5 n c5) (bys body) * (rw TB 1 (.slice a4 8 c4) (bys hd) * (B * F))) w5 := keep4 _ _ _ _
 clear q5 q6 hcp b5
 go_wp2
 go_loopg [13] (245 - n) (fun g t13 wr => ∃ (j : Nat) (a : Option Addr) (c : Nat), t13 = .slice a j c ∧ n ≤ j ∧ j ≤ 244 ∧ Aside (g = 245 - j) ∧ Sat (rw TB 1 (.slice a j c) (bys (body ++ zs (j - n))) * (rw TB 1 (.slice a4 8 c4) (bys hd) * (B * F))) wr)
 case atStart => exact ⟨n, a5, c5, rfl, by omega, by omega, (rfl : _ = _), by rw [Nat.sub_self]; simpa [zs] using q7⟩
 case round =>
  obtain ⟨j, a, c, rfl, hnj, hj, A, hsr⟩ := hrel
  clear q7
  haveI := hsr.i
  by_cases hlt : j < 244
  · have hlt' : (j : Int) < 244 := by omega
    have HZ : Aside (bys (body ++ zs (j + 1 - n)) = bys (body ++ zs (j - n)) ++ [.int .u8 0]) := (by
     rw [show j + 1 - n = (j - n) + 1 by omega, ← zs_snoc, ← List.append_assoc, bys_append]; rfl : _ = _)
    go_wp2_with (at_builtin; refine wpl_append_same E rfl (.tmp 59) (.tmp 60) rfl rfl rfl (takeI (rw TB 1 (.slice a j c) (bys (body ++ zs (j - n))))) (Src.new (b := wr.heap.size) (e := TB) (s := 1) (vs := [.int .u8 0]) (takeI _) rfl (by intro u hu; simp at hu; subst hu; rfl)) (by unfold maxLen; omega) (by omega) ?_; intro a9 c9 w9 q9 z9; clear z9; haveI := q9.i)
    go_roundg (245 - (j + 1))
    case measure => have := A.out; omega
    case rel =>
     refine ⟨j + 1, a9, c9, rfl, by omega, by omega, (rfl : _ = _), ?_⟩
     rw [HZ.out]
     exact keep4 _ _ _ _
  · have hlt' : ¬ (j : Int) < 244 := by omega
    obtain rfl : j = 244 := by omega
    rw [← HH.out.2.2.2] at hsr
    haveI := hsr.i
    obtain ⟨tl, htl⟩ : ∃ tl, pgTail body = tl := ⟨_, rfl⟩
    rw [htl] at hsr
    have HT : Aside (pgTail body = tl ∧ tl.length = 244) := ⟨htl, by rw [← htl]; exact HH.out.2.2.1⟩
    haveI := hsr.i
    have hcq := fun F w q => copyQ (.slice a4 8 c4) hd (rw TB 1 (.slice a4 8 c4) (bys hd)) F w Reads.rw q (by have := HH.out.2.1; omega)
    have hcl : crc (hd ++ tl) < 4294967296 := crc_lt _
    have hof := fun a c F w q => rof_any (.slice a 252 c) (hd ++ tl) (rw TB 1 (.slice a 252 c) (bys (hd ++ tl))) F w Reads.rw q
    obtain ⟨cr, hcr⟩ : ∃ cr, crc (hd ++ tl) = cr := ⟨_, rfl⟩
    rw [hcr] at hcl hof
    have HC : Aside (crc (hd ++ tl) = cr) := hcr
    rw [HH.out.2.1] at hcq
    have hb3 := fun F w q => rbytes_any cr 4 F w q (by omega) (by omega) (by omega)
    obtain ⟨x3, hx3⟩ : ∃ x3, leb cr 4 = x3 := ⟨_, rfl⟩
    rw [hx3] at hb3
    have HX3 : Aside (leb cr 4 = x3 ∧ x3.length = 4) := ⟨hx3, by rw [← hx3, leb_len]⟩
    have hcl2 : (cr : Int) < 4294967296 := by omega
    clear htl A hlt hnj hj hcr hx3
    go_wp2_with fail
    refine (hcq _ _ (takeI (rw TB 1 (.slice a4 8 c4) (bys hd)))).mono ?_
    rintro e w10 ⟨a10, c10, rfl, q10⟩
    haveI := q10.i
    go_wp2_with (at_builtin; refine wpl_append_same E rfl (.tmp 63) (.tmp 64) rfl rfl rfl (takeI (rw TB 1 (.slice a10 8 c10) (bys hd))) (Reads.srcI (Reads.rw (e := TB) (v := .slice a 244 c) (l := tl)) HT.out.2) (by unfold maxLen; omega) (by omega) ?_; intro a11 c11 w11 q11 z11; clear z11; rw [← bys_append] at q11; haveI := q11.i)
    refine (hof _ _ _ _ q11).mono ?_
    rintro e w12 ⟨rfl, rfl⟩
    go_wp2_with fail
    refine (hb3 _ _ q11).mono ?_
    rintro e w13 ⟨a13, c13, rfl, q13⟩
    haveI := q13.i
    clear q10 q11
    go_wp2_with (first
     | (at_builtin; refine wpl_append_same E rfl (.tmp 73) (.tmp 74) rfl rfl rfl (takeI (rw TB 1 (.slice a4 8 c4) (bys hd))) (Reads.srcI (Reads.rw (e := TB) (v := .slice a13 4 c13) (l := x3)) HX3.out.2) (by unfold maxLen; omega) (by omega) ?_; intro a14 c14 w14 q14 z14; clear z14; haveI := q14.i)
     | (at_builtin; refine wpl_append_same E rfl (.tmp 76) (.tmp 77) rfl rfl rfl q14 (Reads.srcI (Reads.rw (e := TB) (v := .slice a 244 c) (l := tl)) HT.out.2) (by unfold maxLen; omega) (by omega) ?_; intro a15 c15 w15 q15 z15; clear z15; haveI := q15.i))
    go_ret2
    refine ⟨a15, c15, rfl, ?_⟩
    have e1 : bys (pgPack no kind body) = bys hd ++ bys x3 ++ bys tl := by
     unfold pgPack
     rw [HH.out.1, HT.out.1, HC.out, HX3.out.1, bys_append, bys_append, List.append_assoc]
    rw [e1]
    exact keep3 _ _ _
theorem rpack05_any (no kind : Int) (v : Value) (body : List UInt8) (B F : Assn) (w : World) (hB : Reads B v body) (hs : Sat (B * F) w) :
 Calls Tryz.prog 14 #[.int .i64 no, .int .i64 kind, v] w (PkOut B F (pagePack no kind body)) := by
 by_cases h : no < 0 ∨ 1048576 ≤ no ∨ kind < 1 ∨ 9 < kind ∨ 244 < body.length
 · exact rpack05_bad no kind v body B F w hB hs h
 · obtain ⟨a, rfl⟩ := Int.eq_ofNat_of_zero_le (show 0 ≤ no by omega)
   obtain ⟨k, rfl⟩ := Int.eq_ofNat_of_zero_le (show 0 ≤ kind by omega)
   refine (rpack05_good a k v body B F w hB hs (by omega) (by omega) (by omega) (by omega)).mono ?_
   rintro e w' ⟨p, c, e1, q⟩
   have e2 : pagePack a k body = (pgPack a k body, 0) := by
    unfold pagePack
    rw [if_neg (by omega), if_neg (by omega), Int.toNat_natCast, Int.toNat_natCast]
   have hl := pgPack_len a k (body := body) (by omega)
   rw [e2]
   refine ⟨p, c, ?_, ?_⟩
   · show e = .returned (.tuple #[.slice p (pgPack a k body).length c, .int .i64 0])
     rw [hl]; exact e1
   · show Sat (rw TB 1 (.slice p (pgPack a k body).length c) (bys (pgPack a k body)) * (B * F)) w'
     rw [hl]; exact q
end Go.Proofs.YtfhbmblbidcmmaaGreat
