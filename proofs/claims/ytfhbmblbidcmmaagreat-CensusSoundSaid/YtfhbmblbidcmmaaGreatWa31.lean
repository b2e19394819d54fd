/-
  Versions are found sound just if they are in the words of the document. No condition. (part 31)
-/
import Derived.Test.YtfhbmblbidcmmaaGreatWa19
import Derived.Test.YtfhbmblbidcmmaaGreatWa14
import Derived.Handy
import Derived.Deep.RegionHeld3
import Derived.Deep.RegionLaw
set_option linter.unusedSimpArgs false
set_option linter.unusedVariables false
namespace Go.Sl
set_option linter.unusedSimpArgs false
set_option linter.unusedVariables false
theorem run_copy_block {P : Program} {t e bytes : Nat} {i : TypeInfo} {z : Value} (E : ElemOk P t e 1 bytes i z) (tx ty : TypeId)
 {g e' n c lo : Nat} {xs : List Value} {x : Value} {l : List UInt8} {F : Assn} {w : World} (hs : Sat (Sl.block g e' xs * F) w) (hx : Byt w x l) (h1 : l.length ≤ n) (h2 : lo + n ≤ xs.length) :
 ∃ w', (Builtin.copy_ #[t, tx] ty #[.slice (some ⟨g, lo, none⟩) n c, x]).run P w = .ok (.int .i64 l.length) w' ∧ Sat (Sl.block g e' (xs.take lo ++ bys l ++ xs.drop (lo + l.length)) * F) w' := by
 have hS := hx.src (P := P)
 have hxl : (Builtin.lenOf x).run P w = .ok l.length w := by simpa [World.drewN] using hS.len 0
 have hxc : (Builtin.firstCells 1 l.length x).run P w = .ok (bys l).toArray w := by simpa [World.drewN] using hS.cells 0
 have hsz : (sizeOf e).run P w = .ok 1 w := by simp [sizeOf, typeInfo, E.info, E.size]
 have hmin : Nat.min l.length n = l.length := Nat.min_eq_left (by omega)
 have hsplit : xs = xs.take lo ++ ((xs.drop lo).take l.length ++ xs.drop (lo + l.length)) := by
  rw [← List.drop_drop, List.take_append_drop, List.take_append_drop]
 have hs1 : Sat (Sl.cells g (lo + 0) ((xs.drop lo).take l.length) * (hdr g e' xs.length * (Sl.cells g 0 (xs.take lo) * (Sl.cells g (lo + l.length) (xs.drop (lo + l.length)) * F)))) w := by
  refine hs.eq ?_
  unfold Sl.block
  conv => lhs; arg 1; arg 2; rw [hsplit]
  rw [cells_append, cells_append]
  have e1 : (xs.take lo).length = lo := by simp; omega
  have e2 : ((xs.drop lo).take l.length).length = l.length := by simp; omega
  rw [e1, e2]
  simp only [Nat.zero_add, Nat.add_zero]
  ac_rfl
 obtain ⟨w', r1, r2⟩ := run_storeCells_sl (P := P) (bys l) ((xs.drop lo).take l.length) 0 _ w hs1 (by rw [bys_len]; simp; omega) (bys_one l)
 refine ⟨w', ?_, ?_⟩
 · unfold Builtin.copy_
   simp [underlying, E.und, hsz, hxl, hmin, hxc, r1, goInt]
 · refine r2.eq ?_
   unfold Sl.block
   have e1 : (xs.take lo ++ bys l ++ xs.drop (lo + l.length)).length = xs.length := by simp only [List.length_append, List.length_take, List.length_drop, bys_len]; omega
   rw [e1, cells_append, cells_append]
   have e2 : (xs.take lo).length = lo := by simp; omega
   have e3 : (xs.take lo ++ bys l).length = lo + l.length := by rw [List.length_append, e2, bys_len]
   rw [e2, e3]
   simp only [Nat.zero_add, Nat.add_zero]
   ac_rfl
end Go.Sl
namespace Go.Proofs.YtfhbmblbidcmmaaGreat
set_option linter.unusedSimpArgs false
set_option linter.unusedVariables false
open Go.RowKit Go.Sl Go.Dk Go.Tr
attribute [local go_sem ↓] Go.wp_at_zero Go.wp_at_succ
attribute [local go_sem] Go.Sl.cell_sat Go.Sl.frozen_sat
set_option maxRecDepth 100000 in
theorem number_any (g e' lo n c m wd : Nat) (xs : List Value) (F : Assn) (w : World) (hs : Sat (Sl.block g e' xs * F) w) (h1 : 1 ≤ wd) (h4 : wd ≤ 4) (hm : m < 256 ^ wd) (hwn : wd ≤ n) (h2 : lo + n ≤ xs.length) :
 Calls Tryz.prog 234 #[.slice (some ⟨g, lo, none⟩) n c, .int .i64 m, .int .i64 wd] w fun e w' => e = .returned (.tuple #[]) ∧ Sat (Sl.block g e' (xs.take lo ++ bys (leb m wd) ++ xs.drop (lo + wd)) * F) w' := by
 obtain ⟨i0, E⟩ := elemB
 have hlb := leBytes_any m wd _ w hs h1 (by omega) hm (by have : (256 : Nat) ^ wd ≤ 256 ^ 4 := Nat.pow_le_pow_right (by omega) h4; omega)
 have hl : (leb m wd).length = wd := leb_len _ _
 go_enter Tryz.func234, Tryz.ntmps234
 go_wp2_with fail
 refine hlb.mono ?_
 rintro e w1 ⟨a3, c3, rfl, hs1⟩
 haveI := hs1.i
 obtain ⟨w2, r1, hs2⟩ := run_copy_block E 26 3 (c := c) (w := w1) (takeI (w := w1) (Sl.block g e' xs)) (Reads.rw (e := TB) (v := .slice a3 wd c3) (l := leb m wd) _ w1 (takeI (w := w1) (rw TB 1 (.slice a3 wd c3) (bys (leb m wd))))) (by omega) h2
 rw [hl] at r1 hs2
 go_wp2
 go_end0
 exact ⟨rfl, Sat.weak (B := rw TB 1 (.slice a3 wd c3) (bys (leb m wd))) (hs2.eq (by ac_rfl))⟩
theorem number_bys (g e' lo n c m wd : Nat) (l : List UInt8) (F : Assn) (w : World) (hs : Sat (Sl.block g e' (bys l) * F) w) (h1 : 1 ≤ wd) (h4 : wd ≤ 4) (hm : m < 256 ^ wd) (hwn : wd ≤ n) (h2 : lo + n ≤ l.length) :
 Calls Tryz.prog 234 #[.slice (some ⟨g, lo, none⟩) n c, .int .i64 m, .int .i64 wd] w fun e w' => e = .returned (.tuple #[]) ∧ Sat (Sl.block g e' (bys (l.take lo ++ leb m wd ++ l.drop (lo + wd))) * F) w' := by
 refine (number_any g e' lo n c m wd (bys l) F w hs h1 h4 hm hwn (by rw [bys_len]; exact h2)).mono ?_
 rintro e w' ⟨rfl, h⟩
 rw [← bys_take, ← bys_drop, ← bys_append, ← bys_append] at h
 exact ⟨rfl, h⟩
theorem reads_at {b e lo n c : Nat} {l : List UInt8} (h : lo + n ≤ l.length) (hm : l.length ≤ maxLen) (hc : c = l.length - lo) (hlo : lo < l.length) : Reads (Sl.block b e (bys l)) (.slice (some ⟨b, lo, none⟩) n c) ((l.drop lo).take n) := by
 intro F w hs
 have := (Reads.block0 (b := b) (e := e) hm F w hs).cut lo (lo + n) (by omega) h
 rw [show lo + n - lo = n by omega] at this
 have e1 : cutA (some ⟨b, 0, none⟩) l.length lo 1 = some ⟨b, lo, none⟩ := by
  have : l.length ≠ lo := by omega
  simp [cutA, this, Addr.add]
  omega
 rw [e1] at this
 rw [hc]
 exact this
set_option maxRecDepth 100000 in
theorem pagePack_go (no kind : Nat) (body : List UInt8) (v : Value) (B F : Assn) (w : World) (hB : Reads B v body) (hs : Sat (B * F) w) (h1 : no < 1048576) (h2 : 1 ≤ kind) (h3 : kind ≤ 9) (hl : body.length ≤ 244) :
 Calls Tryz.prog 194 #[.int .i64 no, .int .i64 kind, v] w fun e w' => ∃ g, e = .returned (.tuple #[.slice (some ⟨g, 0, none⟩) 256 256, .int .i64 0]) ∧ Sat (Sl.block g 346 (bys (pgPack no kind body)) * (B * F)) w' := by
 obtain ⟨i0, E⟩ := elemB
 obtain ⟨va, vc, rfl, hvc, hvm⟩ := (hB F w hs).len
 haveI := hs.i
 have g1 : ¬ (no : Int) < 0 := by omega
 have g2 : ¬ (1048576 : Int) ≤ no := by omega
 have g3 : ¬ (kind : Int) < 1 := by omega
 have g4 : ¬ (9 : Int) < kind := by omega
 have g5 : ¬ (244 : Int) < body.length := by omega
 go_enter Tryz.func194, Tryz.ntmps194
 go_upto_region 7 with (fail)
 obtain ⟨P, hP⟩ : ∃ P, w.heap.size = P := ⟨_, rfl⟩
 have hz : Tryz.zeroCells346 = (bys (zs 256)).toArray := by kernel_rfl
 have hk8 : (Value.int .u8 (kind : Int)) = bv (UInt8.ofNat kind) := by unfold bv; rw [show (UInt8.ofNat kind).toNat = kind by simp [UInt8.toNat_ofNat']; omega]
 have hs1 : Sat (Sl.block P 346 (bys (UInt8.ofNat kind :: zs 255)) * (B * F)) (w.alloc (.cells (Tryz.zeroCells346.setIfInBounds 0 (.int .u8 kind)) 346)) := by
  have := hs.alloc (Tryz.zeroCells346.setIfInBounds 0 (.int .u8 kind)) 346
  rw [hP] at this
  refine this.eq ?_
  rw [hz, hk8]
  congr 1
 rw [hP]
 generalize w.alloc (.cells (Tryz.zeroCells346.setIfInBounds 0 (.int .u8 kind)) 346) = w1 at hs1 ⊢
 clear hs this hz hk8 hP
 haveI := hs1.i
 have n1 := number_bys P 346 2 2 254 body.length 2 _ _ w1 hs1 (by omega) (by omega) (by omega) (by omega) (by simp [zs])
 have e1 : (UInt8.ofNat kind :: zs 255).take 2 ++ leb body.length 2 ++ (UInt8.ofNat kind :: zs 255).drop (2 + 2) = UInt8.ofNat kind :: 0 :: (leb body.length 2 ++ zs 252) := by simp [zs, List.replicate]
 rw [e1] at n1
 clear e1
 go_wp2_with fail
 refine n1.mono ?_
 rintro e w2 ⟨rfl, hs2⟩
 clear n1 hs1
 haveI := hs2.i
 have n2 := number_bys P 346 4 4 252 no 4 _ _ w2 hs2 (by omega) (by omega) (by omega) (by omega) (by simp [zs, leb_len])
 have e2 : (UInt8.ofNat kind :: 0 :: (leb body.length 2 ++ zs 252)).take 4 ++ leb no 4 ++ (UInt8.ofNat kind :: 0 :: (leb body.length 2 ++ zs 252)).drop (4 + 4) = pgHead no kind body ++ zs 248 := by
  have hl2 := leb_len body.length 2
  obtain ⟨a, b, hab⟩ : ∃ a b, leb body.length 2 = [a, b] := by
   match h : leb body.length 2, hl2 with
   | [a, b], _ => exact ⟨a, b, rfl⟩
  unfold pgHead
  rw [hab]
  simp [zs, List.replicate]
 rw [e2] at n2
 clear e2
 go_wp2_with fail
 refine n2.mono ?_
 rintro e w3 ⟨rfl, hs3⟩
 clear n2 hs2
 haveI := hs3.i
 have hph : (pgHead no kind body).length = 8 := pgHead_len no kind body
 obtain ⟨w4, r1, hs4⟩ := run_copy_block E 26 3 (g := P) (lo := 12) (n := 244) (c := 244) (x := .slice va body.length vc) (l := body) (w := w3) (takeI (w := w3) (Sl.block P 346 (bys (pgHead no kind body ++ zs 248)))) (hB _ w3 (takeI (w := w3) B)) hl (by rw [bys_len, List.length_append, hph, zs_len]; omega)
 have e3 : (bys (pgHead no kind body ++ zs 248)).take 12 ++ bys body ++ (bys (pgHead no kind body ++ zs 248)).drop (12 + body.length) = bys (pgHead no kind body ++ (zs 4 ++ pgTail body)) := by
  rw [← bys_take, ← bys_drop, ← bys_append, ← bys_append]
  congr 1
  have a1 : (pgHead no kind body ++ zs 248).take 12 = pgHead no kind body ++ zs 4 := by
   rw [List.take_append, hph, List.take_of_length_le (by omega)]
   simp [zs]
  have a2 : (pgHead no kind body ++ zs 248).drop (12 + body.length) = zs (244 - body.length) := by
   rw [List.drop_append, hph, List.drop_of_length_le (by omega), List.nil_append]
   unfold zs
   rw [List.drop_replicate]
   congr 1
   omega
  rw [a1, a2]
  unfold pgTail
  simp
 rw [e3] at hs4
 clear e3
 obtain ⟨head, hhd⟩ : ∃ x, pgHead no kind body = x := ⟨_, rfl⟩
 obtain ⟨tail, htl⟩ : ∃ x, pgTail body = x := ⟨_, rfl⟩
 have htl2 : tail.length = 244 := by rw [← htl]; exact pgTail_len hl
 rw [hhd] at hs4 hph
 rw [htl] at hs4
 have hll : (head ++ (zs 4 ++ tail)).length = 256 := by rw [List.length_append, List.length_append, hph, htl2, zs_len]
 have hR1 : Reads (Sl.block P 346 (bys (head ++ (zs 4 ++ tail)))) (.slice (some ⟨P, 0, none⟩) 8 256) head := by
  have := reads_at (b := P) (e := 346) (lo := 0) (n := 8) (c := 256) (l := head ++ (zs 4 ++ tail)) (by omega) (by rw [hll]; unfold maxLen; omega) (by omega) (by omega)
  rwa [List.drop_zero, List.take_append_of_le_length (by omega), List.take_of_length_le (by omega)] at this
 have hR2 : Reads (Sl.block P 346 (bys (head ++ (zs 4 ++ tail)))) (.slice (some ⟨P, 12, none⟩) 244 244) tail := by
  have := reads_at (b := P) (e := 346) (lo := 12) (n := 244) (c := 244) (l := head ++ (zs 4 ++ tail)) (by omega) (by rw [hll]; unfold maxLen; omega) (by omega) (by omega)
  have e : (head ++ (zs 4 ++ tail)).drop 12 = tail := by rw [List.drop_append, List.drop_of_length_le (by omega), hph, List.drop_append, List.drop_of_length_le (by simp [zs])]; simp [zs]
  rw [e, List.take_of_length_le (by omega)] at this
  exact this
 have hcl : crc (head ++ tail) < 4294967296 := crc_lt _
 obtain ⟨cr, hcr⟩ : ∃ x, crc (head ++ tail) = x := ⟨_, rfl⟩
 rw [hcr] at hcl
 have HC : Aside (∀ g e G w, Sat (Sl.block g e [.slice (some ⟨P, 0, none⟩) 8 256, .slice (some ⟨P, 12, none⟩) 244 244] * (Sl.block P 346 (bys (head ++ (zs 4 ++ tail))) * G)) w → Calls Tryz.prog 183 #[.slice (some ⟨g, 0, none⟩) 2 2] w fun e w' => e = .returned (.int .u32 cr) ∧ w = w') := (fun g e G w h => (crcOf_any _ [head, tail] w (parts2 hR1 hR2 h)).mono fun e w' h => by
  have e3 : [head, tail].flatten = head ++ tail := by simp
  rw [e3, hcr] at h
  exact h : ∀ g e G w, _)
 have HN : Aside (∀ G w, Sat (Sl.block P 346 (bys (head ++ (zs 4 ++ tail))) * G) w → Calls Tryz.prog 234 #[.slice (some ⟨P, 8, none⟩) 4 248, .int .i64 cr, .int .i64 4] w fun e w' => e = .returned (.tuple #[]) ∧ Sat (Sl.block P 346 (bys (pgPack no kind body)) * G) w') := (fun G w h => (number_bys P 346 8 4 248 cr 4 _ G w h (by omega) (by omega) (by omega) (by omega) (by omega)).mono fun e w' h => by
  have e4 : (head ++ (zs 4 ++ tail)).take 8 ++ leb cr 4 ++ (head ++ (zs 4 ++ tail)).drop (8 + 4) = pgPack no kind body := by
   rw [List.take_append_of_le_length (by omega), List.take_of_length_le (by omega), List.drop_append, List.drop_of_length_le (by omega), hph, List.drop_append, List.drop_of_length_le (by simp [zs])]
   unfold pgPack
   rw [hhd, htl, hcr]
   simp [zs]
  rw [e4] at h
  exact h : ∀ G w, _)
 clear hhd htl hR1 hR2 hcr
 haveI := hs4.i
 have hw1 : IntKind.i64.wrap (cr : Int) = cr := IntWalk.i64_in _ (by omega)
 go_upto_region 10 with (fail)
 go_region_law first
  | (go_simp; go_at_call 183; refine Calls.mono (HC.out _ 26 _ _ (takeI2 _ _)) ?_; rintro e w5 ⟨rfl, rfl⟩)
  | (go_simp; go_at_call 234; refine Calls.mono (HN.out _ _ (by exact takeI _)) ?_; rintro e w6 ⟨rfl, hs6⟩; haveI := hs6.i)
 all_goals
  go_wp2
  go_ret2
  exact ⟨P, rfl, keep3 _ B F⟩
end Go.Proofs.YtfhbmblbidcmmaaGreat
