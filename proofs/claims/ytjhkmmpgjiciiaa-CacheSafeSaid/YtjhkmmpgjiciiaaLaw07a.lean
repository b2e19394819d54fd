/-
  The laws of the cache: full; the document's example.
-/
import Derived.Test.YtjhkmmpgjiciiaaCk7
import Derived.Test.YtjhkmmpgjiciiaaLaw04b
namespace Go.Proofs.Ytjhkmmpgjiciiaa
set_option linter.unusedSimpArgs false
set_option linter.unusedVariables false
open Go.RowKit Go.Sl Go.Dk
open Go.Lru (ikey)
attribute [local go_sem ↓] Go.wp_at_zero Go.wp_at_succ
attribute [local go_sem] Go.Sl.cell_sat Go.Sl.frozen_sat

/-- a page of the laws -/
def pgx (x : UInt8) : List UInt8 := (List.range 256).map fun i => x + UInt8.ofNat (i / 64)
def pgi (x : UInt8) (j : Nat) : List UInt8 := (List.range 256).map fun i => if i < j then x + UInt8.ofNat (i / 64) else 0
theorem pgx_len (x : UInt8) : (pgx x).length = 256 := by simp [pgx]
theorem pgi_len (x : UInt8) (j : Nat) : (pgi x j).length = 256 := by simp [pgi]
def z256 : List UInt8 := List.replicate 256 0
theorem pgi_zero (x : UInt8) : pgi x 0 = z256 := by
  unfold z256 pgi
  apply List.ext_getElem
  · rw [List.length_map, List.length_range, List.length_replicate]
  · intro i h1 h2
    rw [List.getElem_map, List.getElem_range, if_neg (by omega), List.getElem_replicate]
theorem pgi_all (x : UInt8) : pgi x 256 = pgx x := by
  apply List.ext_getElem
  · simp [pgi, pgx]
  · intro i h1 h2
    have : i < 256 := by simpa [pgi] using h1
    simp [pgi, pgx, this]
theorem pgi_at (x : UInt8) (j : Nat) (h : j < 256) : (pgi x j)[j]? = some 0 := by simp [pgi, h]
theorem pgi_succ (x : UInt8) (j : Nat) (h : j < 256) : (pgi x j).set j (x + UInt8.ofNat (j / 64)) = pgi x (j + 1) := by
  apply List.ext_getElem
  · simp [pgi]
  · intro i h1 h2
    rw [List.getElem_set]
    by_cases hi : j = i
    · subst hi; simp [pgi]
    · rw [if_neg hi]
      simp only [pgi, List.getElem_map, List.getElem_range]
      by_cases h3 : i < j
      · rw [if_pos h3, if_pos (by omega)]
      · rw [if_neg h3, if_neg (by omega)]
theorem pgx_add (x : UInt8) (j : Nat) (h : j < 256) : ((x + UInt8.ofNat (j / 64)).toNat : Int) = ((x.toNat : Int) + (j : Int) / 64) % 256 := by
  rw [UInt8.toNat_add, UInt8.toNat_ofNat']
  omega

set_option maxHeartbeats 400000 in
theorem full07_any (x : UInt8) (F : Assn) (w : World) (hs : Sat F w) :
    Calls Try.prog 56 #[.int .u8 x.toNat] w fun e w' => ∃ b, e = .returned (.slice (some ⟨b, 0, none⟩) 256 256) ∧ Sat (rw TB 1 (.slice (some ⟨b, 0, none⟩) 256 256) (bys (pgx x)) * F) w' := by
  have hmk := mk_bytes 256 (by omega)
  rw [show ((256 : Nat) : Int) = 256 from rfl, show List.replicate 256 (0 : UInt8) = z256 from rfl] at hmk
  have hs1 := hs.alloc (bys z256).toArray TB
  have hs2 : Sat (block w.heap.size TB (bys (pgi x 0)) * F) (w.alloc (.cells (bys z256).toArray TB)) := by rw [pgi_zero]; exact hs1
  clear hs1 hs
  go_enter Try.func56, Try.ntmps56
  go_wp2_with fail
  go_loopg [4] 256 (fun k i wr => ∃ (j : Nat), i = .int .i64 j ∧ j ≤ 256 ∧ Aside (k = 256 - j) ∧ Sat (block w.heap.size TB (bys (pgi x j)) * F) wr)
  case atStart => exact ⟨0, rfl, by omega, rfl, hs2⟩
  case round =>
    clear hs2 hmk
    obtain ⟨j, rfl, hj, A, hs⟩ := hrel
    by_cases hlt : j < 256
    · have hlt' : (j : Int) < 256 := by omega
      haveI : At (bys (pgi x j)) j (.int .u8 0) := ⟨bys_at (pgi_at x j hlt)⟩
      haveI := hs.i
      have hx := x.toNat_lt
      go_wp2_with fail
      go_roundg (256 - (j + 1))
      case measure => have := A.out; omega
      case rel =>
        refine ⟨j + 1, by go_num, by omega, rfl, ?_⟩
        rw [← pgx_add x j hlt, ← pgi_succ x j hlt, bv_set]
        exact satI_eq rfl
    · have hlt' : ¬ (j : Int) < 256 := by omega
      obtain rfl : j = 256 := by omega
      go_wp2
      go_ret
      refine ⟨w.heap.size, rfl, ?_⟩
      rw [← pgi_all]
      exact Sat.rw_shut (sp := []) (by rw [bys_len, pgi_len]) (by rw [List.append_nil, bys_len, pgi_len]) (by omega) (by unfold maxLen; omega) (by rw [List.append_nil]; exact hs)

/-! the document's example -/
def aw0 : Ck := ⟨nmA, 1, 0, Dk.new 10000, [], []⟩
def aw1 : Ck := ⟨nmA, 1, 0, Dk.new 10000, [⟨0, 0, true⟩], [(0, pgx 7)]⟩
def awd1 : Dk := ((Dk.new 10000).write nmA 0 (pgx 7)).2
def aw2 : Ck := ⟨nmA, 1, 0, awd1, [⟨1, 0, true⟩], [(1, pgx 8)]⟩
def awd2 : Dk := (awd1.write nmA 256 (pgx 8)).2
def aw3 : Ck := ⟨nmA, 1, 1, awd2, [⟨0, 0, false⟩], [(0, pgx 7)]⟩

theorem marked_one (k : Int) : markedI [⟨k, 0, true⟩] = [k] := by
  unfold markedI sortI
  simp

theorem aw_put0 : aw0.put 0 (pgx 7) = (0, aw1) := by
  have hr : aw0.room = (0, aw0) := rfl
  have ht : aw0.take 0 (pgx 7) = (0, { aw0 with its := [⟨0, 0, false⟩], pgs := [(0, pgx 7)] }) := by
    unfold Ck.take; rw [hr]; rfl
  unfold Ck.put
  rw [if_neg (by rw [pgx_len]; omega), if_neg (by decide), ht]
  rfl
theorem awd1_ok : ((Dk.new 10000).write nmA (0 * 256) (pgx 7)).1 = 0 := by decide +kernel
theorem awd1_size : awd1.size nmA = 256 := by decide +kernel
theorem awd1_read : awd1.read nmA (0 * 256) 256 = (0, pgx 7) := by decide +kernel
theorem awd2_ok : (awd1.write nmA (1 * 256) (pgx 8)).1 = 0 := by decide +kernel
theorem awd2_size : awd2.size nmA = 512 := by decide +kernel

/-- a cache of one page, that is dirty, makes room -/
theorem one_room (nm : ByteArray) (r : Int) (d : Dk) (k : Int) (b : List UInt8) (hs : ¬ max 0 (d.size nm) < k * 256) (hw : (d.write nm (k * 256) b).1 = 0) :
    (⟨nm, 1, r, d, [⟨k, 0, true⟩], [(k, b)]⟩ : Ck).room = (0, ⟨nm, 1, r, (d.write nm (k * 256) b).2, [], []⟩) := by
  have h1 : (⟨nm, 1, r, d, [⟨k, 0, true⟩], [(k, b)]⟩ : Ck).write k = (0, ⟨nm, 1, r, (d.write nm (k * 256) b).2, [⟨k, 0, false⟩], [(k, b)]⟩) := by
    have hd : (⟨nm, 1, r, d, [⟨k, 0, true⟩], [(k, b)]⟩ : Ck).dirty k = true := by unfold Ck.dirty; simp only; rw [marked_one]; simp
    have hp : (⟨nm, 1, r, d, [⟨k, 0, true⟩], [(k, b)]⟩ : Ck).page k = b := by simp [Ck.page, pget]
    unfold Ck.write
    rw [if_neg (by simp [hd]), if_neg hs]
    unfold Ck.write2
    rw [hp]
    simp only [hw]
    simp [markI, atI]
  unfold Ck.room
  simp only [List.length_cons, List.length_nil]
  rw [if_neg (by omega)]
  have h2 : oldI [(⟨k, 0, true⟩ : It)] = some ⟨k, 0, true⟩ := by simp [oldI]
  rw [h2]
  simp only
  unfold Ck.release
  rw [h1]
  simp [dropB, outI, pdel]
theorem one_put (nm : ByteArray) (r : Int) (d : Dk) (k j : Int) (b c : List UInt8) (hs : ¬ max 0 (d.size nm) < k * 256) (hw : (d.write nm (k * 256) b).1 = 0) (hj : k ≠ j) (h0 : 0 ≤ j) (h1 : j < 1048576) (hc : c.length = 256) :
    (⟨nm, 1, r, d, [⟨k, 0, true⟩], [(k, b)]⟩ : Ck).put j c = (0, ⟨nm, 1, r, (d.write nm (k * 256) b).2, [⟨j, 0, true⟩], [(j, c)]⟩) := by
  unfold Ck.put
  rw [if_neg (by omega), if_neg (by simp [hasI, hj])]
  unfold Ck.take
  rw [one_room nm r d k b hs hw]
  simp [pput, markI, atI]
theorem one_get (nm : ByteArray) (r : Int) (d : Dk) (k j : Int) (b c : List UInt8) (hs : ¬ max 0 (d.size nm) < k * 256) (hw : (d.write nm (k * 256) b).1 = 0) (hj : k ≠ j) (h0 : 0 ≤ j) (h1 : j < 1048576) (hc : d.read nm (j * 256) 256 = (0, c)) :
    (⟨nm, 1, r, d, [⟨k, 0, true⟩], [(k, b)]⟩ : Ck).get j = (0, c, ⟨nm, 1, r + 1, (d.write nm (k * 256) b).2, [⟨j, 0, false⟩], [(j, c)]⟩) := by
  unfold Ck.get
  rw [if_neg (by omega), if_neg (by simp [hasI, hj])]
  simp only [hc]
  unfold Ck.take
  rw [one_room nm r d k b hs hw]
  simp [pput]

theorem aw_put1 : aw1.put 1 (pgx 8) = (0, aw2) := one_put nmA 0 (Dk.new 10000) 0 1 (pgx 7) (pgx 8) (by decide +kernel) awd1_ok (by omega) (by omega) (by omega) (pgx_len 8)
theorem aw_get : aw2.get 0 = (0, pgx 7, aw3) := one_get nmA 0 awd1 1 0 (pgx 8) (pgx 7) (by rw [awd1_size]; decide) awd2_ok (by omega) (by omega) (by omega) awd1_read

theorem aw0_ok : CkOk 0 aw0 := ⟨⟨by simp [aw0, keysI], by simp [aw0], by simp [aw0]⟩, by simp [aw0], fun k => by simp [aw0, hasI, pget], rfl, by simp [aw0], by simp [aw0], by simp [aw0], ok_new 10000 (by omega) (by unfold big; omega), by decide +kernel, by simp [aw0]⟩
theorem aw1_ok : CkOk U aw1 := by have := put_ok aw0_ok 0 (pgx 7); rw [aw_put0] at this; exact this.more (by omega)
theorem aw2_ok : CkOk (U + U) aw2 := by have := put_ok aw1_ok 1 (pgx 8); rw [aw_put1] at this; exact this

set_option maxRecDepth 100000 in
set_option maxHeartbeats 1000000 in
theorem awake07 (F : Assn) (w : World) (hs : Sat F w) :
    Calls Try.prog 54 #[] w fun e w' => e = .returned (.bool true) ∧ Sat F w' := by
  have hn : Dk.named nmA = true := by decide +kernel
  go_enter Try.func54, Try.ntmps54
  go_wp2_with fail
  refine (newD_yes 10000 F w hs (by omega) (by omega)).mono ?_
  rintro e w1 ⟨D, rfl, hs1⟩
  have hnew := newC_yes D (Dk.new 10000) nmA 1 F w1 hs1 hn (by omega) (by omega)
  unfold nmA at hnew
  clear hs
  go_wp2_with fail
  refine hnew.mono ?_
  rintro e w2 ⟨C, rfl, hs2⟩
  have hs2' : Sat (cacheP C D aw0 * F) w2 := hs2
  have hf := full07_any 7 _ w2 hs2'
  rw [show (((7 : UInt8).toNat : Nat) : Int) = 7 from rfl] at hf
  clear hnew hs1 hs2 hs2'
  go_wp2_with fail
  refine hf.mono ?_
  rintro e w3 ⟨b3, rfl, hs3⟩
  have hput := put_any C D aw0 0 0 _ (pgx 7) (rw TB 1 (.slice (some ⟨b3, 0, none⟩) 256 256) (bys (pgx 7))) F w3 Reads.rw (hs3.eq (by ac_rfl)) aw0_ok (by omega)
  rw [aw_put0] at hput
  clear hf hs3
  go_wp2_with fail
  refine hput.mono ?_
  rintro e w4 ⟨rfl, hs4⟩
  have hf := full07_any 8 _ w4 (hs4.drop (rw TB 1 (.slice (some ⟨b3, 0, none⟩) 256 256) (bys (pgx 7))))
  rw [show (((8 : UInt8).toNat : Nat) : Int) = 8 from rfl] at hf
  clear hput hs4
  go_wp2_with fail
  refine hf.mono ?_
  rintro e w5 ⟨b5, rfl, hs5⟩
  have hput := put_any C D aw1 U 1 _ (pgx 8) (rw TB 1 (.slice (some ⟨b5, 0, none⟩) 256 256) (bys (pgx 8))) F w5 Reads.rw (hs5.eq (by ac_rfl)) aw1_ok (by unfold U; omega)
  rw [aw_put1] at hput
  clear hf hs5
  go_wp2_with fail
  refine hput.mono ?_
  rintro e w6 ⟨rfl, hs6⟩
  have hget := get_any C D aw2 (U + U) 0 _ w6 (hs6.drop (rw TB 1 (.slice (some ⟨b5, 0, none⟩) 256 256) (bys (pgx 8)))) aw2_ok (by unfold U; omega)
  rw [aw_get] at hget
  clear hput hs6
  go_wp2_with fail
  refine hget.mono ?_
  rintro e w7 ⟨v7, rfl, hs7⟩
  obtain ⟨va, vc, rfl, _, _⟩ := rw_vb hs7
  have hf := full07_any 7 _ w7 hs7
  rw [show (((7 : UInt8).toNat : Nat) : Int) = 7 from rfl] at hf
  clear hget hs7
  go_wp2_with fail
  refine hf.mono ?_
  rintro e w8 ⟨b8, rfl, hs8⟩
  have hsame := same_any _ _ _ _ w8 (Reads.rw _ _ (hs8.take (rw TB 1 (.slice va (pgx 7).length vc) (bys (pgx 7))))) (Reads.rw _ _ hs8)
  simp only [decide_true] at hsame
  clear hf
  go_wp2_with fail
  refine hsame.mono ?_
  rintro e w9 ⟨rfl, n9, rfl⟩
  have hs9 : Sat (cacheP C D aw3 * F) (w8.drewN n9) := (hs8.drewN n9).right.right
  obtain ⟨L, PM, ps, hp, hs10⟩ := Sat.cache_open hs9
  unfold cacheA at hs10
  have hsize := size_any D aw3.d nmA _ (w8.drewN n9) (hs10.take (diskP D aw3.d)) (by decide)
  rw [show aw3.d.size nmA = 512 from awd2_size] at hsize
  unfold nmA at hsize
  have hres := resident_any C D aw3 F (w8.drewN n9) hs9
  rw [show ((aw3.pgs.length : Nat) : Int) = 1 from rfl] at hres
  have hrds := reads_any C D aw3 F (w8.drewN n9) hs9
  rw [show aw3.reads = 1 from rfl] at hrds
  clear hsame hs8 hp hs10
  go_wp2_with fail
  refine hsize.mono ?_
  rintro e w' ⟨rfl, rfl⟩
  go_wp2_with fail
  refine hres.mono ?_
  rintro e w' ⟨rfl, rfl⟩
  go_wp2_with fail
  refine hrds.mono ?_
  rintro e w' ⟨rfl, rfl⟩
  go_wp2
  go_ret
  exact ⟨rfl, hs9.right⟩

end Go.Proofs.Ytjhkmmpgjiciiaa
