/-
  The disk's laws: what a call writes; DiskRooms, the walk.
-/
import Derived.Test.YtjhkmmpgjiciiaaRm0
import Derived.Test.YtjhkmmpgjiciiaaLaw04b
import Derived.Test.YtjhkmmpgjiciiaaRef1
import Derived.Deep.DeepCutAuto
import Derived.Deep.CutBlock
namespace Go.Proofs.Ytjhkmmpgjiciiaa
set_option linter.unusedSimpArgs false
set_option linter.unusedVariables false
open Go.RowKit Go.Sl Go.Dk
attribute [local go_sem ↓] Go.wp_at_zero Go.wp_at_succ
attribute [local go_sem] Go.Sl.cell_sat Go.Sl.frozen_sat

abbrev TCd : TypeId := 65
def bxl (k : Nat) (x : UInt8) : List UInt8 := (List.range k).map fun i => x + UInt8.ofNat (i / 64)
theorem bxl_len (k : Nat) (x : UInt8) : (bxl k x).length = k := by simp [bxl]
theorem bxl_succ (k : Nat) (x : UInt8) : bxl (k + 1) x = bxl k x ++ [x + UInt8.ofNat (k / 64)] := by simp [bxl, List.range_succ]
theorem bx_add (x : UInt8) (j : Nat) (h : j < 400) : ((x + UInt8.ofNat (j / 64)).toNat : Int) = ((x.toNat : Int) + (j : Int) / 64) % 256 := by
  rw [UInt8.toNat_add, UInt8.toNat_ofNat']
  omega

def crowD (kd : Int) (nm : ByteArray) (n len : Int) (x : UInt8) (pv : Value) : List Value := [.int .i64 kd, .string nm, .int .i64 n, .int .i64 len, .int .u8 x.toNat, pv]

set_option maxHeartbeats 800000 in
theorem bytes_any (kd : Int) (nm : ByteArray) (n len : Int) (x : UInt8) (pa : Option Addr) (pn pc : Nat) (F : Assn) (w : World) (hs : Sat F w) (k : Nat) (hk : len % 400 = (k : Int)) :
    Calls Try.prog 46 #[.agg #[.int .i64 kd, .string nm, .int .i64 n, .int .i64 len, .int .u8 x.toNat, .slice pa pn pc]] w fun e w' => ∃ a c, e = .returned (.slice a k c) ∧ Sat (rw TB 1 (.slice a k c) (bys (bxl k x)) * F) w' := by
  obtain ⟨i0, E⟩ := elemB
  have hk4 : k < 400 := by omega
  have hp := fun w => pick_any len 400 w (by omega) (by omega)
  rw [hk] at hp
  have HP : Aside (∀ w, Calls Try.prog 17 #[.int .i64 len, .int .i64 400] w fun e w' => e = .returned (.int .i64 (k : Int)) ∧ w = w') := hp
  have hs1 := hs.alloc #[.int .i64 kd, .string nm, .int .i64 n, .int .i64 len, .int .u8 x.toNat, .slice pa pn pc] TCd
  have hs2 : Sat (rw TB 1 (.slice none 0 0) (bys (bxl 0 x)) * (block w.heap.size TCd (crowD kd nm n len x (.slice pa pn pc)) * F)) _ := Sat.rw_nil hs1
  clear hk hp hs1 hs
  go_enter Try.func46, Try.ntmps46
  go_wp2_with fail
  go_loopg [3, 4] k (fun g t3 t4 wr => ∃ (j : Nat) (a : Option Addr) (c : Nat), t4 = .int .i64 j ∧ t3 = .slice a j c ∧ j ≤ k ∧ Aside (g = k - j) ∧ Sat (rw TB 1 (.slice a j c) (bys (bxl j x)) * (block w.heap.size TCd (crowD kd nm n len x (.slice pa pn pc)) * F)) wr)
  case atStart => exact ⟨0, none, 0, rfl, rfl, by omega, rfl, hs2⟩
  case round =>
    clear hs2
    obtain ⟨j, a, c, rfl, rfl, hj, A, hs⟩ := hrel
    unfold crowD at hs
    have hx := x.toNat_lt
    haveI := hs.i
    by_cases hlt : j < k
    · have hlt' : (j : Int) < k := by omega
      have hadd := bx_add x j (by omega)
      have HA : Aside (((x + UInt8.ofNat (j / 64)).toNat : Int) = ((x.toNat : Int) + (j : Int) / 64) % 256) := hadd
      clear hadd
      go_wp2_with fail
      refine (HP.out _).mono ?_
      rintro e w' ⟨rfl, rfl⟩
      go_wp2_with (at_builtin; refine wpl_append_same E rfl (.tmp 12) (.tmp 19) rfl rfl rfl (takeI (rw TB 1 (.slice a j c) (bys (bxl j x)))) (Src.one_new (b := wr.heap.size) (e := TB) (takeI (block wr.heap.size TB [.int .u8 (((x.toNat : Int) + (j : Int) / 64) % 256)])) rfl) (by unfold maxLen; omega) (by omega) ?_; intro a' c' w' hs7 hnil; clear hnil)
      go_roundg (k - (j + 1))
      case measure => have := A.out; omega
      case rel =>
        refine ⟨j + 1, a', c', by go_num, rfl, by omega, rfl, ?_⟩
        rw [bxl_succ, bys_append, show bys [x + UInt8.ofNat (j / 64)] = [Value.int .u8 ((x + UInt8.ofNat (j / 64)).toNat : Int)] from rfl, HA.out]
        refine Sat.weak (B := block wr.heap.size TB [.int .u8 (((x.toNat : Int) + (j : Int) / 64) % 256)]) (hs7.eq ?_)
        unfold crowD
        ac_rfl
    · have hlt' : ¬ (j : Int) < k := by omega
      obtain rfl : j = k := by omega
      go_wp2_with fail
      refine (HP.out _).mono ?_
      rintro e w' ⟨rfl, rfl⟩
      go_wp2
      go_ret
      exact ⟨a, c, rfl, (hs.take2 (rw TB 1 (.slice a j c) (bys (bxl j x))) F).eq (by ac_rfl) |>.weak (B := block w.heap.size TCd _) |> fun h => h⟩

structure CallD where
  kd : Int
  nm : ByteArray
  n : Int
  len : Int
  x : UInt8
  pa : Option Addr
  pn : Nat
  pc : Nat
def crowDD (c : CallD) : List Value := crowD c.kd c.nm c.n c.len c.x (.slice c.pa c.pn c.pc)

set_option maxRecDepth 100000 in
set_option maxHeartbeats 8000000 in
theorem diskRooms_walk (room : Int) (v : Value) (cs : List CallD) (w : World) (hv : Rws w v 6 (cs.map crowDD)) (hl : cs.length ≤ 9223372036854775807) (hwf : ∀ c ∈ cs, c.nm.size ≤ 9223372036854775807 ∧ -9223372036854775808 ≤ c.n ∧ c.n ≤ 9223372036854775807) :
    Calls Try.prog 10 #[.int .i64 room, v] w fun e w' => e = .returned (.bool true) ∧ Below w.heap.size w w' := by
  obtain ⟨va, vc, hvv⟩ := hv.len
  rw [List.length_map] at hvv
  subst hvv
  obtain ⟨R, hRR, hR2⟩ : ∃ m : Nat, room % 2000 = (m : Int) ∧ m < 2000 := ⟨(room % 2000).toNat, by omega, by omega⟩
  have hp0 := pick_any room 2000 w (by omega) (by omega)
  rw [hRR] at hp0
  clear hRR
  have HWF : Aside (∀ c ∈ cs, c.nm.size ≤ 9223372036854775807 ∧ -9223372036854775808 ≤ c.n ∧ c.n ≤ 9223372036854775807) := hwf
  clear hwf
  go_enter Try.func10, Try.ntmps10
  go_wp2_with fail
  refine hp0.mono ?_
  rintro e w' ⟨rfl, rfl⟩
  go_wp2_with fail
  refine (newD_yes (R : Int) (old w) w (Sat.old_self w) (by omega) (by omega)).mono ?_
  rintro e w1 ⟨D, rfl, hs1⟩
  clear hp0
  go_wp2_with fail
  refine (awake04 _ w1 hs1).mono ?_
  rintro e w2 ⟨rfl, hs2⟩
  clear hs1
  go_wp2_with fail
  go_loopg [7] 60 (fun k i wr => ∃ (j : Nat) (d : Dk), i = .int .i64 j ∧ j ≤ 60 ∧ Aside (k = 60 - j ∧ Rm (R : Int) (j * 402) d) ∧ Sat (diskP D d * old w) wr)
  case atStart => exact ⟨0, Dk.new R, rfl, by omega, ⟨rfl, by simpa using Rm.new (R := (R : Int)) (by omega) (by omega)⟩, hs2⟩
  case round =>
    clear hs2
    obtain ⟨j, d, rfl, hj, A, hs⟩ := hrel
    by_cases hgo : j < cs.length ∧ j < 60
    · obtain ⟨hjl, hj2⟩ := hgo
      have hj3 : (j : Int) < cs.length := by omega
      have hj4 : (j : Int) < 60 := by omega
      obtain ⟨⟨kd, nm, n, len, x, pa, pn, pc⟩, hx⟩ : ∃ x, cs[j]? = some x := ⟨cs[j], by simp [hjl]⟩
      obtain ⟨rb, ro, e1, hcell⟩ := hv.at (show (cs.map crowDD)[j]? = some (crowDD ⟨kd, nm, n, len, x, pa, pn, pc⟩) by simp [hx])
      subst e1
      obtain ⟨hnm, hn1, hn2⟩ := HWF.out _ (List.mem_of_getElem? hx)
      simp only at hnm hn1 hn2
      haveI : OldAt w rb (ro + j * 6) (.int .i64 kd) := ⟨by have := hcell 0 _ rfl; simpa using this⟩
      haveI : OldAt w rb (ro + j * 6 + 1) (.string nm) := ⟨hcell 1 _ rfl⟩
      haveI : OldAt w rb (ro + j * 6 + 2) (.int .i64 n) := ⟨hcell 2 _ rfl⟩
      haveI : OldAt w rb (ro + j * 6 + 3) (.int .i64 len) := ⟨hcell 3 _ rfl⟩
      haveI : OldAt w rb (ro + j * 6 + 4) (.int .u8 x.toNat) := ⟨hcell 4 _ rfl⟩
      haveI : OldAt w rb (ro + j * 6 + 5) (.slice pa pn pc) := ⟨hcell 5 _ rfl⟩
      clear hcell hx
      obtain ⟨k, hk, hk4⟩ : ∃ m : Nat, len % 400 = (m : Int) ∧ m < 400 := ⟨(len % 400).toNat, by omega, by omega⟩
      have HK : Aside (len % 400 = (k : Int)) := hk
      clear hk
      have hx8 := x.toNat_lt
      haveI := hs.i
      obtain ⟨hgk, hrm⟩ := A.out
      have HG : Aside (gk = 60 - j) := hgk
      have hok := hrm.ok
      have hsz := hrm.had nm
      have hfr := hrm.free
      obtain ⟨sz, hsz2⟩ : ∃ z, had (d.get nm) = z := ⟨_, rfl⟩
      obtain ⟨fr, hfr2⟩ : ∃ z, d.free = z := ⟨_, rfl⟩
      have HR : Aside (Rm (R : Int) (j * 402) d ∧ had (d.get nm) = sz ∧ d.free = fr) := ⟨hrm, hsz2, hfr2⟩
      rw [hsz2] at hsz
      clear hgk A hrm hfr hsz2
      go_upto_region 9 with (fail)
      go_cut [9, 10, 11] (fun t9 t10 t11 wx => t9 = .int .i64 fr ∧ t10 = .int .i64 (sz : Int) ∧ t11 = .int .i64 (k : Int) ∧ Sat (diskP D d * (block wr.heap.size TCd (crowD kd nm n len x (.slice pa pn pc)) * old w)) wx)
      case first =>
        as_aux_lemma =>
          go_region_held3 (fun w' => w'.cell? ⟨wr.heap.size, 0, none⟩ = some (.int .i64 kd) ∧ w'.cell? ⟨wr.heap.size, 1, none⟩ = some (.string nm) ∧ w'.cell? ⟨wr.heap.size, 2, none⟩ = some (.int .i64 n) ∧ w'.cell? ⟨wr.heap.size, 3, none⟩ = some (.int .i64 len) ∧ w'.cell? ⟨wr.heap.size, 4, none⟩ = some (.int .u8 x.toNat) ∧ w'.cell? ⟨wr.heap.size, 5, none⟩ = some (.slice pa pn pc)) (first | exact ⟨cell_sat _ _ _, cell_sat _ _ _, cell_sat _ _ _, cell_sat _ _ _, cell_sat _ _ _, cell_sat _ _ _⟩) (first
            | (go_at_call 45; refine (free_any D d (j * 402) _ _ (takeI (diskP D d)) hok).mono ?_; rintro e w5 ⟨rfl, hs5⟩; haveI := hs5.i)
            | (go_at_call 36; refine (size_any D d nm _ _ (takeI (diskP D d)) hnm).mono ?_; rintro e w6 ⟨rfl, rfl⟩)
            | (go_at_call 46; refine (bytes_any kd nm n len x pa pn pc _ _ satI k HK.out).mono ?_; rintro e w7 ⟨a7, c7, rfl, hs7⟩; haveI := hs7.i))
          all_goals
            go_wp2_with fail
            go_meet
            exact ⟨rfl, rfl, rfl, satI_weak (C := rw TB 1 (.slice a7 k c7) (bys (bxl k x))) (by unfold crowD; ac_rfl)⟩
      case rest =>
        as_aux_lemma =>
          obtain ⟨rfl, rfl, rfl, hs7⟩ := hcut
          unfold crowD at hs7
          haveI := hs7.i
          clear hs
          go_upto_block 2 with (fail)
          go_cut [12] (fun t12 wx => ∃ d' : Dk, Aside (Rm (R : Int) ((j + 1) * 402) d') ∧ Sat (diskP D d' * old w) wx)
          case first =>
            as_aux_lemma =>
              by_cases hk1 : kd = 1
              · as_aux_lemma =>
                  subst hk1
                  obtain ⟨q1, q2, q3⟩ := HR.out.1.write nm n (bxl k x)
                  rw [bxl_len, HR.out.2.1, HR.out.2.2] at q2 q3
                  rw [bxl_len] at q1
                  have hwa := fun (a : Option Addr) (c : Nat) (F : Assn) (w : World) (h : Sat (diskP D d * (rw TB 1 (.slice a k c) (bys (bxl k x)) * F)) w) => write_any D d (j * 402) nm n (.slice a k c) (bxl k x) (rw TB 1 (.slice a k c) (bys (bxl k x))) F w Reads.rw h hnm (by rw [bxl_len]; omega) hok (by unfold big; omega)
                  obtain ⟨⟨zc, wd⟩, hww⟩ : ∃ r, d.write nm n (bxl k x) = r := ⟨_, rfl⟩
                  rw [hww] at q1 q2 q3 hwa
                  simp only at q1 q2 q3 hwa
                  have HWA : Aside (∀ (a : Option Addr) (c : Nat) (F : Assn) (w : World), Sat (diskP D d * (rw TB 1 (.slice a k c) (bys (bxl k x)) * F)) w → Calls Try.prog 32 #[.pointer (some ⟨D, 0, none⟩), .string nm, .int .i64 n, .slice a k c] w fun e w' => e = .returned (.int .i64 zc) ∧ Sat (diskP D wd * (rw TB 1 (.slice a k c) (bys (bxl k x)) * F)) w') := hwa
                  have HQ : Aside (Rm (R : Int) ((j + 1) * 402) wd ∧ (zc = 7 → 0 ≤ n ∧ n ≤ sz ∧ 0 < k ∧ (sz : Int) < n + k ∧ fr < n + k - sz ∧ wd = d) ∧ (zc = 0 → 0 ≤ n → n ≤ sz → 0 < k → (sz : Int) < n + k → n + k - sz ≤ fr)) := ⟨⟨ok_more q1.ok (by rw [Nat.add_mul]; omega), q1.down, q1.armed, q1.room, q1.sum, q1.named⟩, q2, q3⟩
                  have hszb : sz ≤ 2000 := by have := HR.out.1.had_le nm; rw [HR.out.2.1] at this; omega
                  have hfrb : 0 ≤ fr ∧ fr ≤ 2000 := by have h1 := HR.out.1.free; rw [HR.out.2.2] at h1; have h2 := HR.out.1.sum; omega
                  obtain ⟨hfb1, hfb2⟩ := hfrb
                  clear hwa hww q1 q2 q3
                  go_upto_region 12 with (fail)
                  go_cut [12] (fun t12 wx => t12 = .int .i64 zc ∧ Sat (diskP D wd * (block wr.heap.size TCd (crowD 1 nm n len x (.slice pa pn pc)) * old w)) wx)
                  case first =>
                    as_aux_lemma =>
                      go_region_held3 (fun w' => w'.cell? ⟨wr.heap.size, 0, none⟩ = some (.int .i64 1) ∧ w'.cell? ⟨wr.heap.size, 1, none⟩ = some (.string nm) ∧ w'.cell? ⟨wr.heap.size, 2, none⟩ = some (.int .i64 n) ∧ w'.cell? ⟨wr.heap.size, 3, none⟩ = some (.int .i64 len) ∧ w'.cell? ⟨wr.heap.size, 4, none⟩ = some (.int .u8 x.toNat) ∧ w'.cell? ⟨wr.heap.size, 5, none⟩ = some (.slice pa pn pc)) (first | exact ⟨cell_sat _ _ _, cell_sat _ _ _, cell_sat _ _ _, cell_sat _ _ _, cell_sat _ _ _, cell_sat _ _ _⟩) (first
                        | (go_at_call 46; refine (bytes_any 1 nm n len x pa pn pc _ _ satI k HK.out).mono ?_; rintro e w8 ⟨a8, c8, rfl, hs8⟩; haveI := hs8.i)
                        | (go_at_call 32; refine (HWA.out a8 c8 _ _ (hs8.take2 (diskP D d) (rw TB 1 (.slice a8 k c8) (bys (bxl k x))))).mono ?_; rintro e w9 ⟨rfl, hs9⟩; haveI := hs9.i))
                      all_goals
                        go_wp2_with fail
                        go_meet
                        exact ⟨rfl, satI_weak (C := rw TB 1 (.slice a8 k c8) (bys (bxl k x))) (by unfold crowD; ac_rfl)⟩
                  case rest =>
                    as_aux_lemma =>
                      obtain ⟨rfl, hs9⟩ := hcut
                      have hs10 := hs9
                      unfold crowD at hs10
                      haveI := hs10.i
                      clear hs7
                      obtain ⟨g, hg⟩ : ∃ g : Bool, g = decide (0 ≤ n ∧ n ≤ sz ∧ 0 < k ∧ (sz : Int) < n + k) := ⟨_, rfl⟩
                      have HGR : Aside (g = decide (0 ≤ n ∧ n ≤ sz ∧ 0 < k ∧ (sz : Int) < n + k)) := hg
                      clear hg
                      go_upto_region 13 with (fail)
                      go_cut [13] (fun t13 wx => t13 = .bool g ∧ Sat (diskP D wd * (block wr.heap.size TCd (crowD 1 nm n len x (.slice pa pn pc)) * old w)) wx)
                      case first =>
                        as_aux_lemma =>
                          by_cases g1 : 0 ≤ n
                          · by_cases g2 : n ≤ sz
                            · by_cases g3 : 0 < k
                              · have g3' : (0 : Int) < k := by omega
                                by_cases g4 : (sz : Int) < n + k
                                · have HB : Aside (g = true) := by show _ = _; rw [HGR.out]; simp; omega
                                  go_wp2_with fail
                                  go_meet
                                  exact ⟨by rw [HB.out], hs9⟩
                                · have HB : Aside (g = false) := by show _ = _; rw [HGR.out]; simp; omega
                                  have g4' : decide ((sz : Int) < n + k) = false := by simpa using g4
                                  go_wp2_with fail
                                  go_meet
                                  exact ⟨by rw [HB.out], hs9⟩
                              · have HB : Aside (g = false) := by show _ = _; rw [HGR.out]; simp; omega
                                have g3' : ¬ (0 : Int) < k := by omega
                                go_wp2_with fail
                                go_meet
                                exact ⟨by rw [HB.out], hs9⟩
                            · have HB : Aside (g = false) := by show _ = _; rw [HGR.out]; simp; omega
                              go_wp2_with fail
                              go_meet
                              exact ⟨by rw [HB.out], hs9⟩
                          · have HB : Aside (g = false) := by show _ = _; rw [HGR.out]; simp; omega
                            go_wp2_with fail
                            go_meet
                            exact ⟨by rw [HB.out], hs9⟩
                      case rest =>
                        as_aux_lemma =>
                          obtain ⟨rfl, hs11⟩ := hcut
                          have hs12 := hs11
                          unfold crowD at hs12
                          haveI := hs12.i
                          clear hs9 hs10
                          by_cases h7 : zc = 7
                          · obtain ⟨e1, e2, e3, e4, e5, e6⟩ := HQ.out.2.1 h7
                            subst h7 e6
                            have HB : Aside (g = true) := by show _ = _; rw [HGR.out]; simp; omega
                            rw [HB.out]
                            have e5' : ¬ n + k - sz ≤ fr := by omega
                            go_wp2_with fail
                            refine (free_any D wd (j * 402) _ _ (takeI (diskP D wd)) hok).mono ?_
                            rintro e w13 ⟨rfl, hs13⟩
                            haveI := hs13.i
                            go_wp2_with fail
                            refine (size_any D wd nm _ _ (takeI (diskP D wd)) hnm).mono ?_
                            rintro e w14 ⟨rfl, rfl⟩
                            go_wp2_with fail
                            go_meet
                            exact ⟨wd, HQ.out.1, satI_weak (C := block wr.heap.size TCd (crowD 1 nm n len x (.slice pa pn pc))) (by unfold crowD; ac_rfl)⟩
                          · have h7' : (zc == 7) = false := by simpa using h7
                            by_cases h0 : zc = 0
                            · subst h0
                              cases hgb : g with
                              | true =>
                                have hg2 : 0 ≤ n ∧ n ≤ sz ∧ 0 < k ∧ (sz : Int) < n + k := by have := HGR.out; rw [hgb] at this; simpa using this.symm
                                obtain ⟨e1, e2, e3, e4⟩ := hg2
                                have e5 := HQ.out.2.2 rfl e1 e2 e3 e4
                                have e5' : ¬ fr < n + k - sz := by omega
                                clear hgb
                                go_wp2_with fail
                                go_meet
                                exact ⟨wd, HQ.out.1, satI_weak (C := block wr.heap.size TCd (crowD 1 nm n len x (.slice pa pn pc))) (by unfold crowD; ac_rfl)⟩
                              | false =>
                                clear hgb
                                go_wp2_with fail
                                go_meet
                                exact ⟨wd, HQ.out.1, satI_weak (C := block wr.heap.size TCd (crowD 1 nm n len x (.slice pa pn pc))) (by unfold crowD; ac_rfl)⟩
                            · have h0' : (zc == 0) = false := by simpa using h0
                              go_wp2_with fail
                              go_meet
                              exact ⟨wd, HQ.out.1, satI_weak (C := block wr.heap.size TCd (crowD 1 nm n len x (.slice pa pn pc))) (by unfold crowD; ac_rfl)⟩
              · have hd1 : (kd == 1) = false := by simpa using hk1
                have hs8 : Sat (diskP D d * (block wr.heap.size TCd (crowD kd nm n len x (.slice pa pn pc)) * old w)) _ := hs7
                have HRM : Aside (Rm (R : Int) ((j + 1) * 402) d) := ⟨ok_more HR.out.1.ok (by rw [Nat.add_mul]; omega), HR.out.1.down, HR.out.1.armed, HR.out.1.room, HR.out.1.sum, HR.out.1.named⟩
                by_cases hk2 : kd = 2
                · as_aux_lemma =>
                    subst hk2
                    have q1 := HR.out.1.cut nm n
                    have hca := fun (F : Assn) (w : World) (h : Sat (diskP D d * F) w) => cut_any D d (j * 402) nm n F w h hnm hok (by unfold big; omega)
                    obtain ⟨⟨zc, wd⟩, hww⟩ : ∃ r, d.cut nm n = r := ⟨_, rfl⟩
                    rw [hww] at q1 hca
                    simp only at q1 hca
                    have HCA : Aside (∀ (F : Assn) (w : World), Sat (diskP D d * F) w → Calls Try.prog 47 #[.pointer (some ⟨D, 0, none⟩), .string nm, .int .i64 n] w fun e w' => e = .returned (.int .i64 zc) ∧ Sat (diskP D wd * F) w') := hca
                    have HQ : Aside (Rm (R : Int) ((j + 1) * 402) wd) := ⟨ok_more q1.ok (by rw [Nat.add_mul]; omega), q1.down, q1.armed, q1.room, q1.sum, q1.named⟩
                    clear hca hww q1
                    go_wp2_with fail
                    refine (HCA.out _ _ hs8).mono ?_
                    rintro e w9 ⟨rfl, hs9⟩
                    go_wp2_with fail
                    go_meet
                    exact ⟨wd, HQ, hs9.drop (block wr.heap.size TCd (crowD 2 nm n len x (.slice pa pn pc)))⟩
                · have hd2 : (kd == 2) = false := by simpa using hk2
                  by_cases hk3 : kd = 3
                  · as_aux_lemma =>
                      subst hk3
                      have q1 := HR.out.1.sync nm
                      have hsa := fun (F : Assn) (w : World) (h : Sat (diskP D d * F) w) => sync_any D d (j * 402) nm F w h hnm hok (by unfold big; omega)
                      obtain ⟨⟨zc, wd⟩, hww⟩ : ∃ r, d.sync nm = r := ⟨_, rfl⟩
                      rw [hww] at q1 hsa
                      simp only at q1 hsa
                      have HSA : Aside (∀ (F : Assn) (w : World), Sat (diskP D d * F) w → Calls Try.prog 33 #[.pointer (some ⟨D, 0, none⟩), .string nm] w fun e w' => e = .returned (.int .i64 zc) ∧ Sat (diskP D wd * F) w') := hsa
                      have HQ : Aside (Rm (R : Int) ((j + 1) * 402) wd) := ⟨ok_more q1.ok (by rw [Nat.add_mul]; omega), q1.down, q1.armed, q1.room, q1.sum, q1.named⟩
                      clear hsa hww q1
                      go_wp2_with fail
                      refine (HSA.out _ _ hs8).mono ?_
                      rintro e w9 ⟨rfl, hs9⟩
                      go_wp2_with fail
                      go_meet
                      exact ⟨wd, HQ, hs9.drop (block wr.heap.size TCd (crowD 3 nm n len x (.slice pa pn pc)))⟩
                  · as_aux_lemma =>
                      have hd3 : (kd == 3) = false := by simpa using hk3
                      go_wp2_with fail
                      go_meet
                      exact ⟨d, HRM, hs8.drop (block wr.heap.size TCd (crowD kd nm n len x (.slice pa pn pc)))⟩
          case rest =>
            as_aux_lemma =>
              obtain ⟨d', HD, hs'⟩ := hcut
              clear hs7 HR hok
              have hna := names_any D d' ((j + 1) * 402) (old w) _ hs' HD.out.ok HD.out.down
              go_wp2_with fail
              refine hna.mono ?_
              rintro e w10 ⟨na, nn, nc, ks, rfl, hks, hs10⟩
              have hl2 : (sortS ks).Perm (nmL d') := (List.mergeSort_perm ks _).trans hks
              obtain ⟨hsum, hszs⟩ := HD.out.names hl2
              have hshort := HD.out.names_short hl2
              obtain ⟨l, hll⟩ : ∃ l, sortS ks = l := ⟨_, rfl⟩
              rw [hll] at hs10 hsum hszs hshort
              have hnn : nn = l.length := by have := hs10.rw_len; simpa using this
              subst hnn
              have hsmR : (Go.Dk.sum d'.files : Int) ≤ R := HD.out.sum
              have hfree := HD.out.free
              have hl16 : l.length ≤ 16 := by
                have h1 := HD.out.ok.nf
                rw [hll] at hl2
                have h2 := hl2.length_eq
                unfold nmL at h2
                rw [List.length_map] at h2
                omega
              obtain ⟨sm, hsm⟩ : ∃ z, Go.Dk.sum d'.files = z := ⟨_, rfl⟩
              rw [hsm] at hsum hsmR hfree
              have HS : Aside ((l.map (szN d')).sum = sm ∧ (∀ b ∈ l, d'.size ⟨b.toArray⟩ = (szN d' b : Int)) ∧ (∀ b ∈ l, (⟨b.toArray⟩ : ByteArray).size ≤ 9223372036854775807) ∧ d'.free = (R : Int) - sm) := ⟨hsum, hszs, hshort, hfree⟩
              clear hna hs' hks hl2 hsum hszs hshort hll hsm hfree
              go_wp2_with fail
              go_loopg [14, 16] l.length (fun g t14 t16 wr => ∃ (q : Nat), t14 = .int .i64 (((l.take q).map (szN d')).sum : Nat) ∧ t16 = .int .i64 q ∧ q ≤ l.length ∧ Aside (g = l.length - q) ∧ Sat (rw TS 1 (.slice na l.length nc) (l.map Go.Proofs.encStr) * (diskP D d' * old w)) wr)
              case atStart => exact ⟨0, rfl, rfl, by omega, rfl, hs10⟩
              case round =>
                clear hs10
                obtain ⟨q, rfl, rfl, hq, B, hs⟩ := hrel
                by_cases hql : q < l.length
                · have hql' : (q : Int) < l.length := by omega
                  obtain ⟨b, hb⟩ : ∃ b, l[q]? = some b := ⟨l[q], by simp [hql]⟩
                  obtain ⟨g2, rfl, hc2, _⟩ := hs.rw_get (i := q) (v := .string ⟨b.toArray⟩) (by rw [List.getElem?_map, hb]; rfl)
                  have hbl := List.mem_of_getElem? hb
                  have hsa := size_any D d' ⟨b.toArray⟩ _ _ (hs.take (diskP D d')) (HS.out.2.2.1 b hbl)
                  rw [HS.out.2.1 b hbl] at hsa
                  have h1 := sum_take_succ (szN d') hb
                  have h2 := sum_take_le (szN d') l (q + 1)
                  rw [HS.out.1] at h2
                  obtain ⟨s0, hs0⟩ : ∃ z, ((l.take q).map (szN d')).sum = z := ⟨_, rfl⟩
                  rw [h1, hs0] at h2
                  rw [hs0] at h1 ⊢
                  have H1 : Aside (((l.take (q + 1)).map (szN d')).sum = s0 + szN d' b) := h1
                  have hbd : s0 + szN d' b ≤ 2000 := by omega
                  obtain ⟨s1, hs1⟩ : ∃ z, szN d' b = z := ⟨_, rfl⟩
                  rw [hs1] at hsa H1 hbd
                  clear h1 h2 hs0 hb hbl hs1
                  go_wp2_with fail
                  refine hsa.mono ?_
                  rintro e w11 ⟨rfl, rfl⟩
                  clear hsa
                  go_wp2_with fail
                  go_roundg (l.length - (q + 1))
                  case measure => have := B.out; omega
                  case rel => exact ⟨q + 1, by rw [H1.out]; go_num, by go_num, by omega, rfl, hs⟩
                · have hql' : ¬ (q : Int) < l.length := by omega
                  obtain rfl : q = l.length := by omega
                  rw [List.take_of_length_le (Nat.le_refl _), HS.out.1]
                  have hle : ¬ (R : Int) < sm := by omega
                  have hfa := free_any D d' ((j + 1) * 402) _ _ (hs.take (diskP D d')) HD.out.ok
                  rw [HS.out.2.2.2] at hfa
                  clear B
                  go_wp2_with fail
                  refine hfa.mono ?_
                  rintro e w12 ⟨rfl, hs12⟩
                  clear hfa hs
                  go_wp2_with fail
                  go_roundg (60 - (j + 1))
                  case measure => have := HG.out; omega
                  case rel => exact ⟨j + 1, d', by go_num, by omega, ⟨rfl, HD.out⟩, (hs12.drop (rw TS 1 (.slice na l.length nc) (l.map Go.Proofs.encStr)))⟩
    · have hways : (¬ (j : Int) < cs.length) ∨ ((j : Int) < cs.length ∧ ¬ (j : Int) < 60) := by omega
      clear A
      rcases hways with h1 | ⟨h1, h2⟩
      all_goals
        go_wp2
        go_ret
        exact ⟨rfl, (hs.take (old w)).old_below⟩

end Go.Proofs.Ytjhkmmpgjiciiaa
