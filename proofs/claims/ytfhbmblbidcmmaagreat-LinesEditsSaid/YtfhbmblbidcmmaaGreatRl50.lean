/-
  Walks and plain laws that the lines of texts lean on. No condition (part 50)
-/
import Derived.Test.YtfhbmblbidcmmaaGreatRl48
import Derived.Test.YtfhbmblbidcmmaaGreatRl49
import Derived.Test.YtfhbmblbidcmmaaGreatRl41
set_option linter.unusedSimpArgs false
set_option linter.unusedVariables false
namespace Go.Proofs.YtfhbmblbidcmmaaGreat
set_option linter.unusedSimpArgs false
set_option linter.unusedVariables false
set_option linter.unusedSectionVars false
open Go.RowKit Go.Sl Go.Dk Go.Tr
open Go.Lru (ikey)
attribute [local go_sem ↓] Go.wp_at_zero Go.wp_at_succ
attribute [local go_sem] Go.Sl.cell_sat Go.Sl.frozen_sat
instance top15 : TopN := ⟨65000, by omega⟩
def dkO (O : List UInt8) : Dk := ⟨16777216, 0, 0, false, false, [(nmO, ⟨O, O, true⟩)], []⟩
def dkOT (O T : List UInt8) : Dk := ⟨16777216, 0, 0, false, false, [(nmO, ⟨O, O, true⟩), (nmT, ⟨T, T, true⟩)], []⟩
theorem nmTO : nmT ≠ nmO := by decide +kernel
theorem nmSO : nmS ≠ nmO := by decide +kernel
theorem nmST : nmS ≠ nmT := by decide +kernel
theorem load_one (O : List UInt8) (hO : O.length ≤ 3000) : (Dk.new 16777216).load nmO O = (0, dkO O) := by
 have h1 : (Dk.new 16777216).fits ((Dk.new 16777216).get nmO) O.length = 0 := by
  unfold Dk.fits
  have e1 : (Dk.new 16777216).get nmO = none := rfl
  have e2 : (Dk.new 16777216).files = [] := rfl
  have e3 : (Dk.new 16777216).room = 16777216 := rfl
  rw [e1, e2, e3]
  have e4 : sum ([] : List (ByteArray × Fl)) = 0 := rfl
  have e5 : had none = 0 := rfl
  rw [e4, e5, if_neg (by simp), if_neg (by simp; omega)]
 unfold Dk.load
 rw [if_neg (by simp [nmO_named]), h1, if_neg (by simp)]
 rfl
theorem load_two (O T : List UInt8) (hO : O.length ≤ 3000) (hT : T.length ≤ 3000) : (dkO O).load nmT T = (0, dkOT O T) := by
 have e1 : (dkO O).get nmT = none := by
  show fget nmT [(nmO, _)] = none
  unfold fget
  rw [if_neg nmTO]
  rfl
 have h1 : (dkO O).fits ((dkO O).get nmT) T.length = 0 := by
  unfold Dk.fits
  have e2 : sum (dkO O).files = O.length := by simp [dkO, sum]
  have e3 : (dkO O).room = 16777216 := rfl
  have e5 : had none = 0 := rfl
  have e6 : (dkO O).files.length = 1 := rfl
  rw [e1, e2, e3, e5, e6, if_neg (by simp), if_neg (by simp; omega)]
 unfold Dk.load
 rw [if_neg (by simp [nmT_named]), h1, if_neg (by simp)]
 have e7 : fput nmT (⟨T, T, true⟩ : Fl) (dkO O).files = [(nmO, ⟨O, O, true⟩), (nmT, ⟨T, T, true⟩)] := by
  show fput nmT _ [(nmO, _)] = _
  unfold fput
  rw [if_neg nmTO]
  rfl
 show ((0 : Int), Dk.put ((dkO O).settled nmT) nmT ⟨T, T, true⟩) = _
 unfold Dk.put
 have e8 : ((dkO O).settled nmT).files = (dkO O).files := rfl
 rw [e8, e7]
 rfl
theorem get_O (O T : List UInt8) : (dkOT O T).get nmO = some ⟨O, O, true⟩ := by
 show fget nmO [(nmO, _), (nmT, _)] = _
 unfold fget
 rw [if_pos rfl]
theorem get_T (O T : List UInt8) : (dkOT O T).get nmT = some ⟨T, T, true⟩ := by
 show fget nmT [(nmO, _), (nmT, _)] = _
 unfold fget
 rw [if_neg nmTO]
 unfold fget
 rw [if_pos rfl]
theorem get_S (O T : List UInt8) : (dkOT O T).get nmS = none := by
 show fget nmS [(nmO, _), (nmT, _)] = _
 unfold fget
 rw [if_neg nmSO]
 unfold fget
 rw [if_neg nmST]
 rfl
theorem size_T (O T : List UInt8) : (dkOT O T).size nmT = T.length := by
 unfold Dk.size
 have hm : (dkOT O T).may nmT true = 0 := by
  unfold Dk.may
  rw [if_neg (by simp [nmT_named]), get_T]
  simp [dkOT]
 rw [if_neg (by simp [hm]), get_T]
 rfl
def ckL (O T : List UInt8) (cap : Int) : Ck := ⟨nmS, cap, 0, dkOT O T, [], []⟩
def tsL (O T : List UInt8) (cap : Int) : TS := ⟨ckL O T cap, Sp.new 1, 0⟩
def ix0 : Ix := ⟨0, []⟩
theorem dkO_ok (O : List UInt8) (hO : O.length ≤ 3000) : Ok 0 (dkO O) := by
 have := ok_load (ok_new 16777216 (by omega) (by unfold big; omega)) nmO O
 rw [load_one O hO] at this
 exact this
theorem dkOT_ok (O T : List UInt8) (hO : O.length ≤ 3000) (hT : T.length ≤ 3000) : Ok 0 (dkOT O T) := by
 have := ok_load (dkO_ok O hO) nmT T
 rw [load_two O T hO hT] at this
 exact this
theorem ckL_ok (O T : List UInt8) (cap : Int) (hO : O.length ≤ 3000) (hT : T.length ≤ 3000) (h3 : 1 ≤ cap) (h4 : cap ≤ 4096) : CkOk 0 (ckL O T cap) :=
 ⟨⟨by simp [ckL, keysI], by simp [ckL], by simp [ckL]⟩, by simp [ckL], fun k => by simp [ckL, hasI, pget], rfl, by simp [ckL], by simp only [ckL]; omega, by simp [ckL]; omega, dkOT_ok O T hO hT, (by show Dk.named nmS = true; decide +kernel), by simp [ckL]⟩
theorem tsL_inv (O T : List UInt8) (cap : Int) (hO : O.length ≤ 3000) (hT : T.length ≤ 3000) (h3 : 1 ≤ cap) (h4 : cap ≤ 4096) : TInv true (tsL O T cap) where
 ts := ⟨⟨0, ckL_ok O T cap hO hT h3 h4⟩, by
  have e : (fnow (ckL O T cap).d (ckL O T cap).nm) = [] := by
   show ((dkOT O T).get nmS |>.getD Dk.fl0).now = []
   rw [get_S]; rfl
  exact ⟨Int.le_refl _, Int.le_refl _, Nat.zero_le _, Int.le_refl _, by show (fnow (ckL O T cap).d (ckL O T cap).nm).length ≤ _; rw [e]; simp⟩, by unfold tsL opsMax; simp, by simp [tsL, Sp.new], by simp [tsL, Sp.new]⟩
 good := ⟨⟨rfl, rfl, (by show Dk.named nmS = true; decide +kernel), by show 2 + (if ((dkOT O T).get nmS).isSome then 0 else 1) ≤ 8; split <;> omega⟩, by simp [tsL, ckL], by simp [tsL, ckL], ⟨by
  have e : (fnow (ckL O T cap).d (ckL O T cap).nm) = [] := by
   show ((dkOT O T).get nmS |>.getD Dk.fl0).now = []
   rw [get_S]; rfl
  show (fnow (ckL O T cap).d (ckL O T cap).nm).length ≤ _; rw [e]; simp, by simp [tsL, ckL]⟩⟩
 res := by simp [tsL, Sp.new]
 used := by simp [tsL, Sp.new]
 roomy h := by
  unfold Roomy oth
  show ((sum (dkOT O T).files : Nat) : Int) - had ((dkOT O T).get nmS) + ((256 * TOP : Nat) : Int) ≤ 16777216
  rw [get_S]
  have e1 : sum (dkOT O T).files = O.length + T.length := by simp [dkOT, sum]
  have e2 : had none = 0 := rfl
  have e3 : TOP = 65000 := rfl
  rw [e1, e2, e3]
  omega
theorem tsL_room (O T : List UInt8) (cap : Int) : roomOf (tsL O T cap).sp = 64999 := by
 have e3 : TOP = 65000 := rfl
 simp [roomOf, tsL, Sp.new, e3]
theorem lnI0 (O T : List UInt8) (cap : Int) (hO : O.length ≤ 3000) (hT : T.length ≤ 3000) (h3 : 1 ≤ cap) (h4 : cap ≤ 4096) : LnI O T (tsL O T cap) ix0 :=
 ⟨tsL_inv O T cap hO hT h3 h4, ⟨fun c k h => by cases h⟩, ⟨_, get_O O T, rfl⟩, ⟨_, get_T O T, rfl⟩, ⟨nmSO.symm, nmST.symm⟩, by omega, by omega⟩
instance coreD4 (D M : Nat) (pv : Value) (d : Dk) : HasC (coreD D M pv d) D 4 (.bool d.down) := by unfold coreD; infer_instance
theorem down15_any (D : Nat) (d : Dk) (F : Assn) (w : World) (hs : Sat (diskP D d * F) w) :
 Calls Tryz.prog 42 #[.pointer (some ⟨D, 0, none⟩)] w fun e w' => e = .returned (.bool d.down) ∧ w = w' := by
 obtain ⟨M, ns, pv, ps, h1, h2, hs1⟩ := Sat.disk_open hs
 have hs2 : Sat (coreD D M pv d * ((mp skey M (ns.map kvF) * (filesA ns * pendA pv ps)) * F)) w := hs1.eq (by unfold diskA; rw [sep_assoc])
 haveI := hs2.i
 clear h1 h2 hs hs1
 go_enter Tryz.func42, Tryz.ntmps42
 go_wp2
 go_ret
 exact ⟨rfl, rfl⟩
set_option maxRecDepth 100000 in
set_option maxHeartbeats 1600000 in
theorem tailOpen_any (D : Nat) (d : Dk) (n : Nat) (F : Assn) (w : World) (hs : Sat (diskP D d * F) w) (hd : d.down = false) (hsz : d.size nmT = n) (hn : n ≤ 1048576) :
 Calls Tryz.prog 76 #[.pointer (some ⟨D, 0, none⟩), .int .i64 (n : Int)] w fun e w' => ∃ A, e = .returned (.tuple #[.pointer (some ⟨A, 0, none⟩), .int .i64 0]) ∧ Sat (tailA A D n * (diskP D d * F)) w' := by
 have hdn := down15_any D d F w hs
 have hsi := size_any D d nmT F w hs (by decide +kernel)
 rw [hd] at hdn
 rw [hsz] at hsi
 unfold nmT at hsi
 have g1 : decide ((n : Int) < 0) = false := decide_eq_false (by omega)
 have g2 : decide ((16777216 : Int) < n) = false := decide_eq_false (by omega)
 have g3 : max (0 : Int) n = n := by omega
 haveI := hs.i
 clear hs hd hsz
 go_enter Tryz.func76, Tryz.ntmps76
 go_wp2_with fail
 refine hdn.mono ?_
 rintro e w1 ⟨rfl, rfl⟩
 go_wp2_with fail
 refine hsi.mono ?_
 rintro e w1 ⟨rfl, rfl⟩
 go_wp2
 go_ret2
 refine ⟨_, rfl, ?_⟩
 unfold tailA
 exact keep3 _ _ _
set_option maxRecDepth 100000 in
set_option maxHeartbeats 1600000 in
theorem indexNew_any (D : Nat) (n : Nat) (F : Assn) (w : World) (hs : Sat F w) (hn : n ≤ 1048576) :
 Calls Tryz.prog 77 #[.pointer (some ⟨D, 0, none⟩), .string nmO, .int .i64 (n : Int)] w fun e w' => ∃ X M, e = .returned (.tuple #[.pointer (some ⟨X, 0, none⟩), .int .i64 0]) ∧ Sat (indexA X M D n ix0 * F) w' := by
 have hmm := @run_makeMap Tryz.prog
 have g1 : decide ((n : Int) < 0) = false := decide_eq_false (by omega)
 have g2 : decide ((1048576 : Int) < n) = false := decide_eq_false (by omega)
 have a1 := hs.alloc_raw (.map #[] 0)
 have a2 := a1.alloc #[.pointer (some ⟨D, 0, none⟩), .string nmO, .int .i64 n, .int .i64 0, .map (some w.heap.size)] TIx
 have e : (w.alloc (.map #[] 0)).heap.size = w.heap.size + 1 := by simp
 rw [e] at a2
 have a3 := Sat.mp_shut (kf := ikey) (ms := []) (b := w.heap.size) (o := .map #[] 0) ⟨#[], 0, rfl, rfl, by simp, by simp⟩ (a2.take (raw w.heap.size _))
 clear a1 a2 e hs
 go_enter Tryz.func77, Tryz.ntmps77
 go_wp2
 go_ret2
 refine ⟨w.heap.size + 1, rfl, w.heap.size, a3.eq ?_⟩
 unfold indexA ix0
 simp only [kvI, List.map_nil]
 ac_rfl
set_option maxHeartbeats 800000 in
theorem linesNew_any (t X A : Nat) (F : Assn) (w : World) (hs : Sat F w) :
 Calls Tryz.prog 78 #[.pointer (some ⟨t, 0, none⟩), .pointer (some ⟨X, 0, none⟩), .pointer (some ⟨A, 0, none⟩)] w fun e w' => ∃ L : Nat, e = .returned (.tuple #[.pointer (some ⟨L, 0, none⟩), .int .i64 0]) ∧ Sat (Sl.block L TLn [.pointer (some ⟨t, 0, none⟩), .pointer (some ⟨X, 0, none⟩), .pointer (some ⟨A, 0, none⟩)] * F) w' := by
 haveI := hs.i
 go_enter Tryz.func78, Tryz.ntmps78
 go_wp2
 go_ret2
 exact ⟨_, rfl, keep2 _ _⟩
abbrev TB15 : TypeId := 64
def benchA (b : Nat) (H : Lh) : Assn := Sl.block b TB15 [.pointer (some ⟨H.h.D, 0, none⟩), .pointer (some ⟨H.h.C, 0, none⟩), .pointer (some ⟨H.h.t, 0, none⟩), .pointer (some ⟨H.X, 0, none⟩), .pointer (some ⟨H.L, 0, none⟩)]
set_option maxRecDepth 100000 in
set_option maxHeartbeats 3200000 in
theorem set15_any (O T : List UInt8) (v1 v2 : Value) (cap : Int) (B F : Assn) (w : World) (hBO : Reads B v1 O) (hBT : Reads B v2 T) (hs : Sat (B * F) w) (hO : O.length ≤ 3000) (hT : T.length ≤ 3000) (h3 : 1 ≤ cap) (h4 : cap ≤ 4096) :
 Calls Tryz.prog 20 #[v1, v2, .int .i64 cap] w fun e w' => ∃ (b : Nat) (H : Lh), e = .returned (.pointer (some ⟨b, 0, none⟩)) ∧ Sat (benchA b H * (linesP H O T (tsL O T cap) ix0 * (B * F))) w' := by
 have hts := (tsL_inv O T cap hO hT h3 h4).ts
 have hnm : Dk.named nmS = true := by decide +kernel
 obtain ⟨a1, c1, rfl, g1, g2⟩ := readsB hBO hs
 obtain ⟨a2, c2, rfl, g3, g4⟩ := readsB hBT hs
 have hl1 := fun D F w q => load_any D (Dk.new 16777216) 0 nmO _ O B F w hBO q (by decide +kernel) (by omega) (ok_new 16777216 (by omega) (by unfold big; omega)) (by unfold big; omega)
 have hl2 := fun D F w q => load_any D (dkO O) 0 nmT _ T B F w hBT q (by decide +kernel) (by omega) (dkO_ok O hO) (by unfold big; omega)
 rw [load_one O hO] at hl1
 rw [load_two O T hO hT] at hl2
 have hto := fun D F w q => tailOpen_any D (dkOT O T) T.length F w q rfl (size_T O T) (by omega)
 have hin := fun D F w q => indexNew_any D O.length F w q (by omega)
 have hcn := fun D F w q => newC_yes D (dkOT O T) nmS cap F w q hnm h3 h4
 unfold nmO at hl1 hin
 unfold nmT at hl2
 unfold nmS at hcn
 haveI := hs.i
 go_enter Tryz.func20, Tryz.ntmps20
 go_wp2_with fail
 with_reducible refine Calls.mono (newD_yes 16777216 _ _ hs (by omega) (by omega)) ?_
 rintro e w1 ⟨D, rfl, q1⟩
 haveI := q1.i
 go_wp2_with fail
 refine (hl1 D _ _ (takeI2 (diskP D (Dk.new 16777216)) B)).mono ?_
 rintro e w2 ⟨rfl, q2⟩
 haveI := q2.i
 go_wp2_with fail
 refine (hl2 D _ _ (takeI2 (diskP D (dkO O)) B)).mono ?_
 rintro e w3 ⟨rfl, q3⟩
 haveI := q3.i
 clear hl1 hl2
 go_wp2_with fail
 refine (hto D _ _ (takeI (diskP D (dkOT O T)))).mono ?_
 rintro e w4 ⟨A, rfl, q4⟩
 haveI := q4.i
 go_wp2_with fail
 refine (hin D _ _ q4).mono ?_
 rintro e w5 ⟨X, M, rfl, q5⟩
 haveI := q5.i
 go_wp2_with fail
 refine (hcn D _ _ (takeI (diskP D (dkOT O T)))).mono ?_
 rintro e w6 ⟨C, rfl, q6⟩
 haveI := q6.i
 go_wp2_with fail
 with_reducible refine Calls.mono (spNew_yes 1 _ _ (by omega) (by omega) q6) ?_
 rintro e w7 ⟨S, rfl, q7⟩
 haveI := q7.i
 go_wp2_with fail
 with_reducible refine Calls.mono (newT_yes C S _ _ q7) ?_
 rintro e w8 ⟨t, rfl, q8⟩
 haveI := q8.i
 go_wp2_with fail
 with_reducible refine Calls.mono (linesNew_any t X A _ _ q8) ?_
 rintro e w9 ⟨L, rfl, q9⟩
 have q10 : Sat (linesP ⟨L, X, M, A, ⟨t, C, S, D⟩⟩ O T (tsL O T cap) ix0 * (B * F)) w9 := by
  unfold linesP
  refine Sat.eq (A := treeP ⟨t, C, S, D⟩ (tsL O T cap) * (Sl.block L TLn [.pointer (some ⟨t, 0, none⟩), .pointer (some ⟨X, 0, none⟩), .pointer (some ⟨A, 0, none⟩)] * (indexA X M D O.length ix0 * (tailA A D T.length * (B * F))))) ?_ (by ac_rfl)
  refine tree_join hts (q9.eq ?_)
  show _ = cacheP C D (ckL O T cap) * (spaceP S (Sp.new 1) * (Sl.block t TTr [.pointer (some ⟨C, 0, none⟩), .pointer (some ⟨S, 0, none⟩)] * _))
  unfold ckL nmS
  ac_rfl
 haveI := q10.i
 clear q1 q2 q3 q4 q5 q6 q7 q8 q9 hto hin hcn
 go_wp2
 go_ret
 exact ⟨_, ⟨L, X, M, A, ⟨t, C, S, D⟩⟩, rfl, by unfold benchA; exact keep4 _ _ _ _⟩
end Go.Proofs.YtfhbmblbidcmmaaGreat
