/-
  Of any pages in a file a root is found to be a tree just if it is one in the form of the document. No condition. (part 25)
-/
import Derived.Test.YtfhbmblbidcmmaaGreatRk9
import Derived.Test.YtfhbmblbidcmmaaGreatRk5
import Derived.Test.YtfhbmblbidcmmaaGreatRk15
import Derived.Test.YtfhbmblbidcmmaaGreatRk13
import Derived.Deep.DeepCutAuto
import Derived.IntWalk
import Derived.BigQuiet
import Derived.Test.YtfhbmblbidcmmaaGreatRk10
set_option linter.unusedSimpArgs false
set_option linter.unusedVariables false
namespace Go.Proofs.YtfhbmblbidcmmaaGreat
set_option linter.unusedSimpArgs false
set_option linter.unusedVariables false
open Go.RowKit Go.Sl Go.Dk Go.Tr
open Go.Lru (ikey)
attribute [local go_sem ↓] Go.wp_at_zero Go.wp_at_succ
attribute [local go_sem] Go.Sl.cell_sat Go.Sl.frozen_sat
abbrev TSp : TypeId := 208
abbrev TMB : TypeId := 206
abbrev TIn : TypeId := 3
theorem elemIS : ∃ i, ElemOk Tryz.prog 45 TIn 1 8 i (.int .i64 0) := elemOk Tryz.underlying45 (by kernel_rfl) rfl (by omega)
def inU (l : List Int) : List (Int × Value) := l.map fun k => (k, .bool true)
theorem mget_inU (k : Int) : ∀ l : List Int, (mget k (inU l)).getD (.bool false) = .bool (l.contains k)
 | [] => rfl
 | x :: l => by
   show ((if k = x then some (Value.bool true) else mget k (inU l)).getD (.bool false)) = _
   by_cases h : k = x
   · rw [if_pos h]; simp [h]
   · rw [if_neg h, mget_inU k l]
     simp [h]
theorem mput_inU (k : Int) : ∀ l : List Int, l.contains k = false → mput k (.bool true) (inU l) = inU (l ++ [k])
 | [], _ => rfl
 | x :: l, h => by
   simp only [List.contains_cons, Bool.or_eq_false_iff, beq_eq_false_iff_ne, ne_eq] at h
   show (if k = x then _ else _ :: mput k (.bool true) (inU l)) = _
   rw [if_neg h.1, mput_inU k l h.2]
   rfl
theorem mdel_inU (k : Int) : ∀ l : List Int, mdel k (inU l) = inU (l.erase k)
 | [] => rfl
 | x :: l => by
   show (if k = x then inU l else (x, Value.bool true) :: mdel k (inU l)) = _
   by_cases h : k = x
   · rw [if_pos h, h]; simp
   · rw [if_neg h, mdel_inU k l, List.erase_cons_tail (by simpa using fun e => h e.symm)]
     rfl
def coreS (S U Wt : Nat) (v : Value) (r : Int) : Assn :=
 hdr S TSp 4 * (Sl.cell S 0 (.int .i64 r) * (Sl.cell S 1 (.map (some U)) * (Sl.cell S 2 (.map (some Wt)) * Sl.cell S 3 v)))
section
variable (S U Wt : Nat) (v : Value) (r : Int)
instance : HasC (coreS S U Wt v r) S 0 (.int .i64 r) := by unfold coreS; infer_instance
instance : HasC (coreS S U Wt v r) S 1 (.map (some U)) := by unfold coreS; infer_instance
instance : HasC (coreS S U Wt v r) S 2 (.map (some Wt)) := by unfold coreS; infer_instance
instance : HasC (coreS S U Wt v r) S 3 v := by unfold coreS; infer_instance
instance (a : Option Addr) (n c : Nat) : Upd (coreS S U Wt v r) S 3 (.slice a n c) (coreS S U Wt (.slice a n c) r) := by unfold coreS; infer_instance
end
instance mapMB : MapT Tryz.prog TMB Int ikey (.bool false) := ⟨TIn, 4, keyOk3, Tryz.underlying206, fun w => by kernel_rfl⟩
theorem look_MB (w : World) (M : Nat) (k : Int) {A : Assn} {ms : List (Int × Value)} [h : SatI A w] [h2 : HasM A M ikey ms] : (Instr.lookup TMB (.map (some M)) (.int .i64 k) false).run Tryz.prog w = .ok ((mget k ms).getD (.bool false)) w := lookup_run mapMB w M k
theorem put_MB (w : World) (M : Nat) (k : Int) (v : Value) {A : Assn} {ms : List (Int × Value)} [h : SatI A w] [h2 : HasM A M ikey ms] : (Instr.mapUpdate TMB (.map (some M)) (.int .i64 k) v).run Tryz.prog w = .ok () (putW Tryz.prog TMB M (ikey k) v w) := put_run mapMB w M k v
theorem del_MB (w : World) (M : Nat) (k : Int) (kt' ty : TypeId) {A : Assn} {ms : List (Int × Value)} [h : SatI A w] [h2 : HasM A M ikey ms] : (Builtin.delete_ #[TMB, kt'] ty #[.map (some M), .int .i64 k]).run Tryz.prog w = .ok (.tuple #[]) (delW Tryz.prog TMB M (ikey k) w) := del_run mapMB w M k kt' ty
instance {w : World} {M : Nat} {k : Int} {v : Value} {A A' : Assn} {ms : List (Int × Value)} [h : SatI A w] [h2 : HasM A M ikey ms] [h3 : UpdM A M ikey (mput k v ms) A'] : SatI A' (putW Tryz.prog TMB M (ikey k) v w) := put_sat mapMB
instance {w : World} {M : Nat} {k : Int} {A A' : Assn} {ms : List (Int × Value)} [h : SatI A w] [h2 : HasM A M ikey ms] [h3 : UpdM A M ikey (mdel k ms) A'] : SatI A' (delW Tryz.prog TMB M (ikey k) w) := del_sat mapMB
def ints (l : List Int) : List Value := l.map (Value.int .i64)
def spaceA (S U Wt : Nat) (v : Value) (s : Sp) : Assn := coreS S U Wt v s.reserved * (mp ikey U (inU s.used) * (mp ikey Wt (inU s.waiting) * rw TIn 1 v (ints s.taken)))
def spaceP (S : Nat) (s : Sp) : Assn := ex fun x : Nat × Nat × Value => spaceA S x.1 x.2.1 x.2.2 s
theorem Sat.space_open {S : Nat} {s : Sp} {F : Assn} {w : World} (hs : Sat (spaceP S s * F) w) : ∃ U Wt v, Sat (spaceA S U Wt v s * F) w := by
 obtain ⟨⟨U, Wt, v⟩, h⟩ := hs.ex_open
 exact ⟨U, Wt, v, h⟩
theorem Sat.space_shut {S U Wt : Nat} {v : Value} {s : Sp} {F : Assn} {w : World} (hs : Sat (spaceA S U Wt v s * F) w) : Sat (spaceP S s * F) w := Sat.ex_shut (U, Wt, v) hs
set_option maxHeartbeats 800000 in
theorem spMark_any (S : Nat) (s : Sp) (F : Assn) (w : World) (hs : Sat (spaceP S s * F) w) :
 Calls Tryz.prog 82 #[.pointer (some ⟨S, 0, none⟩)] w fun e w' => e = .returned (.int .i64 s.mark) ∧ Sat (spaceP S s * F) w' := by
 obtain ⟨U, Wt, v, h1⟩ := Sat.space_open hs
 have h2 : Sat (rw TIn 1 v (ints s.taken) * (coreS S U Wt v s.reserved * (mp ikey U (inU s.used) * (mp ikey Wt (inU s.waiting) * F)))) w := h1.eq (by unfold spaceA; ac_rfl)
 obtain ⟨a, n, c, rfl, h3, _⟩ := rw_v h2
 have hn : s.taken.length = n := by simpa [ints] using h3
 have HS : Aside (Sat (spaceP S s * F) w) := hs
 have HM : Aside (s.mark = (n : Int)) := (by unfold Sp.mark; rw [hn] : _ = _)
 haveI := h2.i
 clear hs h1 h3 hn
 go_enter Tryz.func82, Tryz.ntmps82
 go_wp2
 go_ret
 exact ⟨by rw [HM.out]; rfl, HS.out⟩
set_option maxHeartbeats 800000 in
theorem spNew_yes (r : Int) (F : Assn) (w : World) (h0 : 0 ≤ r) (h1 : r ≤ 1048576) (hs : Sat F w) :
 Calls Tryz.prog 63 #[.int .i64 r] w fun e w' => ∃ S, e = .returned (.tuple #[.pointer (some ⟨S, 0, none⟩), .int .i64 0]) ∧ Sat (spaceP S (Sp.new r) * F) w' := by
 have d1 : decide (r < 0) = false := by simp; omega
 have d2 : decide (1048576 < r) = false := by simp; omega
 have hmm := @run_makeMap Tryz.prog
 have a1 := hs.alloc_raw (.map #[] 0)
 have a2 := a1.alloc_raw (.map #[] 0)
 have e1 : (w.alloc (.map #[] 0)).heap.size = w.heap.size + 1 := by simp
 have e2 : ((w.alloc (.map #[] 0)).alloc (.map #[] 0)).heap.size = w.heap.size + 2 := by simp
 have a3 := a2.alloc #[.int .i64 r, .map (some w.heap.size), .map (some (w.heap.size + 1)), .slice none 0 0] TSp
 rw [e1, e2] at a3
 have a4 := Sat.mp_shut (kf := ikey) (ms := []) (b := w.heap.size) (o := .map #[] 0) ⟨#[], 0, rfl, rfl, by simp, by simp⟩ (a3.take (raw w.heap.size _))
 have a5 := Sat.mp_shut (kf := ikey) (ms := []) (b := w.heap.size + 1) (o := .map #[] 0) ⟨#[], 0, rfl, rfl, by simp, by simp⟩ (a4.take (raw (w.heap.size + 1) _))
 have a6 := Sat.rw_nil (e := TIn) (s := 1) a5
 clear a1 a2 a3 a4 a5 e1 e2 hs
 go_enter Tryz.func63, Tryz.ntmps63
 go_wp2
 go_ret2
 refine ⟨w.heap.size + 2, rfl, Sat.space_shut (U := w.heap.size) (Wt := w.heap.size + 1) (v := .slice none 0 0) (a6.eq ?_)⟩
 unfold spaceA coreS
 simp only [block, Sl.cells, sep_one, Sp.new, inU, ints, List.map_nil, List.length_cons, List.length_nil, Nat.zero_add, Nat.reduceAdd]
 ac_rfl
set_option maxRecDepth 100000 in
set_option maxHeartbeats 1600000 in
theorem spTake_any (S : Nat) (s : Sp) (F : Assn) (w : World) (hs : Sat (spaceP S s * F) w) (hr : 0 ≤ s.reserved) (hr2 : s.reserved ≤ 1048576) (ht : s.taken.length ≤ 1099511627776) :
 Calls Tryz.prog 193 #[.pointer (some ⟨S, 0, none⟩)] w fun e w' => e = .returned (.tuple #[.int .i64 s.take.1.1, .int .i64 s.take.1.2]) ∧ Sat (spaceP S s.take.2 * F) w' := by
 obtain ⟨i0, EI⟩ := elemIS
 obtain ⟨U, Wt, v, h1⟩ := Sat.space_open hs
 have h2 : Sat (rw TIn 1 v (ints s.taken) * (coreS S U Wt v s.reserved * (mp ikey U (inU s.used) * (mp ikey Wt (inU s.waiting) * F)))) w := h1.eq (by unfold spaceA; ac_rfl)
 obtain ⟨a, n, c, rfl, h3, _⟩ := rw_v h2
 have hn : s.taken.length = n := by simpa [ints] using h3
 obtain ⟨rr, hrr⟩ : ∃ r, s.take = r := ⟨_, rfl⟩
 have HR : Aside (s.take = rr) := hrr
 have HN : Aside (s.taken.length = n) := hn
 have hn2 : n ≤ 1099511627776 := by omega
 obtain ⟨r0, hr0⟩ : ∃ r, s.reserved = r := ⟨_, rfl⟩
 have HR0 : Aside (s.reserved = r0) := hr0
 rw [hr0] at hr hr2 h2
 rw [hrr]
 haveI := h2.i
 clear hs h1 h3 hn ht hrr hr0
 go_enter Tryz.func193, Tryz.ntmps193
 go_wp2
 go_loopg [4] (1048576 - r0).toNat (fun g t4 wr => ∃ no : Int, t4 = .int .i64 no ∧ r0 ≤ no ∧ no ≤ 1048576 ∧ Aside (g = (1048576 - no).toNat ∧ s.free = s.least (1048576 - no).toNat no) ∧ w = wr)
 case atStart => exact ⟨r0, rfl, by omega, hr2, ⟨rfl, by unfold Sp.free; rw [HR0.out]⟩, rfl⟩
 case round =>
  obtain ⟨no, rfl, hno, hno2, A, rfl⟩ := hrel
  by_cases hlt : no < 1048576
  · have hfree : s.free = if s.busy no then s.least (1048576 - (no + 1)).toNat (no + 1) else some no := by
     rw [A.out.2]
     obtain ⟨k, hk⟩ : ∃ k, (1048576 - no).toNat = k + 1 := ⟨(1048576 - no).toNat - 1, by omega⟩
     rw [hk, show (1048576 - (no + 1)).toNat = k by omega]
     rfl
    have l1 := fun w => @look_MB w U no
    have l2 := fun w => @look_MB w Wt no
    have m1 := mget_inU no s.used
    have m2 := mget_inU no s.waiting
    cases hu : s.used.contains no with
    | true =>
      have HB : Aside (s.free = s.least (1048576 - (no + 1)).toNat (no + 1)) := (by rw [hfree, if_pos (by unfold Sp.busy; rw [hu]; rfl)] : _ = _)
      rw [hu] at m1
      clear hfree hu
      go_wp2_with fail
      go_roundg (1048576 - (no + 1)).toNat
      case measure => have := A.out.1; omega
      case rel => exact ⟨no + 1, rfl, by omega, by omega, ⟨rfl, HB.out⟩, rfl⟩
    | false =>
      cases hw : s.waiting.contains no with
      | true =>
        have HB : Aside (s.free = s.least (1048576 - (no + 1)).toNat (no + 1)) := (by rw [hfree, if_pos (by unfold Sp.busy; rw [hw, Bool.or_true])] : _ = _)
        rw [hu] at m1
        rw [hw] at m2
        clear hfree hu hw
        go_wp2_with fail
        go_roundg (1048576 - (no + 1)).toNat
        case measure => have := A.out.1; omega
        case rel => exact ⟨no + 1, rfl, by omega, by omega, ⟨rfl, HB.out⟩, rfl⟩
      | false =>
        have HB : Aside (rr = ((no, 0), { s with used := s.used ++ [no], taken := s.taken ++ [no] })) := (by
         rw [← HR.out]
         unfold Sp.take
         rw [hfree, if_neg (by unfold Sp.busy; rw [hu, hw]; simp)] : _ = _)
        have p1 := fun w => @put_MB w U no (.bool true)
        have mp1 := mput_inU no s.used hu
        have HP : Aside (mput no (Value.bool true) (inU s.used) = inU (s.used ++ [no])) := mp1
        rw [hu] at m1
        rw [hw] at m2
        clear hfree hu hw mp1
        go_wp2_with (at_builtin; go_loud (refine wpl_append_same EI rfl (.tmp 38) (.tmp 40) rfl rfl rfl (takeI (rw TIn 1 (.slice a n c) (ints s.taken))) (Src.new (b := (putW Tryz.prog TMB U (ikey no) (.bool true) w).heap.size) (e := TIn) (s := 1) (vs := [.int .i64 no]) (takeI _) rfl (by intro u hu; simp at hu; subst hu; rfl)) (by unfold maxLen; omega) (by omega) ?_; intro a' c' w3 hs6 hnil; haveI := hs6.i; clear hnil))
        go_ret2
        rw [HB.out]
        refine ⟨rfl, Sat.space_shut (U := U) (Wt := Wt) (v := .slice a' (n + 1) c') ?_⟩
        unfold spaceA
        rw [← HP.out]
        show Sat (coreS S U Wt (.slice a' (n + 1) c') s.reserved * (mp ikey U _ * (mp ikey Wt (inU s.waiting) * rw TIn 1 (.slice a' (n + 1) c') (ints (s.taken ++ [no])))) * F) _
        rw [HR0.out, show ints (s.taken ++ [no]) = ints s.taken ++ [.int .i64 no] by simp [ints]]
        exact satI_weak (C := Sl.block (putW Tryz.prog TMB U (ikey no) (.bool true) w).heap.size TIn [.int .i64 no]) (by ac_rfl)
  · have hfree : s.free = none := by
     rw [A.out.2, show (1048576 - no).toNat = 0 by omega]
     rfl
    have HB : Aside (rr = ((0, 9), s)) := (by
     rw [← HR.out]
     unfold Sp.take
     rw [hfree] : _ = _)
    clear hfree
    go_wp2
    go_ret2
    rw [HB.out]
    refine ⟨rfl, Sat.space_shut (U := U) (Wt := Wt) (v := .slice a n c) ?_⟩
    unfold spaceA
    rw [HR0.out]
    exact satI_eq (by ac_rfl)
def backGo : List Int → List Int → List Int → List Int × List Int
 | [], u, o => (u, o)
 | k :: l, u, o => if u.contains k then backGo l (u.erase k) (o ++ [k]) else backGo l u o
def spBack (s : Sp) (m : Nat) : List Int × Sp := (sortI (backGo (s.taken.drop m) s.used []).2, { s with used := (backGo (s.taken.drop m) s.used []).1, taken := s.taken.take m })
theorem backGo_snoc : ∀ (l : List Int) (k : Int) (u o : List Int), backGo (l ++ [k]) u o = if (backGo l u o).1.contains k then ((backGo l u o).1.erase k, (backGo l u o).2 ++ [k]) else backGo l u o
 | [], k, u, o => rfl
 | x :: l, k, u, o => by
   show (if u.contains x then backGo (l ++ [k]) (u.erase x) (o ++ [x]) else backGo (l ++ [k]) u o) = if (if u.contains x then backGo l (u.erase x) (o ++ [x]) else backGo l u o).1.contains k then _ else _
   by_cases h : u.contains x = true
   · rw [if_pos h, if_pos h, backGo_snoc l k]
     show _ = if _ then ((if u.contains x then backGo l (u.erase x) (o ++ [x]) else backGo l u o).1.erase k, (if u.contains x then backGo l (u.erase x) (o ++ [x]) else backGo l u o).2 ++ [k]) else (if u.contains x then backGo l (u.erase x) (o ++ [x]) else backGo l u o)
     rw [if_pos h]
   · rw [if_neg h, if_neg h, backGo_snoc l k]
     show _ = if _ then ((if u.contains x then backGo l (u.erase x) (o ++ [x]) else backGo l u o).1.erase k, (if u.contains x then backGo l (u.erase x) (o ++ [x]) else backGo l u o).2 ++ [k]) else (if u.contains x then backGo l (u.erase x) (o ++ [x]) else backGo l u o)
     rw [if_neg h]
theorem backGo_len : ∀ (l u o : List Int), (backGo l u o).2.length ≤ o.length + l.length
 | [], u, o => Nat.le_refl _
 | x :: l, u, o => by
   show (if u.contains x then backGo l (u.erase x) (o ++ [x]) else backGo l u o).2.length ≤ _
   split
   · have := backGo_len l (u.erase x) (o ++ [x])
     simp only [List.length_append, List.length_cons, List.length_nil] at this ⊢
     omega
   · have := backGo_len l u o
     simp only [List.length_cons]
     omega
set_option maxRecDepth 100000 in
set_option maxHeartbeats 1600000 in
theorem spBack_any (S : Nat) (s : Sp) (m : Nat) (F : Assn) (w : World) (hs : Sat (spaceP S s * F) w) (hm : m ≤ s.taken.length) (ht : s.taken.length ≤ 1099511627776) :
 Calls Tryz.prog 134 #[.pointer (some ⟨S, 0, none⟩), .int .i64 m] w fun e w' => ∃ a c, e = .returned (.tuple #[.slice a (spBack s m).1.length c, .int .i64 0]) ∧ Sat (rw TIn 1 (.slice a (spBack s m).1.length c) (ints (spBack s m).1) * (spaceP S (spBack s m).2 * F)) w' := by
 obtain ⟨i0, EI⟩ := elemIS
 obtain ⟨U, Wt, v, h1⟩ := Sat.space_open hs
 have h2 : Sat (rw TIn 1 v (ints s.taken) * (coreS S U Wt v s.reserved * (mp ikey U (inU s.used) * (mp ikey Wt (inU s.waiting) * F)))) w := h1.eq (by unfold spaceA; ac_rfl)
 obtain ⟨a, n, c, rfl, h3, hnc, hcm⟩ := rw_v h2
 have hn : s.taken.length = n := by simpa [ints] using h3
 obtain ⟨rr, hrr⟩ : ∃ r, spBack s m = r := ⟨_, rfl⟩
 have HR : Aside (spBack s m = rr) := hrr
 have HN : Aside (s.taken.length = n) := hn
 have hmn : m ≤ n := by omega
 have hn2 : n ≤ 1099511627776 := by omega
 obtain ⟨l, hl⟩ : ∃ l, s.taken.drop m = l := ⟨_, rfl⟩
 have HL : Aside (s.taken.drop m = l) := hl
 have hll : l.length = n - m := by rw [← hl, List.length_drop, hn]
 have hrd : ReadsR 1 (rw TIn 1 (.slice a n c) (ints s.taken)) (.slice (cutA a c m 1) (n - m) (c - m)) (n - m) (ints l) := by
  have := (ReadsR.rw h2 ⟨a, c, rfl⟩).cut m n hmn (Nat.le_refl _)
  rw [Nat.mul_one, Nat.mul_one] at this
  have e : (List.drop m (ints s.taken)).take (n - m) = ints l := by
   rw [← hl]
   unfold ints
   rw [List.map_drop, List.take_of_length_le (by simp; omega)]
  rw [e] at this
  exact this
 obtain ⟨av, hav⟩ : ∃ z, cutA a c m 1 = z := ⟨_, rfl⟩
 have hc1 : ∀ w, (Instr.sliceAt 45 (.slice a n c) (some (.int .i64 m)) none none).run Tryz.prog w = .ok (.slice av (n - m) (c - m)) w := fun w => by rw [← hav]; exact at_from EI m hmn w
 have hc2 : ∀ w, (Instr.sliceAt 45 (.slice a n c) none (some (.int .i64 m)) none).run Tryz.prog w = .ok (.slice (cutA a c 0 1) m c) w := fun w => at_to EI m (by omega) w
 rw [hav] at hrd
 have HRD : Aside (ReadsR 1 (rw TIn 1 (.slice a n c) (ints s.taken)) (.slice av (n - m) (c - m)) (n - m) (ints l)) := hrd
 rw [hrr]
 have h4 := h2.rw_nil (e := TIn) (s := 1)
 have d1 : decide ((m : Int) < 0) = false := by simp
 have d2 : decide ((n : Int) < m) = false := by simp; omega
 have d3 : decide (n < m) = false := by simp; omega
 haveI := h2.i
 clear hs h1 h3 hn ht hrr hl hrd hav hm
 go_enter Tryz.func134, Tryz.ntmps134
 go_wp2
 go_loopg [6, 31] (n - m) (fun g t6 t31 wr => ∃ (j : Nat) (u o : List Int) (a2 : Option Addr) (c2 : Nat), t31 = .int .i64 j ∧ t6 = .slice a2 o.length c2 ∧ j ≤ n - m ∧ o.length ≤ 1099511627776 ∧ Aside (g = n - m - j ∧ backGo (l.take j) s.used [] = (u, o)) ∧
  Sat (rw TIn 1 (.slice a2 o.length c2) (ints o) * (rw TIn 1 (.slice a n c) (ints s.taken) * (coreS S U Wt (.slice a n c) s.reserved * (mp ikey U (inU u) * (mp ikey Wt (inU s.waiting) * F))))) wr)
 case atStart => exact ⟨0, s.used, [], none, 0, rfl, rfl, by omega, by simp, ⟨rfl, rfl⟩, h4⟩
 case round =>
  obtain ⟨j, u, o, a2, c2, rfl, rfl, hj, hol, A, hsr⟩ := hrel
  haveI := hsr.i
  by_cases hlt : j < n - m
  · have hlt' : (j : Int) < ((n - m : Nat) : Int) := by omega
    obtain ⟨k, hk⟩ : ∃ k, l[j]? = some k := ⟨_, List.getElem?_eq_getElem (by omega)⟩
    obtain ⟨b, q, rfl, r1⟩ := (ReadsR.at HRD.out) j (.int .i64 k) (by unfold ints; rw [List.getElem?_map, hk]; rfl)
    have HT : Aside (l.take (j + 1) = l.take j ++ [k]) := take_snoc' hk
    have HO : Aside (o.length ≤ j) := (by
     have := backGo_len (l.take j) s.used []
     rw [A.out.2] at this
     simp at this
     omega : _ ≤ _)
    have l1 := fun w => @look_MB w U k
    have m1 := mget_inU k u
    clear h2 h4 hk
    cases hu : u.contains k with
    | true =>
      have p1 := fun w => @del_MB w U k
      have md := mdel_inU k u
      have HU : Aside (u.contains k = true) := hu
      have hol2 := HO.out
      rw [hu] at m1
      clear hu
      go_wp2_with (at_builtin; go_loud (refine wpl_append_same EI rfl (.tmp 46) (.tmp 48) rfl rfl rfl (takeI (rw TIn 1 (.slice a2 o.length c2) (ints o))) (Src.new (b := (delW Tryz.prog TMB U (ikey k) wr).heap.size) (e := TIn) (s := 1) (vs := [.int .i64 k]) (takeI _) rfl (by intro u hu; simp at hu; subst hu; rfl)) (by unfold maxLen; omega) (by omega) ?_; intro a' c' w3 hs6 hnil; haveI := hs6.i; clear hnil))
      go_roundg (n - m - (j + 1))
      case measure => have := A.out.1; omega
      case rel =>
       refine ⟨j + 1, u.erase k, o ++ [k], a', c', by go_num, by simp, by omega, by simp; omega, ⟨rfl, ?_⟩, ?_⟩
       · rw [HT.out, backGo_snoc, A.out.2]
         show (if u.contains k = true then _ else _) = _
         rw [if_pos HU.out]
       · rw [← md, show ints (o ++ [k]) = ints o ++ [.int .i64 k] by simp [ints], List.length_append]
         exact satI_weak (C := Sl.block (delW Tryz.prog TMB U (ikey k) wr).heap.size TIn [.int .i64 k]) (by show rw TIn 1 (.slice a' (o.length + 1) c') _ * _ = _; ac_rfl)
    | false =>
      have HU : Aside (u.contains k = false) := hu
      rw [hu] at m1
      clear hu
      go_wp2_with fail
      go_roundg (n - m - (j + 1))
      case measure => have := A.out.1; omega
      case rel =>
       refine ⟨j + 1, u, o, a2, c2, by go_num, rfl, by omega, hol, ⟨rfl, ?_⟩, satI⟩
       rw [HT.out, backGo_snoc, A.out.2]
       show (if u.contains k = true then _ else _) = _
       rw [if_neg (by rw [HU.out]; simp)]
  · have hlt' : ¬ (j : Int) < ((n - m : Nat) : Int) := by omega
    have hjl : l.take j = l := List.take_of_length_le (by omega)
    have HB : Aside (rr = (sortI o, { s with used := u, taken := s.taken.take m })) := (by
     rw [← HR.out]
     unfold spBack
     have := A.out.2
     rw [hjl] at this
     rw [HL.out, this] : _ = _)
    clear A hjl h2 h4
    go_upto_region 12 with (fail)
    have h5 : Sat (rw TIn 1 (.slice a n c) (ints s.taken) * (rw TIn 1 (.slice a2 o.length c2) (ints o) * (coreS S U Wt (.slice (cutA a c 0 1) m c) s.reserved * (mp ikey U (inU u) * (mp ikey Wt (inU s.waiting) * F))))) (wr.setCell ⟨S, 3, none⟩ (.slice (cutA a c 0 1) m c)) := satI_eq (by ac_rfl)
    have h6 := h5.rw_cut m hmn
    generalize wr.setCell ⟨S, 3, none⟩ (.slice (cutA a c 0 1) m c) = w5 at h6 ⊢
    have h7 := sortInts_sl a2 o.length c2 o _ w5 (h6.take (rw TIn 1 (.slice a2 o.length c2) (ints o))) (by omega)
    clear h5 h6 hsr
    go_wp2_with fail
    refine h7.mono ?_
    rintro e w6 ⟨rfl, h8⟩
    clear h7
    go_wp2
    go_ret2
    rw [HB.out]
    have HLN : (sortI o).length = o.length := (List.mergeSort_perm o _).length_eq
    simp only [HLN]
    refine ⟨a2, c2, rfl, ?_⟩
    have h9 : Sat (spaceA S U Wt (.slice (cutA a c 0 1) m c) { s with used := u, taken := s.taken.take m } * (rw TIn 1 (.slice a2 o.length c2) (ints (sortI o)) * F)) w6 := h8.eq (by
     unfold spaceA ints
     rw [Nat.mul_one, List.map_take]
     dsimp only [TIn]
     ac_rfl)
    exact (Sat.space_shut h9).eq (by ac_rfl)
end Go.Proofs.YtfhbmblbidcmmaaGreat
namespace Go.Proofs.YtfhbmblbidcmmaaGreat
set_option linter.unusedSimpArgs false
set_option linter.unusedVariables false
open Go.RowKit Go.Sl Go.Dk Go.Tr
attribute [local go_sem ↓] Go.wp_at_zero Go.wp_at_succ
attribute [local go_sem] Go.Sl.cell_sat Go.Sl.frozen_sat
def nbs (wd : Nat) (ns : List Int) : List UInt8 := ns.flatMap fun n => leb (n4 n) wd
theorem nbs_len (wd : Nat) (ns : List Int) : (nbs wd ns).length = ns.length * wd := flat_len (fun n => leb_len _ _) ns
theorem nbs_snoc (wd : Nat) (ns : List Int) (n : Int) : nbs wd (ns ++ [n]) = nbs wd ns ++ leb (n4 n) wd := by simp [nbs]
set_option maxRecDepth 100000 in
set_option maxHeartbeats 1600000 in
theorem ndPut_any (body : List UInt8) (a : Option Addr) (c wd : Nat) (ns : List Int) (v : Value) (B F : Assn) (w : World) (hN : ReadsR 1 B v ns.length (ints ns)) (hs : Sat (rw TB 1 (.slice a body.length c) (bys body) * (B * F)) w)
 (hb : body.length ≤ 1048576) (hn : ns.length ≤ 1048576) (h1 : 1 ≤ wd) (h4 : wd ≤ 4) (hr : ∀ n ∈ ns, -1 ≤ n ∧ n ≤ 4294967295 ∧ n4 n < 256 ^ wd) :
 Calls Tryz.prog 233 #[.slice a body.length c, .int .i64 wd, v] w fun e w' => ∃ a' c', e = .returned (.slice a' (body ++ nbs wd ns).length c') ∧ Sat (rw TB 1 (.slice a' (body ++ nbs wd ns).length c') (bys (body ++ nbs wd ns)) * (B * F)) w' := by
 obtain ⟨i0, E⟩ := elemB
 obtain ⟨aN, cN, rfl, hN1, hN2⟩ := hN.v
 have HN : Aside (ReadsR 1 B (.slice aN ns.length cN) ns.length (ints ns)) := hN
 have HR : Aside (∀ n ∈ ns, -1 ≤ n ∧ n ≤ 4294967295 ∧ n4 n < 256 ^ wd) := hr
 obtain ⟨res, hres⟩ : ∃ r, body ++ nbs wd ns = r := ⟨_, rfl⟩
 have HRS : Aside (body ++ nbs wd ns = res) := hres
 rw [hres]
 clear hN hr hres
 go_enter Tryz.func233, Tryz.ntmps233
 go_wp2
 go_loopg [0, 13] ns.length (fun g t0 t13 wr => ∃ (i : Nat) (o : List UInt8) (a2 : Option Addr) (c2 : Nat), t13 = .int .i64 i ∧ t0 = .slice a2 o.length c2 ∧ i ≤ ns.length ∧ o.length ≤ 1048576 + i * 4 ∧ Aside (g = ns.length - i ∧ o = body ++ nbs wd (ns.take i)) ∧
  Sat (rw TB 1 (.slice a2 o.length c2) (bys o) * (B * F)) wr)
 case atStart => exact ⟨0, body, a, c, rfl, rfl, by omega, by omega, ⟨rfl, by simp [nbs]⟩, hs⟩
 case round =>
  obtain ⟨i, o, a2, c2, rfl, rfl, hi, hol, A, hsr⟩ := hrel
  haveI := hsr.i
  clear hs
  by_cases hlt : i < ns.length
  · have hlt' : (i : Int) < ns.length := by omega
    obtain ⟨k, hk⟩ : ∃ k, ns[i]? = some k := ⟨_, List.getElem?_eq_getElem hlt⟩
    obtain ⟨b, q, rfl, r1⟩ := (ReadsR.at HN.out) i (.int .i64 k) (by unfold ints; rw [List.getElem?_map, hk]; rfl)
    have HT : Aside (ns.take (i + 1) = ns.take i ++ [k]) := take_snoc' hk
    obtain ⟨k1, k2, k3⟩ := HR.out k (List.mem_of_getElem? hk)
    have hlb := leBytes_any (n4 k) wd _ wr hsr h1 (by omega) k3 (by have : (256 : Nat) ^ wd ≤ 256 ^ 4 := Nat.pow_le_pow_right (by omega) h4; omega)
    by_cases hm : k = -1
    · subst hm
      have e4 : n4 (-1) = 4294967295 := rfl
      rw [e4] at hlb
      clear hk k1 k2 k3
      go_wp2_with fail
      refine hlb.mono ?_
      rintro e w1 ⟨a3, c3, rfl, hs1⟩
      clear hlb hsr
      haveI := hs1.i
      go_wp2_with (at_builtin; refine wpl_append_same E rfl (.tmp 25) (.tmp 26) rfl rfl rfl (takeI (rw TB 1 (.slice a2 o.length c2) (bys o))) (Reads.srcI (Reads.rw (e := TB) (v := .slice a3 wd c3) (l := leb 4294967295 wd)) (leb_len _ _)) (by unfold maxLen; omega) (by omega) ?_; intro a' c' w3 hs6 hnil; clear hnil; haveI := hs6.i)
      go_roundg (ns.length - (i + 1))
      case measure => have := A.out.1; omega
      case rel =>
       have hlen : (o ++ leb 4294967295 wd).length = o.length + wd := by rw [List.length_append, leb_len]
       refine ⟨i + 1, o ++ leb 4294967295 wd, a', c', by go_num, by rw [hlen], by omega, by rw [hlen]; omega, ⟨rfl, ?_⟩, ?_⟩
       · rw [HT.out, nbs_snoc, A.out.2, List.append_assoc]; rfl
       · rw [hlen, bys_append]
         exact keep3 _ B F
    · have e4 : n4 k = k.toNat := by unfold n4; rw [if_neg hm]
      have HE : Aside (n4 k = k.toNat) := e4
      obtain ⟨m, rfl⟩ := Int.eq_ofNat_of_zero_le (show 0 ≤ k by omega)
      rw [e4] at hlb
      simp only [Int.toNat_natCast] at hlb e4
      have hm2 : ((m : Int) == -1) = false := by simp
      clear hk k1 k2 k3 hm e4
      go_wp2_with fail
      refine hlb.mono ?_
      rintro e w1 ⟨a3, c3, rfl, hs1⟩
      clear hlb hsr
      haveI := hs1.i
      go_wp2_with (at_builtin; refine wpl_append_same E rfl (.tmp 25) (.tmp 26) rfl rfl rfl (takeI (rw TB 1 (.slice a2 o.length c2) (bys o))) (Reads.srcI (Reads.rw (e := TB) (v := .slice a3 wd c3) (l := leb m wd)) (leb_len _ _)) (by unfold maxLen; omega) (by omega) ?_; intro a' c' w3 hs6 hnil; clear hnil; haveI := hs6.i)
      go_roundg (ns.length - (i + 1))
      case measure => have := A.out.1; omega
      case rel =>
       have hlen : (o ++ leb m wd).length = o.length + wd := by rw [List.length_append, leb_len]
       refine ⟨i + 1, o ++ leb m wd, a', c', by go_num, by rw [hlen], by omega, by rw [hlen]; omega, ⟨rfl, ?_⟩, ?_⟩
       · rw [HT.out, nbs_snoc, A.out.2, List.append_assoc]; rw [HE.out]; rfl
       · rw [hlen, bys_append]
         exact keep3 _ B F
  · have hlt' : ¬ (i : Int) < ns.length := by omega
    have hf : ns.take i = ns := List.take_of_length_le (by omega)
    have HO : Aside (o = body ++ nbs wd ns) := (by have := A.out.2; rw [hf] at this; exact this : _ = _)
    clear A hf
    go_wp2
    go_ret
    obtain rfl : res = o := by rw [← HRS.out, ← HO.out]
    exact ⟨a2, c2, rfl, satI⟩
end Go.Proofs.YtfhbmblbidcmmaaGreat
namespace Go.Proofs.YtfhbmblbidcmmaaGreat
set_option linter.unusedSimpArgs false
set_option linter.unusedVariables false
open Go.RowKit Go.Sl Go.Dk Go.Tr
attribute [local go_sem ↓] Go.wp_at_zero Go.wp_at_succ
attribute [local go_sem] Go.Sl.cell_sat Go.Sl.frozen_sat
abbrev cI (X : Nat) (x : Int) : Assn := Sl.block X TIn [.int .i64 x]
set_option maxRecDepth 100000 in
set_option maxHeartbeats 1600000 in
theorem sum1_any (X Y Z : Nat) (x y z b l s : Int) (F : Assn) (w : World) (hs : Sat (cI X x * (cI Y y * (cI Z z * F))) w)
 (hx : 0 ≤ x ∧ x ≤ 4611686018427387904) (hb : 0 ≤ b ∧ b ≤ 1048576) (hy : 0 ≤ y ∧ y ≤ 4611686018427387904) (hsb : 0 ≤ s ∧ s ≤ 1048576) (hz : -1 ≤ z ∧ z ≤ 4611686018427387904) (hl : -1 ≤ l ∧ l ≤ 1048576) :
 Calls Tryz.prog 161 #[.int .i64 b, .int .i64 l, .int .i64 s, .pointer (some ⟨X, 0, none⟩), .pointer (some ⟨Y, 0, none⟩), .pointer (some ⟨Z, 0, none⟩)] w fun e w' => e = .returned (.tuple #[]) ∧ Sat (cI X (x + b) * (cI Y (y + s) * (cI Z (addL z l) * F))) w' := by
 have hw1 : IntKind.i64.wrap (x + b) = x + b := IntWalk.i64_in _ (by omega)
 have hw2 : IntKind.i64.wrap (y + s) = y + s := IntWalk.i64_in _ (by omega)
 haveI := hs.i
 by_cases c1 : l < 0
 · have d1 : decide (l < 0) = true := by simpa using c1
   have HA : Aside (addL z l = -1) := (by unfold addL; rw [if_pos (.inl c1)] : _ = _)
   go_enter Tryz.func161, Tryz.ntmps161
   go_wp2_with fail
   go_region
   go_wp2
   refine bodyPost_ret (results_none rfl _ _ _) rfl ?_
   exact ⟨rfl, by rw [HA.out]; exact satI⟩
 · have d1 : decide (l < 0) = false := by simpa using c1
   by_cases c2 : z < 0
   · have d2 : decide (z < 0) = true := by simpa using c2
     have HA : Aside (addL z l = -1) := (by unfold addL; rw [if_pos (.inr c2)] : _ = _)
     go_enter Tryz.func161, Tryz.ntmps161
     go_wp2_with fail
     go_region
     go_wp2
     refine bodyPost_ret (results_none rfl _ _ _) rfl ?_
     exact ⟨rfl, by rw [HA.out]; exact satI⟩
   · have d2 : decide (z < 0) = false := by simpa using c2
     have HA : Aside (addL z l = z + l) := (by unfold addL; rw [if_neg (by omega)] : _ = _)
     have hw3 : IntKind.i64.wrap (z + l) = z + l := IntWalk.i64_in _ (by omega)
     go_enter Tryz.func161, Tryz.ntmps161
     go_wp2_with fail
     go_region
     go_wp2
     go_end0
     exact ⟨rfl, by rw [HA.out]; exact satI⟩
theorem ndSum_ret (X Y Z : Nat) (x y z : Int) (G : Assn) {Q : Ending → World → Prop} {a : Act} {W : World} (hs : Sat (cI X x * (cI Y y * (cI Z z * G))) W)
 (t2 : a.tmps[2]?.getD undef = .pointer (some ⟨X, 0, none⟩)) (t3 : a.tmps[3]?.getD undef = .pointer (some ⟨Z, 0, none⟩)) (t4 : a.tmps[4]?.getD undef = .pointer (some ⟨Y, 0, none⟩)) (hd : a.defers = [])
 (hQ : Q (.returned (.tuple #[.int .i64 x, .int .i64 z, .int .i64 y])) W) : bodyPost Tryz.prog Tryz.f131 Q .ret a W := by
 haveI := hs.i
 have c1 := cell_sat W X 0
 have c2 := cell_sat W Z 0
 have c3 := cell_sat W Y 0
 refine bodyPost_ret (v := .tuple #[.int .i64 x, .int .i64 z, .int .i64 y]) ?_ hd hQ
 simp [results, Tryz.results131, go_sem, t2, t3, t4, c1, c2, c3]
theorem fold_snoc {α β : Type} {f : β → α → β} {z : β} {l : List α} {i : Nat} {x : α} (h : l[i]? = some x) : (l.take (i + 1)).foldl f z = f ((l.take i).foldl f z) x := by rw [take_snoc' h, List.foldl_append]; rfl
theorem addL_ge {z l : Int} (h : -1 ≤ z) (h2 : -1 ≤ l) : -1 ≤ addL z l := by unfold addL; split <;> omega
theorem addL_le {z l m : Int} (h : z ≤ m) (h2 : l ≤ 1048576) (h3 : -1 ≤ m) : addL z l ≤ m + 1048576 := by unfold addL; split <;> omega
def sumR (n : Nd) : Int × Int × Int := (eBytes n.ents + kBytes n.kids, (n.kids.map (·.lines)).foldl addL ((n.ents.map (·.lines)).foldl addL 0), n.ents.length + kScraps n.kids)
set_option maxRecDepth 100000 in
set_option maxHeartbeats 1600000 in
theorem ndSum_any (n : Nd) (v : Value) (B F : Assn) (w : World) (hN : ReadsN B v n) (hs : Sat (B * F) w) (hle : n.ents.length ≤ 4294967296) (hlk : n.kids.length ≤ 4294967296) :
 Calls Tryz.prog 131 #[v] w fun e w' => e = .returned (.tuple #[.int .i64 (ndSum n).1, .int .i64 (ndSum n).2.1, .int .i64 (ndSum n).2.2]) ∧ Sat (B * F) w' := by
 have hmay := fun F w h => may_any n v B F w hN h hle hlk
 obtain ⟨vE, vK, rfl, hE, hK⟩ := hN
 obtain ⟨aE, cE, rfl, hE1, hE2⟩ := hE.v
 obtain ⟨aK, cK, rfl, hK1, hK2⟩ := hK.v
 have HE : Aside (ReadsE B (.slice aE n.ents.length cE) n.ents) := hE
 have HK : Aside (ReadsK B (.slice aK n.kids.length cK) n.kids) := hK
 obtain ⟨lf, hlf⟩ : ∃ r, n.leaf = r := ⟨_, rfl⟩
 rw [hlf] at hmay ⊢
 obtain ⟨mr, hmr⟩ : ∃ r, may n = r := ⟨_, rfl⟩
 rw [hmr] at hmay
 obtain ⟨T, hT⟩ : ∃ z, w.heap.size = z := ⟨_, rfl⟩
 have a1 := hs.alloc #[.bool lf, .slice aE n.ents.length cE, .slice aK n.kids.length cK] TNd
 have a2 := a1.alloc #[.int .i64 0] TIn
 have a3 := a2.alloc #[.int .i64 0] TIn
 have a4 := a3.alloc #[.int .i64 0] TIn
 have e1 : (w.alloc (.cells #[.bool lf, .slice aE n.ents.length cE, .slice aK n.kids.length cK] TNd)).heap.size = T + 1 := by simp [hT]
 have e2 : ((w.alloc (.cells #[.bool lf, .slice aE n.ents.length cE, .slice aK n.kids.length cK] TNd)).alloc (.cells #[.int .i64 0] TIn)).heap.size = T + 1 + 1 := by simp [hT]
 have e3 : (((w.alloc (.cells #[.bool lf, .slice aE n.ents.length cE, .slice aK n.kids.length cK] TNd)).alloc (.cells #[.int .i64 0] TIn)).alloc (.cells #[.int .i64 0] TIn)).heap.size = T + 1 + 1 + 1 := by simp [hT]
 rw [e1, e2, e3, hT] at a4
 obtain ⟨X, hX⟩ : ∃ z, T + 1 = z := ⟨_, rfl⟩
 obtain ⟨Z, hZ⟩ : ∃ z, T + 1 + 1 = z := ⟨_, rfl⟩
 obtain ⟨Y, hY⟩ : ∃ z, T + 1 + 1 + 1 = z := ⟨_, rfl⟩
 rw [hY, hZ, hX] at a4
 have a5 : Sat (B * (cI X 0 * (cI Y 0 * (cI Z 0 * (Sl.block T TNd [.bool lf, .slice aE n.ents.length cE, .slice aK n.kids.length cK] * F))))) _ := a4.eq (by dsimp only [cI]; ac_rfl)
 have h5 := hmay _ _ a5
 have HT : Aside (w.heap.size = T ∧ w.heap.size + 1 = X ∧ w.heap.size + 1 + 1 = Z ∧ w.heap.size + 1 + 1 + 1 = Y) := ⟨hT, by rw [hT, hX], by rw [hT, hX, ← hZ, hX], by rw [hT, hX, ← hY, hX]⟩
 clear hmay a1 a2 a3 a4 a5 e1 e2 e3 hE hK hT hX hZ hY
 haveI := hs.i
 have HLF : Aside (n.leaf = lf) := hlf
 cases mr with
 | false =>
   have HR : Aside (ndSum n = (0, 0, 0)) := (by unfold ndSum; rw [hmr]; rfl : _ = _)
   clear hmr hlf HE HK
   go_enter Tryz.func131, Tryz.ntmps131
   go_wp2_with fail
   obtain ⟨q1, q2, q3, q4⟩ := HT.out
   rw [q4, q3, q2, q1]
   clear q1 q2 q3 q4
   refine h5.mono ?_
   rintro e w' ⟨rfl, hs2⟩
   haveI := hs2.i
   clear h5
   go_wp2
   rw [HR.out]
   exact ndSum_ret X Y Z 0 0 0 _ (satI_eq (by dsimp only [cI]; ac_rfl) : Sat (cI X 0 * (cI Y 0 * (cI Z 0 * (Sl.block T TNd [.bool lf, .slice aE n.ents.length cE, .slice aK n.kids.length cK] * (B * F))))) _) rfl rfl rfl rfl ⟨rfl, keep2 B F⟩
 | true =>
   have HR : Aside (ndSum n = sumR n) := (by unfold ndSum sumR; rw [hmr]; rfl : _ = _)
   have HMY : Aside ((∀ x ∈ n.ents, mayEnt x = true) ∧ (∀ x ∈ n.kids, mayKid x = true) ∧ n.ents.length ≤ 12 ∧ n.kids.length ≤ 12) := (by
    cases hl : n.leaf with
    | true =>
      obtain ⟨h1, h2, h3, h4, _⟩ := may_leaf hmr hl
      exact ⟨h2, (by rw [h1]; simp), h4, by rw [h1]; simp⟩
    | false =>
      obtain ⟨h1, h2, h3, h4, _⟩ := may_inner hmr hl
      exact ⟨(by rw [h1]; simp), h2, by rw [h1]; simp, h4⟩ : _ ∧ _)
   have hl1 := HMY.out.2.2.1
   have hl2 := HMY.out.2.2.2
   clear hmr hlf
   go_enter Tryz.func131, Tryz.ntmps131
   go_wp2_with fail
   obtain ⟨q1, q2, q3, q4⟩ := HT.out
   rw [q4, q3, q2, q1]
   clear q1 q2 q3 q4
   refine h5.mono ?_
   rintro e w' ⟨rfl, hs2⟩
   have hs3 : Sat (cI X 0 * (cI Y 0 * (cI Z 0 * (Sl.block T TNd [.bool lf, .slice aE n.ents.length cE, .slice aK n.kids.length cK] * (B * F))))) w' := hs2.eq (by ac_rfl)
   haveI := hs3.i
   clear h5 hs hs2
   go_wp2
   go_loopg [17] n.ents.length (fun g t17 wr => ∃ (i : Nat) (x z : Int), t17 = .int .i64 i ∧ i ≤ n.ents.length ∧ 0 ≤ x ∧ x ≤ i * 1048576 ∧ -1 ≤ z ∧ z ≤ i * 1048576 ∧ Aside (g = n.ents.length - i ∧ x = eBytes (n.ents.take i) ∧ z = ((n.ents.map (·.lines)).take i).foldl addL 0) ∧
    Sat (cI X x * (cI Y i * (cI Z z * (Sl.block T TNd [.bool lf, .slice aE n.ents.length cE, .slice aK n.kids.length cK] * (B * F))))) wr)
   case atStart => exact ⟨0, 0, 0, rfl, by omega, by omega, by omega, by omega, by omega, ⟨rfl, by simp [eBytes], by simp⟩, hs3⟩
   case round =>
    obtain ⟨i, x, z, rfl, hi, hx0, hx, hz0, hz, A, hsr⟩ := hrel
    haveI := hsr.i
    clear hs3
    by_cases hlt : i < n.ents.length
    · have hlt' : (i : Int) < n.ents.length := by omega
      obtain ⟨y, hy⟩ : ∃ y, n.ents[i]? = some y := ⟨_, List.getElem?_eq_getElem hlt⟩
      obtain ⟨b, o, rfl, r1, r2, r3, r4⟩ := readsE_at HE.out hy
      have hm := HMY.out.1 y (List.mem_of_getElem? hy)
      have HX : Aside (n.ents[i]? = some y) := hy
      obtain ⟨y1, y2, y3, y4⟩ := y
      have hb := mayE_bounds hm
      have hb2 : -1 ≤ y4 ∧ y4 ≤ y3 := by unfold mayEnt at hm; simp only [decide_eq_true_eq] at hm; exact hm.2.2.2.2.2.2.1
      simp only at hb
      have h1 := fun F w h => sum1_any X Y Z x i z y3 y4 1 F w h (by omega) (by omega) (by omega) (by omega) (by omega) (by omega)
      clear hy hm
      go_wp2_with (go_at_call 161; refine (h1 _ _ (takeI3 (cI X x) (cI Y i) (cI Z z))).mono ?_; rintro e w' ⟨rfl, hs4⟩; haveI := hs4.i)
      go_roundg (n.ents.length - (i + 1))
      case measure => have := A.out.1; omega
      case rel =>
       have e4 : ((n.ents.map (·.lines)))[i]? = some y4 := by rw [List.getElem?_map, HX.out]; rfl
       have g1 := addL_ge hz0 (l := y4) (by omega)
       have g2 := addL_le hz (l := y4) (by omega) (by omega)
       refine ⟨i + 1, x + y3, addL z y4, by go_num, by omega, by omega, by omega, by omega, by omega, ⟨rfl, ?_, ?_⟩, ?_⟩
       · rw [eBytes_snoc HX.out, A.out.2.1]
       · rw [fold_snoc e4, A.out.2.2]
       · exact satI_weak (C := Sl.block wr.heap.size TEn [.int .i64 y1, .int .i64 y2, .int .i64 y3, .int .i64 y4]) (by dsimp only [cI]; rw [show (((i + 1 : Nat)) : Int) = (i : Int) + 1 by omega]; ac_rfl)
    · have hlt' : ¬ (i : Int) < n.ents.length := by omega
      have hf1 : n.ents.take i = n.ents := List.take_of_length_le (by omega)
      have hf2 : (n.ents.map (·.lines)).take i = n.ents.map (·.lines) := List.take_of_length_le (by simp; omega)
      have hii : i = n.ents.length := by omega
      have HEN : Aside (x = eBytes n.ents ∧ z = (n.ents.map (·.lines)).foldl addL 0 ∧ (i : Int) = n.ents.length) := (by
       have h := A.out.2
       rw [hf1, hf2] at h
       exact ⟨h.1, h.2, by omega⟩ : _ ∧ _)
      clear A hf1 hf2 hii HE
      go_wp2
      go_loopg [32] n.kids.length (fun g t32 wq => ∃ (j : Nat) (xk yk zk : Int), t32 = .int .i64 j ∧ j ≤ n.kids.length ∧ 0 ≤ xk ∧ xk ≤ j * 1048576 ∧ 0 ≤ yk ∧ yk ≤ j * 1048576 ∧ -1 ≤ zk ∧ zk ≤ 12582912 + j * 1048576 ∧ Aside (g = n.kids.length - j ∧ xk = kBytes (n.kids.take j) ∧ yk = kScraps (n.kids.take j) ∧ zk = ((n.kids.map (·.lines)).take j).foldl addL z) ∧
       Sat (cI X (x + xk) * (cI Y (i + yk) * (cI Z zk * (Sl.block T TNd [.bool lf, .slice aE n.ents.length cE, .slice aK n.kids.length cK] * (B * F))))) wq)
      case atStart => exact ⟨0, 0, 0, z, rfl, by omega, by omega, by omega, by omega, by omega, by omega, by omega, ⟨rfl, by simp [kBytes], by simp [kScraps], by simp⟩, by simp only [Int.add_zero]; exact satI⟩
      case round =>
       obtain ⟨j, xk, yk, zk, rfl, hj, hk1, hk2, hk3, hk4, hk5, hk6, A, hsq⟩ := hrel
       clear hsr
       haveI := hsq.i
       by_cases hlt : j < n.kids.length
       · have hlt' : (j : Int) < n.kids.length := by omega
         obtain ⟨y, hy⟩ : ∃ y, n.kids[j]? = some y := ⟨_, List.getElem?_eq_getElem hlt⟩
         obtain ⟨b, o, rfl, r1, r2, r3, r4⟩ := readsK_at HK.out hy
         have hm := HMY.out.2.1 y (List.mem_of_getElem? hy)
         have HX : Aside (n.kids[j]? = some y) := hy
         obtain ⟨y1, y2, y3, y4⟩ := y
         have hb := mayK_bounds hm
         have hb2 : -1 ≤ y3 ∧ y3 ≤ y2 := by unfold mayKid at hm; simp only [decide_eq_true_eq] at hm; exact hm.2.2.2.2.1
         simp only at hb
         have h1 := fun F w h => sum1_any X Y Z (x + xk) (i + yk) zk y2 y3 y4 F w h (by omega) (by omega) (by omega) (by omega) (by omega) (by omega)
         clear hy hm
         go_wp2_with (go_at_call 161; refine (h1 _ _ (takeI3 (cI X (x + xk)) (cI Y (i + yk)) (cI Z zk))).mono ?_; rintro e w' ⟨rfl, hs4⟩; haveI := hs4.i)
         go_roundg (n.kids.length - (j + 1))
         case measure => have := A.out.1; omega
         case rel =>
          have e4 : ((n.kids.map (·.lines)))[j]? = some y3 := by rw [List.getElem?_map, HX.out]; rfl
          have g1 := addL_ge hk5 (l := y3) (by omega)
          have g2 := addL_le hk6 (l := y3) (by omega) (by omega)
          refine ⟨j + 1, xk + y2, yk + y4, addL zk y3, by go_num, by omega, by omega, by omega, by omega, by omega, by omega, by omega, ⟨rfl, ?_, ?_, ?_⟩, ?_⟩
          · rw [kBytes_snoc HX.out, A.out.2.1]
          · rw [kScraps_snoc HX.out, A.out.2.2.1]
          · rw [fold_snoc e4, A.out.2.2.2]
          · exact satI_weak (C := Sl.block wr.heap.size TKd [.int .i64 y1, .int .i64 y2, .int .i64 y3, .int .i64 y4]) (by dsimp only [cI]; rw [← Int.add_assoc, ← Int.add_assoc]; ac_rfl)
       · have hlt' : ¬ (j : Int) < n.kids.length := by omega
         have hf1 : n.kids.take j = n.kids := List.take_of_length_le (by omega)
         have hf2 : (n.kids.map (·.lines)).take j = n.kids.map (·.lines) := List.take_of_length_le (by simp; omega)
         have HF : Aside (ndSum n = (x + xk, zk, i + yk)) := (by
          have h := A.out.2
          rw [hf1, hf2] at h
          rw [HR.out]
          unfold sumR
          rw [HEN.out.1, HEN.out.2.2, h.1, h.2.1, h.2.2, HEN.out.2.1] : _ = _)
         clear A hf1 hf2 HK HR
         go_wp2_with fail
         go_region
         go_wp2
         rw [HF.out]
         exact ndSum_ret X Y Z (x + xk) (i + yk) zk _ (satI_eq (by dsimp only [cI]; ac_rfl) : Sat (cI X (x + xk) * (cI Y (i + yk) * (cI Z zk * (Sl.block T TNd [.bool lf, .slice aE n.ents.length cE, .slice aK n.kids.length cK] * (B * F))))) _) rfl rfl rfl rfl ⟨rfl, keep2 B F⟩
end Go.Proofs.YtfhbmblbidcmmaaGreat
