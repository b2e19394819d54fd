/-
  Of all versions the pages that are told are just those of their trees in the file in the form of the document, and a root that is none is refused. No condition. (part 16)
-/
import Derived.Test.YtfhbmblbidcmmaaGreatVa14
import Derived.Test.YtfhbmblbidcmmaaGreatVa15
import Derived.Test.YtfhbmblbidcmmaaGreatVa3
import Derived.Test.YtfhbmblbidcmmaaGreatVa2
import Derived.Deep.DeepCutAuto
import Derived.IntWalk
import Derived.BigQuiet
set_option linter.unusedSimpArgs false
set_option linter.unusedVariables false
namespace Go.Proofs.YtfhbmblbidcmmaaGreat
set_option linter.unusedSimpArgs false
set_option linter.unusedVariables false
open Go.RowKit Go.Sl Go.Dk Go.Tr
open Go.Lru (ikey)
attribute [local go_sem ↓] Go.wp_at_zero Go.wp_at_succ
attribute [local go_sem] Go.Sl.cell_sat Go.Sl.frozen_sat
abbrev TSp : TypeId := 208
abbrev TMB : TypeId := 206
abbrev TIn : TypeId := 3
theorem elemIS : ∃ i, ElemOk Tryz.prog 45 TIn 1 8 i (.int .i64 0) := elemOk Tryz.underlying45 (by kernel_rfl) rfl (by omega)
def inU (l : List Int) : List (Int × Value) := l.map fun k => (k, .bool true)
theorem mget_inU (k : Int) : ∀ l : List Int, (mget k (inU l)).getD (.bool false) = .bool (l.contains k)
 | [] => rfl
 | x :: l => by
   show ((if k = x then some (Value.bool true) else mget k (inU l)).getD (.bool false)) = _
   by_cases h : k = x
   · rw [if_pos h]; simp [h]
   · rw [if_neg h, mget_inU k l]
     simp [h]
theorem mput_inU (k : Int) : ∀ l : List Int, l.contains k = false → mput k (.bool true) (inU l) = inU (l ++ [k])
 | [], _ => rfl
 | x :: l, h => by
   simp only [List.contains_cons, Bool.or_eq_false_iff, beq_eq_false_iff_ne, ne_eq] at h
   show (if k = x then _ else _ :: mput k (.bool true) (inU l)) = _
   rw [if_neg h.1, mput_inU k l h.2]
   rfl
theorem mdel_inU (k : Int) : ∀ l : List Int, mdel k (inU l) = inU (l.erase k)
 | [] => rfl
 | x :: l => by
   show (if k = x then inU l else (x, Value.bool true) :: mdel k (inU l)) = _
   by_cases h : k = x
   · rw [if_pos h, h]; simp
   · rw [if_neg h, mdel_inU k l, List.erase_cons_tail (by simpa using fun e => h e.symm)]
     rfl
def coreS (S U Wt : Nat) (v : Value) (r : Int) : Assn :=
 hdr S TSp 4 * (Sl.cell S 0 (.int .i64 r) * (Sl.cell S 1 (.map (some U)) * (Sl.cell S 2 (.map (some Wt)) * Sl.cell S 3 v)))
section
variable (S U Wt : Nat) (v : Value) (r : Int)
instance : HasC (coreS S U Wt v r) S 0 (.int .i64 r) := by unfold coreS; infer_instance
instance : HasC (coreS S U Wt v r) S 1 (.map (some U)) := by unfold coreS; infer_instance
instance : HasC (coreS S U Wt v r) S 2 (.map (some Wt)) := by unfold coreS; infer_instance
instance : HasC (coreS S U Wt v r) S 3 v := by unfold coreS; infer_instance
instance (a : Option Addr) (n c : Nat) : Upd (coreS S U Wt v r) S 3 (.slice a n c) (coreS S U Wt (.slice a n c) r) := by unfold coreS; infer_instance
end
instance mapMB : MapT Tryz.prog TMB Int ikey (.bool false) := ⟨TIn, 4, keyOk3, Tryz.underlying206, fun w => by kernel_rfl⟩
theorem look_MB (w : World) (M : Nat) (k : Int) {A : Assn} {ms : List (Int × Value)} [h : SatI A w] [h2 : HasM A M ikey ms] : (Instr.lookup TMB (.map (some M)) (.int .i64 k) false).run Tryz.prog w = .ok ((mget k ms).getD (.bool false)) w := lookup_run mapMB w M k
theorem put_MB (w : World) (M : Nat) (k : Int) (v : Value) {A : Assn} {ms : List (Int × Value)} [h : SatI A w] [h2 : HasM A M ikey ms] : (Instr.mapUpdate TMB (.map (some M)) (.int .i64 k) v).run Tryz.prog w = .ok () (putW Tryz.prog TMB M (ikey k) v w) := put_run mapMB w M k v
theorem del_MB (w : World) (M : Nat) (k : Int) (kt' ty : TypeId) {A : Assn} {ms : List (Int × Value)} [h : SatI A w] [h2 : HasM A M ikey ms] : (Builtin.delete_ #[TMB, kt'] ty #[.map (some M), .int .i64 k]).run Tryz.prog w = .ok (.tuple #[]) (delW Tryz.prog TMB M (ikey k) w) := del_run mapMB w M k kt' ty
instance {w : World} {M : Nat} {k : Int} {v : Value} {A A' : Assn} {ms : List (Int × Value)} [h : SatI A w] [h2 : HasM A M ikey ms] [h3 : UpdM A M ikey (mput k v ms) A'] : SatI A' (putW Tryz.prog TMB M (ikey k) v w) := put_sat mapMB
instance {w : World} {M : Nat} {k : Int} {A A' : Assn} {ms : List (Int × Value)} [h : SatI A w] [h2 : HasM A M ikey ms] [h3 : UpdM A M ikey (mdel k ms) A'] : SatI A' (delW Tryz.prog TMB M (ikey k) w) := del_sat mapMB
def ints (l : List Int) : List Value := l.map (Value.int .i64)
def spaceA (S U Wt : Nat) (v : Value) (s : Sp) : Assn := coreS S U Wt v s.reserved * (mp ikey U (inU s.used) * (mp ikey Wt (inU s.waiting) * rw TIn 1 v (ints s.taken)))
def spaceP (S : Nat) (s : Sp) : Assn := ex fun x : Nat × Nat × Value => spaceA S x.1 x.2.1 x.2.2 s
theorem Sat.space_open {S : Nat} {s : Sp} {F : Assn} {w : World} (hs : Sat (spaceP S s * F) w) : ∃ U Wt v, Sat (spaceA S U Wt v s * F) w := by
 obtain ⟨⟨U, Wt, v⟩, h⟩ := hs.ex_open
 exact ⟨U, Wt, v, h⟩
theorem Sat.space_shut {S U Wt : Nat} {v : Value} {s : Sp} {F : Assn} {w : World} (hs : Sat (spaceA S U Wt v s * F) w) : Sat (spaceP S s * F) w := Sat.ex_shut (U, Wt, v) hs
set_option maxHeartbeats 800000 in
theorem spMark_any (S : Nat) (s : Sp) (F : Assn) (w : World) (hs : Sat (spaceP S s * F) w) :
 Calls Tryz.prog 82 #[.pointer (some ⟨S, 0, none⟩)] w fun e w' => e = .returned (.int .i64 s.mark) ∧ Sat (spaceP S s * F) w' := by
 obtain ⟨U, Wt, v, h1⟩ := Sat.space_open hs
 have h2 : Sat (rw TIn 1 v (ints s.taken) * (coreS S U Wt v s.reserved * (mp ikey U (inU s.used) * (mp ikey Wt (inU s.waiting) * F)))) w := h1.eq (by unfold spaceA; ac_rfl)
 obtain ⟨a, n, c, rfl, h3, _⟩ := rw_v h2
 have hn : s.taken.length = n := by simpa [ints] using h3
 have HS : Aside (Sat (spaceP S s * F) w) := hs
 have HM : Aside (s.mark = (n : Int)) := (by unfold Sp.mark; rw [hn] : _ = _)
 haveI := h2.i
 clear hs h1 h3 hn
 go_enter Tryz.func82, Tryz.ntmps82
 go_wp2
 go_ret
 exact ⟨by rw [HM.out]; rfl, HS.out⟩
set_option maxHeartbeats 800000 in
theorem spNew_yes (r : Int) (F : Assn) (w : World) (h0 : 0 ≤ r) (h1 : r ≤ 1048576) (hs : Sat F w) :
 Calls Tryz.prog 63 #[.int .i64 r] w fun e w' => ∃ S, e = .returned (.tuple #[.pointer (some ⟨S, 0, none⟩), .int .i64 0]) ∧ Sat (spaceP S (Sp.new r) * F) w' := by
 have d1 : decide (r < 0) = false := by simp; omega
 have d2 : decide (1048576 < r) = false := by simp; omega
 have hmm := @run_makeMap Tryz.prog
 have a1 := hs.alloc_raw (.map #[] 0)
 have a2 := a1.alloc_raw (.map #[] 0)
 have e1 : (w.alloc (.map #[] 0)).heap.size = w.heap.size + 1 := by simp
 have e2 : ((w.alloc (.map #[] 0)).alloc (.map #[] 0)).heap.size = w.heap.size + 2 := by simp
 have a3 := a2.alloc #[.int .i64 r, .map (some w.heap.size), .map (some (w.heap.size + 1)), .slice none 0 0] TSp
 rw [e1, e2] at a3
 have a4 := Sat.mp_shut (kf := ikey) (ms := []) (b := w.heap.size) (o := .map #[] 0) ⟨#[], 0, rfl, rfl, by simp, by simp⟩ (a3.take (raw w.heap.size _))
 have a5 := Sat.mp_shut (kf := ikey) (ms := []) (b := w.heap.size + 1) (o := .map #[] 0) ⟨#[], 0, rfl, rfl, by simp, by simp⟩ (a4.take (raw (w.heap.size + 1) _))
 have a6 := Sat.rw_nil (e := TIn) (s := 1) a5
 clear a1 a2 a3 a4 a5 e1 e2 hs
 go_enter Tryz.func63, Tryz.ntmps63
 go_wp2
 go_ret2
 refine ⟨w.heap.size + 2, rfl, Sat.space_shut (U := w.heap.size) (Wt := w.heap.size + 1) (v := .slice none 0 0) (a6.eq ?_)⟩
 unfold spaceA coreS
 simp only [block, Sl.cells, sep_one, Sp.new, inU, ints, List.map_nil, List.length_cons, List.length_nil, Nat.zero_add, Nat.reduceAdd]
 ac_rfl
set_option maxRecDepth 100000 in
set_option maxHeartbeats 1600000 in
theorem spTake_any (S : Nat) (s : Sp) (F : Assn) (w : World) (hs : Sat (spaceP S s * F) w) (hr : 0 ≤ s.reserved) (hr2 : s.reserved ≤ 1048576) (ht : s.taken.length ≤ 1099511627776) :
 Calls Tryz.prog 193 #[.pointer (some ⟨S, 0, none⟩)] w fun e w' => e = .returned (.tuple #[.int .i64 s.take.1.1, .int .i64 s.take.1.2]) ∧ Sat (spaceP S s.take.2 * F) w' := by
 obtain ⟨i0, EI⟩ := elemIS
 obtain ⟨U, Wt, v, h1⟩ := Sat.space_open hs
 have h2 : Sat (rw TIn 1 v (ints s.taken) * (coreS S U Wt v s.reserved * (mp ikey U (inU s.used) * (mp ikey Wt (inU s.waiting) * F)))) w := h1.eq (by unfold spaceA; ac_rfl)
 obtain ⟨a, n, c, rfl, h3, _⟩ := rw_v h2
 have hn : s.taken.length = n := by simpa [ints] using h3
 obtain ⟨rr, hrr⟩ : ∃ r, s.take = r := ⟨_, rfl⟩
 have HR : Aside (s.take = rr) := hrr
 have HN : Aside (s.taken.length = n) := hn
 have hn2 : n ≤ 1099511627776 := by omega
 obtain ⟨r0, hr0⟩ : ∃ r, s.reserved = r := ⟨_, rfl⟩
 have HR0 : Aside (s.reserved = r0) := hr0
 rw [hr0] at hr hr2 h2
 rw [hrr]
 haveI := h2.i
 clear hs h1 h3 hn ht hrr hr0
 go_enter Tryz.func193, Tryz.ntmps193
 go_wp2
 go_loopg [4] (1048576 - r0).toNat (fun g t4 wr => ∃ no : Int, t4 = .int .i64 no ∧ r0 ≤ no ∧ no ≤ 1048576 ∧ Aside (g = (1048576 - no).toNat ∧ s.free = s.least (1048576 - no).toNat no) ∧ w = wr)
 case atStart => exact ⟨r0, rfl, by omega, hr2, ⟨rfl, by unfold Sp.free; rw [HR0.out]⟩, rfl⟩
 case round =>
  obtain ⟨no, rfl, hno, hno2, A, rfl⟩ := hrel
  by_cases hlt : no < 1048576
  · have hfree : s.free = if s.busy no then s.least (1048576 - (no + 1)).toNat (no + 1) else some no := by
     rw [A.out.2]
     obtain ⟨k, hk⟩ : ∃ k, (1048576 - no).toNat = k + 1 := ⟨(1048576 - no).toNat - 1, by omega⟩
     rw [hk, show (1048576 - (no + 1)).toNat = k by omega]
     rfl
    have l1 := fun w => @look_MB w U no
    have l2 := fun w => @look_MB w Wt no
    have m1 := mget_inU no s.used
    have m2 := mget_inU no s.waiting
    cases hu : s.used.contains no with
    | true =>
      have HB : Aside (s.free = s.least (1048576 - (no + 1)).toNat (no + 1)) := (by rw [hfree, if_pos (by unfold Sp.busy; rw [hu]; rfl)] : _ = _)
      rw [hu] at m1
      clear hfree hu
      go_wp2_with fail
      go_roundg (1048576 - (no + 1)).toNat
      case measure => have := A.out.1; omega
      case rel => exact ⟨no + 1, rfl, by omega, by omega, ⟨rfl, HB.out⟩, rfl⟩
    | false =>
      cases hw : s.waiting.contains no with
      | true =>
        have HB : Aside (s.free = s.least (1048576 - (no + 1)).toNat (no + 1)) := (by rw [hfree, if_pos (by unfold Sp.busy; rw [hw, Bool.or_true])] : _ = _)
        rw [hu] at m1
        rw [hw] at m2
        clear hfree hu hw
        go_wp2_with fail
        go_roundg (1048576 - (no + 1)).toNat
        case measure => have := A.out.1; omega
        case rel => exact ⟨no + 1, rfl, by omega, by omega, ⟨rfl, HB.out⟩, rfl⟩
      | false =>
        have HB : Aside (rr = ((no, 0), { s with used := s.used ++ [no], taken := s.taken ++ [no] })) := (by
         rw [← HR.out]
         unfold Sp.take
         rw [hfree, if_neg (by unfold Sp.busy; rw [hu, hw]; simp)] : _ = _)
        have p1 := fun w => @put_MB w U no (.bool true)
        have mp1 := mput_inU no s.used hu
        have HP : Aside (mput no (Value.bool true) (inU s.used) = inU (s.used ++ [no])) := mp1
        rw [hu] at m1
        rw [hw] at m2
        clear hfree hu hw mp1
        go_wp2_with (at_builtin; go_loud (refine wpl_append_same EI rfl (.tmp 38) (.tmp 40) rfl rfl rfl (takeI (rw TIn 1 (.slice a n c) (ints s.taken))) (Src.new (b := (putW Tryz.prog TMB U (ikey no) (.bool true) w).heap.size) (e := TIn) (s := 1) (vs := [.int .i64 no]) (takeI _) rfl (by intro u hu; simp at hu; subst hu; rfl)) (by unfold maxLen; omega) (by omega) ?_; intro a' c' w3 hs6 hnil; haveI := hs6.i; clear hnil))
        go_ret2
        rw [HB.out]
        refine ⟨rfl, Sat.space_shut (U := U) (Wt := Wt) (v := .slice a' (n + 1) c') ?_⟩
        unfold spaceA
        rw [← HP.out]
        show Sat (coreS S U Wt (.slice a' (n + 1) c') s.reserved * (mp ikey U _ * (mp ikey Wt (inU s.waiting) * rw TIn 1 (.slice a' (n + 1) c') (ints (s.taken ++ [no])))) * F) _
        rw [HR0.out, show ints (s.taken ++ [no]) = ints s.taken ++ [.int .i64 no] by simp [ints]]
        exact satI_weak (C := Sl.block (putW Tryz.prog TMB U (ikey no) (.bool true) w).heap.size TIn [.int .i64 no]) (by ac_rfl)
  · have hfree : s.free = none := by
     rw [A.out.2, show (1048576 - no).toNat = 0 by omega]
     rfl
    have HB : Aside (rr = ((0, 9), s)) := (by
     rw [← HR.out]
     unfold Sp.take
     rw [hfree] : _ = _)
    clear hfree
    go_wp2
    go_ret2
    rw [HB.out]
    refine ⟨rfl, Sat.space_shut (U := U) (Wt := Wt) (v := .slice a n c) ?_⟩
    unfold spaceA
    rw [HR0.out]
    exact satI_eq (by ac_rfl)
def backGo : List Int → List Int → List Int → List Int × List Int
 | [], u, o => (u, o)
 | k :: l, u, o => if u.contains k then backGo l (u.erase k) (o ++ [k]) else backGo l u o
def spBack (s : Sp) (m : Nat) : List Int × Sp := (sortI (backGo (s.taken.drop m) s.used []).2, { s with used := (backGo (s.taken.drop m) s.used []).1, taken := s.taken.take m })
theorem backGo_snoc : ∀ (l : List Int) (k : Int) (u o : List Int), backGo (l ++ [k]) u o = if (backGo l u o).1.contains k then ((backGo l u o).1.erase k, (backGo l u o).2 ++ [k]) else backGo l u o
 | [], k, u, o => rfl
 | x :: l, k, u, o => by
   show (if u.contains x then backGo (l ++ [k]) (u.erase x) (o ++ [x]) else backGo (l ++ [k]) u o) = if (if u.contains x then backGo l (u.erase x) (o ++ [x]) else backGo l u o).1.contains k then _ else _
   by_cases h : u.contains x = true
   · rw [if_pos h, if_pos h, backGo_snoc l k]
     show _ = if _ then ((if u.contains x then backGo l (u.erase x) (o ++ [x]) else backGo l u o).1.erase k, (if u.contains x then backGo l (u.erase x) (o ++ [x]) else backGo l u o).2 ++ [k]) else (if u.contains x then backGo l (u.erase x) (o ++ [x]) else backGo l u o)
     rw [if_pos h]
   · rw [if_neg h, if_neg h, backGo_snoc l k]
     show _ = if _ then ((if u.contains x then backGo l (u.erase x) (o ++ [x]) else backGo l u o).1.erase k, (if u.contains x then backGo l (u.erase x) (o ++ [x]) else backGo l u o).2 ++ [k]) else (if u.contains x then backGo l (u.erase x) (o ++ [x]) else backGo l u o)
     rw [if_neg h]
theorem backGo_len : ∀ (l u o : List Int), (backGo l u o).2.length ≤ o.length + l.length
 | [], u, o => Nat.le_refl _
 | x :: l, u, o => by
   show (if u.contains x then backGo l (u.erase x) (o ++ [x]) else backGo l u o).2.length ≤ _
   split
   · have := backGo_len l (u.erase x) (o ++ [x])
     simp only [List.length_append, List.length_cons, List.length_nil] at this ⊢
     omega
   · have := backGo_len l u o
     simp only [List.length_cons]
     omega
set_option maxRecDepth 100000 in
set_option maxHeartbeats 1600000 in
theorem spBack_any (S : Nat) (s : Sp) (m : Nat) (F : Assn) (w : World) (hs : Sat (spaceP S s * F) w) (hm : m ≤ s.taken.length) (ht : s.taken.length ≤ 1099511627776) :
 Calls Tryz.prog 134 #[.pointer (some ⟨S, 0, none⟩), .int .i64 m] w fun e w' => ∃ a c, e = .returned (.tuple #[.slice a (spBack s m).1.length c, .int .i64 0]) ∧ Sat (rw TIn 1 (.slice a (spBack s m).1.length c) (ints (spBack s m).1) * (spaceP S (spBack s m).2 * F)) w' := by
 obtain ⟨i0, EI⟩ := elemIS
 obtain ⟨U, Wt, v, h1⟩ := Sat.space_open hs
 have h2 : Sat (rw TIn 1 v (ints s.taken) * (coreS S U Wt v s.reserved * (mp ikey U (inU s.used) * (mp ikey Wt (inU s.waiting) * F)))) w := h1.eq (by unfold spaceA; ac_rfl)
 obtain ⟨a, n, c, rfl, h3, hnc, hcm⟩ := rw_v h2
 have hn : s.taken.length = n := by simpa [ints] using h3
 obtain ⟨rr, hrr⟩ : ∃ r, spBack s m = r := ⟨_, rfl⟩
 have HR : Aside (spBack s m = rr) := hrr
 have HN : Aside (s.taken.length = n) := hn
 have hmn : m ≤ n := by omega
 have hn2 : n ≤ 1099511627776 := by omega
 obtain ⟨l, hl⟩ : ∃ l, s.taken.drop m = l := ⟨_, rfl⟩
 have HL : Aside (s.taken.drop m = l) := hl
 have hll : l.length = n - m := by rw [← hl, List.length_drop, hn]
 have hrd : ReadsR 1 (rw TIn 1 (.slice a n c) (ints s.taken)) (.slice (cutA a c m 1) (n - m) (c - m)) (n - m) (ints l) := by
  have := (ReadsR.rw h2 ⟨a, c, rfl⟩).cut m n hmn (Nat.le_refl _)
  rw [Nat.mul_one, Nat.mul_one] at this
  have e : (List.drop m (ints s.taken)).take (n - m) = ints l := by
   rw [← hl]
   unfold ints
   rw [List.map_drop, List.take_of_length_le (by simp; omega)]
  rw [e] at this
  exact this
 obtain ⟨av, hav⟩ : ∃ z, cutA a c m 1 = z := ⟨_, rfl⟩
 have hc1 : ∀ w, (Instr.sliceAt 45 (.slice a n c) (some (.int .i64 m)) none none).run Tryz.prog w = .ok (.slice av (n - m) (c - m)) w := fun w => by rw [← hav]; exact at_from EI m hmn w
 have hc2 : ∀ w, (Instr.sliceAt 45 (.slice a n c) none (some (.int .i64 m)) none).run Tryz.prog w = .ok (.slice (cutA a c 0 1) m c) w := fun w => at_to EI m (by omega) w
 rw [hav] at hrd
 have HRD : Aside (ReadsR 1 (rw TIn 1 (.slice a n c) (ints s.taken)) (.slice av (n - m) (c - m)) (n - m) (ints l)) := hrd
 rw [hrr]
 have h4 := h2.rw_nil (e := TIn) (s := 1)
 have d1 : decide ((m : Int) < 0) = false := by simp
 have d2 : decide ((n : Int) < m) = false := by simp; omega
 have d3 : decide (n < m) = false := by simp; omega
 haveI := h2.i
 clear hs h1 h3 hn ht hrr hl hrd hav hm
 go_enter Tryz.func134, Tryz.ntmps134
 go_wp2
 go_loopg [6, 31] (n - m) (fun g t6 t31 wr => ∃ (j : Nat) (u o : List Int) (a2 : Option Addr) (c2 : Nat), t31 = .int .i64 j ∧ t6 = .slice a2 o.length c2 ∧ j ≤ n - m ∧ o.length ≤ 1099511627776 ∧ Aside (g = n - m - j ∧ backGo (l.take j) s.used [] = (u, o)) ∧
  Sat (rw TIn 1 (.slice a2 o.length c2) (ints o) * (rw TIn 1 (.slice a n c) (ints s.taken) * (coreS S U Wt (.slice a n c) s.reserved * (mp ikey U (inU u) * (mp ikey Wt (inU s.waiting) * F))))) wr)
 case atStart => exact ⟨0, s.used, [], none, 0, rfl, rfl, by omega, by simp, ⟨rfl, rfl⟩, h4⟩
 case round =>
  obtain ⟨j, u, o, a2, c2, rfl, rfl, hj, hol, A, hsr⟩ := hrel
  haveI := hsr.i
  by_cases hlt : j < n - m
  · have hlt' : (j : Int) < ((n - m : Nat) : Int) := by omega
    obtain ⟨k, hk⟩ : ∃ k, l[j]? = some k := ⟨_, List.getElem?_eq_getElem (by omega)⟩
    obtain ⟨b, q, rfl, r1⟩ := (ReadsR.at HRD.out) j (.int .i64 k) (by unfold ints; rw [List.getElem?_map, hk]; rfl)
    have HT : Aside (l.take (j + 1) = l.take j ++ [k]) := take_snoc' hk
    have HO : Aside (o.length ≤ j) := (by
     have := backGo_len (l.take j) s.used []
     rw [A.out.2] at this
     simp at this
     omega : _ ≤ _)
    have l1 := fun w => @look_MB w U k
    have m1 := mget_inU k u
    clear h2 h4 hk
    cases hu : u.contains k with
    | true =>
      have p1 := fun w => @del_MB w U k
      have md := mdel_inU k u
      have HU : Aside (u.contains k = true) := hu
      have hol2 := HO.out
      rw [hu] at m1
      clear hu
      go_wp2_with (at_builtin; go_loud (refine wpl_append_same EI rfl (.tmp 46) (.tmp 48) rfl rfl rfl (takeI (rw TIn 1 (.slice a2 o.length c2) (ints o))) (Src.new (b := (delW Tryz.prog TMB U (ikey k) wr).heap.size) (e := TIn) (s := 1) (vs := [.int .i64 k]) (takeI _) rfl (by intro u hu; simp at hu; subst hu; rfl)) (by unfold maxLen; omega) (by omega) ?_; intro a' c' w3 hs6 hnil; haveI := hs6.i; clear hnil))
      go_roundg (n - m - (j + 1))
      case measure => have := A.out.1; omega
      case rel =>
       refine ⟨j + 1, u.erase k, o ++ [k], a', c', by go_num, by simp, by omega, by simp; omega, ⟨rfl, ?_⟩, ?_⟩
       · rw [HT.out, backGo_snoc, A.out.2]
         show (if u.contains k = true then _ else _) = _
         rw [if_pos HU.out]
       · rw [← md, show ints (o ++ [k]) = ints o ++ [.int .i64 k] by simp [ints], List.length_append]
         exact satI_weak (C := Sl.block (delW Tryz.prog TMB U (ikey k) wr).heap.size TIn [.int .i64 k]) (by show rw TIn 1 (.slice a' (o.length + 1) c') _ * _ = _; ac_rfl)
    | false =>
      have HU : Aside (u.contains k = false) := hu
      rw [hu] at m1
      clear hu
      go_wp2_with fail
      go_roundg (n - m - (j + 1))
      case measure => have := A.out.1; omega
      case rel =>
       refine ⟨j + 1, u, o, a2, c2, by go_num, rfl, by omega, hol, ⟨rfl, ?_⟩, satI⟩
       rw [HT.out, backGo_snoc, A.out.2]
       show (if u.contains k = true then _ else _) = _
       rw [if_neg (by rw [HU.out]; simp)]
  · have hlt' : ¬ (j : Int) < ((n - m : Nat) : Int) := by omega
    have hjl : l.take j = l := List.take_of_length_le (by omega)
    have HB : Aside (rr = (sortI o, { s with used := u, taken := s.taken.take m })) := (by
     rw [← HR.out]
     unfold spBack
     have := A.out.2
     rw [hjl] at this
     rw [HL.out, this] : _ = _)
    clear A hjl h2 h4
    go_upto_region 12 with (fail)
    have h5 : Sat (rw TIn 1 (.slice a n c) (ints s.taken) * (rw TIn 1 (.slice a2 o.length c2) (ints o) * (coreS S U Wt (.slice (cutA a c 0 1) m c) s.reserved * (mp ikey U (inU u) * (mp ikey Wt (inU s.waiting) * F))))) (wr.setCell ⟨S, 3, none⟩ (.slice (cutA a c 0 1) m c)) := satI_eq (by ac_rfl)
    have h6 := h5.rw_cut m hmn
    generalize wr.setCell ⟨S, 3, none⟩ (.slice (cutA a c 0 1) m c) = w5 at h6 ⊢
    have h7 := sortInts_sl a2 o.length c2 o _ w5 (h6.take (rw TIn 1 (.slice a2 o.length c2) (ints o))) (by omega)
    clear h5 h6 hsr
    go_wp2_with fail
    refine h7.mono ?_
    rintro e w6 ⟨rfl, h8⟩
    clear h7
    go_wp2
    go_ret2
    rw [HB.out]
    have HLN : (sortI o).length = o.length := (List.mergeSort_perm o _).length_eq
    simp only [HLN]
    refine ⟨a2, c2, rfl, ?_⟩
    have h9 : Sat (spaceA S U Wt (.slice (cutA a c 0 1) m c) { s with used := u, taken := s.taken.take m } * (rw TIn 1 (.slice a2 o.length c2) (ints (sortI o)) * F)) w6 := h8.eq (by
     unfold spaceA ints
     rw [Nat.mul_one, List.map_take]
     dsimp only [TIn]
     ac_rfl)
    exact (Sat.space_shut h9).eq (by ac_rfl)
end Go.Proofs.YtfhbmblbidcmmaaGreat
