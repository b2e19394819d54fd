/-
  Of all versions the pages that are told are just those of their trees in the file in the form of the document, and a root that is none is refused. No condition. (part 30)
-/
import Derived.Test.YtfhbmblbidcmmaaGreatVa27
import Derived.Test.YtfhbmblbidcmmaaGreatVa29
import Derived.Test.YtfhbmblbidcmmaaGreatVa7
import Derived.Test.YtfhbmblbidcmmaaGreatVa25
import Derived.BigQuiet
import Derived.IntWalk
import Derived.Test.YtfhbmblbidcmmaaGreatVa13
set_option linter.unusedSimpArgs false
set_option linter.unusedVariables false
namespace Go.Proofs.YtfhbmblbidcmmaaGreat
set_option linter.unusedSimpArgs false
set_option linter.unusedVariables false
set_option linter.unusedSectionVars false
open Go.RowKit Go.Sl Go.Dk Go.Tr
open Go.Lru (ikey)
variable [TopN]
attribute [local go_sem ↓] Go.wp_at_zero Go.wp_at_succ
attribute [local go_sem] Go.Sl.cell_sat Go.Sl.frozen_sat
def nmO : ByteArray := ⟨#[111, 114, 105, 103, 105, 110, 97, 108]⟩
def nmT : ByteArray := ⟨#[116, 97, 105, 108]⟩
theorem nmO_named : Dk.named nmO = true := by decide +kernel
theorem nmT_named : Dk.named nmT = true := by decide +kernel
abbrev TIx : TypeId := 190
def indexA (X M D : Nat) (n : Int) (x : Ix) : Assn := Sl.block X TIx [.pointer (some ⟨D, 0, none⟩), .string nmO, .int .i64 n, .int .i64 x.rd, .map (some M)] * mp ikey M (kvI x.cs)
def FileIs (d : Dk) (nm : ByteArray) (b : List UInt8) : Prop := ∃ f, d.get nm = some f ∧ f.now = b
structure LnI (O T : List UInt8) (s : TS) (x : Ix) : Prop where
 inv : TInv true s
 ix : IxOk O x
 fo : FileIs s.ck.d nmO O
 ft : FileIs s.ck.d nmT T
 nm : nmO ≠ s.ck.nm ∧ nmT ≠ s.ck.nm
 lo : O.length ≤ 1048576
 lt : T.length ≤ 1048576
theorem LnI.at {O T : List UInt8} {s : TS} {x x' : Ix} (h : LnI O T s x) (k : IxOk O x') : LnI O T s x' := ⟨h.inv, k, h.fo, h.ft, h.nm, h.lo, h.lt⟩
theorem disk_in {h : Th} {s : TS} {F : Assn} {w : World} (hs : Sat (treeP h s * F) w) : ∃ G : Assn, Sat (diskP h.D s.ck.d * (G * F)) w ∧ ∀ (F' : Assn) (w' : World), Sat (diskP h.D s.ck.d * (G * F')) w' → Sat (treeP h s * F') w' := by
 obtain ⟨hi, h1⟩ := tree_parts hs
 obtain ⟨L, PM, ps, h2, h3⟩ := Sat.cache_open h1
 refine ⟨coreC h.C L h.D PM s.ck * (lruI L s.ck.cap s.ck.its * (mp ikey PM (ps.map kvP) * (pagesA ps * (spaceP h.S s.sp * Sl.block h.t TTr [.pointer (some ⟨h.C, 0, none⟩), .pointer (some ⟨h.S, 0, none⟩)])))), h3.eq (by unfold cacheA; ac_rfl), fun F' w' h4 => ?_⟩
 refine tree_join hi (Sat.cache_shut (L := L) (PM := PM) h2 (h4.eq ?_))
 unfold cacheA
 ac_rfl
end Go.Proofs.YtfhbmblbidcmmaaGreat
namespace Go.Tr
theorem eBytes_take_bound {l : List Ent} (hm : ∀ x ∈ l, 0 ≤ x.len ∧ x.len ≤ 1048576) : ∀ i : Nat, 0 ≤ eBytes (l.take i) ∧ eBytes (l.take i) ≤ i * 1048576 := by
 intro i
 induction i with
 | zero => simp [eBytes]
 | succ i ih =>
   cases hx : l[i]? with
   | none =>
     have : l.take (i + 1) = l.take i := by
      have hl : l.length ≤ i := by simpa using hx
      rw [List.take_of_length_le hl, List.take_of_length_le (by omega)]
     rw [this]
     omega
   | some x =>
     have := hm x (List.mem_of_getElem? hx)
     rw [List.take_add_one, hx]
     simp only [Option.toList, eBytes_append]
     have : eBytes [x] = x.len := by simp [eBytes]
     omega
end Go.Tr
namespace Go.Proofs.YtfhbmblbidcmmaaGreat
set_option linter.unusedSimpArgs false
set_option linter.unusedVariables false
open Go.RowKit Go.Sl Go.Dk Go.Tr
attribute [local go_sem ↓] Go.wp_at_zero Go.wp_at_succ
attribute [local go_sem] Go.Sl.cell_sat Go.Sl.frozen_sat
set_option maxHeartbeats 800000 in
theorem total_any (l : List Ent) (v : Value) (B F : Assn) (w : World) (hE : ReadsE B v l) (hs : Sat (B * F) w) (hl : l.length ≤ 4294967296) (hm : ∀ x ∈ l, 0 ≤ x.len ∧ x.len ≤ 1048576) :
 Calls Tryz.prog 92 #[v] w fun e w' => e = .returned (.int .i64 (eBytes l)) ∧ Sat (B * F) w' := by
 obtain ⟨a0, c0, rfl, hE1, hE2⟩ := hE.v
 have HE : Aside (ReadsE B (.slice a0 l.length c0) l) := hE
 have HM : Aside (∀ i : Nat, 0 ≤ eBytes (l.take i) ∧ eBytes (l.take i) ≤ i * 1048576) := eBytes_take_bound hm
 have HMx : Aside (∀ x ∈ l, 0 ≤ x.len ∧ x.len ≤ 1048576) := hm
 obtain ⟨n, hn⟩ : ∃ n, l.length = n := ⟨_, rfl⟩
 rw [hn] at hl ⊢
 have HN : Aside (l.length = n) := hn
 haveI := hs.i
 clear hE hm hn
 go_enter Tryz.func92, Tryz.ntmps92
 go_wp2
 go_loopg [3, 8] n (fun g t3 t8 wr => ∃ (i : Nat), t8 = .int .i64 i ∧ t3 = .int .i64 (eBytes (l.take i)) ∧ i ≤ n ∧ Aside (g = n - i) ∧ Sat (B * F) wr)
 case atStart => exact ⟨0, rfl, by simp [eBytes], by omega, rfl, hs⟩
 case round =>
  obtain ⟨i, rfl, rfl, hi, A, hsr⟩ := hrel
  haveI := hsr.i
  clear hs
  by_cases hlt : i < n
  · have hlt' : (i : Int) < n := by omega
    obtain ⟨y, hy⟩ : ∃ y, l[i]? = some y := ⟨_, List.getElem?_eq_getElem (by rw [HN.out]; exact hlt)⟩
    obtain ⟨b, q, rfl, r1, r2, r3, r4⟩ := readsE_at HE.out hy
    have hb := HM.out i
    have hx := HMx.out y (List.mem_of_getElem? hy)
    have HT : Aside (eBytes (l.take (i + 1)) = eBytes (l.take i) + y.len) := eBytes_snoc hy
    obtain ⟨z, hz⟩ : ∃ z, eBytes (l.take i) = z := ⟨_, rfl⟩
    rw [hz] at hb HT ⊢
    obtain ⟨y1, y2, y3, y4⟩ := y
    simp only at r1 r2 r3 r4 hx HT
    clear hy hz
    go_wp2
    go_roundg (n - (i + 1))
    case measure => have := A.out; omega
    case rel =>
     refine ⟨i + 1, by go_num, by rw [HT.out], by omega, rfl, keep2 _ _⟩
  · have hlt' : ¬ (i : Int) < n := by omega
    obtain rfl : i = n := by omega
    rw [List.take_of_length_le (by rw [HN.out]; exact Nat.le_refl _)]
    go_wp2
    go_ret
    exact ⟨rfl, hsr⟩
theorem reads_one (y : Ent) (b : Nat) : ReadsE (Sl.block b TEn (erow y)) (.slice (some ⟨b, 0, none⟩) 1 1) [y] := by
 refine ⟨rfl, _, _, rfl, Nat.le_refl _, by omega, fun j u hj => ⟨b, 0, rfl, ?_⟩⟩
 have hj2 : (erow y)[j]? = some u := by simpa [ecs] using hj
 haveI : At (erow y) j u := ⟨hj2⟩
 rw [Nat.zero_add]
 infer_instance
set_option maxHeartbeats 800000 in
theorem part_any (x : Ent) (a b : Int) (F : Assn) (w : World) (hs : Sat F w) (h1 : -1099511627776 ≤ x.pos ∧ x.pos ≤ 1099511627776) (h2 : -1099511627776 ≤ a ∧ a ≤ 1099511627776) (h3 : -1099511627776 ≤ b ∧ b ≤ 1099511627776) :
 Calls Tryz.prog 95 #[entV x, .int .i64 a, .int .i64 b] w fun e w' => ∃ v G, e = .returned v ∧ ReadsE G v (Go.Tr.part x a b) ∧ Sat (G * F) w' := by
 obtain ⟨x1, x2, x3, x4⟩ := x
 unfold Go.Tr.part
 simp only at h1 ⊢
 haveI := hs.i
 by_cases hba : b ≤ a
 · rw [if_pos hba]
   go_enter Tryz.func95, Tryz.ntmps95
   go_wp2
   go_ret
   exact ⟨_, 1, rfl, ReadsR.nil 4 _, by rw [one_sep]; exact keep1 _⟩
 · rw [if_neg hba]
   have hba' : a < b := by omega
   by_cases hc : 0 < a ∨ b < x3
   · rw [if_pos hc]
     by_cases hl : x4 = 0
     · subst hl
       rw [if_neg (by simp)]
       rcases Int.lt_or_le 0 a with ha | ha
       · go_enter Tryz.func95, Tryz.ntmps95
         go_wp2
         go_ret
         first | exact ⟨_, Sl.block (w.heap.size + 1) TEn [.int .i64 (x1), .int .i64 (x2 + a), .int .i64 (b - a), .int .i64 (0)], rfl, reads_one ⟨x1, x2 + a, b - a, 0⟩ _, keep2 _ F⟩ | exact ⟨_, rfl, Sl.block (w.heap.size + 1) TEn [.int .i64 (x1), .int .i64 (x2 + a), .int .i64 (b - a), .int .i64 (0)], reads_one ⟨x1, x2 + a, b - a, 0⟩ _, keep2 _ F⟩
       · have hb : b < x3 := by omega
         have ha' : ¬ 0 < a := by omega
         go_enter Tryz.func95, Tryz.ntmps95
         go_wp2
         go_ret
         first | exact ⟨_, Sl.block (w.heap.size + 1) TEn [.int .i64 (x1), .int .i64 (x2 + a), .int .i64 (b - a), .int .i64 (0)], rfl, reads_one ⟨x1, x2 + a, b - a, 0⟩ _, keep2 _ F⟩ | exact ⟨_, rfl, Sl.block (w.heap.size + 1) TEn [.int .i64 (x1), .int .i64 (x2 + a), .int .i64 (b - a), .int .i64 (0)], reads_one ⟨x1, x2 + a, b - a, 0⟩ _, keep2 _ F⟩
     · have hl1 : (x4 != 0) = true := by simpa using hl
       rw [if_pos hl]
       rcases Int.lt_or_le 0 a with ha | ha
       · go_enter Tryz.func95, Tryz.ntmps95
         go_wp2
         go_ret
         first | exact ⟨_, Sl.block (w.heap.size + 1) TEn [.int .i64 (x1), .int .i64 (x2 + a), .int .i64 (b - a), .int .i64 (-1)], rfl, reads_one ⟨x1, x2 + a, b - a, -1⟩ _, keep2 _ F⟩ | exact ⟨_, rfl, Sl.block (w.heap.size + 1) TEn [.int .i64 (x1), .int .i64 (x2 + a), .int .i64 (b - a), .int .i64 (-1)], reads_one ⟨x1, x2 + a, b - a, -1⟩ _, keep2 _ F⟩
       · have hb : b < x3 := by omega
         have ha' : ¬ 0 < a := by omega
         go_enter Tryz.func95, Tryz.ntmps95
         go_wp2
         go_ret
         first | exact ⟨_, Sl.block (w.heap.size + 1) TEn [.int .i64 (x1), .int .i64 (x2 + a), .int .i64 (b - a), .int .i64 (-1)], rfl, reads_one ⟨x1, x2 + a, b - a, -1⟩ _, keep2 _ F⟩ | exact ⟨_, rfl, Sl.block (w.heap.size + 1) TEn [.int .i64 (x1), .int .i64 (x2 + a), .int .i64 (b - a), .int .i64 (-1)], reads_one ⟨x1, x2 + a, b - a, -1⟩ _, keep2 _ F⟩
   · rw [if_neg hc]
     have ha : ¬ 0 < a := by omega
     have hb : ¬ b < x3 := by omega
     go_enter Tryz.func95, Tryz.ntmps95
     go_wp2
     go_ret
     first | exact ⟨_, Sl.block (w.heap.size + 1) TEn [.int .i64 (x1), .int .i64 (x2), .int .i64 (x3), .int .i64 (x4)], rfl, reads_one ⟨x1, x2, x3, x4⟩ _, keep2 _ F⟩ | exact ⟨_, rfl, Sl.block (w.heap.size + 1) TEn [.int .i64 (x1), .int .i64 (x2), .int .i64 (x3), .int .i64 (x4)], reads_one ⟨x1, x2, x3, x4⟩ _, keep2 _ F⟩
theorem mayList_eq (l : List Ent) : mayList l = (l.all mayEnt && decide (eBytes l ≤ 1048576)) := rfl
theorem mayList_stop {l : List Ent} {i : Nat} {y : Ent} (hy : l[i]? = some y) (h : mayEnt y = false) : mayList l = false := by
 rw [mayList_eq]
 have : l.all mayEnt = false := by
  rw [List.all_eq_false]
  exact ⟨y, List.mem_of_getElem? hy, by simp [h]⟩
 rw [this]
 rfl
theorem may_one (y : Ent) : may ⟨true, [y], []⟩ = mayEnt y := by
 unfold may
 cases h : mayEnt y with
 | false => simp [h]
 | true =>
   have := mayE_bounds h
   simp [h, eBytes, kBytes, kScraps]
   omega
set_option maxHeartbeats 1600000 in
theorem tmay_any (l : List Ent) (v : Value) (B F : Assn) (w : World) (hE : ReadsE B v l) (hs : Sat (B * F) w) (hl : l.length ≤ 4294967296) :
 Calls Tryz.prog 79 #[v] w fun e w' => e = .returned (.bool (mayList l)) ∧ Sat (B * F) w' := by
 obtain ⟨a0, c0, rfl, hE1, hE2⟩ := hE.v
 have HE : Aside (ReadsE B (.slice a0 l.length c0) l) := hE
 obtain ⟨n, hn⟩ : ∃ n, l.length = n := ⟨_, rfl⟩
 rw [hn] at hl ⊢
 have HN : Aside (l.length = n) := hn
 obtain ⟨mr, hmr⟩ : ∃ r, mayList l = r := ⟨_, rfl⟩
 rw [hmr]
 have HR : Aside (mayList l = mr) := hmr
 haveI := hs.i
 clear hE hn hmr
 go_enter Tryz.func79, Tryz.ntmps79
 go_wp2
 go_loopg [3, 8] n (fun g t3 t8 wr => ∃ (i : Nat), t8 = .int .i64 i ∧ t3 = .int .i64 (eBytes (l.take i)) ∧ i ≤ n ∧ Aside (g = n - i) ∧ Aside ((∀ x ∈ l.take i, mayEnt x = true) ∧ 0 ≤ eBytes (l.take i) ∧ eBytes (l.take i) ≤ 1048576) ∧ Sat (B * F) wr)
 case atStart => exact ⟨0, rfl, by simp [eBytes], by omega, rfl, ⟨by simp, by simp [eBytes], by simp [eBytes]⟩, hs⟩
 case round =>
  obtain ⟨i, rfl, rfl, hi, A, HI, hsr⟩ := hrel
  haveI := hsr.i
  clear hs
  by_cases hlt : i < n
  · have hlt' : (i : Int) < n := by omega
    obtain ⟨y, hy⟩ : ∃ y, l[i]? = some y := ⟨_, List.getElem?_eq_getElem (by rw [HN.out]; exact hlt)⟩
    obtain ⟨b, q, rfl, r1, r2, r3, r4⟩ := readsE_at HE.out hy
    have HT : Aside (eBytes (l.take (i + 1)) = eBytes (l.take i) + y.len ∧ l.take (i + 1) = l.take i ++ [y]) := ⟨eBytes_snoc hy, take_snoc' hy⟩
    have hmay : ∀ (G : Assn) (w : World) (b : Nat), Sat (Sl.block b TEn (erow y) * G) w → Calls Tryz.prog 133 #[.agg #[.bool true, .slice (some ⟨b, 0, none⟩) 1 1, .slice none 0 0]] w fun e w' => e = .returned (.bool (mayEnt y)) ∧ Sat (Sl.block b TEn (erow y) * G) w' := fun G w b h => by
     rw [← may_one]
     refine may_any ⟨true, [y], []⟩ _ _ G w ⟨_, _, rfl, ?_, ReadsR.nil 4 _⟩ h (by simp) (by simp)
     refine ⟨rfl, _, _, rfl, Nat.le_refl _, by omega, fun j u hj => ⟨b, 0, rfl, ?_⟩⟩
     have hj2 : (erow y)[j]? = some u := by simpa [ecs] using hj
     haveI : At (erow y) j u := ⟨hj2⟩
     rw [Nat.zero_add]
     infer_instance
    have HMF : Aside (mayEnt y = false → mr = false) := fun h => HR.out.symm.trans (mayList_stop hy h)
    have hbd := HI.out.2
    obtain ⟨z, hz⟩ : ∃ z, eBytes (l.take i) = z := ⟨_, rfl⟩
    rw [hz] at hbd HT ⊢
    cases hme : mayEnt y with
    | false =>
      rw [hme] at hmay
      have hmr := HMF.out hme
      subst hmr
      obtain ⟨y1, y2, y3, y4⟩ := y
      unfold erow at hmay
      simp only at r1 r2 r3 r4 hmay
      clear hy hz hme
      go_wp2_with fail
      with_reducible refine Calls.mono (hmay _ _ _ (takeI (Sl.block _ TEn _))) ?_
      rintro e w2 ⟨rfl, q2⟩
      haveI := q2.i
      go_wp2
      go_ret
      exact ⟨rfl, keep2 _ _⟩
    | true =>
      rw [hme] at hmay
      have hyb := mayE_bounds hme
      have HY : Aside (mayEnt y = true) := hme
      obtain ⟨y1, y2, y3, y4⟩ := y
      unfold erow at hmay
      simp only at r1 r2 r3 r4 hmay hyb HT
      clear hme
      by_cases hbig : 1048576 < z + y3
      · have hmr : mr = false := by
         rw [← HR.out]
         rw [mayList_eq]
         by_cases hall : l.all mayEnt = true
         · have h1 : eBytes l = eBytes (l.take (i + 1)) + eBytes (l.drop (i + 1)) := by rw [← eBytes_append, List.take_append_drop]
           have h2 : 0 ≤ eBytes (l.drop (i + 1)) := by
            have := (eBytes_take_bound (l := l.drop (i + 1)) (fun x hx => by
             have := mayE_bounds (List.all_eq_true.1 hall x (List.mem_of_mem_drop hx))
             omega) (l.drop (i + 1)).length).1
            rwa [List.take_of_length_le (Nat.le_refl _)] at this
           have h3 := HT.out.1
           rw [decide_eq_false (by omega), Bool.and_false]
         · rw [Bool.not_eq_true] at hall
           rw [hall]
           rfl
        subst hmr
        clear hy hz
        go_wp2_with fail
        with_reducible refine Calls.mono (hmay _ _ _ (takeI (Sl.block _ TEn _))) ?_
        rintro e w2 ⟨rfl, q2⟩
        haveI := q2.i
        go_wp2
        go_ret
        exact ⟨rfl, keep2 _ _⟩
      · clear hy hz
        go_wp2_with fail
        with_reducible refine Calls.mono (hmay _ _ _ (takeI (Sl.block _ TEn _))) ?_
        rintro e w2 ⟨rfl, q2⟩
        haveI := q2.i
        go_wp2
        go_roundg (n - (i + 1))
        case measure => have := A.out; omega
        case rel =>
         refine ⟨i + 1, by go_num, by rw [HT.out.1], by omega, rfl, ⟨?_, by rw [HT.out.1]; omega, by rw [HT.out.1]; omega⟩, keep2 _ _⟩
         rw [HT.out.2]
         intro x hx
         rcases List.mem_append.1 hx with hx | hx
         · exact HI.out.1 x hx
         · simp at hx; subst hx; exact HY.out
  · have hlt' : ¬ (i : Int) < n := by omega
    obtain rfl : i = n := by omega
    have hmr : mr = true := by
     rw [← HR.out]
     have h := HI.out
     rw [List.take_of_length_le (by rw [HN.out]; exact Nat.le_refl _)] at h
     rw [mayList_eq]
     rw [List.all_eq_true.2 h.1, decide_eq_true h.2.2]
     rfl
    subst hmr
    go_wp2
    go_ret
    exact ⟨rfl, hsr⟩
end Go.Proofs.YtfhbmblbidcmmaaGreat
namespace Go.Tr
def OkE (y : Ent) : Prop := 0 ≤ y.pos ∧ y.pos ≤ 16777216 ∧ 1 ≤ y.len ∧ -1 ≤ y.lines ∧ y.lines ≤ y.len
theorem OkE.of {x : Ent} (h : mayEnt x = true) : OkE x ∧ x.len ≤ 1048576 := by
 unfold mayEnt at h
 simp only [decide_eq_true_eq] at h
 unfold OkE
 omega
theorem okE_len {o : List Ent} (h : ∀ y ∈ o, OkE y) : 0 ≤ eBytes o ∧ ∀ y ∈ o, y.len ≤ eBytes o := by
 induction o with
 | nil => simp [eBytes]
 | cons a l ih =>
   obtain ⟨h1, h2⟩ := ih fun y hy => h y (List.mem_cons_of_mem _ hy)
   have ha := h a (List.mem_cons_self ..)
   unfold OkE at ha
   have e : eBytes (a :: l) = a.len + eBytes l := by simp [eBytes]
   rw [e]
   refine ⟨by omega, fun y hy => ?_⟩
   rcases List.mem_cons.1 hy with rfl | hy
   · omega
   · have := h2 y hy; omega
theorem okE_join {o : List Ent} (h : ∀ y ∈ o, OkE y) {x : Ent} (hx : OkE x) : ∀ y ∈ joinTo o x, OkE y := by
 unfold joinTo
 cases hg : o.getLast? with
 | none => intro y hy; simp at hy; subst hy; exact hx
 | some a =>
   have ha := h a (List.mem_of_getLast? hg)
   simp only
   split
   · intro y hy
     rcases List.mem_append.1 hy with hy | hy
     · exact h y (List.dropLast_subset _ hy)
     · simp at hy
       subst hy
       unfold glue OkE at *
       simp only
       split <;> omega
   · intro y hy
     rcases List.mem_append.1 hy with hy | hy
     · exact h y hy
     · simp at hy; subst hy; exact hx
theorem joinTo_stop {p : List Ent} {a x : Ent} (h : meets a x = false) : joinTo (p ++ [a]) x = (p ++ [a]) ++ [x] := by
 unfold joinTo
 simp [h]
theorem joinTo_go {p : List Ent} {a x : Ent} (h : meets a x = true) : joinTo (p ++ [a]) x = p ++ [glue a x] := by
 unfold joinTo
 simp [h]
theorem joinTo_len (o : List Ent) (x : Ent) : (joinTo o x).length ≤ o.length + 1 := by
 unfold joinTo
 split
 · simp
 · split <;> simp
end Go.Tr
namespace Go.Proofs.YtfhbmblbidcmmaaGreat
set_option linter.unusedSimpArgs false
set_option linter.unusedVariables false
open Go.RowKit Go.Sl Go.Dk Go.Tr
attribute [local go_sem ↓] Go.wp_at_zero Go.wp_at_succ
attribute [local go_sem] Go.Sl.cell_sat Go.Sl.frozen_sat
def ReadsLL (B : Assn) (v : Value) (ls : List (List Ent)) : Prop := ∃ vs : List Value, ReadsR 1 B v ls.length vs ∧ vs.length = ls.length ∧ ∀ (i : Nat) (x : Value) (l : List Ent), vs[i]? = some x → ls[i]? = some l → ReadsE B x l
theorem ecs_last (p : List Ent) (a : Ent) : ecs (p ++ [a]) = ecs p ++ erow a := by simp [ecs]
theorem ecs_len (p : List Ent) : (ecs p).length = p.length * 4 := by
 induction p with
 | nil => rfl
 | cons a l ih =>
   have : ecs (a :: l) = erow a ++ ecs l := by simp [ecs]
   rw [this, List.length_append, ih, List.length_cons]
   simp [erow]
   omega
theorem ecs_at (p : List Ent) (a : Ent) (n : Nat) (hn : p.length = n) (j : Nat) (u : Value) (h : (erow a)[j]? = some u) : (ecs (p ++ [a]))[n * 4 + j]? = some u := by
 rw [ecs_last, List.getElem?_append_right (by rw [ecs_len, hn]; omega), ecs_len, hn, Nat.add_sub_cancel_left]
 exact h
theorem ecs_glue (p : List Ent) (a : Ent) (n : Nat) (hn : p.length = n) (l m : Int) : ((ecs (p ++ [a])).set (n * 4 + 2) (.int .i64 l)).set (n * 4 + 3) (.int .i64 m) = ecs (p ++ [⟨a.src, a.pos, l, m⟩]) := by
 rw [ecs_last, ecs_last, List.set_append_right _ _ (by rw [ecs_len, hn]; omega), List.set_append_right _ _ (by rw [ecs_len, hn]; omega), ecs_len, hn, Nat.add_sub_cancel_left, Nat.add_sub_cancel_left]
 rfl
set_option maxRecDepth 100000 in
set_option maxHeartbeats 3200000 in
theorem join_any (ls : List (List Ent)) (v : Value) (B F : Assn) (w : World) (hL : ReadsLL B v ls) (hs : Sat (B * F) w) (hn : ls.length ≤ 1048576) (hl : ls.flatten.length ≤ 1048576) (hm : ∀ x ∈ ls.flatten, mayEnt x = true) (hb : eBytes ls.flatten ≤ 1099511627776) :
 Calls Tryz.prog 80 #[v] w fun e w' => ∃ a c, e = .returned (.slice a (join ls.flatten).length c) ∧ Sat (rw TEn 4 (.slice a (join ls.flatten).length c) (ecs (join ls.flatten)) * (B * F)) w' := by
 obtain ⟨i0, E⟩ := elemEn
 obtain ⟨vs, hv, hvl, hve⟩ := hL
 obtain ⟨a0, c0, rfl, hc1, hc2⟩ := hv.v
 have HV : Aside (ReadsR 1 B (.slice a0 ls.length c0) ls.length vs) := hv
 have HVE : Aside (∀ (i : Nat) (x : Value) (l : List Ent), vs[i]? = some x → ls[i]? = some l → ReadsE B x l) := hve
 have HM : Aside (∀ x ∈ ls.flatten, mayEnt x = true) := hm
 have HBt : Aside (eBytes ls.flatten ≤ 1099511627776 ∧ ls.flatten.length ≤ 1048576 ∧ vs.length = ls.length) := ⟨hb, hl, hvl⟩
 obtain ⟨R, hR⟩ : ∃ R, join ls.flatten = R := ⟨_, rfl⟩
 rw [hR]
 have HR : Aside (join ls.flatten = R) := hR
 have q0 := hs.rw_nil (e := TEn) (s := 4)
 haveI := hs.i
 clear hv hve hm hb hl hvl hR
 go_enter Tryz.func80, Tryz.ntmps80
 go_wp2
 have HBL : Aside (∀ i : Nat, (ls.take i).flatten.length ≤ 1048576 ∧ eBytes (ls.take i).flatten ≤ 1099511627776 ∧ ∀ x ∈ (ls.take i).flatten, mayEnt x = true) := fun i => by
  have hsp : ls.flatten = (ls.take i).flatten ++ (ls.drop i).flatten := by rw [← List.flatten_append, List.take_append_drop]
  have h1 := HBt.out.1
  have h2 := HBt.out.2.1
  have h3 := HM.out
  rw [hsp] at h1 h2 h3
  rw [eBytes_append] at h1
  rw [List.length_append] at h2
  have h4 := (okE_len (o := (ls.drop i).flatten) (fun y hy => (OkE.of (h3 y (List.mem_append_right _ hy))).1)).1
  exact ⟨by omega, by omega, fun x hx => h3 x (List.mem_append_left _ hx)⟩
 obtain ⟨n, hnn⟩ : ∃ n, ls.length = n := ⟨_, rfl⟩
 have HN : Aside (ls.length = n) := hnn
 rw [hnn] at hn ⊢
 clear hnn
 go_loopg [3, 11] n (fun g t3 t11 wr => ∃ (i : Nat) (o : List Ent) (a : Option Addr) (c : Nat), t11 = .int .i64 i ∧ t3 = .slice a o.length c ∧ i ≤ n ∧ o.length ≤ 1048576 ∧ Aside (g = n - i ∧ o = join (ls.take i).flatten) ∧ Aside (o.length ≤ (ls.take i).flatten.length ∧ (∀ y ∈ o, OkE y) ∧ eBytes o = eBytes (ls.take i).flatten) ∧
  Sat (rw TEn 4 (.slice a o.length c) (ecs o) * (B * F)) wr)
 case atStart => exact ⟨0, [], none, 0, rfl, rfl, by omega, by simp, ⟨rfl, rfl⟩, ⟨by simp, by simp, rfl⟩, q0⟩
 case round =>
  obtain ⟨i, o, a, c, rfl, rfl, hi, hol, A, A2, hsr⟩ := hrel
  clear q0 hs this
  haveI := hsr.i
  by_cases hlt : i < n
  · have hlt' : (i : Int) < n := by omega
    obtain ⟨x, hx⟩ : ∃ x, vs[i]? = some x := ⟨_, List.getElem?_eq_getElem (by have := HBt.out.2.2; have := HN.out; omega)⟩
    obtain ⟨l, hl⟩ : ∃ l, ls[i]? = some l := ⟨_, List.getElem?_eq_getElem (by have := HN.out; omega)⟩
    have hv2 := HV.out
    rw [HN.out] at hv2
    obtain ⟨b0, k0, rfl, r0⟩ := ReadsR.at hv2 i x hx
    clear hv2
    have hle := HVE.out i x l hx hl
    obtain ⟨al, cl, rfl, hl1, hl2⟩ := hle.v
    have HL : Aside (ReadsE B (.slice al l.length cl) l) := hle
    have HFl : Aside ((ls.take (i + 1)).flatten = (ls.take i).flatten ++ l) := (by rw [take_snoc' hl]; simp : _ = _)
    have hbl := HBL.out (i + 1)
    rw [HFl.out] at hbl
    have HLB : Aside ((ls.take i).flatten.length + l.length ≤ 1048576 ∧ eBytes (ls.take i).flatten + eBytes l ≤ 1099511627776 ∧ ∀ x ∈ l, mayEnt x = true) := ⟨by have := hbl.1; rwa [List.length_append] at this, by have := hbl.2.1; rwa [eBytes_append] at this, fun x hx => hbl.2.2 x (List.mem_append_right _ hx)⟩
    obtain ⟨nl, hnl⟩ : ∃ nl, l.length = nl := ⟨_, rfl⟩
    have HNL : Aside (l.length = nl) := hnl
    rw [hnl] at HL hl1
    have hnl2 : nl ≤ 1048576 := by have := HLB.out.1; omega
    clear hle hbl hx hl
    rw [hnl] at r0
    clear hnl
    go_wp2_with fail
    go_loopg [3, 17] nl (fun g t3 t17 wr => ∃ (j : Nat) (o2 : List Ent) (a2 : Option Addr) (c2 : Nat), t17 = .int .i64 j ∧ t3 = .slice a2 o2.length c2 ∧ j ≤ nl ∧ o2.length ≤ 1048576 ∧ Aside (g = nl - j ∧ o2 = (l.take j).foldl joinTo o) ∧ Aside (o2.length ≤ o.length + j ∧ (∀ y ∈ o2, OkE y) ∧ eBytes o2 = eBytes o + eBytes (l.take j)) ∧
     Sat (rw TEn 4 (.slice a2 o2.length c2) (ecs o2) * (B * F)) wr)
    case atStart => exact ⟨0, o, a, c, rfl, rfl, by omega, hol, ⟨rfl, rfl⟩, ⟨by omega, A2.out.2.1, by simp [eBytes]⟩, hsr⟩
    case round =>
     obtain ⟨j, o2, a2, c2, rfl, rfl, hj, hol2, J, J2, hsr2⟩ := hrel
     clear hsr this
     haveI := hsr2.i
     by_cases hlj : j < nl
     · have hlj' : (j : Int) < nl := by omega
       obtain ⟨y, hy⟩ : ∃ y, l[j]? = some y := ⟨_, List.getElem?_eq_getElem (by have := HNL.out; omega)⟩
       have hle2 := HL.out
       rw [← HNL.out] at hle2
       obtain ⟨b, q, rfl, r1, r2, r3, r4⟩ := readsE_at hle2 hy
       clear hle2
       have HT : Aside ((l.take (j + 1)).foldl joinTo o = joinTo o2 y ∧ eBytes (l.take (j + 1)) = eBytes (l.take j) + y.len) := ⟨by rw [take_snoc' hy, List.foldl_append, ← J.out.2]; rfl, eBytes_snoc hy⟩
       obtain ⟨hok, hyl⟩ := OkE.of (HLB.out.2.2 y (List.mem_of_getElem? hy))
       have HJ : Aside ((joinTo o2 y).length ≤ o.length + (j + 1) ∧ (∀ z ∈ joinTo o2 y, OkE z) ∧ eBytes (joinTo o2 y) = eBytes o + eBytes (l.take (j + 1)) ∧ (joinTo o2 y).length ≤ 1048576) := by
        have h1 := joinTo_len o2 y
        have h2 := J2.out.1
        have h3 := A2.out.1
        have h4 := HLB.out.1
        have h5 := HNL.out
        refine ⟨by omega, okE_join J2.out.2.1 hok, ?_, by omega⟩
        rw [eBytes_joinTo, HT.out.2, J2.out.2.2]
        omega
       have hyo : OkE y := hok
       obtain ⟨y1, y2, y3, y4⟩ := y
       unfold OkE at hyo
       simp only at hyo hyl r1 r2 r3 r4
       clear hok hy
       have hbe : eBytes o2 ≤ 1099511627776 := by
        have h1 := J2.out.2.2
        have h2 := A2.out.2.2
        have h3 := HLB.out.2.1
        have h4 : eBytes l = eBytes (l.take j) + eBytes (l.drop j) := by rw [← eBytes_append, List.take_append_drop]
        have h5 := (okE_len (o := l.drop j) (fun y hy => (OkE.of (HLB.out.2.2 y (List.mem_of_mem_drop hy))).1)).1
        omega
       have hoa := okE_len J2.out.2.1
       rcases List.eq_nil_or_concat o2 with rfl | ⟨p, a, hcat⟩
       · clear hbe hoa
         simp only [List.length_nil] at hsr2 ⊢
         haveI := hsr2.i
         go_wp2
         go_quiet (fail)
         go_wp2_with (at_builtin; refine wpl_append_same E rfl (.tmp 57) (.tmp 59) rfl rfl rfl (takeI (rw TEn 4 (.slice a2 0 c2) (ecs []))) (Src.new (b := wr.heap.size + 1) (e := TEn) (s := 4) (vs := [.int .i64 y1, .int .i64 y2, .int .i64 y3, .int .i64 y4]) (takeI _) rfl (by intro u hu; simp at hu; rcases hu with rfl | rfl | rfl | rfl <;> rfl)) (by unfold maxLen; omega) (by omega) ?_; intro a9 c9 w9 q9 z9; clear z9; haveI := q9.i)
         go_roundg (nl - (j + 1))
         case measure => have := J.out.1; omega
         case rel =>
          refine ⟨j + 1, [⟨y1, y2, y3, y4⟩], a9, c9, by go_num, rfl, by omega, by simp, ⟨rfl, ?_⟩, ?_, ?_⟩
          · rw [HT.out.1]; rfl
          · have := HJ.out; exact ⟨this.1, this.2.1, this.2.2.1⟩
          · show Sat (rw TEn 4 (.slice a9 (0 + 1) c9) (ecs [] ++ [.int .i64 y1, .int .i64 y2, .int .i64 y3, .int .i64 y4]) * (B * F)) _
            exact keep3 _ _ _
       · clear this
         rw [List.concat_eq_append] at hcat
         subst hcat
         obtain ⟨np, hnp⟩ : ∃ np, p.length = np := ⟨_, rfl⟩
         have HP : Aside (p.length = np) := hnp
         have hlen : (p ++ [a]).length = np + 1 := by rw [List.length_append, hnp]; rfl
         have hav := hoa.2 a (by simp)
         have hao := J2.out.2.1 a (by simp)
         rw [hlen] at hol2 hsr2 ⊢
         obtain ⟨g, rfl⟩ := row_some hsr2 (by omega)
         have t0 := ecs_at p a np hnp 0 _ rfl
         have t1 := ecs_at p a np hnp 1 _ rfl
         have t2 := ecs_at p a np hnp 2 _ rfl
         have t3 := ecs_at p a np hnp 3 _ rfl
         obtain ⟨e1, e2, e3, e4⟩ := a
         unfold OkE at hao
         simp only at hao hav t0 t1 t2 t3
         have hae : e3 ≤ 1099511627776 := by omega
         obtain ⟨xs, hxs⟩ : ∃ xs, ecs (p ++ [⟨e1, e2, e3, e4⟩]) = xs := ⟨_, rfl⟩
         have HX : Aside (ecs (p ++ [⟨e1, e2, e3, e4⟩]) = xs) := hxs
         rw [hxs] at t0 t1 t2 t3 hsr2
         clear hxs
         haveI : At xs (np * 4) (.int .i64 e1) := ⟨t0⟩
         haveI : At xs (np * 4 + 1) (.int .i64 e2) := ⟨t1⟩
         haveI : At xs (np * 4 + 2) (.int .i64 e3) := ⟨t2⟩
         haveI : At xs (np * 4 + 3) (.int .i64 e4) := ⟨t3⟩
         haveI : At (xs.set (np * 4 + 2) (.int .i64 (e3 + y3))) (np * 4 + 3) (.int .i64 e4) := ⟨by rw [List.getElem?_set_ne (by omega)]; exact t3⟩
         haveI := hsr2.i
         have hix : (np : Int) < (np : Int) + 1 := by omega
         have hd : decide ((np : Int) < 0) = false := decide_eq_false (by omega)
         have hnn : (np : Int) ≤ 1048576 := by omega
         have hw1 : IntKind.i64.wrap (e2 + e3) = e2 + e3 := IntWalk.i64_in _ (by omega)
         have hw2 : IntKind.i64.wrap (e3 + y3) = e3 + y3 := IntWalk.i64_in _ (by omega)
         have hw3 : IntKind.i64.wrap (e4 + y4) = e4 + y4 := IntWalk.i64_in _ (by omega)
         clear hbe hoa hav hnp hlen t0 t1 t2 t3
         by_cases h1 : e1 = y1
         · by_cases h2 : e2 + e3 = y2
           · have hm : meets ⟨e1, e2, e3, e4⟩ ⟨y1, y2, y3, y4⟩ = true := by unfold meets; simp [h1, h2]
             subst h1
             have b1 : (e1 != e1) = false := by simp
             have b2 : (e2 + e3 != y2) = false := by simp [h2]
             go_wp2
             go_quiet (fail)
             by_cases h4 : e4 < 0
             · have HE : Aside (joinTo (p ++ [⟨e1, e2, e3, e4⟩]) ⟨e1, y2, y3, y4⟩ = p ++ [⟨e1, e2, e3 + y3, -1⟩]) := by rw [joinTo_go hm]; unfold glue; simp [h4]; exact (trivial : True)
               have d1 : decide (e4 < 0) = true := decide_eq_true h4
               clear hm
               go_wp2_with fail
               go_region
               go_wp2_with fail
               go_roundg (nl - (j + 1))
               case measure => have := J.out.1; omega
               case rel =>
                refine ⟨j + 1, p ++ [⟨e1, e2, e3 + y3, -1⟩], some ⟨g, 0, none⟩, c2, by go_num, ?_, by omega, ?_, ⟨rfl, ?_⟩, ?_, ?_⟩
                · rw [List.length_append, HP.out]; rfl
                · have := HJ.out.2.2.2; rw [HE.out] at this; exact this
                · rw [HT.out.1, HE.out]
                · have := HJ.out; rw [HE.out] at this; exact ⟨this.1, this.2.1, this.2.2.1⟩
                · rw [show ecs (p ++ [⟨e1, e2, e3 + y3, -1⟩]) = _ from (ecs_glue p (Ent.mk e1 e2 e3 e4) np HP.out (e3 + y3) (-1)).symm, HX.out, List.length_append, HP.out]
                  show Sat (rw TEn 4 (.slice (some ⟨g, 0, none⟩) (np + 1) c2) ((xs.set (np * 4 + 2) (Value.int .i64 (e3 + y3))).set (np * 4 + 3) (Value.int .i64 (-1))) * (B * F)) _
                  exact keep3 _ _ _
             · have d1 : decide (e4 < 0) = false := decide_eq_false h4
               by_cases h5 : y4 < 0
               · have HE : Aside (joinTo (p ++ [⟨e1, e2, e3, e4⟩]) ⟨e1, y2, y3, y4⟩ = p ++ [⟨e1, e2, e3 + y3, -1⟩]) := by rw [joinTo_go hm]; unfold glue; simp [h4, h5]; exact (trivial : True)
                 have d2 : decide (y4 < 0) = true := decide_eq_true h5
                 clear hm
                 go_wp2_with fail
                 go_region
                 go_wp2_with fail
                 go_roundg (nl - (j + 1))
                 case measure => have := J.out.1; omega
                 case rel =>
                  refine ⟨j + 1, p ++ [⟨e1, e2, e3 + y3, -1⟩], some ⟨g, 0, none⟩, c2, by go_num, ?_, by omega, ?_, ⟨rfl, ?_⟩, ?_, ?_⟩
                  · rw [List.length_append, HP.out]; rfl
                  · have := HJ.out.2.2.2; rw [HE.out] at this; exact this
                  · rw [HT.out.1, HE.out]
                  · have := HJ.out; rw [HE.out] at this; exact ⟨this.1, this.2.1, this.2.2.1⟩
                  · rw [show ecs (p ++ [⟨e1, e2, e3 + y3, -1⟩]) = _ from (ecs_glue p (Ent.mk e1 e2 e3 e4) np HP.out (e3 + y3) (-1)).symm, HX.out, List.length_append, HP.out]
                    show Sat (rw TEn 4 (.slice (some ⟨g, 0, none⟩) (np + 1) c2) ((xs.set (np * 4 + 2) (Value.int .i64 (e3 + y3))).set (np * 4 + 3) (Value.int .i64 (-1))) * (B * F)) _
                    exact keep3 _ _ _
               · have HE : Aside (joinTo (p ++ [⟨e1, e2, e3, e4⟩]) ⟨e1, y2, y3, y4⟩ = p ++ [⟨e1, e2, e3 + y3, e4 + y4⟩]) := by rw [joinTo_go hm]; unfold glue; simp [h4, h5]; exact (trivial : True)
                 have d2 : decide (y4 < 0) = false := decide_eq_false h5
                 clear hm
                 go_wp2_with fail
                 go_region
                 go_wp2_with fail
                 go_region
                 go_wp2_with fail
                 go_roundg (nl - (j + 1))
                 case measure => have := J.out.1; omega
                 case rel =>
                  refine ⟨j + 1, p ++ [⟨e1, e2, e3 + y3, (e4 + y4)⟩], some ⟨g, 0, none⟩, c2, by go_num, ?_, by omega, ?_, ⟨rfl, ?_⟩, ?_, ?_⟩
                  · rw [List.length_append, HP.out]; rfl
                  · have := HJ.out.2.2.2; rw [HE.out] at this; exact this
                  · rw [HT.out.1, HE.out]
                  · have := HJ.out; rw [HE.out] at this; exact ⟨this.1, this.2.1, this.2.2.1⟩
                  · rw [show ecs (p ++ [⟨e1, e2, e3 + y3, (e4 + y4)⟩]) = _ from (ecs_glue p (Ent.mk e1 e2 e3 e4) np HP.out (e3 + y3) (e4 + y4)).symm, HX.out, List.length_append, HP.out]
                    show Sat (rw TEn 4 (.slice (some ⟨g, 0, none⟩) (np + 1) c2) ((xs.set (np * 4 + 2) (Value.int .i64 (e3 + y3))).set (np * 4 + 3) (Value.int .i64 (e4 + y4))) * (B * F)) _
                    exact Sat.drewN 1 (keep3 _ _ _)
           · have HE : Aside (joinTo (p ++ [⟨e1, e2, e3, e4⟩]) ⟨y1, y2, y3, y4⟩ = (p ++ [⟨e1, e2, e3, e4⟩]) ++ [⟨y1, y2, y3, y4⟩]) := joinTo_stop (by unfold meets; simp [h2])
             subst h1
             have b1 : (e1 != e1) = false := by simp
             have b2 : (e2 + e3 != y2) = true := by simp [h2]
             go_wp2
             go_quiet (fail)
             go_wp2_with (at_builtin; refine wpl_append_same E rfl (.tmp 57) (.tmp 59) rfl rfl rfl (takeI (rw TEn 4 (.slice (some ⟨g, 0, none⟩) (np + 1) c2) xs)) (Src.new (b := wr.heap.size + 1) (e := TEn) (s := 4) (vs := [.int .i64 e1, .int .i64 y2, .int .i64 y3, .int .i64 y4]) (takeI _) rfl (by intro u hu; simp at hu; rcases hu with rfl | rfl | rfl | rfl <;> rfl)) (by unfold maxLen; omega) (by omega) ?_; intro a9 c9 w9 q9 z9; clear z9; haveI := q9.i)
             go_roundg (nl - (j + 1))
             case measure => have := J.out.1; omega
             case rel =>
              refine ⟨j + 1, (p ++ [⟨e1, e2, e3, e4⟩]) ++ [⟨e1, y2, y3, y4⟩], a9, c9, by go_num, ?_, by omega, ?_, ⟨rfl, ?_⟩, ?_, ?_⟩
              · rw [List.length_append, List.length_append, HP.out]; rfl
              · have := HJ.out.2.2.2; rw [HE.out] at this; exact this
              · rw [HT.out.1, HE.out]
              · have := HJ.out; rw [HE.out] at this; exact ⟨this.1, this.2.1, this.2.2.1⟩
              · rw [ecs_last (p ++ [Ent.mk e1 e2 e3 e4]), HX.out, List.length_append, List.length_append, HP.out]
                show Sat (rw TEn 4 (.slice a9 (np + 1 + 1) c9) (xs ++ [.int .i64 e1, .int .i64 y2, .int .i64 y3, .int .i64 y4]) * (B * F)) _
                exact keep3 _ _ _
         · have HE : Aside (joinTo (p ++ [⟨e1, e2, e3, e4⟩]) ⟨y1, y2, y3, y4⟩ = (p ++ [⟨e1, e2, e3, e4⟩]) ++ [⟨y1, y2, y3, y4⟩]) := joinTo_stop (by unfold meets; simp [h1])
           have b1 : (e1 != y1) = true := by simp [h1]
           go_wp2
           go_quiet (fail)
           go_wp2_with (at_builtin; refine wpl_append_same E rfl (.tmp 57) (.tmp 59) rfl rfl rfl (takeI (rw TEn 4 (.slice (some ⟨g, 0, none⟩) (np + 1) c2) xs)) (Src.new (b := wr.heap.size + 1) (e := TEn) (s := 4) (vs := [.int .i64 y1, .int .i64 y2, .int .i64 y3, .int .i64 y4]) (takeI _) rfl (by intro u hu; simp at hu; rcases hu with rfl | rfl | rfl | rfl <;> rfl)) (by unfold maxLen; omega) (by omega) ?_; intro a9 c9 w9 q9 z9; clear z9; haveI := q9.i)
           go_roundg (nl - (j + 1))
           case measure => have := J.out.1; omega
           case rel =>
            refine ⟨j + 1, (p ++ [⟨e1, e2, e3, e4⟩]) ++ [⟨y1, y2, y3, y4⟩], a9, c9, by go_num, ?_, by omega, ?_, ⟨rfl, ?_⟩, ?_, ?_⟩
            · rw [List.length_append, List.length_append, HP.out]; rfl
            · have := HJ.out.2.2.2; rw [HE.out] at this; exact this
            · rw [HT.out.1, HE.out]
            · have := HJ.out; rw [HE.out] at this; exact ⟨this.1, this.2.1, this.2.2.1⟩
            · rw [ecs_last (p ++ [Ent.mk e1 e2 e3 e4]), HX.out, List.length_append, List.length_append, HP.out]
              show Sat (rw TEn 4 (.slice a9 (np + 1 + 1) c9) (xs ++ [.int .i64 y1, .int .i64 y2, .int .i64 y3, .int .i64 y4]) * (B * F)) _
              exact keep3 _ _ _
     · have hlj' : ¬ (j : Int) < nl := by omega
       obtain rfl : j = nl := by omega
       have hJ := J.out.2
       have hJ2 := J2.out
       rw [List.take_of_length_le (by rw [HNL.out]; exact Nat.le_refl _)] at hJ hJ2
       have HF : Aside (o2 = join (ls.take (i + 1)).flatten ∧ o2.length ≤ (ls.take (i + 1)).flatten.length ∧ (∀ y ∈ o2, OkE y) ∧ eBytes o2 = eBytes (ls.take (i + 1)).flatten) := by
        refine ⟨?_, ?_, hJ2.2.1, ?_⟩
        · rw [hJ, A.out.2, HFl.out]
          unfold join
          rw [List.foldl_append]
        · rw [HFl.out, List.length_append]
          have := A2.out.1
          have := HNL.out
          omega
        · rw [HFl.out, eBytes_append, hJ2.2.2, A2.out.2.2]
       clear hJ hJ2
       go_wp2
       go_roundg (n - (i + 1))
       case measure => have := A.out.1; omega
       case rel => exact ⟨i + 1, o2, a2, c2, by go_num, rfl, by omega, hol2, ⟨rfl, HF.out.1⟩, HF.out.2, hsr2⟩
  · have hlt' : ¬ (i : Int) < n := by omega
    obtain rfl : i = n := by omega
    have hRR : o = R := by rw [A.out.2, List.take_of_length_le (by rw [HN.out]; exact Nat.le_refl _)]; exact HR.out
    subst hRR
    go_wp2
    go_ret
    exact ⟨a, c, rfl, hsr⟩
end Go.Proofs.YtfhbmblbidcmmaaGreat
namespace Go.Tr
end Go.Tr
namespace Go.Proofs.YtfhbmblbidcmmaaGreat
set_option linter.unusedSimpArgs false
set_option linter.unusedVariables false
open Go.RowKit Go.Sl Go.Dk Go.Tr
attribute [local go_sem ↓] Go.wp_at_zero Go.wp_at_succ
attribute [local go_sem] Go.Sl.cell_sat Go.Sl.frozen_sat
set_option maxRecDepth 100000 in
set_option maxHeartbeats 1600000 in
theorem rsize_any (l : List Ent) (v : Value) (B F : Assn) (w : World) (hE : ReadsE B v l) (hs : Sat (B * F) w) (hl : l.length ≤ 65536) (hm : ∀ x ∈ l, 0 ≤ x.len ∧ x.len ≤ 1048576) :
 Calls Tryz.prog 31 #[v] w fun e w' => e = .returned (.int .i64 (eBytes l)) ∧ Sat (B * F) w' := by
 obtain ⟨a0, c0, rfl, hE1, hE2⟩ := hE.v
 have HE : Aside (ReadsE B (.slice a0 l.length c0) l) := hE
 have HM : Aside (∀ i : Nat, 0 ≤ eBytes (l.take i) ∧ eBytes (l.take i) ≤ i * 1048576) := eBytes_take_bound hm
 have HO : Aside (∀ x ∈ l, 0 ≤ x.len ∧ x.len ≤ 1048576) := hm
 obtain ⟨n, hn⟩ : ∃ n, l.length = n := ⟨_, rfl⟩
 have HN : Aside (l.length = n) := hn
 rw [hn] at hl hE1 ⊢
 haveI := hs.i
 clear hE hm hn
 go_enter Tryz.func31, Tryz.ntmps31
 go_wp2
 go_loopg [3, 4] n (fun g t3 t4 wr => ∃ i : Nat, t4 = .int .i64 i ∧ i ≤ n ∧ t3 = .int .i64 (eBytes (l.take i)) ∧ Aside (g = n - i) ∧ Sat (B * F) wr)
 case atStart => exact ⟨0, rfl, by omega, by simp [eBytes], rfl, hs⟩
 case round =>
  obtain ⟨i, rfl, hi, rfl, A, hsr⟩ := hrel
  haveI := hsr.i
  by_cases hlt : i < n
  · have hlt' : (i : Int) < n := by omega
    obtain ⟨y, hy⟩ : ∃ y, l[i]? = some y := ⟨_, List.getElem?_eq_getElem (by have := HN.out; omega)⟩
    obtain ⟨b, q, rfl, r1, r2, r3, r4⟩ := readsE_at HE.out hy
    have hs1 := eBytes_snoc hy
    have h3 := HM.out i
    have h4 := HO.out y (List.mem_of_getElem? hy)
    obtain ⟨y1, y2, y3, y4⟩ := y
    simp only at hs1 h4 r1 r2 r3 r4
    obtain ⟨z, hz⟩ : ∃ z, eBytes (l.take i) = z := ⟨_, rfl⟩
    rw [hz] at hs1 h3 ⊢
    have hw1 : IntKind.i64.wrap (z + y3) = z + y3 := IntWalk.i64_in _ (by omega)
    clear hy hz hs
    go_wp2
    go_roundg (n - (i + 1))
    case measure => have := A.out; omega
    case rel => exact ⟨i + 1, by go_num, by omega, by rw [hs1], rfl, hsr⟩
  · have hlt' : ¬ (i : Int) < n := by omega
    obtain rfl : i = n := by omega
    rw [List.take_of_length_le (by rw [HN.out]; exact Nat.le_refl _)]
    go_wp2
    go_ret
    exact ⟨rfl, hsr⟩
end Go.Proofs.YtfhbmblbidcmmaaGreat
namespace Go.Proofs.YtfhbmblbidcmmaaGreat
set_option linter.unusedSimpArgs false
set_option linter.unusedVariables false
open Go.RowKit Go.Sl Go.Dk Go.Tr
attribute [local go_sem ↓] Go.wp_at_zero Go.wp_at_succ
attribute [local go_sem] Go.Sl.cell_sat Go.Sl.frozen_sat
end Go.Proofs.YtfhbmblbidcmmaaGreat
namespace Go.Proofs.YtfhbmblbidcmmaaGreat
set_option linter.unusedSimpArgs false
set_option linter.unusedVariables false
open Go.RowKit Go.Sl Go.Dk
open Go.Lru (ikey)
attribute [local go_sem ↓] Go.wp_at_zero Go.wp_at_succ
attribute [local go_sem] Go.Sl.cell_sat Go.Sl.frozen_sat look_PM len_PM put_PM del_PM
def Ck.forget (s : Ck) (no : Int) : Bool × Ck := if dropB s.its no then (true, { s with its := outI s.its no, pgs := pdel no s.pgs }) else (false, s)
set_option maxRecDepth 100000 in
set_option maxHeartbeats 1000000 in
theorem forget_any (C D : Nat) (s : Ck) (m : Nat) (no : Int) (F : Assn) (w : World) (hs : Sat (cacheP C D s * F) w) (ok : CkOk m s) :
 Calls Tryz.prog 135 #[.pointer (some ⟨C, 0, none⟩), .int .i64 no] w fun e w' => e = .returned (.bool (s.forget no).1) ∧ Sat (cacheP C D (s.forget no).2 * F) w' := by
 obtain ⟨L, PM, ps, hp, hs⟩ := Sat.cache_open hs
 have hdr := fun F w h => dropH L s.cap s.its no F w h ok.lru
 unfold Ck.forget
 unfold cacheA at hs
 haveI := hs.i
 cases hd : dropB s.its no with
 | true =>
   rw [hd, if_pos rfl] at hdr
   rw [if_pos rfl]
   obtain ⟨b, hb, hl, h0, h1⟩ := ok.key (drop_has hd)
   have HDR : Aside (∀ (F : Assn) (w : World), Sat (lruI L s.cap s.its * F) w → Calls Tryz.prog 164 #[.pointer (some ⟨L, 0, none⟩), .int .i64 no] w fun e w' => e = .returned (.bool true) ∧ Sat (lruI L s.cap (outI s.its no) * F) w') := hdr
   have HP : Aside (pgents ps = s.pgs ∧ pget no s.pgs = some b) := ⟨hp, hb⟩
   clear hdr hl h0 h1 hd
   rcases pg_cases ps no with ⟨l1, p, l2, rfl, rfl, hl1⟩ | hno
   · obtain ⟨_, _, _, q4, q5⟩ := pg_found (l2 := l2) hl1
     have HQ : Aside (pgents (l1 ++ l2) = pdel p.key s.pgs ∧ mdel p.key ((l1 ++ p :: l2).map kvP) = (l1 ++ l2).map kvP) := ⟨by rw [← HP.out.1]; exact q4.symm, q5⟩
     clear q4 q5 hp hb
     go_enter Tryz.func135, Tryz.ntmps135
     go_wp2_with fail
     refine (HDR.out _ _ (takeI (lruI L s.cap s.its))).mono ?_
     rintro e w3 ⟨rfl, hs3⟩
     haveI := hs3.i
     clear hs
     go_wp2
     go_ret
     refine ⟨rfl, ?_⟩
     refine Sat.cache_shut (L := L) (PM := PM) (ps := l1 ++ l2) HQ.out.1 ?_
     refine satI_weak (C := rw TB 1 p.v (bys p.b)) ?_
     rw [HQ.out.2, pagesA_append, show pagesA (p :: l2) = rw TB 1 p.v (bys p.b) * pagesA l2 from rfl]
     show _ = coreC C L D PM s * (lruI L s.cap (outI s.its p.key) * (diskP D s.d * (mp ikey PM ((l1 ++ l2).map kvP) * pagesA (l1 ++ l2)))) * F * rw TB 1 p.v (bys p.b)
     rw [pagesA_append]
     ac_rfl
   · have := HP.out.2
     rw [← HP.out.1, (pg_none hno).1] at this
     cases this
 | false =>
   rw [hd, if_neg (by simp)] at hdr
   rw [if_neg (by simp)]
   have HP : Aside (pgents ps = s.pgs) := hp
   clear hd hp
   go_enter Tryz.func135, Tryz.ntmps135
   go_wp2_with fail
   refine (hdr _ _ (takeI (lruI L s.cap s.its))).mono ?_
   rintro e w3 ⟨rfl, hs3⟩
   haveI := hs3.i
   go_wp2
   go_ret
   refine ⟨rfl, Sat.cache_shut (L := L) (PM := PM) HP.out ?_⟩
   unfold cacheA
   exact satI_eq (by ac_rfl)
end Go.Proofs.YtfhbmblbidcmmaaGreat
namespace Go.Proofs.YtfhbmblbidcmmaaGreat
set_option linter.unusedSimpArgs false
set_option linter.unusedVariables false
open Go.RowKit Go.Sl Go.Dk Go.Tr
attribute [local go_sem ↓] Go.wp_at_zero Go.wp_at_succ
attribute [local go_sem] Go.Sl.cell_sat Go.Sl.frozen_sat
def forgets (l : List Int) (c : Ck) : Ck := l.foldl (fun c no => (c.forget no).2) c
end Go.Proofs.YtfhbmblbidcmmaaGreat
namespace Go.Proofs.YtfhbmblbidcmmaaGreat
set_option linter.unusedSimpArgs false
set_option linter.unusedVariables false
open Go.RowKit Go.Sl Go.Dk Go.Tr
open Go.Lru (ikey)
theorem forget_ok {m : Nat} {s : Ck} (hw : CkOk m s) (no : Int) : CkOk m (s.forget no).2 := by
 unfold Ck.forget
 by_cases hd : dropB s.its no = true
 · simp only [hd, if_true]
   have ho := out_len hw.lru (drop_has hd)
   refine ⟨ok_out hw.lru no, hw.nd.sublist ((pdel_sub _ _).map _), ?_, ?_, fun p hp => hw.page p ((pdel_sub _ _).subset hp), hw.cap, ?_, hw.dk, hw.nm, hw.reads⟩
   · intro k
     show hasI (outI s.its no) k = (pget k (pdel no s.pgs)).isSome
     rw [pget_pdel hw.nd]
     by_cases hk : k = no
     · rw [if_pos hk]
       subst hk
       show _ = false
       rw [Bool.eq_false_iff]
       intro h
       exact (out_mem.1 (hasI_iff.1 h)).2 rfl
     · rw [if_neg hk, ← hw.same k, Bool.eq_iff_iff, hasI_iff, hasI_iff, out_mem]
       simp [hk]
   · show (pdel no s.pgs).length = (outI s.its no).length
     have := pdel_len (k := no) (l := s.pgs) (by rw [← hw.same]; exact drop_has hd)
     have := hw.len
     omega
   · have := hw.most
     show ((outI s.its no).length : Int) ≤ s.cap
     omega
 · rw [if_neg hd]
   exact hw
theorem forgets_ok {m : Nat} (l : List Int) {s : Ck} (hw : CkOk m s) : CkOk m (forgets l s) := by
 induction l generalizing s with
 | nil => exact hw
 | cons a l ih => exact ih (forget_ok hw a)
end Go.Proofs.YtfhbmblbidcmmaaGreat
