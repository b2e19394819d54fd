/-
  Versions are found sound just if they are in the words of the document. No condition. (part 38)
-/
import Derived.Test.YtfhbmblbidcmmaaGreatWa3
import Derived.Test.YtfhbmblbidcmmaaGreatWa16
import Derived.Shelf.SlSortFuncK.WholeK
import Derived.BigQuiet
import Derived.Test.YtfhbmblbidcmmaaGreatWa14
import Derived.Deep.DrawnRows
set_option linter.unusedSimpArgs false
set_option linter.unusedVariables false
namespace Go.Proofs.YtfhbmblbidcmmaaGreat
set_option linter.unusedSimpArgs false
set_option linter.unusedVariables false
open Go.RowKit Go.Sl Go.Sort
attribute [local go_sem ↓] Go.wp_at_zero Go.wp_at_succ
attribute [local go_sem] Go.Sl.cell_sat Go.Sl.frozen_sat
abbrev TRg : TypeId := 212
abbrev TRs : TypeId := 87
def rgR (p : Int × Int) : List Value := [.int .i64 p.1, .int .i64 p.2]
def rgs (l : List (Int × Int)) : List Value := l.flatMap rgR
def ltR (a b : Int × Int) : Bool := decide (a.1 < b.1)
theorem rgs_len (l : List (Int × Int)) : (rgs l).length = l.length * 2 := flatV_len (f := rgR) (fun _ => rfl) l
theorem rgs_at {l : List (Int × Int)} {i : Nat} {p : Int × Int} (h : l[i]? = some p) (k : Nat) (hk : k < 2) : (rgs l)[i * 2 + k]? = (rgR p)[k]? := flat_at (f := rgR) (s := 2) (fun _ => rfl) l i k p h hk
theorem rgs_flat (d : Array (Int × Int)) : (flatK rgR 2 d).toList = rgs d.toList := by
 apply List.ext_getElem?
 intro t
 by_cases h : t < d.size * 2
 · have h1 : t < (flatK rgR 2 d).size := by simpa using h
   have h2 : t / 2 < d.size := by omega
   have h3 := get_flatK rgR 2 d t h
   rw [getElem!_pos (flatK rgR 2 d) t h1, getElem!_pos d (t / 2) h2] at h3
   have h4 := rgs_at (l := d.toList) (i := t / 2) (p := d[t / 2]) (by simp [h2]) (t % 2) (by omega)
   rw [show t / 2 * 2 + t % 2 = t by omega] at h4
   rw [h4, Array.getElem?_toList, Array.getElem?_eq_getElem h1, h3, getElem!_pos _ _ (by show t % 2 < 2; omega), List.getElem?_eq_getElem (by show t % 2 < 2; omega)]
 · rw [Array.getElem?_toList, Array.getElem?_eq_none (by simp; omega), List.getElem?_eq_none (by rw [rgs_len]; simp; omega)]
set_option maxHeartbeats 2000000 in
theorem less_ranges (blk off c Bs size : Nat) (W : World) (G : Nat → Int) (hs : W.cell? ⟨Bs, 0, none⟩ = some (.slice (some ⟨blk, off, none⟩) size c))
 (hc : ∀ t, t < size → W.cell? ⟨blk, off + t * 2, none⟩ = some (.int .i64 (G t))) (i j : Nat) (hi : i < size) (hj : j < size) (_hsz : size < 4611686018427387904) :
 Calls Tryz.prog 152 #[.int .i64 i, .int .i64 j, .pointer (some ⟨Bs, 0, none⟩)] W fun e w' => e = .returned (.bool (decide (G i < G j))) ∧ ∃ q, w' = W.drewN q := by
 have ci := hc i hi
 have cj := hc j hj
 go_enter Tryz.func152, Tryz.ntmps152
 go_wp2
 go_quiet (fail)
 go_wp2
 go_ret
 exact ⟨rfl, nq, rfl⟩
noncomputable def rgT : TypeInfo := (Tryz.prog.info? 87).get (by kernel_rfl)
noncomputable def rgE : TypeInfo := (Tryz.prog.info? 212).get (by kernel_rfl)
theorem rgK (n : Nat) (h2 : 2 ≤ n) : Lib.swapperK n rgE 25 = 9 := by
 have a : rgE.hasPointers = false := by kernel_rfl
 have b : rgE.bytes = 16 := by kernel_rfl
 have c : (n == 0) = false := by simp; omega
 have d : (n == 1) = false := by simp; omega
 simp [Lib.swapperK, a, b, c, d]
theorem rgK0 : Lib.swapperK 0 rgE 25 = 1 := by simp [Lib.swapperK]
theorem rgK1 : Lib.swapperK 1 rgE 25 = 2 := by simp [Lib.swapperK]
theorem swoR : SWO ltR where
 irrefl := fun a => by simp [ltR]
 trans := fun a b c h1 h2 => by simp only [ltR, decide_eq_true_eq] at *; omega
 ntrans := fun a b c h1 h2 => by simp only [ltR, decide_eq_false_iff_not] at *; omega
theorem has_growN {w : World} (os : Array Obj) {k : Key} {r : Res} (h : Has w k r) : Has (Sort.grow w os) k r := by
 have old : ∀ {b : Nat} {o : Obj}, w.heap[b]? = some o → (Sort.grow w os).heap[b]? = some o := fun {b o} e => by
  rw [heap_grow_old w os (Array.getElem?_eq_some_iff.1 e).1]; exact e
 cases k <;> cases r <;> first | exact h.elim | skip
 · exact old h
 · obtain ⟨c, t, h1, h2⟩ := h; exact ⟨c, t, old h1, h2⟩
 · obtain ⟨c, h1, h2⟩ := h; exact ⟨c, old h1, h2⟩
 · exact h
theorem Sat.growN {A : Assn} {w : World} (hs : Sat A w) (os : Array Obj) : Sat A (Sort.grow w os) := by
 obtain ⟨h, ha, H⟩ := hs
 exact ⟨h, ha, fun k r e => has_growN os (H k r e)⟩
instance : Inhabited (Int × Int) := ⟨(0, 0)⟩
theorem rgs_arr (d : Array (Int × Int)) : flatK rgR 2 d = (rgs d.toList).toArray := by rw [← rgs_flat d]
def UpR (l : List (Int × Int)) : Prop := l.Pairwise fun x y => x.1 ≤ y.1
theorem slice_none (p : Option Addr) (n c : Nat) (h : n ≤ 1) (lf : Fn) (la lb : Array Value) (w : World) :
 Calls Tryz.prog 151 #[.iface 87 (.slice p n c), .func lf la lb] w fun e w' => e = .returned (.tuple #[]) ∧ ∃ os, w' = grow w os := by
 match n, h with
 | 0, _ => exact Any.sort_Slice_tiny Tryz.laysGg6 87 212 rgT rgE (by kernel_rfl) (by kernel_rfl) (by kernel_rfl) (by kernel_rfl) 25 (fun _ => by kernel_rfl) p 0 c (by omega) 199 (by rw [rgK0]; kernel_rfl) lf la lb w
 | 1, _ => exact Any.sort_Slice_tiny Tryz.laysGg6 87 212 rgT rgE (by kernel_rfl) (by kernel_rfl) (by kernel_rfl) (by kernel_rfl) 25 (fun _ => by kernel_rfl) p 1 c (by omega) 200 (by rw [rgK1]; kernel_rfl) lf la lb w
theorem slice_many (blk c b2 c2 : Nat) (d : Array (Int × Int)) (w : World) (h2 : 2 ≤ d.size) (hsz : d.size < 4611686018427387904) (hH : HoldsK rgR 2 w blk 0 d) (hblk : blk < w.heap.size) (hne : b2 ≠ blk) (hb2 : b2 < w.heap.size) (hs : w.cell? ⟨b2, 0, none⟩ = some (.slice (some ⟨blk, 0, none⟩) d.size c2)) :
 Calls Tryz.prog 151 #[.iface 87 (.slice (some ⟨blk, 0, none⟩) d.size c), .func (.func 152) #[] #[.pointer (some ⟨b2, 0, none⟩)]] w fun e w' =>
  e = .returned (.tuple #[]) ∧ ∃ d' n os, PermIn 0 d.size d d' ∧ SortedIn ltR 0 d.size d' ∧ w' = grow (putRowK rgR 2 (Sort.ahead w n) blk 0 d') os := by
 have hless : LessReadsK Tryz.prog 152 #[.pointer (some ⟨b2, 0, none⟩)] rgR 2 ltR blk 0 d.size w := by
  intro m os dk hsz i j hi hj
  have e : sortWorldK rgR 2 w blk 0 m dk os = putRowK rgR 2 (grow (Sort.ahead w m) os) blk 0 dk := by
   unfold sortWorldK; rw [putRowK_grow _ _ (Sort.ahead w m) _ blk 0 _ hblk]
  have hHg : HoldsK rgR 2 (grow (Sort.ahead w m) os) blk 0 d := holdsK_grow _ _ _ _ blk 0 d hblk (holdsK_ahead _ _ _ _ _ _ _ hH)
  refine less_ranges blk 0 c2 b2 d.size _ (fun t => dk[t]!.1) ?_ (fun t ht => ?_) i j hi hj (by omega)
  · rw [e, cell?_putRowK_other _ _ _ blk 0 dk _ hne, cell?_grow _ _ _ hb2]
    exact hs
  · rw [e]; exact ((holdsK_putRowK _ _ _ blk 0 d dk hHg hsz).cell (i := t) (c := 0) (by omega) (by omega)).1
 exact Any.sort_Slice_cells_sorted Tryz.laysGg6 87 212 rgT rgE (by kernel_rfl) (by kernel_rfl) (by kernel_rfl) (by kernel_rfl) 25 (fun _ => by kernel_rfl) rgR 2 (fun _ => rfl) (by kernel_rfl) (fun _ => by kernel_rfl)
  (fun x v hv => by simp [rgR] at hv; rcases hv with rfl | rfl <;> rfl) ltR swoR 152 _
  (enters_of Tryz.func152 (by kernel_rfl) rfl) blk 0 c d h2 hsz 207 (by rw [rgK _ h2]; kernel_rfl) false
  (fun args W => run_callFunc_extern Tryz.func207 (by kernel_rfl) (by kernel_rfl) (by kernel_rfl) (e := Extern.ReflectliteSwapper.swap false) (by kernel_rfl) args W) w hless hH hblk
theorem slice_row {blk c T b2 c2 : Nat} {l : List (Int × Int)} {sp : List Value} {F : Assn} {w : World} (hs : Sat (block blk T (rgs l ++ sp) * F) w) (hc : w.cell? ⟨b2, 0, none⟩ = some (.slice (some ⟨blk, 0, none⟩) l.length c2)) (hne : b2 ≠ blk) (hb2 : b2 < w.heap.size) (hm : l.length < 4611686018427387904) :
 Calls Tryz.prog 151 #[.iface 87 (.slice (some ⟨blk, 0, none⟩) l.length c), .func (.func 152) #[] #[.pointer (some ⟨b2, 0, none⟩)]] w fun e w' =>
  e = .returned (.tuple #[]) ∧ ∃ l', l'.Perm l ∧ UpR l' ∧ Sat (block blk T (rgs l' ++ sp) * F) w' := by
 by_cases h2 : l.length ≤ 1
 · refine (slice_none _ _ c h2 _ _ _ w).mono fun x w' ⟨h, os, h'⟩ => ⟨h, l, List.Perm.refl _, ?_, ?_⟩
   · match l, h2 with
     | [], _ => exact List.Pairwise.nil
     | [x], _ => exact List.pairwise_singleton _ _
   · subst h'; exact Sat.growN hs os
 · have hw := hs.block_heap
   have hH : HoldsK rgR 2 w blk 0 l.toArray := by
    show Holds id w blk 0 (flatK rgR 2 l.toArray)
    rw [rgs_arr]
    intro j hj
    simp only [List.size_toArray] at hj
    have h7 : Sat (cells blk 0 (rgs l) * (hdr blk T (rgs l ++ sp).length * (cells blk (rgs l).length sp * F))) w := hs.eq (by rw [block_split]; ac_rfl)
    refine ⟨?_, by simp [World.frozen?, hw]⟩
    rw [h7.cells_at j ((rgs l)[j]) (by simp [hj])]
    simp [hj]
   refine (slice_many blk c b2 c2 l.toArray w (by simp; omega) (by simpa using hm) hH (lt_of_some hw) hne hb2 (by simpa using hc)).mono fun x w' ⟨h, d', n, os, hp, hu, h'⟩ => ⟨h, d'.toList, ?_, ?_, ?_⟩
   · have h1 := hp.2.2
     have h3 := hp.1
     simp only [List.size_toArray] at h1 h3
     rw [Array.extract_eq_self_of_le (by omega), Array.extract_eq_self_of_le (by simp)] at h1
     simpa using h1
   · have h3 : d'.size = l.length := by simpa using hp.1
     refine List.pairwise_iff_getElem.2 fun i j hi hj hij => ?_
     have h4 := hu i j (Nat.zero_le _) hij (by simp at hj ⊢; omega)
     have hi' : i < d'.size := by simpa using hi
     have hj' : j < d'.size := by simpa using hj
     rw [getElem!_pos d' i hi', getElem!_pos d' j hj'] at h4
     simp only [ltR, decide_eq_false_iff_not] at h4
     show d'.toList[i].1 ≤ d'.toList[j].1
     simp only [Array.getElem_toList]
     omega
   · subst h'
     show Sat _ (grow (putRow id (Sort.ahead w n) blk 0 (flatK rgR 2 d')) os)
     rw [rgs_arr]
     have h8 := sort_row id (xs := rgs l) (ys := rgs d'.toList) (n := n) (os := os) (sp := sp) (F := F) (by simpa using hs) (by rw [rgs_len, rgs_len]; have := hp.1; simp at this; simp [this])
     simpa using h8
end Go.Proofs.YtfhbmblbidcmmaaGreat
namespace Go.Proofs.YtfhbmblbidcmmaaGreat
set_option linter.unusedSimpArgs false
set_option linter.unusedVariables false
open Go.RowKit Go.Sl Go.Sort
attribute [local go_sem ↓] Go.wp_at_zero Go.wp_at_succ
attribute [local go_sem] Go.Sl.cell_sat Go.Sl.frozen_sat
theorem rgs_append (a b : List (Int × Int)) : rgs (a ++ b) = rgs a ++ rgs b := List.flatMap_append
theorem rgs_get (l : List (Int × Int)) (t : Nat) : (rgs l)[t]? = (l[t / 2]?).map fun p => (rgR p)[t % 2]! := by
 by_cases h : t / 2 < l.length
 · have h4 := rgs_at (l := l) (i := t / 2) (p := l[t / 2]) (by simp [h]) (t % 2) (by omega)
   rw [show t / 2 * 2 + t % 2 = t by omega] at h4
   rw [h4, List.getElem?_eq_getElem h, Option.map_some, getElem!_pos _ _ (by show t % 2 < 2; omega), List.getElem?_eq_getElem (by show t % 2 < 2; omega)]
 · rw [List.getElem?_eq_none (by rw [rgs_len]; omega), List.getElem?_eq_none (by omega)]; rfl
noncomputable def keepR : List (Int × Int) → List (Int × Int)
 | [] => []
 | p :: l => match decide (max p.1 0 < p.2) with
   | true => (max p.1 0, p.2) :: keepR l
   | false => keepR l
noncomputable def putR (r : Int × Int) : List (Int × Int) → List (Int × Int)
 | [] => [r]
 | [p] => match decide (r.1 ≤ p.2) with
  | true => [(p.1, max p.2 r.2)]
  | false => [p, r]
 | p :: q :: l => p :: putR r (q :: l)
noncomputable def joinR : List (Int × Int) → List (Int × Int) → List (Int × Int)
 | out, [] => out
 | out, r :: l => joinR (putR r out) l
theorem keepR_append : ∀ a b : List (Int × Int), keepR (a ++ b) = keepR a ++ keepR b
 | [], b => rfl
 | p :: a, b => by
   show (match decide (max p.1 0 < p.2) with | true => (max p.1 0, p.2) :: keepR (a ++ b) | false => keepR (a ++ b)) = (match decide (max p.1 0 < p.2) with | true => (max p.1 0, p.2) :: keepR a | false => keepR a) ++ keepR b
   rw [keepR_append a b]
   cases decide (max p.1 0 < p.2) <;> rfl
theorem joinR_snoc : ∀ (l out : List (Int × Int)) (r : Int × Int), joinR out (l ++ [r]) = putR r (joinR out l)
 | [], out, r => rfl
 | p :: l, out, r => joinR_snoc l (putR p out) r
theorem putR_nil (r : Int × Int) : putR r [] = [r] := rfl
theorem putR_last (r : Int × Int) : ∀ (o : List (Int × Int)) (p : Int × Int), putR r (o ++ [p]) = (match decide (r.1 ≤ p.2) with | true => o ++ [(p.1, max p.2 r.2)] | false => o ++ [p, r])
 | [], p => rfl
 | [q], p => by
  show q :: putR r [p] = _
  rw [show [p] = [] ++ [p] from rfl, putR_last r [] p]
  cases decide (r.1 ≤ p.2) <;> rfl
 | q :: q2 :: o, p => by
   show q :: putR r ((q2 :: o) ++ [p]) = _
   rw [putR_last r (q2 :: o) p]
   cases decide (r.1 ≤ p.2) <;> rfl
theorem rgs_set (o : List (Int × Int)) (px py z : Int) : (rgs (o ++ [(px, py)])).set (o.length * 2 + 1) (.int .i64 z) = rgs (o ++ [(px, z)]) := by
 rw [rgs_append, rgs_append, List.set_append_right _ _ (by rw [rgs_len]; omega), rgs_len]
 rw [show o.length * 2 + 1 - o.length * 2 = 1 by omega]
 rfl
theorem putR_len (r : Int × Int) (o : List (Int × Int)) : (putR r o).length ≤ o.length + 1 := by
 rcases List.eq_nil_or_concat o with rfl | ⟨o', p, rfl⟩
 · simp [putR]
 · rw [List.concat_eq_append, putR_last]
   cases decide (r.1 ≤ p.2) <;> simp
theorem putR_ne (r : Int × Int) : ∀ o : List (Int × Int), putR r o ≠ []
 | [] => by simp [putR]
 | [p] => by
  show (match decide (r.1 ≤ p.2) with | true => [(p.1, max p.2 r.2)] | false => [p, r]) ≠ []
  cases decide (r.1 ≤ p.2) <;> simp
 | p :: q :: l => by simp [putR]
theorem joinR_len : ∀ (l out : List (Int × Int)), (joinR out l).length ≤ out.length + l.length
 | [], out => Nat.le_refl _
 | p :: l, out => by
   have h1 := joinR_len l (putR p out)
   have h2 := putR_len p out
   show (joinR (putR p out) l).length ≤ _
   simp only [List.length_cons]
   omega
theorem keepR_len : ∀ l : List (Int × Int), (keepR l).length ≤ l.length
 | [] => Nat.le_refl _
 | p :: l => by
   have := keepR_len l
   unfold keepR
   split <;> simp <;> omega
theorem keepR_one {x y : Int} (h : max x 0 < y) : keepR [(x, y)] = [(max x 0, y)] := by simp [keepR, h]
theorem keepR_none {x y : Int} (h : ¬ max x 0 < y) : keepR [(x, y)] = [] := by simp [keepR, h]
theorem sort_rows (a : Option Addr) (c B : Nat) (l : List (Int × Int)) (F : Assn) (w : World) (hl : l.length < 4611686018427387904)
 (hs : Sat (rw TRg 2 (.slice a l.length c) (rgs l) * (Sl.block B TRs [.slice a l.length c] * F)) w) :
 Calls Tryz.prog 151 #[.iface 87 (.slice a l.length c), .func (.func 152) #[] #[.pointer (some ⟨B, 0, none⟩)]] w fun e w' =>
  e = .returned (.tuple #[]) ∧ ∃ l', l'.Perm l ∧ UpR l' ∧ Sat (rw TRg 2 (.slice a l.length c) (rgs l') * (Sl.block B TRs [.slice a l.length c] * F)) w' := by
 rcases hs.rw_open with ⟨h2, h3, _⟩ | ⟨g, n, cap, sp, h2, h3, h4, h5, h6, h7⟩
 · have h4 := rgs_len l
   rw [h3] at h4
   simp only [List.length_nil] at h4
   have h0 : l = [] := List.eq_nil_of_length_eq_zero (by omega)
   subst h0
   refine (slice_none _ _ c (by simp) _ _ _ w).mono ?_
   rintro e w' ⟨rfl, os, rfl⟩
   exact ⟨rfl, [], List.Perm.refl _, List.Pairwise.nil, Sat.growN hs os⟩
 · cases h2
   have hB : Sat (Sl.cell B 0 (.slice (some ⟨g, 0, none⟩) l.length c) * (Sl.block g TRg (rgs l ++ sp) * (Sl.hdr B TRs 1 * F))) w := h7.eq (by
    rw [show Sl.block B TRs [.slice (some ⟨g, 0, none⟩) l.length c] = Sl.hdr B TRs 1 * (Sl.cell B 0 (.slice (some ⟨g, 0, none⟩) l.length c) * 1) from rfl, sep_one]
    ac_rfl)
   have hBg : B ≠ g := fun e => by
    subst e
    have h8 := (hB.take (Sl.block B TRg (rgs l ++ sp))).block_heap
    have h9 := (h7.eq (show _ = Sl.block B TRs [.slice (some ⟨B, 0, none⟩) l.length c] * (Sl.block B TRg (rgs l ++ sp) * F) by ac_rfl)).block_heap
    rw [h8] at h9
    simp at h9
    exact absurd h9.2 (by decide)
   refine (slice_row (b2 := B) (c2 := c) h7 (by simpa using hB.cell) hBg hB.lt hl).mono ?_
   rintro e w' ⟨rfl, l', hp, hu, h8⟩
   refine ⟨rfl, l', hp, hu, Sat.rw_shut (sp := sp) (by rw [rgs_len, hp.length_eq]) (by rw [List.length_append, rgs_len, hp.length_eq, ← rgs_len, ← List.length_append]; exact h4) h5 h6 h8⟩
theorem elemRg : ∃ i, ElemOk Tryz.prog 87 TRg 2 16 i (.agg #[.int .i64 0, .int .i64 0]) := by
 exact elemOk Tryz.underlying87 (by kernel_rfl) rfl (by decide)
set_option maxRecDepth 100000 in
set_option maxHeartbeats 1600000 in
theorem normal_go (a0 : Option Addr) (c0 : Nat) (rows : List (Int × Int)) (F0 : Assn) (w : World) (hl : rows.length ≤ 1073741824) (hsx : Sat (rw TRg 2 (.slice a0 rows.length c0) (rgs rows) * F0) w) :
 Calls Tryz.prog 120 #[.slice a0 rows.length c0] w fun e w' => ∃ l' : List (Int × Int), l'.Perm (keepR rows) ∧ UpR l' ∧ ∃ (a' : Option Addr) (c' : Nat), e = .returned (.slice a' (joinR [] l').length c') ∧
  Sat (rw TRg 2 (.slice a' (joinR [] l').length c') (rgs (joinR [] l')) * (rw TRg 2 (.slice a0 rows.length c0) (rgs rows) * F0)) w' := by
 have hs0 : Sat (rw TRg 2 (.slice a0 rows.length c0) (rgs rows) * F0) w := hsx
 clear hsx
 go_enter Tryz.func120, Tryz.ntmps120
 obtain ⟨i0, EP⟩ := elemRg
 have hs1 := hs0.alloc #[.slice none 0 0] 87
 have hs2 := hs1.rw_nil (e := TRg) (s := 2)
 go_wp2
 go_loopg [12] rows.length (fun g t12 wr => ∃ (i : Nat) (a : Option Addr) (c : Nat), t12 = .int .i64 i ∧ i ≤ rows.length ∧ Aside (g = rows.length - i) ∧
  Sat (rw TRg 2 (.slice a (keepR (rows.take i)).length c) (rgs (keepR (rows.take i))) * (Sl.block w.heap.size 87 [.slice a (keepR (rows.take i)).length c] * (rw TRg 2 (.slice a0 rows.length c0) (rgs rows) * F0))) wr)
 case atStart => exact ⟨0, none, 0, rfl, by omega, rfl, by simpa [keepR, rgs] using hs2⟩
 case round =>
  obtain ⟨i, a, c, rfl, hi, A, hsr⟩ := hrel
  haveI := hsr.i
  clear hs0 hs1 hs2
  by_cases hlt : i < rows.length
  · have hlt' : (i : Int) < rows.length := by omega
    obtain ⟨⟨x, y⟩, hp⟩ : ∃ p, rows[i] = p := ⟨_, rfl⟩
    have hx : (rgs rows)[i * 2]? = some (.int .i64 x) := by rw [rgs_get, show i * 2 / 2 = i by omega, show i * 2 % 2 = 0 by omega, List.getElem?_eq_getElem hlt, hp]; rfl
    have hy : (rgs rows)[i * 2 + 1]? = some (.int .i64 y) := by rw [rgs_get, show (i * 2 + 1) / 2 = i by omega, show (i * 2 + 1) % 2 = 1 by omega, List.getElem?_eq_getElem hlt, hp]; rfl
    haveI : At (rgs rows) (i * 2) (.int .i64 x) := ⟨hx⟩
    obtain ⟨g0, rfl⟩ := row_some (hsr.take (rw TRg 2 (.slice a0 rows.length c0) (rgs rows))) (by omega)
    haveI := hsr.i
    haveI : At (rgs rows) (i * 2 + 1) (.int .i64 y) := ⟨hy⟩
    have HT : Aside (rows.take (i + 1) = rows.take i ++ [(x, y)]) := (by rw [List.take_add_one, List.getElem?_eq_getElem hlt, hp]; rfl : _ = _)
    by_cases hk : max x 0 < y
    · have hkl : (keepR (rows.take i)).length ≤ 1073741824 := by
       have := keepR_len (rows.take i)
       rw [List.length_take] at this
       omega
      go_wp2_with (at_builtin; go_loud (refine wpl_append_same EP rfl (.tmp 25) (.tmp 27) rfl rfl rfl (takeI (rw TRg 2 (.slice a (keepR (rows.take i)).length c) (rgs (keepR (rows.take i))))) (Src.new (b := wr.heap.size + 1) (e := TRg) (s := 2) (vs := [.int .i64 (max x 0), .int .i64 y]) (by rw [← show (wr.alloc (.cells #[.int .i64 (max x 0), .int .i64 y] TRg)).heap.size = wr.heap.size + 1 by simp]; exact takeI _) rfl (by intro u hu; simp at hu; rcases hu with rfl | rfl <;> rfl)) (by unfold maxLen; omega) (by omega) ?_; intro a' c' w2 hs6 hnil; haveI := hs6.i; clear hnil))
      go_roundg (rows.length - (i + 1))
      case measure => have := A.out; omega
      case rel =>
       refine ⟨i + 1, a', c', by go_num, by omega, rfl, ?_⟩
       rw [HT.out, keepR_append, keepR_one (by omega), List.length_append, rgs_append]
       exact satI_weak (C := Sl.block (wr.alloc (.cells #[.int .i64 (max x 0), .int .i64 y] TRg)).heap.size TRg [.int .i64 (max x 0), .int .i64 y] * Sl.block wr.heap.size TRg [.int .i64 (max x 0), .int .i64 y]) (by
        show rw TRg 2 (.slice a' ((keepR (rows.take i)).length + 1) c') _ * _ = _
        ac_rfl)
    · go_wp2
      go_roundg (rows.length - (i + 1))
      case measure => have := A.out; omega
      case rel =>
       refine ⟨i + 1, a, c, by go_num, by omega, rfl, ?_⟩
       rw [HT.out, keepR_append, keepR_none (by omega), List.append_nil]
       exact satI_weak (C := Sl.block wr.heap.size TRg [.int .i64 (max x 0), .int .i64 y]) (by ac_rfl)
  · have hlt' : ¬ (i : Int) < rows.length := by omega
    obtain rfl : i = rows.length := by omega
    rw [List.take_length] at hsr
    haveI := hsr.i
    have hkl := keepR_len rows
    have hso := sort_rows a c w.heap.size (keepR rows) (rw TRg 2 (.slice a0 rows.length c0) (rgs rows) * F0) wr (by omega) hsr
    obtain ⟨nn, hnn⟩ : ∃ n, (keepR rows).length = n := ⟨_, rfl⟩
    rw [hnn] at hso hkl
    have HSR : Aside (Sat (rw TRg 2 (.slice a nn c) (rgs (keepR rows)) * (Sl.block w.heap.size 87 [.slice a nn c] * (rw TRg 2 (.slice a0 rows.length c0) (rgs rows) * F0))) wr) := (by rw [← hnn]; exact hsr : Sat _ _)
    have HNN : Aside ((keepR rows).length = nn) := hnn
    haveI := HSR.out.i
    clear hsr hnn
    go_wp2_with fail
    refine hso.mono ?_
    rintro e w2 ⟨rfl, ins, hpm, hup, hs3⟩
    clear hso
    have HI : Aside (ins.Perm (keepR rows) ∧ UpR ins) := ⟨hpm, hup⟩
    have hsl : ins.length = nn := by rw [hpm.length_eq]; exact HNN.out
    clear hpm hup
    haveI := hs3.i
    have hs4 := Sat.rw_nil (e := TRg) (s := 2) (hs3.eq (show _ = rw TRg 2 (.slice a nn c) (rgs ins) * (rw TRg 2 (.slice a0 rows.length c0) (rgs rows) * F0) * Sl.block w.heap.size 87 [.slice a nn c] by ac_rfl)).weak
    go_wp2
    go_loopg [6, 36] nn (fun g t6 t36 wr => ∃ (j : Nat) (a2 : Option Addr) (c2 : Nat), t36 = .int .i64 j ∧ j ≤ nn ∧ Aside (g = nn - j ∧ (joinR [] (ins.take j) = [] → a2 = none ∧ c2 = 0)) ∧ t6 = .slice a2 (joinR [] (ins.take j)).length c2 ∧
     Sat (rw TRg 2 (.slice a2 (joinR [] (ins.take j)).length c2) (rgs (joinR [] (ins.take j))) * (rw TRg 2 (.slice a nn c) (rgs ins) * (rw TRg 2 (.slice a0 rows.length c0) (rgs rows) * F0))) wr)
    case atStart => exact ⟨0, none, 0, rfl, by omega, ⟨rfl, fun _ => ⟨rfl, rfl⟩⟩, rfl, by simpa [joinR, rgs] using hs4⟩
    case round =>
     obtain ⟨j, a2, c2, rfl, hj, A2, rfl, hsr⟩ := hrel
     clear hs3 hs4
     have HSQ : Aside (Sat (rw TRg 2 (.slice a2 (joinR [] (ins.take j)).length c2) (rgs (joinR [] (ins.take j))) * (rw TRg 2 (.slice a nn c) (rgs ins) * (rw TRg 2 (.slice a0 rows.length c0) (rgs rows) * F0))) wr) := hsr
     by_cases hlt : j < nn
     · have hlt' : (j : Int) < nn := by omega
       have hjl : j < ins.length := by omega
       obtain ⟨g, rfl⟩ := row_some (hsr.take (rw TRg 2 (.slice a nn c) (rgs ins))) (by omega)
       obtain ⟨⟨x, y⟩, hp⟩ : ∃ p, ins[j] = p := ⟨_, rfl⟩
       haveI : At (rgs ins) (j * 2) (.int .i64 x) := ⟨by rw [rgs_get, show j * 2 / 2 = j by omega, show j * 2 % 2 = 0 by omega, List.getElem?_eq_getElem hjl, hp]; rfl⟩
       haveI : At (rgs ins) (j * 2 + 1) (.int .i64 y) := ⟨by rw [rgs_get, show (j * 2 + 1) / 2 = j by omega, show (j * 2 + 1) % 2 = 1 by omega, List.getElem?_eq_getElem hjl, hp]; rfl⟩
       have HT : Aside (ins.take (j + 1) = ins.take j ++ [(x, y)]) := (by rw [List.take_add_one, List.getElem?_eq_getElem hjl, hp]; rfl : _ = _)
       have hol : (joinR [] (ins.take j)).length ≤ 1073741824 := by
        have := joinR_len (ins.take j) []
        rw [List.length_take] at this
        simp at this
        omega
       obtain ⟨out, hout⟩ : ∃ l, joinR [] (ins.take j) = l := ⟨_, rfl⟩
       rw [hout] at hsr hol
       have HO : Aside (joinR [] (ins.take j) = out) := hout
       simp only [hout]
       clear hout hp
       haveI := hsr.i
       rcases List.eq_nil_or_concat out with rfl | ⟨o', ⟨px, py⟩, rfl⟩
       · have hsr2 : Sat (rw TRg 2 (.slice a2 0 c2) [] * (rw TRg 2 (.slice (some ⟨g, 0, none⟩) nn c) (rgs ins) * (rw TRg 2 (.slice a0 rows.length c0) (rgs rows) * F0))) wr := hsr
         simp only [List.length_nil]
         haveI := hsr2.i
         go_wp2_with fail
         go_quiet (fail)
         go_wp2_with (at_builtin; go_loud (refine wpl_append_same EP rfl (.tmp 67) (.tmp 69) rfl rfl rfl (takeI (rw TRg 2 (.slice a2 0 c2) [])) (Src.new (b := wr.heap.size + 1) (e := TRg) (s := 2) (vs := [.int .i64 x, .int .i64 y]) (by rw [← show ((wr.alloc (.cells #[.int .i64 x, .int .i64 y] TRg)).drewN nq).heap.size = wr.heap.size + 1 by simp]; exact takeI _) rfl (by intro u hu; simp at hu; rcases hu with rfl | rfl <;> rfl)) (by unfold maxLen; omega) (by omega) ?_; intro a' c' w3 hs6 hnil; haveI := hs6.i; clear hnil))
         go_roundg (nn - (j + 1))
         case measure => have := A2.out.1; omega
         case rel =>
          refine ⟨j + 1, a', c', by go_num, by omega, ⟨rfl, fun h0 => ?_⟩, ?_, ?_⟩
          · rw [HT.out, joinR_snoc] at h0; exact absurd h0 (putR_ne _ _)
          · rw [HT.out, joinR_snoc, HO.out]; rfl
          · rw [HT.out, joinR_snoc, HO.out]
            refine satI_weak (C := Sl.block ((wr.alloc (.cells #[.int .i64 x, .int .i64 y] TRg)).drewN nq).heap.size TRg [.int .i64 x, .int .i64 y] * Sl.block wr.heap.size TRg [.int .i64 x, .int .i64 y]) ?_
            show rw TRg 2 (.slice a' (0 + 1) c') _ * _ = _
            ac_rfl
       · rw [List.concat_eq_append] at hsr hol HO
         have hml : (o'.concat (px, py)).length = o'.length + 1 := by simp
         rw [List.length_append, List.length_singleton] at hol
         obtain ⟨m, hm⟩ : ∃ m, o'.length = m := ⟨_, rfl⟩
         have hsr2 : Sat (rw TRg 2 (.slice a2 (m + 1) c2) (rgs (o' ++ [(px, py)])) * (rw TRg 2 (.slice (some ⟨g, 0, none⟩) nn c) (rgs ins) * (rw TRg 2 (.slice a0 rows.length c0) (rgs rows) * F0))) wr := by
          have : (o' ++ [(px, py)]).length = m + 1 := by simp [hm]
          rw [← this]; exact hsr
         obtain ⟨g2, rfl⟩ := row_some hsr2 (by omega)
         have hp1 : (o' ++ [(px, py)])[m]? = some (px, py) := by rw [List.getElem?_append_right (by omega)]; simp [hm]
         haveI : At (rgs (o' ++ [(px, py)])) (m * 2) (.int .i64 px) := ⟨by rw [rgs_get, show m * 2 / 2 = m by omega, show m * 2 % 2 = 0 by omega, hp1]; rfl⟩
         haveI : At (rgs (o' ++ [(px, py)])) (m * 2 + 1) (.int .i64 py) := ⟨by rw [rgs_get, show (m * 2 + 1) / 2 = m by omega, show (m * 2 + 1) % 2 = 1 by omega, hp1]; rfl⟩
         rw [hm] at hol hml
         simp only [hml]
         haveI := hsr2.i
         by_cases hle : x ≤ py
         · have hd : decide (x ≤ py) = true := by simpa using hle
           go_wp2_with fail
           go_quiet (fail)
           go_wp2_with fail
           go_region
           go_wp2
           go_roundg (nn - (j + 1))
           case measure => have := A2.out.1; omega
           case rel =>
            have HP : Aside (putR (x, y) (o' ++ [(px, py)]) = o' ++ [(px, max py y)]) := (by
             rw [putR_last]
             show (match decide (x ≤ py) with | true => _ | false => _) = _
             rw [hd] : _ = _)
            refine ⟨j + 1, some ⟨g2, 0, none⟩, c2, by go_num, by omega, ⟨rfl, fun h0 => ?_⟩, ?_, ?_⟩
            · rw [HT.out, joinR_snoc] at h0; exact absurd h0 (putR_ne _ _)
            · rw [HT.out, joinR_snoc, HO.out, HP.out]; simp [hm]
            · rw [HT.out, joinR_snoc, HO.out, HP.out]
              rw [show (o' ++ [(px, max py y)]).length = m + 1 by simp [hm]]
              have hfs := rgs_set o' px py (max py y)
              rw [hm] at hfs
              rw [← hfs]
              exact satI_weak (C := Sl.block wr.heap.size TRg [.int .i64 x, .int .i64 y]) (by ac_rfl)
         · have hd : decide (x ≤ py) = false := by simpa using hle
           go_wp2_with fail
           go_quiet (fail)
           go_wp2_with (at_builtin; go_loud (refine wpl_append_same EP rfl (.tmp 67) (.tmp 69) rfl rfl rfl (takeI (rw TRg 2 (.slice (some ⟨g2, 0, none⟩) (m + 1) c2) (rgs (o' ++ [(px, py)])))) (Src.new (b := wr.heap.size + 1) (e := TRg) (s := 2) (vs := [.int .i64 x, .int .i64 y]) (by rw [← show ((wr.alloc (.cells #[.int .i64 x, .int .i64 y] TRg)).drewN nq).heap.size = wr.heap.size + 1 by simp]; exact takeI _) rfl (by intro u hu; simp at hu; rcases hu with rfl | rfl <;> rfl)) (by unfold maxLen; omega) (by omega) ?_; intro a' c' w3 hs6 hnil; haveI := hs6.i; clear hnil))
           go_roundg (nn - (j + 1))
           case measure => have := A2.out.1; omega
           case rel =>
            have HP : Aside (putR (x, y) (o' ++ [(px, py)]) = o' ++ [(px, py)] ++ [(x, y)]) := (by
             rw [putR_last]
             show (match decide (x ≤ py) with | true => _ | false => _) = _
             rw [hd]
             simp : _ = _)
            refine ⟨j + 1, a', c', by go_num, by omega, ⟨rfl, fun h0 => ?_⟩, ?_, ?_⟩
            · rw [HT.out, joinR_snoc] at h0; exact absurd h0 (putR_ne _ _)
            · rw [HT.out, joinR_snoc, HO.out, HP.out]; simp [hm]
            · rw [HT.out, joinR_snoc, HO.out, HP.out, rgs_append _ [(x, y)]]
              rw [show (o' ++ [(px, py)] ++ [(x, y)]).length = m + 1 + 1 by simp [hm]]
              refine satI_weak (C := Sl.block ((wr.alloc (.cells #[.int .i64 x, .int .i64 y] TRg)).drewN nq).heap.size TRg [.int .i64 x, .int .i64 y] * Sl.block wr.heap.size TRg [.int .i64 x, .int .i64 y]) ?_
              show rw TRg 2 (.slice a' (m + 1 + 1) c') (_ ++ [Value.int .i64 x, Value.int .i64 y]) * _ = _
              ac_rfl
     · have hlt' : ¬ (j : Int) < nn := by omega
       have hjn : j = nn := by omega
       have hfull : ins.take j = ins := List.take_of_length_le (by omega)
       have HF : Aside (ins.take j = ins) := hfull
       clear hfull hjn
       go_wp2
       go_ret
       have hq := HSQ.out
       rw [HF.out] at hq
       rw [HF.out]
       exact ⟨ins, HI.out.1, HI.out.2, a2, c2, rfl, (hq.eq (show _ = rw TRg 2 (.slice a2 (joinR [] ins).length c2) (rgs (joinR [] ins)) * (rw TRg 2 (.slice a0 rows.length c0) (rgs rows) * F0) * rw TRg 2 (.slice a nn c) (rgs ins) by ac_rfl)).weak⟩
end Go.Proofs.YtfhbmblbidcmmaaGreat
namespace Go.Proofs.YtfhbmblbidcmmaaGreat
set_option linter.unusedSimpArgs false
set_option linter.unusedVariables false
def Cov (l : List (Int × Int)) (x : Int) : Prop := ∃ p ∈ l, p.1 ≤ x ∧ x < p.2
def NormL (l : List (Int × Int)) : Prop := (∀ p ∈ l, p.1 < p.2) ∧ l.Pairwise fun a b => a.2 < b.1
theorem Cov.nil (x : Int) : ¬ Cov [] x := fun ⟨_, h, _⟩ => by cases h
theorem cov_cons (p : Int × Int) (l : List (Int × Int)) (x : Int) : Cov (p :: l) x ↔ (p.1 ≤ x ∧ x < p.2) ∨ Cov l x := by simp [Cov]
theorem Cov.perm {l l' : List (Int × Int)} (h : l'.Perm l) (x : Int) : Cov l' x ↔ Cov l x := by
 constructor
 · rintro ⟨p, hp, h1⟩; exact ⟨p, h.mem_iff.1 hp, h1⟩
 · rintro ⟨p, hp, h1⟩; exact ⟨p, h.mem_iff.2 hp, h1⟩
theorem putR_first (r : Int × Int) : ∀ (o : List (Int × Int)) (b : Int × Int), b ∈ putR r o → b.1 = r.1 ∨ ∃ a ∈ o, b.1 = a.1
 | [], b, h => by
  rw [putR_nil] at h
  exact Or.inl (by rw [List.mem_singleton.1 h])
 | [p], b, h => by
  rw [putR] at h
  split at h
  · exact Or.inr ⟨p, List.mem_singleton.2 rfl, by rw [List.mem_singleton.1 h]⟩
  · rcases List.mem_cons.1 h with rfl | h
    · exact Or.inr ⟨_, List.mem_singleton.2 rfl, rfl⟩
    · exact Or.inl (by rw [List.mem_singleton.1 h])
 | p :: q :: l, b, h => by
   rw [putR] at h
   rcases List.mem_cons.1 h with rfl | h
   · exact Or.inr ⟨_, List.mem_cons_self, rfl⟩
   · rcases putR_first r (q :: l) b h with h | ⟨a, ha, e⟩
     · exact Or.inl h
     · exact Or.inr ⟨a, List.mem_cons_of_mem _ ha, e⟩
theorem putR_norm (r : Int × Int) (hr : r.1 < r.2) : ∀ (o : List (Int × Int)), NormL o → (∀ p ∈ o, p.1 ≤ r.1) → NormL (putR r o) ∧ ∀ x, Cov (putR r o) x ↔ Cov o x ∨ (r.1 ≤ x ∧ x < r.2)
 | [], _, _ => by
  rw [putR_nil]
  refine ⟨⟨fun p hp => by rw [List.mem_singleton.1 hp]; exact hr, List.pairwise_singleton _ _⟩, fun x => ?_⟩
  rw [cov_cons]
  constructor
  · rintro (h | h)
    · exact Or.inr h
    · exact absurd h (Cov.nil x)
  · rintro (h | h)
    · exact absurd h (Cov.nil x)
    · exact Or.inl h
 | [p], hn, hp => by
  have h1 := hn.1 p (List.mem_singleton.2 rfl)
  have h2 := hp p (List.mem_singleton.2 rfl)
  rw [putR]
  split
  · rename_i e
    have e' : r.1 ≤ p.2 := by simpa using e
    refine ⟨⟨fun q hq => by rw [List.mem_singleton.1 hq]; show p.1 < max p.2 r.2; omega, List.pairwise_singleton _ _⟩, fun x => ?_⟩
    simp only [cov_cons, Cov.nil, or_false]
    show p.1 ≤ x ∧ x < max p.2 r.2 ↔ _
    omega
  · rename_i e
    have e' : ¬ r.1 ≤ p.2 := by simpa using e
    refine ⟨⟨fun q hq => ?_, ?_⟩, fun x => ?_⟩
    · rcases List.mem_cons.1 hq with rfl | hq
      · exact h1
      · rw [List.mem_singleton.1 hq]; exact hr
    · refine List.Pairwise.cons (fun q hq => ?_) (List.pairwise_singleton _ _)
      rw [List.mem_singleton.1 hq]; omega
    · simp only [cov_cons, Cov.nil, or_false]
 | p :: q :: l, hn, hp => by
   have hn2 : NormL (q :: l) := ⟨fun a ha => hn.1 a (List.mem_cons_of_mem _ ha), (List.pairwise_cons.1 hn.2).2⟩
   obtain ⟨h1, h2⟩ := putR_norm r hr (q :: l) hn2 fun a ha => hp a (List.mem_cons_of_mem _ ha)
   have hq := (List.pairwise_cons.1 hn.2).1
   rw [putR]
   refine ⟨⟨fun a ha => ?_, ?_⟩, fun x => ?_⟩
   · rcases List.mem_cons.1 ha with rfl | ha
     · exact hn.1 _ List.mem_cons_self
     · exact h1.1 a ha
   · refine List.Pairwise.cons (fun b hb => ?_) h1.2
     rcases putR_first r (q :: l) b hb with e | ⟨a, ha, e⟩
     · have h3 := hq q List.mem_cons_self
       have h4 := hp q (List.mem_cons_of_mem _ List.mem_cons_self)
       omega
     · have h3 := hq a ha
       omega
   · rw [cov_cons, h2 x, cov_cons p (q :: l), or_assoc]
theorem joinR_norm : ∀ (l out : List (Int × Int)), NormL out → (∀ p ∈ l, p.1 < p.2) → UpR l → (∀ p ∈ out, ∀ q ∈ l, p.1 ≤ q.1) → NormL (joinR out l) ∧ ∀ x, Cov (joinR out l) x ↔ Cov out x ∨ Cov l x
 | [], out, hn, _, _, _ => ⟨hn, fun x => by
  show Cov out x ↔ _
  constructor
  · exact Or.inl
  · rintro (h | h)
    · exact h
    · exact absurd h (Cov.nil x)⟩
 | r :: l, out, hn, hl, hu, ho => by
   obtain ⟨h1, h2⟩ := putR_norm r (hl r List.mem_cons_self) out hn fun p hp => ho p hp r List.mem_cons_self
   have hu2 := List.pairwise_cons.1 hu
   obtain ⟨h3, h4⟩ := joinR_norm l (putR r out) h1 (fun p hp => hl p (List.mem_cons_of_mem _ hp)) hu2.2 fun p hp q hq => by
    rcases putR_first r out p hp with e | ⟨a, ha, e⟩
    · have := hu2.1 q hq; omega
    · have := ho a ha q (List.mem_cons_of_mem _ hq); omega
   exact ⟨h3, fun x => by
    show Cov (joinR (putR r out) l) x ↔ _
    rw [h4 x, h2 x, cov_cons, or_assoc]⟩
theorem keepR_pos : ∀ l : List (Int × Int), ∀ p ∈ keepR l, p.1 < p.2
 | [], p, h => by cases h
 | q :: l, p, h => by
   rw [keepR] at h
   split at h
   · rename_i e
     rcases List.mem_cons.1 h with rfl | h
     · simpa using e
     · exact keepR_pos l p h
   · exact keepR_pos l p h
theorem keepR_cov : ∀ (l : List (Int × Int)) (x : Int), Cov (keepR l) x ↔ 0 ≤ x ∧ Cov l x
 | [], x => by simp [keepR, Cov]
 | q :: l, x => by
   have ih := keepR_cov l x
   rw [keepR]
   split
   · rename_i e
     rw [cov_cons, cov_cons, ih]
     show (max q.1 0 ≤ x ∧ x < q.2) ∨ _ ↔ _
     constructor
     · rintro (h | h)
       · exact ⟨by omega, Or.inl (by omega)⟩
       · exact ⟨h.1, Or.inr h.2⟩
     · rintro ⟨h0, h | h⟩
       · exact Or.inl (by omega)
       · exact Or.inr ⟨h0, h⟩
   · rename_i e
     have e' : ¬ max q.1 0 < q.2 := by simpa using e
     rw [cov_cons, ih]
     constructor
     · rintro h; exact ⟨h.1, Or.inr h.2⟩
     · rintro ⟨h0, h | h⟩
       · omega
       · exact ⟨h0, h⟩
theorem normal_law {rows l' : List (Int × Int)} (hp : l'.Perm (keepR rows)) (hu : UpR l') : NormL (joinR [] l') ∧ ∀ x, Cov (joinR [] l') x ↔ 0 ≤ x ∧ Cov rows x := by
 obtain ⟨h1, h2⟩ := joinR_norm l' [] ⟨fun p h => (by cases h), List.Pairwise.nil⟩ (fun p h => keepR_pos rows p (hp.mem_iff.1 h)) hu (fun p h => by cases h)
 refine ⟨h1, fun x => ?_⟩
 rw [h2 x, Cov.perm hp x, keepR_cov]
 constructor
 · rintro (h | h)
   · exact absurd h (Cov.nil x)
   · exact h
 · exact Or.inr
end Go.Proofs.YtfhbmblbidcmmaaGreat
namespace Go.Proofs.YtfhbmblbidcmmaaGreat
set_option linter.unusedSimpArgs false
set_option linter.unusedVariables false
open Go.RowKit Go.Sl Go.Sort
open Go.Lru (ikey)
attribute [local go_sem ↓] Go.wp_at_zero Go.wp_at_succ
attribute [local go_sem] Go.Sl.cell_sat Go.Sl.frozen_sat
def pageR (ks : List Int) : List (Int × Int) := ks.map fun k => (k, k + 1)
theorem cov_page (ks : List Int) (x : Int) : Cov (pageR ks) x ↔ x ∈ ks := by
 constructor
 · rintro ⟨p, hp, h1, h2⟩
   obtain ⟨k, hk, rfl⟩ := List.mem_map.1 hp
   have : x = k := by simp only at h1 h2; omega
   exact this ▸ hk
 · intro h
   exact ⟨(x, x + 1), List.mem_map.2 ⟨x, h, rfl⟩, by show x ≤ x; omega, by show x < x + 1; omega⟩
end Go.Proofs.YtfhbmblbidcmmaaGreat
namespace Go.Proofs.YtfhbmblbidcmmaaGreat
set_option linter.unusedSimpArgs false
set_option linter.unusedVariables false
open Go.RowKit Go.Sl Go.Dk Go.Tr
open Go.Lru (ikey)
attribute [local go_sem ↓] Go.wp_at_zero Go.wp_at_succ
attribute [local go_sem] Go.Sl.cell_sat Go.Sl.frozen_sat
end Go.Proofs.YtfhbmblbidcmmaaGreat
namespace Go.Proofs.YtfhbmblbidcmmaaGreat
set_option linter.unusedSimpArgs false
set_option linter.unusedVariables false
open Go.RowKit Go.Sl Go.Dk Go.Tr
attribute [local go_sem ↓] Go.wp_at_zero Go.wp_at_succ
attribute [local go_sem] Go.Sl.cell_sat Go.Sl.frozen_sat
end Go.Proofs.YtfhbmblbidcmmaaGreat
