/-
  The reference disk's memory: its struct, the row of files by rising names, the row of pieces; Copy, find, sum.
-/
import Derived.Test.YtjhkmmpgjiciiaaDk14
import Derived.Test.YtjhkmmpgjiciiaaLaw04a
namespace Go.Proofs.Ytjhkmmpgjiciiaa
set_option linter.unusedSimpArgs false
set_option linter.unusedVariables false
open Go.RowKit Go.Sl Go.Dk
attribute [local go_sem ↓] Go.wp_at_zero Go.wp_at_succ
attribute [local go_sem] Go.Sl.cell_sat Go.Sl.frozen_sat

abbrev TR : TypeId := 63
abbrev TRF : TypeId := 140
abbrev TRP : TypeId := 145

structure Rf where
  nm : ByteArray
  f : Fl
  na : Option Addr
  nc : Nat
  sa : Option Addr
  sc : Nat

structure Rp where
  p : Pc
  a : Option Addr
  c : Nat

def Rp.l (x : Rp) : List UInt8 := x.p.b.getD []

def frow (x : Rf) : List Value := [.string x.nm, .slice x.na x.f.now.length x.nc, .slice x.sa x.f.safe.length x.sc, .bool x.f.sure]
def frows (l : List Rf) : List Value := l.flatMap frow
def qrow (x : Rp) : List Value := [.string x.p.nm, .int .i64 x.p.pos, .slice x.a x.l.length x.c, .bool x.p.b.isNone]
def qrows (l : List Rp) : List Value := l.flatMap qrow

def rfA (x : Rf) : Assn := rw TB 1 (.slice x.na x.f.now.length x.nc) (bys x.f.now) * rw TB 1 (.slice x.sa x.f.safe.length x.sc) (bys x.f.safe)
def rfsA : List Rf → Assn
  | [] => 1
  | x :: l => rfA x * rfsA l
def rpA (x : Rp) : Assn := rw TB 1 (.slice x.a x.l.length x.c) (bys x.l)
def rpsA : List Rp → Assn
  | [] => 1
  | x :: l => rpA x * rpsA l

structure Rh where
  room : Int
  changes : Int
  left : Int
  armed : Bool
  down : Bool

def coreR (W : Nat) (h : Rh) (fv pv : Value) : Assn :=
  hdr W TR 7 * (Sl.cell W 0 (.int .i64 h.room) * (Sl.cell W 1 (.int .i64 h.changes) * (Sl.cell W 2 (.int .i64 h.left) * (Sl.cell W 3 (.bool h.armed) * (Sl.cell W 4 (.bool h.down) * (Sl.cell W 5 fv * Sl.cell W 6 pv))))))

section
variable (W : Nat) (h : Rh) (fv pv : Value)
instance : HasC (coreR W h fv pv) W 0 (.int .i64 h.room) := by unfold coreR; infer_instance
instance : HasC (coreR W h fv pv) W 1 (.int .i64 h.changes) := by unfold coreR; infer_instance
instance : HasC (coreR W h fv pv) W 2 (.int .i64 h.left) := by unfold coreR; infer_instance
instance : HasC (coreR W h fv pv) W 3 (.bool h.armed) := by unfold coreR; infer_instance
instance : HasC (coreR W h fv pv) W 4 (.bool h.down) := by unfold coreR; infer_instance
instance : HasC (coreR W h fv pv) W 5 fv := by unfold coreR; infer_instance
instance : HasC (coreR W h fv pv) W 6 pv := by unfold coreR; infer_instance
instance (n : Int) : Upd (coreR W h fv pv) W 1 (.int .i64 n) (coreR W { h with changes := n } fv pv) := by unfold coreR; infer_instance
instance (n : Int) : Upd (coreR W h fv pv) W 2 (.int .i64 n) (coreR W { h with left := n } fv pv) := by unfold coreR; infer_instance
instance (b : Bool) : Upd (coreR W h fv pv) W 3 (.bool b) (coreR W { h with armed := b } fv pv) := by unfold coreR; infer_instance
instance (b : Bool) : Upd (coreR W h fv pv) W 4 (.bool b) (coreR W { h with down := b } fv pv) := by unfold coreR; infer_instance
instance (v : Value) : Upd (coreR W h fv pv) W 5 v (coreR W h v pv) := by unfold coreR; infer_instance
instance (v : Value) : Upd (coreR W h fv pv) W 6 v (coreR W h fv v) := by unfold coreR; infer_instance
end

/-- a row as a choice of its spare cells -/
theorem rw_ex (e s n c g : Nat) (xs : List Value) (L : Nat) (hL : xs.length = L) : rw e s (.slice (some ⟨g, 0, none⟩) n c) xs = ex fun sp : {sp : List Value // L = n * s ∧ L + sp.length = c * s ∧ n ≤ c ∧ c ≤ maxLen} => block g e (xs ++ sp.1) := by
  subst hL
  funext h
  apply propext
  constructor
  · rintro (⟨h1, _⟩ | ⟨g', n', c', sp, h1, h2, h3, h4, h5, h6⟩)
    · cases h1
    · cases h1
      exact ⟨⟨sp, h2, by simpa using h3, h4, h5⟩, h6⟩
  · rintro ⟨⟨sp, h2, h3, h4, h5⟩, h6⟩
    exact .inr ⟨g, n, c, sp, rfl, h2, by simpa using h3, h4, h5, h6⟩
theorem rw_split {e s n c g k : Nat} {xs : List Value} {v : Value} (h : xs[k]? = some v) : ∃ R, rw e s (.slice (some ⟨g, 0, none⟩) n c) xs = Sl.cell g k v * R ∧ ∀ v', rw e s (.slice (some ⟨g, 0, none⟩) n c) (xs.set k v') = Sl.cell g k v' * R := by
  have hk := (List.getElem?_eq_some_iff.1 h).1
  have hc : ∀ sp : List Value, ∃ F, cells g 0 (xs ++ sp) = Sl.cell g k v * F ∧ ∀ v', cells g 0 (xs.set k v' ++ sp) = Sl.cell g k v' * F := by
    intro sp
    obtain ⟨F, h1, h2⟩ := cells_at_split g (xs ++ sp) 0 k v (by rw [List.getElem?_append_left hk]; exact h)
    rw [Nat.zero_add] at h1
    refine ⟨F, h1, fun v' => ?_⟩
    have h3 := h2 v'
    rw [List.set_append_left _ _ hk, Nat.zero_add] at h3
    exact h3
  let F : List Value → Assn := fun sp => Classical.choose (hc sp)
  have hF : ∀ sp, cells g 0 (xs ++ sp) = Sl.cell g k v * F sp ∧ ∀ v', cells g 0 (xs.set k v' ++ sp) = Sl.cell g k v' * F sp := fun sp => Classical.choose_spec (hc sp)
  refine ⟨ex fun sp : {sp : List Value // xs.length = n * s ∧ xs.length + sp.length = c * s ∧ n ≤ c ∧ c ≤ maxLen} => hdr g e (xs.length + sp.1.length) * F sp.1, ?_, fun v' => ?_⟩
  · rw [rw_ex _ _ _ _ _ _ xs.length rfl, sep_comm, ex_sep]
    congr 1
    funext sp
    unfold block
    rw [(hF sp.1).1, List.length_append]
    ac_rfl
  · rw [rw_ex _ _ _ _ _ _ xs.length List.length_set, sep_comm, ex_sep]
    congr 1
    funext sp
    unfold block
    rw [(hF sp.1).2 v', List.length_append, List.length_set]
    ac_rfl
instance rws_has (e s n c g k : Nat) (xs : List Value) (v : Value) [h : At xs k v] : HasC (rw e s (.slice (some ⟨g, 0, none⟩) n c) xs) g k v :=
  let ⟨R, h1, _⟩ := rw_split (e := e) (s := s) (n := n) (c := c) (g := g) h.out; ⟨R, h1⟩
instance rws_upd (e s n c g k : Nat) (xs : List Value) (v v' : Value) [h : At xs k v] : Upd (rw e s (.slice (some ⟨g, 0, none⟩) n c) xs) g k v' (rw e s (.slice (some ⟨g, 0, none⟩) n c) (xs.set k v')) :=
  let ⟨R, h1, h2⟩ := rw_split (e := e) (s := s) (n := n) (c := c) (g := g) h.out; ⟨v, R, h1, h2 v'⟩

theorem rows_at4 {α : Type} {f : α → List Value} (hf : ∀ x, (f x).length = 4) {l : List α} {i : Nat} {x : α} (h : l[i]? = some x) (j : Nat) (hj : j < 4) : (l.flatMap f)[i * 4 + j]? = (f x)[j]? := by
  induction l generalizing i with
  | nil => simp at h
  | cons y l ih =>
    rw [List.flatMap_cons]
    cases i with
    | zero =>
      simp at h; subst h
      rw [List.getElem?_append_left (by rw [hf]; omega)]
      simp
    | succ i =>
      simp at h
      have := ih h
      rw [List.getElem?_append_right (by rw [hf]; omega), hf, show (i + 1) * 4 + j - 4 = i * 4 + j by omega]
      exact this
theorem rows_len4 {α : Type} {f : α → List Value} (hf : ∀ x, (f x).length = 4) (l : List α) : (l.flatMap f).length = l.length * 4 := by
  induction l with
  | nil => rfl
  | cons y l ih => rw [List.flatMap_cons, List.length_append, hf, ih, List.length_cons]; omega
theorem frows_len (l : List Rf) : (frows l).length = l.length * 4 := rows_len4 (fun _ => rfl) l
theorem qrows_len (l : List Rp) : (qrows l).length = l.length * 4 := rows_len4 (fun _ => rfl) l
theorem frows_at {l : List Rf} {i : Nat} {x : Rf} (h : l[i]? = some x) : At (frows l) (i * 4) (.string x.nm) ∧ At (frows l) (i * 4 + 1) (.slice x.na x.f.now.length x.nc) ∧ At (frows l) (i * 4 + 2) (.slice x.sa x.f.safe.length x.sc) ∧ At (frows l) (i * 4 + 3) (.bool x.f.sure) :=
  ⟨⟨rows_at4 (f := frow) (fun _ => rfl) h 0 (by omega)⟩, ⟨rows_at4 (f := frow) (fun _ => rfl) h 1 (by omega)⟩, ⟨rows_at4 (f := frow) (fun _ => rfl) h 2 (by omega)⟩, ⟨rows_at4 (f := frow) (fun _ => rfl) h 3 (by omega)⟩⟩
theorem qrows_at {l : List Rp} {i : Nat} {x : Rp} (h : l[i]? = some x) : At (qrows l) (i * 4) (.string x.p.nm) ∧ At (qrows l) (i * 4 + 1) (.int .i64 x.p.pos) ∧ At (qrows l) (i * 4 + 2) (.slice x.a x.l.length x.c) ∧ At (qrows l) (i * 4 + 3) (.bool x.p.b.isNone) :=
  ⟨⟨rows_at4 (f := qrow) (fun _ => rfl) h 0 (by omega)⟩, ⟨rows_at4 (f := qrow) (fun _ => rfl) h 1 (by omega)⟩, ⟨rows_at4 (f := qrow) (fun _ => rfl) h 2 (by omega)⟩, ⟨rows_at4 (f := qrow) (fun _ => rfl) h 3 (by omega)⟩⟩
theorem frows_append (l1 l2 : List Rf) : frows (l1 ++ l2) = frows l1 ++ frows l2 := by simp [frows]
theorem qrows_append (l1 l2 : List Rp) : qrows (l1 ++ l2) = qrows l1 ++ qrows l2 := by simp [qrows]
theorem rfsA_append (l1 l2 : List Rf) : rfsA (l1 ++ l2) = rfsA l1 * rfsA l2 := by
  induction l1 with
  | nil => simp [rfsA, one_sep]
  | cons n l ih => simp [rfsA, ih, sep_assoc]
theorem rpsA_append (l1 l2 : List Rp) : rpsA (l1 ++ l2) = rpsA l1 * rpsA l2 := by
  induction l1 with
  | nil => simp [rpsA, one_sep]
  | cons n l ih => simp [rpsA, ih, sep_assoc]

/-- a row that is not empty has a block -/
theorem row_some {e s : Nat} {a : Option Addr} {n c : Nat} {xs : List Value} {F : Assn} {w : World} (hs : Sat (rw e s (.slice a n c) xs * F) w) (hn : 0 < n) : ∃ g, a = some ⟨g, 0, none⟩ := by
  rcases hs.rw_open with ⟨h1, _⟩ | ⟨g', n', cap, sp, h1, _⟩
  · cases h1; omega
  · cases h1; exact ⟨_, rfl⟩
theorem rw_max {e s : Nat} {a : Option Addr} {n c : Nat} {xs : List Value} {F : Assn} {w : World} (hs : Sat (rw e s (.slice a n c) xs * F) w) : xs.length = n * s ∧ n ≤ c ∧ c ≤ 9223372036854775807 := by
  rcases hs.rw_open with ⟨h1, h2, _⟩ | ⟨g', n', cap, sp, h1, h2, h3, h4, h5, _⟩
  · cases h1; subst h2; simp
  · cases h1; exact ⟨h2, h4, by simpa [maxLen] using h5⟩

set_option maxHeartbeats 400000 in
theorem copy_ref (v : Value) (l : List UInt8) (B F : Assn) (w : World) (hB : Reads B v l) (hs : Sat (B * F) w) (hl : l.length ≤ 35184372088832) :
    Calls Try.prog 97 #[v] w fun e w' => ∃ a c, e = .returned (.slice a l.length c) ∧ Sat (rw TB 1 (.slice a l.length c) (bys l) * (B * F)) w' := by
  obtain ⟨i0, E⟩ := elemB
  obtain ⟨va, vc, rfl, _, _⟩ := (hB F w hs).len
  go_enter Try.func97, Try.ntmps97
  go_wp2
  go_loopg [3, 4] l.length (fun k t i wr => ∃ (j : Nat) (a : Option Addr) (c : Nat), i = .int .i64 j ∧ t = .slice a j c ∧ j ≤ l.length ∧ Aside (k = l.length - j) ∧ Sat (rw TB 1 (.slice a j c) (bys (l.take j)) * (B * F)) wr)
  case atStart => exact ⟨0, none, 0, rfl, rfl, by omega, rfl, by simpa [bys] using hs.rw_nil⟩
  case round =>
    obtain ⟨j, a, c, rfl, rfl, hj, A, hsr⟩ := hrel
    clear hs
    by_cases hlt : j < l.length
    · have hlt' : (j : Int) < l.length := by omega
      obtain ⟨x, hx⟩ : ∃ x, l[j]? = some x := ⟨l[j], by simp [hlt]⟩
      obtain ⟨b, o, rfl, hc⟩ := (hB _ _ (hsr.take B)).at hx
      have HT : Aside (l.take (j + 1) = l.take j ++ [x]) := take_snoc' hx
      have hs4 := hsr.alloc #[.int .u8 x.toNat] TB
      have hs5 := hs4.take (rw TB 1 (.slice a j c) (bys (l.take j)))
      have hsrc := Src.one_new (P := Try.prog) hs4 rfl
      clear hs4 hx
      go_wp2_with (at_builtin; refine wpl_append_same E rfl (.tmp 11) (.tmp 16) rfl rfl rfl hs5 hsrc (by unfold maxLen; omega) (by omega) ?_; intro a' c' w' hs6 hnil; clear hnil hs5 hsrc)
      go_roundg (l.length - (j + 1))
      case measure => have := A.out; omega
      case rel =>
        refine ⟨j + 1, a', c', by go_num, rfl, by omega, rfl, ?_⟩
        rw [HT.out, bys_append]
        refine Sat.weak (B := block wr.heap.size TB [.int .u8 x.toNat]) (hs6.eq ?_)
        rw [show bys [x] = [Value.int .u8 x.toNat] from rfl]
        ac_rfl
    · have hlt' : ¬ (j : Int) < l.length := by omega
      have hje : j = l.length := by omega
      subst hje
      rw [List.take_of_length_le (Nat.le_refl _)] at hsr
      clear hlt hlt' hj
      go_wp2
      go_ret
      exact ⟨a, c, rfl, hsr⟩

/-- where a name stands among the files -/
def findI (nm : ByteArray) : List Rf → Int
  | [] => -1
  | x :: l => if x.nm = nm then 0 else if findI nm l < 0 then -1 else findI nm l + 1

theorem findI_ge (nm : ByteArray) (l : List Rf) : -1 ≤ findI nm l ∧ findI nm l < l.length := by
  induction l with
  | nil => simp [findI]
  | cons x l ih =>
    unfold findI
    split
    · simp
    · split
      · simp; omega
      · simp; omega
theorem findI_hit {nm : ByteArray} {l : List Rf} {j : Nat} {x : Rf} (h : l[j]? = some x) (hx : x.nm = nm) (hb : ∀ y ∈ l.take j, y.nm ≠ nm) : findI nm l = j := by
  induction l generalizing j with
  | nil => simp at h
  | cons y l ih =>
    cases j with
    | zero => simp at h; subst h; simp [findI, hx]
    | succ j =>
      have h1 := ih (j := j) (by simpa using h) fun z hz => hb z (by simp [hz])
      have h2 := hb y (by simp)
      unfold findI
      rw [if_neg h2, h1, if_neg (by omega)]
      omega
theorem findI_miss {nm : ByteArray} {l : List Rf} (hb : ∀ y ∈ l, y.nm ≠ nm) : findI nm l = -1 := by
  induction l with
  | nil => rfl
  | cons y l ih =>
    unfold findI
    rw [if_neg (hb y (by simp)), ih fun z hz => hb z (by simp [hz])]
    rfl

set_option maxHeartbeats 400000 in
theorem find_ref (W : Nat) (h : Rh) (fa : Option Addr) (fc : Nat) (pv : Value) (fs : List Rf) (nm : ByteArray) (F : Assn) (w : World) (hs : Sat (coreR W h (.slice fa fs.length fc) pv * (rw TRF 4 (.slice fa fs.length fc) (frows fs) * F)) w) :
    Calls Try.prog 98 #[.pointer (some ⟨W, 0, none⟩), .string nm] w fun e w' => e = .returned (.int .i64 (findI nm fs)) ∧ w = w' := by
  have hmx := rw_max (hs.take (rw TRF 4 (.slice fa fs.length fc) (frows fs)))
  obtain ⟨_, hm1, hm2⟩ := hmx
  have HN : Aside (fs.length ≤ 9223372036854775807) := (by omega : _ ≤ _)
  haveI := hs.i
  go_enter Try.func98, Try.ntmps98
  go_wp2
  go_loopg [5] fs.length (fun k i wr => ∃ j : Nat, i = .int .i64 j ∧ j ≤ fs.length ∧ Aside (k = fs.length - j ∧ ∀ y ∈ fs.take j, y.nm ≠ nm) ∧ w = wr)
  case atStart => exact ⟨0, rfl, by omega, ⟨rfl, by simp⟩, rfl⟩
  case round =>
    obtain ⟨j, rfl, hj, A, rfl⟩ := hrel
    by_cases hlt : j < fs.length
    · have hlt' : (j : Int) < fs.length := by omega
      obtain ⟨x, hx⟩ : ∃ x, fs[j]? = some x := ⟨fs[j], by simp [hlt]⟩
      obtain ⟨g, rfl⟩ := row_some (hs.take (rw TRF 4 (.slice fa fs.length fc) (frows fs))) (by omega)
      obtain ⟨i0, _, _, _⟩ := frows_at hx
      haveI := hs.i
      have HX : Aside (fs[j]? = some x) := hx
      have hlen := HN.out
      clear hx
      by_cases he : x.nm = nm
      · have hd0 := str_eq he
        have HE : Aside (x.nm = nm) := he
        clear he
        go_wp2
        go_ret
        exact ⟨by rw [findI_hit HX.out HE.out A.out.2]; rfl, rfl⟩
      · have hd0 := str_ne he
        have HE : Aside (¬ x.nm = nm) := he
        clear he
        go_wp2
        go_roundg (fs.length - (j + 1))
        case measure => have := A.out.1; omega
        case rel =>
          refine ⟨j + 1, by go_num, by omega, ⟨rfl, ?_⟩, rfl⟩
          rw [take_snoc' HX.out]
          intro y hy
          rcases List.mem_append.1 hy with h1 | h1
          · exact A.out.2 y h1
          · obtain rfl : y = x := by simpa using h1
            exact HE.out
    · have hlt' : ¬ (j : Int) < fs.length := by omega
      go_wp2
      go_ret
      refine ⟨?_, rfl⟩
      have h1 := A.out.2
      rw [List.take_of_length_le (by omega)] at h1
      rw [findI_miss h1]; rfl

def lensR (l : List Rf) : Nat := (l.map fun x => x.f.now.length).sum
theorem lensR_take {l : List Rf} {i : Nat} {x : Rf} (h : l[i]? = some x) : lensR (l.take (i + 1)) = lensR (l.take i) + x.f.now.length := by
  rw [take_snoc' h]; simp [lensR]
theorem lensR_le (l : List Rf) (i : Nat) : lensR (l.take i) ≤ lensR l := by
  have h := congrArg lensR (List.take_append_drop i l)
  have h2 : lensR (l.take i ++ l.drop i) = lensR (l.take i) + lensR (l.drop i) := by unfold lensR; rw [List.map_append, List.sum_append]
  omega

set_option maxHeartbeats 400000 in
theorem sum_ref (W : Nat) (h : Rh) (fa : Option Addr) (fc : Nat) (pv : Value) (fs : List Rf) (F : Assn) (w : World) (hs : Sat (coreR W h (.slice fa fs.length fc) pv * (rw TRF 4 (.slice fa fs.length fc) (frows fs) * F)) w) (hb : lensR fs ≤ 4611686018427387904) :
    Calls Try.prog 107 #[.pointer (some ⟨W, 0, none⟩)] w fun e w' => e = .returned (.int .i64 (lensR fs : Nat)) ∧ w = w' := by
  obtain ⟨_, hm1, hm2⟩ := rw_max (hs.take (rw TRF 4 (.slice fa fs.length fc) (frows fs)))
  have HN : Aside (fs.length ≤ 9223372036854775807) := (by omega : _ ≤ _)
  haveI := hs.i
  go_enter Try.func107, Try.ntmps107
  go_wp2
  go_loopg [3, 4] fs.length (fun k n i wr => ∃ j q : Nat, i = .int .i64 j ∧ n = .int .i64 q ∧ j ≤ fs.length ∧ q ≤ lensR fs ∧ Aside (k = fs.length - j ∧ q = lensR (fs.take j)) ∧ w = wr)
  case atStart => exact ⟨0, 0, rfl, rfl, by omega, by omega, ⟨rfl, by simp [lensR]⟩, rfl⟩
  case round =>
    obtain ⟨j, q, rfl, rfl, hj, hq, A, rfl⟩ := hrel
    by_cases hlt : j < fs.length
    · have hlt' : (j : Int) < fs.length := by omega
      obtain ⟨x, hx⟩ : ∃ x, fs[j]? = some x := ⟨fs[j], by simp [hlt]⟩
      obtain ⟨g, rfl⟩ := row_some (hs.take (rw TRF 4 (.slice fa fs.length fc) (frows fs))) (by omega)
      obtain ⟨_, i1, _, _⟩ := frows_at hx
      haveI := hs.i
      have hq1 : q + x.f.now.length ≤ lensR fs := by
        have h1 := lensR_take hx
        have h2 := lensR_le fs (j + 1)
        have h3 := A.out.2
        omega
      have HX : Aside (fs[j]? = some x) := hx
      have hlen := HN.out
      clear hx
      go_wp2
      go_roundg (fs.length - (j + 1))
      case measure => have := A.out.1; omega
      case rel =>
        exact ⟨j + 1, q + x.f.now.length, by go_num, by go_num, by omega, hq1, ⟨rfl, by rw [lensR_take HX.out, A.out.2]⟩, rfl⟩
    · have hlt' : ¬ (j : Int) < fs.length := by omega
      have HQ : Aside (q = lensR fs) := by
        have h1 := A.out.2
        rw [List.take_of_length_le (by omega)] at h1
        exact h1
      go_wp2
      go_ret
      exact ⟨by rw [← HQ.out]; rfl, rfl⟩

end Go.Proofs.Ytjhkmmpgjiciiaa
