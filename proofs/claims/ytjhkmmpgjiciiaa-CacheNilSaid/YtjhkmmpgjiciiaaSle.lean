/-
  Existence and plain facts inside assertions; bytes in memory; what an assertion lets one read; cutting a slice; copy into an owned row.
-/
import Derived.Test.YtjhkmmpgjiciiaaSls
import Derived.Test.YtjhkmmpgjiciiaaSlo
namespace Go.Sl
set_option linter.unusedSimpArgs false
set_option linter.unusedVariables false
open Go.RowKit

def ex {α : Type} (A : α → Assn) : Assn := fun h => ∃ x, A x h
def pur (p : Prop) : Assn := fun h => p ∧ emp h

theorem Sat.ex_open {α : Type} {A : α → Assn} {F : Assn} {w : World} (hs : Sat (ex A * F) w) : ∃ x, Sat (A x * F) w := by
  obtain ⟨_, ⟨g, k, d, rfl, ⟨x, hx⟩, hF⟩, H⟩ := hs
  exact ⟨x, _, ⟨g, k, d, rfl, hx, hF⟩, H⟩
theorem Sat.ex_shut {α : Type} {A : α → Assn} (x : α) {F : Assn} {w : World} (hs : Sat (A x * F) w) : Sat (ex A * F) w := by
  obtain ⟨_, ⟨g, k, d, rfl, hx, hF⟩, H⟩ := hs
  exact ⟨_, ⟨g, k, d, rfl, ⟨x, hx⟩, hF⟩, H⟩
theorem Sat.pur_open {p : Prop} {F : Assn} {w : World} (hs : Sat (pur p * F) w) : p ∧ Sat F w := by
  obtain ⟨_, ⟨g, k, d, rfl, ⟨hp, he⟩, hF⟩, H⟩ := hs
  refine ⟨hp, ?_⟩
  have e : g = fun _ => none := he
  subst e
  exact ⟨_, hF, H⟩
theorem Sat.pur_shut {p : Prop} (hp : p) {F : Assn} {w : World} (hs : Sat F w) : Sat (pur p * F) w := by
  obtain ⟨h, hF, H⟩ := hs
  exact ⟨h, ⟨fun _ => none, h, fun _ _ x => absurd rfl x, rfl, ⟨hp, rfl⟩, hF⟩, H⟩
theorem ex_sep {α : Type} (A : α → Assn) (F : Assn) : ex A * F = ex fun x => A x * F := by
  funext h
  apply propext
  constructor
  · rintro ⟨g, k, d, rfl, ⟨x, hx⟩, hF⟩; exact ⟨x, g, k, d, rfl, hx, hF⟩
  · rintro ⟨x, g, k, d, rfl, hx, hF⟩; exact ⟨g, k, d, rfl, ⟨x, hx⟩, hF⟩
theorem Sat.ex0_open {α : Type} {A : α → Assn} {w : World} (hs : Sat (ex A) w) : ∃ x, Sat (A x) w := by
  obtain ⟨h, ⟨x, hx⟩, H⟩ := hs
  exact ⟨x, h, hx, H⟩

/-! Bytes. -/
def bv (x : UInt8) : Value := .int .u8 x.toNat
def bys (l : List UInt8) : List Value := l.map bv

theorem bys_len (l : List UInt8) : (bys l).length = l.length := by simp [bys]
theorem bys_append (a b : List UInt8) : bys (a ++ b) = bys a ++ bys b := by simp [bys]
theorem bys_one (l : List UInt8) : ∀ u ∈ bys l, u.oneCell' = true := by
  intro u hu
  obtain ⟨x, _, rfl⟩ := List.mem_map.1 hu
  rfl
theorem bys_at {l : List UInt8} {i : Nat} {x : UInt8} (h : l[i]? = some x) : (bys l)[i]? = some (bv x) := by simp [bys, h]
theorem bys_take (l : List UInt8) (n : Nat) : bys (l.take n) = (bys l).take n := by simp [bys, List.map_take]
theorem bys_drop (l : List UInt8) (n : Nat) : bys (l.drop n) = (bys l).drop n := by simp [bys, List.map_drop]
theorem bv_set (l : List UInt8) (i : Nat) (x : UInt8) : bys (l.set i x) = (bys l).set i (bv x) := by simp [bys, List.map_set]

/-- the bytes of a slice, as they lie in memory -/
def Byt (w : World) (v : Value) (l : List UInt8) : Prop :=
  ∃ a c, v = .slice a l.length c ∧ l.length ≤ c ∧ c ≤ maxLen ∧ ∀ i x, l[i]? = some x → ∃ b o, a = some ⟨b, o, none⟩ ∧ w.cell? ⟨b, o + i, none⟩ = some (bv x)

theorem Byt.len {w : World} {v : Value} {l : List UInt8} (h : Byt w v l) : ∃ a c, v = .slice a l.length c ∧ l.length ≤ c ∧ c ≤ maxLen := by
  obtain ⟨a, c, h, h1, h2, _⟩ := h
  exact ⟨a, c, h, h1, h2⟩
theorem Byt.n {w : World} {a : Option Addr} {n c : Nat} {l : List UInt8} (h : Byt w (.slice a n c) l) : n = l.length ∧ n ≤ c ∧ c ≤ maxLen := by
  obtain ⟨a', c', h, h1, h2, _⟩ := h
  cases h
  exact ⟨rfl, h1, h2⟩
theorem Byt.at {w : World} {a : Option Addr} {n c q : Nat} {l : List UInt8} {x : UInt8} (h : Byt w (.slice a n c) l) (hq : l[q]? = some x) : ∃ b o, a = some ⟨b, o, none⟩ ∧ w.cell? ⟨b, o + q, none⟩ = some (.int .u8 x.toNat) := by
  obtain ⟨a', c', h1, _, _, h2⟩ := h
  cases h1
  exact h2 q x hq

/-- an assertion that lets one read bytes -/
def Reads (B : Assn) (v : Value) (l : List UInt8) : Prop := ∀ (F : Assn) (w : World), Sat (B * F) w → Byt w v l

theorem Reads.old {w0 : World} {v : Value} {l : List UInt8} (h : Byt w0 v l) : Reads (old w0) v l := by
  intro F w hs
  obtain ⟨a, c, h1, h2, h3, h4⟩ := h
  refine ⟨a, c, h1, h2, h3, fun i x hx => ?_⟩
  obtain ⟨b, o, h5, h6⟩ := h4 i x hx
  exact ⟨b, o, h5, hs.old_cell h6⟩
theorem Reads.rw {e : Nat} {v : Value} {l : List UInt8} : Reads (rw e 1 v (bys l)) v l := by
  intro F w hs
  rcases hs.rw_open with ⟨h1, h2, h3⟩ | ⟨g, n, cap, sp, h1, h2, h3, h4, h5, h6⟩
  · have : l = [] := by simpa [bys] using h2
    subst this h1
    exact ⟨none, 0, rfl, by simp, by simp, by simp⟩
  · rw [bys_len, Nat.mul_one] at h2
    subst h2 h1
    refine ⟨_, cap, rfl, h4, h5, fun i x hx => ⟨g, 0, rfl, ?_⟩⟩
    have h7 : Sat (Sl.cells g 0 (bys l ++ sp) * (hdr g e (bys l ++ sp).length * F)) w := h6.eq (by unfold block; ac_rfl)
    refine h7.cells_at i (bv x) ?_
    rw [List.getElem?_append_left (by rw [bys_len]; exact (List.getElem?_eq_some_iff.1 hx).1)]
    exact bys_at hx
theorem Reads.block {b e c : Nat} {l : List UInt8} {sp : List Value} (hc : l.length ≤ c) (hm : c ≤ maxLen) : Reads (block b e (bys l ++ sp)) (.slice (some ⟨b, 0, none⟩) l.length c) l := by
  intro F w hs
  refine ⟨_, c, rfl, hc, hm, fun i x hx => ⟨b, 0, rfl, ?_⟩⟩
  have h7 : Sat (Sl.cells b 0 (bys l ++ sp) * (hdr b e (bys l ++ sp).length * F)) w := hs.eq (by unfold Sl.block; ac_rfl)
  refine h7.cells_at i (bv x) ?_
  rw [List.getElem?_append_left (by rw [bys_len]; exact (List.getElem?_eq_some_iff.1 hx).1)]
  exact bys_at hx
theorem Reads.nil (B : Assn) : Reads B (.slice none 0 0) [] := fun _ _ _ => ⟨none, 0, rfl, by simp, by simp, by simp⟩
theorem Reads.left {A B : Assn} {v : Value} {l : List UInt8} (h : Reads A v l) : Reads (A * B) v l := fun F w hs => h (B * F) w (hs.eq (sep_assoc _ _ _))
theorem Reads.right {A B : Assn} {v : Value} {l : List UInt8} (h : Reads B v l) : Reads (A * B) v l := fun F w hs => h (A * F) w (hs.eq (by ac_rfl))

/-- cutting a slice: one run equation, one name for what comes out -/
def cutA (a : Option Addr) (c lo s : Nat) : Option Addr := if c = lo then a else a.map (·.add (lo * s))

theorem run_cut {P : Program} {t e s bytes : Nat} {i : TypeInfo} {z : Value} (E : ElemOk P t e s bytes i z) {a : Option Addr} {n c : Nat} (lo hi : Nat) (h1 : lo ≤ hi) (h2 : hi ≤ c) (w : World) :
    (Instr.slice t (.slice a n c) (some (.int .i64 lo)) (some (.int .i64 hi)) none).run P w = .ok (.slice (cutA a c lo s) (hi - lo) (c - lo)) w := by
  have hsz : (sizeOf e).run P w = .ok s w := by simp [sizeOf, typeInfo, E.info, E.size]
  unfold Instr.slice Instr.sliceBounds
  simp [underlying, E.und, Instr.sliceBound, asIntOf, h1, h2, hsz, cutA]
theorem run_cut_to {P : Program} {t e s bytes : Nat} {i : TypeInfo} {z : Value} (E : ElemOk P t e s bytes i z) {a : Option Addr} {n c : Nat} (hi : Nat) (h2 : hi ≤ c) (w : World) :
    (Instr.slice t (.slice a n c) none (some (.int .i64 hi)) none).run P w = .ok (.slice (cutA a c 0 s) hi c) w := by
  have hsz : (sizeOf e).run P w = .ok s w := by simp [sizeOf, typeInfo, E.info, E.size]
  unfold Instr.slice Instr.sliceBounds
  simp [underlying, E.und, Instr.sliceBound, asIntOf, h2, hsz, cutA]
theorem run_cut_from {P : Program} {t e s bytes : Nat} {i : TypeInfo} {z : Value} (E : ElemOk P t e s bytes i z) {a : Option Addr} {n c : Nat} (lo : Nat) (h1 : lo ≤ n) (w : World) :
    (Instr.slice t (.slice a n c) (some (.int .i64 lo)) none none).run P w = .ok (.slice (cutA a c lo s) (n - lo) (c - lo)) w := by
  have hsz : (sizeOf e).run P w = .ok s w := by simp [sizeOf, typeInfo, E.info, E.size]
  unfold Instr.slice Instr.sliceBounds
  simp [underlying, E.und, Instr.sliceBound, asIntOf, h1, hsz, cutA]

theorem cutA_zero {g c : Nat} {s : Nat} {o : Nat} : cutA (some ⟨g, o, none⟩) c 0 s = some ⟨g, o, none⟩ := by
  unfold cutA
  split
  · rfl
  · simp [Addr.add]
theorem cutA_none {c lo s : Nat} : cutA none c lo s = none := by
  unfold cutA
  split <;> rfl

theorem Byt.cut {w : World} {a : Option Addr} {n c : Nat} {l : List UInt8} (h : Byt w (.slice a n c) l) (lo hi : Nat) (h1 : lo ≤ hi) (h2 : hi ≤ n) : Byt w (.slice (cutA a c lo 1) (hi - lo) (c - lo)) ((l.drop lo).take (hi - lo)) := by
  obtain ⟨rfl, hc, hm⟩ := h.n
  have hl : ((l.drop lo).take (hi - lo)).length = hi - lo := by simp; omega
  refine ⟨cutA a c lo 1, c - lo, by rw [hl], by rw [hl]; omega, by omega, fun i x hx => ?_⟩
  have hi' : i < hi - lo := by
    have := (List.getElem?_eq_some_iff.1 hx).1
    omega
  have hx' : l[lo + i]? = some x := by
    rw [List.getElem?_take_of_lt hi', List.getElem?_drop] at hx
    exact hx
  obtain ⟨b, o, rfl, h4⟩ := h.at hx'
  have hne : c ≠ lo := by omega
  refine ⟨b, o + lo, ?_, ?_⟩
  · simp [cutA, hne, Addr.add]
  · rw [Nat.add_assoc]; exact h4

theorem Byt.src {P : Program} {w : World} {v : Value} {l : List UInt8} (h : Byt w v l) : Src P 1 w v l.length (bys l) := by
  obtain ⟨a, c, rfl, h1, h2, h3⟩ := h
  cases hl : l with
  | nil =>
    cases a with
    | none => exact ⟨fun _ => rfl, fun _ => rfl, by simp [bys], by simp [bys]⟩
    | some x =>
      obtain ⟨b, o, sp⟩ := x
      refine ⟨fun _ => rfl, fun n => ?_, by simp [bys], by simp [bys]⟩
      show (loadCells ⟨b, o, sp⟩ (0 * 1)).run P (w.drewN n) = _
      rfl
  | cons y l' =>
    rw [← hl]
    obtain ⟨b, o, rfl, _⟩ := h3 0 y (by simp [hl])
    refine Src.slice (by simp [bys_len]) (fun j u hj => ?_) (bys_one l)
    unfold bys at hj
    rw [List.getElem?_map] at hj
    obtain ⟨x, hx, rfl⟩ := Option.map_eq_some_iff.1 hj
    obtain ⟨b', o', h4, h5⟩ := h3 j x hx
    cases h4
    exact h5

/-- copy of bytes into an owned row from a place on -/
theorem run_copy_sl {P : Program} {t e bytes : Nat} {i : TypeInfo} {z : Value} (E : ElemOk P t e 1 bytes i z) (tx ty : TypeId)
    {g n cap lo : Nat} {xs : List Value} {x : Value} {l : List UInt8} {F : Assn} {w : World} (hs : Sat (rw e 1 (.slice (some ⟨g, 0, none⟩) n cap) xs * F) w) (hx : Byt w x l) (hlo : lo + l.length ≤ n) :
    ∃ w', (Builtin.copy_ #[t, tx] ty #[.slice (cutA (some ⟨g, 0, none⟩) cap lo 1) (n - lo) (cap - lo), x]).run P w = .ok (.int .i64 l.length) w' ∧ Sat (rw e 1 (.slice (some ⟨g, 0, none⟩) n cap) (xs.take lo ++ bys l ++ xs.drop (lo + l.length)) * F) w' := by
  have hS := hx.src (P := P)
  have hxl : (Builtin.lenOf x).run P w = .ok l.length w := by simpa [World.drewN] using hS.len 0
  have hxc : (Builtin.firstCells 1 l.length x).run P w = .ok (bys l).toArray w := by simpa [World.drewN] using hS.cells 0
  have hsz : (sizeOf e).run P w = .ok 1 w := by simp [sizeOf, typeInfo, E.info, E.size]
  rcases hs.rw_open with ⟨h1, _⟩ | ⟨g', n', cap', sp, h1, h2, h3, h4, h5, h6⟩
  · cases h1
  cases h1
  rw [Nat.mul_one] at h2 h3
  have hmin : Nat.min l.length (n - lo) = l.length := Nat.min_eq_left (by omega)
  by_cases hl : l = []
  · subst hl
    refine ⟨w, ?_, ?_⟩
    · unfold Builtin.copy_
      have hxc' : (Builtin.firstCells 1 0 x).run P w = .ok #[] w := by simpa [bys] using hxc
      have hxl' : (Builtin.lenOf x).run P w = .ok 0 w := by simpa using hxl
      cases hc : cutA (some ⟨g, 0, none⟩) cap lo 1 with
      | none => simp [underlying, E.und, hsz, hxl', hxc', goInt]
      | some q => simp [underlying, E.und, hsz, hxl', hxc', goInt, storeCells]
    · simpa [bys] using hs
  · have hlp : 0 < l.length := by cases l with | nil => exact absurd rfl hl | cons _ _ => simp
    have hne : cap ≠ lo := by omega
    have hcut : cutA (some ⟨g, 0, none⟩) cap lo 1 = some ⟨g, lo, none⟩ := by simp [cutA, hne, Addr.add]; omega
    have hsplit : xs = xs.take lo ++ ((xs.drop lo).take l.length ++ xs.drop (lo + l.length)) := by
      rw [← List.drop_drop, List.take_append_drop, List.take_append_drop]
    have hs1 : Sat (Sl.cells g (lo + 0) ((xs.drop lo).take l.length) * (hdr g e (xs ++ sp).length * (Sl.cells g 0 (xs.take lo) * (Sl.cells g (lo + l.length) (xs.drop (lo + l.length)) * (Sl.cells g n sp * F))))) w := by
      refine h6.eq ?_
      rw [block_split]
      conv => lhs; rw [hsplit]
      rw [cells_append, cells_append]
      have e1 : (xs.take lo).length = lo := by simp; omega
      have e2 : ((xs.drop lo).take l.length).length = l.length := by simp; omega
      rw [← hsplit, e1, e2, h2]
      simp only [Nat.zero_add, Nat.add_zero]
      ac_rfl
    obtain ⟨w', r1, r2⟩ := run_storeCells_sl (P := P) (bys l) ((xs.drop lo).take l.length) 0 _ w hs1 (by rw [bys_len]; simp; omega) (bys_one l)
    refine ⟨w', ?_, ?_⟩
    · rw [hcut]
      unfold Builtin.copy_
      simp [underlying, E.und, hsz, hxl, hmin, hxc, r1, goInt]
    · refine Sat.rw_shut (sp := sp) ?_ ?_ h4 h5 (r2.eq ?_)
      · simp only [List.length_append, List.length_take, List.length_drop, bys_len]; omega
      · simp only [List.length_append, List.length_take, List.length_drop, bys_len] at h3 ⊢; omega
      · rw [block_split]
        have e1 : (xs.take lo ++ bys l ++ xs.drop (lo + l.length) ++ sp).length = (xs ++ sp).length := by simp only [List.length_append, List.length_take, List.length_drop, bys_len]; omega
        rw [e1, cells_append, cells_append]
        have e2 : (xs.take lo).length = lo := by simp; omega
        have e3 : (xs.take lo ++ bys l).length = lo + l.length := by rw [List.length_append, e2, bys_len]
        have e4 : (xs.take lo ++ bys l ++ xs.drop (lo + l.length)).length = n := by simp only [List.length_append, List.length_take, List.length_drop, bys_len]; omega
        rw [e2, e3, e4]
        simp only [Nat.zero_add, Nat.add_zero]
        ac_rfl

/-- an owned row that is made shorter -/
theorem Sat.rw_cut {e s : Nat} {a : Option Addr} {n c : Nat} {xs : List Value} {F : Assn} {w : World} (hs : Sat (rw e s (.slice a n c) xs * F) w) (k : Nat) (hk : k ≤ n) : Sat (rw e s (.slice (cutA a c 0 s) k c) (xs.take (k * s)) * F) w := by
  rcases hs.rw_open with ⟨h1, h2, h3⟩ | ⟨g, n', cap', sp, h1, h2, h3, h4, h5, h6⟩
  · cases h1
    subst h2
    obtain rfl : k = 0 := by omega
    rw [cutA_none]
    simpa using hs
  · cases h1
    rw [cutA_zero]
    have hks := Nat.mul_le_mul_right s hk
    refine Sat.rw_shut (sp := xs.drop (k * s) ++ sp) (by simp; omega) (by simp only [List.length_append, List.length_take, List.length_drop] at h3 ⊢; omega) (by omega) h5 ?_
    rw [← List.append_assoc, List.take_append_drop]
    exact h6

theorem run_copy_any {P : Program} {t e bytes : Nat} {i : TypeInfo} {z : Value} (E : ElemOk P t e 1 bytes i z) (tx ty : TypeId)
    {a : Option Addr} {n cap lo : Nat} {xs : List Value} {x : Value} {l : List UInt8} {F : Assn} {w : World} (hs : Sat (rw e 1 (.slice a n cap) xs * F) w) (hx : Byt w x l) (hlo : lo + l.length ≤ n) :
    ∃ w', (Builtin.copy_ #[t, tx] ty #[.slice (cutA a cap lo 1) (n - lo) (cap - lo), x]).run P w = .ok (.int .i64 l.length) w' ∧ Sat (rw e 1 (.slice a n cap) (xs.take lo ++ bys l ++ xs.drop (lo + l.length)) * F) w' := by
  rcases hs.rw_open with ⟨h1, h2, h3⟩ | ⟨g', n', cap', sp, h1, _⟩
  · cases h1
    have hl : l = [] := by cases l with | nil => rfl | cons _ _ => simp at hlo
    subst hl h2
    have hS := hx.src (P := P)
    have hxl : (Builtin.lenOf x).run P w = .ok 0 w := by simpa [World.drewN] using hS.len 0
    have hxc : (Builtin.firstCells 1 0 x).run P w = .ok #[] w := by simpa [World.drewN, bys] using hS.cells 0
    have hsz : (sizeOf e).run P w = .ok 1 w := by simp [sizeOf, typeInfo, E.info, E.size]
    refine ⟨w, ?_, by simpa [bys] using hs⟩
    rw [cutA_none]
    unfold Builtin.copy_
    simp [underlying, E.und, hsz, hxl, hxc, goInt]
  · cases h1
    exact run_copy_sl E tx ty hs hx hlo

theorem wpl_copy {P : Program} {t e bytes : Nat} {i : TypeInfo} {z : Value} (E : ElemOk P t e 1 bytes i z)
    {ops : Array Oper} {Q : Exit → Act → World → Prop} {rest : List Oper} {o : Oper} {a : Act} (hgd : o.guard = none) (sop xop : Operand)
    (ho : o.op = .call { callee := .builtin .copy, args := #[sop, xop], argTypes := #[t, t] })
    {b : Option Addr} {n cap lo : Nat} {xs : List Value} {x : Value} {l : List UInt8} {F : Assn} {w : World} (hsv : a.eval sop = .slice (cutA b cap lo 1) (n - lo) (cap - lo)) (hxv : a.eval xop = x)
    (hs : Sat (rw e 1 (.slice b n cap) xs * F) w) (hx : Byt w x l) (hlo : lo + l.length ≤ n)
    (h : ∀ w', Sat (rw e 1 (.slice b n cap) (xs.take lo ++ bys l ++ xs.drop (lo + l.length)) * F) w' → wpList P ops Q rest (a.put o.dst (.int .i64 l.length)) w') :
    wpList P ops Q (o :: rest) a w := by
  refine wpList_plain hgd fun K hK => ?_
  obtain ⟨w', r1, r2⟩ := run_copy_any E t o.type hs hx hlo
  unfold Oper.wp
  simp [execOp, ho, resolve, invoke, builtin, hsv, hxv, r1, Result.andThen]
  exact hK _ _ (h w' r2)

theorem Sat.rw_get {e s : Nat} {a : Option Addr} {n c i : Nat} {xs : List Value} {v : Value} {F : Assn} {w : World} (hs : Sat (rw e s (.slice a n c) xs * F) w) (hi : xs[i]? = some v) : ∃ g, a = some ⟨g, 0, none⟩ ∧ w.cell? ⟨g, i, none⟩ = some v ∧ w.frozen? ⟨g, i, none⟩ = false := by
  rcases hs.rw_open with ⟨h1, h2, h3⟩ | ⟨g, n', cap', sp, h1, h2, h3, h4, h5, h6⟩
  · subst h2; simp at hi
  · cases h1
    have hlt : i < xs.length := (List.getElem?_eq_some_iff.1 hi).1
    have := h6.at_get (k := i) (v := v) (by rw [List.getElem?_append_left hlt]; exact hi)
    exact ⟨g, rfl, this⟩

/-- one step of ranging over what is a row of images, in whatever order -/
theorem perm_map_step {α β : Type} {f : α → β} {rem : List β} {l : List α} {i : Nat} {x : β} (hp : rem.Perm (l.map f)) (hi : rem[i]? = some x) : ∃ a l2, l.Perm (a :: l2) ∧ x = f a ∧ (rem.eraseIdx i).Perm (l2.map f) := by
  have hx : x ∈ l.map f := hp.mem_iff.1 (List.mem_of_getElem? hi)
  obtain ⟨a, ha, rfl⟩ := List.mem_map.1 hx
  obtain ⟨s, t, rfl⟩ := List.append_of_mem ha
  have h1 : (s ++ a :: t).Perm (a :: (s ++ t)) := List.perm_middle
  refine ⟨a, s ++ t, h1, rfl, ?_⟩
  have h2 := (perm_eraseIdx rem i (f a) hi).symm.trans (hp.trans (h1.map f))
  exact List.Perm.cons_inv h2

end Go.Sl
