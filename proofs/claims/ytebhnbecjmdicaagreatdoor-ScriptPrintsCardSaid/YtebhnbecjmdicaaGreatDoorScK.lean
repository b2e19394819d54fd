/-
  What the row lists of package variables, as the walks take it.
  What the row's frame tells of a command that came in, as the walks take it.
-/
import Derived.Test.YtebhnbecjmdicaaGreatDoorScC
import Derived.Test.YtebhnbecjmdicaaGreatDoorRows
import Derived.Stop.LaidErr
import Derived.MakeChecks
import Derived.Lib.LaidTab
import Derived.Test.YtebhnbecjmdicaaGreatDoorScH
import Derived.ChangeShapes
import Derived.WideKeyArr2
namespace Go.Proofs.YtebhnbecjmdicaaGreatDoor
open Go.RowKit Go.ChangeShapes
theorem laid_iface {P : Program} {n nm : String} {d : DataW Unit} {r : List (String × DataW Unit)} {W : World} {g ti : Nat} {ms : Array (String × TypeId)}
    (h : laidMet P ((n, .iface nm d) :: r) W) (hg : P.globalNamed n = some g) (ht : (P.globals[g]?).map (·.type) = some ti) (hi : P.underlying ti = some (.interface ms)) : ∃ te pe, W.cell? ⟨g, 0, none⟩ = some (.iface te pe) := by
  obtain ⟨ps, ⟨g0, t0, cs0, f0, p0, q0, hg0, ht0, hv0, hd0, _, e0⟩, _, hrows⟩ := h
  obtain rfl := Option.some.inj (hg.symm.trans hg0)
  obtain rfl := Option.some.inj (ht.symm.trans ht0)
  obtain ⟨l0⟩ := cs0
  obtain ⟨f1, u, v, rfl, _, _⟩ := iface_of_trod hi hd0
  exact ⟨u, v, by simpa using World.var?_cell hg0 hv0 0⟩
theorem ctx_of_laid {w : World} (hL : laidMetH Tryz.prog [("math/bits.deBruijn32tab", Rows.laid_math_bits_deBruijn32tab), ("math/bits.deBruijn64tab", Rows.laid_math_bits_deBruijn64tab), ("internal/strconv.uint64pow10", Rows.laid_internal_strconv_uint64pow10), ("strconv.ErrRange", Rows.laid_strconv_ErrRange), ("strconv.ErrSyntax", Rows.laid_strconv_ErrSyntax)] w) : Ctx w := by
  rw [Go.MakeChecks.laidMetH_plain _ _ _ (by kernel_rfl)] at hL
  have h3 := hL.tail.tail
  have h4 := h3.tail
  have h5 := h4.tail
  refine ⟨?_, ?_, ?_⟩
  · exact laid_iface h5 (g := 2) (ti := 64) (by kernel_rfl) (by kernel_rfl) Tryz.underlying64
  · exact laid_iface h4 (g := 3) (ti := 64) (by kernel_rfl) (by kernel_rfl) Tryz.underlying64
  · exact Lib.tabIs_of_head (k := .u64) (zs := Lib.pow10Tab) (g := 1) (t := 217) (e := 102) (n := 20) (by kernel_rfl) (by kernel_rfl) Tryz.underlying217 Tryz.underlying102 (by kernel_rfl) (by kernel_rfl) h3
end Go.Proofs.YtebhnbecjmdicaaGreatDoor

namespace Go.Proofs.YtebhnbecjmdicaaGreatDoor
set_option linter.unusedSimpArgs false
set_option linter.unusedVariables false
open Go.RowKit Go.Sl Go.Sc Go.ChangeShapes Go.WideShapes

theorem rows_map {α : Type} {f : α → List Value} {p : α → Prop} : ∀ l : List (List Value), (∀ r ∈ l, ∃ c, r = f c ∧ p c) → ∃ cs : List α, l = cs.map f ∧ ∀ c ∈ cs, p c
  | [], _ => ⟨[], rfl, by simp⟩
  | r :: l, hl => by
    obtain ⟨c, rfl, hc⟩ := hl r (by simp)
    obtain ⟨cs, rfl, hcs⟩ := rows_map l fun r' hr' => hl r' (by simp [hr'])
    exact ⟨c :: cs, rfl, fun c' hc' => by rcases List.mem_cons.1 hc' with rfl | h; exact hc; exact hcs _ h⟩
theorem three_of {r : List Value} (h : r.length = 3) : ∃ a b c, r = [a, b, c] := by
  match r, h with
  | [a, b, c], _ => exact ⟨a, b, c, rfl⟩
theorem u8_wf {n : Int} (h : (Lit.int .u8 n).wf = true) : ∃ x : UInt8, n = (x.toNat : Int) := by
  have h1 : 0 ≤ n ∧ n ≤ 255 := by simpa [Lit.wf, IntKind.min, IntKind.max, IntKind.signed, IntKind.bits] using h
  refine ⟨UInt8.ofNat n.toNat, ?_⟩
  simp [UInt8.toNat_ofNat']
  omega
theorem slice_cap {H : Type} {enc : TypeId × Value → H} {w : World} {base : Nat} {spare : Nat → Bool} {held : Bool} {t e fuel : Nat} {a : Option Addr} {len cap : Nat} {x : DataW H × List MemPlace}
    (ht : Tryz.prog.underlying t = some (.slice e)) (hx : DataW.trod enc Tryz.prog w base spare held fuel t [.slice a len cap] = some x) : len ≤ cap ∧ cap ≤ maxLen := by
  rcases DataW.trod_slice ht hx with ⟨h0, _⟩ | ⟨a', len', cap', elems, rest, n, _, h1, _, _, h2, h3, _⟩
  · simp only [List.cons.injEq, Value.slice.injEq, and_true] at h0
    obtain ⟨_, rfl, rfl⟩ := h0
    exact ⟨Nat.le_refl _, by unfold maxLen; decide⟩
  · simp only [List.cons.injEq, Value.slice.injEq, and_true] at h1
    obtain ⟨_, rfl, rfl⟩ := h1
    exact ⟨h2, h3⟩
theorem slice_of_trod {H : Type} {enc : TypeId × Value → H} {w : World} {base : Nat} {spare : Nat → Bool} {held : Bool} {t e fuel : Nat} {v : Value} {x : DataW H × List MemPlace}
    (ht : Tryz.prog.underlying t = some (.slice e)) (h : DataW.trod enc Tryz.prog w base spare held fuel t [v] = some x) : ∃ a n c, v = .slice a n c := by
  rcases DataW.trod_slice ht h with ⟨h0, _⟩ | ⟨a, len, cap, elems, rest, n, _, h1, _⟩
  · exact ⟨none, 0, 0, by simpa using h0⟩
  · exact ⟨some a, len, cap, by simpa using h1⟩
theorem zat_in {H : Type} {enc : TypeId × Value → H} {w : World} {base : Nat} {spare : Nat → Bool} {held : Bool} {fuel : Nat} {a : Option Addr} {len cap : Nat} {x : DataW H × List MemPlace}
    (hx : DataW.trod enc Tryz.prog w base spare held fuel 22 [.slice a len cap] = some x) : ∃ zs : List Int, Zat w (.slice a len cap) zs := by
  obtain ⟨hc1, hc2⟩ := slice_cap Tryz.underlying22 hx
  obtain ⟨rs, h1, h2, h3, h4⟩ := rows_of_trod (s := 1) Tryz.underlying22 (by kernel_rfl) (by omega) hx
  obtain ⟨zs, rfl, hz⟩ := rows_map (f := fun z : Int => [Value.int .i64 z]) (p := fun _ => True) rs (by
    intro r hr
    obtain ⟨n, y, hy⟩ := h4 r hr
    obtain ⟨z, hz, _, hw⟩ := DataW.trod_int Tryz.underlying3 hy
    exact ⟨z, hz, trivial⟩)
  obtain ⟨a', c', e1, h5⟩ := h1
  have e2 := e1
  simp only [List.length_map, Value.slice.injEq] at e2
  obtain ⟨rfl, rfl, rfl⟩ := e2
  refine ⟨zs, a, cap, rfl, hc1, hc2, fun i z hi => ?_⟩
  obtain ⟨_, b, o, rfl, h6⟩ := h5 i [.int .i64 z] (by simp [hi])
  exact ⟨b, o, rfl, by have := h6 0 _ rfl; simpa using this⟩
theorem byt_in {H : Type} {enc : TypeId × Value → H} {w : World} {base : Nat} {spare : Nat → Bool} {held : Bool} {fuel : Nat} {a : Option Addr} {len cap : Nat} {x : DataW H × List MemPlace}
    (hx : DataW.trod enc Tryz.prog w base spare held fuel 23 [.slice a len cap] = some x) : ∃ l : List UInt8, Byt w (.slice a len cap) l := by
  obtain ⟨hc1, hc2⟩ := slice_cap Tryz.underlying23 hx
  obtain ⟨rs, h1, h2, h3, h4⟩ := rows_of_trod (s := 1) Tryz.underlying23 (by kernel_rfl) (by omega) hx
  obtain ⟨zs, rfl, hz⟩ := rows_map (f := fun z : UInt8 => [Value.int .u8 z.toNat]) (p := fun z => True) rs (by
    intro r hr
    obtain ⟨n, y, hy⟩ := h4 r hr
    obtain ⟨z, hz, _, hw⟩ := DataW.trod_int Tryz.underlying5 hy
    obtain ⟨x2, rfl⟩ := u8_wf hw
    exact ⟨x2, hz, trivial⟩)
  obtain ⟨a', c', e1, h5⟩ := h1
  have e2 := e1
  simp only [List.length_map, Value.slice.injEq] at e2
  obtain ⟨rfl, rfl, rfl⟩ := e2
  refine ⟨zs, a, cap, rfl, hc1, hc2, fun i z hi => ?_⟩
  obtain ⟨_, b, o, rfl, h6⟩ := h5 i [.int .u8 z.toNat] (by simp [hi])
  exact ⟨b, o, rfl, by have := h6 0 _ rfl; simpa [bv] using this⟩
/-- one field of a struct that reads, at its type and place -/
theorem field_at {H : Type} {enc : TypeId × Value → H} {w : World} {base : Nat} {spare : Nat → Bool} {held : Bool} {t fuel : Nat} {r : List Value} {x : DataW H × List MemPlace} {fs : Array Field}
    (ht : Tryz.prog.underlying t = some (.struct fs)) (h : DataW.trod enc Tryz.prog w base spare held fuel t r = some x) (i ty off c : Nat) (hf : (fs[i]?).map (fun f => (f.type, f.offset)) = some (ty, off)) (hc : Tryz.prog.cellsOf ty = c) :
    ∃ n y, DataW.trod enc Tryz.prog w base spare held n ty ((r.drop off).take c) = some y := by
  obtain ⟨_, n, h2⟩ := field_of_trod ht h
  obtain ⟨f, h3, h4⟩ := Option.map_eq_some_iff.1 hf
  obtain ⟨y, h5⟩ := h2 i f h3
  cases h4
  rw [hc] at h5
  exact ⟨n, y, h5⟩

theorem cmd_in {H : Type} {enc : TypeId × Value → H} {w : World} {base : Nat} {spare : Nat → Bool} {held : Bool} {v : Value} {d : DataW H} {ps : List MemPlace}
    (hd : DataW.Trod enc Tryz.prog w base spare held 25 v d ps) (hv : ∃ cs, v = .agg cs) : ∃ c : Cmd, CmdAt w v c := by
  obtain ⟨cs, rfl⟩ := hv
  obtain ⟨fuel, hx⟩ := hd
  obtain ⟨l⟩ := cs
  have hx : DataW.trod enc Tryz.prog w base spare held fuel 25 l = some (d, ps) := hx
  obtain ⟨hl, n', hf⟩ := field_of_trod Tryz.underlying25 hx
  obtain ⟨v0, v1, v2, rfl⟩ := three_of (hl.trans (by kernel_rfl))
  have c1 : Tryz.prog.cellsOf 9 = 1 := by kernel_rfl
  have c2 : Tryz.prog.cellsOf 22 = 1 := by kernel_rfl
  have c3 : Tryz.prog.cellsOf 23 = 1 := by kernel_rfl
  obtain ⟨_, y0, e0⟩ := field_at Tryz.underlying25 hx 0 9 0 1 rfl c1
  obtain ⟨_, y1, e1⟩ := field_at Tryz.underlying25 hx 1 22 1 1 rfl c2
  obtain ⟨_, y2, e2⟩ := field_at Tryz.underlying25 hx 2 23 2 1 rfl c3
  obtain ⟨s1, hs1, _, w1⟩ := DataW.trod_string Tryz.underlying9 e0
  obtain ⟨pa, pn, pc, rfl⟩ := slice_of_trod Tryz.underlying22 e1
  obtain ⟨qa, qn, qc, rfl⟩ := slice_of_trod Tryz.underlying23 e2
  obtain rfl : v0 = .string s1 := by simpa using hs1
  obtain ⟨zs, hz⟩ := zat_in e1
  obtain ⟨bs, hb⟩ := byt_in e2
  refine ⟨⟨s1.data.toList, zs, bs⟩, _, _, ?_, hz, hb⟩
  show _ = cmdV s1.data.toList _ _
  unfold cmdV
  rw [← str_eta s1]
end Go.Proofs.YtebhnbecjmdicaaGreatDoor
