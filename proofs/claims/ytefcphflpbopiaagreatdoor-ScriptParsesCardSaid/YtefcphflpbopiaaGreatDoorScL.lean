/-
  What the row lists of package variables, as the walks take it.
-/
import Derived.Test.YtefcphflpbopiaaGreatDoorScC
import Derived.Test.YtefcphflpbopiaaGreatDoorRows
import Derived.Stop.LaidErr
import Derived.MakeChecks
import Derived.Lib.LaidTab
namespace Go.Proofs.YtefcphflpbopiaaGreatDoor
open Go.RowKit Go.ChangeShapes
theorem laid_iface {P : Program} {n nm : String} {d : DataW Unit} {r : List (String × DataW Unit)} {W : World} {g ti : Nat} {ms : Array (String × TypeId)}
    (h : laidMet P ((n, .iface nm d) :: r) W) (hg : P.globalNamed n = some g) (ht : (P.globals[g]?).map (·.type) = some ti) (hi : P.underlying ti = some (.interface ms)) : ∃ te pe, W.cell? ⟨g, 0, none⟩ = some (.iface te pe) := by
  obtain ⟨ps, ⟨g0, t0, cs0, f0, p0, q0, hg0, ht0, hv0, hd0, _, e0⟩, _, hrows⟩ := h
  obtain rfl := Option.some.inj (hg.symm.trans hg0)
  obtain rfl := Option.some.inj (ht.symm.trans ht0)
  obtain ⟨l0⟩ := cs0
  obtain ⟨f1, u, v, rfl, _, _⟩ := iface_of_trod hi hd0
  exact ⟨u, v, by simpa using World.var?_cell hg0 hv0 0⟩
theorem ctx_of_laid {w : World} (hL : laidMetH Tryz.prog [("math/bits.deBruijn32tab", Rows.laid_math_bits_deBruijn32tab), ("math/bits.deBruijn64tab", Rows.laid_math_bits_deBruijn64tab), ("internal/strconv.uint64pow10", Rows.laid_internal_strconv_uint64pow10), ("strconv.ErrRange", Rows.laid_strconv_ErrRange), ("strconv.ErrSyntax", Rows.laid_strconv_ErrSyntax)] w) : Ctx w := by
  rw [Go.MakeChecks.laidMetH_plain _ _ _ (by kernel_rfl)] at hL
  have h3 := hL.tail.tail
  have h4 := h3.tail
  have h5 := h4.tail
  refine ⟨?_, ?_, ?_⟩
  · exact laid_iface h5 (g := 1) (ti := 61) (by kernel_rfl) (by kernel_rfl) Tryz.underlying61
  · exact laid_iface h4 (g := 2) (ti := 61) (by kernel_rfl) (by kernel_rfl) Tryz.underlying61
  · exact Lib.tabIs_of_head (k := .u64) (zs := Lib.pow10Tab) (g := 3) (t := 304) (e := 99) (n := 20) (by kernel_rfl) (by kernel_rfl) Tryz.underlying304 Tryz.underlying99 (by kernel_rfl) (by kernel_rfl) h3
end Go.Proofs.YtefcphflpbopiaaGreatDoor
