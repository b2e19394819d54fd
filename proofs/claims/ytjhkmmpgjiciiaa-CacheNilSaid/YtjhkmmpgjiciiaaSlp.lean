/-
  Two addresses held against each other; small laws for walks.
-/
import Derived.Test.YtjhkmmpgjiciiaaSlm
import Derived.Deep.LoopGhost
namespace Go.Sl
set_option linter.unusedSimpArgs false
set_option linter.unusedVariables false

theorem run_sameAddr {P : Program} {w : World} {a b : Addr} (ha : ∃ c t, w.heap[a.block]? = some (.cells c t (0, 0))) (hb : ∃ c t, w.heap[b.block]? = some (.cells c t (0, 0))) :
    (sameAddr a b).run P w = .ok (a == b) w := by
  obtain ⟨c, t, ha⟩ := ha
  obtain ⟨d, u, hb⟩ := hb
  unfold sameAddr
  by_cases h : a.block = b.block
  · simp [h]
  · have hne : (a == b) = false := by
      cases hab : (a == b) with
      | false => rfl
      | true => exact absurd (congrArg Addr.block (eq_of_beq hab)) h
    simp [h, hne, World.frozen?, ha, hb, noView, viewAt, World.shape?, mayBeOne, stringish]

theorem run_equalIn_ptr {P : Program} {w : World} {t e n : Nat} {a b : Addr} (d : Nat) (ht : P.underlying t = some (.pointer e)) (hn : (P.info? e).map (·.size) = some (n + 1))
    (ha : ∃ c t, w.heap[a.block]? = some (.cells c t (0, 0))) (hb : ∃ c t, w.heap[b.block]? = some (.cells c t (0, 0))) :
    (Op.equalIn (d + 1) t (.pointer (some a)) (.pointer (some b))).run P w = .ok (a == b) w := by
  obtain ⟨i, hi, hi2⟩ := Option.map_eq_some_iff.1 hn
  have h : (sizeOf e).run P w = .ok (n + 1) w := by simp [sizeOf, typeInfo, hi, hi2]
  simp [Op.equalIn, underlying, ht, h, run_sameAddr ha hb]

theorem run_neq_ptr {P : Program} {w : World} {t e n : Nat} {a b : Addr} (ht : P.underlying t = some (.pointer e)) (hn : (P.info? e).map (·.size) = some (n + 1))
    (ha : ∃ c t, w.heap[a.block]? = some (.cells c t (0, 0))) (hb : ∃ c t, w.heap[b.block]? = some (.cells c t (0, 0))) :
    (binOp .neq t (.pointer (some a)) (.pointer (some b))).run P w = .ok (.bool (!(a == b))) w := by
  have h : (Op.equal t (.pointer (some a)) (.pointer (some b))).run P w = .ok (a == b) w := run_equalIn_ptr 9999 ht hn ha hb
  simp [binOp, h]

theorem run_eql_ptr {P : Program} {w : World} {t e n : Nat} {a b : Addr} (ht : P.underlying t = some (.pointer e)) (hn : (P.info? e).map (·.size) = some (n + 1))
    (ha : ∃ c t, w.heap[a.block]? = some (.cells c t (0, 0))) (hb : ∃ c t, w.heap[b.block]? = some (.cells c t (0, 0))) :
    (binOp .eql t (.pointer (some a)) (.pointer (some b))).run P w = .ok (.bool (a == b)) w := by
  have h : (Op.equal t (.pointer (some a)) (.pointer (some b))).run P w = .ok (a == b) w := run_equalIn_ptr 9999 ht hn ha hb
  simp [binOp, h]

theorem Sat.row {A : Assn} {w : World} (hs : Sat A w) (b i : Nat) {v : Value} [h : HasC A b i v] : ∃ c t, w.heap[b]? = some (.cells c t (0, 0)) := by
  obtain ⟨F, rfl⟩ := h.out
  obtain ⟨c, t, h1, _⟩ := hs.blk
  exact ⟨c, t, h1⟩

end Go.Sl
