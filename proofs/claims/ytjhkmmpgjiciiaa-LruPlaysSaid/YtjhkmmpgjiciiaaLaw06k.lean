/-
  LruPlays: does, Oldest.
-/
import Derived.Test.YtjhkmmpgjiciiaaLaw06j
namespace Go.Proofs.Ytjhkmmpgjiciiaa
set_option linter.unusedSimpArgs false
set_option linter.unusedVariables false
open Go.RowKit Go.Sl Go.Lru

theorem old_both (ns : List Nd) : (oldL ns = none ∧ oldI (tw ns) = -1) ∨ ∃ l1 n l2, ns = l1 ++ n :: l2 ∧ oldL ns = some n ∧ oldI (tw ns) = (l1.length : Nat) := by
  cases ho : oldL ns with
  | none =>
    refine .inl ⟨rfl, oldI_none fun x hx => ?_⟩
    obtain ⟨n, hn, rfl⟩ := List.mem_map.1 hx
    have := List.find?_eq_none.1 ho n hn
    simpa [tw1] using this
  | some n =>
    obtain ⟨hp, l1, l2, hns, hl1⟩ := List.find?_eq_some_iff_append.1 ho
    refine .inr ⟨l1, n, l2, hns, rfl, ?_⟩
    rw [hns]
    refine oldI_found (tw_at l1 n l2) (by simpa [tw1] using hp) ?_
    intro j y hj hy
    rw [tw, List.map_append, List.getElem?_append_left (by simpa using hj)] at hy
    obtain ⟨m, hm, rfl⟩ := List.mem_map.1 (List.mem_of_getElem? hy)
    have := hl1 m hm
    simpa [tw1] using this

set_option maxRecDepth 100000 in
set_option maxHeartbeats 800000 in
theorem does_old (L M W : Nat) (cap : Int) (m : Nat) (ns : List Nd) (a : Option Addr) (c : Nat) (kd ky : Int) (hkd : (kd == 1) = false ∧ (kd == 2) = false ∧ (kd == 3) = false ∧ (kd == 4) = false ∧ (kd == 5) = false ∧ (kd == 6) = false ∧ (kd == 7) = false) (F : Assn) (w : World) (hs : Sat (lruP TL TI L M cap ns * (refP W cap a c (tw ns) * F)) w) (hg : Good m cap ns) (hc : cap ≤ 4096) :
    Calls Try.prog 42 #[.pointer (some ⟨L, 0, none⟩), .pointer (some ⟨W, 0, none⟩), .agg #[.int .i64 kd, .int .i64 ky]] w fun e w' => e = .returned (.bool true) ∧ Both L M W cap (m + 1) F w' := by
  have hlen : (tw ns).length ≤ 4096 := by have := hg.len; rw [tw_len]; omega
  obtain ⟨q1, q2, q3, q4, q5, q6, q7⟩ := hkd
  have hs1 := hs.alloc #[.int .i64 kd, .int .i64 ky] 35
  simp only [block, cells, sep_one, List.length_cons, List.length_nil, Nat.zero_add] at hs1
  have x0 := hs1.c w.heap.size 0
  have x1 := hs1.c w.heap.size 1
  have hat := refAt_any W cap a c _ ky _ _ (hs1.take (refP W cap a c (tw ns))) (by omega)
  generalize atI (tw ns) ky = i at hat
  have hold := oldest_any L M cap ns _ _ (hs1.take (lruP TL TI L M cap ns))
  have hold2 := refOld_any W cap a c _ _ _ (hs1.take (refP W cap a c (tw ns))) (by omega)
  rcases old_both ns with ⟨h1, h2⟩ | ⟨l1, n, l2, rfl, h1, h2⟩
  · have e1 : oldK ns = 0 := by simp [oldK, h1]
    have e2 : oldB ns = false := by simp [oldB, h1]
    rw [e1, e2] at hold
    rw [h2] at hold2
    have HG : Aside (Good m cap ns) := hg
    clear hg hs h1 h2 e1 e2
    go_enter Try.func42, Try.ntmps42
    go_wp2_with (go_at_call 43; refine hat.mono ?_; rintro e w' ⟨rfl, rfl⟩)
    refine hold.mono ?_
    rintro e w3 ⟨rfl, rfl⟩
    go_wp2_with (go_at_call 89; refine hold2.mono ?_; rintro e w' ⟨rfl, rfl⟩)
    go_ret
    exact ⟨rfl, ns, a, c, keep3 hs1 (lruP TL TI L M cap ns) _ F, HG.out.more⟩
  · have e1 : oldK (l1 ++ n :: l2) = n.key := by simp [oldK, h1]
    have e2 : oldB (l1 ++ n :: l2) = true := by simp [oldB, h1]
    rw [e1, e2] at hold
    rw [h2] at hold2
    have hi0 : (0 : Int) ≤ l1.length := by omega
    have hil : l1.length < (tw (l1 ++ n :: l2)).length := by simp [tw]
    have hil2 : (l1.length : Int) < (tw (l1 ++ n :: l2)).length := by omega
    obtain ⟨g, rfl, k0, k1, k2⟩ := ref_at (hs1.take (refP W cap a c (tw (l1 ++ n :: l2)))) (tw_at l1 n l2)
    have k0' : (w.alloc (.cells #[.int .i64 kd, .int .i64 ky] 35)).cell? ⟨g, l1.length * 3, none⟩ = some (.int .i64 n.key) := k0
    have hs0 := hs1
    unfold refP at hs0
    have d1 := hs0.c W 1
    have HG : Aside (Good m cap (l1 ++ n :: l2)) := hg
    have hmax : max (l1.length : Int) 0 = l1.length := by omega
    clear hg hs h1 h2 e1 e2 hs0 k0 k1 k2
    go_enter Try.func42, Try.ntmps42
    go_wp2_with (go_at_call 43; refine hat.mono ?_; rintro e w' ⟨rfl, rfl⟩)
    refine hold.mono ?_
    rintro e w3 ⟨rfl, rfl⟩
    go_wp2_with (go_at_call 89; refine hold2.mono ?_; rintro e w' ⟨rfl, rfl⟩)
    go_ret
    exact ⟨rfl, l1 ++ n :: l2, some ⟨g, 0, none⟩, c, keep3 hs1 (lruP TL TI L M cap (l1 ++ n :: l2)) (refP W cap (some ⟨g, 0, none⟩) c (tw (l1 ++ n :: l2))) F, HG.out.more⟩

end Go.Proofs.Ytjhkmmpgjiciiaa
