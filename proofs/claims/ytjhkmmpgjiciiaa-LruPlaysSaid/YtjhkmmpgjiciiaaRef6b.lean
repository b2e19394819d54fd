/-
  Walks of octavoref06: Add.
-/
import Derived.Test.YtjhkmmpgjiciiaaRef6
namespace Go.Proofs.Ytjhkmmpgjiciiaa
set_option linter.unusedSimpArgs false
set_option linter.unusedVariables false
open Go.RowKit Go.Sl Go.Lru

set_option maxHeartbeats 400000 in
theorem refAdd_has (W : Nat) (cap : Int) (a : Option Addr) (c : Nat) (its : List It) (k : Int) (i : Nat) (F : Assn) (w : World) (hs : Sat (refP W cap a c its * F) w) (hm : its.length ≤ 100000) (hk : atI its k = i) :
    Calls Try.prog 87 #[.pointer (some ⟨W, 0, none⟩), .int .i64 k] w fun e w' => e = .returned (.tuple #[.int .i64 0, .bool false, .int .i64 1]) ∧ w = w' := by
  have h := refAt_any W cap a c its k F w hs (by omega)
  rw [hk] at h
  clear hk
  have hi0 : (0 : Int) ≤ i := by omega
  go_enter Try.func87, Try.ntmps87
  go_wp2_with (go_at_call 43; refine h.mono ?_; rintro e w' ⟨rfl, rfl⟩)
  go_ret3
  exact ⟨rfl, rfl⟩

set_option maxHeartbeats 400000 in
theorem refAdd_stuck (W : Nat) (cap : Int) (a : Option Addr) (c : Nat) (its : List It) (k : Int) (F : Assn) (w : World) (hs : Sat (refP W cap a c its * F) w) (hm : its.length ≤ 100000) (hk : atI its k = -1) (hl : ((its.length : Int) == cap) = true) (ho : oldI its = -1) :
    Calls Try.prog 87 #[.pointer (some ⟨W, 0, none⟩), .int .i64 k] w fun e w' => e = .returned (.tuple #[.int .i64 0, .bool false, .int .i64 9]) ∧ ∃ n, w' = w.drewN n := by
  have h := refAt_any W cap a c its k F w hs (by omega)
  rw [hk] at h
  clear hk
  have hs0 := hs
  unfold refP at hs0
  have c0 := hs0.c W 0
  have c1 := hs0.c W 1
  clear hs0
  go_enter Try.func87, Try.ntmps87
  go_wp2_with (go_at_call 43; refine h.mono ?_; rintro e w' ⟨rfl, rfl⟩)
  go_quiet (fail)
  have h2 := refOld_any W cap a c its F _ (hs.drewN nq) (by omega)
  rw [ho] at h2
  clear ho
  go_wp2_with (go_at_call 89; refine h2.mono ?_; rintro e w' ⟨rfl, rfl⟩)
  go_ret3
  exact ⟨rfl, nq, rfl⟩

set_option maxHeartbeats 400000 in
theorem refAdd_room (W : Nat) (cap : Int) (a : Option Addr) (c : Nat) (its : List It) (k : Int) (F : Assn) (w : World) (hs : Sat (refP W cap a c its * F) w) (hm : its.length ≤ 100000) (hk : atI its k = -1) (hl : ((its.length : Int) == cap) = false) :
    Calls Try.prog 87 #[.pointer (some ⟨W, 0, none⟩), .int .i64 k] w fun e w' => ∃ a' c', e = .returned (.tuple #[.int .i64 0, .bool false, .int .i64 0]) ∧ Sat (refP W cap a' c' (its ++ [⟨k, 0, false⟩]) * F) w' := by
  have h := refAt_any W cap a c its k F w hs (by omega)
  rw [hk] at h
  clear hk
  obtain ⟨i0, E⟩ := elemIt
  have hs0 := hs
  unfold refP at hs0
  have c0 := hs0.c W 0
  have c1 := hs0.c W 1
  go_enter Try.func87, Try.ntmps87
  go_wp2_with (go_at_call 43; refine h.mono ?_; rintro e w' ⟨rfl, rfl⟩)
  go_quiet (fail)
  have hs1 := hs0.drewN nq
  have c1' : (w.drewN nq).cell? ⟨W, 1, none⟩ = _ := c1
  clear h hs hs0 c0 c1
  generalize w.drewN nq = w0 at hs1 c1' ⊢
  have hW : W < w0.heap.size := World.block_lt_of_cell? w0 _ c1'
  have hs2 := hs1.alloc #[.int .i64 k, .int .i64 0, .bool false] TRI
  have hsrc := Src.new (P := Try.prog) (s := 3) hs2 rfl (irow_one ⟨k, 0, false⟩)
  have hs3 := hs2.take (rw TRI 3 (.slice a its.length c) (flat its))
  clear hs2
  go_upto_region 11 with (at_builtin; refine wpl_append_same E rfl (.tmp 38) (.tmp 41) rfl rfl rfl hs3 hsrc (by unfold maxLen; omega) (by omega) ?_; intro a2 c2 w2 hs5 hnn; have d2 := hs5.c W 1; have d3 := hs5.f W 1)
  have hs6 := hs5.upd W 1 (.slice a2 (its.length + 1) c2)
  clear hs5 hs3 hsrc hs1 hnn
  go_wp2
  go_ret3
  refine ⟨rfl, a2, c2, ?_⟩
  unfold refP
  rw [flat_append]
  simp only [List.length_append, List.length_cons, List.length_nil, Nat.zero_add]
  have e9 : flat [⟨k, 0, false⟩] = [.int .i64 k, .int .i64 0, .bool false] := rfl
  rw [e9]
  refine Sat.weak (B := block w0.heap.size TRI [.int .i64 k, .int .i64 0, .bool false]) (hs6.eq ?_)
  ac_rfl

set_option maxHeartbeats 400000 in
theorem refAdd_full (W : Nat) (cap : Int) (a : Option Addr) (c : Nat) (its : List It) (k : Int) (i : Nat) (x : It) (F : Assn) (w : World) (hs : Sat (refP W cap a c its * F) w) (hm : its.length ≤ 100000) (hk : atI its k = -1) (hl : ((its.length : Int) == cap) = true) (ho : oldI its = i) (hi : its[i]? = some x) :
    Calls Try.prog 87 #[.pointer (some ⟨W, 0, none⟩), .int .i64 k] w fun e w' => ∃ a' c', e = .returned (.tuple #[.int .i64 x.key, .bool true, .int .i64 0]) ∧ Sat (refP W cap a' c' (its.eraseIdx i ++ [⟨k, 0, false⟩]) * F) w' := by
  have h := refAt_any W cap a c its k F w hs (by omega)
  rw [hk] at h
  clear hk
  obtain ⟨i0, E⟩ := elemIt
  have hil : (its.eraseIdx i).length ≤ 100000 := by rw [List.length_eraseIdx]; split <;> omega
  have hs0 := hs
  unfold refP at hs0
  have c0 := hs0.c W 0
  have c1 := hs0.c W 1
  have hi0 : ¬ ((i : Int) < 0) := by omega
  clear hs0
  go_enter Try.func87, Try.ntmps87
  go_wp2_with (go_at_call 43; refine h.mono ?_; rintro e w' ⟨rfl, rfl⟩)
  go_quiet (fail)
  have hsq := hs.drewN nq
  have h2 := refOld_any W cap a c its F _ hsq (by omega)
  have hout := refOut_any W cap a c its i x F _ hsq hi hm
  rw [ho] at h2
  clear ho hi h hs c0 c1
  generalize w.drewN nq = wq at hsq h2 hout ⊢
  go_wp2_with (go_at_call 89; refine h2.mono ?_; rintro e w' ⟨rfl, rfl⟩)
  refine hout.mono ?_
  rintro e wa ⟨a1, c1, rfl, hsa⟩
  clear hout h2 hsq
  unfold refP at hsa
  have hs1 := hsa.alloc #[.int .i64 x.key, .int .i64 x.pins, .bool x.mkd] TRI
  simp only [block, cells, sep_one, List.length_cons, List.length_nil, Nat.zero_add, Nat.reduceAdd] at hs1
  have e0 := hsa.c W 1
  have hW : W < wa.heap.size := World.block_lt_of_cell? wa _ e0
  have hs2 := hs1.alloc #[.int .i64 k, .int .i64 0, .bool false] TRI
  have e1 : (wa.alloc (.cells #[.int .i64 x.key, .int .i64 x.pins, .bool x.mkd] TRI)).heap.size = wa.heap.size + 1 := by simp
  rw [e1] at hs2
  clear e1
  have hsrc := Src.new (P := Try.prog) (s := 3) hs2 rfl (irow_one ⟨k, 0, false⟩)
  have hs3 := hs2.take (rw TRI 3 (.slice a1 (its.eraseIdx i).length c1) (flat (its.eraseIdx i)))
  clear hs2 hs1
  go_upto_region 11 with (at_builtin; refine wpl_append_same E rfl (.tmp 38) (.tmp 41) rfl rfl rfl hs3 hsrc (by unfold maxLen; omega) (by omega) ?_; intro a2 c2 w2 hs5 hnn; have d2 := hs5.c W 1; have d3 := hs5.f W 1)
  have hs6 := hs5.upd W 1 (.slice a2 ((its.eraseIdx i).length + 1) c2)
  clear hs5 hs3 hsrc hnn
  go_wp2
  go_ret3
  refine ⟨a2, c2, rfl, ?_⟩
  unfold refP
  rw [flat_append]
  simp only [List.length_append, List.length_cons, List.length_nil, Nat.zero_add]
  have e9 : flat [⟨k, 0, false⟩] = [.int .i64 k, .int .i64 0, .bool false] := rfl
  rw [e9]
  refine Sat.weak (B := block (wa.heap.size + 1) TRI [.int .i64 k, .int .i64 0, .bool false] * (hdr wa.heap.size TRI 3 * (Sl.cell wa.heap.size 0 (.int .i64 x.key) * (Sl.cell wa.heap.size 1 (.int .i64 x.pins) * Sl.cell wa.heap.size 2 (.bool x.mkd))))) (hs6.eq ?_)
  ac_rfl

end Go.Proofs.Ytjhkmmpgjiciiaa
