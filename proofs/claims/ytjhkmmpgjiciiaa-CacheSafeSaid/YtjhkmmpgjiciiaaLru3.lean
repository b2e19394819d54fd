/-
  Walks of package lru: Oldest, New, Add.
-/
import Derived.Test.YtjhkmmpgjiciiaaLru2
namespace Go.Proofs.Ytjhkmmpgjiciiaa
set_option linter.unusedSimpArgs false
set_option linter.unusedVariables false
open Go.RowKit Go.Sl Go.Lru

def oldL (ns : List Nd) : Option Nd := ns.find? fun n => n.pins == 0
def oldK (ns : List Nd) : Int := ((oldL ns).map (·.key)).getD 0
def oldB (ns : List Nd) : Bool := (oldL ns).isSome

theorem sizeTI : (Try.prog.info? 107).map (·.size) = some (4 + 1) := by kernel_rfl

/-- what a round at the item n reads -/
theorem lru_round {L M : Nat} {cap : Int} {l1 : List Nd} {n : Nd} {l2 : List Nd} {F : Assn} {w : World} (hs : Sat (lruP TL TI L M cap (l1 ++ n :: l2) * F) w) :
    w.cell? ⟨n.b, 0, none⟩ = some (.int .i64 n.key) ∧ w.cell? ⟨n.b, 1, none⟩ = some (.int .i64 n.pins) ∧ w.cell? ⟨n.b, 4, none⟩ = some (pt (behind L l2)) ∧
    (binOp .neq 105 (.pointer (some ⟨n.b, 0, none⟩)) (.pointer (some ⟨L, 1, none⟩))).run Try.prog w = .ok (.bool true) w := by
  obtain ⟨R, hR, _⟩ := lru_around L M cap l1 n l2
  rw [hR] at hs
  unfold edge item at hs
  simp only [Nat.zero_add] at hs
  have r1 := hs.row n.b 0
  have r2 := hs.row L 0
  refine ⟨hs.c n.b 0, hs.c n.b 1, hs.c n.b 4, ?_⟩
  rw [run_neq_ptr Try.underlying105 sizeTI r1 r2]
  have hne : (⟨n.b, 0, none⟩ : Addr) ≠ ⟨L, 1, none⟩ := by simp
  rw [beq_false_of_ne hne]
  rfl

theorem lru_first {L M : Nat} {cap : Int} {ns : List Nd} {F : Assn} {w : World} (hs : Sat (lruP TL TI L M cap ns * F) w) :
    w.cell? ⟨L, 5, none⟩ = some (pt (behind L ns)) ∧
    (binOp .neq 105 (.pointer (some ⟨L, 1, none⟩)) (.pointer (some ⟨L, 1, none⟩))).run Try.prog w = .ok (.bool false) w := by
  obtain ⟨R, hR⟩ := ring_first L ns
  unfold lruP at hs
  rw [hR] at hs
  unfold edge at hs
  simp only [Nat.reduceAdd] at hs
  have r2 := hs.row L 0
  refine ⟨hs.c L 5, ?_⟩
  rw [run_neq_ptr Try.underlying105 sizeTI r2 r2]
  simp

set_option maxHeartbeats 400000 in
theorem oldest_any (L M : Nat) (cap : Int) (ns : List Nd) (F : Assn) (w : World) (hs : Sat (lruP TL TI L M cap ns * F) w) :
    Calls Try.prog 25 #[.pointer (some ⟨L, 0, none⟩)] w fun e w' => e = .returned (.tuple #[.int .i64 (oldK ns), .bool (oldB ns)]) ∧ w = w' := by
  obtain ⟨h5, hrr⟩ := lru_first hs
  unfold pt at h5
  go_enter Try.func25, Try.ntmps25
  go_wp2
  go_loopg [4] ns.length (fun k x wr => ∃ l1 l2, Aside (ns = l1 ++ l2 ∧ (∀ m ∈ l1, m.pins ≠ 0) ∧ k = l2.length) ∧ x = pt (behind L l2) ∧ w = wr)
  case atStart => exact ⟨[], ns, ⟨rfl, by simp, rfl⟩, rfl, rfl⟩
  case round =>
    obtain ⟨l1, l2, A, rfl, rfl⟩ := hrel
    clear h5
    cases l2 with
    | nil =>
      have e0 : pt (behind L []) = .pointer (some ⟨L, 1, none⟩) := rfl
      rw [e0]
      clear e0
      go_wp2
      go_ret2
      obtain ⟨rfl, h, _⟩ := A.out
      have e : oldL (l1 ++ []) = none := by
        unfold oldL
        rw [List.find?_eq_none]
        intro m hm
        simpa using h m (by simpa using hm)
      refine ⟨?_, rfl⟩
      unfold oldK oldB
      rw [e]; rfl
    | cons n l2 =>
      have e0 : pt (behind L (n :: l2)) = .pointer (some ⟨n.b, 0, none⟩) := rfl
      rw [e0]
      clear e0
      have A2 := A.out
      obtain ⟨hns, h, hk⟩ := A2
      rw [hns] at hs
      obtain ⟨c0, c1, c4, hne⟩ := lru_round hs
      unfold pt at c4
      have H : Aside (ns = l1 ++ n :: l2) := hns
      have HK : Aside (gk = (n :: l2).length) := hk
      clear hns hs A hk
      by_cases hp : n.pins = 0
      · have hp1 : (n.pins == 0) = true := by simpa using hp
        have HP : Aside (n.pins = 0) := hp
        clear hp
        go_wp2
        go_ret2
        have e : oldL ns = some n := by
          rw [H.out, oldL, List.find?_append]
          have : l1.find? (fun n => n.pins == 0) = none := by
            rw [List.find?_eq_none]
            intro m hm
            simpa using h m hm
          rw [this]
          simp [HP.out]
        refine ⟨?_, rfl⟩
        unfold oldK oldB
        rw [e]; rfl
      · have hp1 : (n.pins == 0) = false := by simpa using hp
        have HP : Aside (n.pins ≠ 0) := hp
        clear hp
        go_wp2
        go_roundg l2.length
        case measure => have := HK.out; simp at this; omega
        case rel =>
          exact ⟨l1 ++ [n], l2, ⟨by rw [H.out]; simp, fun m hm => by rcases List.mem_append.1 hm with hm | hm; exact h m hm; simp at hm; subst hm; exact HP.out, rfl⟩, rfl, rfl⟩

/-- New refuses a capacity. -/
theorem new_no (cap : Int) (w : World) (h : cap < 1 ∨ 4096 < cap) :
    Calls Try.prog 18 #[.int .i64 cap] w fun e w' => e = .returned (.tuple #[.pointer none, .int .i64 1]) ∧ w = w' := by
  by_cases h1 : cap < 1
  · clear h
    go_enter Try.func18, Try.ntmps18
    go_wp2
    go_ret2
    exact ⟨rfl, rfl⟩
  · have h2 : 4096 < cap := by omega
    clear h
    go_enter Try.func18, Try.ntmps18
    go_wp2
    go_ret2
    exact ⟨rfl, rfl⟩

set_option maxHeartbeats 400000 in
theorem new_yes (cap : Int) (F : Assn) (w : World) (hs : Sat F w) (h1 : 1 ≤ cap) (h2 : cap ≤ 4096) :
    Calls Try.prog 18 #[.int .i64 cap] w fun e w' => ∃ L M, e = .returned (.tuple #[.pointer (some ⟨L, 0, none⟩), .int .i64 0]) ∧ Sat (lruP TL TI L M cap [] * F) w' := by
  have hmm := @run_makeMap Try.prog
  go_enter Try.func18, Try.ntmps18
  go_wp2
  go_region
  all_goals
    go_wp2
    go_ret2
    refine ⟨w.heap.size + 1, w.heap.size, rfl, Sat.drew ?_⟩
    have a1 := hs.alloc_raw (.map #[] 0)
    have a2 := a1.alloc #[.int .i64 cap, .int .i64 0, .int .i64 0, .bool false, .pointer (some ⟨w.heap.size + 1, 1, none⟩), .pointer (some ⟨w.heap.size + 1, 1, none⟩), .map (some w.heap.size)] TL
    have e : (w.alloc (.map #[] 0)).heap.size = w.heap.size + 1 := by simp
    rw [e] at a2
    have a3 := Sat.pmp_shut (ns := []) (ms := []) (M := w.heap.size) (o := .map #[] 0) .nil ⟨#[], 0, rfl, rfl, by simp, by simp⟩ (a2.take (raw w.heap.size _))
    refine a3.eq ?_
    simp only [lruP, core, block, cells, ring, chain, edge, pt, items, List.length_cons, List.length_nil, List.map_nil, List.nil_append, sep_one, Nat.reduceAdd, Nat.zero_add]
    ac_rfl

set_option maxHeartbeats 400000 in
theorem add_has (L M : Nat) (cap : Int) (ns : List Nd) (k : Int) (F : Assn) (w : World) (hs : Sat (lruP TL TI L M cap ns * F) w) (hd : Keyd ns) (hk : hasB ns k = true) :
    Calls Try.prog 22 #[.pointer (some ⟨L, 0, none⟩), .int .i64 k] w fun e w' => e = .returned (.tuple #[.int .i64 0, .bool false, .int .i64 1]) ∧ w = w' := by
  have hc := has_any L M cap ns k F w hs hd
  rw [hk] at hc
  clear hk hs hd
  go_enter Try.func22, Try.ntmps22
  go_wp2_with (go_at_call 20; refine hc.mono ?_; rintro e w' ⟨rfl, rfl⟩)
  go_ret3
  exact ⟨rfl, rfl⟩

theorem add_nil (k : Int) (w : World) :
    Calls Try.prog 22 #[.pointer none, .int .i64 k] w fun e w' => e = .returned (.tuple #[.int .i64 0, .bool false, .int .i64 1]) ∧ w = w' := by
  go_enter Try.func22, Try.ntmps22
  go_wp2
  go_ret3
  exact ⟨rfl, rfl⟩

/-- the head of Add: the key isn't there; how many there are -/
theorem lru_len {L M : Nat} {cap : Int} {ns : List Nd} {F : Assn} {w : World} (hs : Sat (lruP TL TI L M cap ns * F) w) (ty : TypeId) :
    (Builtin.len_ #[TM] ty #[.map (some M)]).run Try.prog w = .ok (.int .i64 ns.length) w := by
  unfold lruP at hs
  obtain ⟨ms, o, hp, ho, hs⟩ := Sat.pmp_open (hs.take (pmp M ns))
  have := run_len_mp (kf := ikey) Try.underlying104 hs.obj ho ty
  rw [hp.length_eq, List.length_map] at this
  exact this

set_option maxHeartbeats 1000000 in
theorem add_room (L M : Nat) (cap : Int) (ns : List Nd) (k : Int) (F : Assn) (w : World) (hs : Sat (lruP TL TI L M cap ns * F) w) (hd : Keyd ns) (hk : hasB ns k = false) (hl : ((ns.length : Int) == cap) = false) :
    Calls Try.prog 22 #[.pointer (some ⟨L, 0, none⟩), .int .i64 k] w fun e w' => ∃ b, e = .returned (.tuple #[.int .i64 0, .bool false, .int .i64 0]) ∧ Sat (lruP TL TI L M cap (ns ++ [⟨b, k, 0, false⟩]) * F) w' := by
  have hc := has_any L M cap ns k F w hs hd
  rw [hk] at hc
  have h0 := (show Sat (core TL L M cap * (pmp M ns * (chain (ring L ns) * items TI ns)) * F) w from hs).c L 0
  have h6 := (show Sat (core TL L M cap * (pmp M ns * (chain (ring L ns) * items TI ns)) * F) w from hs).c L 6
  have hlen := fun n ty => lru_len (hs.drewN n) ty
  have HK : Aside (hasB ns k = false) := hk
  clear hk
  go_enter Try.func22, Try.ntmps22
  go_wp2_with (go_at_call 20; refine hc.mono ?_; rintro e w' ⟨rfl, rfl⟩)
  go_quiet (fail)
  have hs1 := hs.drewN nq
  clear hlen h0 h6 hc
  generalize w.drewN nq = w0 at hs1 ⊢
  clear hs
  have hs2 : Sat (core TL L M cap * (pmp M ns * (chain (ring L ns) * items TI ns)) * F) w0 := hs1
  have hs3 := hs2.alloc #[.int .i64 k, .int .i64 0, .bool false, .pointer none, .pointer none] TI
  have h6 := hs2.c L 6
  have h6' := hs3.c L 6
  obtain ⟨ms, o, hp, ho, hs4⟩ := Sat.pmp_open (hs3.take (pmp M ns))
  obtain ⟨o', ho', hup⟩ := run_mapUpdate_mp keyOk3 Try.underlying104 hs4.obj ho k (.pointer (some ⟨w0.heap.size, 0, none⟩))
  have hs5 := hs4.setRaw o'
  have hne : ∀ m ∈ ns, m.key ≠ k := by
    have := HK.out
    simp only [hasB, List.any_eq_false] at this
    intro m hm
    simpa using this m hm
  have hperm := mput_perm hp hd (n := ⟨w0.heap.size, k, 0, false⟩) hne
  have hs6 := Sat.pmp_shut hperm ho' hs5
  obtain ⟨R2, hR3, hR4⟩ := ring_last L ns
  have hs7 := hs6.eq (B := edge (before L ns) (L, 1) * (Sl.cell w0.heap.size 3 (.pointer none) * Sl.cell w0.heap.size 4 (.pointer none)) *
      (R2 * (core TL L M cap * (pmp M (ns ++ [⟨w0.heap.size, k, 0, false⟩]) * (items TI ns * item TI ⟨w0.heap.size, k, 0, false⟩))) * F)) (by
    rw [hR3]
    simp only [block, cells, item, List.length_cons, List.length_nil, sep_one, Nat.reduceAdd, Nat.zero_add]
    ac_rfl)
  clear hs6 hs5 hs4 hs3 hs2 hs1 hperm hne hp ho ho'
  go_wp2_with fail
  refine (last_sl L w0.heap.size (before L ns) _ _ _ _ hs7).mono ?_
  rintro e w2 ⟨rfl, hs8⟩
  clear hs7 hup h6 h6'
  go_wp2
  go_ret3
  refine ⟨w0.heap.size, rfl, hs8.eq ?_⟩
  unfold lruP
  rw [hR4, items_append]
  simp only [items, sep_one]
  ac_rfl

set_option maxHeartbeats 1000000 in
theorem add_stuck (L M : Nat) (cap : Int) (ns : List Nd) (k : Int) (F : Assn) (w : World) (hs : Sat (lruP TL TI L M cap ns * F) w) (hd : Keyd ns) (hk : hasB ns k = false) (hl : ((ns.length : Int) == cap) = true) (ho : oldB ns = false) :
    Calls Try.prog 22 #[.pointer (some ⟨L, 0, none⟩), .int .i64 k] w fun e w' => e = .returned (.tuple #[.int .i64 0, .bool false, .int .i64 9]) ∧ Sat (lruP TL TI L M cap ns * F) w' := by
  have hc := has_any L M cap ns k F w hs hd
  rw [hk] at hc
  have h0 := (show Sat (core TL L M cap * (pmp M ns * (chain (ring L ns) * items TI ns)) * F) w from hs).c L 0
  have h6 := (show Sat (core TL L M cap * (pmp M ns * (chain (ring L ns) * items TI ns)) * F) w from hs).c L 6
  have hlen := fun n ty => lru_len (hs.drewN n) ty
  have HK : Aside (hasB ns k = false) := hk
  clear hk
  go_enter Try.func22, Try.ntmps22
  go_wp2_with (go_at_call 20; refine hc.mono ?_; rintro e w' ⟨rfl, rfl⟩)
  go_quiet (fail)
  have hs1 := hs.drewN nq
  have hold := oldest_any L M cap ns F _ hs1
  rw [ho] at hold
  clear hlen h0 h6 hc ho
  go_wp2_with (go_at_call 25; refine hold.mono ?_; rintro e w' ⟨rfl, rfl⟩)
  go_ret3
  exact ⟨rfl, hs1⟩

set_option maxHeartbeats 1000000 in
theorem add_full (L M : Nat) (cap : Int) (ns : List Nd) (k : Int) (F : Assn) (w : World) (hs : Sat (lruP TL TI L M cap ns * F) w) (hd : Keyd ns) (hk : hasB ns k = false) (hl : ((ns.length : Int) == cap) = true) (l1 : List Nd) (n : Nd) (l2 : List Nd) (hns : ns = l1 ++ n :: l2) (ho : oldL ns = some n) :
    Calls Try.prog 22 #[.pointer (some ⟨L, 0, none⟩), .int .i64 k] w fun e w' => ∃ b, e = .returned (.tuple #[.int .i64 n.key, .bool true, .int .i64 0]) ∧ Sat (lruP TL TI L M cap (l1 ++ l2 ++ [⟨b, k, 0, false⟩]) * F) w' := by
  have hc := has_any L M cap ns k F w hs hd
  rw [hk] at hc
  have h0 := (show Sat (core TL L M cap * (pmp M ns * (chain (ring L ns) * items TI ns)) * F) w from hs).c L 0
  have h6 := (show Sat (core TL L M cap * (pmp M ns * (chain (ring L ns) * items TI ns)) * F) w from hs).c L 6
  have hlen := fun n ty => lru_len (hs.drewN n) ty
  have HK : Aside (hasB ns k = false) := hk
  have HN : Aside (ns = l1 ++ n :: l2) := hns
  have HO : Aside (oldL ns = some n) := ho
  clear hns ho
  clear hk
  go_enter Try.func22, Try.ntmps22
  go_wp2_with (go_at_call 20; refine hc.mono ?_; rintro e w' ⟨rfl, rfl⟩)
  go_quiet (fail)
  have hs1 := hs.drewN nq
  have hold := oldest_any L M cap ns F _ hs1
  have e1 : oldK ns = n.key := by unfold oldK; rw [HO.out]; rfl
  have e2 : oldB ns = true := by unfold oldB; rw [HO.out]; rfl
  rw [e1, e2] at hold
  clear e1 e2
  clear hlen h0 h6 hc
  generalize w.drewN nq = wq at hs1 hold ⊢
  clear hs
  have hrem := remove_sl L M cap l1 n l2 F wq (HN.out ▸ hs1) (HN.out ▸ hd)
  go_wp2_with (first | (go_at_call 25; refine hold.mono ?_; rintro e w' ⟨rfl, rfl⟩) | (go_at_call 69; fail))
  refine hrem.mono ?_
  rintro e w0 ⟨rfl, hs2'⟩
  clear hrem hold hs1
  have hd' : Keyd (l1 ++ l2) := by
    have := hd
    rw [HN.out] at this
    rw [← outL_found this]
    exact keyd_out this _
  have hne : ∀ m ∈ l1 ++ l2, m.key ≠ k := by
    have := HK.out
    rw [HN.out] at this
    simp only [hasB, List.any_eq_false] at this
    intro m hm
    have hm' : m ∈ l1 ++ n :: l2 := by simp only [List.mem_append, List.mem_cons] at hm ⊢; rcases hm with h | h <;> simp [h]
    simpa using this m hm'
  clear hd hl HK HO HN
  have hs2 : Sat (core TL L M cap * (pmp M (l1 ++ l2) * (chain (ring L (l1 ++ l2)) * items TI (l1 ++ l2))) * F) w0 := hs2'
  have hs3 := hs2.alloc #[.int .i64 k, .int .i64 0, .bool false, .pointer none, .pointer none] TI
  have h6 := hs2.c L 6
  have h6' := hs3.c L 6
  obtain ⟨ms, o, hp, ho, hs4⟩ := Sat.pmp_open (hs3.take (pmp M (l1 ++ l2)))
  obtain ⟨o', ho', hup⟩ := run_mapUpdate_mp keyOk3 Try.underlying104 hs4.obj ho k (.pointer (some ⟨w0.heap.size, 0, none⟩))
  have hs5 := hs4.setRaw o'
  have hperm := mput_perm hp hd' (n := ⟨w0.heap.size, k, 0, false⟩) hne
  have hs6 := Sat.pmp_shut hperm ho' hs5
  obtain ⟨R2, hR3, hR4⟩ := ring_last L (l1 ++ l2)
  have hs7 := hs6.eq (B := edge (before L (l1 ++ l2)) (L, 1) * (Sl.cell w0.heap.size 3 (.pointer none) * Sl.cell w0.heap.size 4 (.pointer none)) *
      (R2 * (core TL L M cap * (pmp M ((l1 ++ l2) ++ [⟨w0.heap.size, k, 0, false⟩]) * (items TI (l1 ++ l2) * item TI ⟨w0.heap.size, k, 0, false⟩))) * F)) (by
    rw [hR3]
    simp only [block, cells, item, List.length_cons, List.length_nil, sep_one, Nat.reduceAdd, Nat.zero_add]
    ac_rfl)
  clear hs6 hs5 hs4 hs3 hs2 hperm hne hp ho ho'
  go_wp2_with fail
  refine (last_sl L w0.heap.size (before L (l1 ++ l2)) _ _ _ _ hs7).mono ?_
  rintro e w2 ⟨rfl, hs8⟩
  clear hs7 hup h6 h6'
  go_wp2
  go_ret3
  refine ⟨w0.heap.size, rfl, hs8.eq ?_⟩
  unfold lruP
  rw [hR4]
  simp only [items_append, items, sep_one]
  ac_rfl

end Go.Proofs.Ytjhkmmpgjiciiaa
