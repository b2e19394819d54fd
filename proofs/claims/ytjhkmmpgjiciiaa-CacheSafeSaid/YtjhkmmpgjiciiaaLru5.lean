/-
  Marked: the keys that are marked, rising.
-/
import Derived.Test.YtjhkmmpgjiciiaaLru4
import Derived.Test.YtjhkmmpgjiciiaaSort
namespace Go.Proofs.Ytjhkmmpgjiciiaa
set_option linter.unusedSimpArgs false
set_option linter.unusedVariables false
open Go.RowKit Go.Sl Go.Lru

def markedK (ns : List Nd) : List Int := (ns.filter (·.mkd)).map (·.key)

theorem sortI_perm {l l' : List Int} (h : l.Perm l') : sortI l = sortI l' := by
  have tr : ∀ a b c : Int, decide (a ≤ b) = true → decide (b ≤ c) = true → decide (a ≤ c) = true := by intro a b c; simp; omega
  have tot : ∀ a b : Int, (decide (a ≤ b) || decide (b ≤ a)) = true := by intro a b; simp; omega
  have h1 := List.pairwise_mergeSort tr tot l
  have h2 := List.pairwise_mergeSort tr tot l'
  have hp : (sortI l).Perm (sortI l') := (List.mergeSort_perm l _).trans (h.trans (List.mergeSort_perm l' _).symm)
  exact hp.eq_of_pairwise (fun a b _ _ hab hba => by simp at hab hba; omega) h1 h2

theorem perm_pick {rem : List (Int × Value)} {ns1 : List Nd} (h : rem.Perm (ns1.map kv)) {i : Nat} {p : Int × Value} (hi : rem[i]? = some p) :
    ∃ l1 n l2, ns1 = l1 ++ n :: l2 ∧ kv n = p ∧ (rem.eraseIdx i).Perm ((l1 ++ l2).map kv) := by
  have hm : p ∈ ns1.map kv := h.mem_iff.1 (List.mem_of_getElem? hi)
  obtain ⟨n, hn, rfl⟩ := List.mem_map.1 hm
  obtain ⟨l1, l2, rfl⟩ := List.append_of_mem hn
  refine ⟨l1, n, l2, rfl, rfl, ?_⟩
  have h1 : rem.Perm (kv n :: rem.eraseIdx i) := perm_eraseIdx rem i _ hi
  have h2 : ((l1 ++ n :: l2).map kv).Perm (kv n :: (l1 ++ l2).map kv) := by
    simp only [List.map_append, List.map_cons]
    exact List.perm_middle
  exact (List.perm_cons _).1 (h1.symm.trans (h.trans h2))

/-- what a round over the places holds -/
def MarkRel (ns : List Nd) (rem : List (Int × Value)) (ks : List Int) : Prop := ∃ ns1 : List Nd, rem.Perm (ns1.map kv) ∧ (∀ n ∈ ns1, n ∈ ns) ∧ (ks ++ markedK ns1).Perm (markedK ns) ∧ ks.length + ns1.length ≤ ns.length

theorem MarkRel.step {ns : List Nd} {rem : List (Int × Value)} {ks : List Int} (h : MarkRel ns rem ks) {i : Nat} {k : Int} {v : Value} (hi : rem[i]? = some (k, v)) :
    ∃ n ∈ ns, k = n.key ∧ v = .pointer (some ⟨n.b, 0, none⟩) ∧ ks.length < ns.length ∧ MarkRel ns (rem.eraseIdx i) (if n.mkd then ks ++ [n.key] else ks) := by
  obtain ⟨ns1, h1, h2, h3, h4⟩ := h
  obtain ⟨l1, n, l2, rfl, hkv, hp⟩ := perm_pick h1 hi
  simp only [kv, Prod.mk.injEq] at hkv
  simp only [List.length_append, List.length_cons] at h4
  refine ⟨n, h2 n (by simp), hkv.1.symm, hkv.2.symm, by omega, l1 ++ l2, hp, fun m hm => h2 m (by simp only [List.mem_append, List.mem_cons] at hm ⊢; rcases hm with h | h <;> simp [h]), ?_, ?_⟩
  · refine List.Perm.trans ?_ h3
    unfold markedK
    simp only [List.filter_append, List.filter_cons, List.map_append]
    cases hm : n.mkd with
    | false => simp
    | true =>
      simp only [if_true, List.map_cons, List.append_assoc]
      refine List.Perm.append_left ks ?_
      simp only [List.singleton_append]
      exact List.perm_middle.symm
  · split
    · simp; omega
    · simp; omega

theorem lru_mark {L M : Nat} {cap : Int} {ns : List Nd} {n : Nd} (hn : n ∈ ns) {o oi : Obj} {it : Nat} {F : Assn} {w : World} (hs : Sat (raw M o * (raw it oi * (core TL L M cap * (chain (ring L ns) * items TI ns) * F))) w) :
    w.cell? ⟨n.b, 2, none⟩ = some (.bool n.mkd) := by
  obtain ⟨l1, l2, rfl⟩ := List.append_of_mem hn
  rw [items_append, items] at hs
  unfold item at hs
  exact hs.c n.b 2

set_option maxHeartbeats 400000 in
theorem marked_any (L M : Nat) (cap : Int) (ns : List Nd) (F : Assn) (w : World) (hs : Sat (lruP TL TI L M cap ns * F) w) (hn : ns.length ≤ 4096) :
    Calls Try.prog 41 #[.pointer (some ⟨L, 0, none⟩)] w fun e w' => ∃ a n c, e = .returned (.slice a n c) ∧ Sat (rw 3 1 (.slice a n c) ((sortI (markedK ns)).map (Value.int .i64)) * (lruP TL TI L M cap ns * F)) w' := by
  obtain ⟨i0, E⟩ := elemInt
  have hs0 : Sat (core TL L M cap * (pmp M ns * (chain (ring L ns) * items TI ns)) * F) w := hs
  have h6 := hs0.c L 6
  obtain ⟨ms, o, hp, ho, hs1⟩ := Sat.pmp_open (hs0.take (pmp M ns))
  obtain ⟨oi, hI, hrange⟩ := run_range_mp (P := Try.prog) Try.underlying104 hs1.obj ho
  have hs2 := hs1.alloc_raw oi
  have hs3 : Sat (raw M o * (raw w.heap.size oi * (core TL L M cap * (chain (ring L ns) * items TI ns) * F))) (w.alloc oi) := hs2.eq (by ac_rfl)
  clear hs2 hs1 hs0 hs
  go_enter Try.func41, Try.ntmps41
  go_wp2
  go_loopg [3] ns.length (fun k out wr => ∃ (a : Option Addr) (ks : List Int) (c : Nat) (oi' : Obj) (rem : List (Int × Value)), out = .slice a ks.length c ∧ Aside (k = rem.length ∧ Iter ikey M o oi' ms rem ∧ MarkRel ns rem ks) ∧
    Sat (rw 3 1 (.slice a ks.length c) (ks.map (Value.int .i64)) * (raw M o * (raw w.heap.size oi' * (core TL L M cap * (chain (ring L ns) * items TI ns) * F)))) wr)
  case atStart => exact ⟨none, [], 0, oi, ms, rfl, ⟨by simpa using hp.length_eq.symm, hI, ns, hp, fun _ h => h, by simp, by simp⟩, hs3.rw_nil⟩
  case round =>
    obtain ⟨a, ks, c, oi', rem, rfl, A, hsr⟩ := hrel
    obtain ⟨hgk, hI', hR⟩ := A.out
    have hsn := hsr.eq (B := raw M o * (raw w.heap.size oi' * (rw 3 1 (.slice a ks.length c) (ks.map (Value.int .i64)) * (core TL L M cap * (chain (ring L ns) * items TI ns) * F)))) (by ac_rfl)
    clear hI hs3 hrange h6
    rcases run_next_sl (P := Try.prog) hsn hI' with ⟨hrem, hnext⟩ | ⟨i, k, v, oi2, w2, hi, hnext, hI2, hs4, hentry⟩
    · subst hrem
      obtain ⟨ns1, hp1, _, hp2, hl2⟩ := hR
      have hns1 : ns1 = [] := by have := hp1.length_eq; simpa using this.symm
      subst hns1
      have hks : ks.Perm (markedK ns) := by simpa [markedK] using hp2
      have hkl : ks.length < 4611686018427387904 := by simp at hl2; omega
      have hsort := sortInts_sl a ks.length c ks _ wr hsr hkl
      rw [sortI_perm hks] at hsort
      have HI : Aside (Iter ikey M o oi' ms []) := hI'
      clear hsn hI' A hp1 hp2 hl2 hks hkl hsr
      go_wp2_with (go_at_call 85; refine hsort.mono ?_; rintro e w3 ⟨rfl, hs3⟩)
      go_ret
      refine ⟨a, ks.length, c, rfl, ?_⟩
      have hs5 := Sat.pmp_shut hp HI.out.mapIs (hs3.take (raw M o))
      refine Sat.weak (B := raw w.heap.size oi') (hs5.eq ?_)
      unfold lruP
      ac_rfl
    · obtain ⟨n, hn', rfl, rfl, hkl, hR2⟩ := hR.step hi
      have c2 := lru_mark (F := rw 3 1 (.slice a ks.length c) (ks.map (Value.int .i64)) * F) hn' (hs4.eq (by ac_rfl))
      have hlt : (rem.eraseIdx i).length < rem.length := by
        have := (List.getElem?_eq_some_iff.1 hi).1
        rw [List.length_eraseIdx]; split <;> omega
      have HL : Aside ((rem.eraseIdx i).length < rem.length ∧ gk = rem.length) := ⟨hlt, hgk⟩
      have HI : Aside (Iter ikey M o oi2 ms (rem.eraseIdx i)) := hI2
      clear hsn hI' A hsr hlt hgk hI2 hi hR
      cases hm : n.mkd with
      | false =>
        rw [hm] at c2 hR2
        have HR0 : MarkRel ns (rem.eraseIdx i) ks := by simpa using hR2
        have HR : Aside (MarkRel ns (rem.eraseIdx i) ks) := HR0
        clear HR0
        clear hm hR2
        go_wp2
        go_roundg (rem.eraseIdx i).length
        case measure => have := HL.out; omega
        case rel => exact ⟨a, ks, c, oi2, _, rfl, ⟨rfl, HI.out, HR.out⟩, hs4.eq (by ac_rfl)⟩
      | true =>
        rw [hm] at c2 hR2
        have HR0 : MarkRel ns (rem.eraseIdx i) (ks ++ [n.key]) := by simpa using hR2
        have HR : Aside (MarkRel ns (rem.eraseIdx i) (ks ++ [n.key])) := HR0
        clear HR0
        clear hm hR2
        have hs5 := hs4.alloc #[.int .i64 n.key] 3
        have hs6 := hs5.take (rw 3 1 (.slice a ks.length c) (ks.map (Value.int .i64)))
        have hx := Src.one_new (P := Try.prog) hs5 rfl
        clear hs5
        go_wp2_with (at_builtin; refine wpl_append_same E rfl (.tmp 22) (.tmp 24) rfl rfl rfl hs6 hx (by unfold maxLen; omega) (by omega) ?_; intro a' c' w' hs7 hnil; clear hnil hs6 hx)
        go_roundg (rem.eraseIdx i).length
        case measure => have := HL.out; omega
        case rel =>
          refine ⟨a', ks ++ [n.key], c', oi2, _, by simp, ⟨rfl, HI.out, HR.out⟩, ?_⟩
          simp only [List.length_append, List.length_cons, List.length_nil, List.map_append, List.map_cons, List.map_nil, Nat.zero_add]
          refine Sat.weak (B := block w2.heap.size 3 [.int .i64 n.key]) (hs7.eq ?_)
          ac_rfl

set_option maxHeartbeats 400000 in
theorem oldest_nil (w : World) :
    Calls Try.prog 25 #[.pointer none] w fun e w' => e = .returned (.tuple #[.int .i64 0, .bool false]) ∧ w = w' := by
  go_enter Try.func25, Try.ntmps25
  go_wp2
  go_ret2
  exact ⟨rfl, rfl⟩

set_option maxHeartbeats 400000 in
theorem keys_nil (w : World) :
    Calls Try.prog 24 #[.pointer none] w fun e w' => e = .returned (.slice none 0 0) ∧ w = w' := by
  go_enter Try.func24, Try.ntmps24
  go_wp2
  go_ret
  exact ⟨rfl, rfl⟩

set_option maxHeartbeats 400000 in
theorem marked_nil (w : World) :
    Calls Try.prog 41 #[.pointer none] w fun e w' => e = .returned (.slice none 0 0) ∧ w = w' := by
  go_enter Try.func41, Try.ntmps41
  go_wp2
  go_ret
  exact ⟨rfl, rfl⟩

set_option maxHeartbeats 400000 in
theorem drop_nil (k : Int) (w : World) :
    Calls Try.prog 26 #[.pointer none, .int .i64 k] w fun e w' => e = .returned (.bool false) ∧ w = w' := by
  go_enter Try.func26, Try.ntmps26
  go_wp2_with (go_at_call 66; refine (find_nil _ _).mono ?_; rintro e w' ⟨rfl, rfl⟩)
  go_ret
  exact ⟨rfl, rfl⟩

set_option maxHeartbeats 400000 in
theorem pin_nil (k : Int) (w : World) :
    Calls Try.prog 23 #[.pointer none, .int .i64 k] w fun e w' => e = .returned (.bool false) ∧ w = w' := by
  go_enter Try.func23, Try.ntmps23
  go_wp2_with (go_at_call 66; refine (find_nil _ _).mono ?_; rintro e w' ⟨rfl, rfl⟩)
  go_ret
  exact ⟨rfl, rfl⟩

set_option maxHeartbeats 400000 in
theorem unpin_nil (k : Int) (w : World) :
    Calls Try.prog 27 #[.pointer none, .int .i64 k] w fun e w' => e = .returned (.bool false) ∧ w = w' := by
  go_enter Try.func27, Try.ntmps27
  go_wp2_with (go_at_call 66; refine (find_nil _ _).mono ?_; rintro e w' ⟨rfl, rfl⟩)
  go_ret
  exact ⟨rfl, rfl⟩

set_option maxHeartbeats 400000 in
theorem mark_nil (k : Int) (on : Bool) (w : World) :
    Calls Try.prog 39 #[.pointer none, .int .i64 k, .bool on] w fun e w' => e = .returned (.bool false) ∧ w = w' := by
  go_enter Try.func39, Try.ntmps39
  go_wp2_with (go_at_call 66; refine (find_nil _ _).mono ?_; rintro e w' ⟨rfl, rfl⟩)
  go_ret
  exact ⟨rfl, rfl⟩

end Go.Proofs.Ytjhkmmpgjiciiaa
