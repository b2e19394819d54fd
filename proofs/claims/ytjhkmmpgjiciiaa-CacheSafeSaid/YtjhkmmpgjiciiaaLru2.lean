/-
  Walks of package lru's methods: Use, Drop, Pin, Unpin, Mark, on an lru of any items.
-/
import Derived.Test.YtjhkmmpgjiciiaaLru1
namespace Go.Proofs.Ytjhkmmpgjiciiaa
set_option linter.unusedSimpArgs false
set_option linter.unusedVariables false
open Go.RowKit Go.Sl Go.Lru

def Keyd (ns : List Nd) : Prop := (ns.map (·.key)).Nodup
def outL (ns : List Nd) (k : Int) : List Nd := ns.filter fun n => n.key != k
def useL (ns : List Nd) (k : Int) : List Nd := outL ns k ++ ns.filter fun n => n.key == k
def atL (f : Nd → Nd) (ns : List Nd) (k : Int) : List Nd := ns.map fun n => if n.key = k then f n else n
def getL (ns : List Nd) (k : Int) : Option Nd := ns.find? fun n => n.key == k

theorem keyd_ne {l1 : List Nd} {n : Nd} {l2 : List Nd} (h : Keyd (l1 ++ n :: l2)) : (∀ m ∈ l1, m.key ≠ n.key) ∧ ∀ m ∈ l2, m.key ≠ n.key := by
  unfold Keyd at h
  simp only [List.map_append, List.map_cons, List.nodup_append, List.nodup_cons, List.mem_cons, List.mem_map] at h
  obtain ⟨_, ⟨h2, _⟩, h3⟩ := h
  exact ⟨fun m hm e => h3 m.key ⟨m, hm, rfl⟩ n.key (.inl rfl) e, fun m hm e => h2 ⟨m, hm, e⟩⟩

theorem filter_ne {l : List Nd} {k : Int} (h : ∀ m ∈ l, m.key ≠ k) : (l.filter fun n => n.key != k) = l := List.filter_eq_self.2 fun m hm => by simpa using h m hm
theorem filter_eq {l : List Nd} {k : Int} (h : ∀ m ∈ l, m.key ≠ k) : (l.filter fun n => n.key == k) = [] := List.filter_eq_nil_iff.2 fun m hm => by simpa using h m hm

theorem outL_found {l1 : List Nd} {n : Nd} {l2 : List Nd} (h : Keyd (l1 ++ n :: l2)) : outL (l1 ++ n :: l2) n.key = l1 ++ l2 := by
  obtain ⟨a, b⟩ := keyd_ne h
  simp [outL, List.filter_append, filter_ne a, filter_ne b]
theorem useL_found {l1 : List Nd} {n : Nd} {l2 : List Nd} (h : Keyd (l1 ++ n :: l2)) : useL (l1 ++ n :: l2) n.key = l1 ++ l2 ++ [n] := by
  obtain ⟨a, b⟩ := keyd_ne h
  rw [useL, outL_found h]
  simp [List.filter_append, filter_eq a, filter_eq b]
theorem atL_found {f : Nd → Nd} {l1 : List Nd} {n : Nd} {l2 : List Nd} (h : Keyd (l1 ++ n :: l2)) : atL f (l1 ++ n :: l2) n.key = l1 ++ f n :: l2 := by
  obtain ⟨a, b⟩ := keyd_ne h
  have e : ∀ l : List Nd, (∀ m ∈ l, m.key ≠ n.key) → (l.map fun m => if m.key = n.key then f m else m) = l := by
    intro l hl
    exact (List.map_congr_left (fun m hm => if_neg (hl m hm))).trans (List.map_id' l)
  simp [atL, List.map_append, e _ a, e _ b]
theorem outL_none {ns : List Nd} {k : Int} (h : ∀ m ∈ ns, m.key ≠ k) : outL ns k = ns := filter_ne h
theorem useL_none {ns : List Nd} {k : Int} (h : ∀ m ∈ ns, m.key ≠ k) : useL ns k = ns := by rw [useL, outL_none h, filter_eq h, List.append_nil]
theorem atL_none {f : Nd → Nd} {ns : List Nd} {k : Int} (h : ∀ m ∈ ns, m.key ≠ k) : atL f ns k = ns :=
  (List.map_congr_left (fun m hm => if_neg (h m hm))).trans (List.map_id' ns)
theorem getL_found {l1 : List Nd} {n : Nd} {l2 : List Nd} (h : Keyd (l1 ++ n :: l2)) : getL (l1 ++ n :: l2) n.key = some n := by
  obtain ⟨a, b⟩ := keyd_ne h
  have : l1.find? (fun m => m.key == n.key) = none := List.find?_eq_none.2 fun m hm => by simpa using a m hm
  simp [getL, List.find?_append, this]
theorem getL_none {ns : List Nd} {k : Int} (h : ∀ m ∈ ns, m.key ≠ k) : getL ns k = none := List.find?_eq_none.2 fun m hm => by simpa using h m hm
theorem hasB_found {l1 : List Nd} {n : Nd} {l2 : List Nd} : hasB (l1 ++ n :: l2) n.key = true := by simp [hasB]
theorem hasB_none {ns : List Nd} {k : Int} (h : ∀ m ∈ ns, m.key ≠ k) : hasB ns k = false := by
  simp only [hasB, List.any_eq_false]; intro n hn; simpa using h n hn

theorem keyd_out {ns : List Nd} (h : Keyd ns) (k : Int) : Keyd (outL ns k) := by
  unfold Keyd outL at *
  exact h.sublist (List.Sublist.map _ List.filter_sublist)
theorem use_perm (ns : List Nd) (k : Int) : (useL ns k).Perm ns := by
  unfold useL outL
  have h := List.filter_append_perm (fun n : Nd => n.key != k) ns
  have e : (fun n : Nd => !(n.key != k)) = fun n => n.key == k := by funext n; simp [bne]
  rw [e] at h
  exact h
theorem keyd_use {ns : List Nd} (h : Keyd ns) (k : Int) : Keyd (useL ns k) := ((use_perm ns k).map (fun n : Nd => n.key)).nodup_iff.2 h
theorem keyd_at {f : Nd → Nd} (hf : ∀ n, (f n).key = n.key) {ns : List Nd} (h : Keyd ns) (k : Int) : Keyd (atL f ns k) := by
  have : (atL f ns k).map (·.key) = ns.map (·.key) := by
    unfold atL
    rw [List.map_map]
    apply List.map_congr_left
    intro n _
    simp only [Function.comp]
    split
    · exact hf n
    · rfl
  unfold Keyd
  rw [this]; exact h

set_option maxHeartbeats 400000 in
theorem use_any (L M : Nat) (cap : Int) (ns : List Nd) (k : Int) (F : Assn) (w : World) (hs : Sat (lruP TL TI L M cap ns * F) w) (hd : Keyd ns) :
    Calls Try.prog 21 #[.pointer (some ⟨L, 0, none⟩), .int .i64 k] w fun e w' => e = .returned (.bool (hasB ns k)) ∧ Sat (lruP TL TI L M cap (useL ns k) * F) w' := by
  rcases find_cases ns k with ⟨l1, n, l2, rfl, rfl⟩ | hk
  · rw [hasB_found, useL_found hd]
    obtain ⟨R, hR1, hR2⟩ := lru_around L M cap l1 n l2
    obtain ⟨R2, hR3, hR4⟩ := ring_last L (l1 ++ l2)
    have hs0 := hs
    rw [hR1, sep_assoc] at hs0
    go_enter Try.func21, Try.ntmps21
    go_wp2_with (go_at_call 66; refine (find_found _ _ _ _ _ _ _ _ hs hd).mono ?_; rintro e w' ⟨rfl, rfl⟩)
    refine (cut_sl (n.b, 0) (before L l1) (behind L l2) _ _ hs0).mono ?_
    rintro e w1 ⟨rfl, hs1⟩
    have hs2 : Sat (edge (before L (l1 ++ l2)) (L, 1) * (Sl.cell n.b 3 (pt (before L l1)) * Sl.cell n.b 4 (pt (behind L l2))) * (R2 * (core TL L M cap * (pmp M (l1 ++ n :: l2) * (items TI l1 * (item TI n * items TI l2)) * F)))) w1 := by
      refine hs1.eq ?_
      have e1 : edge (before L l1) (behind L l2) * R = edge (before L (l1 ++ l2)) (L, 1) * R2 := hR2.symm.trans hR3
      simp only [Nat.zero_add]
      calc _ = (edge (before L l1) (behind L l2) * R) * ((Sl.cell n.b 3 (pt (before L l1)) * Sl.cell n.b 4 (pt (behind L l2))) * (core TL L M cap * (pmp M (l1 ++ n :: l2) * (items TI l1 * (item TI n * items TI l2)) * F))) := by ac_rfl
        _ = _ := by rw [e1]; ac_rfl
    clear hs0 hs1 hs
    go_wp2_with fail
    refine (last_sl L n.b (before L (l1 ++ l2)) _ _ _ _ hs2).mono ?_
    rintro e w2 ⟨rfl, hs3⟩
    clear hs2
    go_wp2
    go_ret
    refine ⟨rfl, hs3.eq ?_⟩
    have hp : (l1 ++ n :: l2).Perm (l1 ++ l2 ++ [n]) := by
      rw [List.append_assoc]; exact List.Perm.append_left l1 (List.perm_append_singleton n l2).symm
    unfold lruP
    rw [hR4, pmp_perm hp, ← items_perm hp, items_append, items]
    ac_rfl
  · rw [hasB_none hk, useL_none hk]
    go_enter Try.func21, Try.ntmps21
    go_wp2_with (go_at_call 66; refine (find_none _ _ _ _ _ _ _ hs hd hk).mono ?_; rintro e w' ⟨rfl, rfl⟩)
    go_ret
    exact ⟨rfl, hs⟩

set_option maxHeartbeats 400000 in
theorem use_nil (k : Int) (w : World) :
    Calls Try.prog 21 #[.pointer none, .int .i64 k] w fun e w' => e = .returned (.bool false) ∧ w = w' := by
  go_enter Try.func21, Try.ntmps21
  go_wp2_with (go_at_call 66; refine (find_nil _ _).mono ?_; rintro e w' ⟨rfl, rfl⟩)
  go_ret
  exact ⟨rfl, rfl⟩

/-- the list around one item -/
theorem lru_item (L M : Nat) (cap : Int) (l1 : List Nd) (n : Nd) (l2 : List Nd) (F : Assn) :
    lruP TL TI L M cap (l1 ++ n :: l2) * F = item TI n * (core TL L M cap * (pmp M (l1 ++ n :: l2) * (chain (ring L (l1 ++ n :: l2)) * (items TI l1 * items TI l2))) * F) := by
  unfold lruP
  rw [items_append, items]
  ac_rfl

theorem lru_item_at (L M : Nat) (cap : Int) (l1 : List Nd) (n n' : Nd) (l2 : List Nd) (F : Assn) (hb : n'.b = n.b) (hk : n'.key = n.key) :
    item TI n' * (core TL L M cap * (pmp M (l1 ++ n :: l2) * (chain (ring L (l1 ++ n :: l2)) * (items TI l1 * items TI l2))) * F) = lruP TL TI L M cap (l1 ++ n' :: l2) * F := by
  rw [lru_item]
  have e1 : pmp M (l1 ++ n :: l2) = pmp M (l1 ++ n' :: l2) := by
    have : (l1 ++ n :: l2).map kv = (l1 ++ n' :: l2).map kv := by simp [kv, hb, hk]
    unfold pmp; rw [this]
  have e2 : ring L (l1 ++ n :: l2) = ring L (l1 ++ n' :: l2) := by simp [ring, hb]
  rw [e1, e2]

set_option maxHeartbeats 400000 in
theorem pin_any (L M : Nat) (cap : Int) (ns : List Nd) (k : Int) (F : Assn) (w : World) (hs : Sat (lruP TL TI L M cap ns * F) w) (hd : Keyd ns) (hb : ∀ n ∈ ns, 0 ≤ n.pins ∧ n.pins < 4611686018427387904) :
    Calls Try.prog 23 #[.pointer (some ⟨L, 0, none⟩), .int .i64 k] w fun e w' => e = .returned (.bool (hasB ns k)) ∧ Sat (lruP TL TI L M cap (atL (fun n => { n with pins := n.pins + 1 }) ns k) * F) w' := by
  rcases find_cases ns k with ⟨l1, n, l2, rfl, rfl⟩ | hk
  · rw [hasB_found, atL_found hd]
    have hn := hb n (by simp)
    have hs0 := hs
    rw [lru_item] at hs0
    unfold item at hs0
    have c1 := hs0.c n.b 1
    have f1 := hs0.f n.b 1
    have s1 := hs0.upd n.b 1 (.int .i64 (n.pins + 1))
    have s2 : Sat (lruP TL TI L M cap (l1 ++ { n with pins := n.pins + 1 } :: l2) * F) (w.setCell ⟨n.b, 1, none⟩ (.int .i64 (n.pins + 1))) := by
      refine s1.eq ?_
      rw [← lru_item_at L M cap l1 n { n with pins := n.pins + 1 } l2 F rfl rfl]
      rfl
    clear hs0 s1 hb
    obtain ⟨hn1, hn2⟩ := hn
    go_enter Try.func23, Try.ntmps23
    go_wp2_with (go_at_call 66; refine (find_found _ _ _ _ _ _ _ _ hs hd).mono ?_; rintro e w' ⟨rfl, rfl⟩)
    go_ret
    exact ⟨rfl, s2⟩
  · rw [hasB_none hk, atL_none hk]
    clear hb
    go_enter Try.func23, Try.ntmps23
    go_wp2_with (go_at_call 66; refine (find_none _ _ _ _ _ _ _ hs hd hk).mono ?_; rintro e w' ⟨rfl, rfl⟩)
    go_ret
    exact ⟨rfl, hs⟩

set_option maxHeartbeats 400000 in
theorem unpin_any (L M : Nat) (cap : Int) (ns : List Nd) (k : Int) (F : Assn) (w : World) (hs : Sat (lruP TL TI L M cap ns * F) w) (hd : Keyd ns) (hb : ∀ n ∈ ns, 0 ≤ n.pins ∧ n.pins < 4611686018427387904) :
    Calls Try.prog 27 #[.pointer (some ⟨L, 0, none⟩), .int .i64 k] w fun e w' => e = .returned (.bool (ns.any fun n => n.key == k && n.pins != 0)) ∧ Sat (lruP TL TI L M cap (atL (fun n => { n with pins := if n.pins = 0 then 0 else n.pins - 1 }) ns k) * F) w' := by
  rcases find_cases ns k with ⟨l1, n, l2, rfl, rfl⟩ | hk
  · rw [atL_found hd]
    have hn := hb n (by simp)
    obtain ⟨ha1, ha2⟩ := keyd_ne hd
    have hany : ((l1 ++ n :: l2).any fun m => m.key == n.key && m.pins != 0) = (n.pins != 0) := by
      have e : ∀ l : List Nd, (∀ m ∈ l, m.key ≠ n.key) → (l.any fun m => m.key == n.key && m.pins != 0) = false := by
        intro l hl
        simp only [List.any_eq_false]
        intro m hm
        have := hl m hm
        simp [this]
      simp [List.any_append, e _ ha1, e _ ha2]
    rw [hany]
    have hs0 := hs
    rw [lru_item] at hs0
    unfold item at hs0
    have c1 := hs0.c n.b 1
    have f1 := hs0.f n.b 1
    obtain ⟨hn1, hn2⟩ := hn
    clear hany ha1 ha2
    by_cases hp : n.pins = 0
    · have hp1 : (n.pins == 0) = true := by simpa using hp
      have hp2 : (n.pins != 0) = false := by simpa using hp
      have hn' : ({ n with pins := if n.pins = 0 then 0 else n.pins - 1 } : Nd) = n := by cases n; simp at hp; simp [hp]
      rw [hn', hp2]
      clear hs0 hb hn' hp
      go_enter Try.func27, Try.ntmps27
      go_wp2_with (go_at_call 66; refine (find_found _ _ _ _ _ _ _ _ hs hd).mono ?_; rintro e w' ⟨rfl, rfl⟩)
      go_ret
      exact ⟨rfl, hs⟩
    · have hp1 : (n.pins == 0) = false := by simpa using hp
      have hp2 : (n.pins != 0) = true := by simpa using hp
      have s1 := hs0.upd n.b 1 (.int .i64 (n.pins - 1))
      have s2 : Sat (lruP TL TI L M cap (l1 ++ { n with pins := n.pins - 1 } :: l2) * F) (w.setCell ⟨n.b, 1, none⟩ (.int .i64 (n.pins - 1))) := by
        refine s1.eq ?_
        rw [← lru_item_at L M cap l1 n { n with pins := n.pins - 1 } l2 F rfl rfl]
        rfl
      rw [hp2, if_neg hp]
      clear hs0 s1 hb hp
      go_enter Try.func27, Try.ntmps27
      go_wp2_with (go_at_call 66; refine (find_found _ _ _ _ _ _ _ _ hs hd).mono ?_; rintro e w' ⟨rfl, rfl⟩)
      go_ret
      exact ⟨rfl, s2⟩
  · have hany : (ns.any fun m => m.key == k && m.pins != 0) = false := by
      simp only [List.any_eq_false]
      intro m hm
      have := hk m hm
      simp [this]
    rw [hany, atL_none hk]
    clear hb hany
    go_enter Try.func27, Try.ntmps27
    go_wp2_with (go_at_call 66; refine (find_none _ _ _ _ _ _ _ hs hd hk).mono ?_; rintro e w' ⟨rfl, rfl⟩)
    go_ret
    exact ⟨rfl, hs⟩

set_option maxHeartbeats 400000 in
theorem mark_any (L M : Nat) (cap : Int) (ns : List Nd) (k : Int) (on : Bool) (F : Assn) (w : World) (hs : Sat (lruP TL TI L M cap ns * F) w) (hd : Keyd ns) :
    Calls Try.prog 39 #[.pointer (some ⟨L, 0, none⟩), .int .i64 k, .bool on] w fun e w' => e = .returned (.bool (hasB ns k)) ∧ Sat (lruP TL TI L M cap (atL (fun n => { n with mkd := on }) ns k) * F) w' := by
  rcases find_cases ns k with ⟨l1, n, l2, rfl, rfl⟩ | hk
  · rw [hasB_found, atL_found hd]
    have hs0 := hs
    rw [lru_item] at hs0
    unfold item at hs0
    have c1 := hs0.c n.b 2
    have f1 := hs0.f n.b 2
    have s1 := hs0.upd n.b 2 (.bool on)
    have s2 : Sat (lruP TL TI L M cap (l1 ++ { n with mkd := on } :: l2) * F) (w.setCell ⟨n.b, 2, none⟩ (.bool on)) := by
      refine s1.eq ?_
      rw [← lru_item_at L M cap l1 n { n with mkd := on } l2 F rfl rfl]
      rfl
    clear hs0 s1
    go_enter Try.func39, Try.ntmps39
    go_wp2_with (go_at_call 66; refine (find_found _ _ _ _ _ _ _ _ hs hd).mono ?_; rintro e w' ⟨rfl, rfl⟩)
    go_ret
    exact ⟨rfl, s2⟩
  · rw [hasB_none hk, atL_none hk]
    go_enter Try.func39, Try.ntmps39
    go_wp2_with (go_at_call 66; refine (find_none _ _ _ _ _ _ _ hs hd hk).mono ?_; rintro e w' ⟨rfl, rfl⟩)
    go_ret
    exact ⟨rfl, hs⟩

set_option maxHeartbeats 400000 in
theorem drop_any (L M : Nat) (cap : Int) (ns : List Nd) (k : Int) (F : Assn) (w : World) (hs : Sat (lruP TL TI L M cap ns * F) w) (hd : Keyd ns) (hb : ∀ n ∈ ns, 0 ≤ n.pins) :
    Calls Try.prog 26 #[.pointer (some ⟨L, 0, none⟩), .int .i64 k] w fun e w' => e = .returned (.bool (ns.any fun n => n.key == k && n.pins == 0)) ∧
      Sat (lruP TL TI L M cap (if (ns.any fun n => n.key == k && n.pins == 0) then outL ns k else ns) * F) w' := by
  rcases find_cases ns k with ⟨l1, n, l2, rfl, rfl⟩ | hk
  · have hn := hb n (by simp)
    obtain ⟨ha1, ha2⟩ := keyd_ne hd
    have hany : ((l1 ++ n :: l2).any fun m => m.key == n.key && m.pins == 0) = (n.pins == 0) := by
      have e : ∀ l : List Nd, (∀ m ∈ l, m.key ≠ n.key) → (l.any fun m => m.key == n.key && m.pins == 0) = false := by
        intro l hl
        simp only [List.any_eq_false]
        intro m hm
        have := hl m hm
        simp [this]
      simp [List.any_append, e _ ha1, e _ ha2]
    rw [hany]
    have hs0 := hs
    rw [lru_item] at hs0
    unfold item at hs0
    have c1 := hs0.c n.b 1
    clear hany ha1 ha2 hs0 hb
    by_cases hp : n.pins = 0
    · have hp1 : ¬ (0 < n.pins) := by omega
      have hp2 : (n.pins == 0) = true := by simpa using hp
      rw [hp2, if_pos rfl, outL_found hd]
      clear hp
      go_enter Try.func26, Try.ntmps26
      go_wp2_with (first | (go_at_call 66; refine (find_found _ _ _ _ _ _ _ _ hs hd).mono ?_; rintro e w' ⟨rfl, rfl⟩) | (go_at_call 69; refine (remove_sl _ _ _ _ _ _ _ _ hs hd).mono ?_; rintro e w1 ⟨rfl, hs1⟩))
      go_ret
      exact ⟨rfl, hs1⟩
    · have hp1 : 0 < n.pins := by omega
      have hp2 : (n.pins == 0) = false := by simpa using hp
      rw [hp2, if_neg (by simp)]
      clear hp
      go_enter Try.func26, Try.ntmps26
      go_wp2_with (go_at_call 66; refine (find_found _ _ _ _ _ _ _ _ hs hd).mono ?_; rintro e w' ⟨rfl, rfl⟩)
      go_ret
      exact ⟨rfl, hs⟩
  · have hany : (ns.any fun m => m.key == k && m.pins == 0) = false := by
      simp only [List.any_eq_false]
      intro m hm
      have := hk m hm
      simp [this]
    rw [hany, if_neg (by simp)]
    clear hb hany
    go_enter Try.func26, Try.ntmps26
    go_wp2_with (go_at_call 66; refine (find_none _ _ _ _ _ _ _ hs hd hk).mono ?_; rintro e w' ⟨rfl, rfl⟩)
    go_ret
    exact ⟨rfl, hs⟩

end Go.Proofs.Ytjhkmmpgjiciiaa
