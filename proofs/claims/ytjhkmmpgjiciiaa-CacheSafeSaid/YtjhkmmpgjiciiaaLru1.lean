/-
  Walks of package lru's small functions: find, Has, cut, last, remove.
-/
import Derived.Test.YtjhkmmpgjiciiaaLru0
import Derived.Test.YtjhkmmpgjiciiaaSlb
import Derived.Test.YtjhkmmpgjiciiaaProg
import Derived.WalkLawsBesides
import Derived.Deep.QuietTactic
import Derived.BigQuiet
namespace Go.Proofs.Ytjhkmmpgjiciiaa
set_option linter.unusedSimpArgs false
set_option linter.unusedVariables false
open Go.RowKit Go.Sl Go.Lru

abbrev TL : TypeId := 109
abbrev TI : TypeId := 107
abbrev TM : TypeId := 104

theorem keyOk3 : KeyOk Try.prog 3 ikey := int_keyOk Try.underlying3
theorem zeroI (w : World) : (zeroValue 105).run Try.prog w = .ok (.pointer none) w := by kernel_rfl

/-- what a lookup of the places gives -/
theorem look_found {M : Nat} {l1 : List Nd} {n : Nd} {l2 : List Nd} {F : Assn} {w : World} (hs : Sat (pmp M (l1 ++ n :: l2) * F) w) (hd : ((l1 ++ n :: l2).map (·.key)).Nodup) :
    (Instr.lookup TM (.map (some M)) (.int .i64 n.key) false).run Try.prog w = .ok (.pointer (some ⟨n.b, 0, none⟩)) w := by
  obtain ⟨ms, o, hp, ho, hs⟩ := Sat.pmp_open hs
  have := run_lookup_mp keyOk3 Try.underlying104 zeroI hs.obj ho n.key false
  rw [mget_perm hp (keys_nodup hd), mget_found rfl hd] at this
  simpa using this

theorem look_none {M : Nat} {ns : List Nd} {k : Int} {F : Assn} {w : World} (hs : Sat (pmp M ns * F) w) (hd : (ns.map (·.key)).Nodup) (hk : ∀ n ∈ ns, n.key ≠ k) :
    (Instr.lookup TM (.map (some M)) (.int .i64 k) false).run Try.prog w = .ok (.pointer none) w := by
  obtain ⟨ms, o, hp, ho, hs⟩ := Sat.pmp_open hs
  have := run_lookup_mp keyOk3 Try.underlying104 zeroI hs.obj ho k false
  rw [mget_perm hp (keys_nodup hd), mget_none hk] at this
  simpa using this

set_option maxHeartbeats 400000 in
theorem find_nil (k : Int) (w : World) :
    Calls Try.prog 66 #[.pointer none, .int .i64 k] w fun e w' => e = .returned (.pointer none) ∧ w = w' := by
  go_enter Try.func66, Try.ntmps66
  go_wp2
  go_ret
  exact ⟨rfl, rfl⟩

set_option maxHeartbeats 400000 in
theorem find_found (L M : Nat) (cap : Int) (l1 : List Nd) (n : Nd) (l2 : List Nd) (F : Assn) (w : World) (hs : Sat (lruP TL TI L M cap (l1 ++ n :: l2) * F) w) (hd : ((l1 ++ n :: l2).map (·.key)).Nodup) :
    Calls Try.prog 66 #[.pointer (some ⟨L, 0, none⟩), .int .i64 n.key] w fun e w' => e = .returned (.pointer (some ⟨n.b, 0, none⟩)) ∧ w = w' := by
  unfold lruP at hs
  have h6 := hs.c L 6
  have hl := look_found (hs.take (pmp M _)) hd
  clear hs hd
  go_enter Try.func66, Try.ntmps66
  go_wp2
  go_ret
  exact ⟨rfl, rfl⟩

set_option maxHeartbeats 400000 in
theorem find_none (L M : Nat) (cap : Int) (ns : List Nd) (k : Int) (F : Assn) (w : World) (hs : Sat (lruP TL TI L M cap ns * F) w) (hd : (ns.map (·.key)).Nodup) (hk : ∀ n ∈ ns, n.key ≠ k) :
    Calls Try.prog 66 #[.pointer (some ⟨L, 0, none⟩), .int .i64 k] w fun e w' => e = .returned (.pointer none) ∧ w = w' := by
  unfold lruP at hs
  have h6 := hs.c L 6
  have hl := look_none (hs.take (pmp M _)) hd hk
  clear hs hd
  go_enter Try.func66, Try.ntmps66
  go_wp2
  go_ret
  exact ⟨rfl, rfl⟩

set_option maxHeartbeats 400000 in
theorem has_nil (k : Int) (w : World) :
    Calls Try.prog 20 #[.pointer none, .int .i64 k] w fun e w' => e = .returned (.bool false) ∧ w = w' := by
  go_enter Try.func20, Try.ntmps20
  go_wp2_with (go_at_call 66; refine (find_nil _ _).mono ?_; rintro e w' ⟨rfl, rfl⟩)
  go_ret
  exact ⟨rfl, rfl⟩

def hasB (ns : List Nd) (k : Int) : Bool := ns.any fun n => n.key == k

set_option maxHeartbeats 400000 in
theorem has_any (L M : Nat) (cap : Int) (ns : List Nd) (k : Int) (F : Assn) (w : World) (hs : Sat (lruP TL TI L M cap ns * F) w) (hd : (ns.map (·.key)).Nodup) :
    Calls Try.prog 20 #[.pointer (some ⟨L, 0, none⟩), .int .i64 k] w fun e w' => e = .returned (.bool (hasB ns k)) ∧ w = w' := by
  rcases find_cases ns k with ⟨l1, n, l2, rfl, rfl⟩ | hk
  · have e : hasB (l1 ++ n :: l2) n.key = true := by simp [hasB]
    rw [e]
    go_enter Try.func20, Try.ntmps20
    go_wp2_with (go_at_call 66; refine (find_found _ _ _ _ _ _ _ _ hs hd).mono ?_; rintro e w' ⟨rfl, rfl⟩)
    go_ret
    exact ⟨rfl, rfl⟩
  · have e : hasB ns k = false := by simp only [hasB, List.any_eq_false]; intro n hn; simpa using hk n hn
    rw [e]
    clear e
    go_enter Try.func20, Try.ntmps20
    go_wp2_with (go_at_call 66; refine (find_none _ _ _ _ _ _ _ hs hd hk).mono ?_; rintro e w' ⟨rfl, rfl⟩)
    go_ret
    exact ⟨rfl, rfl⟩

set_option maxHeartbeats 400000 in
theorem cut_sl (x p n : Nat × Nat) (w : World) (F : Assn)
    (hs : Sat (edge p x * edge x n * F) w) :
    Calls Try.prog 67 #[.pointer (some ⟨x.1, x.2, none⟩)] w fun e w' => e = .returned (.tuple #[]) ∧
      Sat (edge p n * (Sl.cell x.1 (x.2 + 3) (pt p) * Sl.cell x.1 (x.2 + 4) (pt n)) * F) w' := by
  obtain ⟨bx, ox⟩ := x
  obtain ⟨bp, op⟩ := p
  obtain ⟨bn, on⟩ := n
  simp only [edge, pt] at hs ⊢
  have h1 := hs.c bx (ox + 3)
  have h2 := hs.c bx (ox + 4)
  have h3 := hs.c bp (op + 4)
  have h4 := hs.c bn (on + 3)
  have f3 := hs.f bp (op + 4)
  have f4 := hs.f bn (on + 3)
  have s1 := hs.upd bp (op + 4) (.pointer (some ⟨bn, on, none⟩))
  have s2 := s1.upd bn (on + 3) (.pointer (some ⟨bp, op, none⟩))
  have t1 := hs.upd bn (on + 3) (.pointer (some ⟨bp, op, none⟩))
  have t2 := t1.upd bp (op + 4) (.pointer (some ⟨bn, on, none⟩))
  have g1 := s1.c bn (on + 3)
  have g2 := t1.c bp (op + 4)
  go_enter Try.func67, Try.ntmps67
  go_wp2
  go_region
  all_goals (go_end0; exact ⟨rfl, (Sat.drew (by first | exact s2.eq (by ac_rfl) | exact t2.eq (by ac_rfl)))⟩)

set_option maxHeartbeats 400000 in
theorem last_sl (L bx : Nat) (p : Nat × Nat) (v1 v2 : Value) (w : World) (F : Assn)
    (hs : Sat (edge p (L, 1) * (Sl.cell bx 3 v1 * Sl.cell bx 4 v2) * F) w) :
    Calls Try.prog 68 #[.pointer (some ⟨L, 0, none⟩), .pointer (some ⟨bx, 0, none⟩)] w fun e w' => e = .returned (.tuple #[]) ∧
      Sat (edge p (bx, 0) * edge (bx, 0) (L, 1) * F) w' := by
  obtain ⟨bp, op⟩ := p
  simp only [edge, pt, Nat.zero_add, Nat.reduceAdd] at hs ⊢
  have h1 := hs.c L 4
  have h2 := hs.c bx 3
  have h3 := hs.c bx 4
  have f2 := hs.f bx 3
  have f3 := hs.f bx 4
  have s1 := hs.upd bx 3 (.pointer (some ⟨bp, op, none⟩))
  have s2 := s1.upd bx 4 (.pointer (some ⟨L, 1, none⟩))
  have t1 := hs.upd bx 4 (.pointer (some ⟨L, 1, none⟩))
  have t2 := t1.upd bx 3 (.pointer (some ⟨bp, op, none⟩))
  have g1 := s1.c bx 4
  have g2 := t1.c bx 3
  have s3 := s2.upd bp (op + 4) (.pointer (some ⟨bx, 0, none⟩))
  have s4 := s3.upd L 4 (.pointer (some ⟨bx, 0, none⟩))
  have t3 := t2.upd bp (op + 4) (.pointer (some ⟨bx, 0, none⟩))
  have t4 := t3.upd L 4 (.pointer (some ⟨bx, 0, none⟩))
  have a1 := s2.c bx 3
  have a2 := s2.c bp (op + 4)
  have a3 := hs.f bp (op + 4)
  have a4 := s3.c L 4
  have a5 := hs.f L 4
  have b1 := t2.c bx 3
  have b2 := t2.c bp (op + 4)
  have b4 := t3.c L 4
  go_enter Try.func68, Try.ntmps68
  go_wp2
  go_region
  all_goals (go_wp2; go_end0; exact ⟨rfl, (Sat.drew (by first | exact s4.eq (by ac_rfl) | exact t4.eq (by ac_rfl)))⟩)

/-- the ring around one item, taken out of the list -/
theorem lru_around (L M : Nat) (cap : Int) (l1 : List Nd) (n : Nd) (l2 : List Nd) : ∃ R : Assn,
    (lruP TL TI L M cap (l1 ++ n :: l2) = edge (before L l1) (n.b, 0) * edge (n.b, 0) (behind L l2) * (core TL L M cap * (pmp M (l1 ++ n :: l2) * (R * (items TI l1 * (item TI n * items TI l2)))))) ∧
    (chain (ring L (l1 ++ l2)) = edge (before L l1) (behind L l2) * R) := by
  obtain ⟨R, h1, h2⟩ := ring_cut L l1 n l2
  refine ⟨R, ?_, h2⟩
  unfold lruP
  rw [h1, items_append, items]
  ac_rfl

set_option maxHeartbeats 400000 in
theorem remove_sl (L M : Nat) (cap : Int) (l1 : List Nd) (n : Nd) (l2 : List Nd) (F : Assn) (w : World) (hs : Sat (lruP TL TI L M cap (l1 ++ n :: l2) * F) w) (hd : ((l1 ++ n :: l2).map (·.key)).Nodup) :
    Calls Try.prog 69 #[.pointer (some ⟨L, 0, none⟩), .int .i64 n.key] w fun e w' => e = .returned (.tuple #[]) ∧ Sat (lruP TL TI L M cap (l1 ++ l2) * F) w' := by
  obtain ⟨R, hR1, hR2⟩ := lru_around L M cap l1 n l2
  have hs0 : Sat (core TL L M cap * (pmp M (l1 ++ n :: l2) * (chain (ring L (l1 ++ n :: l2)) * items TI (l1 ++ n :: l2))) * F) w := hs
  have h6 := hs0.c L 6
  have hl := look_found (hs0.take (pmp M _)) hd
  rw [hR1, sep_assoc] at hs
  clear hs0 hR1
  go_enter Try.func69, Try.ntmps69
  go_wp2_with fail
  refine (cut_sl (n.b, 0) (before L l1) (behind L l2) _ _ hs).mono ?_
  rintro e w1 ⟨rfl, hs1⟩
  have h6' := hs1.c L 6
  obtain ⟨ms, o, hp, ho, hs2⟩ := Sat.pmp_open (hs1.take (pmp M (l1 ++ n :: l2)))
  obtain ⟨o', ho', hdel⟩ := run_delete_mp keyOk3 Try.underlying104 hs2.obj ho n.key
  have hs3 := hs2.setRaw o'
  have hperm := mdel_perm hp (keys_nodup hd) n.key
  rw [mdel_found rfl hd] at hperm
  have hs4 := (Sat.pmp_shut hperm ho' hs3)
  clear hs3 hs2 hs1 hs ho ho' hp hperm
  go_wp2
  go_end0
  refine ⟨rfl, ?_⟩
  refine Sat.weak (B := item TI n * (Sl.cell n.b 3 (pt (before L l1)) * Sl.cell n.b 4 (pt (behind L l2)))) (hs4.eq ?_)
  unfold lruP
  rw [hR2, items_append]
  simp only [Nat.zero_add]
  ac_rfl

end Go.Proofs.Ytjhkmmpgjiciiaa
