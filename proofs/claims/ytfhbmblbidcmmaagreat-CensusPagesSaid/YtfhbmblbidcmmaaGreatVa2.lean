/-
  Of all versions the pages that are told are just those of their trees in the file in the form of the document, and a root that is none is refused. No condition. (part 2)
-/
import Derived.Test.YtfhbmblbidcmmaaGreatVa1
import Derived.Test.YtfhbmblbidcmmaaGreatProg
import Derived.WalkLawsBesides
import Derived.Deep.QuietTactic
import Derived.BigQuiet
set_option linter.unusedSimpArgs false
set_option linter.unusedVariables false
namespace Go.Proofs.YtfhbmblbidcmmaaGreat
set_option linter.unusedSimpArgs false
set_option linter.unusedVariables false
open Go.RowKit Go.Sl Go.Lru
abbrev TL : TypeId := 269
abbrev TI : TypeId := 266
abbrev TM : TypeId := 267
theorem keyOk3 : KeyOk Tryz.prog 3 ikey := int_keyOk Tryz.underlying3
theorem zeroI (w : World) : (zeroValue 264).run Tryz.prog w = .ok (.pointer none) w := by kernel_rfl
theorem look_found {M : Nat} {l1 : List Nd} {n : Nd} {l2 : List Nd} {F : Assn} {w : World} (hs : Sat (pmp M (l1 ++ n :: l2) * F) w) (hd : ((l1 ++ n :: l2).map (·.key)).Nodup) :
 (Instr.lookup TM (.map (some M)) (.int .i64 n.key) false).run Tryz.prog w = .ok (.pointer (some ⟨n.b, 0, none⟩)) w := by
 obtain ⟨ms, o, hp, ho, hs⟩ := Sat.pmp_open hs
 have := run_lookup_mp keyOk3 Tryz.underlying267 zeroI hs.obj ho n.key false
 rw [mget_perm hp (keys_nodup hd), mget_found rfl hd] at this
 simpa using this
theorem look_none {M : Nat} {ns : List Nd} {k : Int} {F : Assn} {w : World} (hs : Sat (pmp M ns * F) w) (hd : (ns.map (·.key)).Nodup) (hk : ∀ n ∈ ns, n.key ≠ k) :
 (Instr.lookup TM (.map (some M)) (.int .i64 k) false).run Tryz.prog w = .ok (.pointer none) w := by
 obtain ⟨ms, o, hp, ho, hs⟩ := Sat.pmp_open hs
 have := run_lookup_mp keyOk3 Tryz.underlying267 zeroI hs.obj ho k false
 rw [mget_perm hp (keys_nodup hd), mget_none hk] at this
 simpa using this
set_option maxHeartbeats 400000 in
theorem find_found (L M : Nat) (cap : Int) (l1 : List Nd) (n : Nd) (l2 : List Nd) (F : Assn) (w : World) (hs : Sat (lruP TL TI L M cap (l1 ++ n :: l2) * F) w) (hd : ((l1 ++ n :: l2).map (·.key)).Nodup) :
 Calls Tryz.prog 170 #[.pointer (some ⟨L, 0, none⟩), .int .i64 n.key] w fun e w' => e = .returned (.pointer (some ⟨n.b, 0, none⟩)) ∧ w = w' := by
 unfold lruP at hs
 have h6 := hs.c L 6
 have hl := look_found (hs.take (pmp M _)) hd
 clear hs hd
 go_enter Tryz.func170, Tryz.ntmps170
 go_wp2
 go_ret
 exact ⟨rfl, rfl⟩
set_option maxHeartbeats 400000 in
theorem find_none (L M : Nat) (cap : Int) (ns : List Nd) (k : Int) (F : Assn) (w : World) (hs : Sat (lruP TL TI L M cap ns * F) w) (hd : (ns.map (·.key)).Nodup) (hk : ∀ n ∈ ns, n.key ≠ k) :
 Calls Tryz.prog 170 #[.pointer (some ⟨L, 0, none⟩), .int .i64 k] w fun e w' => e = .returned (.pointer none) ∧ w = w' := by
 unfold lruP at hs
 have h6 := hs.c L 6
 have hl := look_none (hs.take (pmp M _)) hd hk
 clear hs hd
 go_enter Tryz.func170, Tryz.ntmps170
 go_wp2
 go_ret
 exact ⟨rfl, rfl⟩
def hasB (ns : List Nd) (k : Int) : Bool := ns.any fun n => n.key == k
set_option maxHeartbeats 400000 in
theorem has_any (L M : Nat) (cap : Int) (ns : List Nd) (k : Int) (F : Assn) (w : World) (hs : Sat (lruP TL TI L M cap ns * F) w) (hd : (ns.map (·.key)).Nodup) :
 Calls Tryz.prog 254 #[.pointer (some ⟨L, 0, none⟩), .int .i64 k] w fun e w' => e = .returned (.bool (hasB ns k)) ∧ w = w' := by
 rcases find_cases ns k with ⟨l1, n, l2, rfl, rfl⟩ | hk
 · have e : hasB (l1 ++ n :: l2) n.key = true := by simp [hasB]
   rw [e]
   go_enter Tryz.func254, Tryz.ntmps254
   go_wp2_with (go_at_call 170; refine (find_found _ _ _ _ _ _ _ _ hs hd).mono ?_; rintro e w' ⟨rfl, rfl⟩)
   go_ret
   exact ⟨rfl, rfl⟩
 · have e : hasB ns k = false := by simp only [hasB, List.any_eq_false]; intro n hn; simpa using hk n hn
   rw [e]
   clear e
   go_enter Tryz.func254, Tryz.ntmps254
   go_wp2_with (go_at_call 170; refine (find_none _ _ _ _ _ _ _ hs hd hk).mono ?_; rintro e w' ⟨rfl, rfl⟩)
   go_ret
   exact ⟨rfl, rfl⟩
set_option maxHeartbeats 400000 in
theorem cut_sl (x p n : Nat × Nat) (w : World) (F : Assn)
 (hs : Sat (edge p x * edge x n * F) w) :
 Calls Tryz.prog 227 #[.pointer (some ⟨x.1, x.2, none⟩)] w fun e w' => e = .returned (.tuple #[]) ∧
  Sat (edge p n * (Sl.cell x.1 (x.2 + 3) (pt p) * Sl.cell x.1 (x.2 + 4) (pt n)) * F) w' := by
 obtain ⟨bx, ox⟩ := x
 obtain ⟨bp, op⟩ := p
 obtain ⟨bn, on⟩ := n
 simp only [edge, pt] at hs ⊢
 have h1 := hs.c bx (ox + 3)
 have h2 := hs.c bx (ox + 4)
 have h3 := hs.c bp (op + 4)
 have h4 := hs.c bn (on + 3)
 have f3 := hs.f bp (op + 4)
 have f4 := hs.f bn (on + 3)
 have s1 := hs.upd bp (op + 4) (.pointer (some ⟨bn, on, none⟩))
 have s2 := s1.upd bn (on + 3) (.pointer (some ⟨bp, op, none⟩))
 have t1 := hs.upd bn (on + 3) (.pointer (some ⟨bp, op, none⟩))
 have t2 := t1.upd bp (op + 4) (.pointer (some ⟨bn, on, none⟩))
 have g1 := s1.c bn (on + 3)
 have g2 := t1.c bp (op + 4)
 go_enter Tryz.func227, Tryz.ntmps227
 go_wp2
 go_region
 all_goals (go_end0; exact ⟨rfl, (Sat.drew (by first | exact s2.eq (by ac_rfl) | exact t2.eq (by ac_rfl)))⟩)
set_option maxHeartbeats 400000 in
theorem last_sl (L bx : Nat) (p : Nat × Nat) (v1 v2 : Value) (w : World) (F : Assn)
 (hs : Sat (edge p (L, 1) * (Sl.cell bx 3 v1 * Sl.cell bx 4 v2) * F) w) :
 Calls Tryz.prog 228 #[.pointer (some ⟨L, 0, none⟩), .pointer (some ⟨bx, 0, none⟩)] w fun e w' => e = .returned (.tuple #[]) ∧
  Sat (edge p (bx, 0) * edge (bx, 0) (L, 1) * F) w' := by
 obtain ⟨bp, op⟩ := p
 simp only [edge, pt, Nat.zero_add, Nat.reduceAdd] at hs ⊢
 have h1 := hs.c L 4
 have h2 := hs.c bx 3
 have h3 := hs.c bx 4
 have f2 := hs.f bx 3
 have f3 := hs.f bx 4
 have s1 := hs.upd bx 3 (.pointer (some ⟨bp, op, none⟩))
 have s2 := s1.upd bx 4 (.pointer (some ⟨L, 1, none⟩))
 have t1 := hs.upd bx 4 (.pointer (some ⟨L, 1, none⟩))
 have t2 := t1.upd bx 3 (.pointer (some ⟨bp, op, none⟩))
 have g1 := s1.c bx 4
 have g2 := t1.c bx 3
 have s3 := s2.upd bp (op + 4) (.pointer (some ⟨bx, 0, none⟩))
 have s4 := s3.upd L 4 (.pointer (some ⟨bx, 0, none⟩))
 have t3 := t2.upd bp (op + 4) (.pointer (some ⟨bx, 0, none⟩))
 have t4 := t3.upd L 4 (.pointer (some ⟨bx, 0, none⟩))
 have a1 := s2.c bx 3
 have a2 := s2.c bp (op + 4)
 have a3 := hs.f bp (op + 4)
 have a4 := s3.c L 4
 have a5 := hs.f L 4
 have b1 := t2.c bx 3
 have b2 := t2.c bp (op + 4)
 have b4 := t3.c L 4
 go_enter Tryz.func228, Tryz.ntmps228
 go_wp2
 go_region
 all_goals (go_wp2; go_end0; exact ⟨rfl, (Sat.drew (by first | exact s4.eq (by ac_rfl) | exact t4.eq (by ac_rfl)))⟩)
theorem lru_around (L M : Nat) (cap : Int) (l1 : List Nd) (n : Nd) (l2 : List Nd) : ∃ R : Assn,
 (lruP TL TI L M cap (l1 ++ n :: l2) = edge (before L l1) (n.b, 0) * edge (n.b, 0) (behind L l2) * (core TL L M cap * (pmp M (l1 ++ n :: l2) * (R * (items TI l1 * (item TI n * items TI l2)))))) ∧
 (chain (ring L (l1 ++ l2)) = edge (before L l1) (behind L l2) * R) := by
 obtain ⟨R, h1, h2⟩ := ring_cut L l1 n l2
 refine ⟨R, ?_, h2⟩
 unfold lruP
 rw [h1, items_append, items]
 ac_rfl
set_option maxHeartbeats 400000 in
theorem remove_sl (L M : Nat) (cap : Int) (l1 : List Nd) (n : Nd) (l2 : List Nd) (F : Assn) (w : World) (hs : Sat (lruP TL TI L M cap (l1 ++ n :: l2) * F) w) (hd : ((l1 ++ n :: l2).map (·.key)).Nodup) :
 Calls Tryz.prog 191 #[.pointer (some ⟨L, 0, none⟩), .int .i64 n.key] w fun e w' => e = .returned (.tuple #[]) ∧ Sat (lruP TL TI L M cap (l1 ++ l2) * F) w' := by
 obtain ⟨R, hR1, hR2⟩ := lru_around L M cap l1 n l2
 have hs0 : Sat (core TL L M cap * (pmp M (l1 ++ n :: l2) * (chain (ring L (l1 ++ n :: l2)) * items TI (l1 ++ n :: l2))) * F) w := hs
 have h6 := hs0.c L 6
 have hl := look_found (hs0.take (pmp M _)) hd
 rw [hR1, sep_assoc] at hs
 clear hs0 hR1
 go_enter Tryz.func191, Tryz.ntmps191
 go_wp2_with fail
 refine (cut_sl (n.b, 0) (before L l1) (behind L l2) _ _ hs).mono ?_
 rintro e w1 ⟨rfl, hs1⟩
 have h6' := hs1.c L 6
 obtain ⟨ms, o, hp, ho, hs2⟩ := Sat.pmp_open (hs1.take (pmp M (l1 ++ n :: l2)))
 obtain ⟨o', ho', hdel⟩ := run_delete_mp keyOk3 Tryz.underlying267 hs2.obj ho n.key
 have hs3 := hs2.setRaw o'
 have hperm := mdel_perm hp (keys_nodup hd) n.key
 rw [mdel_found rfl hd] at hperm
 have hs4 := (Sat.pmp_shut hperm ho' hs3)
 clear hs3 hs2 hs1 hs ho ho' hp hperm
 go_wp2
 go_end0
 refine ⟨rfl, ?_⟩
 refine Sat.weak (B := item TI n * (Sl.cell n.b 3 (pt (before L l1)) * Sl.cell n.b 4 (pt (behind L l2)))) (hs4.eq ?_)
 unfold lruP
 rw [hR2, items_append]
 simp only [Nat.zero_add]
 ac_rfl
end Go.Proofs.YtfhbmblbidcmmaaGreat
namespace Go.Proofs.YtfhbmblbidcmmaaGreat
set_option linter.unusedSimpArgs false
set_option linter.unusedVariables false
open Go.RowKit Go.Sl Go.Lru
def Keyd (ns : List Nd) : Prop := (ns.map (·.key)).Nodup
def outL (ns : List Nd) (k : Int) : List Nd := ns.filter fun n => n.key != k
def useL (ns : List Nd) (k : Int) : List Nd := outL ns k ++ ns.filter fun n => n.key == k
def atL (f : Nd → Nd) (ns : List Nd) (k : Int) : List Nd := ns.map fun n => if n.key = k then f n else n
theorem keyd_ne {l1 : List Nd} {n : Nd} {l2 : List Nd} (h : Keyd (l1 ++ n :: l2)) : (∀ m ∈ l1, m.key ≠ n.key) ∧ ∀ m ∈ l2, m.key ≠ n.key := by
 unfold Keyd at h
 simp only [List.map_append, List.map_cons, List.nodup_append, List.nodup_cons, List.mem_cons, List.mem_map] at h
 obtain ⟨_, ⟨h2, _⟩, h3⟩ := h
 exact ⟨fun m hm e => h3 m.key ⟨m, hm, rfl⟩ n.key (.inl rfl) e, fun m hm e => h2 ⟨m, hm, e⟩⟩
theorem filter_ne {l : List Nd} {k : Int} (h : ∀ m ∈ l, m.key ≠ k) : (l.filter fun n => n.key != k) = l := List.filter_eq_self.2 fun m hm => by simpa using h m hm
theorem filter_eq {l : List Nd} {k : Int} (h : ∀ m ∈ l, m.key ≠ k) : (l.filter fun n => n.key == k) = [] := List.filter_eq_nil_iff.2 fun m hm => by simpa using h m hm
theorem outL_found {l1 : List Nd} {n : Nd} {l2 : List Nd} (h : Keyd (l1 ++ n :: l2)) : outL (l1 ++ n :: l2) n.key = l1 ++ l2 := by
 obtain ⟨a, b⟩ := keyd_ne h
 simp [outL, List.filter_append, filter_ne a, filter_ne b]
theorem useL_found {l1 : List Nd} {n : Nd} {l2 : List Nd} (h : Keyd (l1 ++ n :: l2)) : useL (l1 ++ n :: l2) n.key = l1 ++ l2 ++ [n] := by
 obtain ⟨a, b⟩ := keyd_ne h
 rw [useL, outL_found h]
 simp [List.filter_append, filter_eq a, filter_eq b]
theorem atL_found {f : Nd → Nd} {l1 : List Nd} {n : Nd} {l2 : List Nd} (h : Keyd (l1 ++ n :: l2)) : atL f (l1 ++ n :: l2) n.key = l1 ++ f n :: l2 := by
 obtain ⟨a, b⟩ := keyd_ne h
 have e : ∀ l : List Nd, (∀ m ∈ l, m.key ≠ n.key) → (l.map fun m => if m.key = n.key then f m else m) = l := by
  intro l hl
  exact (List.map_congr_left (fun m hm => if_neg (hl m hm))).trans (List.map_id' l)
 simp [atL, List.map_append, e _ a, e _ b]
theorem outL_none {ns : List Nd} {k : Int} (h : ∀ m ∈ ns, m.key ≠ k) : outL ns k = ns := filter_ne h
theorem useL_none {ns : List Nd} {k : Int} (h : ∀ m ∈ ns, m.key ≠ k) : useL ns k = ns := by rw [useL, outL_none h, filter_eq h, List.append_nil]
theorem atL_none {f : Nd → Nd} {ns : List Nd} {k : Int} (h : ∀ m ∈ ns, m.key ≠ k) : atL f ns k = ns :=
 (List.map_congr_left (fun m hm => if_neg (h m hm))).trans (List.map_id' ns)
theorem hasB_found {l1 : List Nd} {n : Nd} {l2 : List Nd} : hasB (l1 ++ n :: l2) n.key = true := by simp [hasB]
theorem hasB_none {ns : List Nd} {k : Int} (h : ∀ m ∈ ns, m.key ≠ k) : hasB ns k = false := by
 simp only [hasB, List.any_eq_false]; intro n hn; simpa using h n hn
theorem keyd_out {ns : List Nd} (h : Keyd ns) (k : Int) : Keyd (outL ns k) := by
 unfold Keyd outL at *
 exact h.sublist (List.Sublist.map _ List.filter_sublist)
set_option maxHeartbeats 400000 in
theorem use_any (L M : Nat) (cap : Int) (ns : List Nd) (k : Int) (F : Assn) (w : World) (hs : Sat (lruP TL TI L M cap ns * F) w) (hd : Keyd ns) :
 Calls Tryz.prog 180 #[.pointer (some ⟨L, 0, none⟩), .int .i64 k] w fun e w' => e = .returned (.bool (hasB ns k)) ∧ Sat (lruP TL TI L M cap (useL ns k) * F) w' := by
 rcases find_cases ns k with ⟨l1, n, l2, rfl, rfl⟩ | hk
 · rw [hasB_found, useL_found hd]
   obtain ⟨R, hR1, hR2⟩ := lru_around L M cap l1 n l2
   obtain ⟨R2, hR3, hR4⟩ := ring_last L (l1 ++ l2)
   have hs0 := hs
   rw [hR1, sep_assoc] at hs0
   go_enter Tryz.func180, Tryz.ntmps180
   go_wp2_with (go_at_call 170; refine (find_found _ _ _ _ _ _ _ _ hs hd).mono ?_; rintro e w' ⟨rfl, rfl⟩)
   refine (cut_sl (n.b, 0) (before L l1) (behind L l2) _ _ hs0).mono ?_
   rintro e w1 ⟨rfl, hs1⟩
   have hs2 : Sat (edge (before L (l1 ++ l2)) (L, 1) * (Sl.cell n.b 3 (pt (before L l1)) * Sl.cell n.b 4 (pt (behind L l2))) * (R2 * (core TL L M cap * (pmp M (l1 ++ n :: l2) * (items TI l1 * (item TI n * items TI l2)) * F)))) w1 := by
    refine hs1.eq ?_
    have e1 : edge (before L l1) (behind L l2) * R = edge (before L (l1 ++ l2)) (L, 1) * R2 := hR2.symm.trans hR3
    simp only [Nat.zero_add]
    calc _ = (edge (before L l1) (behind L l2) * R) * ((Sl.cell n.b 3 (pt (before L l1)) * Sl.cell n.b 4 (pt (behind L l2))) * (core TL L M cap * (pmp M (l1 ++ n :: l2) * (items TI l1 * (item TI n * items TI l2)) * F))) := by ac_rfl
     _ = _ := by rw [e1]; ac_rfl
   clear hs0 hs1 hs
   go_wp2_with fail
   refine (last_sl L n.b (before L (l1 ++ l2)) _ _ _ _ hs2).mono ?_
   rintro e w2 ⟨rfl, hs3⟩
   clear hs2
   go_wp2
   go_ret
   refine ⟨rfl, hs3.eq ?_⟩
   have hp : (l1 ++ n :: l2).Perm (l1 ++ l2 ++ [n]) := by
    rw [List.append_assoc]; exact List.Perm.append_left l1 (List.perm_append_singleton n l2).symm
   unfold lruP
   rw [hR4, pmp_perm hp, ← items_perm hp, items_append, items]
   ac_rfl
 · rw [hasB_none hk, useL_none hk]
   go_enter Tryz.func180, Tryz.ntmps180
   go_wp2_with (go_at_call 170; refine (find_none _ _ _ _ _ _ _ hs hd hk).mono ?_; rintro e w' ⟨rfl, rfl⟩)
   go_ret
   exact ⟨rfl, hs⟩
theorem lru_item (L M : Nat) (cap : Int) (l1 : List Nd) (n : Nd) (l2 : List Nd) (F : Assn) :
 lruP TL TI L M cap (l1 ++ n :: l2) * F = item TI n * (core TL L M cap * (pmp M (l1 ++ n :: l2) * (chain (ring L (l1 ++ n :: l2)) * (items TI l1 * items TI l2))) * F) := by
 unfold lruP
 rw [items_append, items]
 ac_rfl
theorem lru_item_at (L M : Nat) (cap : Int) (l1 : List Nd) (n n' : Nd) (l2 : List Nd) (F : Assn) (hb : n'.b = n.b) (hk : n'.key = n.key) :
 item TI n' * (core TL L M cap * (pmp M (l1 ++ n :: l2) * (chain (ring L (l1 ++ n :: l2)) * (items TI l1 * items TI l2))) * F) = lruP TL TI L M cap (l1 ++ n' :: l2) * F := by
 rw [lru_item]
 have e1 : pmp M (l1 ++ n :: l2) = pmp M (l1 ++ n' :: l2) := by
  have : (l1 ++ n :: l2).map kv = (l1 ++ n' :: l2).map kv := by simp [kv, hb, hk]
  unfold pmp; rw [this]
 have e2 : ring L (l1 ++ n :: l2) = ring L (l1 ++ n' :: l2) := by simp [ring, hb]
 rw [e1, e2]
set_option maxHeartbeats 400000 in
theorem mark_any (L M : Nat) (cap : Int) (ns : List Nd) (k : Int) (on : Bool) (F : Assn) (w : World) (hs : Sat (lruP TL TI L M cap ns * F) w) (hd : Keyd ns) :
 Calls Tryz.prog 148 #[.pointer (some ⟨L, 0, none⟩), .int .i64 k, .bool on] w fun e w' => e = .returned (.bool (hasB ns k)) ∧ Sat (lruP TL TI L M cap (atL (fun n => { n with mkd := on }) ns k) * F) w' := by
 rcases find_cases ns k with ⟨l1, n, l2, rfl, rfl⟩ | hk
 · rw [hasB_found, atL_found hd]
   have hs0 := hs
   rw [lru_item] at hs0
   unfold item at hs0
   have c1 := hs0.c n.b 2
   have f1 := hs0.f n.b 2
   have s1 := hs0.upd n.b 2 (.bool on)
   have s2 : Sat (lruP TL TI L M cap (l1 ++ { n with mkd := on } :: l2) * F) (w.setCell ⟨n.b, 2, none⟩ (.bool on)) := by
    refine s1.eq ?_
    rw [← lru_item_at L M cap l1 n { n with mkd := on } l2 F rfl rfl]
    rfl
   clear hs0 s1
   go_enter Tryz.func148, Tryz.ntmps148
   go_wp2_with (go_at_call 170; refine (find_found _ _ _ _ _ _ _ _ hs hd).mono ?_; rintro e w' ⟨rfl, rfl⟩)
   go_ret
   exact ⟨rfl, s2⟩
 · rw [hasB_none hk, atL_none hk]
   go_enter Tryz.func148, Tryz.ntmps148
   go_wp2_with (go_at_call 170; refine (find_none _ _ _ _ _ _ _ hs hd hk).mono ?_; rintro e w' ⟨rfl, rfl⟩)
   go_ret
   exact ⟨rfl, hs⟩
set_option maxHeartbeats 400000 in
theorem drop_any (L M : Nat) (cap : Int) (ns : List Nd) (k : Int) (F : Assn) (w : World) (hs : Sat (lruP TL TI L M cap ns * F) w) (hd : Keyd ns) (hb : ∀ n ∈ ns, 0 ≤ n.pins) :
 Calls Tryz.prog 164 #[.pointer (some ⟨L, 0, none⟩), .int .i64 k] w fun e w' => e = .returned (.bool (ns.any fun n => n.key == k && n.pins == 0)) ∧
  Sat (lruP TL TI L M cap (if (ns.any fun n => n.key == k && n.pins == 0) then outL ns k else ns) * F) w' := by
 rcases find_cases ns k with ⟨l1, n, l2, rfl, rfl⟩ | hk
 · have hn := hb n (by simp)
   obtain ⟨ha1, ha2⟩ := keyd_ne hd
   have hany : ((l1 ++ n :: l2).any fun m => m.key == n.key && m.pins == 0) = (n.pins == 0) := by
    have e : ∀ l : List Nd, (∀ m ∈ l, m.key ≠ n.key) → (l.any fun m => m.key == n.key && m.pins == 0) = false := by
     intro l hl
     simp only [List.any_eq_false]
     intro m hm
     have := hl m hm
     simp [this]
    simp [List.any_append, e _ ha1, e _ ha2]
   rw [hany]
   have hs0 := hs
   rw [lru_item] at hs0
   unfold item at hs0
   have c1 := hs0.c n.b 1
   clear hany ha1 ha2 hs0 hb
   by_cases hp : n.pins = 0
   · have hp1 : ¬ (0 < n.pins) := by omega
     have hp2 : (n.pins == 0) = true := by simpa using hp
     rw [hp2, if_pos rfl, outL_found hd]
     clear hp
     go_enter Tryz.func164, Tryz.ntmps164
     go_wp2_with (first | (go_at_call 170; refine (find_found _ _ _ _ _ _ _ _ hs hd).mono ?_; rintro e w' ⟨rfl, rfl⟩) | (go_at_call 191; refine (remove_sl _ _ _ _ _ _ _ _ hs hd).mono ?_; rintro e w1 ⟨rfl, hs1⟩))
     go_ret
     exact ⟨rfl, hs1⟩
   · have hp1 : 0 < n.pins := by omega
     have hp2 : (n.pins == 0) = false := by simpa using hp
     rw [hp2, if_neg (by simp)]
     clear hp
     go_enter Tryz.func164, Tryz.ntmps164
     go_wp2_with (go_at_call 170; refine (find_found _ _ _ _ _ _ _ _ hs hd).mono ?_; rintro e w' ⟨rfl, rfl⟩)
     go_ret
     exact ⟨rfl, hs⟩
 · have hany : (ns.any fun m => m.key == k && m.pins == 0) = false := by
    simp only [List.any_eq_false]
    intro m hm
    have := hk m hm
    simp [this]
   rw [hany, if_neg (by simp)]
   clear hb hany
   go_enter Tryz.func164, Tryz.ntmps164
   go_wp2_with (go_at_call 170; refine (find_none _ _ _ _ _ _ _ hs hd hk).mono ?_; rintro e w' ⟨rfl, rfl⟩)
   go_ret
   exact ⟨rfl, hs⟩
end Go.Proofs.YtfhbmblbidcmmaaGreat
namespace Go.Proofs.YtfhbmblbidcmmaaGreat
set_option linter.unusedSimpArgs false
set_option linter.unusedVariables false
open Go.RowKit Go.Sl Go.Lru
def oldL (ns : List Nd) : Option Nd := ns.find? fun n => n.pins == 0
def oldK (ns : List Nd) : Int := ((oldL ns).map (·.key)).getD 0
def oldB (ns : List Nd) : Bool := (oldL ns).isSome
theorem sizeTI : (Tryz.prog.info? 266).map (·.size) = some (4 + 1) := by kernel_rfl
theorem lru_round {L M : Nat} {cap : Int} {l1 : List Nd} {n : Nd} {l2 : List Nd} {F : Assn} {w : World} (hs : Sat (lruP TL TI L M cap (l1 ++ n :: l2) * F) w) :
 w.cell? ⟨n.b, 0, none⟩ = some (.int .i64 n.key) ∧ w.cell? ⟨n.b, 1, none⟩ = some (.int .i64 n.pins) ∧ w.cell? ⟨n.b, 4, none⟩ = some (pt (behind L l2)) ∧
 (binOp .neq 264 (.pointer (some ⟨n.b, 0, none⟩)) (.pointer (some ⟨L, 1, none⟩))).run Tryz.prog w = .ok (.bool true) w := by
 obtain ⟨R, hR, _⟩ := lru_around L M cap l1 n l2
 rw [hR] at hs
 unfold edge item at hs
 simp only [Nat.zero_add] at hs
 have r1 := hs.row n.b 0
 have r2 := hs.row L 0
 refine ⟨hs.c n.b 0, hs.c n.b 1, hs.c n.b 4, ?_⟩
 rw [run_neq_ptr Tryz.underlying264 sizeTI r1 r2]
 have hne : (⟨n.b, 0, none⟩ : Addr) ≠ ⟨L, 1, none⟩ := by simp
 rw [beq_false_of_ne hne]
 rfl
theorem lru_first {L M : Nat} {cap : Int} {ns : List Nd} {F : Assn} {w : World} (hs : Sat (lruP TL TI L M cap ns * F) w) :
 w.cell? ⟨L, 5, none⟩ = some (pt (behind L ns)) ∧
 (binOp .neq 264 (.pointer (some ⟨L, 1, none⟩)) (.pointer (some ⟨L, 1, none⟩))).run Tryz.prog w = .ok (.bool false) w := by
 obtain ⟨R, hR⟩ := ring_first L ns
 unfold lruP at hs
 rw [hR] at hs
 unfold edge at hs
 simp only [Nat.reduceAdd] at hs
 have r2 := hs.row L 0
 refine ⟨hs.c L 5, ?_⟩
 rw [run_neq_ptr Tryz.underlying264 sizeTI r2 r2]
 simp
set_option maxHeartbeats 400000 in
theorem oldest_any (L M : Nat) (cap : Int) (ns : List Nd) (F : Assn) (w : World) (hs : Sat (lruP TL TI L M cap ns * F) w) :
 Calls Tryz.prog 252 #[.pointer (some ⟨L, 0, none⟩)] w fun e w' => e = .returned (.tuple #[.int .i64 (oldK ns), .bool (oldB ns)]) ∧ w = w' := by
 obtain ⟨h5, hrr⟩ := lru_first hs
 unfold pt at h5
 go_enter Tryz.func252, Tryz.ntmps252
 go_wp2
 go_loopg [4] ns.length (fun k x wr => ∃ l1 l2, Aside (ns = l1 ++ l2 ∧ (∀ m ∈ l1, m.pins ≠ 0) ∧ k = l2.length) ∧ x = pt (behind L l2) ∧ w = wr)
 case atStart => exact ⟨[], ns, ⟨rfl, by simp, rfl⟩, rfl, rfl⟩
 case round =>
  obtain ⟨l1, l2, A, rfl, rfl⟩ := hrel
  clear h5
  cases l2 with
  | nil =>
    have e0 : pt (behind L []) = .pointer (some ⟨L, 1, none⟩) := rfl
    rw [e0]
    clear e0
    go_wp2
    go_ret2
    obtain ⟨rfl, h, _⟩ := A.out
    have e : oldL (l1 ++ []) = none := by
     unfold oldL
     rw [List.find?_eq_none]
     intro m hm
     simpa using h m (by simpa using hm)
    refine ⟨?_, rfl⟩
    unfold oldK oldB
    rw [e]; rfl
  | cons n l2 =>
    have e0 : pt (behind L (n :: l2)) = .pointer (some ⟨n.b, 0, none⟩) := rfl
    rw [e0]
    clear e0
    have A2 := A.out
    obtain ⟨hns, h, hk⟩ := A2
    rw [hns] at hs
    obtain ⟨c0, c1, c4, hne⟩ := lru_round hs
    unfold pt at c4
    have H : Aside (ns = l1 ++ n :: l2) := hns
    have HK : Aside (gk = (n :: l2).length) := hk
    clear hns hs A hk
    by_cases hp : n.pins = 0
    · have hp1 : (n.pins == 0) = true := by simpa using hp
      have HP : Aside (n.pins = 0) := hp
      clear hp
      go_wp2
      go_ret2
      have e : oldL ns = some n := by
       rw [H.out, oldL, List.find?_append]
       have : l1.find? (fun n => n.pins == 0) = none := by
        rw [List.find?_eq_none]
        intro m hm
        simpa using h m hm
       rw [this]
       simp [HP.out]
      refine ⟨?_, rfl⟩
      unfold oldK oldB
      rw [e]; rfl
    · have hp1 : (n.pins == 0) = false := by simpa using hp
      have HP : Aside (n.pins ≠ 0) := hp
      clear hp
      go_wp2
      go_roundg l2.length
      case measure => have := HK.out; simp at this; omega
      case rel =>
       exact ⟨l1 ++ [n], l2, ⟨by rw [H.out]; simp, fun m hm => by rcases List.mem_append.1 hm with hm | hm; exact h m hm; simp at hm; subst hm; exact HP.out, rfl⟩, rfl, rfl⟩
set_option maxHeartbeats 400000 in
theorem new_yes (cap : Int) (F : Assn) (w : World) (hs : Sat F w) (h1 : 1 ≤ cap) (h2 : cap ≤ 4096) :
 Calls Tryz.prog 112 #[.int .i64 cap] w fun e w' => ∃ L M, e = .returned (.tuple #[.pointer (some ⟨L, 0, none⟩), .int .i64 0]) ∧ Sat (lruP TL TI L M cap [] * F) w' := by
 have hmm := @run_makeMap Tryz.prog
 go_enter Tryz.func112, Tryz.ntmps112
 go_wp2
 go_region
 all_goals
  go_wp2
  go_ret2
  refine ⟨w.heap.size + 1, w.heap.size, rfl, Sat.drew ?_⟩
  have a1 := hs.alloc_raw (.map #[] 0)
  have a2 := a1.alloc #[.int .i64 cap, .int .i64 0, .int .i64 0, .bool false, .pointer (some ⟨w.heap.size + 1, 1, none⟩), .pointer (some ⟨w.heap.size + 1, 1, none⟩), .map (some w.heap.size)] TL
  have e : (w.alloc (.map #[] 0)).heap.size = w.heap.size + 1 := by simp
  rw [e] at a2
  have a3 := Sat.pmp_shut (ns := []) (ms := []) (M := w.heap.size) (o := .map #[] 0) .nil ⟨#[], 0, rfl, rfl, by simp, by simp⟩ (a2.take (raw w.heap.size _))
  refine a3.eq ?_
  simp only [lruP, core, block, cells, ring, chain, edge, pt, items, List.length_cons, List.length_nil, List.map_nil, List.nil_append, sep_one, Nat.reduceAdd, Nat.zero_add]
  ac_rfl
set_option maxHeartbeats 400000 in
theorem add_has (L M : Nat) (cap : Int) (ns : List Nd) (k : Int) (F : Assn) (w : World) (hs : Sat (lruP TL TI L M cap ns * F) w) (hd : Keyd ns) (hk : hasB ns k = true) :
 Calls Tryz.prog 230 #[.pointer (some ⟨L, 0, none⟩), .int .i64 k] w fun e w' => e = .returned (.tuple #[.int .i64 0, .bool false, .int .i64 1]) ∧ w = w' := by
 have hc := has_any L M cap ns k F w hs hd
 rw [hk] at hc
 clear hk hs hd
 go_enter Tryz.func230, Tryz.ntmps230
 go_wp2_with (go_at_call 254; refine hc.mono ?_; rintro e w' ⟨rfl, rfl⟩)
 go_ret3
 exact ⟨rfl, rfl⟩
theorem lru_len {L M : Nat} {cap : Int} {ns : List Nd} {F : Assn} {w : World} (hs : Sat (lruP TL TI L M cap ns * F) w) (ty : TypeId) :
 (Builtin.len_ #[TM] ty #[.map (some M)]).run Tryz.prog w = .ok (.int .i64 ns.length) w := by
 unfold lruP at hs
 obtain ⟨ms, o, hp, ho, hs⟩ := Sat.pmp_open (hs.take (pmp M ns))
 have := run_len_mp (kf := ikey) Tryz.underlying267 hs.obj ho ty
 rw [hp.length_eq, List.length_map] at this
 exact this
set_option maxHeartbeats 1000000 in
theorem add_room (L M : Nat) (cap : Int) (ns : List Nd) (k : Int) (F : Assn) (w : World) (hs : Sat (lruP TL TI L M cap ns * F) w) (hd : Keyd ns) (hk : hasB ns k = false) (hl : ((ns.length : Int) == cap) = false) :
 Calls Tryz.prog 230 #[.pointer (some ⟨L, 0, none⟩), .int .i64 k] w fun e w' => ∃ b, e = .returned (.tuple #[.int .i64 0, .bool false, .int .i64 0]) ∧ Sat (lruP TL TI L M cap (ns ++ [⟨b, k, 0, false⟩]) * F) w' := by
 have hc := has_any L M cap ns k F w hs hd
 rw [hk] at hc
 have h0 := (show Sat (core TL L M cap * (pmp M ns * (chain (ring L ns) * items TI ns)) * F) w from hs).c L 0
 have h6 := (show Sat (core TL L M cap * (pmp M ns * (chain (ring L ns) * items TI ns)) * F) w from hs).c L 6
 have hlen := fun n ty => lru_len (hs.drewN n) ty
 have HK : Aside (hasB ns k = false) := hk
 clear hk
 go_enter Tryz.func230, Tryz.ntmps230
 go_wp2_with (go_at_call 254; refine hc.mono ?_; rintro e w' ⟨rfl, rfl⟩)
 go_quiet (fail)
 have hs1 := hs.drewN nq
 clear hlen h0 h6 hc
 generalize w.drewN nq = w0 at hs1 ⊢
 clear hs
 have hs2 : Sat (core TL L M cap * (pmp M ns * (chain (ring L ns) * items TI ns)) * F) w0 := hs1
 have hs3 := hs2.alloc #[.int .i64 k, .int .i64 0, .bool false, .pointer none, .pointer none] TI
 have h6 := hs2.c L 6
 have h6' := hs3.c L 6
 obtain ⟨ms, o, hp, ho, hs4⟩ := Sat.pmp_open (hs3.take (pmp M ns))
 obtain ⟨o', ho', hup⟩ := run_mapUpdate_mp keyOk3 Tryz.underlying267 hs4.obj ho k (.pointer (some ⟨w0.heap.size, 0, none⟩))
 have hs5 := hs4.setRaw o'
 have hne : ∀ m ∈ ns, m.key ≠ k := by
  have := HK.out
  simp only [hasB, List.any_eq_false] at this
  intro m hm
  simpa using this m hm
 have hperm := mput_perm hp hd (n := ⟨w0.heap.size, k, 0, false⟩) hne
 have hs6 := Sat.pmp_shut hperm ho' hs5
 obtain ⟨R2, hR3, hR4⟩ := ring_last L ns
 have hs7 := hs6.eq (B := edge (before L ns) (L, 1) * (Sl.cell w0.heap.size 3 (.pointer none) * Sl.cell w0.heap.size 4 (.pointer none)) *
  (R2 * (core TL L M cap * (pmp M (ns ++ [⟨w0.heap.size, k, 0, false⟩]) * (items TI ns * item TI ⟨w0.heap.size, k, 0, false⟩))) * F)) (by
  rw [hR3]
  simp only [block, cells, item, List.length_cons, List.length_nil, sep_one, Nat.reduceAdd, Nat.zero_add]
  ac_rfl)
 clear hs6 hs5 hs4 hs3 hs2 hs1 hperm hne hp ho ho'
 go_wp2_with fail
 refine (last_sl L w0.heap.size (before L ns) _ _ _ _ hs7).mono ?_
 rintro e w2 ⟨rfl, hs8⟩
 clear hs7 hup h6 h6'
 go_wp2
 go_ret3
 refine ⟨w0.heap.size, rfl, hs8.eq ?_⟩
 unfold lruP
 rw [hR4, items_append]
 simp only [items, sep_one]
 ac_rfl
set_option maxHeartbeats 1000000 in
theorem add_stuck (L M : Nat) (cap : Int) (ns : List Nd) (k : Int) (F : Assn) (w : World) (hs : Sat (lruP TL TI L M cap ns * F) w) (hd : Keyd ns) (hk : hasB ns k = false) (hl : ((ns.length : Int) == cap) = true) (ho : oldB ns = false) :
 Calls Tryz.prog 230 #[.pointer (some ⟨L, 0, none⟩), .int .i64 k] w fun e w' => e = .returned (.tuple #[.int .i64 0, .bool false, .int .i64 9]) ∧ Sat (lruP TL TI L M cap ns * F) w' := by
 have hc := has_any L M cap ns k F w hs hd
 rw [hk] at hc
 have h0 := (show Sat (core TL L M cap * (pmp M ns * (chain (ring L ns) * items TI ns)) * F) w from hs).c L 0
 have h6 := (show Sat (core TL L M cap * (pmp M ns * (chain (ring L ns) * items TI ns)) * F) w from hs).c L 6
 have hlen := fun n ty => lru_len (hs.drewN n) ty
 have HK : Aside (hasB ns k = false) := hk
 clear hk
 go_enter Tryz.func230, Tryz.ntmps230
 go_wp2_with (go_at_call 254; refine hc.mono ?_; rintro e w' ⟨rfl, rfl⟩)
 go_quiet (fail)
 have hs1 := hs.drewN nq
 have hold := oldest_any L M cap ns F _ hs1
 rw [ho] at hold
 clear hlen h0 h6 hc ho
 go_wp2_with (go_at_call 252; refine hold.mono ?_; rintro e w' ⟨rfl, rfl⟩)
 go_ret3
 exact ⟨rfl, hs1⟩
set_option maxHeartbeats 1000000 in
theorem add_full (L M : Nat) (cap : Int) (ns : List Nd) (k : Int) (F : Assn) (w : World) (hs : Sat (lruP TL TI L M cap ns * F) w) (hd : Keyd ns) (hk : hasB ns k = false) (hl : ((ns.length : Int) == cap) = true) (l1 : List Nd) (n : Nd) (l2 : List Nd) (hns : ns = l1 ++ n :: l2) (ho : oldL ns = some n) :
 Calls Tryz.prog 230 #[.pointer (some ⟨L, 0, none⟩), .int .i64 k] w fun e w' => ∃ b, e = .returned (.tuple #[.int .i64 n.key, .bool true, .int .i64 0]) ∧ Sat (lruP TL TI L M cap (l1 ++ l2 ++ [⟨b, k, 0, false⟩]) * F) w' := by
 have hc := has_any L M cap ns k F w hs hd
 rw [hk] at hc
 have h0 := (show Sat (core TL L M cap * (pmp M ns * (chain (ring L ns) * items TI ns)) * F) w from hs).c L 0
 have h6 := (show Sat (core TL L M cap * (pmp M ns * (chain (ring L ns) * items TI ns)) * F) w from hs).c L 6
 have hlen := fun n ty => lru_len (hs.drewN n) ty
 have HK : Aside (hasB ns k = false) := hk
 have HN : Aside (ns = l1 ++ n :: l2) := hns
 have HO : Aside (oldL ns = some n) := ho
 clear hns ho
 clear hk
 go_enter Tryz.func230, Tryz.ntmps230
 go_wp2_with (go_at_call 254; refine hc.mono ?_; rintro e w' ⟨rfl, rfl⟩)
 go_quiet (fail)
 have hs1 := hs.drewN nq
 have hold := oldest_any L M cap ns F _ hs1
 have e1 : oldK ns = n.key := by unfold oldK; rw [HO.out]; rfl
 have e2 : oldB ns = true := by unfold oldB; rw [HO.out]; rfl
 rw [e1, e2] at hold
 clear e1 e2
 clear hlen h0 h6 hc
 generalize w.drewN nq = wq at hs1 hold ⊢
 clear hs
 have hrem := remove_sl L M cap l1 n l2 F wq (HN.out ▸ hs1) (HN.out ▸ hd)
 go_wp2_with (first | (go_at_call 252; refine hold.mono ?_; rintro e w' ⟨rfl, rfl⟩) | (go_at_call 191; fail))
 refine hrem.mono ?_
 rintro e w0 ⟨rfl, hs2'⟩
 clear hrem hold hs1
 have hd' : Keyd (l1 ++ l2) := by
  have := hd
  rw [HN.out] at this
  rw [← outL_found this]
  exact keyd_out this _
 have hne : ∀ m ∈ l1 ++ l2, m.key ≠ k := by
  have := HK.out
  rw [HN.out] at this
  simp only [hasB, List.any_eq_false] at this
  intro m hm
  have hm' : m ∈ l1 ++ n :: l2 := by simp only [List.mem_append, List.mem_cons] at hm ⊢; rcases hm with h | h <;> simp [h]
  simpa using this m hm'
 clear hd hl HK HO HN
 have hs2 : Sat (core TL L M cap * (pmp M (l1 ++ l2) * (chain (ring L (l1 ++ l2)) * items TI (l1 ++ l2))) * F) w0 := hs2'
 have hs3 := hs2.alloc #[.int .i64 k, .int .i64 0, .bool false, .pointer none, .pointer none] TI
 have h6 := hs2.c L 6
 have h6' := hs3.c L 6
 obtain ⟨ms, o, hp, ho, hs4⟩ := Sat.pmp_open (hs3.take (pmp M (l1 ++ l2)))
 obtain ⟨o', ho', hup⟩ := run_mapUpdate_mp keyOk3 Tryz.underlying267 hs4.obj ho k (.pointer (some ⟨w0.heap.size, 0, none⟩))
 have hs5 := hs4.setRaw o'
 have hperm := mput_perm hp hd' (n := ⟨w0.heap.size, k, 0, false⟩) hne
 have hs6 := Sat.pmp_shut hperm ho' hs5
 obtain ⟨R2, hR3, hR4⟩ := ring_last L (l1 ++ l2)
 have hs7 := hs6.eq (B := edge (before L (l1 ++ l2)) (L, 1) * (Sl.cell w0.heap.size 3 (.pointer none) * Sl.cell w0.heap.size 4 (.pointer none)) *
  (R2 * (core TL L M cap * (pmp M ((l1 ++ l2) ++ [⟨w0.heap.size, k, 0, false⟩]) * (items TI (l1 ++ l2) * item TI ⟨w0.heap.size, k, 0, false⟩))) * F)) (by
  rw [hR3]
  simp only [block, cells, item, List.length_cons, List.length_nil, sep_one, Nat.reduceAdd, Nat.zero_add]
  ac_rfl)
 clear hs6 hs5 hs4 hs3 hs2 hperm hne hp ho ho'
 go_wp2_with fail
 refine (last_sl L w0.heap.size (before L (l1 ++ l2)) _ _ _ _ hs7).mono ?_
 rintro e w2 ⟨rfl, hs8⟩
 clear hs7 hup h6 h6'
 go_wp2
 go_ret3
 refine ⟨w0.heap.size, rfl, hs8.eq ?_⟩
 unfold lruP
 rw [hR4]
 simp only [items_append, items, sep_one]
 ac_rfl
end Go.Proofs.YtfhbmblbidcmmaaGreat
namespace Go.Proofs.YtfhbmblbidcmmaaGreat
set_option linter.unusedSimpArgs false
set_option linter.unusedVariables false
open Go.RowKit Go.Sl Go.Lru
theorem elemInt : ∃ i, ElemOk Tryz.prog 45 3 1 8 i (.int .i64 0) := elemOk Tryz.underlying45 (by kernel_rfl) rfl (by omega)
def AddIs (cap : Int) (ns : List Nd) (k g : Int) (h : Bool) (c : Int) (ns' : List Nd) : Prop :=
 (hasB ns k = true ∧ g = 0 ∧ h = false ∧ c = 1 ∧ ns' = ns) ∨
 (hasB ns k = false ∧ (ns.length : Int) ≠ cap ∧ g = 0 ∧ h = false ∧ c = 0 ∧ ∃ b, ns' = ns ++ [⟨b, k, 0, false⟩]) ∨
 (hasB ns k = false ∧ (ns.length : Int) = cap ∧ oldL ns = none ∧ g = 0 ∧ h = false ∧ c = 9 ∧ ns' = ns) ∨
 (hasB ns k = false ∧ (ns.length : Int) = cap ∧ ∃ n, oldL ns = some n ∧ g = n.key ∧ h = true ∧ c = 0 ∧ ∃ b, ns' = outL ns n.key ++ [⟨b, k, 0, false⟩])
def AddPost (L M : Nat) (cap : Int) (ns : List Nd) (k : Int) (F : Assn) (e : Ending) (w' : World) : Prop :=
 ∃ g h c ns', e = .returned (.tuple #[.int .i64 g, .bool h, .int .i64 c]) ∧ AddIs cap ns k g h c ns' ∧ Sat (lruP TL TI L M cap ns' * F) w'
theorem add_any (L M : Nat) (cap : Int) (ns : List Nd) (k : Int) (F : Assn) (w : World) (hs : Sat (lruP TL TI L M cap ns * F) w) (hd : Keyd ns) :
 Calls Tryz.prog 230 #[.pointer (some ⟨L, 0, none⟩), .int .i64 k] w (AddPost L M cap ns k F) := by
 cases hk : hasB ns k with
 | true => exact (add_has L M cap ns k F w hs hd hk).mono fun e w' ⟨h1, h2⟩ => ⟨0, false, 1, ns, h1, .inl ⟨hk, rfl, rfl, rfl, rfl⟩, h2 ▸ hs⟩
 | false =>
   cases hl : ((ns.length : Int) == cap) with
   | false =>
     refine (add_room L M cap ns k F w hs hd hk hl).mono fun e w' ⟨b, h1, h2⟩ => ⟨0, false, 0, _, h1, .inr (.inl ⟨hk, by simpa using hl, rfl, rfl, rfl, b, rfl⟩), h2⟩
   | true =>
     cases ho : oldL ns with
     | none =>
       have hb : oldB ns = false := by unfold oldB; rw [ho]; rfl
       exact (add_stuck L M cap ns k F w hs hd hk hl hb).mono fun e w' ⟨h1, h2⟩ => ⟨0, false, 9, ns, h1, .inr (.inr (.inl ⟨hk, by simpa using hl, ho, rfl, rfl, rfl, rfl⟩)), h2⟩
     | some n =>
       obtain ⟨l1, l2, hns⟩ := List.append_of_mem (List.mem_of_find?_eq_some ho)
       refine (add_full L M cap ns k F w hs hd hk hl l1 n l2 hns ho).mono fun e w' ⟨b, h1, h2⟩ => ⟨n.key, true, 0, _, h1, .inr (.inr (.inr ⟨hk, by simpa using hl, n, ho, rfl, rfl, rfl, b, ?_⟩)), h2⟩
       rw [hns] at hd ⊢
       rw [outL_found hd]
end Go.Proofs.YtfhbmblbidcmmaaGreat
