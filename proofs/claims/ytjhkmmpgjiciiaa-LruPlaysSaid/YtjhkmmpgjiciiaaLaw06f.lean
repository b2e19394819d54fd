/-
  LruPlays: does, on the list and on the reference beside it.
-/
import Derived.Test.YtjhkmmpgjiciiaaLaw06a
import Derived.Test.YtjhkmmpgjiciiaaRef6c
namespace Go.Proofs.Ytjhkmmpgjiciiaa
set_option linter.unusedSimpArgs false
set_option linter.unusedVariables false
open Go.RowKit Go.Sl Go.Lru

def tw1 (n : Nd) : It := ⟨n.key, n.pins, n.mkd⟩
def tw (ns : List Nd) : List It := ns.map tw1

structure Good (m : Nat) (cap : Int) (ns : List Nd) : Prop where
  kd : Keyd ns
  len : (ns.length : Int) ≤ cap
  pins : ∀ n ∈ ns, 0 ≤ n.pins ∧ n.pins ≤ m

theorem tw_len (ns : List Nd) : (tw ns).length = ns.length := by simp [tw]
theorem tw_none {ns : List Nd} {k : Int} (h : ∀ n ∈ ns, n.key ≠ k) : atI (tw ns) k = -1 := by
  apply atI_none
  intro x hx
  obtain ⟨n, hn, rfl⟩ := List.mem_map.1 hx
  exact h n hn
theorem tw_at (l1 : List Nd) (n : Nd) (l2 : List Nd) : (tw (l1 ++ n :: l2))[l1.length]? = some (tw1 n) := by simp [tw]
theorem tw_out (l1 : List Nd) (n : Nd) (l2 : List Nd) : (tw (l1 ++ n :: l2)).eraseIdx l1.length = tw (l1 ++ l2) := by
  simp [tw, List.eraseIdx_append]
theorem tw_found {l1 : List Nd} {n : Nd} {l2 : List Nd} (h : Keyd (l1 ++ n :: l2)) : atI (tw (l1 ++ n :: l2)) n.key = (l1.length : Nat) := by
  refine atI_found (tw_at l1 n l2) rfl ?_
  intro j y hj hy
  rw [tw, List.map_append, List.getElem?_append_left (by simpa using hj)] at hy
  obtain ⟨m, hm, rfl⟩ := List.mem_map.1 (List.mem_of_getElem? hy)
  exact (keyd_ne h).1 m hm

theorem Good.perm {m : Nat} {cap : Int} {ns ns' : List Nd} (h : Good m cap ns) (hp : ns'.Perm ns) : Good m cap ns' :=
  ⟨(hp.map (fun n : Nd => n.key)).nodup_iff.2 h.kd, by rw [hp.length_eq]; exact h.len, fun n hn => h.pins n (hp.mem_iff.1 hn)⟩
theorem Good.more {m : Nat} {cap : Int} {ns : List Nd} (h : Good m cap ns) : Good (m + 1) cap ns :=
  ⟨h.kd, h.len, fun n hn => by have := h.pins n hn; omega⟩

theorem keep3 {S : Assn} {w : World} (hs : Sat S w) (A B C : Assn) {R R' R'' : Assn} [h : Take S A R] [h' : Take R B R'] [h'' : Take R' C R''] : Sat (A * (B * C)) w :=
  Sat.weak (B := R'') (hs.eq (by rw [h.out, h'.out, h''.out]; simp only [sep_assoc]))

abbrev Both (L M W : Nat) (cap : Int) (m : Nat) (F : Assn) (w : World) : Prop := ∃ ns a c, Sat (lruP TL TI L M cap ns * (refP W cap a c (tw ns) * F)) w ∧ Good m cap ns

set_option maxRecDepth 100000 in
set_option maxHeartbeats 800000 in
theorem does_use (L M W : Nat) (cap : Int) (m : Nat) (ns : List Nd) (a : Option Addr) (c : Nat) (ky : Int) (F : Assn) (w : World) (hs : Sat (lruP TL TI L M cap ns * (refP W cap a c (tw ns) * F)) w) (hg : Good m cap ns) (hc : cap ≤ 4096) :
    Calls Try.prog 42 #[.pointer (some ⟨L, 0, none⟩), .pointer (some ⟨W, 0, none⟩), .agg #[.int .i64 1, .int .i64 ky]] w fun e w' => e = .returned (.bool true) ∧ Both L M W cap (m + 1) F w' := by
  have hlen : (tw ns).length ≤ 4096 := by have := hg.len; rw [tw_len]; omega
  have hs1 := hs.alloc #[.int .i64 1, .int .i64 ky] 35
  simp only [block, cells, sep_one, List.length_cons, List.length_nil, Nat.zero_add] at hs1
  have x0 := hs1.c w.heap.size 0
  have x1 := hs1.c w.heap.size 1
  rcases find_cases ns ky with ⟨l1, n, l2, rfl, rfl⟩ | hno
  · have hat := refAt_any W cap a c _ n.key _ _ (hs1.take (refP W cap a c (tw (l1 ++ n :: l2)))) (by omega)
    rw [tw_found hg.kd] at hat
    have hi0 : (0 : Int) ≤ l1.length := by omega
    go_enter Try.func42, Try.ntmps42
    go_wp2_with (go_at_call 43; refine hat.mono ?_; rintro e w' ⟨rfl, rfl⟩)
    clear hat
    have hs2 := hs1.take (lruP TL TI L M cap (l1 ++ n :: l2))
    clear hs hs1
    generalize w.alloc _ = w1 at hs2 x0 x1 ⊢
    go_wp2_with (fail)
    have huse := use_any L M cap _ n.key _ _ hs2.drew hg.kd
    rw [hasB_found, useL_found hg.kd] at huse
    have href := fun F w hs => refUse_yes W cap a c (tw (l1 ++ n :: l2)) n.key l1.length (tw1 n) F w hs (by omega) (tw_found hg.kd) (tw_at l1 n l2)
    rw [tw_out] at href
    have HG : Aside (Good m cap (l1 ++ n :: l2)) := hg
    clear hg hs2
    go_region_with first
      | (go_at_call 21; refine huse.mono ?_; rintro e w3 ⟨rfl, hs3⟩; have y1 := hs3.c w.heap.size 1; have hs4 := (hs3.take (refP W cap a c (tw (l1 ++ n :: l2)))))
      | (go_at_call 86; refine (href _ _ hs4).mono ?_; rintro e w5 ⟨a5, c5, rfl, hs5⟩)
    all_goals
      go_wp2
      go_ret
      have hp : (l1 ++ l2 ++ [n]).Perm (l1 ++ n :: l2) := by rw [List.append_assoc]; exact List.Perm.append_left l1 (List.perm_append_singleton n l2)
      refine ⟨rfl, l1 ++ l2 ++ [n], a5, c5, ?_, (HG.out.perm hp).more⟩
      have e1 : tw (l1 ++ l2 ++ [n]) = tw (l1 ++ l2) ++ [tw1 n] := by simp [tw]
      rw [e1]
      exact keep3 hs5 (lruP TL TI L M cap (l1 ++ l2 ++ [n])) _ F
  · have hat := refAt_any W cap a c _ ky _ _ (hs1.take (refP W cap a c (tw ns))) (by omega)
    rw [tw_none hno] at hat
    go_enter Try.func42, Try.ntmps42
    go_wp2_with (go_at_call 43; refine hat.mono ?_; rintro e w' ⟨rfl, rfl⟩)
    clear hat
    have hs2 := hs1.take (lruP TL TI L M cap ns)
    clear hs hs1
    generalize w.alloc _ = w1 at hs2 x0 x1 ⊢
    go_wp2_with (fail)
    have huse := use_any L M cap _ ky _ _ hs2.drew hg.kd
    rw [hasB_none hno, useL_none hno] at huse
    have href := fun F w hs => refUse_no W cap a c (tw ns) ky F w hs (by omega) (tw_none hno)
    have HG : Aside (Good m cap ns) := hg
    clear hg hs2
    go_region_with first
      | (go_at_call 21; refine huse.mono ?_; rintro e w3 ⟨rfl, hs3⟩; have y1 := hs3.c w.heap.size 1; have hs4 := (hs3.take (refP W cap a c (tw ns))))
      | (go_at_call 86; refine (href _ _ hs4).mono ?_; rintro e w5 ⟨rfl, rfl⟩)
    all_goals
      go_wp2
      go_ret
      exact ⟨rfl, ns, a, c, keep3 hs4 (lruP TL TI L M cap ns) _ F, HG.out.more⟩

/-! Drop -/
theorem Good.out {m : Nat} {cap : Int} {ns : List Nd} (h : Good m cap ns) (k : Int) : Good m cap (outL ns k) :=
  ⟨keyd_out h.kd k, by have := h.len; have h2 : (outL ns k).length ≤ ns.length := List.length_filter_le _ _; omega, fun n hn => h.pins n (List.mem_filter.1 hn).1⟩

set_option maxRecDepth 100000 in
set_option maxHeartbeats 800000 in
theorem does_drop (L M W : Nat) (cap : Int) (m : Nat) (ns : List Nd) (a : Option Addr) (c : Nat) (ky : Int) (F : Assn) (w : World) (hs : Sat (lruP TL TI L M cap ns * (refP W cap a c (tw ns) * F)) w) (hg : Good m cap ns) (hc : cap ≤ 4096) :
    Calls Try.prog 42 #[.pointer (some ⟨L, 0, none⟩), .pointer (some ⟨W, 0, none⟩), .agg #[.int .i64 3, .int .i64 ky]] w fun e w' => e = .returned (.bool true) ∧ Both L M W cap (m + 1) F w' := by
  have hlen : (tw ns).length ≤ 4096 := by have := hg.len; rw [tw_len]; omega
  have hs1 := hs.alloc #[.int .i64 3, .int .i64 ky] 35
  simp only [block, cells, sep_one, List.length_cons, List.length_nil, Nat.zero_add] at hs1
  have x0 := hs1.c w.heap.size 0
  have x1 := hs1.c w.heap.size 1
  have hat := refAt_any W cap a c _ ky _ _ (hs1.take (refP W cap a c (tw ns))) (by omega)
  obtain ⟨ns', b, HH⟩ : ∃ ns' b, Aside ((ns.any fun n => n.key == ky && n.pins == 0) = b ∧ (if (ns.any fun n => n.key == ky && n.pins == 0) then outL ns ky else ns) = ns') := ⟨_, _, rfl, rfl⟩
  have href : Aside (∀ F w, Sat (refP W cap a c (tw ns) * F) w → Calls Try.prog 88 #[.pointer (some ⟨W, 0, none⟩), .int .i64 ky] w fun e w' => ∃ a' c', e = .returned (.bool b) ∧ Sat (refP W cap a' c' (tw ns') * F) w') := by
    intro F w hs
    have hb := HH.out.1
    have hn := HH.out.2
    rcases find_cases ns ky with ⟨l1, n, l2, rfl, rfl⟩ | hno
    · have hany : ((l1 ++ n :: l2).any fun x => x.key == n.key && x.pins == 0) = (n.pins == 0) := by
        have h1 : (l1.any fun x => x.key == n.key && x.pins == 0) = false := List.any_eq_false.2 fun x hx => by simp [(keyd_ne hg.kd).1 x hx]
        have h2 : (l2.any fun x => x.key == n.key && x.pins == 0) = false := List.any_eq_false.2 fun x hx => by simp [(keyd_ne hg.kd).2 x hx]
        simp [List.any_append, h1, h2]
      rw [hany] at hb hn
      have hpn := (hg.pins n (by simp)).1
      by_cases hp : 0 < n.pins
      · have : (n.pins == 0) = false := by simp; omega
        rw [this] at hb hn
        subst hb
        simp at hn
        subst hn
        exact (refDrop_pinned W cap a c _ n.key l1.length (tw1 n) F w hs (by omega) (tw_found hg.kd) (tw_at l1 n l2) hp).mono fun e w' ⟨h, h'⟩ => ⟨a, c, h, h' ▸ hs⟩
      · have : (n.pins == 0) = true := by simp; omega
        rw [this] at hb hn
        subst hb
        rw [if_pos rfl, outL_found hg.kd] at hn
        subst hn
        have := refDrop_yes W cap a c _ n.key l1.length (tw1 n) F w hs (by omega) (tw_found hg.kd) (tw_at l1 n l2) hp
        rw [tw_out] at this
        exact this
    · have hany : (ns.any fun x => x.key == ky && x.pins == 0) = false := List.any_eq_false.2 fun x hx => by simp [hno x hx]
      rw [hany] at hb hn
      subst hb
      simp at hn
      subst hn
      exact (refDrop_no W cap a c _ ky F w hs (by omega) (tw_none hno)).mono fun e w' ⟨h, h'⟩ => ⟨a, c, h, h' ▸ hs⟩
  have hs2 := hs1.take (lruP TL TI L M cap ns)
  have hdrop := drop_any L M cap ns ky _ _ hs2.drew hg.kd (fun n hn => (hg.pins n hn).1)
  rw [HH.out.2, HH.out.1] at hdrop
  have HG : Aside (Good m cap ns') := by
    rw [← HH.out.2]
    cases (ns.any fun n => n.key == ky && n.pins == 0)
    · exact hg
    · exact hg.out ky
  generalize atI (tw ns) ky = i at hat
  clear hg hs HH
  go_enter Try.func42, Try.ntmps42
  go_wp2_with (go_at_call 43; refine hat.mono ?_; rintro e w' ⟨rfl, rfl⟩)
  clear hat hs1
  generalize w.alloc _ = w1 at hs2 x0 x1 hdrop ⊢
  clear hs2
  go_wp2_with (fail)
  go_region_with first
    | (go_at_call 26; refine hdrop.mono ?_; rintro e w3 ⟨rfl, hs3⟩; have y1 := hs3.c w.heap.size 1; have hs4 := (hs3.take (refP W cap a c (tw ns))))
    | (go_at_call 88; refine (href.out _ _ hs4).mono ?_; rintro e w5 ⟨a5, c5, rfl, hs5⟩)
  all_goals
    go_wp2
    go_ret
    exact ⟨by cases b <;> rfl, ns', a5, c5, keep3 hs5 (lruP TL TI L M cap ns') _ F, HG.out.more⟩

end Go.Proofs.Ytjhkmmpgjiciiaa
