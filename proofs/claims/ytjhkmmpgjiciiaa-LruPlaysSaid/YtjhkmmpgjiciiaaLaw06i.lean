/-
  LruPlays: does, Unpin.
-/
import Derived.Test.YtjhkmmpgjiciiaaLaw06h
namespace Go.Proofs.Ytjhkmmpgjiciiaa
set_option linter.unusedSimpArgs false
set_option linter.unusedVariables false
open Go.RowKit Go.Sl Go.Lru

theorem any_found {l1 l2 : List Nd} {n : Nd} (h : Keyd (l1 ++ n :: l2)) (q : Nd → Bool) : ((l1 ++ n :: l2).any fun x => x.key == n.key && q x) = q n := by
  have h1 : (l1.any fun x => x.key == n.key && q x) = false := List.any_eq_false.2 fun x hx => by simp [(keyd_ne h).1 x hx]
  have h2 : (l2.any fun x => x.key == n.key && q x) = false := List.any_eq_false.2 fun x hx => by simp [(keyd_ne h).2 x hx]
  simp [List.any_append, h1, h2]
theorem any_no {ns : List Nd} {k : Int} (h : ∀ n ∈ ns, n.key ≠ k) (q : Nd → Bool) : (ns.any fun x => x.key == k && q x) = false := List.any_eq_false.2 fun x hx => by simp [h x hx]

set_option maxRecDepth 100000 in
set_option maxHeartbeats 800000 in
theorem does_unpin (L M W : Nat) (cap : Int) (m : Nat) (ns : List Nd) (a : Option Addr) (c : Nat) (ky : Int) (F : Assn) (w : World) (hs : Sat (lruP TL TI L M cap ns * (refP W cap a c (tw ns) * F)) w) (hg : Good m cap ns) (hc : cap ≤ 4096) (hm : m ≤ 100000) :
    Calls Try.prog 42 #[.pointer (some ⟨L, 0, none⟩), .pointer (some ⟨W, 0, none⟩), .agg #[.int .i64 5, .int .i64 ky]] w fun e w' => e = .returned (.bool true) ∧ Both L M W cap (m + 1) F w' := by
  have hlen : (tw ns).length ≤ 4096 := by have := hg.len; rw [tw_len]; omega
  have hs1 := hs.alloc #[.int .i64 5, .int .i64 ky] 35
  simp only [block, cells, sep_one, List.length_cons, List.length_nil, Nat.zero_add] at hs1
  have x0 := hs1.c w.heap.size 0
  have x1 := hs1.c w.heap.size 1
  have hat := refAt_any W cap a c _ ky _ _ (hs1.take (refP W cap a c (tw ns))) (by omega)
  have hpb : ∀ n ∈ ns, 0 ≤ n.pins ∧ n.pins < 4611686018427387904 := fun n hn => by have := hg.pins n hn; omega
  rcases find_cases ns ky with ⟨l1, n, l2, rfl, rfl⟩ | hno
  · rw [tw_found hg.kd] at hat
    have hi0 : (0 : Int) ≤ l1.length := by omega
    have hpn := hg.pins n (by simp)
    have hil : l1.length < (tw (l1 ++ n :: l2)).length := by simp [tw]
    have hil2 : (l1.length : Int) < (tw (l1 ++ n :: l2)).length := by omega
    have hs2 := hs1.take (refP W cap a c (tw (l1 ++ n :: l2)))
    obtain ⟨g, rfl, k0, k1a, k2⟩ := ref_at hs2 (tw_at l1 n l2)
    have f1 := ref_free hs2 (tw_at l1 n l2) (k := 1) (by omega)
    have hs0 := hs1
    unfold refP at hs0
    have d1 := hs0.c W 1
    clear hs0 k0 k2
    have k1 : (w.alloc (.cells #[.int .i64 5, .int .i64 n.key] 35)).cell? ⟨g, l1.length * 3 + 1, none⟩ = some (.int .i64 n.pins) := k1a
    clear k1a
    have hpn2 := hpn.1
    by_cases hp : 0 < n.pins
    · have hl3 : (tw l1).length * 3 + 1 = l1.length * 3 + 1 := by rw [tw_len]
      rw [tw_split] at hs2
      have hs3 := ref_row hs2 (k := 1) (by omega) (x' := ⟨n.key, n.pins - 1, n.mkd⟩) (v := .int .i64 (n.pins - 1)) rfl
      rw [hl3] at hs3
      have y1 := hs3.c w.heap.size 1
      have hpin := unpin_any L M cap _ n.key _ _ (hs3.take (lruP TL TI L M cap (l1 ++ n :: l2))) hg.kd hpb
      have hne : (n.pins != 0) = true := by simp; omega
      have hne2 : (if n.pins = 0 then 0 else n.pins - 1) = n.pins - 1 := if_neg (by omega)
      rw [any_found hg.kd (fun x => x.pins != 0), atL_found hg.kd, hne, hne2] at hpin
      have HG : Aside (Good (m + 1) cap (l1 ++ { n with pins := n.pins - 1 } :: l2)) := hg.at rfl ⟨by show 0 ≤ n.pins - 1; omega, by show n.pins - 1 ≤ _; omega⟩
      clear hg hs hpb hs1 hs2 hs3
      generalize (tw (l1 ++ n :: l2)).length = ln at *
      go_enter Try.func42, Try.ntmps42
      go_wp2_with (go_at_call 43; refine hat.mono ?_; rintro e w' ⟨rfl, rfl⟩)
      refine hpin.mono ?_
      rintro e w3 ⟨rfl, hs4⟩
      clear hpin hat
      go_wp2
      go_ret
      refine ⟨rfl, _, some ⟨g, 0, none⟩, c, ?_, HG.out⟩
      have e1 : tw (l1 ++ { n with pins := n.pins - 1 } :: l2) = tw l1 ++ (⟨n.key, n.pins - 1, n.mkd⟩ : It) :: tw l2 := by simp [tw, tw1]
      rw [e1]
      exact keep3 hs4 _ _ F
    · have hpin := unpin_any L M cap _ n.key _ _ (hs1.take (lruP TL TI L M cap (l1 ++ n :: l2))) hg.kd hpb
      have hp0 : n.pins = 0 := by omega
      have hne : (n.pins != 0) = false := by simp; omega
      rw [any_found hg.kd (fun x => x.pins != 0), atL_found hg.kd, hne] at hpin
      have hself : ({ n with pins := if n.pins = 0 then 0 else n.pins - 1 } : Nd) = n := by rw [if_pos hp0]; cases n; simp_all
      rw [hself] at hpin
      have HG : Aside (Good m cap (l1 ++ n :: l2)) := hg
      clear hg hs hpb hs1 hs2 hp0 hne hself
      have hd : decide (0 < n.pins) = false := by simpa using hp
      clear hp
      go_enter Try.func42, Try.ntmps42
      go_wp2_with (go_at_call 43; refine hat.mono ?_; rintro e w' ⟨rfl, rfl⟩)
      refine hpin.mono ?_
      rintro e w3 ⟨rfl, hs4⟩
      clear hpin hat
      go_wp2
      go_ret
      refine ⟨rfl, l1 ++ n :: l2, some ⟨g, 0, none⟩, c, ?_, HG.out.more⟩
      exact keep3 hs4 _ _ F
  · rw [tw_none hno] at hat
    have hpin := unpin_any L M cap ns ky _ _ (hs1.take (lruP TL TI L M cap ns)) hg.kd hpb
    rw [any_no hno (fun x => x.pins != 0), atL_none hno] at hpin
    have HG : Aside (Good m cap ns) := hg
    clear hg hs hpb hs1
    go_enter Try.func42, Try.ntmps42
    go_wp2_with (go_at_call 43; refine hat.mono ?_; rintro e w' ⟨rfl, rfl⟩)
    clear hat
    refine hpin.mono ?_
    rintro e w3 ⟨rfl, hs3⟩
    go_wp2
    go_ret
    exact ⟨rfl, ns, a, c, keep3 hs3 (lruP TL TI L M cap ns) _ F, HG.out.more⟩

end Go.Proofs.Ytjhkmmpgjiciiaa
