/-
  LruPlays: does, Mark.
-/
import Derived.Test.YtjhkmmpgjiciiaaLaw06i
namespace Go.Proofs.Ytjhkmmpgjiciiaa
set_option linter.unusedSimpArgs false
set_option linter.unusedVariables false
open Go.RowKit Go.Sl Go.Lru

set_option maxRecDepth 100000 in
set_option maxHeartbeats 800000 in
theorem does_mark (L M W : Nat) (cap : Int) (m : Nat) (ns : List Nd) (a : Option Addr) (c : Nat) (kd ky : Int) (b : Bool) (hkd : kd = 6 ∧ b = true ∨ kd = 7 ∧ b = false) (F : Assn) (w : World) (hs : Sat (lruP TL TI L M cap ns * (refP W cap a c (tw ns) * F)) w) (hg : Good m cap ns) (hc : cap ≤ 4096) :
    Calls Try.prog 42 #[.pointer (some ⟨L, 0, none⟩), .pointer (some ⟨W, 0, none⟩), .agg #[.int .i64 kd, .int .i64 ky]] w fun e w' => e = .returned (.bool true) ∧ Both L M W cap (m + 1) F w' := by
  have hlen : (tw ns).length ≤ 4096 := by have := hg.len; rw [tw_len]; omega
  have hs1 := hs.alloc #[.int .i64 kd, .int .i64 ky] 35
  simp only [block, cells, sep_one, List.length_cons, List.length_nil, Nat.zero_add] at hs1
  have x0 := hs1.c w.heap.size 0
  have x1 := hs1.c w.heap.size 1
  have hat := refAt_any W cap a c _ ky _ _ (hs1.take (refP W cap a c (tw ns))) (by omega)
  rcases find_cases ns ky with ⟨l1, n, l2, rfl, rfl⟩ | hno
  · rw [tw_found hg.kd] at hat
    have hi0 : (0 : Int) ≤ l1.length := by omega
    have hpn := hg.pins n (by simp)
    have hil : l1.length < (tw (l1 ++ n :: l2)).length := by simp [tw]
    have hil2 : (l1.length : Int) < (tw (l1 ++ n :: l2)).length := by omega
    have hs2 := hs1.take (refP W cap a c (tw (l1 ++ n :: l2)))
    obtain ⟨g, rfl, k0, k1, k2⟩ := ref_at hs2 (tw_at l1 n l2)
    have f1 := ref_free hs2 (tw_at l1 n l2) (k := 2) (by omega)
    have hs0 := hs1
    unfold refP at hs0
    have d1 := hs0.c W 1
    clear hs0 k0 k1
    have hl3 : (tw l1).length * 3 + 2 = l1.length * 3 + 2 := by rw [tw_len]
    rw [tw_split] at hs2
    have hs3 := fun nd => ref_row (hs2.drewN nd) (k := 2) (by omega) (x' := ⟨n.key, n.pins, b⟩) (v := .bool b) rfl
    rw [hl3] at hs3
    have HG : Aside (Good (m + 1) cap (l1 ++ { n with mkd := b } :: l2)) := hg.at rfl ⟨hpn.1, by show n.pins ≤ _; omega⟩
    have hmark := fun F w hs => mark_any L M cap (l1 ++ n :: l2) n.key b F w hs hg.kd
    rw [hasB_found, atL_found hg.kd] at hmark
    have HM : Aside (∀ F w, Sat (lruP TL TI L M cap (l1 ++ n :: l2) * F) w → _) := hmark
    clear hg hs hs1 hs2 hmark
    generalize (tw (l1 ++ n :: l2)).length = ln at *
    rcases hkd with ⟨rfl, rfl⟩ | ⟨rfl, rfl⟩
    all_goals
      go_enter Try.func42, Try.ntmps42
      go_wp2_with (go_at_call 43; refine hat.mono ?_; rintro e w' ⟨rfl, rfl⟩)
      clear hat
      go_region
      have hs4 := hs3 1
      have y0 := hs4.c w.heap.size 0
      have y1 := hs4.c w.heap.size 1
      go_wp2_with (fail)
      refine (HM.out _ _ (hs4.take (lruP TL TI L M cap (l1 ++ n :: l2)))).mono ?_
      rintro e w3 ⟨rfl, hs5⟩
      clear hs4 hs3 y0 y1
      go_wp2
      go_ret
      refine ⟨rfl, _, some ⟨g, 0, none⟩, c, ?_, HG.out⟩
      rw [tw_split]
      simp only [tw1]
      exact keep3 hs5 _ _ F
  · rw [tw_none hno] at hat
    have hpin := mark_any L M cap ns ky b _ _ (hs1.take (lruP TL TI L M cap ns)) hg.kd
    rw [hasB_none hno, atL_none hno] at hpin
    have HG : Aside (Good m cap ns) := hg
    clear hg hs hs1
    rcases hkd with ⟨rfl, rfl⟩ | ⟨rfl, rfl⟩
    all_goals
      go_enter Try.func42, Try.ntmps42
      go_wp2_with (go_at_call 43; refine hat.mono ?_; rintro e w' ⟨rfl, rfl⟩)
      clear hat
      refine hpin.mono ?_
      rintro e w3 ⟨rfl, hs3⟩
      go_wp2
      go_ret
      exact ⟨rfl, ns, a, c, keep3 hs3 (lruP TL TI L M cap ns) _ F, HG.out.more⟩

end Go.Proofs.Ytjhkmmpgjiciiaa
