/-
  LruPlays: does, Pin, Unpin, Mark, Oldest.
-/
import Derived.Test.YtjhkmmpgjiciiaaLaw06g
namespace Go.Proofs.Ytjhkmmpgjiciiaa
set_option linter.unusedSimpArgs false
set_option linter.unusedVariables false
open Go.RowKit Go.Sl Go.Lru

theorem rw_setS {e s : Nat} {n c k : Nat} {xs : List Value} {F : Assn} {w : World} {g : Nat} (hs : Sat (rw e s (.slice (some ⟨g, 0, none⟩) n c) xs * F) w) (hk : k < xs.length) (v : Value) : Sat (rw e s (.slice (some ⟨g, 0, none⟩) n c) (xs.set k v) * F) (w.setCell ⟨g, k, none⟩ v) := by
  rcases hs.rw_open with ⟨h1, h2, h3⟩ | ⟨g', n', cap', sp, h1, h2, h3, h4, h5, h6⟩
  · cases h1
  · cases h1
    have h7 := h6.at_set (k := k) (by simp; omega) v
    rw [List.set_append_left _ _ hk] at h7
    exact Sat.rw_shut (sp := sp) (by simpa using h2) (by simpa using h3) h4 h5 h7

theorem ref_row {W g c k : Nat} {cap : Int} {l1 l2 : List It} {x x' : It} {v : Value} {F : Assn} {w : World} (hs : Sat (refP W cap (some ⟨g, 0, none⟩) c (l1 ++ x :: l2) * F) w) (hk : k < 3) (hx : (irow x).set k v = irow x') :
    Sat (refP W cap (some ⟨g, 0, none⟩) c (l1 ++ x' :: l2) * F) (w.setCell ⟨g, l1.length * 3 + k, none⟩ v) := by
  unfold refP at hs ⊢
  have hs1 := hs.take (rw TRI 3 (.slice (some ⟨g, 0, none⟩) (l1 ++ x :: l2).length c) (flat (l1 ++ x :: l2)))
  have h2 := rw_setS hs1 (k := l1.length * 3 + k) (by rw [flat_len]; simp; omega) v
  have e1 : (flat (l1 ++ x :: l2)).set (l1.length * 3 + k) v = flat (l1 ++ x' :: l2) := by
    have e2 : ∀ y : It, flat (l1 ++ y :: l2) = flat l1 ++ (irow y ++ flat l2) := fun y => by simp [flat]
    rw [e2, e2, List.set_append_right _ _ (by rw [flat_len]; omega), flat_len, Nat.add_sub_cancel_left, List.set_append_left _ _ (by simp [irow]; omega), hx]
  rw [e1] at h2
  have e3 : (l1 ++ x' :: l2).length = (l1 ++ x :: l2).length := by simp
  rw [e3]
  refine h2.eq ?_
  ac_rfl

theorem ref_free {W : Nat} {cap : Int} {g c i k : Nat} {its : List It} {x : It} {F : Assn} {w : World} (hs : Sat (refP W cap (some ⟨g, 0, none⟩) c its * F) w) (hi : its[i]? = some x) (hk : k < 3) : w.frozen? ⟨g, i * 3 + k, none⟩ = false := by
  unfold refP at hs
  have h := hs.take (rw TRI 3 (.slice (some ⟨g, 0, none⟩) its.length c) (flat its))
  have hl : i * 3 + k < (flat its).length := by
    have := (List.getElem?_eq_some_iff.1 hi).1
    rw [flat_len]; omega
  obtain ⟨g', e, _, hf⟩ := rw_at h (List.getElem?_eq_getElem hl)
  cases e
  exact hf

theorem Good.at {m : Nat} {cap : Int} {l1 l2 : List Nd} {n n' : Nd} (h : Good m cap (l1 ++ n :: l2)) (hk : n'.key = n.key) (hp : 0 ≤ n'.pins ∧ n'.pins ≤ (m + 1 : Nat)) : Good (m + 1) cap (l1 ++ n' :: l2) := by
  refine ⟨?_, by have := h.len; simp at this ⊢; omega, ?_⟩
  · have := h.kd
    unfold Keyd at this ⊢
    simpa [hk] using this
  · intro x hx
    simp at hx
    rcases hx with hx | rfl | hx
    · have := h.pins x (by simp [hx]); omega
    · exact hp
    · have := h.pins x (by simp [hx]); omega

theorem tw_split (l1 : List Nd) (n : Nd) (l2 : List Nd) : tw (l1 ++ n :: l2) = tw l1 ++ tw1 n :: tw l2 := by simp [tw]

set_option maxRecDepth 100000 in
set_option maxHeartbeats 800000 in
theorem does_pin (L M W : Nat) (cap : Int) (m : Nat) (ns : List Nd) (a : Option Addr) (c : Nat) (ky : Int) (F : Assn) (w : World) (hs : Sat (lruP TL TI L M cap ns * (refP W cap a c (tw ns) * F)) w) (hg : Good m cap ns) (hc : cap ≤ 4096) (hm : m ≤ 100000) :
    Calls Try.prog 42 #[.pointer (some ⟨L, 0, none⟩), .pointer (some ⟨W, 0, none⟩), .agg #[.int .i64 4, .int .i64 ky]] w fun e w' => e = .returned (.bool true) ∧ Both L M W cap (m + 1) F w' := by
  have hlen : (tw ns).length ≤ 4096 := by have := hg.len; rw [tw_len]; omega
  have hs1 := hs.alloc #[.int .i64 4, .int .i64 ky] 35
  simp only [block, cells, sep_one, List.length_cons, List.length_nil, Nat.zero_add] at hs1
  have x0 := hs1.c w.heap.size 0
  have x1 := hs1.c w.heap.size 1
  have hat := refAt_any W cap a c _ ky _ _ (hs1.take (refP W cap a c (tw ns))) (by omega)
  have hpb : ∀ n ∈ ns, 0 ≤ n.pins ∧ n.pins < 4611686018427387904 := fun n hn => by have := hg.pins n hn; omega
  rcases find_cases ns ky with ⟨l1, n, l2, rfl, rfl⟩ | hno
  · rw [tw_found hg.kd] at hat
    have hi0 : (0 : Int) ≤ l1.length := by omega
    have hpn := hg.pins n (by simp)
    have hil : l1.length < (tw (l1 ++ n :: l2)).length := by simp [tw]
    have hil2 : (l1.length : Int) < (tw (l1 ++ n :: l2)).length := by omega
    have hs2 := hs1.take (refP W cap a c (tw (l1 ++ n :: l2)))
    obtain ⟨g, rfl, k0, k1a, k2⟩ := ref_at hs2 (tw_at l1 n l2)
    have f1 := ref_free hs2 (tw_at l1 n l2) (k := 1) (by omega)
    have hs0 := hs1
    unfold refP at hs0
    have d1 := hs0.c W 1
    clear hs0 k0 k2
    have k1 : (w.alloc (.cells #[.int .i64 4, .int .i64 n.key] 35)).cell? ⟨g, l1.length * 3 + 1, none⟩ = some (.int .i64 n.pins) := k1a
    clear k1a
    have hl3 : (tw l1).length * 3 + 1 = l1.length * 3 + 1 := by rw [tw_len]
    rw [tw_split] at hs2
    have hs3 := ref_row hs2 (k := 1) (by omega) (x' := ⟨n.key, n.pins + 1, n.mkd⟩) (v := .int .i64 (n.pins + 1)) rfl
    rw [hl3] at hs3
    have y1 := hs3.c w.heap.size 1
    have hpin := pin_any L M cap _ n.key _ _ (hs3.take (lruP TL TI L M cap (l1 ++ n :: l2))) hg.kd hpb
    rw [hasB_found, atL_found hg.kd] at hpin
    have HG : Aside (Good (m + 1) cap (l1 ++ { n with pins := n.pins + 1 } :: l2)) := hg.at rfl ⟨by show 0 ≤ n.pins + 1; omega, by show n.pins + 1 ≤ _; omega⟩
    have hpn1 : (n.pins : Int) + 1 < 9223372036854775808 := by omega
    have hpn2 := hpn.1
    clear hg hs hpb hs1 hs2 hs3
    generalize (tw (l1 ++ n :: l2)).length = ln at *
    go_enter Try.func42, Try.ntmps42
    go_wp2_with (go_at_call 43; refine hat.mono ?_; rintro e w' ⟨rfl, rfl⟩)
    refine hpin.mono ?_
    rintro e w3 ⟨rfl, hs4⟩
    clear hpin hat
    go_wp2
    go_ret
    refine ⟨rfl, _, some ⟨g, 0, none⟩, c, ?_, HG.out⟩
    have e1 : tw (l1 ++ { n with pins := n.pins + 1 } :: l2) = tw l1 ++ (⟨n.key, n.pins + 1, n.mkd⟩ : It) :: tw l2 := by simp [tw, tw1]
    rw [e1]
    exact keep3 hs4 _ _ F
  · rw [tw_none hno] at hat
    have hpin := pin_any L M cap ns ky _ _ (hs1.take (lruP TL TI L M cap ns)) hg.kd hpb
    rw [hasB_none hno, atL_none hno] at hpin
    have HG : Aside (Good m cap ns) := hg
    clear hg hs hpb hs1
    go_enter Try.func42, Try.ntmps42
    go_wp2_with (go_at_call 43; refine hat.mono ?_; rintro e w' ⟨rfl, rfl⟩)
    clear hat
    refine hpin.mono ?_
    rintro e w3 ⟨rfl, hs3⟩
    go_wp2
    go_ret
    exact ⟨rfl, ns, a, c, keep3 hs3 (lruP TL TI L M cap ns) _ F, HG.out.more⟩

end Go.Proofs.Ytjhkmmpgjiciiaa
