/-
  LruPlays: does, Add.
-/
import Derived.Test.YtjhkmmpgjiciiaaLaw06f
namespace Go.Proofs.Ytjhkmmpgjiciiaa
set_option linter.unusedSimpArgs false
set_option linter.unusedVariables false
open Go.RowKit Go.Sl Go.Lru

theorem Good.new {m : Nat} {cap : Int} {ns : List Nd} (h : Good m cap ns) (k : Int) (b : Nat) (hk : hasB ns k = false) (hl : (ns.length : Int) < cap) : Good m cap (ns ++ [⟨b, k, 0, false⟩]) := by
  have hno : ∀ n ∈ ns, n.key ≠ k := fun n hn => by
    have := List.any_eq_false.1 hk n hn
    simpa using this
  refine ⟨?_, by simp; omega, ?_⟩
  · unfold Keyd
    rw [List.map_append, List.nodup_append]
    refine ⟨h.kd, by simp, ?_⟩
    intro x hx y hy
    obtain ⟨n, hn, rfl⟩ := List.mem_map.1 hx
    simp at hy
    subst hy
    exact hno n hn
  · intro n hn
    rcases List.mem_append.1 hn with hn | hn
    · exact h.pins n hn
    · simp at hn; subst hn; simp

theorem tw_hasB {ns : List Nd} {k : Int} (hk : hasB ns k = false) : atI (tw ns) k = -1 := tw_none fun n hn => by
  have := List.any_eq_false.1 hk n hn
  simpa using this

theorem add_both (L M W : Nat) (cap : Int) (m : Nat) (ns : List Nd) (ky : Int) (hg : Good m cap ns) (hc : cap ≤ 4096) :
    ∃ (g : Int) (h : Bool) (er : Int) (mk : Nat → List Nd), (∀ b, Good m cap (mk b)) ∧ (∀ b, tw (mk b) = tw (mk 0)) ∧
      (∀ F w, Sat (lruP TL TI L M cap ns * F) w → Calls Try.prog 22 #[.pointer (some ⟨L, 0, none⟩), .int .i64 ky] w fun e w' => ∃ b, e = .returned (.tuple #[.int .i64 g, .bool h, .int .i64 er]) ∧ Sat (lruP TL TI L M cap (mk b) * F) w') ∧
      (∀ a c F w, Sat (refP W cap a c (tw ns) * F) w → Calls Try.prog 87 #[.pointer (some ⟨W, 0, none⟩), .int .i64 ky] w fun e w' => ∃ a' c', e = .returned (.tuple #[.int .i64 g, .bool h, .int .i64 er]) ∧ Sat (refP W cap a' c' (tw (mk 0)) * F) w') := by
  have hlen : (tw ns).length ≤ 4096 := by have := hg.len; rw [tw_len]; omega
  cases hk : hasB ns ky with
  | true =>
    refine ⟨0, false, 1, fun _ => ns, fun _ => hg, fun _ => rfl, fun F w hs => (add_has L M cap ns ky F w hs hg.kd hk).mono fun e w' ⟨h, h'⟩ => ⟨0, h, h' ▸ hs⟩, fun a c F w hs => ?_⟩
    rcases find_cases ns ky with ⟨l1, n, l2, rfl, rfl⟩ | hno
    · exact (refAdd_has W cap a c _ n.key l1.length F w hs (by omega) (tw_found hg.kd)).mono fun e w' ⟨h, h'⟩ => ⟨a, c, h, h' ▸ hs⟩
    · rw [hasB_none hno] at hk; cases hk
  | false =>
    have hat := tw_hasB hk
    cases hl : ((ns.length : Int) == cap) with
    | false =>
      have hl2 : ((tw ns).length : Int) == cap ↔ False := by rw [tw_len, hl]; simp
      have hl3 : (((tw ns).length : Int) == cap) = false := by rw [tw_len, hl]
      have hlt : (ns.length : Int) < cap := by have := hg.len; simp at hl; omega
      refine ⟨0, false, 0, fun b => ns ++ [⟨b, ky, 0, false⟩], fun b => hg.new ky b hk hlt, fun b => by simp [tw, tw1], fun F w hs => add_room L M cap ns ky F w hs hg.kd hk hl, fun a c F w hs => ?_⟩
      have := refAdd_room W cap a c (tw ns) ky F w hs (by omega) hat hl3
      have e1 : tw (ns ++ [⟨0, ky, 0, false⟩]) = tw ns ++ [⟨ky, 0, false⟩] := by simp [tw, tw1]
      rw [e1]
      exact this
    | true =>
      have hl3 : (((tw ns).length : Int) == cap) = true := by rw [tw_len, hl]
      cases ho : oldL ns with
      | none =>
        have hno : ∀ n ∈ ns, n.pins ≠ 0 := fun n hn => by have := List.find?_eq_none.1 ho n hn; simpa using this
        have hoi : oldI (tw ns) = -1 := oldI_none fun x hx => by
          obtain ⟨n, hn, rfl⟩ := List.mem_map.1 hx
          exact hno n hn
        exact ⟨0, false, 9, fun _ => ns, fun _ => hg, fun _ => rfl, fun F w hs => (add_stuck L M cap ns ky F w hs hg.kd hk hl (by simp [oldB, ho])).mono fun e w' ⟨h, h'⟩ => ⟨0, h, h'⟩,
          fun a c F w hs => (refAdd_stuck W cap a c (tw ns) ky F w hs (by omega) hat hl3 hoi).mono fun e w' ⟨h, nn, h'⟩ => ⟨a, c, h, h' ▸ hs.drewN nn⟩⟩
      | some n =>
        obtain ⟨hp, l1, l2, hns, hl1⟩ := List.find?_eq_some_iff_append.1 ho
        have hp0 : n.pins = 0 := by simpa using hp
        have hoi : oldI (tw ns) = (l1.length : Nat) := by
          rw [hns]
          refine oldI_found (tw_at l1 n l2) hp0 ?_
          intro j y hj hy
          rw [tw, List.map_append, List.getElem?_append_left (by simpa using hj)] at hy
          obtain ⟨m, hm, rfl⟩ := List.mem_map.1 (List.mem_of_getElem? hy)
          have := hl1 m hm
          simpa [tw1] using this
        have hsub : Good m cap (l1 ++ l2) := by
          have := hg.out n.key
          rw [hns, outL_found (hns ▸ hg.kd)] at this
          exact this
        have hk2 : hasB (l1 ++ l2) ky = false := by
          rw [hns] at hk
          simp [hasB] at hk ⊢
          first | exact ⟨hk.1, hk.2.2⟩ | exact fun x hx => hx.elim (hk.1 x) (hk.2.2 x)
        have hlt : ((l1 ++ l2).length : Int) < cap := by
          have := hg.len
          rw [hns] at this
          simp at this ⊢
          omega
        refine ⟨n.key, true, 0, fun b => l1 ++ l2 ++ [⟨b, ky, 0, false⟩], fun b => hsub.new ky b hk2 hlt, fun b => by simp [tw, tw1], fun F w hs => add_full L M cap ns ky F w hs hg.kd hk hl l1 n l2 hns ho, fun a c F w hs => ?_⟩
        have := refAdd_full W cap a c (tw ns) ky l1.length (tw1 n) F w hs (by omega) hat hl3 hoi (by rw [hns]; exact tw_at l1 n l2)
        have e1 : tw (l1 ++ l2 ++ [⟨0, ky, 0, false⟩]) = (tw ns).eraseIdx l1.length ++ [⟨ky, 0, false⟩] := by rw [hns, tw_out]; simp [tw, tw1]
        rw [e1]
        exact this

set_option maxRecDepth 100000 in
set_option maxHeartbeats 800000 in
theorem does_add (L M W : Nat) (cap : Int) (m : Nat) (ns : List Nd) (a : Option Addr) (c : Nat) (ky : Int) (F : Assn) (w : World) (hs : Sat (lruP TL TI L M cap ns * (refP W cap a c (tw ns) * F)) w) (hg : Good m cap ns) (hc : cap ≤ 4096) :
    Calls Try.prog 42 #[.pointer (some ⟨L, 0, none⟩), .pointer (some ⟨W, 0, none⟩), .agg #[.int .i64 2, .int .i64 ky]] w fun e w' => e = .returned (.bool true) ∧ Both L M W cap (m + 1) F w' := by
  have hlen : (tw ns).length ≤ 4096 := by have := hg.len; rw [tw_len]; omega
  have hs1 := hs.alloc #[.int .i64 2, .int .i64 ky] 35
  simp only [block, cells, sep_one, List.length_cons, List.length_nil, Nat.zero_add] at hs1
  have x0 := hs1.c w.heap.size 0
  have x1 := hs1.c w.heap.size 1
  have hat := refAt_any W cap a c _ ky _ _ (hs1.take (refP W cap a c (tw ns))) (by omega)
  have hs2 := hs1.take (lruP TL TI L M cap ns)
  obtain ⟨g, h, er, mk, h1, h2, hadd, href⟩ := add_both L M W cap m ns ky hg hc
  have HG : Aside ((∀ b, Good m cap (mk b)) ∧ (∀ b, tw (mk b) = tw (mk 0))) := ⟨h1, h2⟩
  have hadd' := hadd _ _ hs2
  generalize atI (tw ns) ky = i at hat
  clear hg hs h1 h2 hadd hs1
  go_enter Try.func42, Try.ntmps42
  go_wp2_with (go_at_call 43; refine hat.mono ?_; rintro e w' ⟨rfl, rfl⟩)
  clear hat
  generalize w.alloc _ = w1 at hs2 x0 x1 hadd' ⊢
  clear hs2
  go_wp2_with (go_at_call 22; refine hadd'.mono ?_; rintro e w3 ⟨b, rfl, hs3⟩; have y1 := hs3.c w.heap.size 1; have hs4 := (hs3.take (refP W cap a c (tw ns))); clear hs3)
  refine (href _ _ _ _ hs4).mono ?_
  rintro e w5 ⟨a5, c5, rfl, hs5⟩
  go_wp2
  go_ret
  refine ⟨by simp, mk b, a5, c5, ?_, (HG.out.1 b).more⟩
  rw [HG.out.2 b]
  exact keep3 hs5 (lruP TL TI L M cap (mk b)) _ F

end Go.Proofs.Ytjhkmmpgjiciiaa
