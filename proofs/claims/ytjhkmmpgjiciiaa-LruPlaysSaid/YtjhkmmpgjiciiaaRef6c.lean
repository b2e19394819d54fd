/-
  Walks of octavoref06: Keys.
-/
import Derived.Test.YtjhkmmpgjiciiaaRef6b
import Derived.Test.YtjhkmmpgjiciiaaLru5
namespace Go.Proofs.Ytjhkmmpgjiciiaa
set_option linter.unusedSimpArgs false
set_option linter.unusedVariables false
open Go.RowKit Go.Sl Go.Lru

abbrev ikv (x : It) : Int := x.key
def imk (its : List It) : List Int := (its.filter (·.mkd)).map (·.key)

set_option maxRecDepth 100000 in
set_option maxHeartbeats 400000 in
theorem refKeys_all (W : Nat) (cap : Int) (a : Option Addr) (c : Nat) (its : List It) (F : Assn) (w : World) (hs : Sat (refP W cap a c its * F) w) (hm : its.length ≤ 100000) :
    Calls Try.prog 44 #[.pointer (some ⟨W, 0, none⟩), .bool false] w fun e w' => ∃ a' n' c', e = .returned (.slice a' n' c') ∧ Sat (rw 3 1 (.slice a' n' c') ((its.map (·.key)).map (Value.int .i64)) * (refP W cap a c its * F)) w' := by
  obtain ⟨i0, E⟩ := elemInt
  go_enter Try.func44, Try.ntmps44
  go_wp2
  go_loopg [5, 6] its.length (fun g out i wr => ∃ (j : Nat) (a1 : Option Addr) (c1 : Nat), i = .int .i64 j ∧ j ≤ its.length ∧ Aside (g = its.length - j) ∧ out = .slice a1 j c1 ∧ Sat (rw 3 1 (.slice a1 j c1) (((its.take j).map (·.key)).map (Value.int .i64)) * (refP W cap a c its * F)) wr)
  case atStart => exact ⟨0, none, 0, rfl, by omega, rfl, rfl, by simpa using hs.rw_nil⟩
  case round =>
    obtain ⟨j, a1, c1, rfl, hj, A, rfl, hsr⟩ := hrel
    clear hs
    have hsr0 := hsr
    unfold refP at hsr0
    have d1 := hsr0.c W 1
    clear hsr0
    by_cases hlt : j < its.length
    · obtain ⟨x, hx⟩ : ∃ x, its[j]? = some x := ⟨its[j], by simp [hlt]⟩
      obtain ⟨g, rfl, k0, _, _⟩ := ref_at (hsr.take (refP W cap a c its)) hx
      have hlt2 : (j : Int) < its.length := by omega
      have HT : Aside (its.take (j + 1) = its.take j ++ [x]) := by rw [List.take_add_one, hx]; rfl
      have hs4 := hsr.alloc #[.int .i64 x.key] 3
      have hs5 := hs4.take (rw 3 1 (.slice a1 j c1) (((its.take j).map (·.key)).map (Value.int .i64)))
      have hsrc := Src.one_new (P := Try.prog) hs4 rfl
      clear hs4 hx hsr
      go_wp2_with (at_builtin; refine wpl_append_same E rfl (.tmp 19) (.tmp 28) rfl rfl rfl hs5 hsrc (by unfold maxLen; omega) (by omega) ?_; intro a' c' w' hs6 hnil; clear hnil hs5 hsrc)
      go_roundg (its.length - (j + 1))
      case measure => have := A.out; omega
      case rel =>
        refine ⟨j + 1, a', c', by go_num, by omega, rfl, rfl, ?_⟩
        rw [HT.out]
        simp only [List.map_append, List.map_cons, List.map_nil]
        refine Sat.weak (B := block wr.heap.size 3 [.int .i64 x.key]) (hs6.eq ?_)
        ac_rfl
    · have hlt2 : ¬ (j : Int) < its.length := by omega
      have hje : Aside (j = its.length) := by show j = its.length; omega
      go_wp2
      go_ret
      refine ⟨a1, j, c1, rfl, ?_⟩
      rw [hje.out, List.take_length] at hsr
      rw [hje.out]
      simpa only [List.map_map] using hsr

/-! Keys(true): by insertion -/
theorem sortI_of {l : List Int} (h : l.Pairwise (fun a b => a ≤ b)) : sortI l = l := List.mergeSort_of_pairwise (h.imp fun h => by simpa using h)

theorem sortI_sorted (l : List Int) : (sortI l).Pairwise (fun a b => a ≤ b) := by
  have tr : ∀ a b c : Int, decide (a ≤ b) = true → decide (b ≤ c) = true → decide (a ≤ c) = true := by intro a b c; simp; omega
  have tot : ∀ a b : Int, (decide (a ≤ b) || decide (b ≤ a)) = true := by intro a b; simp; omega
  exact (List.pairwise_mergeSort tr tot l).imp fun h => by simpa using h

theorem sortI_snoc {l s : List Int} {y : Int} (hs : sortI l = s) {l1 l2 : List Int} (h12 : l1 ++ l2 = s) (h1 : ∀ a ∈ l1, a ≤ y) (h2 : ∀ b ∈ l2, y ≤ b) : sortI (l ++ [y]) = l1 ++ y :: l2 := by
  have hp : (l ++ [y]).Perm (l1 ++ y :: l2) := by
    have e1 : l.Perm (l1 ++ l2) := by rw [h12, ← hs]; exact (List.mergeSort_perm l _).symm
    exact (e1.append_right [y]).trans (by rw [List.append_assoc]; exact List.Perm.append_left l1 (List.perm_append_singleton y l2))
  rw [sortI_perm hp]
  apply sortI_of
  have hso := sortI_sorted l
  rw [hs, ← h12, List.pairwise_append] at hso
  rw [List.pairwise_append]
  refine ⟨hso.1, List.pairwise_cons.2 ⟨h2, hso.2.1⟩, fun a ha b hb => ?_⟩
  rcases List.mem_cons.1 hb with rfl | hb
  · exact h1 a ha
  · exact hso.2.2 a ha b hb

theorem rw_set {e : Nat} {a : Option Addr} {n c k : Nat} {xs : List Value} {F : Assn} {w : World} {g : Nat} (hs : Sat (rw e 1 (.slice (some ⟨g, 0, none⟩) n c) xs * F) w) (hk : k < xs.length) (v : Value) : Sat (rw e 1 (.slice (some ⟨g, 0, none⟩) n c) (xs.set k v) * F) (w.setCell ⟨g, k, none⟩ v) := by
  rcases hs.rw_open with ⟨h1, h2, h3⟩ | ⟨g', n', cap', sp, h1, h2, h3, h4, h5, h6⟩
  · cases h1
  · cases h1
    have h7 := h6.at_set (k := k) (by simp; omega) v
    rw [List.set_append_left _ _ hk] at h7
    exact Sat.rw_shut (sp := sp) (by simpa using h2) (by simpa using h3) h4 h5 h7

set_option maxRecDepth 100000 in
set_option maxHeartbeats 800000 in
theorem refKeys_mkd (W : Nat) (cap : Int) (a : Option Addr) (c : Nat) (its : List It) (F : Assn) (w : World) (hs : Sat (refP W cap a c its * F) w) (hm : its.length ≤ 100000) :
    Calls Try.prog 44 #[.pointer (some ⟨W, 0, none⟩), .bool true] w fun e w' => ∃ a' n' c', e = .returned (.slice a' n' c') ∧ Sat (rw 3 1 (.slice a' n' c') ((sortI (imk its)).map (Value.int .i64)) * (refP W cap a c its * F)) w' := by
  obtain ⟨i0, E⟩ := elemInt
  go_enter Try.func44, Try.ntmps44
  go_wp2
  go_loopg [5, 6] its.length (fun g out i wr => ∃ (j : Nat) (a1 : Option Addr) (n1 c1 : Nat), i = .int .i64 j ∧ j ≤ its.length ∧ n1 ≤ j ∧ Aside (g = its.length - j) ∧ out = .slice a1 n1 c1 ∧ Sat (rw 3 1 (.slice a1 n1 c1) ((sortI (imk (its.take j))).map (Value.int .i64)) * (refP W cap a c its * F)) wr)
  case atStart => exact ⟨0, none, 0, 0, rfl, by omega, by omega, rfl, rfl, by simpa [imk, sortI] using hs.rw_nil⟩
  case round =>
    obtain ⟨j, a1, n1, c1, rfl, hj, hn1, A, rfl, hsr⟩ := hrel
    clear hs
    have hsr0 := hsr
    unfold refP at hsr0
    have d1 := hsr0.c W 1
    clear hsr0
    by_cases hlt : j < its.length
    · obtain ⟨x, hx⟩ : ∃ x, its[j]? = some x := ⟨its[j], by simp [hlt]⟩
      obtain ⟨g, rfl, k0, _, k2⟩ := ref_at (hsr.take (refP W cap a c its)) hx
      have hlt2 : (j : Int) < its.length := by omega
      have HT : Aside (its.take (j + 1) = its.take j ++ [x]) := by rw [List.take_add_one, hx]; rfl
      obtain ⟨xk, xp, xm⟩ := x
      cases xm
      · clear hx
        go_wp2
        go_roundg (its.length - (j + 1))
        case measure => have := A.out; omega
        case rel =>
          refine ⟨j + 1, a1, n1, c1, by go_num, by omega, by omega, rfl, rfl, ?_⟩
          rw [HT.out]
          simpa [imk] using hsr
      · have hnl : Aside (n1 = (sortI (imk (its.take j))).length) := by have := hsr.rw_len; show n1 = _; simpa using this
        have hs4 := hsr.alloc #[.int .i64 xk] 3
        have hs5 := hs4.take (rw 3 1 (.slice a1 n1 c1) ((sortI (imk (its.take j))).map (Value.int .i64)))
        have hsrc := Src.one_new (P := Try.prog) hs4 rfl
        clear hs4 hx hsr
        have hn2 : n1 + 1 < 9223372036854775808 := by omega
        go_upto_region 10 with (at_builtin; refine wpl_append_same E rfl (.tmp 41) (.tmp 50) rfl rfl rfl hs5 hsrc (by unfold maxLen; omega) (by omega) ?_; intro a' c' w' hs6 hnil; clear hnil hs5 hsrc)
        have hs7 : Sat (rw 3 1 (.slice a' (n1 + 1) c') ((sortI (imk (its.take j)) ++ [xk]).map (Value.int .i64)) * (refP W cap (some ⟨g, 0, none⟩) c its * F)) w' := by
          simp only [List.map_append, List.map_cons, List.map_nil]
          refine Sat.weak (B := block wr.heap.size 3 [.int .i64 xk]) (hs6.eq ?_)
          ac_rfl
        clear hs6 k0 k2 d1
        go_loopg [7] n1 (fun g2 kk wq => ∃ (l1 l2 : List Int), kk = .int .i64 l1.length ∧ Aside (g2 = l1.length) ∧ Aside (l1 ++ l2 = sortI (imk (its.take j))) ∧ l1.length ≤ n1 ∧ Aside (∀ b ∈ l2, xk ≤ b) ∧ Sat (rw 3 1 (.slice a' (n1 + 1) c') ((l1 ++ xk :: l2).map (Value.int .i64)) * (refP W cap (some ⟨g, 0, none⟩) c its * F)) wq)
        case atStart =>
          refine ⟨sortI (imk (its.take j)), [], ?_, hnl, ?_, ?_, ?_, hs7⟩
          · rw [← hnl.out]
          · show _ ++ [] = _; simp
          · exact Nat.le_of_eq hnl.out.symm
          · intro b hb; cases hb
        case round =>
          obtain ⟨l1, l2, rfl, A2, H2, hln, H3, hsq⟩ := hrel
          clear hs7
          have DONE : ∀ wz : World, Aside (∀ a ∈ l1, a ≤ xk) → Sat (rw 3 1 (.slice a' (n1 + 1) c') ((l1 ++ xk :: l2).map (Value.int .i64)) * (refP W cap (some ⟨g, 0, none⟩) c its * F)) wz → Sat (rw 3 1 (.slice a' (n1 + 1) c') ((sortI (imk (its.take (j + 1)))).map (Value.int .i64)) * (refP W cap (some ⟨g, 0, none⟩) c its * F)) wz := by
            intro wz h1 h2
            rw [HT.out]
            have : imk (its.take j ++ [⟨xk, xp, true⟩]) = imk (its.take j) ++ [xk] := by simp [imk]
            rw [this, sortI_snoc rfl H2.out h1.out H3.out]
            exact h2
          rcases (by simpa using List.eq_nil_or_concat l1 : l1 = [] ∨ ∃ l1' z, l1 = l1' ++ [z]) with rfl | ⟨l1', z, rfl⟩
          · go_wp2_with (fail)
            go_quiet (fail)
            go_wp2
            go_roundg (its.length - (j + 1))
            case measure => have := A.out; omega
            case rel =>
              exact ⟨j + 1, a', n1 + 1, c', by go_num, by omega, by omega, rfl, rfl, DONE _ (fun a ha => by cases ha) (hsq.drewN nq)⟩
          · have hz1 : ((l1' ++ [z] ++ xk :: l2).map (Value.int .i64))[l1'.length]? = some (.int .i64 z) := by simp
            have hz2 : ((l1' ++ [z] ++ xk :: l2).map (Value.int .i64))[l1'.length + 1]? = some (.int .i64 xk) := by simp [List.getElem?_append]
            obtain ⟨q, rfl, e1, e2⟩ := rw_at hsq hz1
            obtain ⟨q', hq', e3, e4⟩ := rw_at hsq hz2
            cases hq'
            have hll : ((l1' ++ [z]).length : Int) = (l1'.length : Int) + 1 := by simp
            have hl2 : l1'.length + 1 ≤ n1 := by simpa using hln
            rw [hll]
            have hp : (0 : Int) < (l1'.length : Int) + 1 := by omega
            have HS : Aside (∀ a ∈ l1', a ≤ z) := by
              have := sortI_sorted (imk (its.take j))
              rw [← H2.out, List.append_assoc, List.pairwise_append] at this
              exact fun a ha => this.2.2 a ha z (by simp)
            by_cases hzy : xk < z
            · have hd : decide (xk < z) = true := by simpa using hzy
              have hs8 : ∀ nd : Nat, Sat (rw 3 1 (.slice (some ⟨q, 0, none⟩) (n1 + 1) c') ((l1' ++ xk :: z :: l2).map (Value.int .i64)) * (refP W cap (some ⟨g, 0, none⟩) c its * F)) (((wr.drewN nd).setCell ⟨q, l1'.length, none⟩ (.int .i64 xk)).setCell ⟨q, l1'.length + 1, none⟩ (.int .i64 z)) := by
                intro nd
                have h1 := rw_set (a := none) (hsq.drewN nd) (k := l1'.length) (by simp) (.int .i64 xk)
                have h2 := rw_set (a := none) h1 (k := l1'.length + 1) (by simp) (.int .i64 z)
                have : (((l1' ++ [z] ++ xk :: l2).map (Value.int .i64)).set l1'.length (.int .i64 xk)).set (l1'.length + 1) (.int .i64 z) = (l1' ++ xk :: z :: l2).map (Value.int .i64) := by
                  simp [List.set_append]
                rw [this] at h2
                exact h2
              go_wp2_with (fail)
              go_quiet (fail)
              go_wp2_with (fail)
              go_region
              have hs9 := hs8 (nq + 1)
              clear hs8 hsq e1 e2 e3 e4 DONE
              go_wp2
              go_roundg l1'.length
              case measure => have := A2.out; simp at this; omega
              case rel =>
                refine ⟨l1', z :: l2, by go_num, rfl, ?_, by omega, ?_, hs9⟩
                · show l1' ++ z :: l2 = _; have := H2.out; simpa using this
                · intro b hb
                  rcases List.mem_cons.1 hb with rfl | hb
                  · omega
                  · exact H3.out b hb
            · have hd : decide (xk < z) = false := by simpa using hzy
              go_wp2_with (fail)
              go_quiet (fail)
              go_wp2
              go_roundg (its.length - (j + 1))
              case measure => have := A.out; omega
              case rel =>
                refine ⟨j + 1, _, n1 + 1, c', by go_num, by omega, by omega, rfl, rfl, DONE _ (fun a ha => ?_) (hsq.drewN nq)⟩
                rcases List.mem_append.1 ha with ha | ha
                · have := HS.out a ha; omega
                · simp at ha; omega
    · have hlt2 : ¬ (j : Int) < its.length := by omega
      have hje : Aside (its.take j = its) := by show its.take j = its; exact List.take_of_length_le (by omega)
      go_wp2
      go_ret
      refine ⟨a1, n1, c1, rfl, ?_⟩
      rw [hje.out] at hsr
      exact hsr

end Go.Proofs.Ytjhkmmpgjiciiaa
