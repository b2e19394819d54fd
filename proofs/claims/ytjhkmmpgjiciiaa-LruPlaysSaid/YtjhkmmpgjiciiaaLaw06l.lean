/-
  LruPlays: the law.
-/
import Derived.Test.YtjhkmmpgjiciiaaLaw06k
import Derived.Test.YtjhkmmpgjiciiaaLaw06c
import Derived.Test.YtjhkmmpgjiciiaaLru5
import Derived.Deep.RegionHeld3
import Derived.Deep.DrawnRows
import Derived.Test.YtjhkmmpgjiciiaaSle
namespace Go.Proofs.Ytjhkmmpgjiciiaa
set_option linter.unusedSimpArgs false
set_option linter.unusedVariables false
open Go.RowKit Go.Sl Go.Lru
attribute [local go_sem ↓] Go.wp_at_zero Go.wp_at_succ

theorem does_any (L M W : Nat) (cap : Int) (m : Nat) (ns : List Nd) (a : Option Addr) (c : Nat) (kd ky : Int) (F : Assn) (w : World) (hs : Sat (lruP TL TI L M cap ns * (refP W cap a c (tw ns) * F)) w) (hg : Good m cap ns) (hc : cap ≤ 4096) (hm : m ≤ 100000) :
    Calls Try.prog 42 #[.pointer (some ⟨L, 0, none⟩), .pointer (some ⟨W, 0, none⟩), .agg #[.int .i64 kd, .int .i64 ky]] w fun e w' => e = .returned (.bool true) ∧ Both L M W cap (m + 1) F w' := by
  by_cases h1 : kd = 1
  · subst h1; exact does_use L M W cap m ns a c ky F w hs hg hc
  by_cases h2 : kd = 2
  · subst h2; exact does_add L M W cap m ns a c ky F w hs hg hc
  by_cases h3 : kd = 3
  · subst h3; exact does_drop L M W cap m ns a c ky F w hs hg hc
  by_cases h4 : kd = 4
  · subst h4; exact does_pin L M W cap m ns a c ky F w hs hg hc hm
  by_cases h5 : kd = 5
  · subst h5; exact does_unpin L M W cap m ns a c ky F w hs hg hc hm
  by_cases h6 : kd = 6
  · exact does_mark L M W cap m ns a c kd ky true (.inl ⟨h6, rfl⟩) F w hs hg hc
  by_cases h7 : kd = 7
  · exact does_mark L M W cap m ns a c kd ky false (.inr ⟨h7, rfl⟩) F w hs hg hc
  exact does_old L M W cap m ns a c kd ky (by simp [h1, h2, h3, h4, h5, h6, h7]) F w hs hg hc

theorem tw_has (ns : List Nd) (h : Keyd ns) (k : Int) : hasB ns k = decide (0 ≤ atI (tw ns) k) := by
  rcases find_cases ns k with ⟨l1, n, l2, rfl, rfl⟩ | hno
  · rw [hasB_found, tw_found h]; simp
  · rw [hasB_none hno, tw_none hno]; rfl

theorem tw_keys (ns : List Nd) : (tw ns).map (·.key) = ns.map (·.key) := by simp [tw, tw1, Function.comp_def]
theorem tw_imk (ns : List Nd) : imk (tw ns) = markedK ns := by
  simp [imk, markedK, tw, tw1, List.filter_map, Function.comp_def]

set_option maxRecDepth 100000 in
set_option maxHeartbeats 2000000 in
theorem lruPlays_walk (cap : Int) (v : Value) (cs : List (Int × Int)) (w : World) (hv : Rws w v 2 (cs.map crow)) (hm : cs.length ≤ 9223372036854775807) :
    Calls Try.prog 8 #[.int .i64 cap, v] w fun e w' => e = .returned (.bool true) ∧ Below w.heap.size w w' := by
  obtain ⟨va, vc, hvv⟩ := hv.len
  rw [List.length_map] at hvv
  subst hvv
  by_cases hcap : cap < 1 ∨ 4096 < cap
  · have hcb : ((decide (cap < 1)) || (decide (4096 < cap))) = true := by simpa using hcap
    go_enter Try.func8, Try.ntmps8
    go_wp2_with (go_at_call 18; refine (new_no cap w hcap).mono ?_; rintro e w' ⟨rfl, rfl⟩)
    refine (awake06 (old w) w (Sat.old_self w)).mono ?_
    rintro e w2 ⟨rfl, hs2⟩
    rcases hcap with h | h
    · go_wp2
      go_ret
      exact ⟨rfl, (Sat.take (R := 1) (by simpa using hs2) (old w)).old_below⟩
    · have h1 : ¬ cap < 1 := by omega
      go_wp2
      go_ret
      exact ⟨rfl, (Sat.take (R := 1) (by simpa using hs2) (old w)).old_below⟩
  · have hc1 : ¬ cap < 1 := by omega
    have hc2 : ¬ 4096 < cap := by omega
    clear hcap
    go_enter Try.func8, Try.ntmps8
    go_wp2_with fail
    refine (new_yes cap (old w) w (Sat.old_self w) (by omega) (by omega)).mono ?_
    rintro e w1 ⟨L, M, rfl, hs1⟩
    go_wp2_with fail
    refine (awake06 _ w1 hs1).mono ?_
    rintro e w2 ⟨rfl, hs2⟩
    clear hs1
    have hs3 := hs2.alloc #[.int .i64 cap, .slice none 0 0] TR
    simp only [block, cells, sep_one, List.length_cons, List.length_nil, Nat.zero_add] at hs3
    go_wp2
    go_loopg [8] cs.length (fun k i wr => ∃ (j : Nat) (ns : List Nd) (a : Option Addr) (c : Nat), i = .int .i64 j ∧ j ≤ cs.length ∧ j ≤ 150 ∧ Aside (k = cs.length - j ∧ Good j cap ns) ∧ Sat (lruP TL TI L M cap ns * (refP w2.heap.size cap a c (tw ns) * old w)) wr)
    case atStart =>
      refine ⟨0, [], none, 0, rfl, by omega, by omega, ⟨rfl, by simp [Keyd], by simp; omega, by simp⟩, ?_⟩
      have h4 := Sat.rw_nil (e := TRI) (s := 3) hs3
      unfold refP
      refine h4.eq ?_
      show _ = lruP TL TI L M cap [] * ((hdr _ TR 2 * (Sl.cell _ 0 (.int .i64 cap) * (Sl.cell _ 1 (.slice none 0 0) * rw TRI 3 (.slice none 0 0) []))) * old w)
      ac_rfl
    case round =>
      obtain ⟨j, ns, a, c, rfl, hj, hj150, A, hs⟩ := hrel
      clear hs3 hs2
      generalize w2.heap.size = W' at *
      by_cases hjl : j < cs.length
      · have hj3 : (j : Int) < cs.length := by omega
        by_cases hj2 : j < 150
        · have hj4 : (j : Int) < 150 := by omega
          obtain ⟨⟨kd, ky⟩, hx⟩ : ∃ x, cs[j]? = some x := ⟨cs[j], by simp [hjl]⟩
          have hrow : (cs.map crow)[j]? = some (crow (kd, ky)) := by simp [hx]
          obtain ⟨kb, ko, e1, hcell⟩ := (hv.old (hs.take (old w))).at hrow
          subst e1
          have x0 := hcell 0 _ rfl
          have x1 := hcell 1 _ rfl
          simp only [Nat.add_zero] at x0
          clear hcell hx
          have hdoes := does_any L M W' cap j ns a c kd ky (old w) wr.drew hs.drew A.out.2 (by omega) (by omega)
          have HV : Aside (∀ (F : Assn) (w' : World), Sat (old w * F) w' → w'.cell? ⟨kb, ko + j * 2, none⟩ = some (.int .i64 kd) ∧ w'.cell? ⟨kb, ko + j * 2 + 1, none⟩ = some (.int .i64 ky)) := by
            intro F w' h
            obtain ⟨kb2, ko2, e2, hcell2⟩ := (hv.old h).at hrow
            cases e2
            have h0 := hcell2 0 _ rfl
            have h1 := hcell2 1 _ rfl
            exact ⟨by simpa using h0, by simpa using h1⟩
          clear hrow hs
          go_wp2_with fail
          go_region_held3 (fun w' => w'.cell? ⟨kb, ko + j * 2, none⟩ = some (.int .i64 kd) ∧ w'.cell? ⟨kb, ko + j * 2 + 1, none⟩ = some (.int .i64 ky)) (first | exact zz | exact ⟨x0, x1⟩) (first
            | (go_at_call 42; refine hdoes.mono ?_; rintro e w5 ⟨rfl, ns5, a5, c5, hs5, hg5⟩; have zz := HV.out _ _ (hs5.take (old w)); have hhas := has_any L M cap ns5 ky _ _ hs5 hg5.kd; have hAt := refAt_any W' cap a5 c5 (tw ns5) ky _ _ (hs5.take (refP W' cap a5 c5 (tw ns5))) (by have := hg5.len; rw [tw_len]; omega); rw [tw_has ns5 hg5.kd] at hhas; have HG5 : Aside (Good (j + 1) cap ns5) := hg5; clear hg5; generalize atI (tw ns5) ky = q5 at hhas hAt)
            | (go_at_call 20; refine hhas.mono ?_; rintro e w' ⟨rfl, rfl⟩)
            | (go_at_call 43; refine hAt.mono ?_; rintro e w' ⟨rfl, rfl⟩))
          all_goals
            clear hdoes hhas hAt x0 x1
            have hl5 := HG5.out.len
            have hk5 := keys_any L M cap ns5 _ _ hs5 (by omega)
            go_wp2_with fail
            refine hk5.mono ?_
            rintro e w6 ⟨ka, kc, rfl, hs6⟩
            clear hk5 hs5
            have hr5 := refKeys_all W' cap a5 c5 (tw ns5) _ _ (hs6.take (refP W' cap a5 c5 (tw ns5))) (by rw [tw_len]; omega)
            go_wp2_with fail
            refine hr5.mono ?_
            rintro e w7 ⟨ra, rn, rc, rfl, hs7⟩
            have ek : ns5.map kval = (ns5.map (·.key)).map (Value.int .i64) := by simp [kval]
            have hs7' := hs7.take (rw 3 1 (.slice ka ns5.length kc) (ns5.map kval))
            rw [ek] at hs7'
            have hi1 := ints_any _ _ (ns5.map (·.key)) ((tw ns5).map (·.key)) w7 (Ints.of_rw hs7') (Ints.of_rw hs7) (by simp; omega) (by rw [tw_keys]; simp; omega)
            rw [tw_keys] at hi1
            simp only [decide_true] at hi1
            clear hr5 hs6
            go_wp2_with fail
            refine hi1.mono ?_
            rintro e w7b ⟨rfl, n7, rfl⟩
            have hs7b := (hs7.drewN n7).take (lruP TL TI L M cap ns5)
            have hmk := marked_any L M cap ns5 _ _ hs7b (by omega)
            clear hi1 hs7 hs7'
            go_wp2_with fail
            refine hmk.mono ?_
            rintro e w8 ⟨ma, mn, mc, rfl, hs8⟩
            have hr6 := refKeys_mkd W' cap a5 c5 (tw ns5) _ _ (hs8.take (refP W' cap a5 c5 (tw ns5))) (by rw [tw_len]; omega)
            clear hmk hs7b
            go_wp2_with fail
            refine hr6.mono ?_
            rintro e w9 ⟨sa, sn, sc, rfl, hs9⟩
            have hml : (sortI (markedK ns5)).length ≤ ns5.length := by
              have h1 : (sortI (markedK ns5)).length = (markedK ns5).length := by unfold sortI; simp
              have h2 : (markedK ns5).length ≤ ns5.length := by unfold markedK; rw [List.length_map]; exact List.length_filter_le _ _
              omega
            rw [tw_imk] at hs9
            have hi2 := ints_any _ _ (sortI (markedK ns5)) (sortI (markedK ns5)) w9 (Ints.of_rw (hs9.take (rw 3 1 (.slice ma mn mc) ((sortI (markedK ns5)).map (Value.int .i64))))) (Ints.of_rw hs9) (by omega) (by omega)
            simp only [decide_true] at hi2
            clear hr6 hs8
            go_wp2_with fail
            refine hi2.mono ?_
            rintro e w10 ⟨rfl, n10, rfl⟩
            have hs10 : Sat (rw 3 1 (.slice ka ns5.length kc) (ns5.map kval) * (lruP TL TI L M cap ns5 * (refP W' cap a5 c5 (tw ns5) * old w))) (w9.drewN n10) :=
              Sat.weak (B := rw 3 1 (.slice sa sn sc) ((sortI (markedK ns5)).map (Value.int .i64)) * (rw 3 1 (.slice ma mn mc) ((sortI (markedK ns5)).map (Value.int .i64)) * rw 3 1 (.slice ra rn rc) (((tw ns5).map (·.key)).map (Value.int .i64)))) ((hs9.drewN n10).eq (by ac_rfl))
            clear hi2 hs9 hml
            generalize w9.drewN n10 = w11 at hs10 ⊢
            obtain ⟨N5, hN5⟩ : ∃ n, ns5.length = n := ⟨_, rfl⟩
            have HN : Aside (ns5.length = N5) := hN5
            rw [hN5] at hs10 hl5
            rw [hN5]
            clear hN5 zz
            go_wp2_with fail
            go_loopg [10] N5 (fun g2 t wr2 => ∃ (q : Nat) (xs : List Value), t = .int .i64 q ∧ q ≤ N5 ∧ Aside (g2 = N5 - q ∧ xs.length = N5) ∧
              Sat (rw 3 1 (.slice ka N5 kc) xs * (lruP TL TI L M cap ns5 * (refP W' cap a5 c5 (tw ns5) * old w))) wr2)
            case atStart => exact ⟨0, ns5.map kval, rfl, by omega, ⟨rfl, by rw [List.length_map]; exact HN.out⟩, hs10⟩
            case round =>
              obtain ⟨q, xs, rfl, hq, A2, hs11⟩ := hrel
              clear hs10
              by_cases hqn : q < N5
              · have hqn' : (q : Int) < N5 := by omega
                obtain ⟨y, hy⟩ : ∃ y, xs[q]? = some y := ⟨xs[q]'(by have := A2.out.2; omega), by simp⟩
                obtain ⟨g, e1, y0, y1⟩ := hs11.rw_get hy
                subst e1
                have hs12 := rw_set (a := none) hs11 (k := q) (by have := A2.out.2; omega) (.int .i64 (-5))
                clear hs11 hy
                go_wp2
                go_roundg (N5 - (q + 1))
                case measure => have := A2.out.1; omega
                case rel => exact ⟨q + 1, xs.set q (.int .i64 (-5)), by go_num, by omega, ⟨rfl, by rw [List.length_set]; exact A2.out.2⟩, hs12⟩
              · have hqn' : ¬ (q : Int) < N5 := by omega
                go_wp2
                go_roundg (cs.length - (j + 1))
                case measure => have := A.out.1; omega
                case rel => exact ⟨j + 1, ns5, a5, c5, by go_num, by omega, by omega, ⟨rfl, HG5.out⟩, hs11.right⟩
        · have hj4 : ¬ (j : Int) < 150 := by omega
          go_wp2
          go_ret
          exact ⟨rfl, (hs.take (old w)).old_below⟩
      · have hj3 : ¬ (j : Int) < cs.length := by omega
        go_wp2
        go_ret
        exact ⟨rfl, (hs.take (old w)).old_below⟩

end Go.Proofs.Ytjhkmmpgjiciiaa
