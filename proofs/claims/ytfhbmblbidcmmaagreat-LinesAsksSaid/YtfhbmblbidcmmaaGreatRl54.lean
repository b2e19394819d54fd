/-
  Walks and plain laws that the lines of texts lean on. No condition (part 54)
-/
import Derived.Test.YtfhbmblbidcmmaaGreatRl52
import Derived.Test.YtfhbmblbidcmmaaGreatRl53
import Derived.Deep.RegionHeld3
set_option linter.unusedSimpArgs false
set_option linter.unusedVariables false
namespace Go.Proofs.YtfhbmblbidcmmaaGreat
set_option linter.unusedSimpArgs false
set_option linter.unusedVariables false
set_option linter.unusedSectionVars false
open Go.RowKit Go.Sl Go.Dk Go.Tr
open Go.Lru (ikey)
attribute [local go_sem ↓] Go.wp_at_zero Go.wp_at_succ
attribute [local go_sem] Go.Sl.cell_sat Go.Sl.frozen_sat

/-- what is known of a list of parts -/
structure TxOk (O T : List UInt8) (l : List Ent) (tx : List UInt8) : Prop where
  may : mayList l = true
  len : l.length ≤ 200
  rt : ∀ y ∈ join l, RtE O T y
  text : textE O T (join l) = tx
  tlen : tx.length ≤ 100000
theorem listP_tx {O T : List UInt8} (hO : O.length ≤ 3000) (hT : T.length ≤ 3000) (ps : List PartT) : TxOk O T (listP O T ps) (textE O T (listP O T ps)) := by
  obtain ⟨h1, h2⟩ := listP_ok hO hT ps
  obtain ⟨h3, h4⟩ := join_text (O := O) (T := T) (l := listP O T ps) fun y hy => (h1 y hy).1
  refine ⟨listP_may hO hT ps, h2, h3, h4, ?_⟩
  have h5 := text500 (O := O) (T := T) hO hT (ps.take 200)
  have h6 : (ps.take 200).length ≤ 200 := by rw [List.length_take]; omega
  show (textE O T ((ps.take 200).flatMap (entOf O T))).length ≤ 100000
  omega

set_option maxRecDepth 100000 in
set_option maxHeartbeats 12800000 in
theorem linesAsks_walk (O T : List UInt8) (aO aT : Option Addr) (nO cO nT cT : Nat) (vp : Value) (ps : List PartT) (az : Option Addr) (cz : Nat) (zs : List Int) (cap : Int) (B F : Assn) (w : World)
    (hBO : Reads B (.slice aO nO cO) O) (hBT : Reads B (.slice aT nT cT) T) (hP : ReadsP B vp ps) (hZ : ReadsR 1 B (.slice az zs.length cz) zs.length (zs.map (Value.int .i64))) (hz2 : ∀ z ∈ zs, z ≤ 9223372036854775807) (hs : Sat (B * F) w) :
    Calls Tryz.prog 4 #[.agg #[.slice aO nO cO, .slice aT nT cT], vp, .slice az zs.length cz, .int .i64 cap] w fun e w' => e = .returned (.bool true) ∧ Sat (B * F) w' := by
  obtain ⟨hnO, hnO1, hnO2⟩ := (hBO _ _ hs).n
  obtain ⟨hnT, hnT1, hnT2⟩ := (hBT _ _ hs).n
  obtain ⟨nz, hnz⟩ : ∃ nz, zs.length = nz := ⟨_, rfl⟩
  have HZ : Aside (ReadsR 1 B (.slice az zs.length cz) zs.length (zs.map (Value.int .i64)) ∧ zs.length = nz ∧ ∀ z ∈ zs, z ≤ 9223372036854775807) := ⟨hZ, hnz, hz2⟩
  have haw := fun F w q => awake15_any F w q
  have hlg := fun F w q => long_any aO aT nO cO nT cT F w q
  have hpk := fun w => pick_any cap 9 w (by omega) (by omega)
  have hc0 : 0 ≤ cap % 9 := Int.emod_nonneg _ (by omega)
  have hc1 : cap % 9 < 9 := Int.emod_lt_of_pos _ (by omega)
  obtain ⟨kc, hkc⟩ : ∃ kc, cap % 9 = kc := ⟨_, rfl⟩
  rw [hkc] at hpk hc0 hc1
  have hw1 : IntKind.i64.wrap (3 + kc) = 3 + kc := IntWalk.i64_in _ (by omega)
  rw [hnz]
  haveI := hs.i
  by_cases hlong : 3000 < nO ∨ 3000 < nT
  · have hd : decide (3000 < nO ∨ 3000 < nT) = true := decide_eq_true hlong
    rw [hd] at hlg
    clear hlong hd hBO hBT hP hZ hz2 hnO hnT hnO1 hnO2 hnT1 hnT2
    go_enter Tryz.func4, Tryz.ntmps4
    go_wp2_with fail
    refine (haw _ _ satI).mono ?_
    rintro e w1 ⟨rfl, q1⟩
    haveI := q1.i
    go_wp2_with fail
    refine (hlg _ _ satI).mono ?_
    rintro e w2 ⟨rfl, q2⟩
    haveI := q2.i
    go_wp2_with fail
    refine (haw _ _ satI).mono ?_
    rintro e w3 ⟨rfl, q3⟩
    haveI := q3.i
    go_wp2
    go_ret
    exact ⟨rfl, keep2 _ _⟩
  · have hd : decide (3000 < nO ∨ 3000 < nT) = false := decide_eq_false hlong
    rw [hd] at hlg
    have hO3 : O.length ≤ 3000 := by omega
    have hT3 : T.length ≤ 3000 := by omega
    have hset := fun F w q => set15_any O T _ _ (3 + kc) B F w hBO hBT q hO3 hT3 (by omega) (by omega)
    have hlist := fun F w q => list15_any O T aO aT nO cO nT cT vp ps B F w hBO hBT hP q hO3 hT3
    have htx := listP_tx hO3 hT3 ps
    obtain ⟨L, hL⟩ : ∃ L, listP O T ps = L := ⟨_, rfl⟩
    rw [hL] at hlist htx
    obtain ⟨tx, htxE⟩ : ∃ tx, textE O T L = tx := ⟨_, rfl⟩
    rw [htxE] at hlist htx
    have HTX : Aside (TxOk O T L tx) := htx
    have hI0 := lnI0 O T (3 + kc) hO3 hT3 (by omega) (by omega)
    have hr0 := tsL_room O T (3 + kc)
    have hf0 : 60000000 ≤ leftOps (tsL O T (3 + kc)) := by
      show 60000000 ≤ (opsMax - 0) / 2
      unfold opsMax
      decide
    obtain ⟨s0, hs0⟩ : ∃ s0, tsL O T (3 + kc) = s0 := ⟨_, rfl⟩
    rw [hs0] at hset hI0 hr0 hf0
    have H0 : Aside (LnI O T s0 ix0 ∧ roomOf s0.sp = 64999 ∧ 60000000 ≤ leftOps s0) := ⟨hI0, hr0, hf0⟩
    have htl := htx.tlen
    obtain ⟨nt, hnt⟩ : ∃ nt, tx.length = nt := ⟨_, rfl⟩
    obtain ⟨nl, hnl⟩ : ∃ nl, L.length = nl := ⟨_, rfl⟩
    have HN : Aside (tx.length = nt ∧ L.length = nl) := ⟨hnt, hnl⟩
    rw [hnt] at htl
    rw [hnt, hnl] at hlist
    clear hlong hd hBO hBT hP hZ hz2 hnO hnT hnO1 hnO2 hnT1 hnT2 hI0 hr0 hf0 hs0 htx hL htxE hO3 hT3 hkc hnz hnt hnl
    go_enter Tryz.func4, Tryz.ntmps4
    go_wp2_with fail
    refine (haw _ _ satI).mono ?_
    rintro e w1 ⟨rfl, q1⟩
    haveI := q1.i
    go_wp2_with fail
    refine (hlg _ _ satI).mono ?_
    rintro e w2 ⟨rfl, q2⟩
    have q3 : Sat (B * (Sl.block w.heap.size TFi [.slice aO nO cO, .slice aT nT cT] * F)) w2 := q2.eq (by ac_rfl)
    obtain ⟨N, hN⟩ : ∃ N, w.heap.size = N := ⟨_, rfl⟩
    rw [hN] at q3 ⊢
    haveI := q3.i
    clear q1 q2 hN haw hlg
    go_wp2_with fail
    go_region_held3 (fun w' => w'.cell? ⟨N, 0, none⟩ = some (.slice aO nO cO) ∧ w'.cell? ⟨N, 1, none⟩ = some (.slice aT nT cT)) (first | exact ⟨cell_sat _ _ _, cell_sat _ _ _⟩) (first
      | (go_at_call 21; refine (hpk _).mono ?_; rintro e w9 ⟨rfl, rfl⟩)
      | (go_at_call 20; refine (hset _ _ (takeI B)).mono ?_; rintro e w4 ⟨b, H, rfl, q4⟩; haveI := q4.i))
    all_goals
      unfold benchA at q4
      haveI := q4.i
      clear hset hpk
      go_wp2_with fail
      refine (hlist _ _ (takeI B)).mono ?_
      rintro e w5 ⟨al, cl, at_, ct, rfl, q5⟩
      haveI := q5.i
      clear q3 q4 hlist
      obtain ⟨BN, hBN⟩ : ∃ BN, Sl.block b TB15 [.pointer (some ⟨H.h.D, 0, none⟩), .pointer (some ⟨H.h.C, 0, none⟩), .pointer (some ⟨H.h.t, 0, none⟩), .pointer (some ⟨H.X, 0, none⟩), .pointer (some ⟨H.L, 0, none⟩)] = BN := ⟨_, rfl⟩
      have q6 : Sat (linesP H O T s0 ix0 * (rw TEn 4 (.slice al nl cl) (ecs L) * (rw TB 1 (.slice at_ nt ct) (bys tx) * (B * (Sl.block b TB15 [.pointer (some ⟨H.h.D, 0, none⟩), .pointer (some ⟨H.h.C, 0, none⟩), .pointer (some ⟨H.h.t, 0, none⟩), .pointer (some ⟨H.X, 0, none⟩), .pointer (some ⟨H.L, 0, none⟩)] * F))))) w5 := keep6 _ _ _ _ _ _
      haveI := q6.i
      clear q5
      have hbd := fun F w q => build15 H O T s0 ix0 L (.slice al nl cl) (rw TEn 4 (.slice al nl cl) (ecs L)) F w (readsE_rw (q6.take (rw TEn 4 (.slice al nl cl) (ecs L))) HN.out.2.symm) q H0.out.1 HTX.out.may (by have := HTX.out.len; omega) (by have := H0.out; omega) (by have := H0.out; omega)
      go_wp2_with fail
      refine (hbd _ _ (takeI2 (linesP H O T s0 ix0) (rw TEn 4 (.slice al nl cl) (ecs L)))).mono ?_
      rintro e w6 ⟨r, s1, rfl, q7, i1, n1, rt1⟩
      have H1 : Aside (LnI O T s1 ix0 ∧ Rt (nodeAt s1) r (join L) ∧ 50000000 ≤ leftOps s1) := ⟨i1, rt1, by have := H0.out; have := n1.left; omega⟩
      have q8 : Sat (linesP H O T s1 ix0 * (rw TB 1 (.slice at_ nt ct) (bys tx) * (B * (Sl.block b TB15 [.pointer (some ⟨H.h.D, 0, none⟩), .pointer (some ⟨H.h.C, 0, none⟩), .pointer (some ⟨H.h.t, 0, none⟩), .pointer (some ⟨H.X, 0, none⟩), .pointer (some ⟨H.L, 0, none⟩)] * F)))) w6 := by
        haveI := q7.i
        exact keep5 _ _ _ _ _
      haveI := q8.i
      clear q6 q7 i1 n1 rt1 hbd hBN
      unfold vi2
      have hc := fun F w q => lcount_any H O T s1 ix0 r (join L) F w q H1.out.1 H1.out.2.1 HTX.out.rt (by have := H1.out; omega)
      rw [HTX.out.text] at hc
      have hen := fun F w q => ends_any (.slice at_ nt ct) tx (rw TB 1 (.slice at_ nt ct) (bys tx)) F w Reads.rw q (by have := HN.out; omega)
      have hrl := fun p F w q => rline_any (.slice at_ nt ct) tx p (rw TB 1 (.slice at_ nt ct) (bys tx)) F w Reads.rw q (by have := HN.out; omega)
      have hrs := fun p F w q => rstart_any (.slice at_ nt ct) tx p (rw TB 1 (.slice at_ nt ct) (bys tx)) F w Reads.rw q (by have := HN.out; omega)
      obtain ⟨ne, hne⟩ : ∃ ne, endsC tx = ne := ⟨_, rfl⟩
      rw [hne] at hc hen
      clear hne
      go_wp2_with fail
      refine (hc _ _ (takeI (linesP H O T s1 ix0))).mono ?_
      rintro e w7 ⟨s2, rfl, q9, n2⟩
      obtain ⟨x2, hx2⟩ : ∃ x2, ixList O ix0 (join L) = x2 := ⟨_, rfl⟩
      rw [hx2] at q9
      have H2 : Aside (LnI O T s2 x2 ∧ Rt (nodeAt s2) r (join L) ∧ 40000000 ≤ leftOps s2) := ⟨(H1.out.1.nxt n2).at (by rw [← hx2]; exact ixList_ok H1.out.1.ix HTX.out.rt), H1.out.2.1.le n2.le, by have := H1.out; have := n2.left; omega⟩
      haveI := q9.i
      clear q8 hc n2 hx2
      go_wp2_with fail
      refine (hen _ _ (takeI (rw TB 1 (.slice at_ nt ct) (bys tx)))).mono ?_
      rintro e w8 ⟨ae, ce, rfl, q10⟩
      have q11 : Sat (linesP H O T s2 x2 * (rw TB 1 (.slice at_ nt ct) (bys tx) * (B * (Sl.block b TB15 [.pointer (some ⟨H.h.D, 0, none⟩), .pointer (some ⟨H.h.C, 0, none⟩), .pointer (some ⟨H.h.t, 0, none⟩), .pointer (some ⟨H.X, 0, none⟩), .pointer (some ⟨H.L, 0, none⟩)] * F)))) w8 := by
        haveI := q10.i
        exact keep5 _ _ _ _ _
      haveI := q11.i
      clear q9 q10 hen
      go_wp2
      go_loopg [16] 30 (fun g t16 wr => ∃ (i : Nat) (s3 : TS) (x3 : Ix), t16 = .int .i64 i ∧ i ≤ 30 ∧ i ≤ nz ∧ Aside (g = 30 - i ∧ LnI O T s3 x3 ∧ Rt (nodeAt s3) r (join L) ∧ 1000000 * (31 - i) ≤ leftOps s3) ∧
        Sat (linesP H O T s3 x3 * (rw TB 1 (.slice at_ nt ct) (bys tx) * (B * (Sl.block b TB15 [.pointer (some ⟨H.h.D, 0, none⟩), .pointer (some ⟨H.h.C, 0, none⟩), .pointer (some ⟨H.h.t, 0, none⟩), .pointer (some ⟨H.X, 0, none⟩), .pointer (some ⟨H.L, 0, none⟩)] * F)))) wr)
      case atStart => exact ⟨0, s2, x2, rfl, by omega, by omega, ⟨rfl, H2.out.1, H2.out.2.1, by have := H2.out; omega⟩, q11⟩
      case round =>
        obtain ⟨i, s3, x3, rfl, hi, hiz, J, hsr⟩ := hrel
        clear q11 this
        haveI := hsr.i
        by_cases hlt : i < nz ∧ i < 30
        · have hlt1 : (i : Int) < nz := by omega
          have hlt2 : (i : Int) < 30 := by omega
          obtain ⟨z, hz⟩ : ∃ z, zs[i]? = some z := ⟨_, List.getElem?_eq_getElem (by have := HZ.out.2.1; omega)⟩
          have hzr := HZ.out.1
          obtain ⟨g1, az', cz', hsl, _, _, hrd⟩ := hzr
          cases hsl
          obtain ⟨bz, oz, rfl, hzc⟩ := hrd i (.int .i64 z) (by rw [List.getElem?_map, hz]; rfl)
          have hzb := HZ.out.2.2 z (List.mem_of_getElem? hz)
          have hln := line_any H O T s3 x3 r z (join L)
          have hst := fun s4 x4 => start_any H O T s4 x4 r z (join L)
          have hlf : 1000000 ≤ leftOps s3 := by have := J.out; omega
          clear hz hrd g1
          go_wp2_with fail
          refine (hln _ _ (takeI (linesP H O T s3 x3)) J.out.2.1 J.out.2.2.1 HTX.out.rt (by omega)).mono ?_
          rintro e w10 ⟨n4, er4, s4, x4, rfl, q12, i4, nx4, ok4⟩
          rw [HTX.out.text] at ok4
          have H4 : Aside (LnI O T s4 x4 ∧ Rt (nodeAt s4) r (join L) ∧ 1000000 * (31 - i) ≤ leftOps s4 + 30000) := ⟨i4, J.out.2.2.1.le nx4.le, by have := J.out; have := nx4.left; omega⟩
          haveI := q12.i
          clear hsr hln i4 nx4
          unfold lineV
          unfold LineOk at ok4
          rw [HN.out.1] at ok4
          by_cases hzn : z < 0
          · rw [if_pos (.inl hzn)] at ok4
            obtain ⟨rfl, rfl⟩ := ok4
            have d0 : decide (z < 0) = true := decide_eq_true hzn
            go_wp2_with fail
            refine (hst s4 x4 _ _ (takeI (linesP H O T s4 x4)) H4.out.1 H4.out.2.1 HTX.out.rt (by have := H4.out; omega) hzb).mono ?_
            rintro e w11 ⟨n5, er5, s5, x5, rfl, q13, i5, nx5, ok5⟩
            rw [HTX.out.text] at ok5
            haveI := q13.i
            have H5 : Aside (LnI O T s5 x5 ∧ Rt (nodeAt s5) r (join L) ∧ 1000000 * (31 - (i + 1)) ≤ leftOps s5) := ⟨i5, H4.out.2.1.le nx5.le, by have := H4.out; have := nx5.left; omega⟩
            clear hst nx5 i5
            unfold lineV
            go_wp2_with fail
            refine (hrs z _ _ (takeI (rw TB 1 (.slice at_ nt ct) (bys tx)))).mono ?_
            rintro e w12 ⟨rfl, q14⟩
            have q15 : Sat (linesP H O T s5 x5 * (rw TB 1 (.slice at_ nt ct) (bys tx) * (B * (Sl.block b TB15 [.pointer (some ⟨H.h.D, 0, none⟩), .pointer (some ⟨H.h.C, 0, none⟩), .pointer (some ⟨H.h.t, 0, none⟩), .pointer (some ⟨H.X, 0, none⟩), .pointer (some ⟨H.L, 0, none⟩)] * F)))) w12 := by
              haveI := q14.i
              exact keep5 _ _ _ _ _
            haveI := q15.i
            clear q13 q14
            obtain ⟨qv, hqv⟩ : ∃ qv, startI tx z = qv := ⟨_, rfl⟩
            unfold StartOk at ok5
            rw [hqv] at ok5 ⊢
            clear hqv
            by_cases hq : qv < 0
            · rw [if_pos hq] at ok5
              obtain ⟨rfl, rfl⟩ := ok5
              have m1 : max qv 0 = 0 := by omega
              have d1 : decide (0 ≤ qv) = false := decide_eq_false (by omega)
              have d2 : decide (qv < 0) = true := decide_eq_true hq
              go_wp2
              go_roundg (30 - (i + 1))
              case measure => have := J.out.1; omega
              case rel => exact ⟨i + 1, s5, x5, by go_num, by omega, by omega, ⟨rfl, H5.out⟩, keep5 _ _ _ _ _⟩
            · rw [if_neg hq] at ok5
              obtain ⟨rfl, rfl⟩ := ok5
              have m1 : max n5 0 = n5 := by omega
              have d1 : decide (0 ≤ n5) = true := decide_eq_true (by omega)
              have d2 : decide (n5 < 0) = false := decide_eq_false hq
              go_wp2
              go_roundg (30 - (i + 1))
              case measure => have := J.out.1; omega
              case rel => exact ⟨i + 1, s5, x5, by go_num, by omega, by omega, ⟨rfl, H5.out⟩, keep5 _ _ _ _ _⟩
          · have d0 : decide (z < 0) = false := decide_eq_false hzn
            by_cases hzt : (nt : Int) < z
            · rw [if_pos (.inr hzt)] at ok4
              obtain ⟨rfl, rfl⟩ := ok4
              go_wp2_with fail
              refine (hst s4 x4 _ _ (takeI (linesP H O T s4 x4)) H4.out.1 H4.out.2.1 HTX.out.rt (by have := H4.out; omega) hzb).mono ?_
              rintro e w11 ⟨n5, er5, s5, x5, rfl, q13, i5, nx5, ok5⟩
              rw [HTX.out.text] at ok5
              haveI := q13.i
              have H5 : Aside (LnI O T s5 x5 ∧ Rt (nodeAt s5) r (join L) ∧ 1000000 * (31 - (i + 1)) ≤ leftOps s5) := ⟨i5, H4.out.2.1.le nx5.le, by have := H4.out; have := nx5.left; omega⟩
              clear hst nx5 i5
              unfold lineV
              go_wp2_with fail
              refine (hrs z _ _ (takeI (rw TB 1 (.slice at_ nt ct) (bys tx)))).mono ?_
              rintro e w12 ⟨rfl, q14⟩
              have q15 : Sat (linesP H O T s5 x5 * (rw TB 1 (.slice at_ nt ct) (bys tx) * (B * (Sl.block b TB15 [.pointer (some ⟨H.h.D, 0, none⟩), .pointer (some ⟨H.h.C, 0, none⟩), .pointer (some ⟨H.h.t, 0, none⟩), .pointer (some ⟨H.X, 0, none⟩), .pointer (some ⟨H.L, 0, none⟩)] * F)))) w12 := by
                haveI := q14.i
                exact keep5 _ _ _ _ _
              haveI := q15.i
              clear q13 q14
              obtain ⟨qv, hqv⟩ : ∃ qv, startI tx z = qv := ⟨_, rfl⟩
              unfold StartOk at ok5
              rw [hqv] at ok5 ⊢
              clear hqv
              by_cases hq : qv < 0
              · rw [if_pos hq] at ok5
                obtain ⟨rfl, rfl⟩ := ok5
                have m1 : max qv 0 = 0 := by omega
                have d1 : decide (0 ≤ qv) = false := decide_eq_false (by omega)
                have d2 : decide (qv < 0) = true := decide_eq_true hq
                go_wp2
                go_roundg (30 - (i + 1))
                case measure => have := J.out.1; omega
                case rel => exact ⟨i + 1, s5, x5, by go_num, by omega, by omega, ⟨rfl, H5.out⟩, keep5 _ _ _ _ _⟩
              · rw [if_neg hq] at ok5
                obtain ⟨rfl, rfl⟩ := ok5
                have m1 : max n5 0 = n5 := by omega
                have d1 : decide (0 ≤ n5) = true := decide_eq_true (by omega)
                have d2 : decide (n5 < 0) = false := decide_eq_false hq
                go_wp2
                go_roundg (30 - (i + 1))
                case measure => have := J.out.1; omega
                case rel => exact ⟨i + 1, s5, x5, by go_num, by omega, by omega, ⟨rfl, H5.out⟩, keep5 _ _ _ _ _⟩
            · rw [if_neg (by omega)] at ok4
              obtain ⟨rfl, rfl⟩ := ok4
              obtain ⟨zp, rfl⟩ := Int.eq_ofNat_of_zero_le (show 0 ≤ z by omega)
              rw [Int.toNat_natCast]
              have hrl2 := fun F w q => hrl zp F w q (by have := HN.out; omega)
              have d1 : decide ((nt : Int) < (zp : Int)) = false := decide_eq_false hzt
              obtain ⟨ln, hln9⟩ : ∃ ln, lnTo tx zp = ln := ⟨_, rfl⟩
              have hln8 : endsC (tx.take zp) = ln := hln9
              rw [hln8] at hrl2
              rw [hln9]
              clear hln9 hln8 hrl
              go_wp2_with fail
              refine (hrl2 _ _ (takeI (rw TB 1 (.slice at_ nt ct) (bys tx)))).mono ?_
              rintro e w13 ⟨rfl, q16⟩
              have q17 : Sat (linesP H O T s4 x4 * (rw TB 1 (.slice at_ nt ct) (bys tx) * (B * (Sl.block b TB15 [.pointer (some ⟨H.h.D, 0, none⟩), .pointer (some ⟨H.h.C, 0, none⟩), .pointer (some ⟨H.h.t, 0, none⟩), .pointer (some ⟨H.X, 0, none⟩), .pointer (some ⟨H.L, 0, none⟩)] * F)))) w13 := by
                haveI := q16.i
                exact keep5 _ _ _ _ _
              haveI := q17.i
              clear hrl2 q12 q16
              go_wp2_with fail
              refine (hst s4 x4 _ _ (takeI (linesP H O T s4 x4)) H4.out.1 H4.out.2.1 HTX.out.rt (by have := H4.out; omega) hzb).mono ?_
              rintro e w11 ⟨n5, er5, s5, x5, rfl, q13, i5, nx5, ok5⟩
              rw [HTX.out.text] at ok5
              haveI := q13.i
              have H5 : Aside (LnI O T s5 x5 ∧ Rt (nodeAt s5) r (join L) ∧ 1000000 * (31 - (i + 1)) ≤ leftOps s5) := ⟨i5, H4.out.2.1.le nx5.le, by have := H4.out; have := nx5.left; omega⟩
              clear hst nx5 i5
              unfold lineV
              go_wp2_with fail
              refine (hrs (zp : Int) _ _ (takeI (rw TB 1 (.slice at_ nt ct) (bys tx)))).mono ?_
              rintro e w12 ⟨rfl, q14⟩
              have q15 : Sat (linesP H O T s5 x5 * (rw TB 1 (.slice at_ nt ct) (bys tx) * (B * (Sl.block b TB15 [.pointer (some ⟨H.h.D, 0, none⟩), .pointer (some ⟨H.h.C, 0, none⟩), .pointer (some ⟨H.h.t, 0, none⟩), .pointer (some ⟨H.X, 0, none⟩), .pointer (some ⟨H.L, 0, none⟩)] * F)))) w12 := by
                haveI := q14.i
                exact keep5 _ _ _ _ _
              haveI := q15.i
              clear q13 q14
              obtain ⟨qv, hqv⟩ : ∃ qv, startI tx (zp : Int) = qv := ⟨_, rfl⟩
              unfold StartOk at ok5
              rw [hqv] at ok5 ⊢
              clear hqv
              by_cases hq : qv < 0
              · rw [if_pos hq] at ok5
                obtain ⟨rfl, rfl⟩ := ok5
                have m1 : max qv 0 = 0 := by omega
                have d1 : decide (0 ≤ qv) = false := decide_eq_false (by omega)
                have d2 : decide (qv < 0) = true := decide_eq_true hq
                go_wp2
                go_roundg (30 - (i + 1))
                case measure => have := J.out.1; omega
                case rel => exact ⟨i + 1, s5, x5, by go_num, by omega, by omega, ⟨rfl, H5.out⟩, keep5 _ _ _ _ _⟩
              · rw [if_neg hq] at ok5
                obtain ⟨rfl, rfl⟩ := ok5
                have m1 : max n5 0 = n5 := by omega
                have d1 : decide (0 ≤ n5) = true := decide_eq_true (by omega)
                have d2 : decide (n5 < 0) = false := decide_eq_false hq
                go_wp2
                go_roundg (30 - (i + 1))
                case measure => have := J.out.1; omega
                case rel => exact ⟨i + 1, s5, x5, by go_num, by omega, by omega, ⟨rfl, H5.out⟩, keep5 _ _ _ _ _⟩
        · have hno : ¬ ((i : Int) < nz ∧ (i : Int) < 30) := by omega
          clear J
          by_cases h4 : (i : Int) < nz
          · have h5 : ¬ (i : Int) < 30 := by omega
            go_wp2
            go_ret
            exact ⟨rfl, keep2 _ _⟩
          · go_wp2
            go_ret
            exact ⟨rfl, keep2 _ _⟩
end Go.Proofs.YtfhbmblbidcmmaaGreat
