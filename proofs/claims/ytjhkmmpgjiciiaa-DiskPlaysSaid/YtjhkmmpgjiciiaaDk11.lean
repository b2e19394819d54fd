/-
  Crash: the walk.
-/
import Derived.Test.YtjhkmmpgjiciiaaDk10
import Derived.Deep.DeepCutAuto
import Derived.Deep.RegionLaw
import Derived.WalkSpells
namespace Go.Proofs.Ytjhkmmpgjiciiaa
set_option linter.unusedSimpArgs false
set_option linter.unusedVariables false
open Go.RowKit Go.Sl Go.Dk
attribute [local go_sem ↓] Go.wp_at_zero Go.wp_at_succ

/-- what lets one read integers -/
def ReadsZ (B : Assn) (v : Value) (zs : List Int) : Prop := ∀ (F : Assn) (w : World), Sat (B * F) w → Ints w v zs

abbrev TKM : TypeId := 127
theorem zeroKB (w : World) : (zeroValue 4).run Try.prog w = .ok (.bool false) w := by kernel_rfl

set_option maxRecDepth 100000 in
set_option maxHeartbeats 4000000 in
theorem crash_go (D M : Nat) (ns : List Nf) (pv : Value) (ps : List Np) (d : Dk) (m : Nat) (picks : List Int) (v : Value) (B F : Assn) (w : World) (hP : ReadsZ B v picks) (hs : Sat (diskA D M ns pv ps d * (B * F)) w) (hf : fents ns = d.files) (hp : pents ps = d.pend)
    (hlp : picks.length ≤ 9223372036854775807) (ok : Ok m d) (hm' : m ≤ 1099511627776) :
    Calls Try.prog 34 #[.pointer (some ⟨D, 0, none⟩), v] w fun e w' => ∃ ψ φ, e = .returned (.tuple #[]) ∧
      Sat (diskA D M ((ns.map (st2 (keep picks 0 (pents ps)) ψ)).filterMap (st3 (keep picks 0 (pents ps)) [] φ)) (.slice none 0 0) [] { d with down := false, armed := false } * (B * F)) w' := by
  obtain ⟨i0, E⟩ := elemB
  have hmm := @run_makeMap Try.prog
  have heq := fun (w : World) (a : Option Addr) (n c : Nat) => Lib.run_eql_slice_nil (P := Try.prog) w 45 TB a n c 0 0 Try.underlying45
  obtain ⟨xa, xc, rfl⟩ := (hP _ _ (hs.take B)).len
  have hnd : (ns.map (·.nm)).Nodup := by have := ok.nd; rw [← hf] at this; simpa [fents, Function.comp_def] using this
  have hsz : ∀ n ∈ ns, n.f.now.length ≤ 1099511627776 ∧ n.f.safe.length ≤ 1099511627776 := fun n hn => ok.sz (n.nm, n.f) (by rw [← hf]; exact List.mem_map.2 ⟨n, hn, rfl⟩)
  have hpl : ps.length ≤ 1099511627776 := by have := ok.pend; rw [← hp] at this; simp [pents] at this; omega
  have HOK : Aside (Ok m d ∧ fents ns = d.files ∧ pents ps = d.pend) := ⟨ok, hf, hp⟩
  have HND : Aside ((ns.map (·.nm)).Nodup ∧ (∀ n ∈ ns, n.f.now.length ≤ 1099511627776 ∧ n.f.safe.length ≤ 1099511627776)) := ⟨hnd, hsz⟩
  clear ok hf hp hnd hsz
  have a1 := hs.alloc_raw (.map #[] 0)
  have a2 : Sat (mp skey w.heap.size [] * (diskA D M ns pv ps d * (B * F))) (w.alloc (.map #[] 0)) := Sat.mp_shut ⟨#[], 0, rfl, rfl, by simp, by simp⟩ a1
  have hs0 : Sat (coreD D M pv d * (mp skey M (ns.map kvF) * (filesA ns * (pendA pv ps * (mp skey w.heap.size [] * (B * F)))))) (w.alloc (.map #[] 0)) := a2.eq (by unfold diskA; ac_rfl)
  have c5 : w.cell? ⟨D, 5, none⟩ = some (.map (some M)) := by unfold diskA coreD at hs; exact hs.c D 5
  have hD : D < w.heap.size := World.block_lt_of_cell? _ _ c5
  obtain ⟨K, HK⟩ : ∃ K, Aside (w.heap.size = K) := ⟨_, rfl⟩
  obtain ⟨o, ho, hs1⟩ := (hs0.take (mp skey M (ns.map kvF))).mp_open
  obtain ⟨oi, hI, hrange⟩ := run_range_mp (P := Try.prog) Try.underlying113 hs1.obj ho
  have hs2 := hs1.alloc_raw oi
  have e0 : (w.alloc (.map #[] 0)).heap.size = w.heap.size + 1 := by simp
  rw [e0] at hs2 hrange
  have HO : Aside (MapIs skey o (ns.map kvF)) := ho
  obtain ⟨G, HG⟩ : ∃ G, Aside (coreD D M pv d * (pendA pv ps * (mp skey w.heap.size [] * (B * F))) = G) := ⟨_, rfl⟩
  have hs3 : Sat (raw M o * (raw (w.heap.size + 1) oi * (filesA ns * G))) ((w.alloc (.map #[] 0)).alloc oi) := hs2.eq (by rw [← HG.out]; ac_rfl)
  clear a1 a2 hs0 hs1 hs2 e0 ho hs
  go_enter Try.func34, Try.ntmps34
  go_wp2_with fail
  go_loopg [6] ns.length (fun k t wr => ∃ (φ : ByteArray → Value) (oi' : Obj) (rem : List (ByteArray × Value)) (ns1 : List Nf), Aside (k = rem.length ∧ Iter skey M o oi' (ns.map kvF) rem ∧ rem.Perm (ns1.map kvF) ∧ (∀ n ∈ ns1, n ∈ ns) ∧ (rem.map (·.1)).Nodup) ∧
    Sat (raw M o * (raw (w.heap.size + 1) oi' * (filesA (ns.map (st1 (rem.map (·.1)) φ)) * G))) wr)
  case atStart =>
    refine ⟨fun _ => undef, oi, ns.map kvF, ns, ⟨by simp, hI, .refl _, fun _ h => h, by rw [kvF_keys]; exact HND.out.1⟩, ?_⟩
    rw [kvF_keys, st1_all]
    exact hs3
  case round =>
    obtain ⟨φ, oi', rem, ns1, A, hsr⟩ := hrel
    obtain ⟨hgk, hI', hpm, hsub, hrn⟩ := A.out
    clear hI hs3 hrange c5
    rcases run_next_sl (P := Try.prog) hsr hI' with ⟨hrem, hnext⟩ | ⟨i, k, vv, oi2, w2, hi, hnext, hI2, hs4, hentry⟩
    · subst hrem
      have HI : Aside (Iter skey M o oi' (ns.map kvF) []) := hI'
      have hsz1 := HOK.out
      have hs4 := Sat.mp_shut HI.out.mapIs hsr
      obtain ⟨pa, pn, pc, hpv, hpl2⟩ : ∃ a n c, pv = .slice a n c ∧ (prows ps).length = n * 3 ∧ n ≤ c ∧ c ≤ 9223372036854775807 := rw_v (F := mp skey M (ns.map kvF) * (raw (w.heap.size + 1) oi' * (filesA (ns.map (st1 [] φ)) * (coreD D M pv d * (piecesA ps * (mp skey w.heap.size [] * (B * F))))))) (hs4.eq (by rw [← HG.out]; unfold pendA; simp only [List.map_nil]; ac_rfl))
      obtain ⟨hpl3, hpl4, hpl5⟩ := hpl2
      rw [prows_len] at hpl3
      obtain rfl : ps.length = pn := by omega
      subst hpv
      have hs5 : Sat (coreD D M (.slice pa ps.length pc) d * (mp skey M (ns.map kvF) * (filesA (ns.map (st2 [] φ)) * (rw TP 3 (.slice pa ps.length pc) (prows ps) * (piecesA ps * (mp skey w.heap.size [] * (B * F))))))) wr := by
        refine Sat.weak (B := raw (w.heap.size + 1) oi') (hs4.eq ?_)
        rw [← HG.out, ← st12]
        unfold pendA
        simp only [List.map_nil]
        ac_rfl
      have c6 : wr.cell? ⟨D, 6, none⟩ = some (.slice pa ps.length pc) := by unfold coreD at hs5; exact hs5.c D 6
      clear HG hs4 hsr hI' A hgk hpm hsub hrn hpl3 hsz1 HO
      go_wp2_with fail
      go_loopg [38] ps.length (fun g t wq => ∃ (j : Nat) (ψ : ByteArray → Value) (kl : List (ByteArray × Value)), t = .int .i64 j ∧ j ≤ ps.length ∧ Aside (g = ps.length - j ∧ KeptIs (keep picks 0 (pents (ps.take j))) kl) ∧
        Sat (coreD D M (.slice pa ps.length pc) d * (mp skey M (ns.map kvF) * (filesA (ns.map (st2 (keep picks 0 (pents (ps.take j))) ψ)) * (rw TP 3 (.slice pa ps.length pc) (prows ps) * (piecesA ps * (mp skey w.heap.size kl * (B * F))))))) wq)
      case atStart => exact ⟨0, φ, [], rfl, by omega, ⟨rfl, fun s => rfl⟩, by simpa [pents, keep] using hs5⟩
      case round =>
        obtain ⟨j, ψ, kl, rfl, hj, A2, hsr2⟩ := hrel
        clear hs5 c6
        by_cases hjl : j < ps.length
        · have hjl' : (j : Int) < ps.length := by omega
          obtain ⟨x, hx⟩ : ∃ x, ps[j]? = some x := ⟨ps[j], by simp [hjl]⟩
          obtain ⟨p0, p1, p2⟩ := prows_at hx
          obtain ⟨g, rfl, q0, _⟩ := (hsr2.take (rw TP 3 (.slice pa ps.length pc) (prows ps))).rw_get p0
          obtain ⟨_, e1, q1, _⟩ := (hsr2.take (rw TP 3 (.slice (some ⟨g, 0, none⟩) ps.length pc) (prows ps))).rw_get p1
          cases e1
          obtain ⟨_, e2, q2, _⟩ := (hsr2.take (rw TP 3 (.slice (some ⟨g, 0, none⟩) ps.length pc) (prows ps))).rw_get p2
          cases e2
          obtain ⟨Rp, hRp⟩ := pieces_in (List.mem_of_getElem? hx)
          obtain ⟨ya, yn, yc, hxv⟩ := piece_v (F := Rp * (coreD D M (.slice (some ⟨g, 0, none⟩) ps.length pc) d * (mp skey M (ns.map kvF) * (filesA (ns.map (st2 (keep picks 0 (pents (ps.take j))) ψ)) * (rw TP 3 (.slice (some ⟨g, 0, none⟩) ps.length pc) (prows ps) * (mp skey w.heap.size kl * (B * F))))))) (hsr2.eq (by rw [hRp]; ac_rfl))
          rw [hxv] at q2
          have hs6 := hsr2.alloc #[.string x.p.nm, .int .i64 x.p.pos, .slice ya yn yc] TP
          simp only [block, Sl.cells, sep_one, List.length_cons, List.length_nil, Nat.zero_add, Nat.reduceAdd] at hs6
          have HX : Aside (ps[j]? = some x ∧ piecesA ps = pieceA x * Rp ∧ x.v = .slice ya yn yc) := ⟨hx, hRp, hxv⟩
          have hkeep : keep picks 0 (pents (ps.take (j + 1))) = keep picks 0 (pents (ps.take j)) ++ if picked picks j then [x.p] else [] := by
            have e3 : pents (ps.take (j + 1)) = pents (ps.take j) ++ [x.p] := by rw [take_snoc' hx]; simp [pents]
            rw [e3, keep_snoc]
            have e4 : (pents (ps.take j)).length = j := by simp [pents]; omega
            rw [e4, Nat.zero_add]
          clear hx p0 p1 p2 hRp hxv
          have hI4 := hP _ _ (hs6.take B)
          by_cases hpk : picked picks j = true
          · have HKP : Aside (keep picks 0 (pents (ps.take (j + 1))) = keep picks 0 (pents (ps.take j)) ++ [x.p]) := (by rw [hkeep, hpk]; simp : _ = _)
            obtain ⟨z, hz, hz1⟩ : ∃ z, picks[j % picks.length]? = some z ∧ z % 2 = 1 := by
              unfold picked at hpk
              cases hzz : picks[j % picks.length]? with
              | none => rw [hzz] at hpk; cases hpk
              | some z => rw [hzz] at hpk; exact ⟨z, rfl, by simpa using hpk⟩
            have hp0 : picks.length ≠ 0 := by
              intro e0
              have : picks = [] := List.length_eq_zero_iff.1 e0
              subst this
              simp at hz
            have hp0' : ((picks.length : Int) == 0) = false := by rw [beq_eq_false_iff_ne]; omega
            obtain ⟨zb, zo, e5, hzc⟩ := hI4.at hz
            cases e5
            obtain ⟨q, hq⟩ : ∃ q : Nat, j % picks.length = q := ⟨_, rfl⟩
            rw [hq] at hzc hz
            have hqm : (j : Int) % (picks.length : Int) = (q : Nat) := by omega
            have hqt : (j : Int).tmod (picks.length : Int) = (q : Nat) := by rw [Int.tmod_eq_emod_of_nonneg (by omega)]; exact hqm
            have hql : q < picks.length := by rw [← hq]; exact Nat.mod_lt _ (by omega)
            have hql' : (q : Int) < (picks.length : Int) := by omega
            have hbit : bits .and .i64 z 1 = 1 := by rw [bits_and_one]; exact hz1
            obtain ⟨okd, hff, hpp⟩ := HOK.out
            have hxin : x.p ∈ d.pend := by rw [← hpp]; exact List.mem_map.2 ⟨x, List.mem_of_getElem? HX.out.1, rfl⟩
            have hxb : x.p.pos + (x.p.b.getD []).length ≤ 1099511627776 := okd.pc x.p hxin
            have hget := okd.pn x.p hxin
            obtain ⟨l1, n, l2, hns, hnn, hl1⟩ : ∃ l1 n l2, ns = l1 ++ n :: l2 ∧ n.nm = x.p.nm ∧ ∀ m ∈ l1, m.nm ≠ x.p.nm := by
              rcases nf_cases ns x.p.nm with h | h
              · exact h
              · unfold Dk.get at hget
                rw [← hff, fget_none h] at hget
                cases hget
            have hsp := nodup_split (by rw [← hns]; exact HND.out.1)
            obtain ⟨L, HLd⟩ : ∃ L, Aside (keep picks 0 (pents (ps.take j)) = L) := ⟨_, rfl⟩
            obtain ⟨T, hT⟩ : ∃ T, (ofName n.nm L).foldl lain n.f.safe = T := ⟨_, rfl⟩
            have hTl : T.length ≤ 1099511627776 := by
              rw [← hT]
              refine lains_len _ _ _ (HND.out.2 n (by rw [hns]; simp)).2 ?_
              intro p hpm
              refine okd.pc p ?_
              rw [← hpp]
              have h9 := keep_sub picks _ 0 p (by rw [HLd.out]; exact (List.mem_filter.1 hpm).1)
              obtain ⟨y, hy, rfl⟩ := List.mem_map.1 h9
              exact List.mem_map.2 ⟨y, List.mem_of_mem_take hy, rfl⟩
            rw [HLd.out] at hs6
            obtain ⟨R, HR⟩ : ∃ R, Aside (filesA (l1.map (st2 L ψ)) * filesA (l2.map (st2 L ψ)) = R) := ⟨_, rfl⟩
            have hfa : filesA (ns.map (st2 L ψ)) = fileA { n with f := ⟨T, n.f.safe, n.f.sure⟩, nv := ψ n.nm } * R := by
              rw [← HR.out, hns, List.map_append, List.map_cons, filesA_append, filesA]
              have : st2 L ψ n = { n with f := ⟨T, n.f.safe, n.f.sure⟩, nv := ψ n.nm } := by unfold st2; rw [hT]
              rw [this]; ac_rfl
            have HFA : Aside (∀ T' nv, lain T x.p = T' → filesA (ns.map (st2 (L ++ [x.p]) (upd ψ x.p.nm nv))) = fileA { n with f := ⟨T', n.f.safe, n.f.sure⟩, nv := nv } * R) := by
              intro T' nv hT'
              rw [← HR.out, hns, List.map_append, List.map_cons, filesA_append, filesA, ← st2_other (v := nv) hl1, ← st2_other (v := nv) (by rw [← hnn]; exact hsp.2)]
              have : st2 (L ++ [x.p]) (upd ψ x.p.nm nv) n = { n with f := ⟨T', n.f.safe, n.f.sure⟩, nv := nv } := by
                unfold st2
                rw [ofName_snoc, if_pos hnn.symm, List.foldl_append, hT]
                simp [upd, hnn, hT']
              rw [this]; ac_rfl
            have hms : (ns.map kvF) = (l1 ++ n :: l2).map kvF := by rw [hns]
            have hs7 : Sat (hdr wr.heap.size TP 3 * (Sl.cell wr.heap.size 0 (.string x.p.nm) * (Sl.cell wr.heap.size 1 (.int .i64 x.p.pos) * (Sl.cell wr.heap.size 2 (.slice ya yn yc) * (coreD D M (.slice (some ⟨g, 0, none⟩) ps.length pc) d * (mp skey M (ns.map kvF) * (fileA { n with f := ⟨T, n.f.safe, n.f.sure⟩, nv := ψ n.nm } * (R * (rw TP 3 (.slice (some ⟨g, 0, none⟩) ps.length pc) (prows ps) * (piecesA ps * (mp skey w.heap.size kl * (B * F))))))))))))
                (wr.alloc (.cells #[.string x.p.nm, .int .i64 x.p.pos, .slice ya yn yc] TP)) := hs6.eq (by rw [hfa]; ac_rfl)
            have hlook : ∀ k, (Instr.lookup TFM (.map (some M)) (.string x.p.nm) false).run Try.prog ((wr.alloc (.cells #[.string x.p.nm, .int .i64 x.p.pos, .slice ya yn yc] TP)).drewN k) = .ok (.pointer (some ⟨n.b, 0, none⟩)) ((wr.alloc (.cells #[.string x.p.nm, .int .i64 x.p.pos, .slice ya yn yc] TP)).drewN k) := by
              intro k
              have h8 := (hs7.drewN k).take (mp skey M (ns.map kvF))
              rw [hms] at h8
              have h10 := look_foundF h8 (by rw [hnn]; exact hl1)
              rw [hnn] at h10
              exact h10
            have c5 : wr.cell? ⟨D, 5, none⟩ = some (.map (some M)) := by unfold coreD at hsr2; exact hsr2.c D 5
            have hDr : D < wr.heap.size := World.block_lt_of_cell? _ _ c5
            unfold fileA at hs7
            dsimp only at hs7
            obtain ⟨va, vc, hv, hv1, hv2⟩ := rw_vb (hs7.take (rw TB 1 (ψ n.nm) (bys T)))
            rw [hv] at hs7
            have c0 := hs7.c n.b 0
            have HH : Aside (n.nm = x.p.nm ∧ KeptIs L kl) := ⟨hnn, by rw [← HLd.out]; exact A2.out.2⟩
            clear hI4 hz hq hkeep hpk hz1 okd hff hpp hget hns hl1 hsp hT hfa hms hs6 hsr2 hv hxin hnn
            cases hxpb : x.p.b with
            | none =>
              obtain ⟨hx1, hx2, hx3⟩ := HX.out
              have hvn : Value.slice ya yn yc = .slice none 0 0 := by
                obtain ⟨F', h11⟩ : ∃ F', Sat (pieceA x * F') (wr.alloc (.cells #[.string x.p.nm, .int .i64 x.p.pos, .slice ya yn yc] TP)) := ⟨_, (hs7.take (piecesA ps)).eq (by rw [hx2, sep_assoc])⟩
                unfold pieceA at h11
                rw [hxpb] at h11
                rw [← hx3]
                exact h11.pur_open.1
              cases hvn
              have HT : Aside (lain T x.p = T.take x.p.pos) := (by unfold lain; rw [hxpb] : lain T x.p = T.take x.p.pos)
              have HPB : Aside (x.p.b = none) := hxpb
              clear hxpb hx1 hx2 hx3 c5 c0
              go_upto_region 10 with (fail)
              unfold coreD at hs7
              generalize wr.alloc _ = W1 at hs7 hlook ⊢
              generalize wr.heap.size = Pb at hs7 ⊢
              have d5 := hs7.c D 5
              have d0 := hs7.c Pb 0
              go_quiet (fail)
              have hs8 := hs7.drewN nq
              clear hs7 hlook d5 d0
              generalize W1.drewN nq = W2 at hs8 ⊢
              have d2 := hs8.c Pb 2
              have d1 := hs8.c Pb 1
              have e0 := hs8.c n.b 0
              have f0 := hs8.f n.b 0
              have hcutR : ∀ hi : Nat, hi ≤ T.length → Sat (rw TB 1 (.slice (cutA va vc 0 1) hi vc) (bys (T.take hi)) * _) W2 := fun hi hhi => by
                have h12 := (hs8.take (rw TB 1 (.slice va T.length vc) (bys T))).rw_cut hi hhi
                rw [Nat.mul_one, ← bys_take] at h12
                exact h12
              by_cases hmn : T.length < x.p.pos
              · have hmn' : (T.length : Int) < x.p.pos := by omega
                have hto := at_to (P := Try.prog) E (a := va) (n := T.length) (c := vc) T.length (by omega)
                have hs9 := (hcutR T.length (by omega)).upd n.b 0 (.slice (cutA va vc 0 1) T.length vc)
                have HT2 : Aside (lain T x.p = T.take T.length) := (by rw [HT.out, List.take_of_length_le (by omega), List.take_of_length_le (by omega)] : lain T x.p = T.take T.length)
                clear hcutR hs8 HT
                go_wp2_with fail
                go_region
                all_goals
                  go_wp2
                  go_roundg (ps.length - (j + 1))
                  case measure => have := A2.out.1; omega
                  case rel =>
                    refine ⟨j + 1, upd ψ x.p.nm (.slice (cutA va vc 0 1) T.length vc), kl, by go_num, by omega, ⟨rfl, by rw [HKP.out, HLd.out]; exact HH.out.2.cut HPB.out⟩, ?_⟩
                    rw [HKP.out, HLd.out, HFA.out _ _ HT2.out]
                    refine Sat.weak (B := hdr Pb TP 3 * (Sl.cell Pb 0 (.string x.p.nm) * (Sl.cell Pb 1 (.int .i64 x.p.pos) * Sl.cell Pb 2 (.slice none 0 0)))) (Sat.drew (hs9.eq ?_))
                    unfold fileA coreD
                    dsimp only
                    ac_rfl
              · have hmn' : ¬ (T.length : Int) < x.p.pos := by omega
                have hto := at_to (P := Try.prog) E (a := va) (n := T.length) (c := vc) x.p.pos (by omega)
                have hs9 := (hcutR x.p.pos (by omega)).upd n.b 0 (.slice (cutA va vc 0 1) x.p.pos vc)
                have HT2 : Aside (lain T x.p = T.take x.p.pos) := (by rw [HT.out] : lain T x.p = T.take x.p.pos)
                clear hcutR hs8 HT
                go_wp2_with fail
                go_region
                all_goals
                  go_wp2
                  go_roundg (ps.length - (j + 1))
                  case measure => have := A2.out.1; omega
                  case rel =>
                    refine ⟨j + 1, upd ψ x.p.nm (.slice (cutA va vc 0 1) x.p.pos vc), kl, by go_num, by omega, ⟨rfl, by rw [HKP.out, HLd.out]; exact HH.out.2.cut HPB.out⟩, ?_⟩
                    rw [HKP.out, HLd.out, HFA.out _ _ HT2.out]
                    refine Sat.weak (B := hdr Pb TP 3 * (Sl.cell Pb 0 (.string x.p.nm) * (Sl.cell Pb 1 (.int .i64 x.p.pos) * Sl.cell Pb 2 (.slice none 0 0)))) (Sat.drew (hs9.eq ?_))
                    unfold fileA coreD
                    dsimp only
                    ac_rfl
            | some l =>
              obtain ⟨hx1, hx2, hx3⟩ := HX.out
              have hnz : notNil x.v := by
                obtain ⟨F', h11⟩ : ∃ F', Sat (pieceA x * F') (wr.alloc (.cells #[.string x.p.nm, .int .i64 x.p.pos, .slice ya yn yc] TP)) := ⟨_, (hs7.take (piecesA ps)).eq (by rw [hx2, sep_assoc])⟩
                unfold pieceA at h11
                rw [hxpb] at h11
                rw [sep_assoc] at h11
                exact h11.pur_open.1
              have hpa := pieceA_some hxpb hnz
              rw [hx3] at hpa
              have HPA : Aside (piecesA ps = rw TB 1 (.slice ya yn yc) (bys l) * Rp) := (by rw [hx2, hpa] : _ = _)
              obtain ⟨gg, yn', yc', hye⟩ := hnz
              rw [hx3] at hye
              cases hye
              rw [hxpb] at hxb
              simp only [Option.getD_some] at hxb
              have HT : Aside (lain T x.p = laid T x.p.pos l) := (by unfold lain; rw [hxpb] : lain T x.p = laid T x.p.pos l)
              have HPB : Aside (x.p.b.isSome = true) := (by rw [hxpb]; rfl : x.p.b.isSome = true)
              clear hxpb hx1 hx2 hx3 c5 c0 hpa
              go_upto_region 10 with (fail)
              unfold coreD at hs7
              generalize wr.alloc _ = W1 at hs7 hlook ⊢
              generalize wr.heap.size = Pb at hs7 ⊢
              have d5 := hs7.c D 5
              have d0 := hs7.c Pb 0
              go_quiet (fail)
              have hs8 := hs7.drewN nq
              clear hs7 hlook d5 d0
              generalize W1.drewN nq = W2 at hs8 ⊢
              rw [HPA.out] at hs8
              have d2 := hs8.c Pb 2
              have d1 := hs8.c Pb 1
              have e0 := hs8.c n.b 0
              obtain ⟨F9, HF9, hs9⟩ : ∃ F9, Aside (F9 = hdr Pb TP 3 * (Sl.cell Pb 0 (.string x.p.nm) * (Sl.cell Pb 1 (.int .i64 x.p.pos) * (Sl.cell Pb 2 (.slice (some ⟨gg, 0, none⟩) yn yc) * (coreD D M (.slice (some ⟨g, 0, none⟩) ps.length pc) d * (mp skey M (ns.map kvF) * (R * (rw TP 3 (.slice (some ⟨g, 0, none⟩) ps.length pc) (prows ps) * (Rp * (mp skey w.heap.size kl * (B * F))))))))))) ∧
                  Sat (rw TB 1 (.slice va T.length vc) (bys T) * (rw TB 1 (.slice (some ⟨gg, 0, none⟩) yn yc) (bys l) * (hdr n.b TF 3 * (Sl.cell n.b 0 (.slice va T.length vc) * (Sl.cell n.b 1 n.sv * (Sl.cell n.b 2 (.bool n.f.sure) * (rw TB 1 n.sv (bys n.f.safe) * F9))))))) W2.drew :=
                ⟨_, rfl, Sat.drew (hs8.eq (by unfold coreD; ac_rfl))⟩
              have hlay := lay_any _ T x.p.pos _ l _ _ Reads.rw W2.drew hs9 (by omega) (by omega)
              clear hs8 hs9
              go_wp2_with fail
              go_region_with (go_at_call 75; refine hlay.mono ?_; rintro e w3 ⟨nv, rfl, hs10⟩; obtain ⟨na, nc, hnv, _, _⟩ := rw_vb hs10; obtain ⟨nl, hnl⟩ : ∃ n, (laid T x.p.pos l).length = n := ⟨_, rfl⟩; rw [hnl] at hnv; subst hnv; clear hnl; have k0 := hs10.c n.b 0; have f0 := hs10.f n.b 0)
              all_goals
                have hs11 := hs10.upd n.b 0 (.slice na nl nc)
                clear hlay hs10 e0 d1 d2
                rw [HF9.out] at hs11
                have m0 := hs11.c Pb 0
                obtain ⟨o3, ho3, hs12⟩ := (hs11.take (mp skey w.heap.size kl)).mp_open
                obtain ⟨o4, ho4, hup⟩ := run_mapUpdate_mp (P := Try.prog) keyOkS Try.underlying127 hs12.obj ho3 x.p.nm (.bool true)
                have hs13 := Sat.mp_shut ho4 (hs12.setRaw o4)
                clear hs12 hs11 ho3 ho4 k0 f0
                go_wp2
                go_roundg (ps.length - (j + 1))
                case measure => have := A2.out.1; omega
                case rel =>
                  refine ⟨j + 1, upd ψ x.p.nm (.slice na nl nc), mput x.p.nm (.bool true) kl, by go_num, by omega, ⟨rfl, by rw [HKP.out, HLd.out]; exact HH.out.2.put HPB.out⟩, ?_⟩
                  rw [HKP.out, HLd.out, HFA.out _ _ HT.out, HPA.out]
                  refine Sat.weak (B := hdr Pb TP 3 * (Sl.cell Pb 0 (.string x.p.nm) * (Sl.cell Pb 1 (.int .i64 x.p.pos) * Sl.cell Pb 2 (.slice (some ⟨gg, 0, none⟩) yn yc)))) (hs13.eq ?_)
                  unfold fileA
                  dsimp only
                  ac_rfl
          · have hpkf : picked picks j = false := by simpa using hpk
            have HKP : Aside (keep picks 0 (pents (ps.take (j + 1))) = keep picks 0 (pents (ps.take j))) := (by rw [hkeep, hpkf]; simp : _ = _)
            clear hkeep hpk
            by_cases hp0 : picks.length = 0
            · have hp0' : ((picks.length : Int) == 0) = true := by rw [beq_iff_eq]; omega
              clear hI4
              go_wp2
              go_roundg (ps.length - (j + 1))
              case measure => have := A2.out.1; omega
              case rel =>
                refine ⟨j + 1, ψ, kl, by go_num, by omega, ⟨rfl, by rw [HKP.out]; exact A2.out.2⟩, ?_⟩
                rw [HKP.out]
                exact Sat.right (hs6.eq (by rfl))
            · have hp0' : ((picks.length : Int) == 0) = false := by rw [beq_eq_false_iff_ne]; omega
              obtain ⟨z, hz⟩ : ∃ z, picks[j % picks.length]? = some z := ⟨picks[j % picks.length]'(Nat.mod_lt _ (by omega)), by simp⟩
              obtain ⟨zb, zo, e5, hzc⟩ := hI4.at hz
              cases e5
              obtain ⟨q, hq⟩ : ∃ q : Nat, j % picks.length = q := ⟨_, rfl⟩
              rw [hq] at hzc hz
              have hqm : (j : Int) % (picks.length : Int) = (q : Nat) := by omega
              have hqt : (j : Int).tmod (picks.length : Int) = (q : Nat) := by rw [Int.tmod_eq_emod_of_nonneg (by omega)]; exact hqm
              have hql : q < picks.length := by rw [← hq]; exact Nat.mod_lt _ (by omega)
              have hql' : (q : Int) < (picks.length : Int) := by omega
              have hbit : bits .and .i64 z 1 = 0 := by
                rw [bits_and_one]
                unfold picked at hpkf
                rw [hq, hz] at hpkf
                have : (z % 2 == 1) = false := hpkf
                rw [beq_eq_false_iff_ne] at this
                omega
              clear hI4 hz hq hpkf
              go_wp2
              go_roundg (ps.length - (j + 1))
              case measure => have := A2.out.1; omega
              case rel =>
                refine ⟨j + 1, ψ, kl, by go_num, by omega, ⟨rfl, by rw [HKP.out]; exact A2.out.2⟩, ?_⟩
                rw [HKP.out]
                exact Sat.right (hs6.eq (by rfl))
        · obtain ⟨wq, rfl⟩ : ∃ wq : World, wq = wr := ⟨_, rfl⟩
          have hjl' : ¬ (j : Int) < ps.length := by omega
          have hje : ps.take j = ps := List.take_of_length_le (by omega)
          rw [hje] at hsr2
          have hkl := A2.out.2
          rw [hje] at hkl
          obtain ⟨L, HLd⟩ : ∃ L, Aside (keep picks 0 (pents ps) = L) := ⟨_, rfl⟩
          rw [HLd.out] at hsr2 hkl
          obtain ⟨ns2, HN2⟩ : ∃ ns2, Aside (ns.map (st2 L ψ) = ns2) := ⟨_, rfl⟩
          have hkv : ns.map kvF = ns2.map kvF := by rw [← HN2.out, st2_kv]
          have hnd2 : (ns2.map (·.nm)).Nodup := by
            rw [← HN2.out, List.map_map]
            have : (Nf.nm ∘ st2 L ψ) = Nf.nm := by funext n; rfl
            exact HND.out.1
          have hsz2 : ∀ n ∈ ns2, n.f.now.length ≤ 1099511627776 := by
            intro n hn
            rw [← HN2.out] at hn
            obtain ⟨y, hy, rfl⟩ := List.mem_map.1 hn
            obtain ⟨okd, hff, hpp⟩ := HOK.out
            refine lains_len _ _ _ (HND.out.2 y hy).2 ?_
            intro p hpm
            refine okd.pc p ?_
            rw [← hpp]
            exact keep_sub picks _ 0 p (by rw [HLd.out]; exact (List.mem_filter.1 hpm).1)
          rw [HN2.out, hkv] at hsr2
          have c5 : wq.cell? ⟨D, 5, none⟩ = some (.map (some M)) := by unfold coreD at hsr2; exact hsr2.c D 5
          have hDq : D < wq.heap.size := World.block_lt_of_cell? _ _ c5
          obtain ⟨o1, ho1, hs6⟩ := (hsr2.take (mp skey M (ns2.map kvF))).mp_open
          obtain ⟨oi1, hI1, hrange⟩ := run_range_mp (P := Try.prog) Try.underlying113 hs6.obj ho1
          have hs7 := hs6.alloc_raw oi1
          obtain ⟨G2, HG2⟩ : ∃ G, Aside (coreD D M (.slice pa ps.length pc) d * (mp skey w.heap.size kl * (B * F)) = G) := ⟨_, rfl⟩
          have hs8 : Sat (raw M o1 * (raw wq.heap.size oi1 * (filesA ns2 * G2))) (wq.alloc oi1) :=
            Sat.weak (B := rw TP 3 (.slice pa ps.length pc) (prows ps) * piecesA ps) (hs7.eq (by rw [← HG2.out]; ac_rfl))
          have HND2 : Aside ((ns2.map (·.nm)).Nodup ∧ (∀ n ∈ ns2, n.f.now.length ≤ 1099511627776) ∧ KeptIs L kl ∧ ns.map (st2 L ψ) = ns2) := ⟨hnd2, hsz2, hkl, HN2.out⟩
          clear hs7 hs6 ho1 hsr2 hkl hje hkv hnd2 hsz2 HN2 A2
          go_wp2_with fail
          go_loopg [10] ns2.length (fun k3 t wr3 => ∃ (φ : ByteArray → Value) (oM oi' : Obj) (rem : List (ByteArray × Value)) (ns1 : List Nf), Aside (k3 = rem.length ∧ Iter skey M oM oi' ((ns2.filterMap (st3 L (rem.map (·.1)) φ)).map kvF) rem ∧ rem.Perm (ns1.map kvF) ∧ (∀ n ∈ ns1, n ∈ ns2) ∧ (rem.map (·.1)).Nodup) ∧
            Sat (raw M oM * (raw wq.heap.size oi' * (filesA (ns2.filterMap (st3 L (rem.map (·.1)) φ)) * G2))) wr3)
          case atStart =>
            refine ⟨fun _ => undef, o1, oi1, ns2.map kvF, ns2, ⟨by simp, ?_, .refl _, fun _ h => h, by rw [kvF_keys]; exact HND2.out.1⟩, ?_⟩
            · rw [kvF_keys, st3_all]; exact hI1
            · rw [kvF_keys, st3_all]; exact hs8
          case round =>
            obtain ⟨φ3, oM, oi', rem, ns1, A3, hsr⟩ := hrel
            obtain ⟨hgk, hI', hpm, hsub, hrn⟩ := A3.out
            clear hI1 hs8 hrange c5
            rcases run_next_sl (P := Try.prog) hsr hI' with ⟨hrem, hnext⟩ | ⟨i, k, vv, oi2, w2, hi, hnext, hI2, hs4, hentry⟩
            · subst hrem
              have hs9 := Sat.mp_shut hI'.mapIs hsr
              have hs10 : Sat (coreD D M (.slice pa ps.length pc) d * (mp skey M ((ns2.filterMap (st3 L [] φ3)).map kvF) * (filesA (ns2.filterMap (st3 L [] φ3)) * (B * F)))) wr :=
                Sat.weak (B := raw wq.heap.size oi' * mp skey w.heap.size kl) (hs9.eq (by rw [← HG2.out]; simp only [List.map_nil]; ac_rfl))
              unfold coreD at hs10
              have g6 := hs10.c D 6
              have f6 := hs10.f D 6
              have hs11 := hs10.upd D 6 (.slice none 0 0)
              have g4 := hs11.c D 4
              have f4 := hs11.f D 4
              have hs12 := hs11.upd D 4 (.bool false)
              have g3 := hs12.c D 3
              have f3 := hs12.f D 3
              have hs13 := hs12.upd D 3 (.bool false)
              clear hs9 hs10 hs11 hs12 hsr hI' A3 hgk hpm hsub hrn
              go_wp2
              go_end0
              refine ⟨rfl, ψ, φ3, ?_⟩
              rw [HLd.out]
              have e9 : ns.filterMap (st3 L [] φ3 ∘ st2 L ψ) = ns2.filterMap (st3 L [] φ3) := by rw [← HND2.out.2.2.2, List.filterMap_map]
              rw [e9]
              refine (hs13.rw_nil (e := TP) (s := 3)).eq ?_
              unfold diskA coreD pendA
              simp only [prows, piecesA, sep_one, List.flatMap_nil]
              ac_rfl
            · obtain ⟨n, ns3, hp1, hx, hp2⟩ := perm_map_step hpm hi
              have hn : n ∈ ns2 := hsub n (hp1.mem_iff.2 (by simp))
              cases hx
              obtain ⟨hrk, hrn2, hiff, hkin⟩ := rem_keys (ms := []) hrn hi
              obtain ⟨l1, l2, hns⟩ := List.append_of_mem hn
              have hsp := nodup_split (by rw [← hns]; exact HND2.out.1)
              have hnst : st3 L (rem.map (·.1)) φ3 n = some n := by unfold st3; rw [if_pos (inL_iff.2 hkin)]
              obtain ⟨c1, HC1⟩ : ∃ c, Aside (l1.filterMap (st3 L (rem.map (·.1)) φ3) = c) := ⟨_, rfl⟩
              obtain ⟨c2, HC2⟩ : ∃ c, Aside (l2.filterMap (st3 L (rem.map (·.1)) φ3) = c) := ⟨_, rfl⟩
              have hcur : ns2.filterMap (st3 L (rem.map (·.1)) φ3) = c1 ++ n :: c2 := by
                rw [hns, List.filterMap_append, List.filterMap_cons, hnst, HC1.out, HC2.out]
              have hc1 : ∀ m ∈ c1, m.nm ≠ n.nm := by
                intro m hm
                rw [← HC1.out] at hm
                obtain ⟨y, hy, hye⟩ := List.mem_filterMap.1 hm
                rw [(st3_nm hye).1]; exact hsp.1 y hy
              have hin : inL ((rem.eraseIdx i).map (·.1)) n.nm = false := by
                cases hb : inL ((rem.eraseIdx i).map (·.1)) n.nm with
                | false => rfl
                | true =>
                  rw [inL_iff] at hb
                  obtain ⟨p, hp, e⟩ := List.mem_map.1 hb
                  exact absurd e (hrk p hp)
              have HNEW : Aside (∀ sv, ns2.filterMap (st3 L ((rem.eraseIdx i).map (·.1)) (upd φ3 n.nm sv)) = if n.f.sure || keptB L n.nm then c1 ++ { n with f := ⟨n.f.now, n.f.now, true⟩, sv := sv } :: c2 else c1 ++ c2) := by
                intro sv
                rw [hns, List.filterMap_append, List.filterMap_cons, ← st3_other hsp.1 hiff, ← st3_other hsp.2 hiff, HC1.out, HC2.out]
                have : st3 L ((rem.eraseIdx i).map (·.1)) (upd φ3 n.nm sv) n = if n.f.sure || keptB L n.nm then some { n with f := ⟨n.f.now, n.f.now, true⟩, sv := sv } else none := by
                  unfold st3
                  rw [hin]
                  simp [upd]
                rw [this]
                cases (n.f.sure || keptB L n.nm) <;> rfl
              rw [hcur] at hs4 hI2
              have hnl := HND2.out.2.1 n hn
              have hlt : (rem.eraseIdx i).length < rem.length := by
                have := (List.getElem?_eq_some_iff.1 hi).1
                rw [List.length_eraseIdx]; split <;> omega
              have HL : Aside ((rem.eraseIdx i).length < rem.length ∧ gk = rem.length) := ⟨hlt, hgk⟩
              have HI : Aside ((rem.eraseIdx i).Perm (ns3.map kvF) ∧ (∀ m ∈ ns3, m ∈ ns2) ∧ ((rem.eraseIdx i).map (·.1)).Nodup) :=
                ⟨hp2, fun m hm => hsub m (hp1.mem_iff.2 (by simp [hm])), hrn2⟩
              have HIT : Aside (Iter skey M oM oi2 ((c1 ++ n :: c2).map kvF) (rem.eraseIdx i) ∧ (∀ p ∈ rem.eraseIdx i, p.1 ≠ n.nm) ∧ (∀ m ∈ c1, m.nm ≠ n.nm)) := ⟨hI2, hrk, hc1⟩
              obtain ⟨Rc, HRc⟩ : ∃ R, Aside (filesA c1 * filesA c2 = R) := ⟨_, rfl⟩
              have hs5 : Sat (fileA n * (Rc * (raw M oM * (raw wq.heap.size oi2 * G2)))) w2 := hs4.eq (by rw [← HRc.out, filesA_append, filesA]; ac_rfl)
              have hkq : mget n.nm kl = if keptB L n.nm then some (.bool true) else none := HND2.out.2.2.1 n.nm
              obtain ⟨ok1, hok1, hs5k⟩ : ∃ o, MapIs skey o kl ∧ Sat (raw w.heap.size o * (fileA n * (Rc * (raw M oM * (raw wq.heap.size oi2 * (coreD D M (.slice pa ps.length pc) d * (B * F))))))) w2 := (hs5.eq (B := mp skey w.heap.size kl * (fileA n * (Rc * (raw M oM * (raw wq.heap.size oi2 * (coreD D M (.slice pa ps.length pc) d * (B * F))))))) (by rw [← HG2.out]; ac_rfl)).mp_open
              have hlk := run_lookup_mp (P := Try.prog) keyOkS Try.underlying127 zeroKB hs5k.obj hok1 n.nm false
              rw [hkq] at hlk
              have d5 : w2.cell? ⟨D, 5, none⟩ = some (.map (some M)) := by unfold coreD at hs5k; exact hs5k.c D 5
              have hD2 : D < w2.heap.size := World.block_lt_of_cell? _ _ d5
              clear hok1 hs5k hkq hI' A3 hlt hgk hI2 hi hpm hp1 hp2 hsub hsr hnst hns hsp hiff hrk hrn hrn2 hkin hcur hc1 hin hn
              cases hsu : n.f.sure with
              | true =>
                have HSK : Aside ((n.f.sure || keptB L n.nm) = true) := (by rw [hsu]; rfl : _ = _)
                have hs6 := hs5
                unfold fileA at hs6
                have b2 := hs6.c n.b 2
                have b0 := hs6.c n.b 0
                obtain ⟨va, vc, hv, hv1, hv2⟩ := rw_vb (hs6.take (rw TB 1 n.nv (bys n.f.now)))
                have q1 := rw_new0 (e := TB) (s := 1) hs6
                have hbyt := Reads.rw _ _ (q1.take (rw TB 1 n.nv (bys n.f.now)))
                rw [hv] at b0 hbyt
                have hsrc := hbyt.src (P := Try.prog)
                have hnb : n.b < w2.heap.size := World.block_lt_of_cell? _ _ b0
                rw [hsu] at b2
                clear hsu hlk
                clear hs5 hs6 hbyt hv hs4 d5
                go_wp2_with (at_builtin; refine wpl_append_same E rfl (.tmp 127) (.tmp 131) rfl rfl rfl q1 hsrc (by unfold maxLen; omega) (by omega) ?_; intro a' c' w3 hs7 hnil; simp only [Nat.zero_add, List.nil_append] at hs7; have k1 := hs7.c n.b 1; have f1 := hs7.f n.b 1; have hs8 := hs7.upd n.b 1 (.slice a' n.f.now.length c'); have k2 := hs8.c n.b 2; have f2 := hs8.f n.b 2; have hs9 := hs8.upd n.b 2 (.bool true); clear q1 hsrc hnil hs7 hs8)
                go_roundg (rem.eraseIdx i).length
                case measure => have := HL.out; omega
                case rel =>
                  have hnew := HNEW.out (.slice a' n.f.now.length c')
                  rw [HSK.out] at hnew
                  simp only [if_true] at hnew
                  refine ⟨upd φ3 n.nm (.slice a' n.f.now.length c'), oM, oi2, _, ns3, ⟨rfl, ?_, HI.out⟩, ?_⟩
                  · rw [hnew]
                    have e10 : (c1 ++ { n with f := ⟨n.f.now, n.f.now, true⟩, sv := .slice a' n.f.now.length c' } :: c2).map kvF = (c1 ++ n :: c2).map kvF := by simp [kvF]
                    rw [e10]; exact HIT.out.1
                  · rw [hnew, filesA_append, filesA]
                    refine Sat.weak (B := rw TB 1 n.sv (bys n.f.safe)) (hs9.eq ?_)
                    rw [← HRc.out]
                    unfold fileA
                    dsimp only
                    ac_rfl
              | false =>
                cases hkp : keptB L n.nm with
                | true =>
                  have HSK : Aside ((n.f.sure || keptB L n.nm) = true) := (by rw [hsu, hkp]; rfl : _ = _)
                  rw [hkp] at hlk
                  simp only [if_true, Option.getD_some, Bool.false_eq_true, if_false] at hlk
                  have hs6 := hs5
                  unfold fileA at hs6
                  have b2 := hs6.c n.b 2
                  have b0 := hs6.c n.b 0
                  obtain ⟨va, vc, hv, hv1, hv2⟩ := rw_vb (hs6.take (rw TB 1 n.nv (bys n.f.now)))
                  have q1 := rw_new0 (e := TB) (s := 1) hs6
                  have hbyt := Reads.rw _ _ (q1.take (rw TB 1 n.nv (bys n.f.now)))
                  rw [hv] at b0 hbyt
                  have hsrc := hbyt.src (P := Try.prog)
                  have hnb : n.b < w2.heap.size := World.block_lt_of_cell? _ _ b0
                  rw [hsu] at b2
                  clear hsu hkp
                  clear hs5 hs6 hbyt hv hs4 d5
                  go_wp2_with (at_builtin; refine wpl_append_same E rfl (.tmp 127) (.tmp 131) rfl rfl rfl q1 hsrc (by unfold maxLen; omega) (by omega) ?_; intro a' c' w3 hs7 hnil; simp only [Nat.zero_add, List.nil_append] at hs7; have k1 := hs7.c n.b 1; have f1 := hs7.f n.b 1; have hs8 := hs7.upd n.b 1 (.slice a' n.f.now.length c'); have k2 := hs8.c n.b 2; have f2 := hs8.f n.b 2; have hs9 := hs8.upd n.b 2 (.bool true); clear q1 hsrc hnil hs7 hs8)
                  go_roundg (rem.eraseIdx i).length
                  case measure => have := HL.out; omega
                  case rel =>
                    have hnew := HNEW.out (.slice a' n.f.now.length c')
                    rw [HSK.out] at hnew
                    simp only [if_true] at hnew
                    refine ⟨upd φ3 n.nm (.slice a' n.f.now.length c'), oM, oi2, _, ns3, ⟨rfl, ?_, HI.out⟩, ?_⟩
                    · rw [hnew]
                      have e10 : (c1 ++ { n with f := ⟨n.f.now, n.f.now, true⟩, sv := .slice a' n.f.now.length c' } :: c2).map kvF = (c1 ++ n :: c2).map kvF := by simp [kvF]
                      rw [e10]; exact HIT.out.1
                    · rw [hnew, filesA_append, filesA]
                      refine Sat.weak (B := rw TB 1 n.sv (bys n.f.safe)) (hs9.eq ?_)
                      rw [← HRc.out]
                      unfold fileA
                      dsimp only
                      ac_rfl
                | false =>
                  have HSK : Aside ((n.f.sure || keptB L n.nm) = false) := (by rw [hsu, hkp]; rfl : _ = _)
                  rw [hkp] at hlk
                  simp only [Bool.false_eq_true, if_false, Option.getD_none] at hlk
                  have hs6 := hs5
                  unfold fileA at hs6
                  have b2 := hs6.c n.b 2
                  rw [hsu] at b2
                  obtain ⟨oM2, hI3, hdel⟩ := run_delete_iter (P := Try.prog) keyOkS Try.underlying113 (hs5.take (raw M oM)).obj HIT.out.1 n.nm HIT.out.2.1
                  rw [mdel_foundF HIT.out.2.2] at hI3
                  have HI3 : Aside (Iter skey M oM2 oi2 ((c1 ++ c2).map kvF) (rem.eraseIdx i)) := hI3
                  have hs9 := (hs5.take (raw M oM)).setRaw oM2
                  clear hs5 hs6 hs4 hI3 hsu hkp
                  go_wp2
                  go_roundg (rem.eraseIdx i).length
                  case measure => have := HL.out; omega
                  case rel =>
                    have hnew := HNEW.out undef
                    rw [HSK.out] at hnew
                    simp only [Bool.false_eq_true, if_false] at hnew
                    refine ⟨upd φ3 n.nm undef, oM2, oi2, _, ns3, ⟨rfl, ?_, HI.out⟩, ?_⟩
                    · rw [hnew]; exact HI3.out
                    · rw [hnew, filesA_append]
                      refine Sat.weak (B := fileA n) (hs9.eq ?_)
                      rw [← HRc.out]
                      ac_rfl
    · obtain ⟨n, ns2, hp1, hx, hp2⟩ := perm_map_step hpm hi
      have hn : n ∈ ns := hsub n (hp1.mem_iff.2 (by simp))
      cases hx
      obtain ⟨hrk, hrn2, hiff, hkin⟩ := rem_keys (ms := []) hrn hi
      obtain ⟨l1, l2, hns⟩ := List.append_of_mem hn
      have hsp := nodup_split (by rw [← hns]; exact HND.out.1)
      have hnst : st1 (rem.map (·.1)) φ n = n := by unfold st1; rw [if_pos (inL_iff.2 hkin)]
      obtain ⟨R, HR⟩ : ∃ R, Aside (filesA (l1.map (st1 (rem.map (·.1)) φ)) * filesA (l2.map (st1 (rem.map (·.1)) φ)) = R) := ⟨_, rfl⟩
      have hfa : filesA (ns.map (st1 (rem.map (·.1)) φ)) = fileA n * R := by
        rw [← HR.out, hns, List.map_append, List.map_cons, filesA_append, filesA, hnst]; ac_rfl
      have hs5 : Sat (fileA n * (R * (raw M o * (raw (w.heap.size + 1) oi2 * G)))) w2 := hs4.eq (by rw [hfa]; ac_rfl)
      unfold fileA at hs5
      have c1 := hs5.c n.b 1
      obtain ⟨va, vc, hv, hv1, hv2⟩ := rw_vb (hs5.take (rw TB 1 n.sv (bys n.f.safe)))
      have hsl := (HND.out.2 n hn).2
      have hlt : (rem.eraseIdx i).length < rem.length := by
        have := (List.getElem?_eq_some_iff.1 hi).1
        rw [List.length_eraseIdx]; split <;> omega
      have HL : Aside ((rem.eraseIdx i).length < rem.length ∧ gk = rem.length) := ⟨hlt, hgk⟩
      have HI : Aside (Iter skey M o oi2 (ns.map kvF) (rem.eraseIdx i) ∧ (rem.eraseIdx i).Perm (ns2.map kvF) ∧ (∀ m ∈ ns2, m ∈ ns) ∧ ((rem.eraseIdx i).map (·.1)).Nodup) :=
        ⟨hI2, hp2, fun m hm => hsub m (hp1.mem_iff.2 (by simp [hm])), hrn2⟩
      have HFA : Aside (∀ nv, filesA (ns.map (st1 ((rem.eraseIdx i).map (·.1)) (upd φ n.nm nv))) = fileA { n with f := ⟨n.f.safe, n.f.safe, n.f.sure⟩, nv := nv } * R) := by
        intro nv
        rw [← HR.out, hns, List.map_append, List.map_cons, filesA_append, filesA, ← st1_other hsp.1 hiff, ← st1_other hsp.2 hiff]
        have : st1 ((rem.eraseIdx i).map (·.1)) (upd φ n.nm nv) n = { n with f := ⟨n.f.safe, n.f.safe, n.f.sure⟩, nv := nv } := by
          unfold st1
          rw [if_neg (by rw [inL_iff]; intro h; obtain ⟨p, hp, e⟩ := List.mem_map.1 h; exact hrk p hp e)]
          simp [upd]
        rw [this]; ac_rfl
      have q1 := rw_new0 (e := TB) (s := 1) hs5
      have hbyt := Reads.rw _ _ (q1.take (rw TB 1 n.sv (bys n.f.safe)))
      rw [hv] at c1 hbyt
      have hsrc := hbyt.src (P := Try.prog)
      have hnb : n.b < w2.heap.size := World.block_lt_of_cell? _ _ c1
      clear hI' A hlt hgk hI2 hi hpm hp1 hp2 hsub hsr hs4 hs5 hfa hnst hns hsp hiff hrk hrn hrn2 hkin hbyt hv
      go_wp2_with (at_builtin; refine wpl_append_same E rfl (.tmp 25) (.tmp 29) rfl rfl rfl q1 hsrc (by unfold maxLen; omega) (by omega) ?_; intro a' c' w3 hs6 hnil; simp only [Nat.zero_add, List.nil_append] at hs6; have k0 := hs6.c n.b 0; have f0 := hs6.f n.b 0; have hs7 := hs6.upd n.b 0 (.slice a' n.f.safe.length c'); clear q1 hsrc hnil hs6)
      go_roundg (rem.eraseIdx i).length
      case measure => have := HL.out; omega
      case rel =>
        refine ⟨upd φ n.nm (.slice a' n.f.safe.length c'), oi2, _, ns2, ⟨rfl, HI.out⟩, ?_⟩
        rw [HFA.out]
        refine Sat.weak (B := rw TB 1 n.nv (bys n.f.now)) (hs7.eq ?_)
        unfold fileA
        dsimp only
        ac_rfl

end Go.Proofs.Ytjhkmmpgjiciiaa
