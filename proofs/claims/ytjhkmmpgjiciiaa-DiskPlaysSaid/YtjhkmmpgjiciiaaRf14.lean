/-
  The reference disk: Crash.
-/
import Derived.Test.YtjhkmmpgjiciiaaRf12
import Derived.Deep.DeepCutAuto
import Derived.Deep.RegionLaw
namespace Go.Proofs.Ytjhkmmpgjiciiaa
set_option linter.unusedSimpArgs false
set_option linter.unusedVariables false
open Go.RowKit Go.Sl Go.Dk
attribute [local go_sem ↓] Go.wp_at_zero Go.wp_at_succ
attribute [local go_sem] Go.Sl.cell_sat Go.Sl.frozen_sat

/-- the pieces of a file that are kept -/
def lst (picks : List Int) (nm : ByteArray) (l : List Pc) : List Pc := ofName nm (keep picks 0 l)
theorem lst_other {picks : List Int} {nm : ByteArray} {l : List Pc} {p : Pc} (h : p.nm ≠ nm) : lst picks nm (l ++ [p]) = lst picks nm l := by
  unfold lst
  rw [keep_snoc]
  split
  · rw [ofName_snoc, if_neg h]
  · simp
theorem lst_not {picks : List Int} {nm : ByteArray} {l : List Pc} {p : Pc} (h : picked picks l.length = false) : lst picks nm (l ++ [p]) = lst picks nm l := by
  unfold lst
  rw [keep_snoc, Nat.zero_add, if_neg (by simp [h])]; simp
theorem lst_yes {picks : List Int} {nm : ByteArray} {l : List Pc} {p : Pc} (h : picked picks l.length = true) (hn : p.nm = nm) : lst picks nm (l ++ [p]) = lst picks nm l ++ [p] := by
  unfold lst
  rw [keep_snoc, Nat.zero_add, if_pos h, ofName_snoc, if_pos hn]

theorem rfsA_at {fs : List Rf} {q : Nat} {x : Rf} (h : fs[q]? = some x) : rfsA fs = rfA x * (rfsA (fs.take q) * rfsA (fs.drop (q + 1))) := by
  obtain ⟨hq, rfl⟩ := List.getElem?_eq_some_iff.1 h
  conv => lhs; rw [← List.take_append_drop q fs, List.drop_eq_getElem_cons hq]
  rw [rfsA_mid]
theorem rpsA_at {ps : List Rp} {q : Nat} {x : Rp} (h : ps[q]? = some x) : rpsA ps = rpA x * (rpsA (ps.take q) * rpsA (ps.drop (q + 1))) := by
  obtain ⟨hq, rfl⟩ := List.getElem?_eq_some_iff.1 h
  conv => lhs; rw [← List.take_append_drop q ps, List.drop_eq_getElem_cons hq]
  rw [rpsA_append, rpsA]; ac_rfl
theorem crashed_names (L : List Pc) (l : List (ByteArray × Fl)) : ((l.filterMap (crashed L)).map (·.1)).Sublist (l.map (·.1)) := by
  induction l with
  | nil => simp
  | cons p l ih =>
    rw [List.filterMap_cons]
    unfold crashed
    split
    · exact ih.cons _
    · rename_i q hq
      split at hq
      · cases hq; exact ih.cons_cons _
      · cases hq

theorem rents_snoc {fs : List Rf} {q : Nat} {x : Rf} (h : fs[q]? = some x) : rents (fs.take (q + 1)) = rents (fs.take q) ++ [(x.nm, x.f)] := by rw [take_snoc' h]; simp [rents]

/-- how far the inner loop is -/
structure InC (picks : List Int) (x : Rf) (l : List Pc) (cur : List UInt8) (th : Bool) : Prop where
  cur : cur = (lst picks x.nm l).foldl lain x.f.safe
  th : th = (x.f.sure || (lst picks x.nm l).any fun p => p.b.isSome)
theorem InC.zero (picks : List Int) (x : Rf) : InC picks x [] x.f.safe x.f.sure := ⟨rfl, by simp [lst, keep, ofName]⟩
theorem InC.other {picks : List Int} {x : Rf} {l : List Pc} {cur : List UInt8} {th : Bool} {p : Pc} (h : InC picks x l cur th) (hn : p.nm ≠ x.nm) : InC picks x (l ++ [p]) cur th := ⟨by rw [lst_other hn]; exact h.cur, by rw [lst_other hn]; exact h.th⟩
theorem InC.not {picks : List Int} {x : Rf} {l : List Pc} {cur : List UInt8} {th : Bool} {p : Pc} (h : InC picks x l cur th) (hn : picked picks l.length = false) : InC picks x (l ++ [p]) cur th := ⟨by rw [lst_not hn]; exact h.cur, by rw [lst_not hn]; exact h.th⟩
theorem InC.cut {picks : List Int} {x : Rf} {l : List Pc} {cur : List UInt8} {th : Bool} {p : Pc} (h : InC picks x l cur th) (hp : picked picks l.length = true) (hn : p.nm = x.nm) (hb : p.b = none) : InC picks x (l ++ [p]) (cur.take p.pos) th :=
  ⟨by rw [lst_yes hp hn, List.foldl_append, ← h.cur]; simp [lain, hb], by rw [lst_yes hp hn, List.any_append, ← Bool.or_assoc, ← h.th]; simp [hb]⟩
theorem InC.lay {picks : List Int} {x : Rf} {l : List Pc} {cur : List UInt8} {th : Bool} {p : Pc} {b : List UInt8} (h : InC picks x l cur th) (hp : picked picks l.length = true) (hn : p.nm = x.nm) (hb : p.b = some b) : InC picks x (l ++ [p]) (laid cur p.pos b) true :=
  ⟨by rw [lst_yes hp hn, List.foldl_append, ← h.cur]; simp [lain, hb], by rw [lst_yes hp hn, List.any_append]; simp [hb]⟩

theorem cutA_id {e s : Nat} {a : Option Addr} {n c : Nat} {xs : List Value} {F : Assn} {w : World} (hs : Sat (rw e s (.slice a n c) xs * F) w) : cutA a c 0 s = a := by
  rcases hs.rw_open with ⟨h1, _⟩ | ⟨g', n', cap, sp, h1, _⟩
  · cases h1; exact cutA_none
  · cases h1; exact cutA_zero
theorem take_lt {α : Type} (l : List α) (n : Nat) : l.take (l.take n).length = l.take n := by
  rw [List.length_take]
  by_cases h : n ≤ l.length
  · rw [Nat.min_eq_left h]
  · rw [Nat.min_eq_right (by omega), List.take_of_length_le (Nat.le_refl _), List.take_of_length_le (by omega)]

theorem picked_cases (picks : List Int) (j : Nat) : (picks.length = 0 ∧ picked picks j = false) ∨ ∃ (z : Int) (q : Nat), picks.length ≠ 0 ∧ picks[q]? = some z ∧ (j : Int).tmod (picks.length : Int) = (q : Nat) ∧ q < picks.length ∧ ((bits .and .i64 z 1 = 0 ∧ picked picks j = false) ∨ (bits .and .i64 z 1 = 1 ∧ picked picks j = true)) := by
  by_cases h0 : picks.length = 0
  · refine .inl ⟨h0, ?_⟩
    have : picks = [] := List.length_eq_zero_iff.1 h0
    subst this
    simp [picked]
  · have hl : j % picks.length < picks.length := Nat.mod_lt _ (by omega)
    refine .inr ⟨picks[j % picks.length], j % picks.length, h0, by simp [hl], by rw [Int.tmod_eq_emod_of_nonneg (by omega)]; omega, hl, ?_⟩
    rw [bits_and_one]
    have e : picked picks j = (picks[j % picks.length] % 2 == 1) := by
      unfold picked
      rw [List.getElem?_eq_getElem hl]
    rw [e]
    rcases (by omega : picks[j % picks.length] % 2 = 0 ∨ picks[j % picks.length] % 2 = 1) with h | h
    · exact .inl ⟨h, by rw [h]; rfl⟩
    · exact .inr ⟨h, by rw [h]; rfl⟩

set_option maxRecDepth 100000 in
set_option maxHeartbeats 3200000 in
theorem crash_ref (W : Nat) (d : Dk) (m : Nat) (picks : List Int) (v : Value) (B F : Assn) (w : World) (hP : ReadsZ B v picks) (hs : Sat (refP W d * (B * F)) w) (hlp : picks.length ≤ 9223372036854775807) (ok : Ok m d) (hm : m ≤ 1099511627776) :
    Calls Try.prog 84 #[.pointer (some ⟨W, 0, none⟩), v] w fun e w' => e = .returned (.tuple #[]) ∧ Sat (refP W (d.crash picks) * (B * F)) w' := by
  obtain ⟨h, fa, fc, fs, pa, pc, ps, hr, hs1⟩ := ref_open hs
  obtain ⟨xa, xc, rfl⟩ := (hP _ _ (hs.take B)).len
  clear hs
  obtain ⟨iB, E⟩ := elemB
  obtain ⟨iF, EF⟩ := elemRF
  have hs2 : Sat (coreR W h (.slice fa fs.length fc) (.slice pa ps.length pc) * (rw TRF 4 (.slice fa fs.length fc) (frows fs) * (rfsA fs * (rw TRP 4 (.slice pa ps.length pc) (qrows ps) * (rpsA ps * (B * F)))))) w := hs1.eq (by unfold refA; ac_rfl)
  have hfl : fs.length ≤ 16 := hr.len ok
  have hpl : ps.length ≤ 1099511627776 := by
    have a1 := ok.pend
    have a2 := congrArg List.length hr.pend
    rw [List.length_map] at a2
    omega
  have HS : Aside ((∀ x ∈ fs, x.f.safe.length ≤ 1099511627776) ∧ ∀ y ∈ ps, y.p.pos + y.l.length ≤ 1099511627776) := ⟨fun x hx => (ok.sz (x.nm, x.f) (hr.files.mem_iff.1 (by exact List.mem_map.2 ⟨x, hx, rfl⟩))).2, fun y hy => ok.pc y.p (by rw [← hr.pend]; exact List.mem_map.2 ⟨y, hy, rfl⟩)⟩
  have HR : Aside (RefOf h fs ps d) := hr
  clear hr hs1 ok
  obtain ⟨K, HK⟩ : ∃ K, Aside (keep picks 0 (ps.map (·.p)) = K) := ⟨_, rfl⟩
  go_enter Try.func84, Try.ntmps84
  go_wp2_with fail
  go_loopg [4, 5] fs.length (fun g t4 t5 wr => ∃ (q : Nat) (out : List Rf) (oa : Option Addr) (oc : Nat), t5 = .int .i64 q ∧ t4 = .slice oa out.length oc ∧ q ≤ fs.length ∧ out.length ≤ q ∧ Aside (g = fs.length - q ∧ rents out = (rents (fs.take q)).filterMap (crashed K)) ∧
    Sat (rw TRF 4 (.slice oa out.length oc) (frows out) * (rfsA out * (coreR W h (.slice fa fs.length fc) (.slice pa ps.length pc) * (rw TRF 4 (.slice fa fs.length fc) (frows fs) * (rfsA fs * (rw TRP 4 (.slice pa ps.length pc) (qrows ps) * (rpsA ps * (B * F)))))))) wr)
  case atStart => exact ⟨0, [], none, 0, rfl, rfl, by omega, by simp, ⟨rfl, rfl⟩, by simpa [frows, rfsA, one_sep] using hs2.rw_nil⟩
  case round =>
    clear hs2
    obtain ⟨q, out, oa, oc, rfl, rfl, hq, hol, A, hs⟩ := hrel
    by_cases hlt : q < fs.length
    · have hlt' : (q : Int) < fs.length := by omega
      obtain ⟨x, hx⟩ : ∃ x, fs[q]? = some x := ⟨fs[q], by simp [hlt]⟩
      obtain ⟨g, rfl⟩ := row_some (hs.take (rw TRF 4 (.slice fa fs.length fc) (frows fs))) (by omega)
      obtain ⟨i0, i1, i2, i3⟩ := frows_at hx
      have hxs := HS.out.1 x (List.mem_of_getElem? hx)
      obtain ⟨R, hR⟩ : ∃ R, rfsA (fs.take q) * rfsA (fs.drop (q + 1)) = R := ⟨_, rfl⟩
      have hra := rfsA_at hx
      rw [hR] at hra
      have HX : Aside (fs[q]? = some x ∧ rfsA fs = rfA x * R) := ⟨hx, hra⟩
      have hs3 : Sat (coreR W h (.slice (some ⟨g, 0, none⟩) fs.length fc) (.slice pa ps.length pc) * (rw TRF 4 (.slice (some ⟨g, 0, none⟩) fs.length fc) (frows fs) * (rw TB 1 (.slice x.sa x.f.safe.length x.sc) (bys x.f.safe) * (rw TB 1 (.slice x.na x.f.now.length x.nc) (bys x.f.now) * (R * (rw TRP 4 (.slice pa ps.length pc) (qrows ps) * (rpsA ps * (B * (rw TRF 4 (.slice oa out.length oc) (frows out) * (rfsA out * F)))))))))) wr := hs.eq (by rw [hra]; unfold rfA; ac_rfl)
      haveI := hs3.i
      have HCO : Aside (∀ (F : Assn) (w : World), Sat (rw TB 1 (.slice x.sa x.f.safe.length x.sc) (bys x.f.safe) * F) w → Calls Try.prog 97 #[.slice x.sa x.f.safe.length x.sc] w fun e w' => ∃ a c, e = .returned (.slice a x.f.safe.length c) ∧ Sat (rw TB 1 (.slice a x.f.safe.length c) (bys x.f.safe) * (rw TB 1 (.slice x.sa x.f.safe.length x.sc) (bys x.f.safe) * F)) w') := fun F w h => copy_ref _ x.f.safe _ F w Reads.rw h (by omega)
      clear hs hx hra hR
      go_wp2_with fail
      refine (HCO.out _ _ (takeI (rw TB 1 (.slice x.sa x.f.safe.length x.sc) (bys x.f.safe)))).mono ?_
      rintro e w4 ⟨a4, c4, rfl, hs4⟩
      clear hs3 this
      obtain ⟨xb, hxb⟩ : ∃ z, wr.heap.size = z := ⟨_, rfl⟩
      rw [hxb] at hs4 ⊢
      obtain ⟨G, HG⟩ : ∃ G, Aside (rw TRF 4 (.slice (some ⟨g, 0, none⟩) fs.length fc) (frows fs) * (rw TB 1 (.slice x.sa x.f.safe.length x.sc) (bys x.f.safe) * (rw TB 1 (.slice x.na x.f.now.length x.nc) (bys x.f.now) * (R * (rw TRF 4 (.slice oa out.length oc) (frows out) * (rfsA out * F))))) = G) := ⟨_, rfl⟩
      have hs5 : Sat (rw TB 1 (.slice a4 x.f.safe.length c4) (bys x.f.safe) * (block xb TRF [.string x.nm, .slice x.na x.f.now.length x.nc, .slice x.sa x.f.safe.length x.sc, .bool x.f.sure] * (coreR W h (.slice (some ⟨g, 0, none⟩) fs.length fc) (.slice pa ps.length pc) * (rw TRP 4 (.slice pa ps.length pc) (qrows ps) * (rpsA ps * (B * G)))))) w4 := hs4.eq (by rw [← HG.out]; ac_rfl)
      clear hs4 hxb
      haveI := hs5.i
      go_wp2_with fail
      go_loopg [7, 8, 9] ps.length (fun gk t7 t8 t9 wq => ∃ (j : Nat) (a : Option Addr) (c : Nat) (cur : List UInt8) (th : Bool), t9 = .int .i64 j ∧ t7 = .slice a cur.length c ∧ t8 = .bool th ∧ j ≤ ps.length ∧ cur.length ≤ 1099511627776 ∧ Aside (gk = ps.length - j ∧ InC picks x ((ps.take j).map (·.p)) cur th) ∧
        Sat (rw TB 1 (.slice a cur.length c) (bys cur) * (block xb TRF [.string x.nm, .slice x.na x.f.now.length x.nc, .slice x.sa x.f.safe.length x.sc, .bool x.f.sure] * (coreR W h (.slice (some ⟨g, 0, none⟩) fs.length fc) (.slice pa ps.length pc) * (rw TRP 4 (.slice pa ps.length pc) (qrows ps) * (rpsA ps * (B * G)))))) wq)
      case atStart => exact ⟨0, a4, c4, x.f.safe, x.f.sure, rfl, rfl, rfl, by omega, hxs, ⟨rfl, InC.zero picks x⟩, hs5⟩
      case round =>
        clear hs5 this
        obtain ⟨j, a, c, cur, th, rfl, rfl, rfl, hj, hcl, A2, hs⟩ := hrel
        by_cases hjl : j < ps.length
        · have hjl' : (j : Int) < ps.length := by omega
          obtain ⟨y, hy⟩ : ∃ y, ps[j]? = some y := ⟨ps[j], by simp [hjl]⟩
          obtain ⟨gp, rfl⟩ := row_some (hs.take (rw TRP 4 (.slice pa ps.length pc) (qrows ps))) (by omega)
          obtain ⟨n0, n1, n2, n3⟩ := qrows_at hy
          have hyb := HS.out.2 y (List.mem_of_getElem? hy)
          have HSN : Aside ((ps.take (j + 1)).map (·.p) = (ps.take j).map (·.p) ++ [y.p] ∧ ((ps.take j).map (·.p)).length = j) := ⟨by rw [take_snoc' hy]; simp, by simp; omega⟩
          have HRP : Aside (rpsA ps = rpA y * (rpsA (ps.take j) * rpsA (ps.drop (j + 1)))) := rpsA_at hy
          obtain ⟨_, hcc, hcm⟩ := rw_max hs
          haveI := hs.i
          have hs6 := hs.alloc #[.string y.p.nm, .int .i64 y.p.pos, .slice y.a y.l.length y.c, .bool y.p.b.isNone] TRP
          have hI4 := hP _ _ (hs6.take B)
          have HS7 : Aside (Sat (rw TB 1 (.slice a cur.length c) (bys cur) * (block xb TRF [.string x.nm, .slice x.na x.f.now.length x.nc, .slice x.sa x.f.safe.length x.sc, .bool x.f.sure] * (coreR W h (.slice (some ⟨g, 0, none⟩) fs.length fc) (.slice (some ⟨gp, 0, none⟩) ps.length pc) * (rw TRP 4 (.slice (some ⟨gp, 0, none⟩) ps.length pc) (qrows ps) * (rpsA ps * (B * G)))))) (wr.alloc (.cells #[.string y.p.nm, .int .i64 y.p.pos, .slice y.a y.l.length y.c, .bool y.p.b.isNone] TRP))) := hs6.right
          clear hy
          by_cases hnm : y.p.nm = x.nm
          · have hd0 := str_eq hnm
            have HN : Aside (y.p.nm = x.nm) := hnm
            clear hnm
            rcases picked_cases picks j with ⟨h0, hpk⟩ | ⟨z, qq, h0, hz, hqt, hql, hor⟩
            · have HA : Aside (InC picks x ((ps.take (j + 1)).map (·.p)) cur th) := (by rw [HSN.out.1]; exact A2.out.2.not (by rw [HSN.out.2]; exact hpk) : InC _ _ _ _ _)
              have h0' : ((picks.length : Int) == 0) = true := by rw [beq_iff_eq]; omega
              clear hI4 hpk hs6 h0
              go_wp2
              go_roundg (ps.length - (j + 1))
              case measure => have := A2.out.1; omega
              case rel => exact ⟨j + 1, a, c, cur, th, by go_num, rfl, rfl, by omega, hcl, ⟨rfl, HA.out⟩, HS7.out⟩
            · have h0' : ((picks.length : Int) == 0) = false := by rw [beq_eq_false_iff_ne]; omega
              obtain ⟨zb, zo, e5, hzc⟩ := hI4.at hz
              cases e5
              have hql' : (qq : Int) < (picks.length : Int) := by omega
              clear hI4 hz hs6 h0
              rcases hor with ⟨hbit, hpk⟩ | ⟨hbit, hpk⟩
              · have HA : Aside (InC picks x ((ps.take (j + 1)).map (·.p)) cur th) := (by rw [HSN.out.1]; exact A2.out.2.not (by rw [HSN.out.2]; exact hpk) : InC _ _ _ _ _)
                clear hpk
                go_wp2
                go_roundg (ps.length - (j + 1))
                case measure => have := A2.out.1; omega
                case rel => exact ⟨j + 1, a, c, cur, th, by go_num, rfl, rfl, by omega, hcl, ⟨rfl, HA.out⟩, HS7.out⟩
              · have HPK : Aside (picked picks ((ps.take j).map (·.p)).length = true) := (by rw [HSN.out.2]; exact hpk : _ = _)
                clear hpk
                cases hb : y.p.b with
                | none =>
                  have n3' : At (qrows ps) (j * 4 + 3) (.bool true) := by have := n3; rw [hb] at this; exact this
                  have HS8 := HS7.out
                  rw [hb, Option.isNone_none] at hzc HS8
                  have HS9 : Aside (Sat _ _) := HS8
                  have HA : Aside (InC picks x ((ps.take (j + 1)).map (·.p)) (cur.take y.p.pos) th) := (by rw [HSN.out.1]; exact A2.out.2.cut HPK.out HN.out hb : InC _ _ _ _ _)
                  clear n3 HS8 hb HS7
                  have HL : Aside ((cur.take y.p.pos).length = (min (cur.length : Int) (y.p.pos : Int)).toNat ∧ cutA a c 0 1 = a) := ⟨by simp; omega, cutA_id HS9.out⟩
                  go_wp2
                  go_roundg (ps.length - (j + 1))
                  case measure => have := A2.out.1; omega
                  case rel =>
                    refine ⟨j + 1, a, c, cur.take y.p.pos, th, by go_num, by rw [HL.out.1], rfl, by omega, by rw [List.length_take]; omega, ⟨rfl, HA.out⟩, ?_⟩
                    have h9 := HS9.out.rw_cut (min y.p.pos cur.length) (by omega)
                    rw [Nat.mul_one, ← bys_take, HL.out.2, ← List.length_take, take_lt] at h9
                    exact h9
                | some l =>
                  have n3' : At (qrows ps) (j * 4 + 3) (.bool false) := by have := n3; rw [hb] at this; exact this
                  have HS8 := HS7.out
                  rw [hb, Option.isNone_some] at hzc HS8
                  have hyl : y.l = l := by unfold Rp.l; rw [hb]; rfl
                  have HA : Aside (InC picks x ((ps.take (j + 1)).map (·.p)) (laid cur y.p.pos l) true) := (by rw [HSN.out.1]; exact A2.out.2.lay HPK.out HN.out hb : InC _ _ _ _ _)
                  rw [hyl] at HS8 hzc hyb n2
                  have HRP2 : Aside (rpsA ps = rw TB 1 (.slice y.a l.length y.c) (bys l) * (rpsA (ps.take j) * rpsA (ps.drop (j + 1)))) := (by rw [HRP.out]; unfold rpA; rw [hyl] : _ = _)
                  have hlay := lay_ref (.slice a cur.length c) (.slice y.a l.length y.c) cur l y.p.pos (rw TB 1 (.slice a cur.length c) (bys cur) * rw TB 1 (.slice y.a l.length y.c) (bys l)) (block xb TRF [.string x.nm, .slice x.na x.f.now.length x.nc, .slice x.sa x.f.safe.length x.sc, .bool x.f.sure] * (coreR W h (.slice (some ⟨g, 0, none⟩) fs.length fc) (.slice (some ⟨gp, 0, none⟩) ps.length pc) * (rw TRP 4 (.slice (some ⟨gp, 0, none⟩) ps.length pc) (qrows ps) * ((rpsA (ps.take j) * rpsA (ps.drop (j + 1))) * (B * G))))) _ (Reads.left Reads.rw) (Reads.right Reads.rw) (HS8.eq (by rw [HRP2.out]; ac_rfl)) (by omega) (by omega)
                  obtain ⟨nl, hnl⟩ : ∃ z, (laid cur y.p.pos l).length = z := ⟨_, rfl⟩
                  rw [hnl] at hlay
                  have HNL : Aside ((laid cur y.p.pos l).length = nl ∧ nl ≤ 1099511627776) := ⟨hnl, by rw [← hnl, laid_len]; omega⟩
                  clear n3 HS8 hb HS7 hyl hnl
                  go_wp2_with fail
                  refine hlay.mono ?_
                  rintro e w9 ⟨a9, c9, rfl, hs9⟩
                  clear hlay
                  go_wp2
                  go_roundg (ps.length - (j + 1))
                  case measure => have := A2.out.1; omega
                  case rel =>
                    refine ⟨j + 1, a9, c9, laid cur y.p.pos l, true, by go_num, by rw [HNL.out.1], rfl, by omega, by rw [HNL.out.1]; exact HNL.out.2, ⟨rfl, HA.out⟩, ?_⟩
                    rw [HNL.out.1]
                    refine Sat.weak (B := rw TB 1 (.slice a cur.length c) (bys cur)) (hs9.eq ?_)
                    rw [HRP2.out]
                    ac_rfl
          · have hd0 := str_ne hnm
            have HA : Aside (InC picks x ((ps.take (j + 1)).map (·.p)) cur th) := (by rw [HSN.out.1]; exact A2.out.2.other hnm : InC _ _ _ _ _)
            clear hnm hI4 hs6
            go_wp2
            go_roundg (ps.length - (j + 1))
            case measure => have := A2.out.1; omega
            case rel => exact ⟨j + 1, a, c, cur, th, by go_num, rfl, rfl, by omega, hcl, ⟨rfl, HA.out⟩, HS7.out⟩
        · have hjl' : ¬ (j : Int) < ps.length := by omega
          have hin := A2.out.2
          rw [List.take_of_length_le (show ps.length ≤ j by omega)] at hin
          have hth : th = (x.f.sure || (ofName x.nm K).any fun p => p.b.isSome) := by rw [← HK.out]; exact hin.th
          have hcu : cur = (ofName x.nm K).foldl lain x.f.safe := by rw [← HK.out]; exact hin.cur
          have HC : Aside (crashed K (x.nm, x.f) = if th then some (x.nm, ⟨cur, cur, true⟩) else none) := (by unfold crashed; rw [← hth, ← hcu] : _ = _)
          haveI := hs.i
          clear hin hth hcu
          cases th with
          | false =>
            go_wp2
            go_roundg (fs.length - (q + 1))
            case measure => have := A.out.1; omega
            case rel =>
              refine ⟨q + 1, out, oa, oc, by go_num, rfl, by omega, by omega, ⟨rfl, ?_⟩, ?_⟩
              · rw [rents_snoc HX.out.1, List.filterMap_append, ← A.out.2]
                simp [HC.out]
              · refine satI_weak (C := rw TB 1 (.slice a cur.length c) (bys cur) * block xb TRF [.string x.nm, .slice x.na x.f.now.length x.nc, .slice x.sa x.f.safe.length x.sc, .bool x.f.sure]) ?_
                rw [← HG.out, HX.out.2]
                unfold rfA
                ac_rfl
          | true =>
            have hs6 : Sat (rw TB 1 (.slice a cur.length c) (bys cur) * (rw TRF 4 (.slice oa out.length oc) (frows out) * (rfsA out * (block xb TRF [.string x.nm, .slice x.na x.f.now.length x.nc, .slice x.sa x.f.safe.length x.sc, .bool x.f.sure] * (coreR W h (.slice (some ⟨g, 0, none⟩) fs.length fc) (.slice pa ps.length pc) * (rw TRF 4 (.slice (some ⟨g, 0, none⟩) fs.length fc) (frows fs) * (rfsA fs * (rw TRP 4 (.slice pa ps.length pc) (qrows ps) * (rpsA ps * (B * F)))))))))) wr := hs.eq (by rw [← HG.out, HX.out.2]; unfold rfA; ac_rfl)
            have HCO2 : Aside (∀ (F : Assn) (w : World), Sat (rw TB 1 (.slice a cur.length c) (bys cur) * F) w → Calls Try.prog 97 #[.slice a cur.length c] w fun e w' => ∃ a' c', e = .returned (.slice a' cur.length c') ∧ Sat (rw TB 1 (.slice a' cur.length c') (bys cur) * (rw TB 1 (.slice a cur.length c) (bys cur) * F)) w') := fun F w h => copy_ref _ cur _ F w Reads.rw h (by omega)
            haveI := hs6.i
            clear hs
            go_upto_region 17 with (fail)
            go_region_held3 (fun w' => w'.cell? ⟨xb, 0, none⟩ = some (.string x.nm)) (first | exact cell_sat _ _ _) (first
              | (go_at_call 97; refine (HCO2.out _ _ (satI : Sat (rw TB 1 (.slice a cur.length c) (bys cur) * (rw TRF 4 _ _ * _)) _)).mono ?_; rintro e w7 ⟨a7, c7, rfl, hs7⟩; haveI := hs7.i)
              | (go_at_call 97; refine (HCO2.out _ _ (takeI (rw TB 1 (.slice a cur.length c) (bys cur)))).mono ?_; rintro e w8 ⟨a8, c8, rfl, hs8⟩; haveI := hs8.i)
              | (refine step_append_sl EF rfl (.tmp 85) (.tmp 93) rfl rfl rfl (takeI (rw TRF 4 (.slice oa out.length oc) (frows out))) (Src.new (b := w8.heap.size) (e := TRF) (s := 4) (vs := [.string x.nm, .slice a7 cur.length c7, .slice a8 cur.length c8, .bool true]) (takeI _) rfl (by intro u hu; simp at hu; rcases hu with rfl | rfl | rfl | rfl <;> rfl)) (by unfold maxLen; omega) (by omega) ?_; intro a9 c9 w9 hs9 hnil; clear hnil; haveI := hs9.i))
            all_goals
              go_wp2
              go_roundg (fs.length - (q + 1))
              case measure => have := A.out.1; omega
              case rel =>
                refine ⟨q + 1, out ++ [⟨x.nm, ⟨cur, cur, true⟩, a7, c7, a8, c8⟩], a9, c9, by go_num, by simp, by omega, by simp; omega, ⟨rfl, ?_⟩, ?_⟩
                · rw [rents_snoc HX.out.1, List.filterMap_append, ← A.out.2]
                  simp [HC.out, rents]
                · refine satI_weak (C := rw TB 1 (.slice a cur.length c) (bys cur) * (block xb TRF [.string x.nm, .slice x.na x.f.now.length x.nc, .slice x.sa x.f.safe.length x.sc, .bool x.f.sure] * block w8.heap.size TRF [.string x.nm, .slice a7 cur.length c7, .slice a8 cur.length c8, .bool true])) ?_
                  have e1 : frows (out ++ [⟨x.nm, ⟨cur, cur, true⟩, a7, c7, a8, c8⟩]) = frows out ++ [.string x.nm, .slice a7 cur.length c7, .slice a8 cur.length c8, .bool true] := by rw [frows_append]; rfl
                  have e2 : rfsA (out ++ [⟨x.nm, ⟨cur, cur, true⟩, a7, c7, a8, c8⟩]) = rfsA out * (rw TB 1 (.slice a7 cur.length c7) (bys cur) * rw TB 1 (.slice a8 cur.length c8) (bys cur)) := by rw [rfsA_append]; show _ * (rfA _ * 1) = _; rw [sep_one]; rfl
                  have e3 : (out ++ [(⟨x.nm, ⟨cur, cur, true⟩, a7, c7, a8, c8⟩ : Rf)]).length = out.length + 1 := by simp
                  rw [e1, e2, e3]
                  ac_rfl
    · have hlt' : ¬ (q : Int) < fs.length := by omega
      have hje : fs.take q = fs := List.take_of_length_le (by omega)
      have hout := A.out.2
      rw [hje] at hout
      have HO : Aside (rents out = (rents fs).filterMap (crashed K)) := hout
      haveI := hs.i
      clear hout hje A
      go_wp2
      go_end0
      have hr := HR.out
      refine ⟨rfl, ref_shut (h := { h with down := false, armed := false }) (fa := oa) (fc := oc) (fs := out) (pa := none) (pc := 0) (ps := []) ⟨hr.room, hr.changes, rfl, rfl, (fun h => by cases h), ?_, ?_, rfl⟩ ?_⟩
      · rw [HO.out]
        show List.Perm _ (d.files.filterMap (crashed (keep picks 0 d.pend)))
        rw [← hr.pend, HK.out]
        exact hr.files.filterMap _
      · have h1 := crashed_names K (rents fs)
        rw [← HO.out] at h1
        have e : ∀ l : List Rf, l.Pairwise (fun x y => less x.nm y.nm = true) ↔ ((rents l).map (·.1)).Pairwise (fun x y => less x y = true) := fun l => by unfold rents; rw [List.map_map, List.pairwise_map]; rfl
        rw [e]
        exact List.Pairwise.sublist h1 ((e fs).1 hr.rising)
      · refine Sat.eq (Sat.rw_nil (e := TRP) (s := 4) (satI_weak (C := rw TRF 4 (.slice fa fs.length fc) (frows fs) * (rfsA fs * (rw TRP 4 (.slice pa ps.length pc) (qrows ps) * rpsA ps))) (B := coreR W { h with down := false, armed := false } (.slice oa out.length oc) (.slice none 0 0) * (rw TRF 4 (.slice oa out.length oc) (frows out) * (rfsA out * (B * F)))) (by ac_rfl))) ?_
        unfold refA
        simp only [qrows, rpsA, List.flatMap_nil, List.length_nil, sep_one]
        ac_rfl

end Go.Proofs.Ytjhkmmpgjiciiaa
