/-
  The reference disk: settled, Lay.
-/
import Derived.Test.YtjhkmmpgjiciiaaRf2
namespace Go.Proofs.Ytjhkmmpgjiciiaa
set_option linter.unusedSimpArgs false
set_option linter.unusedVariables false
open Go.RowKit Go.Sl Go.Dk
attribute [local go_sem ↓] Go.wp_at_zero Go.wp_at_succ
attribute [local go_sem] Go.Sl.cell_sat Go.Sl.frozen_sat

theorem elemRP : ∃ i, ElemOk Try.prog 61 TRP 4 56 i (.agg #[.string ByteArray.empty, .int .i64 0, .slice none 0 0, .bool false]) := elemOk Try.underlying61 (by kernel_rfl) rfl (by omega)
theorem elemRF : ∃ i, ElemOk Try.prog 60 TRF 4 72 i (.agg #[.string ByteArray.empty, .slice none 0 0, .slice none 0 0, .bool false]) := elemOk Try.underlying60 (by kernel_rfl) rfl (by omega)

def othersR (nm : ByteArray) (ps : List Rp) : List Rp := ps.filter fun x => x.p.nm != nm
theorem othersR_pents (nm : ByteArray) (ps : List Rp) : (othersR nm ps).map (·.p) = (ps.map (·.p)).filter fun p => p.nm != nm := by
  simp [othersR, List.filter_map, Function.comp_def]
theorem othersR_snoc (nm : ByteArray) (l : List Rp) (x : Rp) : othersR nm (l ++ [x]) = if x.p.nm != nm then othersR nm l ++ [x] else othersR nm l := by
  unfold othersR
  rw [List.filter_append]
  cases h : (x.p.nm != nm) <;> simp [List.filter_cons, h]
theorem othersR_len (nm : ByteArray) (l : List Rp) : (othersR nm l).length ≤ l.length := List.length_filter_le _ _
theorem rpsA_filter (q : Rp → Bool) (ps : List Rp) : rpsA ps = rpsA (ps.filter q) * rpsA (ps.filter fun x => !q x) := by
  induction ps with
  | nil => simp [rpsA, one_sep]
  | cons n l ih =>
    rw [rpsA, ih]
    cases h : q n
    · simp only [List.filter_cons, h, Bool.not_false, if_true, Bool.false_eq_true, if_false, rpsA]; ac_rfl
    · simp only [List.filter_cons, h, Bool.not_true, if_true, Bool.false_eq_true, if_false, rpsA]; ac_rfl

set_option maxHeartbeats 800000 in
theorem settled_ref (W : Nat) (h : Rh) (fv : Value) (pa : Option Addr) (pc : Nat) (ps : List Rp) (nm : ByteArray) (F : Assn) (w : World) (hs : Sat (coreR W h fv (.slice pa ps.length pc) * (rw TRP 4 (.slice pa ps.length pc) (qrows ps) * F)) w) (hn : ps.length ≤ 1099511627776) :
    Calls Try.prog 103 #[.pointer (some ⟨W, 0, none⟩), .string nm] w fun e w' => ∃ a c, e = .returned (.tuple #[]) ∧ Sat (coreR W h fv (.slice a (othersR nm ps).length c) * (rw TRP 4 (.slice a (othersR nm ps).length c) (qrows (othersR nm ps)) * F)) w' := by
  obtain ⟨i0, E⟩ := elemRP
  haveI := hs.i
  go_enter Try.func103, Try.ntmps103
  go_wp2
  go_loopg [4, 5] ps.length (fun k rest i wr => ∃ (j : Nat) (a : Option Addr) (c : Nat), i = .int .i64 j ∧ j ≤ ps.length ∧ Aside (k = ps.length - j) ∧ rest = .slice a (othersR nm (ps.take j)).length c ∧
    Sat (rw TRP 4 (.slice a (othersR nm (ps.take j)).length c) (qrows (othersR nm (ps.take j))) * (coreR W h fv (.slice pa ps.length pc) * (rw TRP 4 (.slice pa ps.length pc) (qrows ps) * F))) wr)
  case atStart => exact ⟨0, none, 0, rfl, by omega, rfl, rfl, by simpa [othersR, qrows] using hs.rw_nil⟩
  case round =>
    obtain ⟨j, a, c, rfl, hj, A, rfl, hsr⟩ := hrel
    clear hs this
    by_cases hlt : j < ps.length
    · have hlt' : (j : Int) < ps.length := by omega
      obtain ⟨x, hx⟩ : ∃ x, ps[j]? = some x := ⟨ps[j], by simp [hlt]⟩
      obtain ⟨g, rfl⟩ := row_some (hsr.take (rw TRP 4 (.slice pa ps.length pc) (qrows ps))) (by omega)
      obtain ⟨i1, i2, i3, i4⟩ := qrows_at hx
      haveI := hsr.i
      have hl := othersR_len nm (ps.take j)
      have hl2 : (ps.take j).length = j := by simp; omega
      have HS : Aside (othersR nm (ps.take (j + 1)) = if x.p.nm != nm then othersR nm (ps.take j) ++ [x] else othersR nm (ps.take j)) := (by rw [take_snoc' hx, othersR_snoc] : _ = _)
      clear hx
      obtain ⟨rest, hrest⟩ : ∃ r, othersR nm (ps.take j) = r := ⟨_, rfl⟩
      rw [hrest] at hl HS
      rw [hrest] at hsr
      rw [hrest]
      haveI := hsr.i
      by_cases he : x.p.nm = nm
      · have HS2 : Aside (othersR nm (ps.take (j + 1)) = rest) := (by rw [HS.out, bne_bytes, decide_eq_true he]; rfl : _ = _)
        have hd0 := str_eq he
        clear HS he hrest
        go_wp2
        go_roundg (ps.length - (j + 1))
        case measure => have := A.out; omega
        case rel =>
          refine ⟨j + 1, a, c, by go_num, by omega, rfl, by rw [HS2.out], ?_⟩
          rw [HS2.out]
          exact hsr
      · have HS2 : Aside (othersR nm (ps.take (j + 1)) = rest ++ [x]) := (by rw [HS.out, bne_bytes, decide_eq_false he]; rfl : _ = _)
        have hd0 := str_ne he
        clear HS he hrest
        have hs3 := hsr.alloc #[.string x.p.nm, .int .i64 x.p.pos, .slice x.a x.l.length x.c, .bool x.p.b.isNone] TRP
        have hs5 := hs3.take (rw TRP 4 (.slice a rest.length c) (qrows rest))
        have hsrc := Src.new (P := Try.prog) (s := 4) hs3 rfl (by intro u hu; simp at hu; rcases hu with rfl | rfl | rfl | rfl <;> rfl)
        clear hs3
        go_wp2_with (at_builtin; refine wpl_append_same E rfl (.tmp 25) (.tmp 33) rfl rfl rfl hs5 hsrc (by unfold maxLen; omega) (by omega) ?_; intro a' c' w' hs6 hnil; clear hnil hs5 hsrc)
        go_roundg (ps.length - (j + 1))
        case measure => have := A.out; omega
        case rel =>
          refine ⟨j + 1, a', c', by go_num, by omega, rfl, by rw [HS2.out]; simp, ?_⟩
          rw [HS2.out, qrows_append]
          have e1 : qrows [x] = [.string x.p.nm, .int .i64 x.p.pos, .slice x.a x.l.length x.c, .bool x.p.b.isNone] := by simp [qrows, qrow]
          rw [e1]
          simp only [List.length_append, List.length_cons, List.length_nil, Nat.zero_add]
          refine Sat.weak (B := block wr.heap.size TRP [.string x.p.nm, .int .i64 x.p.pos, .slice x.a x.l.length x.c, .bool x.p.b.isNone]) (hs6.eq ?_)
          ac_rfl
    · have hlt' : ¬ (j : Int) < ps.length := by omega
      have hje : ps.take j = ps := List.take_of_length_le (by omega)
      rw [hje] at hsr
      rw [hje]
      haveI := hsr.i
      clear hje
      go_wp2
      go_end0
      exact ⟨rfl, a, c, satI_weak (C := rw TRP 4 (.slice pa ps.length pc) (qrows ps)) (by ac_rfl)⟩

theorem set_at {α : Type} (p t : List α) (z y : α) (k : Nat) (hk : p.length = k) : (p ++ z :: t).set k y = p ++ y :: t := by subst hk; simp
theorem lay_step (base b : List UInt8) (k j : Nat) (y : UInt8) (hb : k + b.length ≤ base.length) (hy : b[j]? = some y) :
    (base.take k ++ b.take j ++ base.drop (k + j)).set (k + j) y = base.take k ++ b.take (j + 1) ++ base.drop (k + (j + 1)) := by
  have hj := (List.getElem?_eq_some_iff.1 hy).1
  have h1 : base.drop (k + j) = base[k + j]'(by omega) :: base.drop (k + j + 1) := List.drop_eq_getElem_cons (by omega)
  rw [h1, set_at _ _ _ _ _ (by simp; omega), take_snoc' hy]
  simp [Nat.add_assoc]
theorem bys_set (l : List UInt8) (k : Nat) (y : UInt8) : (bys l).set k (.int .u8 y.toNat) = bys (l.set k y) := by
  unfold bys; rw [List.map_set]; rfl

set_option maxHeartbeats 800000 in
theorem lay_ref (v x : Value) (into b : List UInt8) (k : Nat) (B F : Assn) (w : World) (h1 : Reads B v into) (h2 : Reads B x b) (hs : Sat (B * F) w) (hl1 : into.length ≤ 35184372088831) (hl2 : k + b.length ≤ 35184372088831) :
    Calls Try.prog 102 #[v, .int .i64 k, x] w fun e w' => ∃ a c, e = .returned (.slice a (laid into k b).length c) ∧ Sat (rw TB 1 (.slice a (laid into k b).length c) (bys (laid into k b)) * (B * F)) w' := by
  obtain ⟨i0, E⟩ := elemB
  obtain ⟨va, vc, rfl, _, _⟩ := (h1 F w hs).len
  obtain ⟨xa, xc, rfl, _, _⟩ := (h2 F w hs).len
  have hco := copy_ref _ into B F w h1 hs (by omega)
  have hpad := laid_pad into k b
  obtain ⟨m, hm⟩ : ∃ m, k + b.length - into.length = m := ⟨_, rfl⟩
  rw [hm] at hpad
  have hln := laid_len into k b
  have HP : Aside (laid into k b = (into ++ List.replicate m 0).take k ++ b ++ (into ++ List.replicate m 0).drop (k + b.length)) := hpad
  have HM : Aside (k + b.length - into.length = m) := hm
  have HL : Aside ((laid into k b).length = into.length + m) := (by rw [hln]; omega : _ = _)
  clear hpad hm hln hs
  go_enter Try.func102, Try.ntmps102
  go_wp2_with fail
  refine hco.mono ?_
  rintro e w1 ⟨a1, c1, rfl, hs1⟩
  clear hco
  go_wp2_with fail
  go_loopg [7] m (fun g t wr => ∃ (j : Nat) (a : Option Addr) (c : Nat), t = .slice a (into.length + j) c ∧ j ≤ m ∧ Aside (g = m - j) ∧ Sat (rw TB 1 (.slice a (into.length + j) c) (bys (into ++ List.replicate j 0)) * (B * F)) wr)
  case atStart => exact ⟨0, a1, c1, rfl, by omega, rfl, by simpa using hs1⟩
  case round =>
    obtain ⟨j, a, c, rfl, hj, A, hsr⟩ := hrel
    clear hs1
    have hmm := HM.out
    by_cases hlt : j < m
    · have hlt' : (into.length : Int) + j < k + b.length := by omega
      have hs4 := hsr.alloc #[.int .u8 0] TB
      have hs5 := hs4.take (rw TB 1 (.slice a (into.length + j) c) (bys (into ++ List.replicate j 0)))
      have hsrc := Src.one_new (P := Try.prog) hs4 rfl
      clear hs4 hmm
      go_wp2_with (at_builtin; refine wpl_append_same E rfl (.tmp 18) (.tmp 19) rfl rfl rfl hs5 hsrc (by unfold maxLen; omega) (by omega) ?_; intro a' c' w' hs6 hnil; clear hnil hs5 hsrc)
      go_roundg (m - (j + 1))
      case measure => have := A.out; omega
      case rel =>
        refine ⟨j + 1, a', c', rfl, by omega, rfl, ?_⟩
        rw [List.replicate_succ', ← List.append_assoc, bys_append]
        refine Sat.weak (B := block wr.heap.size TB [.int .u8 0]) (hs6.eq ?_)
        rw [show bys [0] = [Value.int .u8 0] from rfl]
        ac_rfl
    · have hlt' : ¬ (into.length : Int) + j < k + b.length := by omega
      obtain rfl : j = m := by omega
      obtain ⟨base, hbase⟩ : ∃ l, into ++ List.replicate j (0 : UInt8) = l := ⟨_, rfl⟩
      have hbl : base.length = into.length + j := by rw [← hbase]; simp
      have hbk : k + b.length ≤ base.length := by omega
      have HP2 := HP.out
      rw [hbase] at HP2 hsr
      have HP3 : Aside (laid into k b = base.take k ++ b ++ base.drop (k + b.length)) := HP2
      have HL2 : Aside ((laid into k b).length = base.length) := (by rw [hbl]; exact HL.out : _ = _)
      rw [← hbl] at hsr ⊢
      have hlt2 : ¬ (base.length : Int) < k + b.length := by omega
      clear hmm hlt hlt' hj HP HP2 hbase HL HM hbl
      go_wp2
      go_loopg [8] b.length (fun g t wr => ∃ (q : Nat), t = .int .i64 q ∧ q ≤ b.length ∧ Aside (g = b.length - q) ∧ Sat (rw TB 1 (.slice a base.length c) (bys (base.take k ++ b.take q ++ base.drop (k + q))) * (B * F)) wr)
      case atStart => exact ⟨0, rfl, by omega, rfl, by simpa using hsr⟩
      case round =>
        obtain ⟨q, rfl, hq, A2, hs2⟩ := hrel
        clear hsr
        by_cases hql : q < b.length
        · have hql' : (q : Int) < b.length := by omega
          have hkq : (k : Int) + q < base.length := by omega
          obtain ⟨y, hy⟩ : ∃ y, b[q]? = some y := ⟨b[q], by simp [hql]⟩
          obtain ⟨b', o, rfl, hc⟩ := (h2 _ _ (hs2.take B)).at hy
          obtain ⟨g, rfl⟩ := row_some (hs2.take (rw TB 1 (.slice a base.length c) (bys (base.take k ++ b.take q ++ base.drop (k + q))))) (by omega)
          have HST : Aside ((bys (base.take k ++ b.take q ++ base.drop (k + q))).set (k + q) (.int .u8 y.toNat) = bys (base.take k ++ b.take (q + 1) ++ base.drop (k + (q + 1)))) := (by rw [bys_set, lay_step _ _ _ _ _ hbk hy] : _ = _)
          obtain ⟨cur, hcur⟩ : ∃ l, base.take k ++ b.take q ++ base.drop (k + q) = l := ⟨_, rfl⟩
          have hcl : cur.length = base.length := by rw [← hcur]; simp; omega
          rw [hcur] at hs2 HST
          obtain ⟨z, hz⟩ : ∃ z, (bys cur)[k + q]? = some z := ⟨(bys cur)[k + q]'(by simp [bys]; omega), by simp⟩
          haveI : At (bys cur) (k + q) z := ⟨hz⟩
          haveI := hs2.i
          clear hcur hz hy hcl
          go_wp2
          go_roundg (b.length - (q + 1))
          case measure => have := A2.out; omega
          case rel =>
            refine ⟨q + 1, by go_num, by omega, rfl, ?_⟩
            rw [← HST.out]
            exact satI
        · have hql' : ¬ (q : Int) < b.length := by omega
          obtain rfl : q = b.length := by omega
          have e : base.take k ++ b.take b.length ++ base.drop (k + b.length) = laid into k b := by rw [HP3.out, List.take_of_length_le (Nat.le_refl _)]
          rw [e] at hs2
          clear e hql hq
          go_wp2
          go_ret
          refine ⟨a, c, by rw [HL2.out]; rfl, ?_⟩
          rw [HL2.out]
          exact hs2

end Go.Proofs.Ytjhkmmpgjiciiaa
