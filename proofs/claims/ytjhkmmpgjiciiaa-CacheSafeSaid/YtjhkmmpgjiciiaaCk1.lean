/-
  The cache's memory; walks of dirty, write.
-/
import Derived.Test.YtjhkmmpgjiciiaaCk0
import Derived.Test.YtjhkmmpgjiciiaaSlb
import Derived.Test.YtjhkmmpgjiciiaaDk12
import Derived.Test.YtjhkmmpgjiciiaaLru6
import Derived.Deep.DrawnRows
import Derived.Deep.RegionHeld3
import Derived.Deep.DeepCutAuto
import Derived.IntWalk
namespace Go.Proofs.Ytjhkmmpgjiciiaa
set_option linter.unusedSimpArgs false
set_option linter.unusedVariables false
open Go.RowKit Go.Sl Go.Dk
open Go.Lru (ikey)
attribute [local go_sem ↓] Go.wp_at_zero Go.wp_at_succ
attribute [local go_sem] Go.Sl.cell_sat Go.Sl.frozen_sat

abbrev TC : TypeId := 143
abbrev TPM : TypeId := 141

structure Pg where
  key : Int
  v : Value
  b : List UInt8
def kvP (p : Pg) : Int × Value := (p.key, p.v)
def pagesA : List Pg → Assn
  | [] => 1
  | p :: l => rw TB 1 p.v (bys p.b) * pagesA l
def pgents (ps : List Pg) : Pgs := ps.map fun p => (p.key, p.b)

def coreC (C L D PM : Nat) (s : Ck) : Assn :=
  hdr C TC 6 * (Sl.cell C 0 (.pointer (some ⟨L, 0, none⟩)) * (Sl.cell C 1 (.pointer (some ⟨D, 0, none⟩)) * (Sl.cell C 2 (.string s.nm) * (Sl.cell C 3 (.int .i64 s.cap) * (Sl.cell C 4 (.map (some PM)) * Sl.cell C 5 (.int .i64 s.reads))))))

section
variable (C L D PM : Nat) (s : Ck)
instance : HasC (coreC C L D PM s) C 0 (.pointer (some ⟨L, 0, none⟩)) := by unfold coreC; infer_instance
instance : HasC (coreC C L D PM s) C 1 (.pointer (some ⟨D, 0, none⟩)) := by unfold coreC; infer_instance
instance : HasC (coreC C L D PM s) C 2 (.string s.nm) := by unfold coreC; infer_instance
instance : HasC (coreC C L D PM s) C 3 (.int .i64 s.cap) := by unfold coreC; infer_instance
instance : HasC (coreC C L D PM s) C 4 (.map (some PM)) := by unfold coreC; infer_instance
instance : HasC (coreC C L D PM s) C 5 (.int .i64 s.reads) := by unfold coreC; infer_instance
instance (n : Int) : Upd (coreC C L D PM s) C 5 (.int .i64 n) (coreC C L D PM { s with reads := n }) := by unfold coreC; infer_instance
end

def cacheA (C L D PM : Nat) (ps : List Pg) (s : Ck) : Assn := coreC C L D PM s * (lruI L s.cap s.its * (diskP D s.d * (mp ikey PM (ps.map kvP) * pagesA ps)))
def cacheP (C D : Nat) (s : Ck) : Assn := ex fun x : Nat × Nat × List Pg => pur (pgents x.2.2 = s.pgs) * cacheA C x.1 D x.2.1 x.2.2 s

theorem Sat.cache_open {C D : Nat} {s : Ck} {F : Assn} {w : World} (hs : Sat (cacheP C D s * F) w) : ∃ L PM ps, pgents ps = s.pgs ∧ Sat (cacheA C L D PM ps s * F) w := by
  obtain ⟨⟨L, PM, ps⟩, h⟩ := hs.ex_open
  rw [sep_assoc] at h
  obtain ⟨h1, h3⟩ := h.pur_open
  exact ⟨L, PM, ps, h1, h3⟩
theorem Sat.cache_shut {C D L PM : Nat} {ps : List Pg} {s : Ck} {F : Assn} {w : World} (h1 : pgents ps = s.pgs) (hs : Sat (cacheA C L D PM ps s * F) w) : Sat (cacheP C D s * F) w := by
  refine Sat.ex_shut (L, PM, ps) ?_
  rw [sep_assoc]
  exact Sat.pur_shut h1 hs

theorem pagesA_append (l1 l2 : List Pg) : pagesA (l1 ++ l2) = pagesA l1 * pagesA l2 := by
  induction l1 with
  | nil => simp [pagesA, one_sep]
  | cons n l ih => simp [pagesA, ih, sep_assoc]

theorem pg_cases (ps : List Pg) (k : Int) : (∃ l1 p l2, ps = l1 ++ p :: l2 ∧ p.key = k ∧ ∀ m ∈ l1, m.key ≠ k) ∨ ∀ p ∈ ps, p.key ≠ k := by
  induction ps with
  | nil => exact .inr (by simp)
  | cons m l ih =>
    by_cases hk : m.key = k
    · exact .inl ⟨[], m, l, rfl, hk, by simp⟩
    · rcases ih with ⟨l1, n, l2, rfl, h1, h2⟩ | h
      · exact .inl ⟨m :: l1, n, l2, rfl, h1, fun x hx => by rcases List.mem_cons.1 hx with rfl | hx; exact hk; exact h2 x hx⟩
      · exact .inr fun x hx => by rcases List.mem_cons.1 hx with rfl | hx; exact hk; exact h x hx

theorem pg_none {ps : List Pg} {k : Int} (h : ∀ p ∈ ps, p.key ≠ k) : pget k (pgents ps) = none ∧ mget k (ps.map kvP) = none ∧ (∀ b, pput k b (pgents ps) = pgents ps ++ [(k, b)]) ∧ (∀ v, mput k v (ps.map kvP) = ps.map kvP ++ [(k, v)]) := by
  induction ps with
  | nil => exact ⟨rfl, rfl, fun _ => rfl, fun _ => rfl⟩
  | cons n l ih =>
    have hn : ¬ k = n.key := fun e => h n (by simp) e.symm
    obtain ⟨h1, h2, h3, h4⟩ := ih fun m hm => h m (by simp [hm])
    refine ⟨?_, ?_, fun b => ?_, fun v => ?_⟩
    · show (if k = n.key then _ else _) = _; rw [if_neg hn]; exact h1
    · show (if k = n.key then _ else _) = _; rw [if_neg hn]; exact h2
    · show (if k = n.key then _ else _) = _; rw [if_neg hn]; show _ :: pput k b (pgents l) = _; rw [h3]; rfl
    · show (if k = n.key then _ else _) = _; rw [if_neg hn]; show _ :: mput k v (l.map kvP) = _; rw [h4]; rfl
theorem pg_found {l1 : List Pg} {p : Pg} {l2 : List Pg} (h : ∀ m ∈ l1, m.key ≠ p.key) : pget p.key (pgents (l1 ++ p :: l2)) = some p.b ∧ mget p.key ((l1 ++ p :: l2).map kvP) = some p.v ∧
    (∀ b, pput p.key b (pgents (l1 ++ p :: l2)) = pgents (l1 ++ { p with b := b } :: l2)) ∧ pdel p.key (pgents (l1 ++ p :: l2)) = pgents (l1 ++ l2) ∧ mdel p.key ((l1 ++ p :: l2).map kvP) = (l1 ++ l2).map kvP := by
  induction l1 with
  | nil => simp [pgents, pget, mget, kvP, pput, pdel, mdel]
  | cons n l ih =>
    have hn : ¬ p.key = n.key := fun e => h n (by simp) e.symm
    obtain ⟨h1, h2, h3, h4, h5⟩ := ih fun m hm => h m (by simp [hm])
    refine ⟨?_, ?_, fun b => ?_, ?_, ?_⟩
    · show (if p.key = n.key then _ else _) = _; rw [if_neg hn]; exact h1
    · show (if p.key = n.key then _ else _) = _; rw [if_neg hn]; exact h2
    · show (if p.key = n.key then _ else _) = _; rw [if_neg hn]; show _ :: pput p.key b (pgents (l ++ p :: l2)) = _; rw [h3]; rfl
    · show (if p.key = n.key then _ else _) = _; rw [if_neg hn]; show _ :: pdel p.key (pgents (l ++ p :: l2)) = _; rw [h4]; rfl
    · show (if p.key = n.key then _ else _) = _; rw [if_neg hn]; show _ :: mdel p.key ((l ++ p :: l2).map kvP) = _; rw [h5]; rfl

instance mapPM : MapT Try.prog TPM Int ikey (.slice none 0 0) := ⟨3, 45, keyOk3, Try.underlying141, fun w => by kernel_rfl⟩
theorem look_PM (w : World) (M : Nat) (k : Int) {A : Assn} {ms : List (Int × Value)} [h : SatI A w] [h2 : HasM A M ikey ms] : (Instr.lookup TPM (.map (some M)) (.int .i64 k) false).run Try.prog w = .ok ((mget k ms).getD (.slice none 0 0)) w := lookup_run mapPM w M k
theorem len_PM (w : World) (M : Nat) (ty : TypeId) {A : Assn} {ms : List (Int × Value)} [h : SatI A w] [h2 : HasM A M ikey ms] : (Builtin.len_ #[TPM] ty #[.map (some M)]).run Try.prog w = .ok (.int .i64 ms.length) w := len_run mapPM w M ty
theorem put_PM (w : World) (M : Nat) (k : Int) (v : Value) {A : Assn} {ms : List (Int × Value)} [h : SatI A w] [h2 : HasM A M ikey ms] : (Instr.mapUpdate TPM (.map (some M)) (.int .i64 k) v).run Try.prog w = .ok () (putW Try.prog TPM M (ikey k) v w) := put_run mapPM w M k v
theorem del_PM (w : World) (M : Nat) (k : Int) (kt' ty : TypeId) {A : Assn} {ms : List (Int × Value)} [h : SatI A w] [h2 : HasM A M ikey ms] : (Builtin.delete_ #[TPM, kt'] ty #[.map (some M), .int .i64 k]).run Try.prog w = .ok (.tuple #[]) (delW Try.prog TPM M (ikey k) w) := del_run mapPM w M k kt' ty
instance {w : World} {M : Nat} {k : Int} {v : Value} {A A' : Assn} {ms : List (Int × Value)} [h : SatI A w] [h2 : HasM A M ikey ms] [h3 : UpdM A M ikey (mput k v ms) A'] : SatI A' (putW Try.prog TPM M (ikey k) v w) := put_sat mapPM
instance {w : World} {M : Nat} {k : Int} {A A' : Assn} {ms : List (Int × Value)} [h : SatI A w] [h2 : HasM A M ikey ms] [h3 : UpdM A M ikey (mdel k ms) A'] : SatI A' (delW Try.prog TPM M (ikey k) w) := del_sat mapPM

def hasZ (l : List Int) (k : Int) : Bool := l.contains k

set_option maxHeartbeats 400000 in
theorem dirty_go (C L D PM : Nat) (s : Ck) (no : Int) (F : Assn) (w : World) (hs : Sat (coreC C L D PM s * (lruI L s.cap s.its * F)) w) (ok : LruOk s.its) :
    Calls Try.prog 109 #[.pointer (some ⟨C, 0, none⟩), .int .i64 no] w fun e w' => e = .returned (.bool (s.dirty no)) ∧ Sat (coreC C L D PM s * (lruI L s.cap s.its * F)) w' := by
  have hmk := markedH L s.cap s.its _ w (hs.take (lruI L s.cap s.its)) ok
  obtain ⟨r, HR⟩ : ∃ r, Aside (s.dirty no = r) := ⟨_, rfl⟩
  rw [HR.out]
  have HD : Aside (r = hasZ (markedI s.its) no) := HR.out.symm
  clear HR
  obtain ⟨zs, hzs⟩ : ∃ zs, markedI s.its = zs := ⟨_, rfl⟩
  rw [hzs] at hmk HD
  clear hzs
  haveI := hs.i
  go_enter Try.func109, Try.ntmps109
  go_wp2_with fail
  refine hmk.mono ?_
  rintro e w1 ⟨a, n, c, rfl, hs1⟩
  have hn : n = zs.length := by have := hs1.rw_len; simpa using this
  subst hn
  have hI := Ints.of_rw hs1
  have hs2 : Sat (coreC C L D PM s * (lruI L s.cap s.its * F)) w1 := hs1.right.eq (by ac_rfl)
  have hc := rw_v hs1
  have hzl : zs.length ≤ 9223372036854775807 := by
    obtain ⟨_, _, _, h1, h2, h3, h4⟩ := hc
    cases h1; omega
  clear hmk hs hc hs1
  go_wp2_with fail
  go_loopg [13] zs.length (fun k i wr => ∃ (j : Nat), i = .int .i64 j ∧ j ≤ zs.length ∧ Aside (k = zs.length - j ∧ ∀ i z, i < j → zs[i]? = some z → z ≠ no) ∧ w1 = wr)
  case atStart => exact ⟨0, rfl, by omega, ⟨rfl, by omega⟩, rfl⟩
  case round =>
    obtain ⟨j, rfl, hj, A, rfl⟩ := hrel
    by_cases hlt : j < zs.length
    · have hlt' : (j : Int) < zs.length := by omega
      obtain ⟨z, hz⟩ : ∃ z, zs[j]? = some z := ⟨zs[j], by simp [hlt]⟩
      obtain ⟨b, o, rfl, hc⟩ := hI.at hz
      have HZ : Aside (zs[j]? = some z) := hz
      clear hI hz
      by_cases he : z = no
      · subst he
        have HF : Aside (r = true) := by
          show r = true
          rw [HD.out]; unfold hasZ
          simp only [List.contains_iff_mem]
          exact List.mem_of_getElem? HZ.out
        go_wp2
        go_ret
        exact ⟨by rw [HF.out]; rfl, hs2⟩
      · have he2 : (z == no) = false := by simpa using he
        have HE : Aside (z ≠ no) := he
        clear he
        go_wp2
        go_roundg (zs.length - (j + 1))
        case measure => have := A.out.1; omega
        case rel =>
          refine ⟨j + 1, by go_num, by omega, ⟨rfl, fun i z' h1 h2 => ?_⟩, rfl⟩
          by_cases hij : i = j
          · subst hij; rw [HZ.out] at h2; cases h2; exact HE.out
          · exact A.out.2 i z' (by omega) h2
    · have hlt' : ¬ (j : Int) < zs.length := by omega
      have HF : Aside (r = false) := by
        show r = false
        rw [HD.out]; unfold hasZ
        rw [Bool.eq_false_iff]
        intro h
        have h := List.contains_iff_mem.1 h
        obtain ⟨i, hi⟩ := List.mem_iff_getElem?.1 h
        exact A.out.2 i no (by have := (List.getElem?_eq_some_iff.1 hi).1; omega) hi rfl
      clear A
      go_wp2
      go_ret
      exact ⟨by rw [HF.out]; rfl, hs2⟩

end Go.Proofs.Ytjhkmmpgjiciiaa
