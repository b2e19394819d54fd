/-
  Versions are found sound just if they are in the words of the document. No condition. (part 11)
-/
import Derived.Test.YtfhbmblbidcmmaaGreatWa9
import Derived.Test.YtfhbmblbidcmmaaGreatWa1
import Derived.Test.YtfhbmblbidcmmaaGreatWa10
import Derived.Test.YtfhbmblbidcmmaaGreatWa4
import Derived.Deep.DrawnRows
import Derived.Deep.RegionHeld3
import Derived.Deep.DeepCutAuto
import Derived.IntWalk
import Derived.Laws.MakeOwn
set_option linter.unusedSimpArgs false
set_option linter.unusedVariables false
namespace Go.Proofs.YtfhbmblbidcmmaaGreat
set_option linter.unusedSimpArgs false
set_option linter.unusedVariables false
open Go.RowKit Go.Sl Go.Dk
open Go.Lru (ikey)
attribute [local go_sem ↓] Go.wp_at_zero Go.wp_at_succ
attribute [local go_sem] Go.Sl.cell_sat Go.Sl.frozen_sat
abbrev TC : TypeId := 203
abbrev TPM : TypeId := 201
structure Pg where
 key : Int
 v : Value
 b : List UInt8
def kvP (p : Pg) : Int × Value := (p.key, p.v)
def pagesA : List Pg → Assn
 | [] => 1
 | p :: l => rw TB 1 p.v (bys p.b) * pagesA l
def pgents (ps : List Pg) : Pgs := ps.map fun p => (p.key, p.b)
def coreC (C L D PM : Nat) (s : Ck) : Assn :=
 hdr C TC 6 * (Sl.cell C 0 (.pointer (some ⟨L, 0, none⟩)) * (Sl.cell C 1 (.pointer (some ⟨D, 0, none⟩)) * (Sl.cell C 2 (.string s.nm) * (Sl.cell C 3 (.int .i64 s.cap) * (Sl.cell C 4 (.map (some PM)) * Sl.cell C 5 (.int .i64 s.reads))))))
section
variable (C L D PM : Nat) (s : Ck)
instance : HasC (coreC C L D PM s) C 0 (.pointer (some ⟨L, 0, none⟩)) := by unfold coreC; infer_instance
instance : HasC (coreC C L D PM s) C 1 (.pointer (some ⟨D, 0, none⟩)) := by unfold coreC; infer_instance
instance : HasC (coreC C L D PM s) C 2 (.string s.nm) := by unfold coreC; infer_instance
instance : HasC (coreC C L D PM s) C 3 (.int .i64 s.cap) := by unfold coreC; infer_instance
instance : HasC (coreC C L D PM s) C 4 (.map (some PM)) := by unfold coreC; infer_instance
instance : HasC (coreC C L D PM s) C 5 (.int .i64 s.reads) := by unfold coreC; infer_instance
instance (n : Int) : Upd (coreC C L D PM s) C 5 (.int .i64 n) (coreC C L D PM { s with reads := n }) := by unfold coreC; infer_instance
end
def cacheA (C L D PM : Nat) (ps : List Pg) (s : Ck) : Assn := coreC C L D PM s * (lruI L s.cap s.its * (diskP D s.d * (mp ikey PM (ps.map kvP) * pagesA ps)))
def cacheP (C D : Nat) (s : Ck) : Assn := ex fun x : Nat × Nat × List Pg => pur (pgents x.2.2 = s.pgs) * cacheA C x.1 D x.2.1 x.2.2 s
theorem Sat.cache_open {C D : Nat} {s : Ck} {F : Assn} {w : World} (hs : Sat (cacheP C D s * F) w) : ∃ L PM ps, pgents ps = s.pgs ∧ Sat (cacheA C L D PM ps s * F) w := by
 obtain ⟨⟨L, PM, ps⟩, h⟩ := hs.ex_open
 rw [sep_assoc] at h
 obtain ⟨h1, h3⟩ := h.pur_open
 exact ⟨L, PM, ps, h1, h3⟩
theorem Sat.cache_shut {C D L PM : Nat} {ps : List Pg} {s : Ck} {F : Assn} {w : World} (h1 : pgents ps = s.pgs) (hs : Sat (cacheA C L D PM ps s * F) w) : Sat (cacheP C D s * F) w := by
 refine Sat.ex_shut (L, PM, ps) ?_
 rw [sep_assoc]
 exact Sat.pur_shut h1 hs
theorem pagesA_append (l1 l2 : List Pg) : pagesA (l1 ++ l2) = pagesA l1 * pagesA l2 := by
 induction l1 with
 | nil => simp [pagesA, one_sep]
 | cons n l ih => simp [pagesA, ih, sep_assoc]
theorem pg_cases (ps : List Pg) (k : Int) : (∃ l1 p l2, ps = l1 ++ p :: l2 ∧ p.key = k ∧ ∀ m ∈ l1, m.key ≠ k) ∨ ∀ p ∈ ps, p.key ≠ k := by
 induction ps with
 | nil => exact .inr (by simp)
 | cons m l ih =>
   by_cases hk : m.key = k
   · exact .inl ⟨[], m, l, rfl, hk, by simp⟩
   · rcases ih with ⟨l1, n, l2, rfl, h1, h2⟩ | h
     · exact .inl ⟨m :: l1, n, l2, rfl, h1, fun x hx => by rcases List.mem_cons.1 hx with rfl | hx; exact hk; exact h2 x hx⟩
     · exact .inr fun x hx => by rcases List.mem_cons.1 hx with rfl | hx; exact hk; exact h x hx
theorem pg_none {ps : List Pg} {k : Int} (h : ∀ p ∈ ps, p.key ≠ k) : pget k (pgents ps) = none ∧ mget k (ps.map kvP) = none ∧ (∀ b, pput k b (pgents ps) = pgents ps ++ [(k, b)]) ∧ (∀ v, mput k v (ps.map kvP) = ps.map kvP ++ [(k, v)]) := by
 induction ps with
 | nil => exact ⟨rfl, rfl, fun _ => rfl, fun _ => rfl⟩
 | cons n l ih =>
   have hn : ¬ k = n.key := fun e => h n (by simp) e.symm
   obtain ⟨h1, h2, h3, h4⟩ := ih fun m hm => h m (by simp [hm])
   refine ⟨?_, ?_, fun b => ?_, fun v => ?_⟩
   · show (if k = n.key then _ else _) = _; rw [if_neg hn]; exact h1
   · show (if k = n.key then _ else _) = _; rw [if_neg hn]; exact h2
   · show (if k = n.key then _ else _) = _; rw [if_neg hn]; show _ :: pput k b (pgents l) = _; rw [h3]; rfl
   · show (if k = n.key then _ else _) = _; rw [if_neg hn]; show _ :: mput k v (l.map kvP) = _; rw [h4]; rfl
theorem pg_found {l1 : List Pg} {p : Pg} {l2 : List Pg} (h : ∀ m ∈ l1, m.key ≠ p.key) : pget p.key (pgents (l1 ++ p :: l2)) = some p.b ∧ mget p.key ((l1 ++ p :: l2).map kvP) = some p.v ∧
 (∀ b, pput p.key b (pgents (l1 ++ p :: l2)) = pgents (l1 ++ { p with b := b } :: l2)) ∧ pdel p.key (pgents (l1 ++ p :: l2)) = pgents (l1 ++ l2) ∧ mdel p.key ((l1 ++ p :: l2).map kvP) = (l1 ++ l2).map kvP := by
 induction l1 with
 | nil => simp [pgents, pget, mget, kvP, pput, pdel, mdel]
 | cons n l ih =>
   have hn : ¬ p.key = n.key := fun e => h n (by simp) e.symm
   obtain ⟨h1, h2, h3, h4, h5⟩ := ih fun m hm => h m (by simp [hm])
   refine ⟨?_, ?_, fun b => ?_, ?_, ?_⟩
   · show (if p.key = n.key then _ else _) = _; rw [if_neg hn]; exact h1
   · show (if p.key = n.key then _ else _) = _; rw [if_neg hn]; exact h2
   · show (if p.key = n.key then _ else _) = _; rw [if_neg hn]; show _ :: pput p.key b (pgents (l ++ p :: l2)) = _; rw [h3]; rfl
   · show (if p.key = n.key then _ else _) = _; rw [if_neg hn]; show _ :: pdel p.key (pgents (l ++ p :: l2)) = _; rw [h4]; rfl
   · show (if p.key = n.key then _ else _) = _; rw [if_neg hn]; show _ :: mdel p.key ((l ++ p :: l2).map kvP) = _; rw [h5]; rfl
instance mapPM : MapT Tryz.prog TPM Int ikey (.slice none 0 0) := ⟨3, 26, keyOk3, Tryz.underlying201, fun w => by kernel_rfl⟩
theorem look_PM (w : World) (M : Nat) (k : Int) {A : Assn} {ms : List (Int × Value)} [h : SatI A w] [h2 : HasM A M ikey ms] : (Instr.lookup TPM (.map (some M)) (.int .i64 k) false).run Tryz.prog w = .ok ((mget k ms).getD (.slice none 0 0)) w := lookup_run mapPM w M k
theorem len_PM (w : World) (M : Nat) (ty : TypeId) {A : Assn} {ms : List (Int × Value)} [h : SatI A w] [h2 : HasM A M ikey ms] : (Builtin.len_ #[TPM] ty #[.map (some M)]).run Tryz.prog w = .ok (.int .i64 ms.length) w := len_run mapPM w M ty
theorem put_PM (w : World) (M : Nat) (k : Int) (v : Value) {A : Assn} {ms : List (Int × Value)} [h : SatI A w] [h2 : HasM A M ikey ms] : (Instr.mapUpdate TPM (.map (some M)) (.int .i64 k) v).run Tryz.prog w = .ok () (putW Tryz.prog TPM M (ikey k) v w) := put_run mapPM w M k v
theorem del_PM (w : World) (M : Nat) (k : Int) (kt' ty : TypeId) {A : Assn} {ms : List (Int × Value)} [h : SatI A w] [h2 : HasM A M ikey ms] : (Builtin.delete_ #[TPM, kt'] ty #[.map (some M), .int .i64 k]).run Tryz.prog w = .ok (.tuple #[]) (delW Tryz.prog TPM M (ikey k) w) := del_run mapPM w M k kt' ty
instance {w : World} {M : Nat} {k : Int} {v : Value} {A A' : Assn} {ms : List (Int × Value)} [h : SatI A w] [h2 : HasM A M ikey ms] [h3 : UpdM A M ikey (mput k v ms) A'] : SatI A' (putW Tryz.prog TPM M (ikey k) v w) := put_sat mapPM
instance {w : World} {M : Nat} {k : Int} {A A' : Assn} {ms : List (Int × Value)} [h : SatI A w] [h2 : HasM A M ikey ms] [h3 : UpdM A M ikey (mdel k ms) A'] : SatI A' (delW Tryz.prog TPM M (ikey k) w) := del_sat mapPM
def hasZ (l : List Int) (k : Int) : Bool := l.contains k
set_option maxHeartbeats 400000 in
theorem dirty_go (C L D PM : Nat) (s : Ck) (no : Int) (F : Assn) (w : World) (hs : Sat (coreC C L D PM s * (lruI L s.cap s.its * F)) w) (ok : LruOk s.its) :
 Calls Tryz.prog 146 #[.pointer (some ⟨C, 0, none⟩), .int .i64 no] w fun e w' => e = .returned (.bool (s.dirty no)) ∧ Sat (coreC C L D PM s * (lruI L s.cap s.its * F)) w' := by
 have hmk := markedH L s.cap s.its _ w (hs.take (lruI L s.cap s.its)) ok
 obtain ⟨r, HR⟩ : ∃ r, Aside (s.dirty no = r) := ⟨_, rfl⟩
 rw [HR.out]
 have HD : Aside (r = hasZ (markedI s.its) no) := HR.out.symm
 clear HR
 obtain ⟨zs, hzs⟩ : ∃ zs, markedI s.its = zs := ⟨_, rfl⟩
 rw [hzs] at hmk HD
 clear hzs
 haveI := hs.i
 go_enter Tryz.func146, Tryz.ntmps146
 go_wp2_with fail
 refine hmk.mono ?_
 rintro e w1 ⟨a, n, c, rfl, hs1⟩
 have hn : n = zs.length := by have := hs1.rw_len; simpa using this
 subst hn
 have hI := Ints.of_rw hs1
 have hs2 : Sat (coreC C L D PM s * (lruI L s.cap s.its * F)) w1 := hs1.right.eq (by ac_rfl)
 have hc := rw_v hs1
 have hzl : zs.length ≤ 9223372036854775807 := by
  obtain ⟨_, _, _, h1, h2, h3, h4⟩ := hc
  cases h1; omega
 clear hmk hs hc hs1
 go_wp2_with fail
 go_loopg [13] zs.length (fun k i wr => ∃ (j : Nat), i = .int .i64 j ∧ j ≤ zs.length ∧ Aside (k = zs.length - j ∧ ∀ i z, i < j → zs[i]? = some z → z ≠ no) ∧ w1 = wr)
 case atStart => exact ⟨0, rfl, by omega, ⟨rfl, by omega⟩, rfl⟩
 case round =>
  obtain ⟨j, rfl, hj, A, rfl⟩ := hrel
  by_cases hlt : j < zs.length
  · have hlt' : (j : Int) < zs.length := by omega
    obtain ⟨z, hz⟩ : ∃ z, zs[j]? = some z := ⟨zs[j], by simp [hlt]⟩
    obtain ⟨b, o, rfl, hc⟩ := hI.at hz
    have HZ : Aside (zs[j]? = some z) := hz
    clear hI hz
    by_cases he : z = no
    · subst he
      have HF : Aside (r = true) := by
       show r = true
       rw [HD.out]; unfold hasZ
       simp only [List.contains_iff_mem]
       exact List.mem_of_getElem? HZ.out
      go_wp2
      go_ret
      exact ⟨by rw [HF.out]; rfl, hs2⟩
    · have he2 : (z == no) = false := by simpa using he
      have HE : Aside (z ≠ no) := he
      clear he
      go_wp2
      go_roundg (zs.length - (j + 1))
      case measure => have := A.out.1; omega
      case rel =>
       refine ⟨j + 1, by go_num, by omega, ⟨rfl, fun i z' h1 h2 => ?_⟩, rfl⟩
       by_cases hij : i = j
       · subst hij; rw [HZ.out] at h2; cases h2; exact HE.out
       · exact A.out.2 i z' (by omega) h2
  · have hlt' : ¬ (j : Int) < zs.length := by omega
    have HF : Aside (r = false) := by
     show r = false
     rw [HD.out]; unfold hasZ
     rw [Bool.eq_false_iff]
     intro h
     have h := List.contains_iff_mem.1 h
     obtain ⟨i, hi⟩ := List.mem_iff_getElem?.1 h
     exact A.out.2 i no (by have := (List.getElem?_eq_some_iff.1 hi).1; omega) hi rfl
    clear A
    go_wp2
    go_ret
    exact ⟨by rw [HF.out]; rfl, hs2⟩
end Go.Proofs.YtfhbmblbidcmmaaGreat
namespace Go.Proofs.YtfhbmblbidcmmaaGreat
set_option linter.unusedSimpArgs false
set_option linter.unusedVariables false
open Go.RowKit Go.Sl Go.Dk
open Go.Lru (ikey)
attribute [local go_sem ↓] Go.wp_at_zero Go.wp_at_succ
attribute [local go_sem] Go.Sl.cell_sat Go.Sl.frozen_sat look_PM len_PM put_PM del_PM
theorem made_bytes (n : Nat) : madeCells (Value.int .u8 0).cells n = (bys (List.replicate n 0)).toArray := by
 apply Array.ext
 · simp [madeCells, bys]
 · intro i h1 h2
   have e : (Value.int .u8 0).cells = #[Value.int .u8 0] := rfl
   simp [madeCells, bys, bv, e, Nat.mod_one]
theorem mk_bytes (n : Nat) (hn : n ≤ 1099511627776) (w : World) : (Instr.makeSlice 26 (.int .i64 n) (.int .i64 n)).run Tryz.prog w = .ok (.slice (some ⟨w.heap.size, 0, none⟩) n n) (w.alloc (.cells (bys (List.replicate n 0)).toArray TB)) := by
 obtain ⟨i, E⟩ := elemB
 have h := run_make (P := Tryz.prog) w 26 TB i (.int .u8 0) E.und E.info E.zero .i64 .i64 n n (by omega) (by omega) (by rw [E.bytes]; omega) (by omega)
 rw [E.size, Nat.mul_one, Int.toNat_natCast, made_bytes] at h
 exact h
theorem sortI_mem (l : List Int) (x : Int) : x ∈ sortI l ↔ x ∈ l := (List.mergeSort_perm l _).mem_iff
theorem named_size {s : ByteArray} (h : Dk.named s = true) : s.size ≤ 9223372036854775807 := by
 rcases Nat.lt_or_ge 16 s.size with h1 | h1
 · rw [named_short (.inr h1)] at h; cases h
 · omega
theorem dirty_has {s : Ck} {no : Int} (h : s.dirty no = true) : hasI s.its no = true := by
 unfold Ck.dirty at h
 have h1 := List.contains_iff_mem.1 h
 unfold markedI at h1
 have h2 := (sortI_mem _ _).1 h1
 obtain ⟨n, h3, rfl⟩ := List.mem_map.1 h2
 unfold hasI
 rw [List.any_eq_true]
 exact ⟨n, (List.mem_filter.1 h3).1, by simp⟩
theorem size_nat {m : Nat} {d : Dk} (ok : Ok m d) (nm : ByteArray) : ∃ sz : Nat, max 0 (d.size nm) = sz ∧ sz ≤ 1099511627776 ∧ d.size nm ≤ sz ∧ -1 ≤ d.size nm := by
 unfold Dk.size
 split
 · exact ⟨0, by omega, by omega, by omega, by omega⟩
 · refine ⟨((d.get nm).getD Dk.fl0).now.length, by omega, ?_, by omega, by omega⟩
   cases h : d.get nm with
   | none => simp [Dk.fl0]
   | some f =>
     have : (nm, f) ∈ d.files := by
      unfold Dk.get at h
      generalize d.files = l at h
      induction l with
      | nil => simp [fget] at h
      | cons p l ih =>
        unfold fget at h
        split at h
        · cases h; subst nm; simp
        · exact List.mem_cons_of_mem _ (ih h)
     exact (ok.sz _ this).1
set_option maxRecDepth 100000 in
set_option maxHeartbeats 1000000 in
theorem write_go (C L D PM : Nat) (ps : List Pg) (s : Ck) (m : Nat) (no : Int) (F : Assn) (w : World) (hs : Sat (cacheA C L D PM ps s * F) w) (hp : pgents ps = s.pgs) (ok : CkOk m s) (hm : m ≤ 549755813888) (h0 : 0 ≤ no) (h1 : no < 1048576) :
 Calls Tryz.prog 101 #[.pointer (some ⟨C, 0, none⟩), .int .i64 no] w fun e w' => e = .returned (.int .i64 (s.write no).1) ∧ Sat (cacheA C L D PM ps (s.write no).2 * F) w' := by
 unfold cacheA at hs
 have hdy := dirty_go C L D PM s no _ w (hs.take2 (coreC C L D PM s) (lruI L s.cap s.its)) ok.lru
 cases hd : s.dirty no with
 | false =>
   have e : s.write no = (0, s) := by unfold Ck.write; rw [if_pos hd]
   rw [e]
   rw [hd] at hdy
   clear e
   go_enter Tryz.func101, Tryz.ntmps101
   go_wp2_with fail
   refine hdy.mono ?_
   rintro e w1 ⟨rfl, hs1⟩
   go_wp2
   go_ret
   exact ⟨rfl, hs1.eq (by unfold cacheA; ac_rfl)⟩
 | true =>
   rw [hd] at hdy
   have hh := dirty_has hd
   rw [ok.same, ← hp] at hh
   rcases pg_cases ps no with ⟨l1, p, l2, rfl, rfl, hl1⟩ | hno
   · obtain ⟨sz, hsz1, hsz2, hsz3, hsz4⟩ := size_nat ok.dk s.nm
     obtain ⟨q1, q2, _⟩ := pg_found (l2 := l2) hl1
     rw [hp] at q1
     have hb : s.page p.key = p.b := by unfold Ck.page; rw [q1]; rfl
     have hnm : s.nm.size ≤ 9223372036854775807 := named_size ok.nm
     have HW : Aside (s.write p.key = if (sz : Int) < p.key * 256 then (if (s.pad p.key).1 = 0 then Ck.write2 { s with d := (s.pad p.key).2 } p.key else ((s.pad p.key).1, { s with d := (s.pad p.key).2 })) else s.write2 p.key) := by
      show _ = _
      unfold Ck.write
      rw [if_neg (by simp [hd]), hsz1]
     go_enter Tryz.func101, Tryz.ntmps101
     go_wp2_with fail
     refine hdy.mono ?_
     rintro e w1 ⟨rfl, hs1⟩
     clear hdy hs
     have HP : Aside (hl1 = hl1 ∧ (mget p.key ((l1 ++ p :: l2).map kvP) = some p.v) ∧ s.page p.key = p.b) := ⟨rfl, q2, hb⟩
     have HPG : Aside (pgents (l1 ++ p :: l2) = s.pgs) := hp
     clear q1 q2 hb hh hp hd hsz4
     haveI := hs1.i
     go_upto_region 3 with (fail)
     go_region_held3 (fun w' => w'.cell? ⟨C, 1, none⟩ = some (.pointer (some ⟨D, 0, none⟩)) ∧ w'.cell? ⟨C, 2, none⟩ = some (.string s.nm)) (first | exact ⟨cell_sat _ _ _, cell_sat _ _ _⟩) (first
      | (go_at_call 50; refine (size_any D s.d s.nm _ _ (takeI (diskP D s.d)) hnm).mono ?_; rintro e w2 ⟨rfl, rfl⟩))
     go_upto_if 25 with (fail)
     go_cut [6] (fun t6 wx => ∃ (d2 : Dk) (m2 : Nat), m2 ≤ 824633720832 ∧ Aside (s.write p.key = Ck.write2 { s with d := d2 } p.key ∧ Ok m2 d2) ∧ Sat (coreC C L D PM s * (lruI L s.cap s.its * (diskP D d2 * (mp ikey PM ((l1 ++ p :: l2).map kvP) * (pagesA (l1 ++ p :: l2) * F))))) wx)
     case first =>
      by_cases hlt : (sz : Int) < p.key * 256
      · obtain ⟨nn, hnn, hnn2⟩ : ∃ nn : Nat, p.key * 256 - sz = (nn : Int) ∧ nn ≤ 268435456 := ⟨(p.key * 256 - sz).toNat, by omega, by omega⟩
        have hmk := mk_bytes nn (by omega)
        have hpad : s.pad p.key = s.d.write s.nm sz (List.replicate nn 0) := by
         unfold Ck.pad
         rw [hsz1, hnn, Int.toNat_natCast]
        have hokp := ok_write ok.dk s.nm sz (List.replicate nn 0)
        rw [← hpad, List.length_replicate] at hokp
        have HK : Aside (Ok (m + 1 + nn) (s.pad p.key).2) := hokp
        have HQ : Aside (s.write p.key = if (s.pad p.key).1 = 0 then Ck.write2 { s with d := (s.pad p.key).2 } p.key else ((s.pad p.key).1, { s with d := (s.pad p.key).2 })) := by
         show _ = _
         rw [HW.out, if_pos hlt]
        have HPD : Aside (s.pad p.key = s.d.write s.nm sz (List.replicate nn 0)) := hpad
        by_cases hz : (s.pad p.key).1 = 0
        · have hz' : ((s.d.write s.nm sz (List.replicate nn 0)).1 != 0) = false := by rw [← hpad]; simpa using hz
          have HZ : Aside ((s.pad p.key).1 = 0) := hz
          clear hpad hokp hz
          go_upto_region 5 with (fail)
          have hw1 : IntKind.i64.wrap (p.key * 256) = p.key * 256 := IntWalk.i64_in _ (by omega)
          have hw2 : IntKind.i64.wrap (nn : Int) = nn := IntWalk.i64_in _ (by omega)
          go_region_held3 (fun w' => w'.cell? ⟨C, 1, none⟩ = some (.pointer (some ⟨D, 0, none⟩)) ∧ w'.cell? ⟨C, 2, none⟩ = some (.string s.nm)) (first | exact ⟨cell_sat _ _ _, cell_sat _ _ _⟩) (first
           | (go_at_call 147; refine (write_any D s.d m s.nm sz _ (List.replicate nn 0) (block w1.heap.size TB (bys (List.replicate nn 0))) _ _ (by have hz := Reads.block0 (b := w1.heap.size) (e := TB) (l := List.replicate nn 0) (by rw [List.length_replicate]; unfold maxLen; omega); rw [List.length_replicate] at hz; exact hz) (Sat.take2 satI (diskP D s.d) (block w1.heap.size TB (bys (List.replicate nn 0)))) hnm (by rw [List.length_replicate]; omega) ok.dk (by unfold big; omega)).mono ?_; rintro e w3 ⟨rfl, hs3⟩; haveI := hs3.i))
          all_goals
           go_wp2_with fail
           go_meet
           refine ⟨(s.pad p.key).2, m + 1 + nn, by omega, ⟨by rw [HQ.out, if_pos HZ.out], HK.out⟩, ?_⟩
           rw [HPD.out]
           exact satI_weak (C := block w1.heap.size TB (bys (List.replicate nn 0))) (by ac_rfl)
        · have hz' : ((s.d.write s.nm sz (List.replicate nn 0)).1 != 0) = true := by rw [← hpad]; simpa using hz
          have HZ : Aside ((s.pad p.key).1 ≠ 0) := hz
          clear hpad hokp hz
          go_upto_region 5 with (fail)
          have hw1 : IntKind.i64.wrap (p.key * 256) = p.key * 256 := IntWalk.i64_in _ (by omega)
          have hw2 : IntKind.i64.wrap (nn : Int) = nn := IntWalk.i64_in _ (by omega)
          go_region_held3 (fun w' => w'.cell? ⟨C, 1, none⟩ = some (.pointer (some ⟨D, 0, none⟩)) ∧ w'.cell? ⟨C, 2, none⟩ = some (.string s.nm)) (first | exact ⟨cell_sat _ _ _, cell_sat _ _ _⟩) (first
           | (go_at_call 147; refine (write_any D s.d m s.nm sz _ (List.replicate nn 0) (block w1.heap.size TB (bys (List.replicate nn 0))) _ _ (by have hz := Reads.block0 (b := w1.heap.size) (e := TB) (l := List.replicate nn 0) (by rw [List.length_replicate]; unfold maxLen; omega); rw [List.length_replicate] at hz; exact hz) (Sat.take2 satI (diskP D s.d) (block w1.heap.size TB (bys (List.replicate nn 0)))) hnm (by rw [List.length_replicate]; omega) ok.dk (by unfold big; omega)).mono ?_; rintro e w3 ⟨rfl, hs3⟩; haveI := hs3.i))
          all_goals
           go_wp2_with fail
           go_ret
           refine ⟨?_, ?_⟩
           · rw [HQ.out, if_neg HZ.out, HPD.out]; rfl
           · rw [HQ.out, if_neg HZ.out, HPD.out]
             exact satI_weak (C := block w1.heap.size TB (bys (List.replicate nn 0))) (by unfold cacheA; ac_rfl)
      · have hlt' : ¬ (sz : Int) < p.key * 256 := hlt
        have HQ : Aside (s.write p.key = s.write2 p.key) := by
         show _ = _
         rw [HW.out, if_neg hlt]
        go_wp2_with fail
        go_meet
        exact ⟨s.d, m, by omega, ⟨HQ.out, ok.dk⟩, satI_eq (by ac_rfl)⟩
     case rest =>
      obtain ⟨d2, m2, hm2, A, hs2⟩ := hcut
      obtain ⟨hw, hok2⟩ := A.out
      obtain ⟨R, hR1, hR2⟩ : ∃ R, pagesA (l1 ++ p :: l2) = rw TB 1 p.v (bys p.b) * R ∧ True := ⟨pagesA l1 * pagesA l2, by rw [pagesA_append]; show pagesA l1 * (_ * pagesA l2) = _; ac_rfl, trivial⟩
      rw [hR1] at hs2
      have hpb := HP.out.2.2
      have hq2 := HP.out.2.1
      obtain ⟨va, vc, hpv, hvc, hvm⟩ := rw_vb (hs2.take (rw TB 1 p.v (bys p.b)))
      have hpl : p.b.length = 256 := by
       have := (ok.page (p.key, p.b) (by rw [← HPG.out]; simp [pgents])).1
       exact this
      have HR : Aside (pagesA (l1 ++ p :: l2) = rw TB 1 p.v (bys p.b) * R) := hR1
      have HW2 : Aside (s.write p.key = Ck.write2 { s with d := d2 } p.key) := hw
      have HO : Aside (Ok m2 d2) := hok2
      have HB : Aside (Ck.page { s with d := d2 } p.key = p.b) := hpb
      clear A hw hR1 hR2 HW hok2 hpb HP hpv
      by_cases hz : (d2.write s.nm (p.key * 256) p.b).1 = 0
      · have hz' : ((d2.write s.nm (p.key * 256) p.b).1 == 0) = true := by simpa using hz
        have HE : Aside (s.write p.key = (0, { s with d := (d2.write s.nm (p.key * 256) p.b).2, its := markI s.its p.key false })) := by
         show _ = _
         rw [HW2.out]; unfold Ck.write2; rw [HB.out]; rw [if_pos hz]
        have HZ : Aside ((d2.write s.nm (p.key * 256) p.b).1 = 0) := hz
        clear hz
        haveI := hs2.i
        go_upto_region 8 with (fail)
        have hw1 : IntKind.i64.wrap (p.key * 256) = p.key * 256 := IntWalk.i64_in _ (by omega)
        go_region_held3 (fun w' => w'.cell? ⟨C, 1, none⟩ = some (.pointer (some ⟨D, 0, none⟩)) ∧ w'.cell? ⟨C, 2, none⟩ = some (.string s.nm) ∧ w'.cell? ⟨C, 4, none⟩ = some (.map (some PM)) ∧ (Instr.lookup TPM (.map (some PM)) (.int .i64 p.key) false).run Tryz.prog w' = .ok p.v w') (first | exact ⟨cell_sat _ _ _, cell_sat _ _ _, cell_sat _ _ _, by rw [look_PM, hq2]; rfl⟩) (first
         | (go_at_call 147; refine (write_any D d2 m2 s.nm (p.key * 256) p.v p.b (rw TB 1 p.v (bys p.b)) _ _ Reads.rw (Sat.take2 satI (diskP D d2) (rw TB 1 p.v (bys p.b))) hnm (by omega) HO.out (by unfold big; omega)).mono ?_; rintro e w4 ⟨rfl, hs4⟩; haveI := hs4.i))
        all_goals
         clear hq2
         go_wp2_with fail
         refine (markH L s.cap s.its p.key false _ _ (takeI (lruI L s.cap s.its)) ok.lru).mono ?_
         rintro e w5 ⟨rfl, hs5⟩
         go_wp2
         go_ret
         refine ⟨?_, ?_⟩
         · rw [HE.out]
           show Ending.returned (.int .i64 (d2.write s.nm (p.key * 256) p.b).1) = _
           rw [HZ.out]
         · rw [HE.out]
           refine hs5.eq ?_
           unfold cacheA
           rw [HR.out]
           show lruI L s.cap (markI s.its p.key false) * _ = coreC C L D PM s * (lruI L s.cap (markI s.its p.key false) * (diskP D (d2.write s.nm (p.key * 256) p.b).2 * _)) * _
           ac_rfl
      · have hz' : ((d2.write s.nm (p.key * 256) p.b).1 == 0) = false := by simpa using hz
        have HE : Aside (s.write p.key = ((d2.write s.nm (p.key * 256) p.b).1, { s with d := (d2.write s.nm (p.key * 256) p.b).2 })) := by
         show _ = _
         rw [HW2.out]; unfold Ck.write2; rw [HB.out]; rw [if_neg hz]
        clear hz
        haveI := hs2.i
        go_upto_region 8 with (fail)
        have hw1 : IntKind.i64.wrap (p.key * 256) = p.key * 256 := IntWalk.i64_in _ (by omega)
        go_region_held3 (fun w' => w'.cell? ⟨C, 1, none⟩ = some (.pointer (some ⟨D, 0, none⟩)) ∧ w'.cell? ⟨C, 2, none⟩ = some (.string s.nm) ∧ w'.cell? ⟨C, 4, none⟩ = some (.map (some PM)) ∧ (Instr.lookup TPM (.map (some PM)) (.int .i64 p.key) false).run Tryz.prog w' = .ok p.v w') (first | exact ⟨cell_sat _ _ _, cell_sat _ _ _, cell_sat _ _ _, by rw [look_PM, hq2]; rfl⟩) (first
         | (go_at_call 147; refine (write_any D d2 m2 s.nm (p.key * 256) p.v p.b (rw TB 1 p.v (bys p.b)) _ _ Reads.rw (Sat.take2 satI (diskP D d2) (rw TB 1 p.v (bys p.b))) hnm (by omega) HO.out (by unfold big; omega)).mono ?_; rintro e w4 ⟨rfl, hs4⟩; haveI := hs4.i))
        all_goals
         clear hq2
         go_wp2
         go_ret
         refine ⟨?_, ?_⟩
         · rw [HE.out]; rfl
         · rw [HE.out]
           refine hs4.eq ?_
           unfold cacheA
           rw [HR.out]
           show diskP D (d2.write s.nm (p.key * 256) p.b).2 * _ = coreC C L D PM s * (lruI L s.cap s.its * (diskP D (d2.write s.nm (p.key * 256) p.b).2 * _)) * _
           ac_rfl
   · rw [(pg_none hno).1] at hh
     cases hh
end Go.Proofs.YtfhbmblbidcmmaaGreat
