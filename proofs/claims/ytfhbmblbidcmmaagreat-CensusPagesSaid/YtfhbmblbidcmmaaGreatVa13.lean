/-
  Of all versions the pages that are told are just those of their trees in the file in the form of the document, and a root that is none is refused. No condition. (part 13)
-/
import Derived.Test.YtfhbmblbidcmmaaGreatVa11
import Derived.Test.YtfhbmblbidcmmaaGreatVa12
set_option linter.unusedSimpArgs false
set_option linter.unusedVariables false
namespace Go.Proofs.YtfhbmblbidcmmaaGreat
set_option linter.unusedSimpArgs false
set_option linter.unusedVariables false
open Go.RowKit Go.Sl Go.Dk
open Go.Lru (ikey)
attribute [local go_sem ↓] Go.wp_at_zero Go.wp_at_succ
attribute [local go_sem] Go.Sl.cell_sat Go.Sl.frozen_sat look_PM len_PM put_PM del_PM
set_option maxRecDepth 100000 in
set_option maxHeartbeats 1000000 in
theorem release_any (C D : Nat) (s : Ck) (m : Nat) (no : Int) (F : Assn) (w : World) (hs : Sat (cacheP C D s * F) w) (ok : CkOk m s) (hm : m ≤ 549755813888) (hd : dropB s.its no = true) :
 Calls Tryz.prog 253 #[.pointer (some ⟨C, 0, none⟩), .int .i64 no] w fun e w' => e = .returned (.int .i64 (s.release no).1) ∧ Sat (cacheP C D (s.release no).2 * F) w' := by
 obtain ⟨L, PM, ps, hp, hs⟩ := Sat.cache_open hs
 obtain ⟨b, hb, hl, h0, h1⟩ := ok.key (drop_has hd)
 have hwr := write_go C L D PM ps s m no F w hs hp ok hm h0 h1
 have hwo := write_ok ok (drop_has hd)
 obtain ⟨w1, w2, w3, w4, w5⟩ := write_same s no
 have HR : Aside (s.release no = if (s.write no).1 = 0 then (0, { (s.write no).2 with its := if dropB (s.write no).2.its no then outI (s.write no).2.its no else (s.write no).2.its, pgs := pdel no (s.write no).2.pgs }) else s.write no) := rfl
 obtain ⟨s1, hs1⟩ : ∃ x, (s.write no).2 = x := ⟨_, rfl⟩
 obtain ⟨e1, he1⟩ : ∃ x, (s.write no).1 = x := ⟨_, rfl⟩
 have hse : s.write no = (e1, s1) := by rw [← hs1, ← he1]
 rw [hse] at hwr hwo HR
 rw [hs1, ← hp] at w4
 rw [hs1] at w5
 have hd1 : dropB s1.its no = true := by
  rcases w5 with e | e
  · rw [e]; exact hd
  · rw [e, dropB_mark]; exact hd
 simp only at hwr hwo HR
 rw [if_pos hd1] at HR
 have hdr := fun F w h => dropH L s1.cap s1.its no F w h hwo.lru
 rw [hd1, if_pos rfl] at hdr
 have HP : Aside (pgents ps = s1.pgs ∧ pget no s.pgs = some b) := ⟨w4.symm, hb⟩
 have HL : Aside (LruOk s1.its) := hwo.lru
 clear hs1 he1 hse w1 w2 w3 w4 w5 hwo hs hl hd hd1
 by_cases hz : e1 = 0
 · subst hz
   rw [if_pos rfl] at HR
   rw [HR.out]
   clear HR
   rcases pg_cases ps no with ⟨l1, p, l2, rfl, rfl, hl1⟩ | hno
   · obtain ⟨_, _, _, q4, q5⟩ := pg_found (l2 := l2) hl1
     have HQ : Aside (pgents (l1 ++ l2) = pdel p.key s1.pgs ∧ mdel p.key ((l1 ++ p :: l2).map kvP) = (l1 ++ l2).map kvP) := ⟨by rw [← HP.out.1]; exact q4.symm, q5⟩
     clear q4 q5 hp hb
     go_enter Tryz.func253, Tryz.ntmps253
     go_wp2_with fail
     refine hwr.mono ?_
     rintro e w2 ⟨rfl, hs2⟩
     unfold cacheA at hs2
     haveI := hs2.i
     have HDR : Aside (∀ (F : Assn) (w : World), Sat (lruI L s1.cap s1.its * F) w → Calls Tryz.prog 164 #[.pointer (some ⟨L, 0, none⟩), .int .i64 p.key] w fun e w' => e = .returned (.bool true) ∧ Sat (lruI L s1.cap (outI s1.its p.key) * F) w') := hdr
     clear hwr hdr
     go_wp2_with fail
     refine (HDR.out _ _ (takeI (lruI L s1.cap s1.its))).mono ?_
     rintro e w3 ⟨rfl, hs3⟩
     haveI := hs3.i
     clear hs2
     go_wp2
     go_ret
     refine ⟨rfl, ?_⟩
     refine Sat.cache_shut (L := L) (PM := PM) (ps := l1 ++ l2) HQ.out.1 ?_
     refine satI_weak (C := rw TB 1 p.v (bys p.b)) ?_
     rw [HQ.out.2, pagesA_append, show pagesA (p :: l2) = rw TB 1 p.v (bys p.b) * pagesA l2 from rfl]
     show _ = coreC C L D PM s1 * (lruI L s1.cap (outI s1.its p.key) * (diskP D s1.d * (mp ikey PM ((l1 ++ l2).map kvP) * pagesA (l1 ++ l2)))) * F * rw TB 1 p.v (bys p.b)
     rw [pagesA_append]
     ac_rfl
   · have := HP.out.2
     rw [← hp, (pg_none hno).1] at this
     cases this
 · rw [if_neg hz] at HR
   rw [HR.out]
   clear HR
   have hz' : (e1 == 0) = false := by simpa using hz
   go_enter Tryz.func253, Tryz.ntmps253
   go_wp2_with fail
   refine hwr.mono ?_
   rintro e w2 ⟨rfl, hs2⟩
   go_wp2
   go_ret
   exact ⟨rfl, Sat.cache_shut HP.out.1 hs2⟩
set_option maxRecDepth 100000 in
set_option maxHeartbeats 1000000 in
theorem room_any (C D : Nat) (s : Ck) (m : Nat) (F : Assn) (w : World) (hs : Sat (cacheP C D s * F) w) (ok : CkOk m s) (hm : m ≤ 549755813888) :
 Calls Tryz.prog 229 #[.pointer (some ⟨C, 0, none⟩)] w fun e w' => e = .returned (.int .i64 s.room.1) ∧ Sat (cacheP C D s.room.2 * F) w' := by
 obtain ⟨L, PM, ps, hp, hs1⟩ := Sat.cache_open hs
 have hpl : ps.length = s.pgs.length := by rw [← hp]; simp [pgents]
 have hlen := ok.len
 have hcap := ok.cap
 have hmost := ok.most
 unfold cacheA at hs1
 by_cases hlt : (ps.length : Int) < s.cap
 · have e : s.room = (0, s) := by unfold Ck.room; rw [if_pos (by rw [← hpl]; exact hlt)]
   rw [e]
   have HP : Aside (pgents ps = s.pgs) := hp
   haveI := hs1.i
   clear e hs hp hpl hlen
   go_enter Tryz.func229, Tryz.ntmps229
   go_upto_region 1 with (fail)
   go_region
   all_goals
    go_wp2
    go_ret
    exact ⟨rfl, Sat.cache_shut HP.out (satI_eq (by unfold cacheA; rfl))⟩
 · have hlt' : decide ((ps.length : Int) < s.cap) = false := by simpa using hlt
   cases ho : oldI s.its with
   | none =>
     have e : s.room = (9, s) := by unfold Ck.room; rw [if_neg (by rw [← hpl]; exact hlt), ho]
     rw [e]
     have hol := fun F w h => oldestH L s.cap s.its F w h
     rw [ho] at hol
     have HP : Aside (pgents ps = s.pgs) := hp
     have HO : Aside (∀ (F : Assn) (w : World), Sat (lruI L s.cap s.its * F) w → Calls Tryz.prog 252 #[.pointer (some ⟨L, 0, none⟩)] w fun e w' => e = .returned (.tuple #[.int .i64 0, .bool false]) ∧ w = w') := hol
     haveI := hs1.i
     clear e hs hp hpl hlen hlt hol ho
     go_enter Tryz.func229, Tryz.ntmps229
     go_upto_region 1 with (fail)
     go_region
     all_goals
      go_wp2_with fail
      refine (HO.out _ _ (takeI (lruI L s.cap s.its))).mono ?_
      rintro e w2 ⟨rfl, rfl⟩
      go_wp2
      go_ret
      exact ⟨rfl, Sat.cache_shut HP.out (satI_eq (by unfold cacheA; rfl))⟩
   | some n =>
     have e : s.room = s.release n.key := by unfold Ck.room; rw [if_neg (by rw [← hpl]; exact hlt), ho]
     rw [e]
     have hol := fun F w h => oldestH L s.cap s.its F w h
     rw [ho] at hol
     have HP : Aside (pgents ps = s.pgs ∧ dropB s.its n.key = true) := ⟨hp, old_drop ho⟩
     have HO : Aside (∀ (F : Assn) (w : World), Sat (lruI L s.cap s.its * F) w → Calls Tryz.prog 252 #[.pointer (some ⟨L, 0, none⟩)] w fun e w' => e = .returned (.tuple #[.int .i64 n.key, .bool true]) ∧ w = w') := hol
     haveI := hs1.i
     clear e hs hp hpl hlen hlt hol ho
     go_enter Tryz.func229, Tryz.ntmps229
     go_upto_region 1 with (fail)
     go_region
     all_goals
      go_wp2_with fail
      refine (HO.out _ _ (takeI (lruI L s.cap s.its))).mono ?_
      rintro e w2 ⟨rfl, rfl⟩
      go_wp2_with fail
      refine (release_any C D s m n.key F _ (Sat.cache_shut HP.out.1 (satI_eq (by unfold cacheA; rfl))) ok hm HP.out.2).mono ?_
      rintro e w3 ⟨rfl, hs3⟩
      go_wp2
      go_ret
      exact ⟨rfl, hs3⟩
set_option maxRecDepth 100000 in
set_option maxHeartbeats 1000000 in
theorem take_any (C D : Nat) (s : Ck) (m : Nat) (no : Int) (v : Value) (b : List UInt8) (B F : Assn) (w : World) (hB : Reads B v b) (hs : Sat (cacheP C D s * (B * F)) w) (ok : CkOk m s) (hm : m ≤ 274877906944) (hno : hasI s.its no = false) (hb : b.length = 256) :
 Calls Tryz.prog 181 #[.pointer (some ⟨C, 0, none⟩), .int .i64 no, v] w fun e w' => e = .returned (.int .i64 (s.take no b).1) ∧ Sat (cacheP C D (s.take no b).2 * (B * F)) w' := by
 obtain ⟨va, vc, rfl, hvc, hvm⟩ := (hB _ _ (hs.take B)).len
 have hrm := room_any C D s m _ w hs ok (by omega)
 obtain ⟨r1, r2, r3, r4⟩ := room_ok ok
 have HT : Aside (s.take no b = if s.room.1 = 0 then (0, { s.room.2 with its := s.room.2.its ++ [⟨no, 0, false⟩], pgs := pput no b s.room.2.pgs }) else s.room) := rfl
 obtain ⟨s1, hs1⟩ : ∃ x, s.room.2 = x := ⟨_, rfl⟩
 obtain ⟨e1, he1⟩ : ∃ x, s.room.1 = x := ⟨_, rfl⟩
 have hse : s.room = (e1, s1) := by rw [← hs1, ← he1]
 rw [hse] at hrm HT
 simp only at hrm HT
 rw [hs1] at r1 r2 r3
 rw [he1] at r2
 clear hs1 he1 hse
 by_cases hz : e1 = 0
 · subst hz
   rw [if_pos rfl] at HT
   rw [HT.out]
   have hlt := r2 rfl
   have hno1 : hasI s1.its no = false := by
    rw [Bool.eq_false_iff]; intro hh; rw [r3 no hh] at hno; cases hno
   have hpn : (pget no s1.pgs).isSome = false := by rw [← r1.same]; exact hno1
   have HA : Aside (LruOk s1.its ∧ hasI s1.its no = false ∧ (s1.its.length : Int) ≠ s1.cap ∧ (pget no s1.pgs).isSome = false) := ⟨r1.lru, hno1, by omega, hpn⟩
   obtain ⟨i0, E⟩ := elemB
   rw [hb] at hvc hB
   rw [hb]
   have HB : Aside (b.length = 256) := hb
   clear HT r1 r2 r3 r4 hlt hno1 hpn hs hno hb
   go_enter Tryz.func181, Tryz.ntmps181
   go_wp2_with fail
   refine hrm.mono ?_
   rintro e w2 ⟨rfl, hs2⟩
   obtain ⟨L, PM, ps, hp, hs2⟩ := Sat.cache_open hs2
   unfold cacheA at hs2
   have HP : Aside (pgents ps = s1.pgs) := hp
   haveI := hs2.i
   clear hrm hp
   go_wp2_with fail
   refine (addH L s1.cap s1.its no _ _ (takeI (lruI L s1.cap s1.its)) HA.out.1 HA.out.2.1 HA.out.2.2.1).mono ?_
   rintro e w3 ⟨rfl, hs3⟩
   haveI := hs3.i
   clear hs2
   go_upto_region 5 with (fail)
   go_region_held3 (fun w' => w'.cell? ⟨C, 4, none⟩ = some (.map (some PM))) (first | exact cell_sat _ _ _) (first
    | (refine step_append_sl E rfl (.tmp 24) (.tmp 25) rfl rfl rfl (rw_empty (b := w3.heap.size) (e := TB)) (hB.srcI HB.out) (by unfold maxLen; omega) (by omega) ?_; intro a4 c4 w4 hs4 hnn; clear hnn; simp only [Nat.zero_add, List.nil_append] at hs4; haveI := hs4.i))
   all_goals
    go_wp2
    go_ret
    refine ⟨rfl, ?_⟩
    have hno2 : ∀ p ∈ ps, p.key ≠ no := by
     rcases pg_cases ps no with ⟨l1, p, l2, rfl, rfl, hl1⟩ | h
     · have := HA.out.2.2.2
       rw [← HP.out, (pg_found hl1).1] at this
       cases this
     · exact h
    obtain ⟨_, _, g1, g2⟩ := pg_none hno2
    refine Sat.cache_shut (L := L) (PM := PM) (ps := ps ++ [⟨no, .slice a4 256 c4, b⟩]) ?_ ?_
    · show _ = pput no b s1.pgs
      rw [← HP.out, g1]; simp [pgents]
    · refine satI_eq ?_
      rw [g2]
      show _ = coreC C L D PM s1 * (lruI L s1.cap (s1.its ++ [⟨no, 0, false⟩]) * (diskP D s1.d * (mp ikey PM ((ps ++ [(⟨no, .slice a4 256 c4, b⟩ : Pg)]).map kvP) * pagesA (ps ++ [(⟨no, .slice a4 256 c4, b⟩ : Pg)])))) * (B * F)
      rw [pagesA_append, List.map_append, show pagesA [(⟨no, .slice a4 256 c4, b⟩ : Pg)] = rw TB 1 (.slice a4 256 c4) (bys b) * 1 from rfl, sep_one]
      show _ = coreC C L D PM s1 * (lruI L s1.cap (s1.its ++ [⟨no, 0, false⟩]) * (diskP D s1.d * (mp ikey PM (ps.map kvP ++ [(no, .slice a4 256 c4)]) * _))) * (B * F)
      ac_rfl
 · rw [if_neg hz] at HT
   rw [HT.out]
   have hz' : (e1 != 0) = true := by simpa using hz
   clear HT r1 r2 r3 r4 hs hno hz
   go_enter Tryz.func181, Tryz.ntmps181
   go_wp2_with fail
   refine hrm.mono ?_
   rintro e w2 ⟨rfl, hs2⟩
   go_wp2
   go_ret
   exact ⟨rfl, hs2⟩
end Go.Proofs.YtfhbmblbidcmmaaGreat
namespace Go.Proofs.YtfhbmblbidcmmaaGreat
set_option linter.unusedSimpArgs false
set_option linter.unusedVariables false
open Go.RowKit Go.Sl Go.Dk
open Go.Lru (ikey)
attribute [local go_sem ↓] Go.wp_at_zero Go.wp_at_succ
attribute [local go_sem] Go.Sl.cell_sat Go.Sl.frozen_sat look_PM len_PM put_PM del_PM
theorem useI_none {its : List It} {no : Int} (hh : hasI its no = false) : useI its no = its := by
 unfold useI outI
 have h1 : its.filter (fun n => n.key == no) = [] := List.filter_eq_nil_iff.2 fun x hx => by
  intro h2
  have h3 : hasI its no = true := hasI_iff.2 (List.mem_map.2 ⟨x, hx, by simpa using h2⟩)
  rw [hh] at h3; cases h3
 have h2 : its.filter (fun n => n.key != no) = its := List.filter_eq_self.2 fun x hx => by
  simp
  intro h2
  have h3 : hasI its no = true := hasI_iff.2 (List.mem_map.2 ⟨x, hx, h2⟩)
  rw [hh] at h3; cases h3
 rw [h1, h2, List.append_nil]
theorem read_len {d : Dk} {nm : ByteArray} {k : Int} {n : Nat} (h : (d.read nm k n).1 = 0) : (d.read nm k n).2.length = n := by
 unfold Dk.read at h ⊢
 split at h
 · rename_i h1; exact absurd h h1
 · rename_i h1
   rw [if_neg h1]
   simp only at h ⊢
   split at h
   · cases h
   · rename_i h2
     rw [if_neg h2]
     simp
     omega
def GetPost (C D : Nat) (F : Assn) (r : Int × List UInt8 × Ck) (e : Ending) (w' : World) : Prop :=
 ∃ v, e = .returned (.tuple #[v, .int .i64 r.1]) ∧ Sat (rw TB 1 v (bys r.2.1) * (cacheP C D r.2.2 * F)) w'
set_option maxRecDepth 100000 in
set_option maxHeartbeats 1000000 in
theorem get_any (C D : Nat) (s : Ck) (m : Nat) (no : Int) (F : Assn) (w : World) (hs : Sat (cacheP C D s * F) w) (ok : CkOk m s) (hm : m ≤ 274877906944) :
 Calls Tryz.prog 157 #[.pointer (some ⟨C, 0, none⟩), .int .i64 no] w (GetPost C D F (s.get no)) := by
 by_cases hr : no < 0 ∨ 1048576 ≤ no
 · have e : s.get no = (1, [], s) := by unfold Ck.get; rw [if_pos hr]
   rw [e]
   have hs2 : Sat (rw TB 1 (.slice none 0 0) (bys []) * (cacheP C D s * F)) w := Sat.rw_nil hs
   rcases hr with hr | hr
   · go_enter Tryz.func157, Tryz.ntmps157
     go_wp2
     go_ret2
     exact ⟨_, rfl, hs2⟩
   · have hr' : ¬ no < 0 := by omega
     go_enter Tryz.func157, Tryz.ntmps157
     go_wp2
     go_ret2
     exact ⟨_, rfl, hs2⟩
 · have hr0 : 0 ≤ no := by omega
   have hr1 : no < 1048576 := by omega
   obtain ⟨L, PM, ps, hp, hs1⟩ := Sat.cache_open hs
   unfold cacheA at hs1
   have hnm : s.nm.size ≤ 9223372036854775807 := named_size ok.nm
   cases hh : hasI s.its no with
   | true =>
     have e : s.get no = (0, s.page no, { s with its := useI s.its no }) := by unfold Ck.get; rw [if_neg hr, if_pos hh]
     rw [e]
     obtain ⟨b, hb, hbl, _, _⟩ := ok.key hh
     rcases pg_cases ps no with ⟨l1, p, l2, rfl, rfl, hl1⟩ | hno
     · obtain ⟨q1, q2, _⟩ := pg_found (l2 := l2) hl1
       rw [hp] at q1
       have hb2 : p.b = b := by rw [q1] at hb; exact Option.some.inj hb
       have hpb : s.page p.key = p.b := by unfold Ck.page; rw [q1]; rfl
       have hR : pagesA (l1 ++ p :: l2) = rw TB 1 p.v (bys p.b) * (pagesA l1 * pagesA l2) := by rw [pagesA_append]; show pagesA l1 * (_ * pagesA l2) = _; ac_rfl
       rw [hR] at hs1
       obtain ⟨va, vc, hpv, hvc, hvm⟩ := rw_vb (hs1.take (rw TB 1 p.v (bys p.b)))
       rw [hb2, hbl] at hpv hvc
       have HP : Aside (pgents (l1 ++ p :: l2) = s.pgs ∧ s.page p.key = p.b ∧ p.b.length = 256 ∧ pagesA (l1 ++ p :: l2) = rw TB 1 p.v (bys p.b) * (pagesA l1 * pagesA l2) ∧ p.v = .slice va 256 vc) := ⟨hp, hpb, by rw [hb2]; exact hbl, hR, hpv⟩
       rw [hpv] at q2 hs1
       obtain ⟨ms, hms⟩ : ∃ ms, (l1 ++ p :: l2).map kvP = ms := ⟨_, rfl⟩
       rw [hms] at q2 hs1
       have HMS : Aside ((l1 ++ p :: l2).map kvP = ms) := hms
       clear hms
       have hu := useH L s.cap s.its p.key _ w (hs1.take (lruI L s.cap s.its)) ok.lru
       rw [hh] at hu
       obtain ⟨i0, E⟩ := elemB
       haveI := hs1.i
       clear e hr hs hp hh hb q1 hb2 hbl hpb hR hpv
       go_enter Tryz.func157, Tryz.ntmps157
       go_wp2_with fail
       refine hu.mono ?_
       rintro e w2 ⟨rfl, hs2⟩
       clear hu hs1
       haveI := hs2.i
       go_wp2_with (at_builtin; (refine wpl_append_same E rfl (.tmp 24) (.tmp 30) rfl rfl rfl (rw_empty (b := w2.heap.size) (e := TB)) (Reads.srcI (B := rw TB 1 (.slice va 256 vc) (bys p.b)) (by have hz := Reads.rw (e := TB) (v := .slice va 256 vc) (l := p.b); exact hz) HP.out.2.2.1) (by unfold maxLen; omega) (by omega) ?_; intro a4 c4 w4 hs4 hnn; clear hnn; simp only [Nat.zero_add, List.nil_append] at hs4; haveI := hs4.i))
       go_ret2
       refine ⟨_, rfl, ?_⟩
       obtain ⟨g1, g2, g3, g4, g5⟩ := HP.out
       show Sat (rw TB 1 _ (bys (s.page p.key)) * _) _
       rw [g2, sep_left]
       refine Sat.cache_shut (L := L) (PM := PM) (ps := l1 ++ p :: l2) g1 (hs4.eq ?_)
       show _ = coreC C L D PM s * (lruI L s.cap (useI s.its p.key) * (diskP D s.d * (mp ikey PM ((l1 ++ p :: l2).map kvP) * pagesA (l1 ++ p :: l2)))) * _
       rw [g4, g5, HMS.out]
       ac_rfl
     · rw [← hp, (pg_none hno).1] at hb
       cases hb
   | false =>
     have HG : Aside (s.get no = if (s.d.read s.nm (no * 256) 256).1 = 0 then (if (s.take no (s.d.read s.nm (no * 256) 256).2).1 = 0 then (0, (s.d.read s.nm (no * 256) 256).2, { (s.take no (s.d.read s.nm (no * 256) 256).2).2 with reads := (s.take no (s.d.read s.nm (no * 256) 256).2).2.reads + 1 }) else ((s.take no (s.d.read s.nm (no * 256) 256).2).1, [], (s.take no (s.d.read s.nm (no * 256) 256).2).2)) else (if (s.d.read s.nm (no * 256) 256).1 = 2 then 6 else (s.d.read s.nm (no * 256) 256).1, [], s)) := by
      show _ = _
      unfold Ck.get; rw [if_neg hr, if_neg (by simp [hh])]
     have hrl := read_len (d := s.d) (nm := s.nm) (k := no * 256) (n := 256)
     obtain ⟨r, hrr⟩ : ∃ r, s.d.read s.nm (no * 256) 256 = r := ⟨_, rfl⟩
     have hrd : ∀ F w, Sat (diskP D s.d * F) w → Calls Tryz.prog 49 #[.pointer (some ⟨D, 0, none⟩), .string s.nm, .int .i64 (no * 256), .int .i64 256] w fun e w' => ∃ v, e = .returned (.tuple #[v, .int .i64 r.1]) ∧ Sat (rw TB 1 v (bys r.2) * (diskP D s.d * F)) w' := by
      intro F w h
      have := read_any D s.d s.nm (no * 256) 256 F w h hnm (fun p hp => (ok.dk.sz p hp).1)
      rw [hrr] at this
      exact this
     have hrl2 : r.1 = 0 → r.2.length = 256 := by
      have : ((256 : Nat) : Int) = 256 := rfl
      rw [this, hrr] at hrl
      exact hrl
     rw [hrr] at HG
     clear hrl hrr
     have hu := useH L s.cap s.its no _ w (hs1.take (lruI L s.cap s.its)) ok.lru
     rw [hh] at hu
     have huse : useI s.its no = s.its := useI_none hh
     rw [huse] at hu
     have HRD : Aside (∀ F w, Sat (diskP D s.d * F) w → Calls Tryz.prog 49 #[.pointer (some ⟨D, 0, none⟩), .string s.nm, .int .i64 (no * 256), .int .i64 256] w fun e w' => ∃ v, e = .returned (.tuple #[v, .int .i64 r.1]) ∧ Sat (rw TB 1 v (bys r.2) * (diskP D s.d * F)) w') := hrd
     have HP : Aside (pgents ps = s.pgs ∧ hasI s.its no = false ∧ (r.1 = 0 → r.2.length = 256)) := ⟨hp, hh, hrl2⟩
     obtain ⟨rc, rb⟩ := r
     simp only at HG HRD HP
     haveI := hs1.i
     clear hrd hrl2 hh hr hs hp huse
     by_cases hz : rc = 0
     · subst hz
       rw [if_pos rfl] at HG
       rw [HG.out]
       clear HG
       have hrl := HP.out.2.2 rfl
       have htk := fun (v : Value) (F : Assn) (w : World) (h : Sat (cacheP C D s * (rw TB 1 v (bys rb) * F)) w) => take_any C D s m no v rb (rw TB 1 v (bys rb)) F w Reads.rw h ok hm HP.out.2.1 hrl
       have hto := take_ok ok HP.out.2.1 hr0 hr1 hrl
       obtain ⟨⟨tc, ts⟩, htt⟩ : ∃ r, s.take no rb = r := ⟨_, rfl⟩
       rw [htt] at htk hto ⊢
       simp only at htk hto ⊢
       have HTK : Aside (∀ (v : Value) (F : Assn) (w : World), Sat (cacheP C D s * (rw TB 1 v (bys rb) * F)) w → Calls Tryz.prog 181 #[.pointer (some ⟨C, 0, none⟩), .int .i64 no, v] w fun e w' => e = .returned (.int .i64 tc) ∧ Sat (cacheP C D ts * (rw TB 1 v (bys rb) * F)) w') := htk
       have hrd0 := hto.reads
       have hrd1 : ts.reads ≤ 4611686018427387904 := by unfold U at hrd0; omega
       have hrd2 := hrd0.1
       clear htk htt hto hrl hrd0
       by_cases hz : tc = 0
       · subst hz
         rw [if_pos rfl]
         go_enter Tryz.func157, Tryz.ntmps157
         go_wp2_with fail
         refine hu.mono ?_
         rintro e w2 ⟨rfl, hs2⟩
         haveI := hs2.i
         clear hu hs1
         go_upto_region 5 with (fail)
         have hw1 : IntKind.i64.wrap (no * 256) = no * 256 := IntWalk.i64_in _ (by omega)
         go_region_held3 (fun w' => w'.cell? ⟨C, 1, none⟩ = some (.pointer (some ⟨D, 0, none⟩)) ∧ w'.cell? ⟨C, 2, none⟩ = some (.string s.nm)) (first | exact ⟨cell_sat _ _ _, cell_sat _ _ _⟩) (first
          | (go_at_call 49; refine (HRD.out _ _ (takeI (diskP D s.d))).mono ?_; rintro e w3 ⟨v, rfl, hs3⟩; haveI := hs3.i))
         clear hw1 hs2
         all_goals
          go_wp2_with fail
          refine (HTK.out v F _ (Sat.cache_shut (L := L) (PM := PM) (ps := ps) HP.out.1 (satI_eq (by unfold cacheA; ac_rfl)))).mono ?_
          rintro e w4 ⟨rfl, hs4⟩
          obtain ⟨L4, PM4, ps4, hp4, hs4⟩ := Sat.cache_open hs4
          unfold cacheA at hs4
          have HP4 : Aside (pgents ps4 = ts.pgs) := hp4
          haveI := hs4.i
          clear hs3 hp4
          go_wp2
          go_ret2
          refine ⟨_, rfl, ?_⟩
          rw [sep_left]
          refine Sat.cache_shut (L := L4) (PM := PM4) (ps := ps4) HP4.out ?_
          refine satI_eq ?_
          show _ = coreC C L4 D PM4 { ts with reads := ts.reads + 1 } * (lruI L4 ts.cap ts.its * (diskP D ts.d * (mp ikey PM4 (ps4.map kvP) * pagesA ps4))) * _
          ac_rfl
       · rw [if_neg hz]
         have hz1 : (tc == 0) = false := by simpa using hz
         have hz2 : (tc != 0) = true := by simpa using hz
         clear hz
         go_enter Tryz.func157, Tryz.ntmps157
         go_wp2_with fail
         refine hu.mono ?_
         rintro e w2 ⟨rfl, hs2⟩
         haveI := hs2.i
         clear hu hs1
         go_upto_region 5 with (fail)
         have hw1 : IntKind.i64.wrap (no * 256) = no * 256 := IntWalk.i64_in _ (by omega)
         go_region_held3 (fun w' => w'.cell? ⟨C, 1, none⟩ = some (.pointer (some ⟨D, 0, none⟩)) ∧ w'.cell? ⟨C, 2, none⟩ = some (.string s.nm)) (first | exact ⟨cell_sat _ _ _, cell_sat _ _ _⟩) (first
          | (go_at_call 49; refine (HRD.out _ _ (takeI (diskP D s.d))).mono ?_; rintro e w3 ⟨v, rfl, hs3⟩; haveI := hs3.i))
         clear hw1 hs2
         all_goals
          go_wp2_with fail
          refine (HTK.out v F _ (Sat.cache_shut (L := L) (PM := PM) (ps := ps) HP.out.1 (satI_eq (by unfold cacheA; ac_rfl)))).mono ?_
          rintro e w4 ⟨rfl, hs4⟩
          go_wp2
          go_ret2
          exact ⟨_, rfl, Sat.rw_nil (hs4.drop (rw TB 1 v (bys rb)))⟩
     · rw [if_neg hz] at HG
       have hz1 : (rc == 0) = false := by simpa using hz
       have hz3 : (rc != 0) = true := by simpa using hz
       rw [HG.out]
       clear HG
       by_cases h2 : rc = 2
       · subst h2
         rw [if_pos rfl]
         clear hz hz1 hz3
         go_enter Tryz.func157, Tryz.ntmps157
         go_wp2_with fail
         refine hu.mono ?_
         rintro e w2 ⟨rfl, hs2⟩
         haveI := hs2.i
         clear hu hs1
         go_upto_region 5 with (fail)
         have hw1 : IntKind.i64.wrap (no * 256) = no * 256 := IntWalk.i64_in _ (by omega)
         go_region_held3 (fun w' => w'.cell? ⟨C, 1, none⟩ = some (.pointer (some ⟨D, 0, none⟩)) ∧ w'.cell? ⟨C, 2, none⟩ = some (.string s.nm)) (first | exact ⟨cell_sat _ _ _, cell_sat _ _ _⟩) (first
          | (go_at_call 49; refine (HRD.out _ _ (takeI (diskP D s.d))).mono ?_; rintro e w3 ⟨v, rfl, hs3⟩; haveI := hs3.i))
         clear hw1 hs2
         all_goals
          go_wp2
          go_ret2
          refine ⟨_, rfl, Sat.rw_nil (Sat.cache_shut (L := L) (PM := PM) (ps := ps) HP.out.1 ?_)⟩
          refine satI_weak (C := rw TB 1 v (bys rb)) ?_
          unfold cacheA
          ac_rfl
       · rw [if_neg h2]
         have hz2 : (rc == 2) = false := by simpa using h2
         clear hz h2
         go_enter Tryz.func157, Tryz.ntmps157
         go_wp2_with fail
         refine hu.mono ?_
         rintro e w2 ⟨rfl, hs2⟩
         haveI := hs2.i
         clear hu hs1
         go_upto_region 5 with (fail)
         have hw1 : IntKind.i64.wrap (no * 256) = no * 256 := IntWalk.i64_in _ (by omega)
         go_region_held3 (fun w' => w'.cell? ⟨C, 1, none⟩ = some (.pointer (some ⟨D, 0, none⟩)) ∧ w'.cell? ⟨C, 2, none⟩ = some (.string s.nm)) (first | exact ⟨cell_sat _ _ _, cell_sat _ _ _⟩) (first
          | (go_at_call 49; refine (HRD.out _ _ (takeI (diskP D s.d))).mono ?_; rintro e w3 ⟨v, rfl, hs3⟩; haveI := hs3.i))
         clear hw1 hs2
         all_goals
          go_wp2
          go_ret2
          refine ⟨_, rfl, Sat.rw_nil (Sat.cache_shut (L := L) (PM := PM) (ps := ps) HP.out.1 ?_)⟩
          refine satI_weak (C := rw TB 1 v (bys rb)) ?_
          unfold cacheA
          ac_rfl
set_option maxRecDepth 100000 in
set_option maxHeartbeats 1000000 in
theorem put_any (C D : Nat) (s : Ck) (m : Nat) (no : Int) (v : Value) (b : List UInt8) (B F : Assn) (w : World) (hB : Reads B v b) (hs : Sat (cacheP C D s * (B * F)) w) (ok : CkOk m s) (hm : m ≤ 274877906944) :
 Calls Tryz.prog 195 #[.pointer (some ⟨C, 0, none⟩), .int .i64 no, v] w fun e w' => e = .returned (.int .i64 (s.put no b).1) ∧ Sat (cacheP C D (s.put no b).2 * (B * F)) w' := by
 obtain ⟨va, vc, rfl, hvc, hvm⟩ := (hB _ _ (hs.take B)).len
 by_cases hr : no < 0 ∨ 1048576 ≤ no ∨ b.length ≠ 256
 · have e : s.put no b = (1, s) := by unfold Ck.put; rw [if_pos hr]
   rw [e]
   by_cases h1 : no < 0
   · go_enter Tryz.func195, Tryz.ntmps195
     go_wp2
     go_ret
     exact ⟨rfl, hs⟩
   · by_cases h2 : 1048576 ≤ no
     · go_enter Tryz.func195, Tryz.ntmps195
       go_wp2
       go_ret
       exact ⟨rfl, hs⟩
     · have h3 : ((b.length : Int) != 256) = true := by simp; omega
       have h3' : (b.length != 256) = true := by simp; omega
       have h4 : no < 1048576 := by omega
       have h5 : 0 ≤ no := by omega
       clear hr e h2 h1
       go_enter Tryz.func195, Tryz.ntmps195
       go_wp2
       go_ret
       exact ⟨rfl, hs⟩
 · have hr0 : 0 ≤ no := by omega
   have hr1 : no < 1048576 := by omega
   have hbl : b.length = 256 := by omega
   obtain ⟨L, PM, ps, hp, hs1⟩ := Sat.cache_open hs
   unfold cacheA at hs1
   rw [hbl] at hB hvc
   rw [hbl]
   have HB : Aside (b.length = 256) := hbl
   have hu := useH L s.cap s.its no _ w (hs1.take (lruI L s.cap s.its)) ok.lru
   cases hh : hasI s.its no with
   | true =>
     have e : s.put no b = (0, { s with its := markI (useI s.its no) no true, pgs := pput no b s.pgs }) := by unfold Ck.put; rw [if_neg hr, if_pos hh]
     rw [e]
     rw [hh] at hu
     obtain ⟨b0, hb, hbl0, _, _⟩ := ok.key hh
     have hou := ok_use ok.lru no
     rcases pg_cases ps no with ⟨l1, p, l2, rfl, rfl, hl1⟩ | hno
     · obtain ⟨q1, q2, q3, _⟩ := pg_found (l2 := l2) hl1
       rw [hp] at q1
       have hb2 : p.b.length = 256 := by rw [q1] at hb; rw [Option.some.inj hb]; exact hbl0
       have hR : ∀ q : Pg, pagesA (l1 ++ q :: l2) = rw TB 1 q.v (bys q.b) * (pagesA l1 * pagesA l2) := by intro q; rw [pagesA_append]; show pagesA l1 * (_ * pagesA l2) = _; ac_rfl
       rw [hR] at hs1 hu
       rcases (hs1.take (rw TB 1 p.v (bys p.b))).rw_open with ⟨_, g2, _⟩ | ⟨pg, n, pc, sp, hpv, g2, g3, g4, g5, g6⟩
       · have := congrArg List.length g2; rw [bys_len, hb2] at this; cases this
       rw [bys_len, hb2, Nat.mul_one] at g2
       subst g2
       rw [hpv] at q2 hs1 hu
       obtain ⟨ms, hms⟩ : ∃ ms, (l1 ++ p :: l2).map kvP = ms := ⟨_, rfl⟩
       have HMS : Aside ((l1 ++ { p with b := b } :: l2).map kvP = ms ∧ pgents (l1 ++ { p with b := b } :: l2) = pput p.key b s.pgs ∧ p.v = .slice (some ⟨pg, 0, none⟩) 256 pc) := ⟨by rw [← hms]; simp [kvP], by rw [← hp]; exact (q3 b).symm, hpv⟩
       have HRR : Aside ((∀ q : Pg, pagesA (l1 ++ q :: l2) = rw TB 1 q.v (bys q.b) * (pagesA l1 * pagesA l2)) ∧ p.b.length = 256 ∧ LruOk (useI s.its p.key) ∧ hasI (useI s.its p.key) p.key = true) := ⟨hR, hb2, hou, hasI_iff.2 (use_mem.2 (hasI_iff.1 hh))⟩
       rw [hms] at q2 hs1 hu
       obtain ⟨i0, E⟩ := elemB
       haveI := hs1.i
       clear e hr hs hp hh hb q1 q3 hb2 hbl hR hpv hms g3 g6 hou
       go_enter Tryz.func195, Tryz.ntmps195
       go_wp2_with fail
       refine hu.mono ?_
       rintro e w2 ⟨rfl, hs2⟩
       have hxx := hB _ _ (hs2.take B)
       obtain ⟨w3, hrun, hs3⟩ := run_copy_any (P := Tryz.prog) E 26 3 (lo := 0) (hs2.take (rw TB 1 (.slice (some ⟨pg, 0, none⟩) 256 pc) (bys p.b))) hxx (by rw [HB.out]; omega)
       rw [cutA_zero, Nat.sub_zero, Nat.sub_zero, HB.out] at hrun
       rw [HB.out, List.take_zero, List.nil_append, List.drop_of_length_le (by rw [bys_len, HRR.out.2.1]; omega), List.append_nil] at hs3
       haveI := hs2.i
       haveI := hs3.i
       clear hu hs1 hxx
       go_wp2_with fail
       refine (markH L s.cap (useI s.its p.key) p.key true _ _ (takeI (lruI L s.cap (useI s.its p.key))) HRR.out.2.2.1).mono ?_
       rintro e w4 ⟨rfl, hs4⟩
       go_wp2
       go_ret
       refine ⟨rfl, Sat.cache_shut (L := L) (PM := PM) (ps := l1 ++ { p with b := b } :: l2) HMS.out.2.1 (hs4.eq ?_)⟩
       show _ = coreC C L D PM s * (lruI L s.cap (markI (useI s.its p.key) p.key true) * (diskP D s.d * (mp ikey PM ((l1 ++ { p with b := b } :: l2).map kvP) * pagesA (l1 ++ { p with b := b } :: l2)))) * _
       rw [HMS.out.1, HRR.out.1]
       show _ = coreC C L D PM s * (lruI L s.cap (markI (useI s.its p.key) p.key true) * (diskP D s.d * (mp ikey PM ms * (rw TB 1 p.v (bys b) * _)))) * _
       rw [HMS.out.2.2]
       ac_rfl
     · rw [← hp, (pg_none hno).1] at hb
       cases hb
   | false =>
     have HE : Aside (s.put no b = if (s.take no b).1 = 0 then (0, { (s.take no b).2 with its := markI (s.take no b).2.its no true }) else s.take no b) := by
      show _ = _
      unfold Ck.put; rw [if_neg hr, if_neg (by simp [hh])]
     rw [hh] at hu
     have huse : useI s.its no = s.its := useI_none hh
     rw [huse] at hu
     have htk := fun (F : Assn) (w : World) (h : Sat (cacheP C D s * (B * F)) w) => take_any C D s m no (.slice va 256 vc) b B F w hB h ok hm hh hbl
     have hto := (take_ok ok hh hr0 hr1 hbl).lru
     rw [HE.out]
     obtain ⟨⟨tc, ts⟩, htt⟩ : ∃ r, s.take no b = r := ⟨_, rfl⟩
     rw [htt] at htk hto ⊢
     simp only at htk hto ⊢
     have HTK : Aside (∀ (F : Assn) (w : World), Sat (cacheP C D s * (B * F)) w → Calls Tryz.prog 181 #[.pointer (some ⟨C, 0, none⟩), .int .i64 no, .slice va 256 vc] w fun e w' => e = .returned (.int .i64 tc) ∧ Sat (cacheP C D ts * (B * F)) w') := htk
     have HP : Aside (pgents ps = s.pgs ∧ LruOk ts.its) := ⟨hp, hto⟩
     haveI := hs1.i
     clear htk htt hto huse hh hr hs hp hbl HE
     by_cases hz : tc = 0
     · subst hz
       rw [if_pos rfl]
       go_enter Tryz.func195, Tryz.ntmps195
       go_wp2_with fail
       refine hu.mono ?_
       rintro e w2 ⟨rfl, hs2⟩
       clear hu hs1
       go_wp2_with fail
       refine (HTK.out F _ (Sat.cache_shut (L := L) (PM := PM) (ps := ps) HP.out.1 (hs2.eq (by unfold cacheA; ac_rfl)))).mono ?_
       rintro e w4 ⟨rfl, hs4⟩
       obtain ⟨L4, PM4, ps4, hp4, hs4⟩ := Sat.cache_open hs4
       unfold cacheA at hs4
       have HP4 : Aside (pgents ps4 = ts.pgs) := hp4
       haveI := hs4.i
       clear hs2 hp4
       go_wp2_with fail
       refine (markH L4 ts.cap ts.its no true _ _ (takeI (lruI L4 ts.cap ts.its)) HP.out.2).mono ?_
       rintro e w5 ⟨rfl, hs5⟩
       go_wp2
       go_ret
       refine ⟨rfl, Sat.cache_shut (L := L4) (PM := PM4) (ps := ps4) HP4.out (hs5.eq ?_)⟩
       show _ = coreC C L4 D PM4 ts * (lruI L4 ts.cap (markI ts.its no true) * (diskP D ts.d * (mp ikey PM4 (ps4.map kvP) * pagesA ps4))) * _
       ac_rfl
     · rw [if_neg hz]
       have hz2 : (tc != 0) = true := by simpa using hz
       clear hz
       go_enter Tryz.func195, Tryz.ntmps195
       go_wp2_with fail
       refine hu.mono ?_
       rintro e w2 ⟨rfl, hs2⟩
       clear hu hs1
       go_wp2_with fail
       refine (HTK.out F _ (Sat.cache_shut (L := L) (PM := PM) (ps := ps) HP.out.1 (hs2.eq (by unfold cacheA; ac_rfl)))).mono ?_
       rintro e w4 ⟨rfl, hs4⟩
       go_wp2
       go_ret
       exact ⟨rfl, hs4⟩
end Go.Proofs.YtfhbmblbidcmmaaGreat
namespace Go.Proofs.YtfhbmblbidcmmaaGreat
set_option linter.unusedSimpArgs false
set_option linter.unusedVariables false
open Go.RowKit Go.Sl Go.Dk
open Go.Lru (ikey)
attribute [local go_sem ↓] Go.wp_at_zero Go.wp_at_succ
attribute [local go_sem] Go.Sl.cell_sat Go.Sl.frozen_sat look_PM len_PM put_PM del_PM
theorem write_anyC (C D : Nat) (s : Ck) (m : Nat) (no : Int) (F : Assn) (w : World) (hs : Sat (cacheP C D s * F) w) (ok : CkOk m s) (hm : m ≤ 549755813888) (h0 : 0 ≤ no) (h1 : no < 1048576) :
 Calls Tryz.prog 101 #[.pointer (some ⟨C, 0, none⟩), .int .i64 no] w fun e w' => e = .returned (.int .i64 (s.write no).1) ∧ Sat (cacheP C D (s.write no).2 * F) w' := by
 obtain ⟨L, PM, ps, hp, hs1⟩ := Sat.cache_open hs
 refine (write_go C L D PM ps s m no F w hs1 hp ok hm h0 h1).mono ?_
 rintro e w' ⟨h2, h3⟩
 exact ⟨h2, Sat.cache_shut (by rw [(write_same s no).2.2.2.1]; exact hp) h3⟩
theorem write_has (s : Ck) (no k : Int) : hasI (s.write no).2.its k = hasI s.its k := by
 rcases (write_same s no).2.2.2.2 with e | e
 · rw [e]
 · rw [e, has_mark]
set_option maxRecDepth 100000 in
set_option maxHeartbeats 1000000 in
theorem flush_any (C D : Nat) (s : Ck) (m : Nat) (F : Assn) (w : World) (hs : Sat (cacheP C D s * F) w) (ok : CkOk m s) (hm : m + s.its.length * U ≤ 549755813888) :
 Calls Tryz.prog 36 #[.pointer (some ⟨C, 0, none⟩)] w fun e w' => e = .returned (.int .i64 s.flush.1) ∧ Sat (cacheP C D s.flush.2 * F) w' := by
 obtain ⟨R, HR⟩ : ∃ R, Aside (Ck.writes (markedI s.its) s = R) := ⟨_, rfl⟩
 have HFL : Aside (s.flush = if R.1 = 0 then ((if (R.2.d.sync R.2.nm).1 = 6 then 0 else (R.2.d.sync R.2.nm).1), { R.2 with d := (R.2.d.sync R.2.nm).2 }) else R) := by
  show _ = _
  unfold Ck.flush; rw [HR.out]
 obtain ⟨Z, HZ⟩ : ∃ Z, Aside (s.flush = Z) := ⟨_, rfl⟩
 rw [HZ.out]
 rw [HZ.out] at HFL
 clear HZ
 obtain ⟨L, PM, ps, hp, hs1⟩ := Sat.cache_open hs
 unfold cacheA at hs1
 have hmk := markedH L s.cap s.its _ w (hs1.take (lruI L s.cap s.its)) ok.lru
 have hzs : ∀ z ∈ markedI s.its, hasI s.its z = true := by
  intro z hz
  exact dirty_has (s := s) (by unfold Ck.dirty; exact List.contains_iff_mem.2 hz)
 have hzl : (markedI s.its).length ≤ s.its.length := by
  unfold markedI sortI
  rw [(List.mergeSort_perm _ _).length_eq, List.length_map]
  exact List.length_filter_le _ _
 obtain ⟨zs, hzz⟩ : ∃ zs, markedI s.its = zs := ⟨_, rfl⟩
 rw [hzz] at hmk hzs hzl HR
 have HP : Aside (pgents ps = s.pgs ∧ (∀ z ∈ zs, hasI s.its z = true) ∧ CkOk m s ∧ m + zs.length * U ≤ 549755813888 ∧ zs.length ≤ 4096) := ⟨hp, hzs, ok, by have := Nat.mul_le_mul_right U hzl; omega, by have := ok.lru.len; omega⟩
 haveI := hs1.i
 clear hzz hzs hzl hs hp ok hm
 go_enter Tryz.func36, Tryz.ntmps36
 go_wp2_with fail
 refine hmk.mono ?_
 rintro e w1 ⟨a, n, c, rfl, hs2⟩
 have hn : n = zs.length := by have := hs2.rw_len; simpa using this
 subst hn
 obtain ⟨R0, hR0⟩ : ∃ R0, rw 3 1 (.slice a zs.length c) (zs.map (Value.int .i64)) = R0 := ⟨_, rfl⟩
 have hI : ∀ F w, Sat (R0 * F) w → Ints w (.slice a zs.length c) zs := by intro F w h; rw [← hR0] at h; exact Ints.of_rw h
 have hs3 : Sat (R0 * (cacheP C D s * F)) w1 := by
  rw [hR0] at hs2
  have h3 := Sat.cache_shut (L := L) (PM := PM) (ps := ps) (C := C) (D := D) (s := s) (F := R0 * F) (w := w1) HP.out.1 (hs2.eq (by unfold cacheA; ac_rfl))
  exact h3.eq (by ac_rfl)
 have HI : Aside (∀ F w, Sat (R0 * F) w → Ints w (.slice a zs.length c) zs) := hI
 have hzl : zs.length ≤ 4096 := HP.out.2.2.2.2
 clear hmk hs1 hs2 hR0 hI
 go_wp2_with fail
 go_loopg [15] zs.length (fun k t15 wr => ∃ (j : Nat) (t : Ck), t15 = .int .i64 j ∧ j ≤ zs.length ∧ Aside (k = zs.length - j ∧ Ck.writes (zs.drop j) t = R ∧ CkOk (m + j * U) t ∧ (∀ z, hasI t.its z = hasI s.its z)) ∧ Sat (R0 * (cacheP C D t * F)) wr)
 case atStart => exact ⟨0, s, rfl, by omega, ⟨rfl, HR.out, by simpa using HP.out.2.2.1, fun _ => rfl⟩, hs3⟩
 case round =>
  clear hs3
  obtain ⟨j, t, rfl, hj, A, hs⟩ := hrel
  by_cases hlt : j < zs.length
  · have hlt' : (j : Int) < zs.length := by omega
    obtain ⟨z, hz⟩ : ∃ z, zs[j]? = some z := ⟨zs[j], by simp [hlt]⟩
    obtain ⟨hk, hwr, hok, hhas⟩ := A.out
    have hzh : hasI t.its z = true := by rw [hhas]; exact HP.out.2.1 z (List.mem_of_getElem? hz)
    obtain ⟨b0, _, _, hz0, hz1⟩ := hok.key hzh
    have hmj : m + j * U + U ≤ 549755813888 := by
     have := HP.out.2.2.2.1
     have h2 : (j + 1) * U ≤ zs.length * U := Nat.mul_le_mul_right U hlt
     rw [Nat.add_mul] at h2
     omega
    have hw := write_anyC C D t (m + j * U) z (R0 * F) wr (hs.eq (by ac_rfl)) hok (by omega) hz0 hz1
    have hw2 := write_ok hok hzh
    have hdr : zs.drop j = z :: zs.drop (j + 1) := by
     rw [List.drop_eq_getElem_cons hlt]
     congr 1
     rw [List.getElem?_eq_getElem hlt] at hz; exact Option.some.inj hz
    rw [hdr] at hwr
    have hwr2 : (if (t.write z).1 = 0 then Ck.writes (zs.drop (j + 1)) (t.write z).2 else t.write z) = R := hwr
    have hhas2 : ∀ y, hasI (t.write z).2.its y = hasI s.its y := by
     intro y; rw [← hhas y, write_has]
    obtain ⟨⟨rc, rs⟩, hrr⟩ : ∃ x, t.write z = x := ⟨_, rfl⟩
    rw [hrr] at hw hw2 hwr2 hhas2
    simp only at hw hw2 hwr2 hhas2
    obtain ⟨b, o, rfl, hc⟩ := (HI.out _ _ hs).at hz
    have HK : Aside (gk = zs.length - j) := hk
    have HH : Aside (∀ y, hasI rs.its y = hasI s.its y) := hhas2
    have HO : Aside (CkOk (m + (j + 1) * U) rs) := hw2.more (by rw [Nat.add_mul]; omega)
    by_cases hzz : rc = 0
    · subst hzz
      rw [if_pos rfl] at hwr2
      have HW : Aside (Ck.writes (zs.drop (j + 1)) rs = R) := hwr2
      clear A hz hk hwr hok hhas hzh hz0 hz1 hmj hw2 hdr hwr2 hhas2 hrr
      go_wp2_with fail
      refine hw.mono ?_
      rintro e w3 ⟨rfl, hs3⟩
      clear hw hs hc
      go_wp2_with fail
      go_roundg (zs.length - (j + 1))
      case measure => have := HK.out; omega
      case rel => exact ⟨j + 1, rs, by go_num, by omega, ⟨rfl, HW.out, HO.out, HH.out⟩, hs3.eq (by ac_rfl)⟩
    · rw [if_neg hzz] at hwr2
      have hz2 : (rc != 0) = true := by simpa using hzz
      have HW : Aside (Z = (rc, rs)) := by
       show _ = _
       rw [HFL.out, ← hwr2, if_neg hzz]
      clear A hz hk hwr hok hhas hzh hz0 hz1 hmj hw2 hdr hwr2 hhas2 hrr hzz
      go_wp2_with fail
      refine hw.mono ?_
      rintro e w3 ⟨rfl, hs3⟩
      clear hw hs hc
      go_wp2
      go_ret
      rw [HW.out]
      exact ⟨rfl, (hs3.eq (sep_left _ _ _)).right⟩
  · have hlt' : ¬ (j : Int) < zs.length := by omega
    obtain ⟨hk, hwr, hok, hhas⟩ := A.out
    rw [List.drop_of_length_le (by omega)] at hwr
    have hwr2 : (0, t) = R := hwr
    have HZ : Aside (Z = ((if (t.d.sync t.nm).1 = 6 then 0 else (t.d.sync t.nm).1), { t with d := (t.d.sync t.nm).2 })) := by
     show _ = _
     rw [HFL.out, ← hwr2, if_pos rfl]
    have hmj : m + j * U ≤ 549755813888 := by
     have := HP.out.2.2.2.1
     have h2 : j * U ≤ zs.length * U := Nat.mul_le_mul_right U hj
     omega
    have hnm : t.nm.size ≤ 9223372036854775807 := named_size hok.nm
    have hsc := fun F w h => sync_any D t.d (m + j * U) t.nm F w h hnm hok.dk (by unfold big; omega)
    obtain ⟨⟨rc, rd⟩, hrr⟩ : ∃ x, t.d.sync t.nm = x := ⟨_, rfl⟩
    rw [hrr] at hsc HZ
    simp only at hsc HZ
    have HSC : Aside (∀ (F : Assn) (w : World), Sat (diskP D t.d * F) w → Calls Tryz.prog 102 #[.pointer (some ⟨D, 0, none⟩), .string t.nm] w fun e w' => e = .returned (.int .i64 rc) ∧ Sat (diskP D rd * F) w') := hsc
    obtain ⟨L5, PM5, ps5, hp5, hs5⟩ := Sat.cache_open (hs.right)
    unfold cacheA at hs5
    have HP5 : Aside (pgents ps5 = t.pgs) := hp5
    haveI := hs5.i
    clear A hk hwr hok hhas hwr2 hmj hsc hrr HFL hp5 hs
    have hshut : Aside (∀ w, Sat (diskP D rd * (coreC C L5 D PM5 t * (lruI L5 t.cap t.its * (mp ikey PM5 (ps5.map kvP) * pagesA ps5)) * F)) w → Sat (cacheP C D { t with d := rd } * F) w) := by
     intro w h
     refine Sat.cache_shut (L := L5) (PM := PM5) (ps := ps5) HP5.out (h.eq ?_)
     show _ = coreC C L5 D PM5 t * (lruI L5 t.cap t.its * (diskP D rd * (mp ikey PM5 (ps5.map kvP) * pagesA ps5))) * F
     ac_rfl
    by_cases h6 : rc = 6
    · subst h6
      have HZ2 : Aside (Z = (0, { t with d := rd })) := by show _ = _; rw [HZ.out, if_pos rfl]
      clear HZ
      go_upto_region 10 with (fail)
      go_region_held3 (fun w' => w'.cell? ⟨C, 1, none⟩ = some (.pointer (some ⟨D, 0, none⟩)) ∧ w'.cell? ⟨C, 2, none⟩ = some (.string t.nm)) (first | exact ⟨cell_sat _ _ _, cell_sat _ _ _⟩) (first
       | (go_at_call 102; refine (HSC.out _ _ (takeI (diskP D t.d))).mono ?_; rintro e w6 ⟨rfl, hs6⟩; haveI := hs6.i))
      all_goals
       go_wp2
       go_ret
       rw [HZ2.out]
       exact ⟨rfl, hshut.out _ (hs6.eq (by ac_rfl))⟩
    · have HZ2 : Aside (Z = (rc, { t with d := rd })) := by show _ = _; rw [HZ.out, if_neg h6]
      clear HZ
      have h6' : (rc != 6) = true := by simpa using h6
      by_cases h0 : rc = 0
      · subst h0
        clear h6 h6'
        go_upto_region 10 with (fail)
        go_region_held3 (fun w' => w'.cell? ⟨C, 1, none⟩ = some (.pointer (some ⟨D, 0, none⟩)) ∧ w'.cell? ⟨C, 2, none⟩ = some (.string t.nm)) (first | exact ⟨cell_sat _ _ _, cell_sat _ _ _⟩) (first
         | (go_at_call 102; refine (HSC.out _ _ (takeI (diskP D t.d))).mono ?_; rintro e w6 ⟨rfl, hs6⟩; haveI := hs6.i))
        all_goals
         go_wp2
         go_ret
         rw [HZ2.out]
         exact ⟨rfl, hshut.out _ (hs6.eq (by ac_rfl))⟩
      · have h0' : (rc != 0) = true := by simpa using h0
        clear h6 h0
        go_upto_region 10 with (fail)
        go_region_held3 (fun w' => w'.cell? ⟨C, 1, none⟩ = some (.pointer (some ⟨D, 0, none⟩)) ∧ w'.cell? ⟨C, 2, none⟩ = some (.string t.nm)) (first | exact ⟨cell_sat _ _ _, cell_sat _ _ _⟩) (first
         | (go_at_call 102; refine (HSC.out _ _ (takeI (diskP D t.d))).mono ?_; rintro e w6 ⟨rfl, hs6⟩; haveI := hs6.i))
        all_goals
         go_wp2
         go_ret
         rw [HZ2.out]
         exact ⟨rfl, hshut.out _ (hs6.eq (by ac_rfl))⟩
end Go.Proofs.YtfhbmblbidcmmaaGreat
namespace Go.Proofs.YtfhbmblbidcmmaaGreat
set_option linter.unusedSimpArgs false
set_option linter.unusedVariables false
open Go.RowKit Go.Sl Go.Dk
open Go.Lru (ikey)
attribute [local go_sem ↓] Go.wp_at_zero Go.wp_at_succ
attribute [local go_sem] Go.Sl.cell_sat Go.Sl.frozen_sat look_PM len_PM put_PM del_PM
def lenOk (s : ByteArray) : Bool := decide (1 ≤ s.size) && decide (s.size ≤ 16)
theorem named_eq (s : ByteArray) : Dk.named s = (s.data.toList.all lowc && lenOk s) := by
 unfold Dk.named lenOk lowc
 rw [Bool.and_comm]
set_option maxHeartbeats 400000 in
theorem namedC_any (s : ByteArray) (w : World) (hs : s.size ≤ 9223372036854775807) :
 Calls Tryz.prog 111 #[.string s] w fun e w' => e = .returned (.bool (Dk.named s)) ∧ w = w' := by
 obtain ⟨r, HR⟩ : ∃ r, Aside (Dk.named s = r) := ⟨_, rfl⟩
 rw [HR.out]
 go_enter Tryz.func111, Tryz.ntmps111
 go_wp2
 go_loop [6] (fun i => ∃ k : Nat, k ≤ s.size ∧ i = .int .i64 k ∧ Aside ((s.data.toList.take k).all lowc = true)) (fun i => s.size - (intOf i).toNat)
 case atStart => exact ⟨0, Nat.zero_le _, rfl, by simp [Aside]⟩
 case round =>
  obtain ⟨k, hk, rfl, A⟩ := hrel
  by_cases hlt : k < s.size
  · have hb := s[k].toNat_lt
    by_cases c1 : s[k].toNat < 97
    · have HF : Aside (r = false) := by
       have := named_bad hlt (show lowc s[k] = false by unfold lowc; simp; omega)
       show _ = _
       rw [← HR.out, named_eq, this]; rfl
      go_wp2
      go_ret
      exact ⟨by rw [HF.out]; rfl, rfl⟩
    · by_cases c2 : 122 < s[k].toNat
      · have HF : Aside (r = false) := by
         have := named_bad hlt (show lowc s[k] = false by unfold lowc; simp; omega)
         show _ = _
         rw [← HR.out, named_eq, this]; rfl
        go_wp2
        go_ret
        exact ⟨by rw [HF.out]; rfl, rfl⟩
      · have HA : Aside ((s.data.toList.take (k + 1)).all lowc = true) := by
         show _ = true
         rw [all_take_snoc s k hlt, A.out]
         unfold lowc; simp; omega
        go_wp2
        go_round
        case rel => exact ⟨k + 1, by omega, by go_num, HA⟩
        case measure => simp [intOf]; omega
  · have HF : Aside (r = lenOk s) := by
     have := A.out
     rw [List.take_of_length_le (by simp; omega)] at this
     show _ = _
     rw [← HR.out, named_eq, this]; rfl
    clear A
    by_cases h1 : 1 ≤ s.size
    · by_cases h2 : s.size ≤ 16
      · have HL : Aside (lenOk s = true) := by show _ = _; simp [lenOk, h1, h2]
        have h2' : decide ((s.size : Int) ≤ 16) = true := by simp; omega
        go_wp2
        go_ret
        exact ⟨by rw [HF.out, HL.out]; rfl, rfl⟩
      · have HL : Aside (lenOk s = false) := by show _ = _; simp [lenOk, h2]
        have h2' : decide ((s.size : Int) ≤ 16) = false := by simp; omega
        go_wp2
        go_ret
        exact ⟨by rw [HF.out, HL.out]; rfl, rfl⟩
    · have HL : Aside (lenOk s = false) := by show _ = _; simp [lenOk, h1]
      go_wp2
      go_ret
      exact ⟨by rw [HF.out, HL.out]; rfl, rfl⟩
set_option maxHeartbeats 400000 in
theorem newC_yes (D : Nat) (d : Dk) (nm : ByteArray) (cap : Int) (F : Assn) (w : World) (hs : Sat (diskP D d * F) w) (hn : Dk.named nm = true) (h1 : 1 ≤ cap) (h2 : cap ≤ 4096) :
 Calls Tryz.prog 46 #[.pointer (some ⟨D, 0, none⟩), .string nm, .int .i64 cap] w fun e w' => ∃ C, e = .returned (.tuple #[.pointer (some ⟨C, 0, none⟩), .int .i64 0]) ∧ Sat (cacheP C D ⟨nm, cap, 0, d, [], []⟩ * F) w' := by
 have hnm := namedC_any nm w (named_size hn)
 rw [hn] at hnm
 have hnew := new_yes cap _ w hs h1 h2
 have hmm := @run_makeMap Tryz.prog
 go_enter Tryz.func46, Tryz.ntmps46
 go_wp2_with fail
 refine hnm.mono ?_
 rintro e w' ⟨rfl, rfl⟩
 go_wp2_with fail
 refine hnew.mono ?_
 rintro e w1 ⟨L, M, rfl, hs1⟩
 have a0 := Sat.lru_shut (its := []) rfl hs1
 have a1 := a0.alloc_raw (.map #[] 0)
 have a2 := a1.alloc #[.pointer (some ⟨L, 0, none⟩), .pointer (some ⟨D, 0, none⟩), .string nm, .int .i64 cap, .map (some w1.heap.size), .int .i64 0] TC
 have e : (w1.alloc (.map #[] 0)).heap.size = w1.heap.size + 1 := by simp
 rw [e] at a2
 have a3 := Sat.mp_shut (kf := ikey) (ms := []) (b := w1.heap.size) (o := .map #[] 0) ⟨#[], 0, rfl, rfl, by simp, by simp⟩ (a2.take (raw w1.heap.size _))
 clear a0 a1 a2 e hs hs1 hnm hnew
 go_wp2
 go_ret2
 refine ⟨w1.heap.size + 1, rfl, ?_⟩
 refine Sat.cache_shut (L := L) (PM := w1.heap.size) (ps := []) rfl (a3.eq ?_)
 unfold cacheA coreC
 simp only [block, Sl.cells, pagesA, List.map_nil, one_sep, sep_one, List.length_cons, List.length_nil, Nat.zero_add, Nat.reduceAdd]
 ac_rfl
/-! what always holds is kept -/
theorem ck_use {m : Nat} {s : Ck} (ok : CkOk m s) (k : Int) : CkOk m { s with its := useI s.its k } :=
 ⟨ok_use ok.lru k, ok.nd, fun j => by show hasI (useI s.its k) j = _; rw [hasI_keys (fun _ => use_mem)]; exact ok.same j, by show _ = (useI s.its k).length; rw [(useI_perm s.its k).length_eq]; exact ok.len, ok.page, ok.cap, by show ((useI s.its k).length : Int) ≤ _; rw [(useI_perm s.its k).length_eq]; exact ok.most, ok.dk, ok.nm, ok.reads⟩
theorem get_ok {m : Nat} {s : Ck} (ok : CkOk m s) (no : Int) : CkOk (m + U) (s.get no).2.2 := by
 unfold Ck.get
 split
 · exact ok.more (by omega)
 split
 · exact (ck_use ok no).more (by omega)
 · rename_i hr hh
   have hh' : hasI s.its no = false := by simpa using hh
   simp only
   split
   · rename_i hz
     have hl : (s.d.read s.nm (no * 256) 256).2.length = 256 := read_len (n := 256) hz
     have ht := take_ok ok hh' (by omega) (by omega) hl
     split
     · exact ⟨ht.lru, ht.nd, ht.same, ht.len, ht.page, ht.cap, ht.most, ht.dk, ht.nm, by
        have h2 : (s.take no (s.d.read s.nm (no * 256) 256).2).2.reads = s.reads := take_reads s no _
        have := ok.reads
        show 0 ≤ (s.take no (s.d.read s.nm (no * 256) 256).2).2.reads + 1 ∧ (s.take no (s.d.read s.nm (no * 256) 256).2).2.reads + 1 ≤ ((m + U : Nat) : Int)
        rw [h2]; unfold U; omega⟩
     · exact ht
   · exact ok.more (by omega)
theorem put_ok {m : Nat} {s : Ck} (ok : CkOk m s) (no : Int) (b : List UInt8) : CkOk (m + U) (s.put no b).2 := by
 unfold Ck.put
 split
 · exact ok.more (by omega)
 split
 · rename_i hr hh
   have h1 := (ck_use ok no).mark no true
   have hp : (pget no s.pgs).isSome = true := by rw [← ok.same]; exact hh
   refine CkOk.more (m := m) ⟨h1.lru, ?_, ?_, ?_, ?_, h1.cap, h1.most, h1.dk, h1.nm, h1.reads⟩ (by omega)
   · show ((pput no b s.pgs).map (·.1)).Nodup
     rw [pput_keys, hp]; exact ok.nd
   · intro k
     show hasI (markI (useI s.its no) no true) k = (pget k (pput no b s.pgs)).isSome
     rw [h1.same k, pget_pput]
     show (pget k s.pgs).isSome = _
     split
     · rename_i e; subst e; rw [hp]; rfl
     · rfl
   · show (pput no b s.pgs).length = (markI (useI s.its no) no true).length
     rw [pput_len, hp]
     exact h1.len
   · intro p hp'
     exact pput_page (by omega) (by omega) (by omega) ok.page p hp'
 · rename_i hr hh
   have hh' : hasI s.its no = false := by simpa using hh
   have ht := take_ok (b := b) ok hh' (by omega) (by omega) (by omega)
   split
   · exact ht.mark no true
   · exact ht
theorem writes_ok : ∀ (l : List Int) {m : Nat} {s : Ck}, CkOk m s → (∀ k ∈ l, hasI s.its k = true) → CkOk (m + l.length * U) (Ck.writes l s).2 ∧ (Ck.writes l s).2.nm = s.nm
 | [], m, s, ok, _ => ⟨ok.more (by omega), rfl⟩
 | k :: l, m, s, ok, h => by
   have h1 := write_ok ok (h k (by simp))
   have e : (k :: l).length * U = l.length * U + U := by rw [List.length_cons, Nat.add_mul]; omega
   unfold Ck.writes
   split
   · obtain ⟨h2, h3⟩ := writes_ok l h1 fun j hj => by rw [write_has]; exact h j (by simp [hj])
     exact ⟨h2.more (by rw [e]; omega), by rw [h3]; exact (write_same s k).1⟩
   · exact ⟨h1.more (by rw [e]; omega), (write_same s k).1⟩
theorem marked_len (its : List It) : (markedI its).length ≤ its.length := by
 unfold markedI sortI
 rw [(List.mergeSort_perm _ _).length_eq, List.length_map]
 exact List.length_filter_le _ _
theorem marked_mem {its : List It} {z : Int} : z ∈ markedI its ↔ ∃ n ∈ its, n.mkd = true ∧ n.key = z := by
 unfold markedI
 rw [sortI_mem, List.mem_map]
 constructor
 · rintro ⟨n, h1, h2⟩; exact ⟨n, (List.mem_filter.1 h1).1, (List.mem_filter.1 h1).2, h2⟩
 · rintro ⟨n, h1, h2, h3⟩; exact ⟨n, List.mem_filter.2 ⟨h1, h2⟩, h3⟩
theorem marked_has {its : List It} {z : Int} (h : z ∈ markedI its) : hasI its z = true := by
 obtain ⟨n, h1, _, h3⟩ := marked_mem.1 h
 exact hasI_iff.2 (List.mem_map.2 ⟨n, h1, h3⟩)
theorem flush_ok {m : Nat} {s : Ck} (ok : CkOk m s) : CkOk (m + s.its.length * U + 1) s.flush.2 := by
 obtain ⟨h, hn⟩ := writes_ok (markedI s.its) ok fun k hk => marked_has hk
 have hl := Nat.mul_le_mul_right U (marked_len s.its)
 unfold Ck.flush
 simp only
 split
 · have h2 := ok_sync h.dk (Ck.writes (markedI s.its) s).2.nm
   exact h.disk (by omega) (ok_more h2 (by omega))
 · exact h.more (by omega)
end Go.Proofs.YtfhbmblbidcmmaaGreat
namespace Go.Proofs.YtfhbmblbidcmmaaGreat
set_option linter.unusedSimpArgs false
set_option linter.unusedVariables false
open Go.Dk
def fnow (d : Dk) (nm : ByteArray) : List UInt8 := ((d.get nm).getD Dk.fl0).now
def fsure (d : Dk) (nm : ByteArray) : Bool := ((d.get nm).getD Dk.fl0).sure
def fsafe (d : Dk) (nm : ByteArray) : List UInt8 := ((d.get nm).getD Dk.fl0).safe
theorem laid_keep {l b : List UInt8} {k p q : Nat} (hp : p + q ≤ l.length) (h : k + b.length ≤ p ∨ p + q ≤ k) : ((laid l k b).drop p).take q = (l.drop p).take q := by
 apply List.ext_getElem?
 intro i
 by_cases hi : i < q
 · rw [List.getElem?_take_of_lt hi, List.getElem?_take_of_lt hi, List.getElem?_drop, List.getElem?_drop]
   unfold laid
   rcases h with h | h
   · have h1 : ((l ++ List.replicate (k + b.length - l.length) 0).take k).length = k := by simp; omega
     rw [List.getElem?_append_right (by rw [List.length_append, h1]; omega), List.length_append, h1, List.getElem?_drop]
     congr 1; omega
   · have h1 : ((l ++ List.replicate (k + b.length - l.length) 0).take k).length = k := by simp; omega
     rw [List.append_assoc, List.getElem?_append_left (by rw [h1]; omega), List.getElem?_take_of_lt (by omega), List.getElem?_append_left (by omega)]
 · rw [List.getElem?_eq_none (by simp; omega), List.getElem?_eq_none (by simp; omega)]
theorem laid_at {l b : List UInt8} {k : Nat} : ((laid l k b).drop k).take b.length = b := by
 unfold laid
 have h1 : ((l ++ List.replicate (k + b.length - l.length) 0).take k).length = k := by simp; omega
 rw [List.append_assoc, List.drop_append_of_le_length (by rw [h1]; omega), List.drop_of_length_le (by rw [h1]; omega), List.nil_append, List.take_left']
 rfl
def oth (d : Dk) (nm : ByteArray) : Int := (sum d.files : Int) - had (d.get nm)
theorem sum_fput (nm : ByteArray) (f : Fl) : ∀ l : List (ByteArray × Fl), (sum (fput nm f l) : Int) = sum l - had (fget nm l) + f.now.length
 | [] => by simp [sum, fput, fget, had]
 | p :: l => by
   have ih := sum_fput nm f l
   have e1 : fput nm f (p :: l) = if nm = p.1 then (nm, f) :: l else p :: fput nm f l := rfl
   have e2 : fget nm (p :: l) = if nm = p.1 then some p.2 else fget nm l := rfl
   have e3 : ∀ (q : ByteArray × Fl) (m : List (ByteArray × Fl)), sum (q :: m) = q.2.now.length + sum m := fun q m => by simp [sum]
   rw [e1, e2]
   by_cases h : nm = p.1
   · rw [if_pos h, if_pos h, e3, e3]
     have e4 : had (some p.2) = p.2.now.length := rfl
     have e5 : ((nm, f) : ByteArray × Fl).2.now.length = f.now.length := rfl
     rw [e4, e5]
     omega
   · rw [if_neg h, if_neg h, e3, e3]
     omega
theorem oth_put {d d' : Dk} {nm : ByteArray} {f : Fl} (h : d'.files = fput nm f d.files) : oth d' nm = oth d nm := by
 have h1 := sum_fput nm f d.files
 have h2 : had (d'.get nm) = f.now.length := by
  unfold Dk.get
  rw [h, fget_fput, if_pos rfl]
  rfl
 unfold oth
 rw [h2, h, h1]
 unfold Dk.get
 omega
structure Fine (d : Dk) (nm : ByteArray) : Prop where
 down : d.down = false
 armed : d.armed = false
 nmd : Dk.named nm = true
 nf : d.files.length + (if (d.get nm).isSome then 0 else 1) ≤ 8
structure Wr (d : Dk) (nm : ByteArray) (k : Nat) (b : List UInt8) (d' : Dk) : Prop where
 le : k ≤ (fnow d nm).length
 ne : b.length ≠ 0
 fine : Fine d' nm
 now : fnow d' nm = laid (fnow d nm) k b
 safe : fsafe d' nm = fsafe d nm
 sure : fsure d' nm = fsure d nm
 pend : d'.pend = d.pend ++ sect nm k b
 room : d'.room = d.room
 other : ∀ n, n ≠ nm → d'.get n = d.get n
 only : oth d' nm = oth d nm
 isS : (d'.get nm).isSome = true
theorem had_fnow (d : Dk) (nm : ByteArray) : had (d.get nm) = (fnow d nm).length := by
 unfold had fnow
 cases d.get nm <;> simp [Dk.fl0]
theorem dk_wr {d : Dk} {nm : ByteArray} (g : Fine d nm) {k : Nat} {b : List UInt8} (hk : k ≤ (fnow d nm).length) (hb : b.length ≠ 0) :
 (d.write nm k b = (7, d) ∨ ((d.write nm k b).1 = 0 ∧ Wr d nm k b (d.write nm k b).2)) ∧
 (oth d nm + ((max (fnow d nm).length (k + b.length) : Nat) : Int) ≤ d.room → (d.write nm k b).1 = 0) := by
 have hm : d.may nm false = 0 := may_new g.nmd g.down
 have hh := had_fnow d nm
 have hst : d.stop = false := by unfold Dk.stop; simp [g.armed]
 have hnf : ¬ (((d.get nm).isNone && decide (16 ≤ d.files.length)) = true) := by
  have := g.nf
  simp
  intro _
  omega
 have e : d.write nm k b = if d.fits (d.get nm) (max (had (d.get nm)) (k + b.length)) ≠ 0 then (d.fits (d.get nm) (max (had (d.get nm)) (k + b.length)), d) else (0, d.written nm k b) := by
  unfold Dk.write
  rw [if_neg (by simp [hm]), if_neg (by rw [hh]; omega), if_neg hb]
  split
  · rfl
  · rw [if_neg (by simp [hst])]; rfl
 have hf : d.fits (d.get nm) (max (had (d.get nm)) (k + b.length)) = 0 ∨ d.fits (d.get nm) (max (had (d.get nm)) (k + b.length)) = 7 := by
  unfold Dk.fits
  rw [if_neg hnf]
  split
  · exact .inr rfl
  · exact .inl rfl
 have hW : Wr d nm k b (d.written nm k b) := by
  have hg : (d.written nm k b).get nm = some { (d.get nm).getD Dk.fl0 with now := laid ((d.get nm).getD Dk.fl0).now k b } := by
   unfold Dk.get Dk.written Dk.put
   simp only
   rw [fget_fput, if_pos rfl]
   rfl
  refine ⟨hk, hb, ⟨g.down, g.armed, g.nmd, ?_⟩, ?_, ?_, by (unfold fsure; rw [hg]; rfl), rfl, rfl, ?_, ?_, by rw [hg]; rfl⟩
  · rw [hg]
    show (fput nm _ d.files).length + _ ≤ 8
    rw [fput_len]
    have := g.nf
    unfold Dk.get at this
    simp only [Option.isSome_some, if_true]
    split
    · rename_i h; rw [if_pos h] at this; omega
    · rename_i h; rw [if_neg h] at this; omega
  · unfold fnow; rw [hg]; rfl
  · unfold fsafe; rw [hg]; rfl
  · intro n hn
    unfold Dk.get Dk.written Dk.put
    simp only
    rw [fget_fput, if_neg hn]
    rfl
  · exact oth_put rfl
 constructor
 · rcases hf with h | h
   · right
     rw [e, if_neg (by simp [h])]
     exact ⟨rfl, hW⟩
   · left
     rw [e, if_pos (by rw [h]; decide), h]
 · intro hr
   have h : d.fits (d.get nm) (max (had (d.get nm)) (k + b.length)) = 0 := by
    unfold Dk.fits
    rw [if_neg hnf, if_neg]
    unfold oth at hr
    simp
    intro _
    rw [hh] at *
    omega
   rw [e, if_neg (by simp [h])]
/-! pages of a file -/
def Filed (l : List UInt8) (k : Int) (b : List UInt8) : Prop := 0 ≤ k ∧ 256 * k.toNat + 256 ≤ l.length ∧ (l.drop (256 * k.toNat)).take 256 = b
theorem Wr.filed {d d' : Dk} {nm : ByteArray} {k : Nat} {b : List UInt8} (h : Wr d nm k b d') {j : Int} {c : List UInt8} (hf : Filed (fnow d nm) j c) (hd : k + b.length ≤ 256 * j.toNat ∨ 256 * j.toNat + 256 ≤ k) : Filed (fnow d' nm) j c := by
 obtain ⟨h0, h1, h2⟩ := hf
 refine ⟨h0, ?_, ?_⟩
 · rw [h.now, laid_len]; omega
 · rw [h.now, laid_keep h1 hd]; exact h2
theorem Wr.page {d d' : Dk} {nm : ByteArray} {j : Int} {b : List UInt8} (h : Wr d nm (256 * j.toNat) b d') (hb : b.length = 256) (h0 : 0 ≤ j) : Filed (fnow d' nm) j b := by
 refine ⟨h0, ?_, ?_⟩
 · rw [h.now, laid_len, hb]; omega
 · rw [h.now]
   have := laid_at (l := fnow d nm) (b := b) (k := 256 * j.toNat)
   rw [hb] at this
   exact this
theorem size_fnow {d : Dk} {nm : ByteArray} (g : Fine d nm) : max 0 (d.size nm) = ((fnow d nm).length : Int) := by
 unfold Dk.size fnow
 by_cases h : (d.get nm).isSome = true
 · obtain ⟨f, hf⟩ := Option.isSome_iff_exists.1 h
   rw [if_neg (by rw [may_there g.nmd g.down hf]; simp)]
   omega
 · have hn : d.get nm = none := by simpa using h
   rw [if_pos (by rw [may_six g.nmd g.down hn]; decide), hn]
   simp [Dk.fl0]
   rfl
theorem write_steps {m : Nat} {s : Ck} (ok : CkOk m s) (g : Fine s.d s.nm) {no : Int} {b : List UInt8} (hd : s.dirty no = true) (hb : pget no s.pgs = some b) :
 (∃ d1, (d1 = s.d ∨ ∃ n, Wr s.d s.nm (fnow s.d s.nm).length (List.replicate n 0) d1 ∧ (fnow s.d s.nm).length + n = 256 * no.toNat) ∧ Fine d1 s.nm ∧
   (s.write no = (7, { s with d := d1 }) ∨ ∃ d2, Wr d1 s.nm (256 * no.toNat) b d2 ∧ s.write no = (0, { s with d := d2, its := markI s.its no false }))) ∧
 (oth s.d s.nm + ((max (fnow s.d s.nm).length (256 * no.toNat + 256) : Nat) : Int) ≤ s.d.room → (s.write no).1 = 0) := by
 obtain ⟨hl, h0, h1⟩ := ok.page _ (pget_mem hb)
 simp only at hl h0 h1
 have hp : ∀ d, Ck.page { s with d := d } no = b := by intro d; unfold Ck.page; rw [hb]; rfl
 have hno : no * 256 = ((256 * no.toNat : Nat) : Int) := by omega
 have step2 : ∀ d1, Fine d1 s.nm → 256 * no.toNat ≤ (fnow d1 s.nm).length →
  ((Ck.write2 { s with d := d1 } no = (7, { s with d := d1 }) ∨ ∃ d2, Wr d1 s.nm (256 * no.toNat) b d2 ∧ Ck.write2 { s with d := d1 } no = (0, { s with d := d2, its := markI s.its no false })) ∧
   (oth d1 s.nm + ((max (fnow d1 s.nm).length (256 * no.toNat + 256) : Nat) : Int) ≤ d1.room → (Ck.write2 { s with d := d1 } no).1 = 0)) := by
  intro d1 g1 hle
  obtain ⟨hw, hr⟩ := dk_wr g1 (k := 256 * no.toNat) (b := b) hle (by omega)
  have e : Ck.write2 { s with d := d1 } no = if (d1.write s.nm ((256 * no.toNat : Nat) : Int) b).1 = 0 then (0, { s with d := (d1.write s.nm ((256 * no.toNat : Nat) : Int) b).2, its := markI s.its no false }) else ((d1.write s.nm ((256 * no.toNat : Nat) : Int) b).1, { s with d := (d1.write s.nm ((256 * no.toNat : Nat) : Int) b).2 }) := by
   unfold Ck.write2
   rw [hp d1, ← hno]
  constructor
  · rcases hw with hw | ⟨hw1, hw2⟩
    · left
      rw [e, hw, if_neg (by simp)]
    · right
      exact ⟨_, hw2, by rw [e, if_pos hw1]⟩
  · intro hrm
    have := hr (by rw [hl]; exact hrm)
    rw [e, if_pos this]
 have hsz := size_fnow g
 have ew : s.write no = if max 0 (s.d.size s.nm) < no * 256 then (if (s.pad no).1 = 0 then Ck.write2 { s with d := (s.pad no).2 } no else ((s.pad no).1, { s with d := (s.pad no).2 })) else s.write2 no := by
  unfold Ck.write
  rw [if_neg (by simp [hd])]
 by_cases hlt : max 0 (s.d.size s.nm) < no * 256
 · rw [if_pos hlt] at ew
   have hlt' : (fnow s.d s.nm).length < 256 * no.toNat := by omega
   have epad : s.pad no = s.d.write s.nm ((fnow s.d s.nm).length : Int) (List.replicate (256 * no.toNat - (fnow s.d s.nm).length) 0) := by
    unfold Ck.pad
    rw [hsz]
    congr 2
    omega
   obtain ⟨hw, hr⟩ := dk_wr g (k := (fnow s.d s.nm).length) (b := List.replicate (256 * no.toNat - (fnow s.d s.nm).length) 0) (Nat.le_refl _) (by rw [List.length_replicate]; omega)
   rw [← epad] at hw hr
   rcases hw with hw | ⟨hw1, hw2⟩
   · refine ⟨⟨s.d, .inl rfl, g, .inl ?_⟩, fun hrm => ?_⟩
     · rw [ew, hw, if_neg (by simp)]
     · exfalso
       have := hr (by rw [List.length_replicate]; omega)
       rw [hw] at this; cases this
   · rw [if_pos hw1] at ew
     have hl1 : (fnow (s.pad no).2 s.nm).length = 256 * no.toNat := by rw [hw2.now, laid_len, List.length_replicate]; omega
     obtain ⟨s1, s2⟩ := step2 (s.pad no).2 hw2.fine (by omega)
     refine ⟨⟨(s.pad no).2, .inr ⟨_, hw2, by omega⟩, hw2.fine, ?_⟩, fun hrm => ?_⟩
     · rw [ew]; exact s1
     · rw [ew]; exact s2 (by rw [hl1, hw2.room, hw2.only]; omega)
 · rw [if_neg hlt] at ew
   obtain ⟨s1, s2⟩ := step2 s.d g (by omega)
   refine ⟨⟨s.d, .inl rfl, g, ?_⟩, fun hrm => ?_⟩
   · rw [ew]; exact s1
   · rw [ew]; exact s2 hrm
end Go.Proofs.YtfhbmblbidcmmaaGreat
namespace Go.Proofs.YtfhbmblbidcmmaaGreat
set_option linter.unusedSimpArgs false
set_option linter.unusedVariables false
open Go.Dk
def Has (s : Ck) (k : Int) (b : List UInt8) : Prop := pget k s.pgs = some b ∨ (pget k s.pgs = none ∧ Filed (fnow s.d s.nm) k b)
structure Good (T : Nat) (s : Ck) : Prop where
 fine : Fine s.d s.nm
 pins : ∀ n ∈ s.its, n.pins = 0
 clean : ∀ n ∈ s.its, n.mkd = false → ∀ b, pget n.key s.pgs = some b → Filed (fnow s.d s.nm) n.key b
 top : (fnow s.d s.nm).length ≤ 256 * T ∧ ∀ n ∈ s.its, n.key.toNat < T
def Roomy (T : Nat) (s : Ck) : Prop := oth s.d s.nm + ((256 * T : Nat) : Int) ≤ s.d.room
structure Kept (P : Int → List UInt8 → Prop) (s : Ck) : Prop where
 le : (fsafe s.d s.nm).length ≤ (fnow s.d s.nm).length
 safe : ∀ k b, P k b → Filed (fsafe s.d s.nm) k b
 pend : ∀ p ∈ s.d.pend, p.nm = s.nm → ∃ x, p.b = some x ∧ ∀ k b, P k b → p.pos + x.length ≤ 256 * k.toNat ∨ 256 * k.toNat + 256 ≤ p.pos
 dirty : ∀ n ∈ s.its, n.mkd = true → ∀ b, ¬ P n.key b
theorem dirty_iff {s : Ck} {no : Int} : s.dirty no = true ↔ ∃ n ∈ s.its, n.mkd = true ∧ n.key = no := by
 unfold Ck.dirty
 rw [List.contains_iff_mem]
 exact marked_mem
theorem it_uniq : ∀ {its : List It}, (keysI its).Nodup → ∀ {a b : It}, a ∈ its → b ∈ its → a.key = b.key → a = b
 | [], _, a, b, ha, _, _ => by simp at ha
 | x :: l, hn, a, b, ha, hb, e => by
   unfold keysI at hn
   rw [List.map_cons, List.nodup_cons] at hn
   rcases List.mem_cons.1 ha with e1 | ha2
   · rcases List.mem_cons.1 hb with e2 | hb2
     · rw [e1, e2]
     · exact absurd (show x.key ∈ l.map (·.key) from List.mem_map.2 ⟨b, hb2, by rw [← e, e1]⟩) hn.1
   · rcases List.mem_cons.1 hb with e2 | hb2
     · exact absurd (show x.key ∈ l.map (·.key) from List.mem_map.2 ⟨a, ha2, by rw [e, e2]⟩) hn.1
     · exact it_uniq hn.2 ha2 hb2 e
theorem Kept.wr {P : Int → List UInt8 → Prop} {s : Ck} (h : Kept P s) {d1 d2 : Dk} {k : Nat} {b : List UInt8} (hd : Kept P { s with d := d1 }) (hw : Wr d1 s.nm k b d2) (hdis : ∀ j c, P j c → k + b.length ≤ 256 * j.toNat ∨ 256 * j.toNat + 256 ≤ k) : Kept P { s with d := d2 } := by
 refine ⟨?_, ?_, ?_, h.dirty⟩
 · show (fsafe d2 s.nm).length ≤ (fnow d2 s.nm).length
   rw [hw.safe, hw.now, laid_len]
   have := hd.le
   have h2 : (fsafe d1 s.nm).length ≤ (fnow d1 s.nm).length := this
   omega
 · intro j c hj
   show Filed (fsafe d2 s.nm) j c
   rw [hw.safe]
   exact hd.safe j c hj
 · intro p hp hn
   have hp' : p ∈ d1.pend ++ sect s.nm k b := by rw [← hw.pend]; exact hp
   rcases List.mem_append.1 hp' with hp' | hp'
   · exact hd.pend p hp' hn
   · obtain ⟨_, l, h1, h2, h3⟩ := sect_mem s.nm b.length k b (Nat.le_refl _) p hp'
     refine ⟨l, h1, fun j c hj => ?_⟩
     rcases hdis j c hj with h4 | h4
     · left; omega
     · right; omega
theorem Kept.marks {P : Int → List UInt8 → Prop} {s : Ck} (h : Kept P s) (k : Int) : Kept P { s with its := markI s.its k false } := by
 refine ⟨h.le, h.safe, h.pend, ?_⟩
 intro n hn hm
 have hn' : n ∈ markI s.its k false := hn
 unfold markI atI at hn'
 obtain ⟨x, hx, rfl⟩ := List.mem_map.1 hn'
 by_cases hk : x.key = k
 · rw [if_pos hk] at hm; cases hm
 · rw [if_neg hk] at hm ⊢
   exact h.dirty x hx hm
structure WriteOut (T : Nat) (s : Ck) (no : Int) (e : Int) (s' : Ck) : Prop where
 code : e = 0 ∨ e = 7
 good : Good T s'
 filed : ∀ k b, k ≠ no → Filed (fnow s.d s.nm) k b → Filed (fnow s'.d s.nm) k b
 page : e = 0 → ∀ b, pget no s.pgs = some b → Filed (fnow s'.d s.nm) no b
 roomy : Roomy T s → e = 0 ∧ Roomy T s'
 kept : ∀ P, Kept P s → Kept P s'
 inv : ∀ Q : Dk → Prop, (∀ d k b d', Q d → Wr d s.nm k b d' → Q d') → Q s.d → Q s'.d
 done : e = 0 → ∀ n ∈ s'.its, n.key = no → n.mkd = false
theorem write_good {m T : Nat} {s : Ck} {no : Int} (ok : CkOk m s) (g : Good T s) (hh : hasI s.its no = true) : WriteOut T s no (s.write no).1 (s.write no).2 := by
 obtain ⟨b, hb, hbl, h0, h1⟩ := ok.key hh
 cases hd : s.dirty no with
 | false =>
   have e : s.write no = (0, s) := by unfold Ck.write; rw [if_pos hd]
   rw [e]
   have hcl : ∀ n ∈ s.its, n.key = no → n.mkd = false := by
    intro n hn hk
    cases hm : n.mkd with
    | false => rfl
    | true => rw [dirty_iff.2 ⟨n, hn, hm, hk⟩] at hd; cases hd
   refine ⟨.inl rfl, g, fun k b _ h => h, fun _ b hb => ?_, fun h => ⟨rfl, h⟩, fun P h => h, fun Q _ h => h, fun _ => hcl⟩
   obtain ⟨n, hn, hk⟩ := List.mem_map.1 (hasI_iff.1 hh)
   have := g.clean n hn (hcl n hn hk)
   rw [hk] at this
   exact this b hb
 | true =>
   obtain ⟨⟨d1, hd1, hf1, hcase⟩, hroom⟩ := write_steps ok g.fine hd hb
   obtain ⟨nd, hnd, hmd, hkd⟩ := dirty_iff.1 hd
   have hnoT : no.toNat < T := by have := g.top.2 nd hnd; rw [hkd] at this; exact this
   have hfil1 : ∀ k c, Filed (fnow s.d s.nm) k c → Filed (fnow d1 s.nm) k c := by
    intro k c h
    rcases hd1 with rfl | ⟨n, hw, _⟩
    · exact h
    · exact hw.filed h (.inr h.2.1)
   have hlen1 : (fnow d1 s.nm).length ≤ 256 * T := by
    rcases hd1 with rfl | ⟨n, hw, hn⟩
    · exact g.top.1
    · rw [hw.now, laid_len, List.length_replicate]; omega
   have hro1 : oth d1 s.nm = oth s.d s.nm ∧ d1.room = s.d.room := by
    rcases hd1 with rfl | ⟨n, hw, hn⟩
    · exact ⟨rfl, rfl⟩
    · exact ⟨hw.only, hw.room⟩
   have hkp1 : ∀ P, Kept P s → Kept P { s with d := d1 } := by
    intro P h
    rcases hd1 with rfl | ⟨n, hw, hn⟩
    · exact h
    · refine Kept.wr h h hw fun j c hj => .inr ?_
      have := (h.safe j c hj).2.1
      have := h.le
      omega
   have hin1 : ∀ Q : Dk → Prop, (∀ d k b d', Q d → Wr d s.nm k b d' → Q d') → Q s.d → Q d1 := by
    intro Q hQ h
    rcases hd1 with rfl | ⟨n, hw, hn⟩
    · exact h
    · exact hQ _ _ _ _ h hw
   have huq : ∀ n ∈ s.its, n.key = no → n = nd := fun n hn hk => it_uniq ok.lru.nd hn hnd (hk.trans hkd.symm)
   have hrm : Roomy T s → (s.write no).1 = 0 := by
    intro r2
    unfold Roomy at r2
    refine hroom ?_
    have := g.top.1
    omega
   rcases hcase with hc | ⟨d2, hw2, hc⟩
   · rw [hc] at hrm ⊢
     have hrm' : ¬ Roomy T s := fun h => by have := hrm h; cases this
     refine ⟨.inr rfl, ⟨hf1, g.pins, ?_, ⟨hlen1, g.top.2⟩⟩, fun k c _ h => hfil1 k c h, (fun h => by cases h), fun h => absurd h hrm', hkp1, hin1, (fun h => by cases h)⟩
     intro n hn hm c hc
     exact hfil1 _ _ (g.clean n hn hm c hc)
   · rw [hc]
     have hfil2 : ∀ k c, k ≠ no → Filed (fnow s.d s.nm) k c → Filed (fnow d2 s.nm) k c := by
      intro k c hk h
      have h3 := hfil1 k c h
      refine hw2.filed h3 ?_
      rw [hbl]
      have := h.1
      rcases Int.lt_trichotomy k no with h4 | h4 | h4
      · right; omega
      · exact absurd h4 hk
      · left; omega
     have hpg : Filed (fnow d2 s.nm) no b := hw2.page hbl h0
     refine ⟨.inl rfl, ⟨hw2.fine, ?_, ?_, ?_, ?_⟩, hfil2, fun _ c hc => ?_, fun h => ⟨rfl, ?_⟩, ?_, fun Q hQ h => hQ _ _ _ _ (hin1 Q hQ h) hw2, ?_⟩
     · intro n hn
       have hn' : n ∈ markI s.its no false := hn
       unfold markI atI at hn'
       obtain ⟨x, hx, rfl⟩ := List.mem_map.1 hn'
       have := g.pins x hx
       split <;> exact this
     · intro n hn hm c hc
       have hn' : n ∈ markI s.its no false := hn
       unfold markI atI at hn'
       obtain ⟨x, hx, rfl⟩ := List.mem_map.1 hn'
       have hc' : pget (if x.key = no then { x with mkd := false } else x).key s.pgs = some c := hc
       by_cases hk : x.key = no
       · rw [if_pos hk] at hc' ⊢
         simp only at hc' ⊢
         rw [hk] at hc' ⊢
         rw [hb] at hc'
         cases hc'
         exact hpg
       · rw [if_neg hk] at hc' hm ⊢
         exact hfil2 _ _ hk (g.clean x hx hm c hc')
     · show (fnow d2 s.nm).length ≤ 256 * T
       rw [hw2.now, laid_len, hbl]; omega
     · intro n hn
       have hn' : n ∈ markI s.its no false := hn
       unfold markI atI at hn'
       obtain ⟨x, hx, rfl⟩ := List.mem_map.1 hn'
       have := g.top.2 x hx
       split <;> exact this
     · rw [hb] at hc; cases hc; exact hpg
     · show oth d2 s.nm + _ ≤ d2.room
       rw [hw2.room, hro1.2, hw2.only, hro1.1]; exact h
     · intro P h
       have h2 := Kept.wr h (hkp1 P h) hw2 (by
        intro j c hj
        rw [hbl]
        have hne : j ≠ no := fun e => by
         have := h.dirty nd hnd hmd c
         rw [hkd, ← e] at this
         exact this hj
        have := (h.safe j c hj).1
        rcases Int.lt_trichotomy j no with h4 | h4 | h4
        · right; omega
        · exact absurd h4 hne
        · left; omega)
       exact Kept.marks h2 no
     · intro _ n hn hk
       have hn' : n ∈ markI s.its no false := hn
       unfold markI atI at hn'
       obtain ⟨x, hx, rfl⟩ := List.mem_map.1 hn'
       by_cases hk2 : x.key = no
       · rw [if_pos hk2]
       · rw [if_neg hk2] at hk; exact absurd hk hk2
structure Out (T : Nat) (s : Ck) (e : Int) (s' : Ck) : Prop where
 inv : ∀ Q : Dk → Prop, (∀ d k b d', Q d → Wr d s.nm k b d' → Q d') → Q s.d → Q s'.d
 code : e = 0 ∨ e = 7
 good : Good T s'
 has : ∀ k b, Has s k b → Has s' k b
 filed : ∀ k b, hasI s.its k = false → Filed (fnow s.d s.nm) k b → Filed (fnow s'.d s.nm) k b
 roomy : Roomy T s → e = 0 ∧ Roomy T s'
 kept : ∀ P, Kept P s → Kept P s'
 nm : s'.nm = s.nm
theorem WriteOut.out {m T : Nat} {s : Ck} {no : Int} (ok : CkOk m s) (hh : hasI s.its no = true) (h : WriteOut T s no (s.write no).1 (s.write no).2) : Out T s (s.write no).1 (s.write no).2 := by
 obtain ⟨w1, w2, w3, w4, w5⟩ := write_same s no
 refine ⟨h.inv, h.code, h.good, ?_, ?_, h.roomy, h.kept, w1⟩
 · intro k b hk
   unfold Has at hk ⊢
   rw [w4, w1]
   rcases hk with hk | ⟨hk, hf⟩
   · exact .inl hk
   · refine .inr ⟨hk, h.filed k b ?_ hf⟩
     rintro rfl
     rw [ok.same, hk] at hh; cases hh
 · intro k b hk hf
   refine h.filed k b ?_ hf
   rintro rfl
   rw [hk] at hh; cases hh
theorem release_good {m T : Nat} {s : Ck} {no : Int} (ok : CkOk m s) (g : Good T s) (hd : dropB s.its no = true) : Out T s (s.release no).1 (s.release no).2 := by
 have hh := drop_has hd
 have hw := write_good ok g hh
 have ho := hw.out ok hh
 have hwo := write_ok ok hh
 obtain ⟨w1, w2, w3, w4, w5⟩ := write_same s no
 have hd1 : dropB (s.write no).2.its no = true := by
  rcases w5 with e | e
  · rw [e]; exact hd
  · rw [e, dropB_mark]; exact hd
 unfold Ck.release
 by_cases hz : (s.write no).1 = 0
 · rw [if_pos hz]
   simp only [hd1, if_true]
   obtain ⟨b0, hb0, _⟩ := ok.key hh
   refine ⟨ho.inv, .inl rfl, ⟨ho.good.fine, ?_, ?_, ho.good.top.1, ?_⟩, ?_, ho.filed, ?_, ?_, w1⟩
   · intro n hn; exact ho.good.pins n (List.mem_filter.1 hn).1
   · intro n hn hm c hc
     have hne : n.key ≠ no := by have := (List.mem_filter.1 hn).2; simpa using this
     have hc' : pget n.key (pdel no (s.write no).2.pgs) = some c := hc
     rw [pget_pdel hwo.nd, if_neg hne] at hc'
     exact ho.good.clean n (List.mem_filter.1 hn).1 hm c hc'
   · intro n hn; exact ho.good.top.2 n (List.mem_filter.1 hn).1
   · intro k b hk
     have hk2 := ho.has k b hk
     unfold Has
     show pget k (pdel no (s.write no).2.pgs) = some b ∨ pget k (pdel no (s.write no).2.pgs) = none ∧ Filed (fnow (s.write no).2.d (s.write no).2.nm) k b
     rw [pget_pdel hwo.nd]
     by_cases hkn : k = no
     · subst hkn
       rw [if_pos rfl]
       refine .inr ⟨rfl, ?_⟩
       rw [w1]
       rcases hk with hk | ⟨hk, _⟩
       · exact hw.page hz b hk
       · rw [hk] at hb0; cases hb0
     · rw [if_neg hkn]; exact hk2
   · intro hr; exact ⟨rfl, (ho.roomy hr).2⟩
   · intro P hP
     have h2 := ho.kept P hP
     exact ⟨h2.le, h2.safe, h2.pend, fun n hn hm => h2.dirty n (List.mem_filter.1 hn).1 hm⟩
 · rw [if_neg hz]
   exact ho
theorem Out.refl {T : Nat} {s : Ck} (g : Good T s) : Out T s 0 s := ⟨fun Q _ h => h, .inl rfl, g, fun k b h => h, fun k b _ h => h, fun h => ⟨rfl, h⟩, fun P h => h, rfl⟩
theorem room_good {m T : Nat} {s : Ck} (ok : CkOk m s) (g : Good T s) : Out T s s.room.1 s.room.2 := by
 unfold Ck.room
 by_cases hz : (s.pgs.length : Int) < s.cap
 · rw [if_pos hz]; exact Out.refl g
 · rw [if_neg hz]
   cases ho : oldI s.its with
   | none =>
     exfalso
     have h1 := ok.cap
     have h2 := ok.len
     have h3 : 0 < s.its.length := by omega
     obtain ⟨n, hn⟩ := List.exists_mem_of_length_pos h3
     have := List.find?_eq_none.1 ho n hn
     simp [g.pins n hn] at this
   | some n => exact release_good ok g (old_drop ho)
end Go.Proofs.YtfhbmblbidcmmaaGreat
namespace Go.Proofs.YtfhbmblbidcmmaaGreat
set_option linter.unusedSimpArgs false
set_option linter.unusedVariables false
open Go.Dk
theorem mark_in {its : List It} {no : Int} {n : It} (h : n ∈ markI its no true) : ∃ x ∈ its, n.key = x.key ∧ n.pins = x.pins ∧ (x.key = no → n.mkd = true) ∧ (x.key ≠ no → n.mkd = x.mkd) := by
 unfold markI atI at h
 obtain ⟨x, hx, rfl⟩ := List.mem_map.1 h
 by_cases hk : x.key = no
 · rw [if_pos hk]; exact ⟨x, hx, rfl, rfl, fun _ => rfl, fun h => absurd hk h⟩
 · rw [if_neg hk]; exact ⟨x, hx, rfl, rfl, fun h => absurd h hk, fun _ => rfl⟩
structure PutOut (T : Nat) (s : Ck) (no : Int) (c : List UInt8) (e : Int) (s' : Ck) : Prop where
 inv : ∀ Q : Dk → Prop, (∀ d k b d', Q d → Wr d s.nm k b d' → Q d') → Q s.d → Q s'.d
 code : e = 0 ∨ e = 7
 good : Good T s'
 has : ∀ k b, k ≠ no ∨ e = 7 → Has s k b → Has s' k b
 put : e = 0 → Has s' no c
 roomy : Roomy T s → e = 0 ∧ Roomy T s'
 kept : ∀ P, (∀ b, ¬ P no b) → Kept P s → Kept P s'
 nm : s'.nm = s.nm
theorem put_good {m T : Nat} {s : Ck} {no : Int} {c : List UInt8} (ok : CkOk m s) (g : Good T s) (h0 : 0 ≤ no) (h1 : no < 1048576) (hT : no.toNat < T) (hc : c.length = 256) : PutOut T s no c (s.put no c).1 (s.put no c).2 := by
 unfold Ck.put
 rw [if_neg (by omega)]
 cases hh : hasI s.its no with
 | true =>
   rw [if_pos rfl]
   refine ⟨fun Q _ h => h, .inl rfl, ⟨g.fine, ?_, ?_, g.top.1, ?_⟩, ?_, fun _ => .inl ?_, fun h => ⟨rfl, h⟩, ?_, rfl⟩
   · intro n hn
     obtain ⟨x, hx, _, h3, _⟩ := mark_in hn
     rw [h3]; exact g.pins x ((useI_perm s.its no).mem_iff.1 hx)
   · intro n hn hm b hb
     obtain ⟨x, hx, h2, h3, h4, h5⟩ := mark_in hn
     by_cases hk : x.key = no
     · rw [h4 hk] at hm; cases hm
     · have hb' : pget n.key (pput no c s.pgs) = some b := hb
       rw [pget_pput, h2, if_neg hk] at hb'
       rw [h2]
       exact g.clean x ((useI_perm s.its no).mem_iff.1 hx) (by rw [← h5 hk]; exact hm) b hb'
   · intro n hn
     obtain ⟨x, hx, h2, _⟩ := mark_in hn
     rw [h2]; exact g.top.2 x ((useI_perm s.its no).mem_iff.1 hx)
   · intro k b hk hs
     have hk' : k ≠ no := hk.resolve_right (fun e => by cases e)
     unfold Has at hs ⊢
     show pget k (pput no c s.pgs) = some b ∨ pget k (pput no c s.pgs) = none ∧ _
     rw [pget_pput, if_neg hk']
     exact hs
   · show pget no (pput no c s.pgs) = some c
     rw [pget_pput, if_pos rfl]
   · intro P hP hk
     refine ⟨hk.le, hk.safe, hk.pend, ?_⟩
     intro n hn hm b
     obtain ⟨x, hx, h2, h3, h4, h5⟩ := mark_in hn
     rw [h2]
     by_cases hkn : x.key = no
     · rw [hkn]; exact hP b
     · exact hk.dirty x ((useI_perm s.its no).mem_iff.1 hx) (by rw [← h5 hkn]; exact hm) b
 | false =>
   rw [if_neg (by simp)]
   have ho := room_good ok g
   obtain ⟨r1, r2, r3, r4⟩ := room_ok ok
   unfold Ck.take
   by_cases hz : s.room.1 = 0
   · rw [if_pos hz]
     simp only [if_true]
     have hno : hasI s.room.2.its no = false := by
      rw [Bool.eq_false_iff]; intro hx; rw [r3 no hx] at hh; cases hh
     have hmem : ∀ n, n ∈ markI (s.room.2.its ++ [⟨no, 0, false⟩]) no true → (n.key = no ∧ n.mkd = true ∧ n.pins = 0) ∨ n ∈ s.room.2.its ∧ n.key ≠ no := by
      intro n hn
      unfold markI atI at hn
      rw [List.map_append] at hn
      rcases List.mem_append.1 hn with hn | hn
      · obtain ⟨x, hx, rfl⟩ := List.mem_map.1 hn
        have hne : x.key ≠ no := fun e => by
         have : hasI s.room.2.its no = true := hasI_iff.2 (List.mem_map.2 ⟨x, hx, e⟩)
         rw [hno] at this; cases this
        rw [if_neg hne]
        exact .inr ⟨hx, hne⟩
      · simp at hn
        subst hn
        exact .inl ⟨rfl, rfl, rfl⟩
     refine ⟨ho.inv, .inl rfl, ⟨ho.good.fine, ?_, ?_, ho.good.top.1, ?_⟩, ?_, fun _ => .inl ?_, fun h => ⟨rfl, (ho.roomy h).2⟩, ?_, ho.nm⟩
     · intro n hn
       rcases hmem n hn with ⟨_, _, h⟩ | ⟨h, _⟩
       · exact h
       · exact ho.good.pins n h
     · intro n hn hm b hb
       rcases hmem n hn with ⟨_, h, _⟩ | ⟨h, hne⟩
       · rw [h] at hm; cases hm
       · have hb' : pget n.key (pput no c s.room.2.pgs) = some b := hb
         rw [pget_pput, if_neg hne] at hb'
         exact ho.good.clean n h hm b hb'
     · intro n hn
       rcases hmem n hn with ⟨h, _, _⟩ | ⟨h, _⟩
       · rw [h]; exact hT
       · exact ho.good.top.2 n h
     · intro k b hk hs
       have hk' : k ≠ no := hk.resolve_right (fun e => by cases e)
       have h2 := ho.has k b hs
       unfold Has at h2 ⊢
       show pget k (pput no c s.room.2.pgs) = some b ∨ pget k (pput no c s.room.2.pgs) = none ∧ _
       rw [pget_pput, if_neg hk']
       exact h2
     · show pget no (pput no c s.room.2.pgs) = some c
       rw [pget_pput, if_pos rfl]
     · intro P hP hk
       have h2 := ho.kept P hk
       refine ⟨h2.le, h2.safe, h2.pend, ?_⟩
       intro n hn hm b
       rcases hmem n hn with ⟨h, _, _⟩ | ⟨h, _⟩
       · rw [h]; exact hP b
       · exact h2.dirty n h hm b
   · rw [if_neg hz, if_neg hz]
     have h7 : s.room.1 = 7 := ho.code.resolve_left hz
     exact ⟨ho.inv, .inr h7, ho.good, fun k b _ h => ho.has k b h, fun h => absurd h hz, ho.roomy, fun P _ h => ho.kept P h, ho.nm⟩
theorem dk_read {d : Dk} {nm : ByteArray} (g : Fine d nm) {no : Int} (h0 : 0 ≤ no) :
 (256 * no.toNat + 256 ≤ (fnow d nm).length ∧ d.read nm (no * 256) 256 = (0, ((fnow d nm).drop (256 * no.toNat)).take 256)) ∨
 ((fnow d nm).length < 256 * no.toNat + 256 ∧ ((d.read nm (no * 256) 256).1 = 2 ∨ (d.read nm (no * 256) 256).1 = 6)) := by
 cases hg : d.get nm with
 | none =>
   right
   refine ⟨by unfold fnow; rw [hg]; simp [Dk.fl0], .inr ?_⟩
   unfold Dk.read
   have := may_six g.nmd g.down hg
   rw [if_pos (by rw [this]; decide), this]
 | some f =>
   have hm := may_there (t := true) g.nmd g.down hg
   have hn : fnow d nm = f.now := by unfold fnow; rw [hg]; rfl
   rw [hn]
   unfold Dk.read
   rw [if_neg (by simp [hm]), hg]
   simp only [Option.getD_some]
   by_cases hl : 256 * no.toNat + 256 ≤ f.now.length
   · left
     refine ⟨hl, ?_⟩
     rw [if_neg (by omega)]
     have e1 : (no * 256).toNat = 256 * no.toNat := by omega
     rw [e1]; rfl
   · right
     refine ⟨by omega, .inl ?_⟩
     rw [if_pos (by omega)]
structure GetOut (T : Nat) (s : Ck) (no : Int) (e : Int) (c : List UInt8) (s' : Ck) : Prop where
 inv : ∀ Q : Dk → Prop, (∀ d k b d', Q d → Wr d s.nm k b d' → Q d') → Q s.d → Q s'.d
 code : e = 0 ∨ e = 7 ∨ e = 6
 good : Good T s'
 has : ∀ k b, Has s k b → Has s' k b
 got : ∀ b, Has s no b → e = 7 ∨ (e = 0 ∧ c = b)
 len : e = 0 → c.length = 256
 none : e ≠ 0 → c = []
 six : T ≤ no.toNat → e = 6
 roomy : Roomy T s → e ≠ 7 ∧ Roomy T s'
 kept : ∀ P, Kept P s → Kept P s'
 nm : s'.nm = s.nm
theorem get_good {m T : Nat} {s : Ck} {no : Int} (ok : CkOk m s) (g : Good T s) (h0 : 0 ≤ no) (h1 : no < 1048576) : GetOut T s no (s.get no).1 (s.get no).2.1 (s.get no).2.2 := by
 unfold Ck.get
 rw [if_neg (by omega)]
 cases hh : hasI s.its no with
 | true =>
   rw [if_pos rfl]
   obtain ⟨b, hb, hl, _⟩ := ok.key hh
   have hp : s.page no = b := by unfold Ck.page; rw [hb]; rfl
   simp only [hp]
   refine ⟨fun Q _ h => h, .inl rfl, ⟨g.fine, ?_, ?_, g.top.1, ?_⟩, fun k b h => h, ?_, fun _ => hl, fun h => absurd rfl h, ?_, fun h => ⟨by decide, h⟩, ?_, rfl⟩
   · intro n hn; exact g.pins n ((useI_perm s.its no).mem_iff.1 hn)
   · intro n hn; exact g.clean n ((useI_perm s.its no).mem_iff.1 hn)
   · intro n hn; exact g.top.2 n ((useI_perm s.its no).mem_iff.1 hn)
   · intro c hc
     rcases hc with hc | ⟨hc, _⟩
     · rw [hb] at hc; cases hc; exact .inr ⟨rfl, rfl⟩
     · rw [hb] at hc; cases hc
   · intro hT
     obtain ⟨n, hn, hk⟩ := List.mem_map.1 (hasI_iff.1 hh)
     have := g.top.2 n hn
     rw [hk] at this
     omega
   · intro P hP
     exact ⟨hP.le, hP.safe, hP.pend, fun n hn => hP.dirty n ((useI_perm s.its no).mem_iff.1 hn)⟩
 | false =>
   rw [if_neg (by simp)]
   have hpn : pget no s.pgs = none := by
    have := ok.same no
    rw [hh] at this
    cases hp : pget no s.pgs with
    | none => rfl
    | some b => rw [hp] at this; cases this
   rcases dk_read g.fine h0 with ⟨hl, hr⟩ | ⟨hl, hr⟩
   · simp only [hr]
     rw [if_pos trivial]
     obtain ⟨c, hc⟩ : ∃ c, ((fnow s.d s.nm).drop (256 * no.toNat)).take 256 = c := ⟨_, rfl⟩
     rw [hc]
     have hcl : c.length = 256 := by rw [← hc]; simp; omega
     have hfc : Filed (fnow s.d s.nm) no c := ⟨h0, hl, hc⟩
     have hnT : no.toNat < T := by have := g.top.1; omega
     have ho := room_good ok g
     obtain ⟨r1, r2, r3, r4⟩ := room_ok ok
     have huq : ∀ b, Has s no b → c = b := by
      intro b hb
      rcases hb with hb | ⟨_, hb⟩
      · rw [hpn] at hb; cases hb
      · rw [← hc]; exact hb.2.2
     unfold Ck.take
     by_cases hz : s.room.1 = 0
     · rw [if_pos hz]
       simp only [if_true]
       have hno : hasI s.room.2.its no = false := by
        rw [Bool.eq_false_iff]; intro hx; rw [r3 no hx] at hh; cases hh
       refine ⟨ho.inv, .inl rfl, ⟨ho.good.fine, ?_, ?_, ho.good.top.1, ?_⟩, ?_, fun b hb => .inr ⟨rfl, huq b hb⟩, fun _ => hcl, fun h => absurd rfl h, fun hT => by omega, fun h => ⟨by decide, (ho.roomy h).2⟩, ?_, ho.nm⟩
       · intro n hn
         rcases List.mem_append.1 hn with hn | hn
         · exact ho.good.pins n hn
         · simp at hn; subst hn; rfl
       · intro n hn hm b hb
         have hb' : pget n.key (pput no c s.room.2.pgs) = some b := hb
         rw [pget_pput] at hb'
         rcases List.mem_append.1 hn with hn | hn
         · have hne : n.key ≠ no := fun e => by
            have : hasI s.room.2.its no = true := hasI_iff.2 (List.mem_map.2 ⟨n, hn, e⟩)
            rw [hno] at this; cases this
           rw [if_neg hne] at hb'
           exact ho.good.clean n hn hm b hb'
         · simp at hn
           subst hn
           simp only [if_true] at hb'
           cases hb'
           show Filed (fnow s.room.2.d s.room.2.nm) no c
           rw [ho.nm]
           exact ho.filed no c hh hfc
       · intro n hn
         rcases List.mem_append.1 hn with hn | hn
         · exact ho.good.top.2 n hn
         · simp at hn; subst hn; exact hnT
       · intro k b hk
         have h2 := ho.has k b hk
         unfold Has
         show pget k (pput no c s.room.2.pgs) = some b ∨ pget k (pput no c s.room.2.pgs) = none ∧ Filed (fnow s.room.2.d s.room.2.nm) k b
         rw [pget_pput]
         by_cases hkn : k = no
         · subst hkn
           rw [if_pos rfl]
           rw [huq b hk]
           exact .inl rfl
         · rw [if_neg hkn]; exact h2
       · intro P hP
         have h2 := ho.kept P hP
         refine ⟨h2.le, h2.safe, h2.pend, ?_⟩
         intro n hn hm b
         rcases List.mem_append.1 hn with hn | hn
         · exact h2.dirty n hn hm b
         · simp at hn; subst hn; cases hm
     · rw [if_neg hz, if_neg hz]
       have h7 : s.room.1 = 7 := ho.code.resolve_left hz
       refine ⟨ho.inv, .inr (.inl h7), ho.good, ho.has, fun b _ => .inl h7, fun h => absurd h hz, fun _ => rfl, fun hT => by omega, fun h => absurd (ho.roomy h).1 hz, ho.kept, ho.nm⟩
   · simp only
     have hne : (s.d.read s.nm (no * 256) 256).1 ≠ 0 := by rcases hr with h | h <;> rw [h] <;> decide
     rw [if_neg hne]
     have h6 : (if (s.d.read s.nm (no * 256) 256).1 = 2 then 6 else (s.d.read s.nm (no * 256) 256).1) = 6 := by
      rcases hr with h | h
      · rw [if_pos h]
      · rw [if_neg (by rw [h]; decide), h]
     simp only [h6]
     refine ⟨fun Q _ h => h, .inr (.inr rfl), g, fun k b h => h, ?_, (fun h => by cases h), fun _ => rfl, fun _ => rfl, fun h => ⟨by decide, h⟩, fun P h => h, rfl⟩
     intro b hb
     rcases hb with hb | ⟨_, hb⟩
     · rw [hpn] at hb; cases hb
     · have := hb.2.1; omega
structure OutE (T : Nat) (s : Ck) (e : Int) (s' : Ck) : Prop where
 inv : ∀ Q : Dk → Prop, (∀ d k b d', Q d → Wr d s.nm k b d' → Q d') → Q s.d → Q s'.d
 code : e = 0 ∨ e = 7
 good : Good T s'
 has : ∀ k b, Has s k b → Has s' k b
 roomy : Roomy T s → e = 0 ∧ Roomy T s'
 kept : ∀ P, Kept P s → Kept P s'
 nm : s'.nm = s.nm
theorem Out.e {T : Nat} {s s' : Ck} {e : Int} (h : Out T s e s') : OutE T s e s' := ⟨h.inv, h.code, h.good, h.has, h.roomy, h.kept, h.nm⟩
theorem OutE.refl {T : Nat} {s : Ck} (g : Good T s) : OutE T s 0 s := (Out.refl g).e
theorem OutE.trans {T : Nat} {s s1 s2 : Ck} {e1 e : Int} (h : OutE T s e1 s1) (h' : OutE T s1 e s2) : OutE T s e s2 :=
 ⟨fun Q hQ hq => h'.inv Q (by rw [h.nm]; exact hQ) (h.inv Q hQ hq), h'.code, h'.good, fun k b hk => h'.has k b (h.has k b hk), fun hr => h'.roomy (h.roomy hr).2, fun P hP => h'.kept P (h.kept P hP), h'.nm.trans h.nm⟩
theorem writes_good : ∀ (l : List Int) {m T : Nat} {s : Ck}, CkOk m s → Good T s → (∀ k ∈ l, hasI s.its k = true) →
 OutE T s (Ck.writes l s).1 (Ck.writes l s).2 ∧ ((Ck.writes l s).1 = 0 → ∀ n ∈ (Ck.writes l s).2.its, n.mkd = true → n.key ∉ l ∧ ∃ x ∈ s.its, x.key = n.key ∧ x.mkd = true)
 | [], m, T, s, ok, g, _ => ⟨OutE.refl g, fun _ n hn hm => ⟨by simp, n, hn, rfl, hm⟩⟩
 | k :: l, m, T, s, ok, g, h => by
   have hk := h k (by simp)
   have hw := write_good ok g hk
   have h1 := (hw.out ok hk).e
   unfold Ck.writes
   by_cases hz : (s.write k).1 = 0
   · rw [if_pos hz]
     obtain ⟨h2, h3⟩ := writes_good l (write_ok ok hk) h1.good fun j hj => by rw [write_has]; exact h j (by simp [hj])
     refine ⟨h1.trans h2, fun h0 n hn hm => ?_⟩
     obtain ⟨h4, x, hx, hxk, hxm⟩ := h3 h0 n hn hm
     have hne : x.key ≠ k := fun e => by rw [hw.done hz x hx e] at hxm; cases hxm
     refine ⟨?_, ?_⟩
     · rw [List.mem_cons]
       rintro (e | e)
       · exact hne (hxk.trans e)
       · exact h4 e
     · rcases (write_same s k).2.2.2.2 with e | e
       · rw [e] at hx; exact ⟨x, hx, hxk, hxm⟩
       · rw [e] at hx
         unfold markI atI at hx
         obtain ⟨y, hy, rfl⟩ := List.mem_map.1 hx
         by_cases hyk : y.key = k
         · rw [if_pos hyk] at hxm; cases hxm
         · rw [if_neg hyk] at hxk hxm; exact ⟨y, hy, hxk, hxm⟩
   · rw [if_neg hz]
     exact ⟨h1, fun h0 => absurd h0 hz⟩
structure FlushOut (T : Nat) (s : Ck) (e : Int) (s' : Ck) : Prop where
 code : e = 0 ∨ e = 7
 good : Good T s'
 has : ∀ k b, Has s k b → Has s' k b
 roomy : Roomy T s → e = 0 ∧ Roomy T s'
 filed : e = 0 → ∀ k b, Has s' k b → Filed (fnow s'.d s'.nm) k b
 kept : e = 0 → Kept (fun k b => Filed (fnow s'.d s'.nm) k b) s'
 sure : e = 0 → ∀ f, s'.d.get s'.nm = some f → f.sure = true
 nm : s'.nm = s.nm
theorem flush_good {m T : Nat} {s : Ck} (ok : CkOk m s) (g : Good T s) : FlushOut T s s.flush.1 s.flush.2 := by
 obtain ⟨h1, h2⟩ := writes_good (markedI s.its) ok g fun k hk => marked_has hk
 have hok := (writes_ok (markedI s.its) ok fun k hk => marked_has hk).1
 unfold Ck.flush
 simp only
 obtain ⟨⟨e, t⟩, hr⟩ : ∃ r, Ck.writes (markedI s.its) s = r := ⟨_, rfl⟩
 rw [hr] at h1 h2 hok ⊢
 simp only at h1 h2 hok ⊢
 by_cases hz : e = 0
 · subst hz
   rw [if_pos rfl]
   have hclean : ∀ n ∈ t.its, n.mkd = false := by
    intro n hn
    cases hm : n.mkd with
    | false => rfl
    | true =>
      obtain ⟨h3, x, hx, hxk, hxm⟩ := h2 rfl n hn hm
      exact absurd (marked_mem.2 ⟨x, hx, hxm, hxk⟩) h3
   have hst : t.d.stop = false := by unfold Dk.stop; simp [h1.good.fine.armed]
   have hfiled : ∀ k b, Has t k b → Filed (fnow t.d t.nm) k b := by
    intro k b hk
    rcases hk with hk | ⟨_, hk⟩
    · have hh : hasI t.its k = true := by rw [hok.same, hk]; rfl
      obtain ⟨n, hn, hnk⟩ := List.mem_map.1 (hasI_iff.1 hh)
      have := h1.good.clean n hn (hclean n hn)
      rw [hnk] at this
      exact this b hk
    · exact hk
   cases hg : t.d.get t.nm with
   | none =>
     have hm6 := may_six h1.good.fine.nmd h1.good.fine.down hg
     have hsy : t.d.sync t.nm = (6, t.d) := by unfold Dk.sync; rw [if_pos (by rw [hm6]; decide), hm6]
     rw [hsy]
     simp only [if_true]
     have hn0 : fnow t.d t.nm = [] := by unfold fnow; rw [hg]; rfl
     refine ⟨.inl rfl, h1.good, h1.has, fun h => ⟨rfl, (h1.roomy h).2⟩, fun _ => hfiled, fun _ => ⟨?_, ?_, ?_, ?_⟩, (fun _ f hf => by rw [hg] at hf; cases hf), h1.nm⟩
     · show (fsafe t.d t.nm).length ≤ _
       unfold fsafe; rw [hg]; simp [Dk.fl0]
     · intro k b hk
       have := hk.2.1
       rw [hn0] at this
       simp at this
     · intro p hp hn
       have := hok.dk.pn p hp
       rw [hn, hg] at this; cases this
     · intro n hn hm
       rw [hclean n hn] at hm; cases hm
   | some f =>
     have hm := may_there (t := true) h1.good.fine.nmd h1.good.fine.down hg
     have hsy : t.d.sync t.nm = (0, (t.d.ticked.put t.nm { f with safe := f.now, sure := true }).settled t.nm) := by
      unfold Dk.sync
      rw [if_neg (by simp [hm]), if_neg (by simp [hst]), hg]
      rfl
     rw [hsy]
     simp only
     rw [if_neg (by decide)]
     have hget : ((t.d.ticked.put t.nm { f with safe := f.now, sure := true }).settled t.nm).get t.nm = some { f with safe := f.now, sure := true } := by
      unfold Dk.get Dk.settled Dk.put
      simp only
      rw [fget_fput, if_pos rfl]
     have hnow : fnow ((t.d.ticked.put t.nm { f with safe := f.now, sure := true }).settled t.nm) t.nm = fnow t.d t.nm := by
      unfold fnow; rw [hget, hg]; rfl
     have hsafe : fsafe ((t.d.ticked.put t.nm { f with safe := f.now, sure := true }).settled t.nm) t.nm = fnow t.d t.nm := by
      unfold fsafe fnow; rw [hget, hg]; rfl
     refine ⟨.inl rfl, ⟨⟨h1.good.fine.down, h1.good.fine.armed, h1.good.fine.nmd, ?_⟩, h1.good.pins, ?_, ?_, h1.good.top.2⟩, ?_, fun h => ⟨rfl, ?_⟩, fun _ => ?_, fun _ => ⟨?_, ?_, ?_, ?_⟩, (fun _ f' hf => by rw [hget] at hf; cases hf; rfl), h1.nm⟩
     · rw [hget]
       show (fput t.nm _ t.d.files).length + _ ≤ 8
       have h3 : (fget t.nm t.d.files).isSome = true := by
        have : t.d.get t.nm = fget t.nm t.d.files := rfl
        rw [← this, hg]; rfl
       rw [fput_len, if_pos h3]
       have := h1.good.fine.nf
       rw [hg] at this
       exact this
     · intro n hn hm b hb
       show Filed (fnow ((t.d.ticked.put t.nm { f with safe := f.now, sure := true }).settled t.nm) t.nm) n.key b
       rw [hnow]
       exact h1.good.clean n hn hm b hb
     · show (fnow ((t.d.ticked.put t.nm { f with safe := f.now, sure := true }).settled t.nm) t.nm).length ≤ _
       rw [hnow]; exact h1.good.top.1
     · intro k b hk
       have := h1.has k b hk
       unfold Has at this ⊢
       show pget k t.pgs = some b ∨ pget k t.pgs = none ∧ Filed (fnow ((t.d.ticked.put t.nm { f with safe := f.now, sure := true }).settled t.nm) t.nm) k b
       rw [hnow]; exact this
     · have ho := (h1.roomy h).2
       unfold Roomy at ho ⊢
       show oth ((t.d.ticked.put t.nm { f with safe := f.now, sure := true }).settled t.nm) t.nm + _ ≤ t.d.room
       rw [oth_put (d := t.d) (d' := (t.d.ticked.put t.nm { f with safe := f.now, sure := true }).settled t.nm) (f := { f with safe := f.now, sure := true }) rfl]
       exact ho
     · intro k b hk
       show Filed (fnow ((t.d.ticked.put t.nm { f with safe := f.now, sure := true }).settled t.nm) t.nm) k b
       rw [hnow]
       refine hfiled k b ?_
       unfold Has at hk ⊢
       have hk' : pget k t.pgs = some b ∨ pget k t.pgs = none ∧ Filed (fnow ((t.d.ticked.put t.nm { f with safe := f.now, sure := true }).settled t.nm) t.nm) k b := hk
       rw [hnow] at hk'; exact hk'
     · show (fsafe ((t.d.ticked.put t.nm { f with safe := f.now, sure := true }).settled t.nm) t.nm).length ≤ (fnow ((t.d.ticked.put t.nm { f with safe := f.now, sure := true }).settled t.nm) t.nm).length
       rw [hsafe, hnow]; exact Nat.le_refl _
     · intro k b hk
       show Filed (fsafe ((t.d.ticked.put t.nm { f with safe := f.now, sure := true }).settled t.nm) t.nm) k b
       have hk' : Filed (fnow ((t.d.ticked.put t.nm { f with safe := f.now, sure := true }).settled t.nm) t.nm) k b := hk
       rw [hsafe]; rw [hnow] at hk'; exact hk'
     · intro p hp hn
       exfalso
       have hp' : p ∈ t.d.pend.filter fun p => p.nm != t.nm := hp
       have := (List.mem_filter.1 hp').2
       have hn' : p.nm = t.nm := hn
       rw [hn', bne_bytes] at this
       simp at this
     · intro n hn hm
       rw [hclean n hn] at hm; cases hm
 · rw [if_neg hz]
   have h7 := h1.code.resolve_left hz
   exact ⟨.inr h7, h1.good, h1.has, fun h => absurd (h1.roomy h).1 hz, fun h => absurd h hz, fun h => absurd h hz, fun h => absurd h hz, h1.nm⟩
end Go.Proofs.YtfhbmblbidcmmaaGreat
namespace Go.Proofs.YtfhbmblbidcmmaaGreat
set_option linter.unusedSimpArgs false
set_option linter.unusedVariables false
open Go.Dk
structure Bp (a : Nat) (nm : ByteArray) (d d' : Dk) : Prop where
 changes : d'.changes ≤ d.changes + a
 left : d.left ≤ d'.left + a
 pend : d'.pend.length + (fnow d nm).length ≤ d.pend.length + (fnow d' nm).length + 256 * a
 len : (fnow d nm).length ≤ (fnow d' nm).length
 cap : (fnow d' nm).length ≤ max (fnow d nm).length 268435456
theorem Bp.rfl' (nm : ByteArray) (d : Dk) : Bp 0 nm d d := ⟨by omega, by omega, by omega, by omega, by omega⟩
theorem Bp.trans {a b : Nat} {nm : ByteArray} {d d' d2 : Dk} (h : Bp a nm d d') (k : Bp b nm d' d2) : Bp (a + b) nm d d2 := by
 obtain ⟨h1, h2, h3, h4, h5⟩ := h
 obtain ⟨k1, k2, k3, k4, k5⟩ := k
 exact ⟨by omega, by omega, by omega, by omega, by omega⟩
theorem Bp.more {a b : Nat} {nm : ByteArray} {d d' : Dk} (h : Bp a nm d d') (k : a ≤ b) : Bp b nm d d' := by
 obtain ⟨h1, h2, h3, h4, h5⟩ := h
 exact ⟨by omega, by omega, by omega, by omega, by omega⟩
theorem dk_bp (d : Dk) (nm : ByteArray) (k : Int) (b : List UInt8) (h : b.length ≤ 256 ∨ k = (fnow d nm).length) (hcap : b.length = 0 ∨ k + b.length ≤ 268435456) : Bp 1 nm d (d.write nm k b).2 := by
 have same : Bp 1 nm d d := (Bp.rfl' nm d).more (by omega)
 unfold Dk.write
 split
 · exact same
 · split
   · exact same
   · rename_i hk
     split
     · exact same
     · split
       · exact same
       · split
         · exact ⟨same.changes, same.left, same.pend, same.len, same.cap⟩
         · have hg : (d.written nm k.toNat b).get nm = some { (d.get nm).getD Dk.fl0 with now := laid ((d.get nm).getD Dk.fl0).now k.toNat b } := by
            unfold Dk.get Dk.written Dk.put
            simp only
            rw [fget_fput, if_pos rfl]
            rfl
           have hn : fnow (d.written nm k.toNat b) nm = laid (fnow d nm) k.toNat b := by unfold fnow; rw [hg]; rfl
           have hl := laid_len (fnow d nm) k.toNat b
           rw [← hn] at hl
           have hs := sect_len nm b.length k.toNat b (Nat.le_refl _)
           have hp : (d.written nm k.toNat b).pend.length = d.pend.length + (sect nm k.toNat b).length := by
            show (d.pend ++ sect nm k.toNat b).length = _
            rw [List.length_append]
           have hc : (d.written nm k.toNat b).changes = d.changes + 1 := rfl
           have hle : (d.written nm k.toNat b).left = d.left - 1 := rfl
           refine ⟨?_, ?_, ?_, ?_, ?_⟩
           · simp only [hc]; omega
           · simp only [hle]; omega
           · simp only [hp]
             rcases h with h | h
             · omega
             · have : k.toNat = (fnow d nm).length := by omega
               omega
           · simp only; omega
           · simp only; omega
theorem size_eq (d : Dk) (nm : ByteArray) : max 0 (d.size nm) = ((fnow d nm).length : Int) ∨ d.size nm = -1 := by
 unfold Dk.size fnow
 split
 · exact .inr rfl
 · exact .inl (by omega)
theorem page_len {m : Nat} {s : Ck} (ok : CkOk m s) (no : Int) : (s.page no).length ≤ 256 := by
 unfold Ck.page
 cases h : pget no s.pgs with
 | none => simp
 | some b => have := (ok.page _ (pget_mem h)).1; simp at this ⊢; omega
theorem pad_bp (s : Ck) (no : Int) (hno : no ≤ 1048576) : Bp 1 s.nm s.d (s.pad no).2 := by
 unfold Ck.pad
 by_cases hm : s.d.may s.nm false = 0
 · refine dk_bp _ _ _ _ (.inr ?_) (by rw [List.length_replicate]; omega)
   rcases size_eq s.d s.nm with h | h
   · exact h
   · rw [h]
     have : s.d.get s.nm = none := by
      unfold Dk.size at h
      cases hg : s.d.get s.nm with
      | none => rfl
      | some f =>
        exfalso
        have : s.d.may s.nm true = 0 := by
         unfold Dk.may at hm ⊢
         rw [hg]
         split at hm
         · omega
         · split at hm
           · omega
           · rename_i h1 h2
             simp [h1, h2]
        rw [if_neg (by omega)] at h
        omega
     unfold fnow
     rw [this]
     rfl
 · have e : (s.d.write s.nm (max 0 (s.d.size s.nm)) (List.replicate (no * 256 - max 0 (s.d.size s.nm)).toNat 0)).2 = s.d := by
    unfold Dk.write
    rw [if_pos hm]
   rw [e]
   exact (Bp.rfl' _ _).more (by omega)
theorem write2_bp {m : Nat} {s : Ck} (ok : CkOk m s) (no : Int) (hno : no < 1048576) : Bp 1 s.nm s.d (s.write2 no).2.d := by
 have h := dk_bp s.d s.nm (no * 256) (s.page no) (.inl (page_len ok no)) (.inr (by have := page_len ok no; omega))
 unfold Ck.write2
 split <;> exact h
theorem write_bp {m : Nat} {s : Ck} (ok : CkOk m s) (no : Int) (hno : no < 1048576) : Bp 2 s.nm s.d (s.write no).2.d := by
 unfold Ck.write
 split
 · exact (Bp.rfl' _ _).more (by omega)
 · split
   · have hp := pad_bp s no (by omega)
     split
     · have h := dk_bp (s.pad no).2 s.nm (no * 256) (s.page no) (.inl (page_len ok no)) (.inr (by have := page_len ok no; omega))
       exact hp.trans (b := 1) (by unfold Ck.write2; split <;> exact h)
     · exact hp.more (by omega)
   · exact (write2_bp ok no hno).more (by omega)
theorem release_bp {m : Nat} {s : Ck} (ok : CkOk m s) (no : Int) (hno : no < 1048576) : Bp 2 s.nm s.d (s.release no).2.d := by
 have h := write_bp ok no hno
 unfold Ck.release
 split <;> exact h
theorem room_bp {m : Nat} {s : Ck} (ok : CkOk m s) : Bp 2 s.nm s.d s.room.2.d := by
 unfold Ck.room
 split
 · exact (Bp.rfl' _ _).more (by omega)
 · split
   · exact (Bp.rfl' _ _).more (by omega)
   · rename_i n hn
     refine release_bp ok _ ?_
     obtain ⟨b, hb⟩ := ok.key (k := n.key) (hasI_iff.2 (List.mem_map.2 ⟨n, (old_has hn).1, rfl⟩))
     exact hb.2.2.2
theorem take_bp {m : Nat} {s : Ck} (ok : CkOk m s) (no : Int) (b : List UInt8) : Bp 2 s.nm s.d (s.take no b).2.d := by
 have h := room_bp ok
 unfold Ck.take
 split <;> exact h
theorem get_bp {m : Nat} {s : Ck} (ok : CkOk m s) (no : Int) : Bp 2 s.nm s.d (s.get no).2.2.d ∧ (s.get no).2.2.reads ≤ s.reads + 1 := by
 have same : Bp 2 s.nm s.d s.d := (Bp.rfl' _ _).more (by omega)
 unfold Ck.get
 split
 · exact ⟨same, by simp only; omega⟩
 · split
   · exact ⟨same, by simp only; omega⟩
   · simp only
     split
     · have h := take_bp ok no (s.d.read s.nm (no * 256) 256).2
       have hr := take_reads s no (s.d.read s.nm (no * 256) 256).2
       split
       · exact ⟨h, by simp only; omega⟩
       · exact ⟨h, by simp only; omega⟩
     · exact ⟨same, by simp only; omega⟩
theorem put_bp {m : Nat} {s : Ck} (ok : CkOk m s) (no : Int) (b : List UInt8) : Bp 2 s.nm s.d (s.put no b).2.d ∧ (s.put no b).2.reads = s.reads := by
 have same : Bp 2 s.nm s.d s.d := (Bp.rfl' _ _).more (by omega)
 unfold Ck.put
 split
 · exact ⟨same, rfl⟩
 · split
   · exact ⟨same, rfl⟩
   · have h := take_bp ok no b
     have hr := take_reads s no b
     split
     · exact ⟨h, hr⟩
     · exact ⟨h, hr⟩
structure Num (N : Nat) (s : Ck) : Prop where
 changes : s.d.changes ≤ 2 * N
 left : -(2 * N : Int) ≤ s.d.left
 pend : s.d.pend.length ≤ 512 * N + (fnow s.d s.nm).length
 reads : s.reads ≤ N
 len : (fnow s.d s.nm).length ≤ 268435456
theorem Num.ok {m N : Nat} {s : Ck} (ok : CkOk m s) (h : Num N s) (hN : N ≤ 134217728) : CkOk 137438953472 s := by
 obtain ⟨h1, h2, h3, h4, h5⟩ := h
 obtain ⟨k1, k2, k3, k4, k5, k6, k7, k8, k9, k10⟩ := ok
 obtain ⟨d1, d2, d3, d4, d5, d6, d7, d8, d9⟩ := k8
 exact ⟨k1, k2, k3, k4, k5, k6, k7, ⟨d1, d2, ⟨by omega, d3.2⟩, ⟨d4.1, by omega⟩, by omega, d6, d7, d8, d9⟩, k9, ⟨k10.1, by omega⟩⟩
theorem Num.step {N : Nat} {s s' : Ck} (h : Num N s) (hn : s'.nm = s.nm) (hb : Bp 2 s.nm s.d s'.d) (hr : s'.reads ≤ s.reads + 1) : Num (N + 1) s' := by
 obtain ⟨h1, h2, h3, h4, h5⟩ := h
 obtain ⟨b1, b2, b3, b4, b5⟩ := hb
 exact ⟨by omega, by omega, by rw [hn]; omega, by omega, by rw [hn]; omega⟩
end Go.Proofs.YtfhbmblbidcmmaaGreat
