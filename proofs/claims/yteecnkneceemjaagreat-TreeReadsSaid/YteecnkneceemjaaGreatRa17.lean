/-
  Lemmas for TreeReads. No condition (part 17)
-/
import Derived.Test.YteecnkneceemjaaGreatRa15
import Derived.Test.YteecnkneceemjaaGreatRa16
set_option linter.unusedSimpArgs false
set_option linter.unusedVariables false
namespace Go.Proofs.YteecnkneceemjaaGreat
set_option linter.unusedSimpArgs false
set_option linter.unusedVariables false
open Go.RowKit Go.Sl Go.Dk
open Go.Lru (ikey)
attribute [local go_sem ↓] Go.wp_at_zero Go.wp_at_succ
attribute [local go_sem] Go.Sl.cell_sat Go.Sl.frozen_sat look_PM len_PM put_PM del_PM
set_option maxRecDepth 100000 in
set_option maxHeartbeats 1000000 in
theorem release_any (C D : Nat) (s : Ck) (m : Nat) (no : Int) (F : Assn) (w : World) (hs : Sat (cacheP C D s * F) w) (ok : CkOk m s) (hm : m ≤ 549755813888) (hd : dropB s.its no = true) :
 Calls Tryz.prog 59 #[.pointer (some ⟨C, 0, none⟩), .int .i64 no] w fun e w' => e = .returned (.int .i64 (s.release no).1) ∧ Sat (cacheP C D (s.release no).2 * F) w' := by
 obtain ⟨L, PM, ps, hp, hs⟩ := Sat.cache_open hs
 obtain ⟨b, hb, hl, h0, h1⟩ := ok.key (drop_has hd)
 have hwr := write_go C L D PM ps s m no F w hs hp ok hm h0 h1
 have hwo := write_ok ok (drop_has hd)
 obtain ⟨w1, w2, w3, w4, w5⟩ := write_same s no
 have HR : Aside (s.release no = if (s.write no).1 = 0 then (0, { (s.write no).2 with its := if dropB (s.write no).2.its no then outI (s.write no).2.its no else (s.write no).2.its, pgs := pdel no (s.write no).2.pgs }) else s.write no) := rfl
 obtain ⟨s1, hs1⟩ : ∃ x, (s.write no).2 = x := ⟨_, rfl⟩
 obtain ⟨e1, he1⟩ : ∃ x, (s.write no).1 = x := ⟨_, rfl⟩
 have hse : s.write no = (e1, s1) := by rw [← hs1, ← he1]
 rw [hse] at hwr hwo HR
 rw [hs1, ← hp] at w4
 rw [hs1] at w5
 have hd1 : dropB s1.its no = true := by
  rcases w5 with e | e
  · rw [e]; exact hd
  · rw [e, dropB_mark]; exact hd
 simp only at hwr hwo HR
 rw [if_pos hd1] at HR
 have hdr := fun F w h => dropH L s1.cap s1.its no F w h hwo.lru
 rw [hd1, if_pos rfl] at hdr
 have HP : Aside (pgents ps = s1.pgs ∧ pget no s.pgs = some b) := ⟨w4.symm, hb⟩
 have HL : Aside (LruOk s1.its) := hwo.lru
 clear hs1 he1 hse w1 w2 w3 w4 w5 hwo hs hl hd hd1
 by_cases hz : e1 = 0
 · subst hz
   rw [if_pos rfl] at HR
   rw [HR.out]
   clear HR
   rcases pg_cases ps no with ⟨l1, p, l2, rfl, rfl, hl1⟩ | hno
   · obtain ⟨_, _, _, q4, q5⟩ := pg_found (l2 := l2) hl1
     have HQ : Aside (pgents (l1 ++ l2) = pdel p.key s1.pgs ∧ mdel p.key ((l1 ++ p :: l2).map kvP) = (l1 ++ l2).map kvP) := ⟨by rw [← HP.out.1]; exact q4.symm, q5⟩
     clear q4 q5 hp hb
     go_enter Tryz.func59, Tryz.ntmps59
     go_wp2_with fail
     refine hwr.mono ?_
     rintro e w2 ⟨rfl, hs2⟩
     unfold cacheA at hs2
     haveI := hs2.i
     have HDR : Aside (∀ (F : Assn) (w : World), Sat (lruI L s1.cap s1.its * F) w → Calls Tryz.prog 104 #[.pointer (some ⟨L, 0, none⟩), .int .i64 p.key] w fun e w' => e = .returned (.bool true) ∧ Sat (lruI L s1.cap (outI s1.its p.key) * F) w') := hdr
     clear hwr hdr
     go_wp2_with fail
     refine (HDR.out _ _ (takeI (lruI L s1.cap s1.its))).mono ?_
     rintro e w3 ⟨rfl, hs3⟩
     haveI := hs3.i
     clear hs2
     go_wp2
     go_ret
     refine ⟨rfl, ?_⟩
     refine Sat.cache_shut (L := L) (PM := PM) (ps := l1 ++ l2) HQ.out.1 ?_
     refine satI_weak (C := rw TB 1 p.v (bys p.b)) ?_
     rw [HQ.out.2, pagesA_append, show pagesA (p :: l2) = rw TB 1 p.v (bys p.b) * pagesA l2 from rfl]
     show _ = coreC C L D PM s1 * (lruI L s1.cap (outI s1.its p.key) * (diskP D s1.d * (mp ikey PM ((l1 ++ l2).map kvP) * pagesA (l1 ++ l2)))) * F * rw TB 1 p.v (bys p.b)
     rw [pagesA_append]
     ac_rfl
   · have := HP.out.2
     rw [← hp, (pg_none hno).1] at this
     cases this
 · rw [if_neg hz] at HR
   rw [HR.out]
   clear HR
   have hz' : (e1 == 0) = false := by simpa using hz
   go_enter Tryz.func59, Tryz.ntmps59
   go_wp2_with fail
   refine hwr.mono ?_
   rintro e w2 ⟨rfl, hs2⟩
   go_wp2
   go_ret
   exact ⟨rfl, Sat.cache_shut HP.out.1 hs2⟩
set_option maxRecDepth 100000 in
set_option maxHeartbeats 1000000 in
theorem room_any (C D : Nat) (s : Ck) (m : Nat) (F : Assn) (w : World) (hs : Sat (cacheP C D s * F) w) (ok : CkOk m s) (hm : m ≤ 549755813888) :
 Calls Tryz.prog 161 #[.pointer (some ⟨C, 0, none⟩)] w fun e w' => e = .returned (.int .i64 s.room.1) ∧ Sat (cacheP C D s.room.2 * F) w' := by
 obtain ⟨L, PM, ps, hp, hs1⟩ := Sat.cache_open hs
 have hpl : ps.length = s.pgs.length := by rw [← hp]; simp [pgents]
 have hlen := ok.len
 have hcap := ok.cap
 have hmost := ok.most
 unfold cacheA at hs1
 by_cases hlt : (ps.length : Int) < s.cap
 · have e : s.room = (0, s) := by unfold Ck.room; rw [if_pos (by rw [← hpl]; exact hlt)]
   rw [e]
   have HP : Aside (pgents ps = s.pgs) := hp
   haveI := hs1.i
   clear e hs hp hpl hlen
   go_enter Tryz.func161, Tryz.ntmps161
   go_upto_region 1 with (fail)
   go_region
   all_goals
    go_wp2
    go_ret
    exact ⟨rfl, Sat.cache_shut HP.out (satI_eq (by unfold cacheA; rfl))⟩
 · have hlt' : decide ((ps.length : Int) < s.cap) = false := by simpa using hlt
   cases ho : oldI s.its with
   | none =>
     have e : s.room = (9, s) := by unfold Ck.room; rw [if_neg (by rw [← hpl]; exact hlt), ho]
     rw [e]
     have hol := fun F w h => oldestH L s.cap s.its F w h
     rw [ho] at hol
     have HP : Aside (pgents ps = s.pgs) := hp
     have HO : Aside (∀ (F : Assn) (w : World), Sat (lruI L s.cap s.its * F) w → Calls Tryz.prog 58 #[.pointer (some ⟨L, 0, none⟩)] w fun e w' => e = .returned (.tuple #[.int .i64 0, .bool false]) ∧ w = w') := hol
     haveI := hs1.i
     clear e hs hp hpl hlen hlt hol ho
     go_enter Tryz.func161, Tryz.ntmps161
     go_upto_region 1 with (fail)
     go_region
     all_goals
      go_wp2_with fail
      refine (HO.out _ _ (takeI (lruI L s.cap s.its))).mono ?_
      rintro e w2 ⟨rfl, rfl⟩
      go_wp2
      go_ret
      exact ⟨rfl, Sat.cache_shut HP.out (satI_eq (by unfold cacheA; rfl))⟩
   | some n =>
     have e : s.room = s.release n.key := by unfold Ck.room; rw [if_neg (by rw [← hpl]; exact hlt), ho]
     rw [e]
     have hol := fun F w h => oldestH L s.cap s.its F w h
     rw [ho] at hol
     have HP : Aside (pgents ps = s.pgs ∧ dropB s.its n.key = true) := ⟨hp, old_drop ho⟩
     have HO : Aside (∀ (F : Assn) (w : World), Sat (lruI L s.cap s.its * F) w → Calls Tryz.prog 58 #[.pointer (some ⟨L, 0, none⟩)] w fun e w' => e = .returned (.tuple #[.int .i64 n.key, .bool true]) ∧ w = w') := hol
     haveI := hs1.i
     clear e hs hp hpl hlen hlt hol ho
     go_enter Tryz.func161, Tryz.ntmps161
     go_upto_region 1 with (fail)
     go_region
     all_goals
      go_wp2_with fail
      refine (HO.out _ _ (takeI (lruI L s.cap s.its))).mono ?_
      rintro e w2 ⟨rfl, rfl⟩
      go_wp2_with fail
      refine (release_any C D s m n.key F _ (Sat.cache_shut HP.out.1 (satI_eq (by unfold cacheA; rfl))) ok hm HP.out.2).mono ?_
      rintro e w3 ⟨rfl, hs3⟩
      go_wp2
      go_ret
      exact ⟨rfl, hs3⟩
set_option maxRecDepth 100000 in
set_option maxHeartbeats 1000000 in
theorem take_any (C D : Nat) (s : Ck) (m : Nat) (no : Int) (v : Value) (b : List UInt8) (B F : Assn) (w : World) (hB : Reads B v b) (hs : Sat (cacheP C D s * (B * F)) w) (ok : CkOk m s) (hm : m ≤ 274877906944) (hno : hasI s.its no = false) (hb : b.length = 256) :
 Calls Tryz.prog 136 #[.pointer (some ⟨C, 0, none⟩), .int .i64 no, v] w fun e w' => e = .returned (.int .i64 (s.take no b).1) ∧ Sat (cacheP C D (s.take no b).2 * (B * F)) w' := by
 obtain ⟨va, vc, rfl, hvc, hvm⟩ := (hB _ _ (hs.take B)).len
 have hrm := room_any C D s m _ w hs ok (by omega)
 obtain ⟨r1, r2, r3, r4⟩ := room_ok ok
 have HT : Aside (s.take no b = if s.room.1 = 0 then (0, { s.room.2 with its := s.room.2.its ++ [⟨no, 0, false⟩], pgs := pput no b s.room.2.pgs }) else s.room) := rfl
 obtain ⟨s1, hs1⟩ : ∃ x, s.room.2 = x := ⟨_, rfl⟩
 obtain ⟨e1, he1⟩ : ∃ x, s.room.1 = x := ⟨_, rfl⟩
 have hse : s.room = (e1, s1) := by rw [← hs1, ← he1]
 rw [hse] at hrm HT
 simp only at hrm HT
 rw [hs1] at r1 r2 r3
 rw [he1] at r2
 clear hs1 he1 hse
 by_cases hz : e1 = 0
 · subst hz
   rw [if_pos rfl] at HT
   rw [HT.out]
   have hlt := r2 rfl
   have hno1 : hasI s1.its no = false := by
    rw [Bool.eq_false_iff]; intro hh; rw [r3 no hh] at hno; cases hno
   have hpn : (pget no s1.pgs).isSome = false := by rw [← r1.same]; exact hno1
   have HA : Aside (LruOk s1.its ∧ hasI s1.its no = false ∧ (s1.its.length : Int) ≠ s1.cap ∧ (pget no s1.pgs).isSome = false) := ⟨r1.lru, hno1, by omega, hpn⟩
   obtain ⟨i0, E⟩ := elemB
   rw [hb] at hvc hB
   rw [hb]
   have HB : Aside (b.length = 256) := hb
   clear HT r1 r2 r3 r4 hlt hno1 hpn hs hno hb
   go_enter Tryz.func136, Tryz.ntmps136
   go_wp2_with fail
   refine hrm.mono ?_
   rintro e w2 ⟨rfl, hs2⟩
   obtain ⟨L, PM, ps, hp, hs2⟩ := Sat.cache_open hs2
   unfold cacheA at hs2
   have HP : Aside (pgents ps = s1.pgs) := hp
   haveI := hs2.i
   clear hrm hp
   go_wp2_with fail
   refine (addH L s1.cap s1.its no _ _ (takeI (lruI L s1.cap s1.its)) HA.out.1 HA.out.2.1 HA.out.2.2.1).mono ?_
   rintro e w3 ⟨rfl, hs3⟩
   haveI := hs3.i
   clear hs2
   go_upto_region 5 with (fail)
   go_region_held3 (fun w' => w'.cell? ⟨C, 4, none⟩ = some (.map (some PM))) (first | exact cell_sat _ _ _) (first
    | (refine step_append_sl E rfl (.tmp 24) (.tmp 25) rfl rfl rfl (rw_empty (b := w3.heap.size) (e := TB)) (hB.srcI HB.out) (by unfold maxLen; omega) (by omega) ?_; intro a4 c4 w4 hs4 hnn; clear hnn; simp only [Nat.zero_add, List.nil_append] at hs4; haveI := hs4.i))
   all_goals
    go_wp2
    go_ret
    refine ⟨rfl, ?_⟩
    have hno2 : ∀ p ∈ ps, p.key ≠ no := by
     rcases pg_cases ps no with ⟨l1, p, l2, rfl, rfl, hl1⟩ | h
     · have := HA.out.2.2.2
       rw [← HP.out, (pg_found hl1).1] at this
       cases this
     · exact h
    obtain ⟨_, _, g1, g2⟩ := pg_none hno2
    refine Sat.cache_shut (L := L) (PM := PM) (ps := ps ++ [⟨no, .slice a4 256 c4, b⟩]) ?_ ?_
    · show _ = pput no b s1.pgs
      rw [← HP.out, g1]; simp [pgents]
    · refine satI_eq ?_
      rw [g2]
      show _ = coreC C L D PM s1 * (lruI L s1.cap (s1.its ++ [⟨no, 0, false⟩]) * (diskP D s1.d * (mp ikey PM ((ps ++ [(⟨no, .slice a4 256 c4, b⟩ : Pg)]).map kvP) * pagesA (ps ++ [(⟨no, .slice a4 256 c4, b⟩ : Pg)])))) * (B * F)
      rw [pagesA_append, List.map_append, show pagesA [(⟨no, .slice a4 256 c4, b⟩ : Pg)] = rw TB 1 (.slice a4 256 c4) (bys b) * 1 from rfl, sep_one]
      show _ = coreC C L D PM s1 * (lruI L s1.cap (s1.its ++ [⟨no, 0, false⟩]) * (diskP D s1.d * (mp ikey PM (ps.map kvP ++ [(no, .slice a4 256 c4)]) * _))) * (B * F)
      ac_rfl
 · rw [if_neg hz] at HT
   rw [HT.out]
   have hz' : (e1 != 0) = true := by simpa using hz
   clear HT r1 r2 r3 r4 hs hno hz
   go_enter Tryz.func136, Tryz.ntmps136
   go_wp2_with fail
   refine hrm.mono ?_
   rintro e w2 ⟨rfl, hs2⟩
   go_wp2
   go_ret
   exact ⟨rfl, hs2⟩
end Go.Proofs.YteecnkneceemjaaGreat
namespace Go.Proofs.YteecnkneceemjaaGreat
set_option linter.unusedSimpArgs false
set_option linter.unusedVariables false
open Go.RowKit Go.Sl Go.Dk
open Go.Lru (ikey)
attribute [local go_sem ↓] Go.wp_at_zero Go.wp_at_succ
attribute [local go_sem] Go.Sl.cell_sat Go.Sl.frozen_sat look_PM len_PM put_PM del_PM
theorem useI_none {its : List It} {no : Int} (hh : hasI its no = false) : useI its no = its := by
 unfold useI outI
 have h1 : its.filter (fun n => n.key == no) = [] := List.filter_eq_nil_iff.2 fun x hx => by
  intro h2
  have h3 : hasI its no = true := hasI_iff.2 (List.mem_map.2 ⟨x, hx, by simpa using h2⟩)
  rw [hh] at h3; cases h3
 have h2 : its.filter (fun n => n.key != no) = its := List.filter_eq_self.2 fun x hx => by
  simp
  intro h2
  have h3 : hasI its no = true := hasI_iff.2 (List.mem_map.2 ⟨x, hx, h2⟩)
  rw [hh] at h3; cases h3
 rw [h1, h2, List.append_nil]
theorem read_len {d : Dk} {nm : ByteArray} {k : Int} {n : Nat} (h : (d.read nm k n).1 = 0) : (d.read nm k n).2.length = n := by
 unfold Dk.read at h ⊢
 split at h
 · rename_i h1; exact absurd h h1
 · rename_i h1
   rw [if_neg h1]
   simp only at h ⊢
   split at h
   · cases h
   · rename_i h2
     rw [if_neg h2]
     simp
     omega
def GetPost (C D : Nat) (F : Assn) (r : Int × List UInt8 × Ck) (e : Ending) (w' : World) : Prop :=
 ∃ v, e = .returned (.tuple #[v, .int .i64 r.1]) ∧ Sat (rw TB 1 v (bys r.2.1) * (cacheP C D r.2.2 * F)) w'
set_option maxRecDepth 100000 in
set_option maxHeartbeats 1000000 in
theorem get_any (C D : Nat) (s : Ck) (m : Nat) (no : Int) (F : Assn) (w : World) (hs : Sat (cacheP C D s * F) w) (ok : CkOk m s) (hm : m ≤ 274877906944) :
 Calls Tryz.prog 119 #[.pointer (some ⟨C, 0, none⟩), .int .i64 no] w (GetPost C D F (s.get no)) := by
 by_cases hr : no < 0 ∨ 1048576 ≤ no
 · have e : s.get no = (1, [], s) := by unfold Ck.get; rw [if_pos hr]
   rw [e]
   have hs2 : Sat (rw TB 1 (.slice none 0 0) (bys []) * (cacheP C D s * F)) w := Sat.rw_nil hs
   rcases hr with hr | hr
   · go_enter Tryz.func119, Tryz.ntmps119
     go_wp2
     go_ret2
     exact ⟨_, rfl, hs2⟩
   · have hr' : ¬ no < 0 := by omega
     go_enter Tryz.func119, Tryz.ntmps119
     go_wp2
     go_ret2
     exact ⟨_, rfl, hs2⟩
 · have hr0 : 0 ≤ no := by omega
   have hr1 : no < 1048576 := by omega
   obtain ⟨L, PM, ps, hp, hs1⟩ := Sat.cache_open hs
   unfold cacheA at hs1
   have hnm : s.nm.size ≤ 9223372036854775807 := named_size ok.nm
   cases hh : hasI s.its no with
   | true =>
     have e : s.get no = (0, s.page no, { s with its := useI s.its no }) := by unfold Ck.get; rw [if_neg hr, if_pos hh]
     rw [e]
     obtain ⟨b, hb, hbl, _, _⟩ := ok.key hh
     rcases pg_cases ps no with ⟨l1, p, l2, rfl, rfl, hl1⟩ | hno
     · obtain ⟨q1, q2, _⟩ := pg_found (l2 := l2) hl1
       rw [hp] at q1
       have hb2 : p.b = b := by rw [q1] at hb; exact Option.some.inj hb
       have hpb : s.page p.key = p.b := by unfold Ck.page; rw [q1]; rfl
       have hR : pagesA (l1 ++ p :: l2) = rw TB 1 p.v (bys p.b) * (pagesA l1 * pagesA l2) := by rw [pagesA_append]; show pagesA l1 * (_ * pagesA l2) = _; ac_rfl
       rw [hR] at hs1
       obtain ⟨va, vc, hpv, hvc, hvm⟩ := rw_vb (hs1.take (rw TB 1 p.v (bys p.b)))
       rw [hb2, hbl] at hpv hvc
       have HP : Aside (pgents (l1 ++ p :: l2) = s.pgs ∧ s.page p.key = p.b ∧ p.b.length = 256 ∧ pagesA (l1 ++ p :: l2) = rw TB 1 p.v (bys p.b) * (pagesA l1 * pagesA l2) ∧ p.v = .slice va 256 vc) := ⟨hp, hpb, by rw [hb2]; exact hbl, hR, hpv⟩
       rw [hpv] at q2 hs1
       obtain ⟨ms, hms⟩ : ∃ ms, (l1 ++ p :: l2).map kvP = ms := ⟨_, rfl⟩
       rw [hms] at q2 hs1
       have HMS : Aside ((l1 ++ p :: l2).map kvP = ms) := hms
       clear hms
       have hu := useH L s.cap s.its p.key _ w (hs1.take (lruI L s.cap s.its)) ok.lru
       rw [hh] at hu
       obtain ⟨i0, E⟩ := elemB
       haveI := hs1.i
       clear e hr hs hp hh hb q1 hb2 hbl hpb hR hpv
       go_enter Tryz.func119, Tryz.ntmps119
       go_wp2_with fail
       refine hu.mono ?_
       rintro e w2 ⟨rfl, hs2⟩
       clear hu hs1
       haveI := hs2.i
       go_wp2_with (at_builtin; (refine wpl_append_same E rfl (.tmp 24) (.tmp 30) rfl rfl rfl (rw_empty (b := w2.heap.size) (e := TB)) (Reads.srcI (B := rw TB 1 (.slice va 256 vc) (bys p.b)) (by have hz := Reads.rw (e := TB) (v := .slice va 256 vc) (l := p.b); exact hz) HP.out.2.2.1) (by unfold maxLen; omega) (by omega) ?_; intro a4 c4 w4 hs4 hnn; clear hnn; simp only [Nat.zero_add, List.nil_append] at hs4; haveI := hs4.i))
       go_ret2
       refine ⟨_, rfl, ?_⟩
       obtain ⟨g1, g2, g3, g4, g5⟩ := HP.out
       show Sat (rw TB 1 _ (bys (s.page p.key)) * _) _
       rw [g2, sep_left]
       refine Sat.cache_shut (L := L) (PM := PM) (ps := l1 ++ p :: l2) g1 (hs4.eq ?_)
       show _ = coreC C L D PM s * (lruI L s.cap (useI s.its p.key) * (diskP D s.d * (mp ikey PM ((l1 ++ p :: l2).map kvP) * pagesA (l1 ++ p :: l2)))) * _
       rw [g4, g5, HMS.out]
       ac_rfl
     · rw [← hp, (pg_none hno).1] at hb
       cases hb
   | false =>
     have HG : Aside (s.get no = if (s.d.read s.nm (no * 256) 256).1 = 0 then (if (s.take no (s.d.read s.nm (no * 256) 256).2).1 = 0 then (0, (s.d.read s.nm (no * 256) 256).2, { (s.take no (s.d.read s.nm (no * 256) 256).2).2 with reads := (s.take no (s.d.read s.nm (no * 256) 256).2).2.reads + 1 }) else ((s.take no (s.d.read s.nm (no * 256) 256).2).1, [], (s.take no (s.d.read s.nm (no * 256) 256).2).2)) else (if (s.d.read s.nm (no * 256) 256).1 = 2 then 6 else (s.d.read s.nm (no * 256) 256).1, [], s)) := by
      show _ = _
      unfold Ck.get; rw [if_neg hr, if_neg (by simp [hh])]
     have hrl := read_len (d := s.d) (nm := s.nm) (k := no * 256) (n := 256)
     obtain ⟨r, hrr⟩ : ∃ r, s.d.read s.nm (no * 256) 256 = r := ⟨_, rfl⟩
     have hrd : ∀ F w, Sat (diskP D s.d * F) w → Calls Tryz.prog 40 #[.pointer (some ⟨D, 0, none⟩), .string s.nm, .int .i64 (no * 256), .int .i64 256] w fun e w' => ∃ v, e = .returned (.tuple #[v, .int .i64 r.1]) ∧ Sat (rw TB 1 v (bys r.2) * (diskP D s.d * F)) w' := by
      intro F w h
      have := read_any D s.d s.nm (no * 256) 256 F w h hnm (fun p hp => (ok.dk.sz p hp).1)
      rw [hrr] at this
      exact this
     have hrl2 : r.1 = 0 → r.2.length = 256 := by
      have : ((256 : Nat) : Int) = 256 := rfl
      rw [this, hrr] at hrl
      exact hrl
     rw [hrr] at HG
     clear hrl hrr
     have hu := useH L s.cap s.its no _ w (hs1.take (lruI L s.cap s.its)) ok.lru
     rw [hh] at hu
     have huse : useI s.its no = s.its := useI_none hh
     rw [huse] at hu
     have HRD : Aside (∀ F w, Sat (diskP D s.d * F) w → Calls Tryz.prog 40 #[.pointer (some ⟨D, 0, none⟩), .string s.nm, .int .i64 (no * 256), .int .i64 256] w fun e w' => ∃ v, e = .returned (.tuple #[v, .int .i64 r.1]) ∧ Sat (rw TB 1 v (bys r.2) * (diskP D s.d * F)) w') := hrd
     have HP : Aside (pgents ps = s.pgs ∧ hasI s.its no = false ∧ (r.1 = 0 → r.2.length = 256)) := ⟨hp, hh, hrl2⟩
     obtain ⟨rc, rb⟩ := r
     simp only at HG HRD HP
     haveI := hs1.i
     clear hrd hrl2 hh hr hs hp huse
     by_cases hz : rc = 0
     · subst hz
       rw [if_pos rfl] at HG
       rw [HG.out]
       clear HG
       have hrl := HP.out.2.2 rfl
       have htk := fun (v : Value) (F : Assn) (w : World) (h : Sat (cacheP C D s * (rw TB 1 v (bys rb) * F)) w) => take_any C D s m no v rb (rw TB 1 v (bys rb)) F w Reads.rw h ok hm HP.out.2.1 hrl
       have hto := take_ok ok HP.out.2.1 hr0 hr1 hrl
       obtain ⟨⟨tc, ts⟩, htt⟩ : ∃ r, s.take no rb = r := ⟨_, rfl⟩
       rw [htt] at htk hto ⊢
       simp only at htk hto ⊢
       have HTK : Aside (∀ (v : Value) (F : Assn) (w : World), Sat (cacheP C D s * (rw TB 1 v (bys rb) * F)) w → Calls Tryz.prog 136 #[.pointer (some ⟨C, 0, none⟩), .int .i64 no, v] w fun e w' => e = .returned (.int .i64 tc) ∧ Sat (cacheP C D ts * (rw TB 1 v (bys rb) * F)) w') := htk
       have hrd0 := hto.reads
       have hrd1 : ts.reads ≤ 4611686018427387904 := by unfold U at hrd0; omega
       have hrd2 := hrd0.1
       clear htk htt hto hrl hrd0
       by_cases hz : tc = 0
       · subst hz
         rw [if_pos rfl]
         go_enter Tryz.func119, Tryz.ntmps119
         go_wp2_with fail
         refine hu.mono ?_
         rintro e w2 ⟨rfl, hs2⟩
         haveI := hs2.i
         clear hu hs1
         go_upto_region 5 with (fail)
         have hw1 : IntKind.i64.wrap (no * 256) = no * 256 := IntWalk.i64_in _ (by omega)
         go_region_held3 (fun w' => w'.cell? ⟨C, 1, none⟩ = some (.pointer (some ⟨D, 0, none⟩)) ∧ w'.cell? ⟨C, 2, none⟩ = some (.string s.nm)) (first | exact ⟨cell_sat _ _ _, cell_sat _ _ _⟩) (first
          | (go_at_call 40; refine (HRD.out _ _ (takeI (diskP D s.d))).mono ?_; rintro e w3 ⟨v, rfl, hs3⟩; haveI := hs3.i))
         clear hw1 hs2
         all_goals
          go_wp2_with fail
          refine (HTK.out v F _ (Sat.cache_shut (L := L) (PM := PM) (ps := ps) HP.out.1 (satI_eq (by unfold cacheA; ac_rfl)))).mono ?_
          rintro e w4 ⟨rfl, hs4⟩
          obtain ⟨L4, PM4, ps4, hp4, hs4⟩ := Sat.cache_open hs4
          unfold cacheA at hs4
          have HP4 : Aside (pgents ps4 = ts.pgs) := hp4
          haveI := hs4.i
          clear hs3 hp4
          go_wp2
          go_ret2
          refine ⟨_, rfl, ?_⟩
          rw [sep_left]
          refine Sat.cache_shut (L := L4) (PM := PM4) (ps := ps4) HP4.out ?_
          refine satI_eq ?_
          show _ = coreC C L4 D PM4 { ts with reads := ts.reads + 1 } * (lruI L4 ts.cap ts.its * (diskP D ts.d * (mp ikey PM4 (ps4.map kvP) * pagesA ps4))) * _
          ac_rfl
       · rw [if_neg hz]
         have hz1 : (tc == 0) = false := by simpa using hz
         have hz2 : (tc != 0) = true := by simpa using hz
         clear hz
         go_enter Tryz.func119, Tryz.ntmps119
         go_wp2_with fail
         refine hu.mono ?_
         rintro e w2 ⟨rfl, hs2⟩
         haveI := hs2.i
         clear hu hs1
         go_upto_region 5 with (fail)
         have hw1 : IntKind.i64.wrap (no * 256) = no * 256 := IntWalk.i64_in _ (by omega)
         go_region_held3 (fun w' => w'.cell? ⟨C, 1, none⟩ = some (.pointer (some ⟨D, 0, none⟩)) ∧ w'.cell? ⟨C, 2, none⟩ = some (.string s.nm)) (first | exact ⟨cell_sat _ _ _, cell_sat _ _ _⟩) (first
          | (go_at_call 40; refine (HRD.out _ _ (takeI (diskP D s.d))).mono ?_; rintro e w3 ⟨v, rfl, hs3⟩; haveI := hs3.i))
         clear hw1 hs2
         all_goals
          go_wp2_with fail
          refine (HTK.out v F _ (Sat.cache_shut (L := L) (PM := PM) (ps := ps) HP.out.1 (satI_eq (by unfold cacheA; ac_rfl)))).mono ?_
          rintro e w4 ⟨rfl, hs4⟩
          go_wp2
          go_ret2
          exact ⟨_, rfl, Sat.rw_nil (hs4.drop (rw TB 1 v (bys rb)))⟩
     · rw [if_neg hz] at HG
       have hz1 : (rc == 0) = false := by simpa using hz
       have hz3 : (rc != 0) = true := by simpa using hz
       rw [HG.out]
       clear HG
       by_cases h2 : rc = 2
       · subst h2
         rw [if_pos rfl]
         clear hz hz1 hz3
         go_enter Tryz.func119, Tryz.ntmps119
         go_wp2_with fail
         refine hu.mono ?_
         rintro e w2 ⟨rfl, hs2⟩
         haveI := hs2.i
         clear hu hs1
         go_upto_region 5 with (fail)
         have hw1 : IntKind.i64.wrap (no * 256) = no * 256 := IntWalk.i64_in _ (by omega)
         go_region_held3 (fun w' => w'.cell? ⟨C, 1, none⟩ = some (.pointer (some ⟨D, 0, none⟩)) ∧ w'.cell? ⟨C, 2, none⟩ = some (.string s.nm)) (first | exact ⟨cell_sat _ _ _, cell_sat _ _ _⟩) (first
          | (go_at_call 40; refine (HRD.out _ _ (takeI (diskP D s.d))).mono ?_; rintro e w3 ⟨v, rfl, hs3⟩; haveI := hs3.i))
         clear hw1 hs2
         all_goals
          go_wp2
          go_ret2
          refine ⟨_, rfl, Sat.rw_nil (Sat.cache_shut (L := L) (PM := PM) (ps := ps) HP.out.1 ?_)⟩
          refine satI_weak (C := rw TB 1 v (bys rb)) ?_
          unfold cacheA
          ac_rfl
       · rw [if_neg h2]
         have hz2 : (rc == 2) = false := by simpa using h2
         clear hz h2
         go_enter Tryz.func119, Tryz.ntmps119
         go_wp2_with fail
         refine hu.mono ?_
         rintro e w2 ⟨rfl, hs2⟩
         haveI := hs2.i
         clear hu hs1
         go_upto_region 5 with (fail)
         have hw1 : IntKind.i64.wrap (no * 256) = no * 256 := IntWalk.i64_in _ (by omega)
         go_region_held3 (fun w' => w'.cell? ⟨C, 1, none⟩ = some (.pointer (some ⟨D, 0, none⟩)) ∧ w'.cell? ⟨C, 2, none⟩ = some (.string s.nm)) (first | exact ⟨cell_sat _ _ _, cell_sat _ _ _⟩) (first
          | (go_at_call 40; refine (HRD.out _ _ (takeI (diskP D s.d))).mono ?_; rintro e w3 ⟨v, rfl, hs3⟩; haveI := hs3.i))
         clear hw1 hs2
         all_goals
          go_wp2
          go_ret2
          refine ⟨_, rfl, Sat.rw_nil (Sat.cache_shut (L := L) (PM := PM) (ps := ps) HP.out.1 ?_)⟩
          refine satI_weak (C := rw TB 1 v (bys rb)) ?_
          unfold cacheA
          ac_rfl
set_option maxRecDepth 100000 in
set_option maxHeartbeats 1000000 in
theorem put_any (C D : Nat) (s : Ck) (m : Nat) (no : Int) (v : Value) (b : List UInt8) (B F : Assn) (w : World) (hB : Reads B v b) (hs : Sat (cacheP C D s * (B * F)) w) (ok : CkOk m s) (hm : m ≤ 274877906944) :
 Calls Tryz.prog 154 #[.pointer (some ⟨C, 0, none⟩), .int .i64 no, v] w fun e w' => e = .returned (.int .i64 (s.put no b).1) ∧ Sat (cacheP C D (s.put no b).2 * (B * F)) w' := by
 obtain ⟨va, vc, rfl, hvc, hvm⟩ := (hB _ _ (hs.take B)).len
 by_cases hr : no < 0 ∨ 1048576 ≤ no ∨ b.length ≠ 256
 · have e : s.put no b = (1, s) := by unfold Ck.put; rw [if_pos hr]
   rw [e]
   by_cases h1 : no < 0
   · go_enter Tryz.func154, Tryz.ntmps154
     go_wp2
     go_ret
     exact ⟨rfl, hs⟩
   · by_cases h2 : 1048576 ≤ no
     · go_enter Tryz.func154, Tryz.ntmps154
       go_wp2
       go_ret
       exact ⟨rfl, hs⟩
     · have h3 : ((b.length : Int) != 256) = true := by simp; omega
       have h3' : (b.length != 256) = true := by simp; omega
       have h4 : no < 1048576 := by omega
       have h5 : 0 ≤ no := by omega
       clear hr e h2 h1
       go_enter Tryz.func154, Tryz.ntmps154
       go_wp2
       go_ret
       exact ⟨rfl, hs⟩
 · have hr0 : 0 ≤ no := by omega
   have hr1 : no < 1048576 := by omega
   have hbl : b.length = 256 := by omega
   obtain ⟨L, PM, ps, hp, hs1⟩ := Sat.cache_open hs
   unfold cacheA at hs1
   rw [hbl] at hB hvc
   rw [hbl]
   have HB : Aside (b.length = 256) := hbl
   have hu := useH L s.cap s.its no _ w (hs1.take (lruI L s.cap s.its)) ok.lru
   cases hh : hasI s.its no with
   | true =>
     have e : s.put no b = (0, { s with its := markI (useI s.its no) no true, pgs := pput no b s.pgs }) := by unfold Ck.put; rw [if_neg hr, if_pos hh]
     rw [e]
     rw [hh] at hu
     obtain ⟨b0, hb, hbl0, _, _⟩ := ok.key hh
     have hou := ok_use ok.lru no
     rcases pg_cases ps no with ⟨l1, p, l2, rfl, rfl, hl1⟩ | hno
     · obtain ⟨q1, q2, q3, _⟩ := pg_found (l2 := l2) hl1
       rw [hp] at q1
       have hb2 : p.b.length = 256 := by rw [q1] at hb; rw [Option.some.inj hb]; exact hbl0
       have hR : ∀ q : Pg, pagesA (l1 ++ q :: l2) = rw TB 1 q.v (bys q.b) * (pagesA l1 * pagesA l2) := by intro q; rw [pagesA_append]; show pagesA l1 * (_ * pagesA l2) = _; ac_rfl
       rw [hR] at hs1 hu
       rcases (hs1.take (rw TB 1 p.v (bys p.b))).rw_open with ⟨_, g2, _⟩ | ⟨pg, n, pc, sp, hpv, g2, g3, g4, g5, g6⟩
       · have := congrArg List.length g2; rw [bys_len, hb2] at this; cases this
       rw [bys_len, hb2, Nat.mul_one] at g2
       subst g2
       rw [hpv] at q2 hs1 hu
       obtain ⟨ms, hms⟩ : ∃ ms, (l1 ++ p :: l2).map kvP = ms := ⟨_, rfl⟩
       have HMS : Aside ((l1 ++ { p with b := b } :: l2).map kvP = ms ∧ pgents (l1 ++ { p with b := b } :: l2) = pput p.key b s.pgs ∧ p.v = .slice (some ⟨pg, 0, none⟩) 256 pc) := ⟨by rw [← hms]; simp [kvP], by rw [← hp]; exact (q3 b).symm, hpv⟩
       have HRR : Aside ((∀ q : Pg, pagesA (l1 ++ q :: l2) = rw TB 1 q.v (bys q.b) * (pagesA l1 * pagesA l2)) ∧ p.b.length = 256 ∧ LruOk (useI s.its p.key) ∧ hasI (useI s.its p.key) p.key = true) := ⟨hR, hb2, hou, hasI_iff.2 (use_mem.2 (hasI_iff.1 hh))⟩
       rw [hms] at q2 hs1 hu
       obtain ⟨i0, E⟩ := elemB
       haveI := hs1.i
       clear e hr hs hp hh hb q1 q3 hb2 hbl hR hpv hms g3 g6 hou
       go_enter Tryz.func154, Tryz.ntmps154
       go_wp2_with fail
       refine hu.mono ?_
       rintro e w2 ⟨rfl, hs2⟩
       have hxx := hB _ _ (hs2.take B)
       obtain ⟨w3, hrun, hs3⟩ := run_copy_any (P := Tryz.prog) E 62 3 (lo := 0) (hs2.take (rw TB 1 (.slice (some ⟨pg, 0, none⟩) 256 pc) (bys p.b))) hxx (by rw [HB.out]; omega)
       rw [cutA_zero, Nat.sub_zero, Nat.sub_zero, HB.out] at hrun
       rw [HB.out, List.take_zero, List.nil_append, List.drop_of_length_le (by rw [bys_len, HRR.out.2.1]; omega), List.append_nil] at hs3
       haveI := hs2.i
       haveI := hs3.i
       clear hu hs1 hxx
       go_wp2_with fail
       refine (markH L s.cap (useI s.its p.key) p.key true _ _ (takeI (lruI L s.cap (useI s.its p.key))) HRR.out.2.2.1).mono ?_
       rintro e w4 ⟨rfl, hs4⟩
       go_wp2
       go_ret
       refine ⟨rfl, Sat.cache_shut (L := L) (PM := PM) (ps := l1 ++ { p with b := b } :: l2) HMS.out.2.1 (hs4.eq ?_)⟩
       show _ = coreC C L D PM s * (lruI L s.cap (markI (useI s.its p.key) p.key true) * (diskP D s.d * (mp ikey PM ((l1 ++ { p with b := b } :: l2).map kvP) * pagesA (l1 ++ { p with b := b } :: l2)))) * _
       rw [HMS.out.1, HRR.out.1]
       show _ = coreC C L D PM s * (lruI L s.cap (markI (useI s.its p.key) p.key true) * (diskP D s.d * (mp ikey PM ms * (rw TB 1 p.v (bys b) * _)))) * _
       rw [HMS.out.2.2]
       ac_rfl
     · rw [← hp, (pg_none hno).1] at hb
       cases hb
   | false =>
     have HE : Aside (s.put no b = if (s.take no b).1 = 0 then (0, { (s.take no b).2 with its := markI (s.take no b).2.its no true }) else s.take no b) := by
      show _ = _
      unfold Ck.put; rw [if_neg hr, if_neg (by simp [hh])]
     rw [hh] at hu
     have huse : useI s.its no = s.its := useI_none hh
     rw [huse] at hu
     have htk := fun (F : Assn) (w : World) (h : Sat (cacheP C D s * (B * F)) w) => take_any C D s m no (.slice va 256 vc) b B F w hB h ok hm hh hbl
     have hto := (take_ok ok hh hr0 hr1 hbl).lru
     rw [HE.out]
     obtain ⟨⟨tc, ts⟩, htt⟩ : ∃ r, s.take no b = r := ⟨_, rfl⟩
     rw [htt] at htk hto ⊢
     simp only at htk hto ⊢
     have HTK : Aside (∀ (F : Assn) (w : World), Sat (cacheP C D s * (B * F)) w → Calls Tryz.prog 136 #[.pointer (some ⟨C, 0, none⟩), .int .i64 no, .slice va 256 vc] w fun e w' => e = .returned (.int .i64 tc) ∧ Sat (cacheP C D ts * (B * F)) w') := htk
     have HP : Aside (pgents ps = s.pgs ∧ LruOk ts.its) := ⟨hp, hto⟩
     haveI := hs1.i
     clear htk htt hto huse hh hr hs hp hbl HE
     by_cases hz : tc = 0
     · subst hz
       rw [if_pos rfl]
       go_enter Tryz.func154, Tryz.ntmps154
       go_wp2_with fail
       refine hu.mono ?_
       rintro e w2 ⟨rfl, hs2⟩
       clear hu hs1
       go_wp2_with fail
       refine (HTK.out F _ (Sat.cache_shut (L := L) (PM := PM) (ps := ps) HP.out.1 (hs2.eq (by unfold cacheA; ac_rfl)))).mono ?_
       rintro e w4 ⟨rfl, hs4⟩
       obtain ⟨L4, PM4, ps4, hp4, hs4⟩ := Sat.cache_open hs4
       unfold cacheA at hs4
       have HP4 : Aside (pgents ps4 = ts.pgs) := hp4
       haveI := hs4.i
       clear hs2 hp4
       go_wp2_with fail
       refine (markH L4 ts.cap ts.its no true _ _ (takeI (lruI L4 ts.cap ts.its)) HP.out.2).mono ?_
       rintro e w5 ⟨rfl, hs5⟩
       go_wp2
       go_ret
       refine ⟨rfl, Sat.cache_shut (L := L4) (PM := PM4) (ps := ps4) HP4.out (hs5.eq ?_)⟩
       show _ = coreC C L4 D PM4 ts * (lruI L4 ts.cap (markI ts.its no true) * (diskP D ts.d * (mp ikey PM4 (ps4.map kvP) * pagesA ps4))) * _
       ac_rfl
     · rw [if_neg hz]
       have hz2 : (tc != 0) = true := by simpa using hz
       clear hz
       go_enter Tryz.func154, Tryz.ntmps154
       go_wp2_with fail
       refine hu.mono ?_
       rintro e w2 ⟨rfl, hs2⟩
       clear hu hs1
       go_wp2_with fail
       refine (HTK.out F _ (Sat.cache_shut (L := L) (PM := PM) (ps := ps) HP.out.1 (hs2.eq (by unfold cacheA; ac_rfl)))).mono ?_
       rintro e w4 ⟨rfl, hs4⟩
       go_wp2
       go_ret
       exact ⟨rfl, hs4⟩
end Go.Proofs.YteecnkneceemjaaGreat
