/-
  CacheFull: the walk.
-/
import Derived.Test.YtjhkmmpgjiciiaaLaw07a
import Derived.Test.YtjhkmmpgjiciiaaCl2
import Derived.Test.YtjhkmmpgjiciiaaSlb
import Derived.Test.YtjhkmmpgjiciiaaDk6
namespace Go.Proofs.Ytjhkmmpgjiciiaa
set_option linter.unusedSimpArgs false
set_option linter.unusedVariables false
open Go.RowKit Go.Sl Go.Dk
open Go.Lru (ikey)
attribute [local go_sem ↓] Go.wp_at_zero Go.wp_at_succ
attribute [local go_sem] Go.Sl.cell_sat Go.Sl.frozen_sat

def nmP : ByteArray := ⟨#[112, 97, 103, 101, 115]⟩
def nmO : ByteArray := ⟨#[111, 116, 104, 101, 114]⟩
theorem nmP_named : Dk.named nmP = true := by decide +kernel
theorem nmO_named : Dk.named nmO = true := by decide +kernel
theorem nmPO : nmO ≠ nmP := by decide

structure CallC where
  kind : Int
  no : Int
  x : UInt8
def crowC (c : CallC) : List Value := [.int .i64 c.kind, .int .i64 c.no, .int .u8 c.x.toNat]

/-- the numbers that a law keeps of what was put -/
def HaveOk (s : Ck) (hv : List Int) : Prop := ∀ (k : Nat) (h : Int), hv[k]? = some h → 0 ≤ h ∧ h ≤ 256 ∧ (0 < h → Has s (k : Int) (pgx (UInt8.ofNat (h - 1).toNat)))

theorem HaveOk.mono {s s' : Ck} {hv : List Int} (h : HaveOk s hv) (hs : ∀ k b, Has s k b → Has s' k b) : HaveOk s' hv :=
  fun k x hk => ⟨(h k x hk).1, (h k x hk).2.1, fun hx => hs _ _ ((h k x hk).2.2 hx)⟩
theorem HaveOk.put {s s' : Ck} {hv : List Int} {no : Nat} {x : UInt8} (h : HaveOk s hv) (hs : ∀ (k : Int) b, k ≠ (no : Int) → Has s k b → Has s' k b) (hn : Has s' (no : Int) (pgx x)) : HaveOk s' (hv.set no (1 + (x.toNat : Int))) := by
  intro k y hk
  rw [List.getElem?_set] at hk
  by_cases hkn : no = k
  · subst hkn
    rw [if_pos rfl] at hk
    split at hk
    · cases hk
      have := x.toNat_lt
      refine ⟨by omega, by omega, fun _ => ?_⟩
      have e : UInt8.ofNat (1 + (x.toNat : Int) - 1).toNat = x := by
        rw [show (1 + (x.toNat : Int) - 1).toNat = x.toNat by omega]; simp
      rw [e]; exact hn
    · cases hk
  · rw [if_neg hkn] at hk
    exact ⟨(h k y hk).1, (h k y hk).2.1, fun hy => hs _ _ (by omega) ((h k y hk).2.2 hy)⟩
theorem HaveOk.zero {s : Ck} (n : Nat) : HaveOk s (List.replicate n 0) := by
  intro k h hk
  rw [List.getElem?_replicate] at hk
  split at hk
  · cases hk; exact ⟨by omega, by omega, fun h => by omega⟩
  · cases hk

theorem Sat.cache_disk {C D : Nat} {s : Ck} {F : Assn} {w : World} (hs : Sat (cacheP C D s * F) w) : ∃ X : Assn, Sat (diskP D s.d * (X * F)) w ∧ ∀ (d' : Dk) (G : Assn) (w' : World), Sat (diskP D d' * (X * G)) w' → Sat (cacheP C D { s with d := d' } * G) w' := by
  obtain ⟨L, PM, ps, hp, hs1⟩ := Sat.cache_open hs
  refine ⟨coreC C L D PM s * (lruI L s.cap s.its * (mp ikey PM (ps.map kvP) * pagesA ps)), hs1.eq (by unfold cacheA; ac_rfl), fun d' G w' h => ?_⟩
  refine Sat.cache_shut (L := L) (PM := PM) (ps := ps) hp (h.eq ?_)
  show _ = coreC C L D PM s * (lruI L s.cap s.its * (diskP D d' * (mp ikey PM (ps.map kvP) * pagesA ps))) * G
  ac_rfl

def z512 : List UInt8 := List.replicate 512 0
def cfD : Dk := ⟨1024, 0, 0, false, false, [(nmO, ⟨z512, z512, true⟩)], []⟩
def cfS : Ck := ⟨nmP, 3, 0, cfD, [], []⟩
theorem z512_len : z512.length = 512 := List.length_replicate
theorem cf_load : (Dk.new 1024).load nmO z512 = (0, cfD) := by
  unfold Dk.load
  rw [if_neg (by simp [nmO_named])]
  have h : (Dk.new 1024).fits ((Dk.new 1024).get nmO) (z512.length : Int) = 0 := by
    rw [z512_len]; decide +kernel
  rw [if_neg (by rw [h]; simp)]
  rfl
theorem cf_ok : CkOk 0 cfS := by
  have h := ok_load (ok_new 1024 (by omega) (by unfold big; omega)) nmO z512
  rw [cf_load] at h
  exact ⟨⟨by simp [cfS, keysI], by simp [cfS], by simp [cfS]⟩, by simp [cfS], fun k => by simp [cfS, hasI, pget], rfl, by simp [cfS], by simp [cfS], by simp [cfS], h, nmP_named, by simp [cfS]⟩
theorem cf_get : cfD.get nmP = none := by
  unfold Dk.get cfD
  simp only [fget]
  rw [if_neg (by decide)]
theorem cf_good : Good 8 cfS := by
  have hg : cfS.d.get cfS.nm = none := cf_get
  refine ⟨⟨rfl, rfl, nmP_named, ?_⟩, by simp [cfS], by simp [cfS], ?_, by simp [cfS]⟩
  · rw [hg]; simp [cfS, cfD]
  · unfold fnow; rw [hg]; simp [Dk.fl0]

/-- the other file is as it was -/
def Oth (d : Dk) : Prop := d.get nmO = some ⟨z512, z512, true⟩
theorem Oth.wr {nm : ByteArray} (hn : nm = nmP) : ∀ d k b d', Oth d → Wr d nm k b d' → Oth d' := by
  intro d k b d' h hw
  unfold Oth
  rw [hw.other nmO (by rw [hn]; exact nmPO)]
  exact h
theorem cf_oth : Oth cfD := by unfold Oth Dk.get cfD; simp [fget]

theorem cf_cut {m : Nat} {s : Ck} (ok : CkOk m s) (g : Good 8 s) (hn : s.nm = nmP) (ho : Oth s.d) :
    (s.d.cut nmO 0).1 = 0 ∧ Good 8 { s with d := (s.d.cut nmO 0).2 } ∧ (∀ k b, Has s k b → Has { s with d := (s.d.cut nmO 0).2 } k b) ∧ CkOk (m + 1) { s with d := (s.d.cut nmO 0).2 } := by
  have hm : s.d.may nmO true = 0 := may_there nmO_named g.fine.down ho
  have hst : s.d.stop = false := by unfold Dk.stop; simp [g.fine.armed]
  have hh : had (s.d.get nmO) = 512 := by
    have : s.d.get nmO = some ⟨z512, z512, true⟩ := ho
    rw [this]; simp [had, z512_len]
  have e : s.d.cut nmO 0 = (0, { s.d.ticked.put nmO ⟨[], z512, true⟩ with pend := s.d.pend ++ [⟨nmO, 0, none⟩] }) := by
    unfold Dk.cut
    rw [if_neg (by simp [hm]), if_neg (by rw [hh]; omega), if_neg (by simp [hst])]
    have : s.d.get nmO = some ⟨z512, z512, true⟩ := ho
    rw [this]
    rfl
  have hk := ok_cut ok.dk nmO 0
  rw [e] at hk ⊢
  have hget : ({ s.d.ticked.put nmO ⟨[], z512, true⟩ with pend := s.d.pend ++ [⟨nmO, 0, none⟩] } : Dk).get nmP = s.d.get nmP := by
    unfold Dk.get Dk.put
    simp only
    rw [fget_fput, if_neg (fun h => nmPO h.symm)]
    rfl
  have hnow : fnow ({ s.d.ticked.put nmO ⟨[], z512, true⟩ with pend := s.d.pend ++ [⟨nmO, 0, none⟩] } : Dk) s.nm = fnow s.d s.nm := by
    unfold fnow; rw [hn, hget]
  refine ⟨rfl, ⟨⟨g.fine.down, g.fine.armed, g.fine.nmd, ?_⟩, g.pins, ?_, ?_, g.top.2⟩, ?_, ok.disk (by omega) hk⟩
  · have := g.fine.nf
    show (fput nmO _ s.d.files).length + (if (Dk.get { s.d.ticked.put nmO ⟨[], z512, true⟩ with pend := s.d.pend ++ [⟨nmO, 0, none⟩] } s.nm).isSome then 0 else 1) ≤ 8
    rw [hn] at this ⊢
    rw [hget, fput_len]
    have h2 : fget nmO s.d.files = some ⟨z512, z512, true⟩ := ho
    rw [h2]
    exact this
  · intro n hn' hmk b hb
    show Filed (fnow ({ s.d.ticked.put nmO ⟨[], z512, true⟩ with pend := s.d.pend ++ [⟨nmO, 0, none⟩] } : Dk) s.nm) n.key b
    rw [hnow]; exact g.clean n hn' hmk b hb
  · show (fnow ({ s.d.ticked.put nmO ⟨[], z512, true⟩ with pend := s.d.pend ++ [⟨nmO, 0, none⟩] } : Dk) s.nm).length ≤ _
    rw [hnow]; exact g.top.1
  · intro k b hk'
    unfold Has at hk' ⊢
    show pget k s.pgs = some b ∨ pget k s.pgs = none ∧ Filed (fnow ({ s.d.ticked.put nmO ⟨[], z512, true⟩ with pend := s.d.pend ++ [⟨nmO, 0, none⟩] } : Dk) s.nm) k b
    rw [hnow]; exact hk'

theorem mk8 (w : World) : (Instr.makeSlice 22 (.int .i64 8) (.int .i64 8)).run Try.prog w = .ok (.slice (some ⟨w.heap.size, 0, none⟩) 8 8) (w.alloc (.cells ((List.replicate 8 0).map (Value.int .i64)).toArray 3)) := by kernel_rfl

abbrev ints (l : List Int) : List Value := l.map (Value.int .i64)
theorem ints_set (l : List Int) (k : Nat) (z : Int) : ints (l.set k z) = (ints l).set k (.int .i64 z) := by simp [ints, List.map_set]

set_option maxRecDepth 100000 in
set_option maxHeartbeats 4000000 in
theorem cacheFull_walk (v : Value) (cs : List CallC) (w : World) (hv : Rws w v 3 (cs.map crowC)) (hl : cs.length ≤ 9223372036854775807) :
    Calls Try.prog 13 #[v] w fun e w' => e = .returned (.bool true) ∧ Below w.heap.size w w' := by
  obtain ⟨va, vc, hvv⟩ := hv.len
  rw [List.length_map] at hvv
  subst hvv
  have hmk := mk_bytes 512 (by omega)
  rw [show ((512 : Nat) : Int) = 512 from rfl, show List.replicate 512 (0 : UInt8) = z512 from rfl] at hmk
  have hmk8 := mk8
  go_enter Try.func13, Try.ntmps13
  go_wp2_with fail
  refine (newD_yes 1024 (old w) w (Sat.old_self w) (by omega) (by omega)).mono ?_
  rintro e w1 ⟨D, rfl, hs1⟩
  have hnew := newC_yes D (Dk.new 1024) nmP 3 (old w) w1 hs1 nmP_named (by omega) (by omega)
  unfold nmP at hnew
  go_wp2_with fail
  refine hnew.mono ?_
  rintro e w2 ⟨C, rfl, hs2⟩
  clear hs1 hnew
  go_wp2_with fail
  refine (awake07 _ w2 hs2).mono ?_
  rintro e w3 ⟨rfl, hs3⟩
  obtain ⟨X, hs4, hX⟩ := Sat.cache_disk hs3
  have hs5 := hs4.alloc (bys z512).toArray TB
  have hld := load_any D (Dk.new 1024) 0 nmO (.slice (some ⟨w3.heap.size, 0, none⟩) 512 512) z512 (block w3.heap.size TB (bys z512)) _ _ (by have hz := Reads.block0 (b := w3.heap.size) (e := TB) (l := z512) (by rw [z512_len]; unfold maxLen; omega); rw [z512_len] at hz; exact hz) (hs5.take2 (diskP D (Dk.new 1024)) (block w3.heap.size TB (bys z512))) (by decide) (by rw [z512_len]; omega) (ok_new 1024 (by omega) (by unfold big; omega)) (by unfold big; omega)
  rw [cf_load] at hld
  unfold nmO at hld
  have HX : Aside (∀ (d' : Dk) (G : Assn) (w' : World), Sat (diskP D d' * (X * G)) w' → Sat (cacheP C D ⟨nmP, 3, 0, d', [], []⟩ * G) w') := hX
  clear hs2 hs3 hs4 hs5 hX
  go_wp2_with fail
  refine hld.mono ?_
  rintro e w4 ⟨rfl, hs6⟩
  have hs7 : Sat (cacheP C D cfS * old w) w4 := HX.out cfD (old w) w4 ((hs6.drop (block w3.heap.size TB (bys z512))))
  have hs8 := hs7.alloc ((List.replicate 8 0).map (Value.int .i64)).toArray 3
  have hs9 : Sat (block w4.heap.size 3 (ints (List.replicate 8 0)) * (cacheP C D cfS * old w)) (w4.alloc (.cells ((List.replicate 8 0).map (Value.int .i64)).toArray 3)) := hs8
  clear hld hs6 hs7 hs8 HX
  go_wp2_with fail
  go_loopg [8] 40 (fun k i wr => ∃ (j : Nat) (s : Ck) (hv : List Int), i = .int .i64 j ∧ j ≤ 40 ∧ Aside (k = 40 - j ∧ hv.length = 8 ∧ HaveOk s hv ∧ CkOk (j * U) s ∧ Good 8 s ∧ s.nm = nmP ∧ Oth s.d) ∧ Sat (block w4.heap.size 3 (ints hv) * (cacheP C D s * old w)) wr)
  case atStart => exact ⟨0, cfS, List.replicate 8 0, rfl, by omega, ⟨rfl, by simp, HaveOk.zero 8, by simpa using cf_ok, cf_good, rfl, cf_oth⟩, hs9⟩
  case round =>
    clear hs9 hmk8 hmk
    obtain ⟨j, s, hv2, rfl, hj, A, hs⟩ := hrel
    by_cases hgo : j < cs.length ∧ j < 40
    · obtain ⟨hjl, hj2⟩ := hgo
      have hj3 : (j : Int) < cs.length := by omega
      have hj4 : (j : Int) < 40 := by omega
      obtain ⟨c, hx⟩ : ∃ x, cs[j]? = some x := ⟨cs[j], by simp [hjl]⟩
      obtain ⟨rb, ro, e1, hcell⟩ := hv.at (show (cs.map crowC)[j]? = some (crowC c) by simp [hx])
      subst e1
      haveI : OldAt w rb (ro + j * 3 + 1) (.int .i64 c.no) := ⟨hcell 1 _ rfl⟩
      haveI : OldAt w rb (ro + j * 3 + 2) (.int .u8 c.x.toNat) := ⟨hcell 2 _ rfl⟩
      clear hcell hx
      obtain ⟨kk, hkk, hk8⟩ : ∃ m : Nat, c.no % 8 = (m : Int) ∧ m < 8 := ⟨(c.no % 8).toNat, by omega, by omega⟩
      have hp1 := pick_any c.no 8 wr (by omega) (by omega)
      rw [hkk] at hp1
      clear hkk
      obtain ⟨hk, hvl, hho, hok, hgd, hnm, hot⟩ := A.out
      have hfull := full07_any c.x _ wr hs
      have hpg := put_good (no := (kk : Int)) (c := pgx c.x) hok hgd (by omega) (by omega) (by omega) (pgx_len c.x)
      have hpo := put_ok hok (kk : Int) (pgx c.x)
      have hpa := fun (b : Nat) (F : Assn) (w : World) (h : Sat (cacheP C D s * (rw TB 1 (.slice (some ⟨b, 0, none⟩) 256 256) (bys (pgx c.x)) * F)) w) => put_any C D s (j * U) (kk : Int) _ (pgx c.x) (rw TB 1 (.slice (some ⟨b, 0, none⟩) 256 256) (bys (pgx c.x))) F w Reads.rw h hok (by unfold U; omega)
      obtain ⟨⟨pc, s'⟩, hpp⟩ : ∃ r, s.put (kk : Int) (pgx c.x) = r := ⟨_, rfl⟩
      rw [hpp] at hpg hpo hpa
      simp only at hpg hpo hpa
      have HPA : Aside (∀ (b : Nat) (F : Assn) (w : World), Sat (cacheP C D s * (rw TB 1 (.slice (some ⟨b, 0, none⟩) 256 256) (bys (pgx c.x)) * F)) w → Calls Try.prog 55 #[.pointer (some ⟨C, 0, none⟩), .int .i64 (kk : Int), .slice (some ⟨b, 0, none⟩) 256 256] w fun e w' => e = .returned (.int .i64 pc) ∧ Sat (cacheP C D s' * (rw TB 1 (.slice (some ⟨b, 0, none⟩) 256 256) (bys (pgx c.x)) * F)) w') := hpa
      have HG : Aside (gk = 40 - j ∧ hv2.length = 8 ∧ HaveOk s hv2 ∧ PutOut 8 s kk (pgx c.x) pc s' ∧ CkOk ((j + 1) * U) s' ∧ s'.nm = nmP ∧ Oth s'.d) := ⟨hk, hvl, hho, hpg, by rw [Nat.add_mul]; simpa using hpo, hpg.nm.trans hnm, hpg.inv Oth (Oth.wr hnm) hot⟩
      haveI := hs.i
      have hcx := c.x.toNat_lt
      clear hpa hpp hpo hk hvl hho hok hgd hnm hot A
      rcases hpg.code with hz | hz
      · subst hz
        obtain ⟨h0, hh0⟩ : ∃ h, hv2[kk]? = some h := ⟨hv2[kk]'(by rw [HG.out.2.1]; exact hk8), by simp⟩
        haveI : At (ints hv2) kk (.int .i64 h0) := ⟨by simp [ints, hh0]⟩
        clear hpg hh0
        go_wp2_with fail
        refine hp1.mono ?_
        rintro e w' ⟨rfl, rfl⟩
        go_wp2_with fail
        refine hfull.mono ?_
        rintro e w5 ⟨b5, rfl, hs5⟩
        clear hp1 hfull hs
        go_wp2_with fail
        refine (HPA.out b5 _ w5 (hs5.take2 (cacheP C D s) (rw TB 1 (.slice (some ⟨b5, 0, none⟩) 256 256) (bys (pgx c.x))))).mono ?_
        rintro e w6 ⟨rfl, hs6⟩
        have hs7 := hs6.drop (rw TB 1 (.slice (some ⟨b5, 0, none⟩) 256 256) (bys (pgx c.x)))
        haveI := hs7.i
        clear hs5 hs6
        go_wp2_with fail
        go_roundg (40 - (j + 1))
        case measure => have := HG.out.1; omega
        case rel =>
          obtain ⟨hk, hvl, hho, hpg, hok, hnm, hot⟩ := HG.out
          refine ⟨j + 1, s', hv2.set kk (1 + (c.x.toNat : Int)), by go_num, by omega, ⟨rfl, by simpa using hvl, hho.put (fun k b hne => hpg.has k b (.inl hne)) (hpg.put rfl), hok, hpg.good, hnm, hot⟩, ?_⟩
          rw [ints_set]
          exact satI_eq (by ac_rfl)
      · subst hz
        clear hpg
        go_wp2_with fail
        refine hp1.mono ?_
        rintro e w' ⟨rfl, rfl⟩
        go_wp2_with fail
        refine hfull.mono ?_
        rintro e w5 ⟨b5, rfl, hs5⟩
        clear hp1 hfull hs
        go_wp2_with fail
        refine (HPA.out b5 _ w5 (hs5.take2 (cacheP C D s) (rw TB 1 (.slice (some ⟨b5, 0, none⟩) 256 256) (bys (pgx c.x))))).mono ?_
        rintro e w6 ⟨rfl, hs6⟩
        have hs7 := hs6.drop (rw TB 1 (.slice (some ⟨b5, 0, none⟩) 256 256) (bys (pgx c.x)))
        clear hs5 hs6
        go_wp2_with fail
        go_roundg (40 - (j + 1))
        case measure => have := HG.out.1; omega
        case rel =>
          obtain ⟨hk, hvl, hho, hpg, hok, hnm, hot⟩ := HG.out
          exact ⟨j + 1, s', hv2, by go_num, by omega, ⟨rfl, hvl, hho.mono fun k b => hpg.has k b (.inr rfl), hok, hpg.good, hnm, hot⟩, hs7.eq (by ac_rfl)⟩
    · have hways : (¬ (j : Int) < cs.length) ∨ ((j : Int) < cs.length ∧ ¬ (j : Int) < 40) := by omega
      obtain ⟨hk, hvl, hho, hok, hgd, hnm, hot⟩ := A.out
      obtain ⟨c1, c2, c3, c4⟩ := cf_cut hok hgd hnm hot
      obtain ⟨X, hs4, hX⟩ := Sat.cache_disk (hs.take (cacheP C D s))
      have hcut := cut_any D s.d (j * U) nmO 0 _ wr hs4 (by decide) hok.dk (by unfold big U; omega)
      rw [c1] at hcut
      unfold nmO at hcut
      have HX : Aside (∀ (d' : Dk) (G : Assn) (w' : World), Sat (diskP D d' * (X * G)) w' → Sat (cacheP C D { s with d := d' } * G) w') := hX
      have H2 : Aside (hv2.length = 8 ∧ HaveOk { s with d := (s.d.cut nmO 0).2 } hv2 ∧ CkOk (j * U + 1) { s with d := (s.d.cut nmO 0).2 } ∧ Good 8 { s with d := (s.d.cut nmO 0).2 }) := ⟨hvl, hho.mono c3, c4, c2⟩
      clear c1 c2 c3 c4 hX hs4 A hk hvl hho hok hgd hnm hot hgo hv
      rcases hways with h1 | ⟨h1, h2⟩
      all_goals
        go_wp2_with fail
        refine hcut.mono ?_
        rintro e w5 ⟨rfl, hs5⟩
        have hs6 := HX.out _ _ _ hs5
        clear hcut hs5 hs
        go_wp2_with fail
        go_loopg [11] 4 (fun k i wr => ∃ (y : Nat) (t : Ck), i = .int .i64 y ∧ y ≤ 4 ∧ Aside (k = 4 - y ∧ hv2.length = 8 ∧ HaveOk t hv2 ∧ CkOk (j * U + 1 + y * U) t ∧ Good 8 t) ∧ Sat (block w4.heap.size 3 (ints hv2) * (cacheP C D t * old w)) wr)
        case atStart => exact ⟨0, _, rfl, by omega, ⟨rfl, H2.out.1, H2.out.2.1, H2.out.2.2.1.more (by omega), H2.out.2.2.2⟩, hs6.eq (by ac_rfl)⟩
        case round =>
          clear hs6
          obtain ⟨y, t, rfl, hy, A, hs⟩ := hrel
          by_cases hy4 : y < 4
          · have hy5 : (y : Int) < 4 := by omega
            obtain ⟨hk, hvl, hho, hok, hgd⟩ := A.out
            have hget := get_any C D t (j * U + 1 + y * U) (y : Int) _ wr (hs.take (cacheP C D t)) hok (by unfold U; omega)
            have hgg := get_good (no := (y : Int)) hok hgd (by omega) (by omega)
            have hgo := get_ok hok (y : Int)
            obtain ⟨⟨gc, gb, t'⟩, hgt⟩ : ∃ r, t.get (y : Int) = r := ⟨_, rfl⟩
            rw [hgt] at hget hgg hgo
            simp only at hgg hgo
            obtain ⟨h0, hh0⟩ : ∃ h, hv2[y]? = some h := ⟨hv2[y]'(by rw [hvl]; omega), by simp⟩
            haveI : At (ints hv2) y (.int .i64 h0) := ⟨by simp [ints, hh0]⟩
            obtain ⟨b0, b1, b2⟩ := hho y h0 hh0
            have HR : Aside (gk = 4 - y ∧ HaveOk t' hv2 ∧ CkOk (j * U + 1 + (y + 1) * U) t' ∧ Good 8 t' ∧ hv2.length = 8) := ⟨hk, hho.mono hgg.has, hgo.more (by rw [Nat.add_mul]; omega), hgg.good, hvl⟩
            by_cases hp : 0 < h0
            · have hgot := hgg.got _ (b2 hp)
              rcases hgot with h7 | ⟨h7, hbb⟩
              · subst h7
                clear hgo hgg hh0 b2 hk hvl hho hok hgd A hgt
                go_wp2_with fail
                refine hget.mono ?_
                rintro e w7 ⟨v7, rfl, hs7⟩
                haveI := hs7.i
                clear hget hs
                go_wp2_with fail
                go_roundg (4 - (y + 1))
                case measure => have := HR.out.1; omega
                case rel => exact ⟨y + 1, t', by go_num, by omega, ⟨rfl, HR.out.2.2.2.2, HR.out.2.1, HR.out.2.2.1, HR.out.2.2.2.1⟩, hs7.right.eq (by ac_rfl)⟩
              · subst h7 hbb
                obtain ⟨x, hx⟩ : ∃ x, UInt8.ofNat (h0 - 1).toNat = x := ⟨_, rfl⟩
                have hxn : (x.toNat : Int) = h0 - 1 := by rw [← hx, UInt8.toNat_ofNat']; omega
                rw [hx] at hget
                have HXN : Aside ((x.toNat : Int) = h0 - 1) := hxn
                clear hgo hgg hh0 b2 hk hvl hho hok hgd A hgt hx hxn
                go_wp2_with fail
                refine hget.mono ?_
                rintro e w7 ⟨v7, rfl, hs7⟩
                obtain ⟨va7, vc7, rfl, _, _⟩ := rw_vb hs7
                haveI := hs7.i
                have hf := full07_any x _ w7 hs7
                rw [HXN.out] at hf
                clear hget hs
                go_wp2_with fail
                refine hf.mono ?_
                rintro e w8 ⟨b8, rfl, hs8⟩
                have hsame := same_any _ _ _ _ w8 (Reads.rw _ _ (hs8.take (rw TB 1 (.slice va7 (pgx x).length vc7) (bys (pgx x))))) (Reads.rw _ _ hs8)
                simp only [decide_true] at hsame
                clear hf hs7
                go_wp2_with fail
                refine hsame.mono ?_
                rintro e w9 ⟨rfl, n9, rfl⟩
                clear hsame
                go_wp2_with fail
                go_roundg (4 - (y + 1))
                case measure => have := HR.out.1; omega
                case rel => exact ⟨y + 1, t', by go_num, by omega, ⟨rfl, HR.out.2.2.2.2, HR.out.2.1, HR.out.2.2.1, HR.out.2.2.2.1⟩, (hs8.drewN n9).right.right.eq (by ac_rfl)⟩
            · have hp' : ¬ 0 < h0 := hp
              clear hgo hgg hh0 b2 hk hvl hho hok hgd A hgt
              go_wp2_with fail
              refine hget.mono ?_
              rintro e w7 ⟨v7, rfl, hs7⟩
              haveI := hs7.i
              clear hget hs
              go_wp2_with fail
              go_roundg (4 - (y + 1))
              case measure => have := HR.out.1; omega
              case rel => exact ⟨y + 1, t', by go_num, by omega, ⟨rfl, HR.out.2.2.2.2, HR.out.2.1, HR.out.2.2.1, HR.out.2.2.2.1⟩, hs7.right.eq (by ac_rfl)⟩
          · have hy5 : ¬ (y : Int) < 4 := by omega
            clear A
            go_wp2
            go_ret
            exact ⟨rfl, (hs.take (old w)).old_below⟩

end Go.Proofs.Ytjhkmmpgjiciiaa
