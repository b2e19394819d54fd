/-
  Lemmas for TreeReads. No condition (part 40)
-/
import Derived.Test.YteecnkneceemjaaGreatRa38
import Derived.Test.YteecnkneceemjaaGreatRa32
import Derived.Test.YteecnkneceemjaaGreatRa39
set_option linter.unusedSimpArgs false
set_option linter.unusedVariables false
namespace Go.Tr
theorem ndPack_no {n : Nd} (h : may n = false) : ndPack n = (0, [], 1) := by
 unfold ndPack
 rw [if_pos h]
theorem ndPack_yes {n : Nd} (h : may n = true) (h12 : n.ents.length ≤ 12 ∧ n.kids.length ≤ 12) : ∃ k : Nat, (k = 1 ∨ k = 2) ∧ (ndPack n).1 = k ∧ (ndPack n).2.1.length ≤ 244 ∧ (ndPack n).2.2 = 0 := by
 have he : ∀ l : List Ent, (l.flatMap eb).length = l.length * 13 := fun l => by
  induction l with
  | nil => rfl
  | cons x l ih => rw [List.flatMap_cons, List.length_append, eb_len, ih, List.length_cons]; omega
 have hk : ∀ l : List Kd, (l.flatMap kb).length = l.length * 16 := fun l => by
  induction l with
  | nil => rfl
  | cons x l ih => rw [List.flatMap_cons, List.length_append, kb_len, ih, List.length_cons]; omega
 unfold ndPack
 rw [if_neg (by rw [h]; simp)]
 cases n.leaf with
 | true =>
   refine ⟨1, .inl rfl, rfl, ?_, rfl⟩
   simp only [if_true, List.length_append, leb_len, he]
   omega
 | false =>
   refine ⟨2, .inr rfl, rfl, ?_, rfl⟩
   simp only [Bool.false_eq_true, if_false, List.length_append, leb_len, hk]
   omega
end Go.Tr
namespace Go.Proofs.YteecnkneceemjaaGreat
set_option linter.unusedSimpArgs false
set_option linter.unusedVariables false
open Go.RowKit Go.Sl Go.Dk Go.Tr
attribute [local go_sem ↓] Go.wp_at_zero Go.wp_at_succ
attribute [local go_sem] Go.Sl.cell_sat Go.Sl.frozen_sat
def KidR (k : Kd) (v : Value) (B : Assn) : Prop := v = kdV k ∧ B = 1
set_option maxRecDepth 100000 in
set_option maxHeartbeats 3200000 in
theorem twrite_any (h : Th) (s : TS) (n : Nd) (v : Value) (B F : Assn) (w : World) (hN : ReadsN B v n) (hs : Sat (treeP h s * (B * F)) w) (hle : n.ents.length ≤ 65536) (hlk : n.kids.length ≤ 65536) (hb : tWrite n s ≠ .bad) :
 Calls Tryz.prog 127 #[.pointer (some ⟨h.t, 0, none⟩), v] w (TEnds h (B * F) (tWrite n s) KidR) := by
 have hpk := fun F w q => ndPack_any n v B F w hN q (by omega) (by omega)
 have hsm := fun F w q => ndSum_any n v B F w hN q (by omega) (by omega)
 obtain ⟨hi, h2⟩ := tree_parts hs
 obtain ⟨vE, vK, rfl, hE, hK⟩ := id hN
 obtain ⟨aE, cE, rfl, hE1, hE2⟩ := hE.v
 obtain ⟨aK, cK, rfl, hK1, hK2⟩ := hK.v
 have HSM : Aside (∀ F w, Sat (B * F) w → Calls Tryz.prog 92 #[.agg #[.bool n.leaf, .slice aE n.ents.length cE, .slice aK n.kids.length cK]] w fun e w' => e = .returned (.tuple #[.int .i64 (ndSum n).1, .int .i64 (ndSum n).2.1, .int .i64 (ndSum n).2.2]) ∧ Sat (B * F) w') := hsm
 have h3 : Sat (B * (cacheP h.C h.D s.ck * (spaceP h.S s.sp * (Sl.block h.t TTr [.pointer (some ⟨h.C, 0, none⟩), .pointer (some ⟨h.S, 0, none⟩)] * F)))) w := h2.eq (by ac_rfl)
 haveI := h3.i
 clear hsm hE hK hN h2
 cases hm : may n with
 | false =>
   have hr : tWrite n s = .fault 13 s := by
    unfold tWrite
    rw [ndPack_no hm, if_pos (by simp)]
    rfl
   rw [hr]
   rw [ndPack_no hm] at hpk
   have HI : Aside (TsI s) := hi
   clear hm hr hi hs hb
   go_enter Tryz.func127, Tryz.ntmps127
   go_wp2_with fail
   refine (hpk _ _ (takeI B)).mono ?_
   rintro e w1 ⟨a1, c1, rfl, q1⟩
   haveI := q1.i
   clear hpk h3
   go_wp2
   refine ⟨rfl, ?_⟩
   exact ⟨rfl, tree_join HI.out (keep5 _ _ _ _ _)⟩
 | true =>
   have ho : s.ops < opsMax := by
    rcases Nat.lt_or_ge s.ops opsMax with h | h
    · exact h
    · refine absurd ?_ hb
      obtain ⟨k, _, _, _, h0⟩ := ndPack_yes hm (may_len hm)
      unfold tWrite M.bind mTake
      rw [if_neg (by rw [h0]; simp), if_neg (by omega)]
      rfl
   obtain ⟨k, hk, hk1, hk2, hk3⟩ := ndPack_yes hm (may_len hm)
   have hr : tWrite n s = M.bind mTake (fun t => M.bind (mFail (if t.2 = 9 then 7 else t.2)) fun _ => M.bind (mFail (pagePack t.1 k (ndPack n).2.1).2) fun _ => M.bind (mPut t.1 (pagePack t.1 k (ndPack n).2.1).1) fun e => M.bind (mFail e) fun _ => M.pure ⟨t.1, (ndSum n).1, (ndSum n).2.1, (ndSum n).2.2⟩) s := by
    conv => lhs; unfold tWrite
    rw [if_neg (by rw [hk3]; simp), hk1]
   have htk := spTake_any h.S s.sp _ w (takeI (spaceP h.S s.sp)) hi.res.1 hi.res.2 (by have := hi.taken; have := hi.ops; unfold opsMax at this; omega)
   have hi2 := hi.take ho
   have hrs := hi.res
   have htkn : s.sp.taken.length ≤ 1099511627776 := by have := hi.taken; have := hi.ops; unfold opsMax at this; omega
   have hpe : ndPack n = ((k : Int), (ndPack n).2.1, 0) := Prod.ext hk1 (Prod.ext rfl hk3)
   rw [hpe] at hpk
   clear hpe
   obtain ⟨body, hbd⟩ : ∃ b, (ndPack n).2.1 = b := ⟨_, rfl⟩
   rw [hbd] at hpk hk2 hr
   have HH : Aside (Sat (treeP h s * (B * F)) w) := hs
   obtain ⟨⟨sb, sl, ss⟩, hsum⟩ : ∃ r, ndSum n = r := ⟨_, rfl⟩
   rw [hsum] at HSM hr
   simp only at HSM hr
   clear hk1 hk3 hm hbd hsum hs htk
   cases hf : s.sp.free with
   | none =>
     have htk : s.sp.take = ((0, 9), s.sp) := by unfold Sp.take; rw [hf]
     have hr2 : tWrite n s = .fault 7 ⟨s.ck, s.sp, s.ops + 1⟩ := by
      rw [hr]
      unfold M.bind mTake
      rw [if_pos ho, htk]
      rfl
     rw [hr2]
     rw [htk] at hi2
     have HI : Aside (TsI ⟨s.ck, s.sp, s.ops + 1⟩) := hi2
     have ht := fun F w q => spTake_any h.S s.sp F w q hrs.1 hrs.2 htkn
     rw [htk] at ht
     have hfl := fail_not 7 (by omega)
     clear hr hr2 htk hf hi hi2 hb hrs htkn
     go_enter Tryz.func127, Tryz.ntmps127
     go_wp2_with fail
     refine (hpk _ _ (takeI B)).mono ?_
     rintro e w1 ⟨a1, c1, rfl, q1⟩
     haveI := q1.i
     clear hpk h3
     go_wp2_with fail
     refine (ht _ _ (takeI (spaceP h.S s.sp))).mono ?_
     rintro e w2 ⟨rfl, q2⟩
     haveI := q2.i
     clear ht q1
     go_wp2_with fail
     refine (hfl _).mono ?_
     rintro e w3 ⟨rfl, rfl⟩
     refine ⟨rfl, ?_⟩
     exact ⟨rfl, tree_join HI.out (keep5 _ _ _ _ _)⟩
   | some no =>
     have hno : 0 ≤ no ∧ no < 1048576 := by
      obtain ⟨h1, h2, _⟩ := Sp.least_some hf
      omega
     obtain ⟨m, rfl⟩ : ∃ m : Nat, no = m := ⟨no.toNat, by omega⟩
     have hpp : pagePack (m : Int) k body = (pgPack m k body, 0) := by
      unfold pagePack
      rw [if_neg (by omega), if_neg (by omega)]
      simp
     obtain ⟨sp2, hsp⟩ : ∃ x, s.sp.take.2 = x := ⟨_, rfl⟩
     have htk : s.sp.take = (((m : Int), 0), sp2) := by rw [← hsp]; unfold Sp.take; rw [hf]
     have hr2 : tWrite n s = if (s.ck.put m (pgPack m k body)).1 = 0 then .ok ⟨m, sb, sl, ss⟩ ⟨(s.ck.put m (pgPack m k body)).2, sp2, s.ops + 2⟩ else .fault (s.ck.put m (pgPack m k body)).1 ⟨(s.ck.put m (pgPack m k body)).2, sp2, s.ops + 2⟩ := by
      rw [hr]
      unfold M.bind mTake mPut
      rw [if_pos ho, htk]
      simp only [Res.bind, show ¬ ((0 : Int) = 9) by omega, if_false, hpp, mFail, if_true, M.pure]
      by_cases h0 : (s.ck.put m (pgPack m k body)).1 = 0 <;> simp [h0, M.fail, M.pure, Res.bind]
     rw [hr2]
     have hi3 := hi2.put m (pgPack m k body) (by simp only; omega)
     simp only [hsp] at hi2 hi3
     have ht := fun F w q => spTake_any h.S s.sp F w q hrs.1 hrs.2 htkn
     rw [htk] at ht
     simp only at ht
     have hpg := fun v B F w hB q => pagePack_go m k body v B F w hB q (by omega) (by omega) (by omega) hk2
     have hput := fun v B F w hB q => put_any h.C h.D s.ck 137438953472 m v (pgPack m k body) B F w hB q hi.ok (by omega)
     have hpgl := pgPack_len m k hk2
     obtain ⟨p, hp⟩ : ∃ p, pgPack m k body = p := ⟨_, rfl⟩
     rw [hp] at hpg hput hi3 hpgl ⊢
     obtain ⟨⟨er, k2⟩, hpr⟩ : ∃ r, s.ck.put m p = r := ⟨_, rfl⟩
     rw [hpr] at hput hi3 ⊢
     simp only at hput hi3 ⊢
     have HI : Aside (TsI ⟨k2, sp2, s.ops + 2⟩) := hi3
     have hz := fail_zero
     have HRB : Aside (∀ g, Reads (Sl.block g 263 (bys p)) (.slice (some ⟨g, 0, none⟩) 256 256) p) := fun g => by
      have := Reads.block0 (b := g) (e := 263) (l := p) (by rw [hpgl]; unfold maxLen; omega)
      rwa [hpgl] at this
     have HPG : Aside (∀ v B F w, Reads B v body → Sat (B * F) w → Calls Tryz.prog 153 #[.int .i64 m, .int .i64 k, v] w fun e w' => ∃ g, e = .returned (.tuple #[.slice (some ⟨g, 0, none⟩) 256 256, .int .i64 0]) ∧ Sat (Sl.block g 263 (bys p) * (B * F)) w') := hpg
     have HPU : Aside (∀ v B F w, Reads B v p → Sat (cacheP h.C h.D s.ck * (B * F)) w → Calls Tryz.prog 154 #[.pointer (some ⟨h.C, 0, none⟩), .int .i64 m, v] w fun e w' => e = .returned (.int .i64 er) ∧ Sat (cacheP h.C h.D k2 * (B * F)) w') := hput
     clear hr hr2 htk hf hi hi2 hi3 hb hrs htkn hp hpr hpp hpg hput hpgl hsp hno
     by_cases h0 : er = 0
     · subst h0
       rw [if_pos rfl]
       go_enter Tryz.func127, Tryz.ntmps127
       go_wp2_with fail
       refine (hpk _ _ (takeI B)).mono ?_
       rintro e w1 ⟨a1, c1, rfl, q1⟩
       haveI := q1.i
       clear hpk h3
       go_wp2_with fail
       refine (ht _ _ (takeI (spaceP h.S s.sp))).mono ?_
       rintro e w2 ⟨rfl, q2⟩
       haveI := q2.i
       clear ht q1
       go_wp2_with fail
       refine (hz _).mono ?_
       rintro e w3 ⟨rfl, rfl⟩
       go_wp2_with fail
       refine (HPG.out _ _ _ _ Reads.rw (takeI (rw TB 1 (.slice a1 body.length c1) (bys body)))).mono ?_
       rintro e w4 ⟨g, rfl, q4⟩
       haveI := q4.i
       clear q2
       go_wp2_with fail
       refine (hz _).mono ?_
       rintro e w5 ⟨rfl, rfl⟩
       go_wp2_with fail
       refine (HPU.out _ _ _ _ (HRB.out g) (takeI2 (cacheP h.C h.D s.ck) (Sl.block g 263 (bys p)))).mono ?_
       rintro e w6 ⟨rfl, q6⟩
       haveI := q6.i
       clear q4
       go_wp2_with fail
       refine (hz _).mono ?_
       rintro e w7 ⟨rfl, rfl⟩
       go_wp2_with fail
       refine (HSM.out _ _ (takeI B)).mono ?_
       rintro e w8 ⟨rfl, q8⟩
       haveI := q8.i
       clear q6
       go_wp2
       go_returns
       exact ⟨_, 1, rfl, ⟨rfl, rfl⟩, by rw [one_sep]; exact tree_join HI.out (keep5 _ _ _ _ _)⟩
     · rw [if_neg h0]
       have hfl := fail_not er h0
       clear h0
       go_enter Tryz.func127, Tryz.ntmps127
       go_wp2_with fail
       refine (hpk _ _ (takeI B)).mono ?_
       rintro e w1 ⟨a1, c1, rfl, q1⟩
       haveI := q1.i
       clear hpk h3
       go_wp2_with fail
       refine (ht _ _ (takeI (spaceP h.S s.sp))).mono ?_
       rintro e w2 ⟨rfl, q2⟩
       haveI := q2.i
       clear ht q1
       go_wp2_with fail
       refine (hz _).mono ?_
       rintro e w3 ⟨rfl, rfl⟩
       go_wp2_with fail
       refine (HPG.out _ _ _ _ Reads.rw (takeI (rw TB 1 (.slice a1 body.length c1) (bys body)))).mono ?_
       rintro e w4 ⟨g, rfl, q4⟩
       haveI := q4.i
       clear q2
       go_wp2_with fail
       refine (hz _).mono ?_
       rintro e w5 ⟨rfl, rfl⟩
       go_wp2_with fail
       refine (HPU.out _ _ _ _ (HRB.out g) (takeI2 (cacheP h.C h.D s.ck) (Sl.block g 263 (bys p)))).mono ?_
       rintro e w6 ⟨rfl, q6⟩
       haveI := q6.i
       clear q4
       go_wp2_with fail
       refine (hfl _).mono ?_
       rintro e w7 ⟨rfl, rfl⟩
       refine ⟨rfl, ?_⟩
       exact ⟨rfl, tree_join HI.out (keep5 _ _ _ _ _)⟩
end Go.Proofs.YteecnkneceemjaaGreat
namespace Go.Tr
def atOf (m p i : Nat) : Nat := i * (m / p) + min i (m % p)
theorem atOf_next (m p i : Nat) : atOf m p (i + 1) = atOf m p i + (m / p + if i < m % p then 1 else 0) := by
 unfold atOf
 rw [Nat.add_mul, Nat.one_mul]
 split <;> omega
theorem atOf_le (m p i : Nat) (h : i ≤ p) : atOf m p i ≤ m := by
 have h1 : p * (m / p) + m % p = m := Nat.div_add_mod m p
 have h2 : i * (m / p) ≤ p * (m / p) := Nat.mul_le_mul_right _ h
 unfold atOf
 omega
theorem spreadFrom_len {σ : Type} {wt : Nd → M σ Kd} {n : Nd} {pages : Nat} : ∀ (c i at_ : Nat) (out ks : List Kd) (s s' : σ), spreadFrom wt n pages c i at_ out s = .ok ks s' → ks.length = out.length + c
 | 0, i, at_, out, ks, s, s', h => by cases h; rfl
 | c + 1, i, at_, out, ks, s, s', h => by
   unfold spreadFrom M.bind Res.bind at h
   split at h
   · have := spreadFrom_len c _ _ _ _ _ _ h
     rw [this, List.length_append]
     simp
     omega
   · cases h
   · cases h
theorem tSpread_len {σ : Type} {wt : Nd → M σ Kd} {n : Nd} {ks : List Kd} {s s' : σ} (h : tSpread wt n s = .ok ks s') : ks.length = (many n + 11) / 12 := by
 have := spreadFrom_len _ _ _ _ _ _ _ h
 simpa [pagesOf] using this
end Go.Tr
namespace Go.Proofs.YteecnkneceemjaaGreat
set_option linter.unusedSimpArgs false
set_option linter.unusedVariables false
open Go.RowKit Go.Sl Go.Dk Go.Tr
attribute [local go_sem ↓] Go.wp_at_zero Go.wp_at_succ
attribute [local go_sem] Go.Sl.cell_sat Go.Sl.frozen_sat
def KidsR (ks : List Kd) (v : Value) (B : Assn) : Prop := ReadsK B v ks
def Pure (n : Nd) : Prop := many n = if n.leaf then n.ents.length else n.kids.length
set_option maxRecDepth 100000 in
set_option maxHeartbeats 3200000 in
theorem spread_any (h : Th) (s : TS) (n : Nd) (v : Value) (B F : Assn) (w : World) (hN : ReadsN B v n) (hs : Sat (treeP h s * (B * F)) w) (hp : Pure n) (hm : many n ≤ 65536) (hb : tSpread tWrite n s ≠ .bad) :
 Calls Tryz.prog 103 #[.pointer (some ⟨h.t, 0, none⟩), v] w (TEnds h (B * F) (tSpread tWrite n s) KidsR) := by
 obtain ⟨i0, E⟩ := elemKd
 have hmany := fun F w q => many_any n v B F w hN q (by unfold many at hm; omega) (by unfold many at hm; omega)
 obtain ⟨vE, vK, rfl, hE, hK⟩ := id hN
 obtain ⟨aE, cE, rfl, hE1, hE2⟩ := hE.v
 obtain ⟨aK, cK, rfl, hK1, hK2⟩ := hK.v
 obtain ⟨v, hv⟩ : ∃ v, Value.agg #[.bool n.leaf, .slice aE n.ents.length cE, .slice aK n.kids.length cK] = v := ⟨_, rfl⟩
 have HCUT : Aside (∀ (i j : Nat) F w, i ≤ j → j ≤ many n → Sat (B * F) w → Calls Tryz.prog 128 #[.agg #[.bool n.leaf, .slice aE n.ents.length cE, .slice aK n.kids.length cK], .int .i64 i, .int .i64 j] w fun e w' => ∃ v', e = .returned v' ∧ ReadsN B v' (cutN n i j) ∧ Sat (B * F) w') :=
  fun i j F w h1 h2 q => tcut_any n i j _ B F w hN q h1 (by rw [← hp]; exact h2)
 obtain ⟨m, hmm⟩ : ∃ m, many n = m := ⟨_, rfl⟩
 rw [hmm] at hm hmany HCUT
 obtain ⟨p, hpp⟩ : ∃ p, (m + 11) / 12 = p := ⟨_, rfl⟩
 obtain ⟨R, hR⟩ : ∃ R, tSpread tWrite n s = R := ⟨_, rfl⟩
 have HR : Aside (spreadFrom tWrite n p p 0 0 [] s = R) := (by rw [← hR]; unfold tSpread pagesOf; rw [hmm, hpp] : _ = _)
 have HM : Aside (many n = m) := hmm
 have HB : Aside (R ≠ .bad) := (by rw [← hR]; exact hb : _ ≠ _)
 have hp2 : p ≤ 5462 := by omega
 have hdv : ((m : Int) + 12 - 1) / 12 = (p : Int) := by omega
 rw [hR]
 have h2 : Sat (B * (treeP h s * F)) w := hs.eq (by ac_rfl)
 haveI := h2.i
 clear hE hK hN hs hb hR hp hv hmm
 go_enter Tryz.func103, Tryz.ntmps103
 go_wp2_with fail
 refine (hmany _ _ (takeI B)).mono ?_
 rintro e w1 ⟨rfl, q1⟩
 haveI := q1.i
 clear hmany h2
 go_wp2_with fail
 obtain ⟨N, hN⟩ : ∃ N, w.heap.size = N := ⟨_, rfl⟩
 rw [hN] at q1 ⊢
 clear hN
 have e0 := (Sat.rw_nil (e := TKd) (s := 4) q1)
 simp only [hdv]
 clear hdv
 go_loopg [7, 8, 18] p (fun g t7 t8 t18 wr => ∃ (i : Nat) (a : Option Addr) (c : Nat) (out : List Kd) (s' : TS), t18 = .int .i64 i ∧ t8 = .int .i64 (atOf m p i : Nat) ∧ t7 = .slice a i c ∧ i ≤ p ∧ out.length = i ∧ Aside (g = p - i ∧ spreadFrom tWrite n p (p - i) i (atOf m p i) out s' = R) ∧
  Sat (rw TKd 4 (.slice a i c) (kcs out) * (treeP h s' * (B * (Sl.block N TNd [.bool n.leaf, .slice aE n.ents.length cE, .slice aK n.kids.length cK] * F)))) wr)
 case atStart => exact ⟨0, none, 0, [], s, rfl, by simp [atOf], rfl, by omega, rfl, ⟨rfl, by simpa [atOf] using HR.out⟩, e0.eq (by ac_rfl)⟩
 case round =>
  obtain ⟨i, a, c, out, s', rfl, rfl, rfl, hi, hol, A, hsr⟩ := hrel
  haveI := hsr.i
  clear q1 e0
  by_cases hlt : i < p
  · have hlt' : (i : Int) < p := by omega
    have hp0 : ¬ (p : Int) = 0 := by omega
    obtain ⟨E1, hE1⟩ : ∃ x, m / p = x := ⟨_, rfl⟩
    have d1 : (m : Int) / (p : Int) = (E1 : Int) := by rw [← hE1]; rfl
    have hE2 : E1 ≤ 65536 := by rw [← hE1]; exact Nat.le_trans (Nat.div_le_self m p) hm
    have hnx := atOf_next m p i
    have hle := atOf_le m p (i + 1) (by omega)
    obtain ⟨pos, hpos⟩ : ∃ x, atOf m p i = x := ⟨_, rfl⟩
    simp only [hpos]
    rw [hE1] at hnx
    obtain ⟨sz, hsz⟩ : ∃ x, E1 + (if i < m % p then 1 else 0) = x := ⟨_, rfl⟩
    rw [hpos, hsz] at hnx
    have hstep : spreadFrom tWrite n p (p - i) i pos out s' = M.bind (tWrite (cutN n pos (pos + sz))) (fun k => spreadFrom tWrite n p (p - (i + 1)) (i + 1) (pos + sz) (out ++ [k])) s' := by
     rw [show p - i = (p - (i + 1)) + 1 by omega]
     conv => lhs; unfold spreadFrom
     rw [HM.out, hE1, hsz]
    have hA2 := A.out.2
    rw [hpos, hstep] at hA2
    obtain ⟨r, hr⟩ : ∃ r, tWrite (cutN n pos (pos + sz)) s' = r := ⟨_, rfl⟩
    have hwr := fun v B F w q1 q2 => twrite_any h s' (cutN n pos (pos + sz)) v B F w q1 q2 (by unfold cutN; split <;> simp [sub] <;> omega) (by unfold cutN; split <;> simp [sub] <;> omega)
    rw [hr] at hwr
    have hcut := fun F w q => HCUT.out pos (pos + sz) F w (by omega) (by omega) q
    have hpm : pos + sz ≤ 65536 := by omega
    clear hle
    unfold M.bind at hA2
    rw [hr] at hA2
    have hA1 := A.out.1
    clear hr hstep HCUT HR
    have HWR : Aside (∀ (v : Value) (B F : Assn) (w : World), ReadsN B v (cutN n pos (pos + sz)) → Sat (treeP h s' * (B * F)) w → r ≠ .bad → Calls Tryz.prog 127 #[.pointer (some ⟨h.t, 0, none⟩), v] w (TEnds h (B * F) r KidR)) := hwr
    have HSZ : Aside (E1 + (if i < m % p then 1 else 0) = sz) := hsz
    have HA : Aside (pos = atOf m p i ∧ gk = p - i ∧ out.length = i) := ⟨hpos.symm, hA1, hol⟩
    have HX : Aside (atOf m p (i + 1) = pos + sz) := hnx
    clear hwr hA1 A hpos hnx hol
    cases r with
    | bad => exact absurd hA2.symm HB.out
    | ok k s2 =>
      have hnb : Res.ok k s2 ≠ .bad := by simp
      have HC : Aside (spreadFrom tWrite n p (p - (i + 1)) (i + 1) (pos + sz) (out ++ [k]) s2 = R) := hA2
      clear hA2
      by_cases hrem : i < m % p
      · have hrem' : (i : Int) < (m : Int) % (p : Int) := by exact_mod_cast hrem
        have hq : E1 + 1 = sz := by rw [← HSZ.out, if_pos hrem]
        subst hq
        clear hsz HSZ HB HM hE1
        rw [Int.natCast_add, Int.natCast_add, Int.natCast_one] at hcut
        go_wp2_with fail
        refine (hcut _ _ (takeI B)).mono ?_
        rintro e w2 ⟨vc, rfl, hcN, q2⟩
        haveI := q2.i
        clear hcut hsr
        go_wp2_with fail
        with_reducible refine Calls.mono (HWR.out _ B _ _ hcN (takeI2 (treeP h s') B) hnb) ?_
        rintro e w3 ⟨v3, G3, rfl, ⟨rfl, rfl⟩, q3⟩
        rw [one_sep] at q3
        haveI := q3.i
        clear q2 hcN
        obtain ⟨k1, k2, k3, k4⟩ := k
        unfold kdV
        simp only []
        have HKC : Aside (kcs (out ++ [⟨k1, k2, k3, k4⟩]) = kcs out ++ [.int .i64 k1, .int .i64 k2, .int .i64 k3, .int .i64 k4]) := (by simp [kcs, krow] : _ = _)
        go_wp2_with (at_builtin; refine wpl_append_same E rfl (.tmp 31) (.tmp 40) rfl rfl rfl (takeI (rw TKd 4 (.slice a i c) (kcs out))) (Src.new (b := w3.heap.size) (e := TKd) (s := 4) (vs := [.int .i64 k1, .int .i64 k2, .int .i64 k3, .int .i64 k4]) (takeI _) rfl (by intro u hu; simp at hu; rcases hu with rfl | rfl | rfl | rfl <;> rfl)) (by unfold maxLen; omega) (by omega) ?_; intro a4 c4 w4 q4 z4; clear z4; haveI := q4.i)
        go_roundg (p - (i + 1))
        case measure => have := HA.out.2.1; omega
        case rel =>
         refine ⟨i + 1, a4, c4, out ++ [⟨k1, k2, k3, k4⟩], s2, by go_num, ?_, rfl, by omega, by rw [List.length_append, HA.out.2.2]; rfl, ⟨rfl, by rw [HX.out]; exact HC.out⟩, ?_⟩
         · rw [HX.out]; go_num
         · rw [HKC.out]
           exact keep5 _ _ _ _ _
      · have hrem' : ¬ (i : Int) < (m : Int) % (p : Int) := by exact_mod_cast hrem
        have hq : E1 = sz := by rw [← HSZ.out, if_neg hrem]; rfl
        subst hq
        clear hsz HSZ HB HM hE1
        rw [Int.natCast_add] at hcut
        go_wp2_with fail
        refine (hcut _ _ (takeI B)).mono ?_
        rintro e w2 ⟨vc, rfl, hcN, q2⟩
        haveI := q2.i
        clear hcut hsr
        go_wp2_with fail
        with_reducible refine Calls.mono (HWR.out _ B _ _ hcN (takeI2 (treeP h s') B) hnb) ?_
        rintro e w3 ⟨v3, G3, rfl, ⟨rfl, rfl⟩, q3⟩
        rw [one_sep] at q3
        haveI := q3.i
        clear q2 hcN
        obtain ⟨k1, k2, k3, k4⟩ := k
        unfold kdV
        simp only []
        have HKC : Aside (kcs (out ++ [⟨k1, k2, k3, k4⟩]) = kcs out ++ [.int .i64 k1, .int .i64 k2, .int .i64 k3, .int .i64 k4]) := (by simp [kcs, krow] : _ = _)
        go_wp2_with (at_builtin; refine wpl_append_same E rfl (.tmp 31) (.tmp 40) rfl rfl rfl (takeI (rw TKd 4 (.slice a i c) (kcs out))) (Src.new (b := w3.heap.size) (e := TKd) (s := 4) (vs := [.int .i64 k1, .int .i64 k2, .int .i64 k3, .int .i64 k4]) (takeI _) rfl (by intro u hu; simp at hu; rcases hu with rfl | rfl | rfl | rfl <;> rfl)) (by unfold maxLen; omega) (by omega) ?_; intro a4 c4 w4 q4 z4; clear z4; haveI := q4.i)
        go_roundg (p - (i + 1))
        case measure => have := HA.out.2.1; omega
        case rel =>
         refine ⟨i + 1, a4, c4, out ++ [⟨k1, k2, k3, k4⟩], s2, by go_num, ?_, rfl, by omega, by rw [List.length_append, HA.out.2.2]; rfl, ⟨rfl, by rw [HX.out]; exact HC.out⟩, ?_⟩
         · rw [HX.out]; go_num
         · rw [HKC.out]
           exact keep5 _ _ _ _ _
    | fault er s2 =>
      have hnb : (Res.fault er s2 : Res TS Kd) ≠ .bad := by simp
      subst hA2
      by_cases hrem : i < m % p
      · have hrem' : (i : Int) < (m : Int) % (p : Int) := by exact_mod_cast hrem
        have hq : E1 + 1 = sz := by rw [← HSZ.out, if_pos hrem]
        subst hq
        clear hsz HSZ HB HM hE1
        rw [Int.natCast_add, Int.natCast_add, Int.natCast_one] at hcut
        go_wp2_with fail
        refine (hcut _ _ (takeI B)).mono ?_
        rintro e w2 ⟨vc, rfl, hcN, q2⟩
        haveI := q2.i
        clear hcut hsr
        go_wp2_with fail
        with_reducible refine Calls.mono (HWR.out _ B _ _ hcN (takeI2 (treeP h s') B) hnb) ?_
        rintro e w3 ⟨rfl, q3⟩
        haveI := q3.i
        exact ⟨rfl, rfl, keep3 _ _ _⟩
      · have hrem' : ¬ (i : Int) < (m : Int) % (p : Int) := by exact_mod_cast hrem
        have hq : E1 = sz := by rw [← HSZ.out, if_neg hrem]; rfl
        subst hq
        clear hsz HSZ HB HM hE1
        rw [Int.natCast_add] at hcut
        go_wp2_with fail
        refine (hcut _ _ (takeI B)).mono ?_
        rintro e w2 ⟨vc, rfl, hcN, q2⟩
        haveI := q2.i
        clear hcut hsr
        go_wp2_with fail
        with_reducible refine Calls.mono (HWR.out _ B _ _ hcN (takeI2 (treeP h s') B) hnb) ?_
        rintro e w3 ⟨rfl, q3⟩
        haveI := q3.i
        exact ⟨rfl, rfl, keep3 _ _ _⟩
  · have hlt' : ¬ (i : Int) < p := by omega
    obtain rfl : i = p := by omega
    have hR : R = .ok out s' := by
     rw [← A.out.2, Nat.sub_self]
     rfl
    subst hR
    subst hol
    clear A HCUT HR HB HM
    go_wp2
    go_returns
    exact ⟨_, rw TKd 4 (.slice a out.length c) (kcs out), rfl, ReadsR.rw hsr ⟨a, c, rfl⟩, keep4 _ _ _ _⟩
end Go.Proofs.YteecnkneceemjaaGreat
namespace Go.Tr
theorem tGrown_zero {σ : Type} {wt : Nd → M σ Kd} {l : List Kd} (h : 1 < l.length) (hh : Int) (s : σ) : tGrown wt 0 l hh s = .bad := by
 match l, h with
 | a :: b :: t, _ => rfl
theorem tGrown_succ {σ : Type} {wt : Nd → M σ Kd} {l : List Kd} (h : 1 < l.length) (f : Nat) (hh : Int) : tGrown wt (f + 1) l hh = M.bind (tSpread wt ⟨false, [], l⟩) fun ks => tGrown wt f ks (hh + 1) := by
 match l, h with
 | a :: b :: t, _ => rfl
end Go.Tr
namespace Go.Proofs.YteecnkneceemjaaGreat
set_option linter.unusedSimpArgs false
set_option linter.unusedVariables false
open Go.RowKit Go.Sl Go.Dk Go.Tr
attribute [local go_sem ↓] Go.wp_at_zero Go.wp_at_succ
attribute [local go_sem] Go.Sl.cell_sat Go.Sl.frozen_sat
def TallR (x : Tall) (v : Value) (B : Assn) : Prop := v = tallV x ∧ B = 1
theorem pure_kids (ks : List Kd) : Pure ⟨false, [], ks⟩ := by unfold Pure many; simp
theorem pure_ents (l : List Ent) : Pure ⟨true, l, []⟩ := by unfold Pure many; simp
theorem readsN_kids {B : Assn} {v : Value} {ks : List Kd} (h : ReadsK B v ks) : ReadsN B (.agg #[.bool false, .slice none 0 0, v]) ⟨false, [], ks⟩ := ⟨_, _, rfl, ReadsR.nil 4 _, h⟩
theorem readsN_ents {B : Assn} {v : Value} {l : List Ent} (h : ReadsE B v l) : ReadsN B (.agg #[.bool true, v, .slice none 0 0]) ⟨true, l, []⟩ := ⟨_, _, rfl, h, ReadsR.nil 4 _⟩
set_option maxRecDepth 100000 in
set_option maxHeartbeats 3200000 in
theorem grown_any (h : Th) (s : TS) (ks : List Kd) (ht : Int) (v : Value) (B F : Assn) (w : World) (hK : ReadsK B v ks) (hs : Sat (treeP h s * (B * F)) w) (hl : ks.length ≤ 65536) (h1 : -1048576 ≤ ht) (h2 : ht ≤ 1048576) (hb : grown tWrite ks ht s ≠ .bad) :
 Calls Tryz.prog 102 #[.pointer (some ⟨h.t, 0, none⟩), v, .int .i64 ht] w (TEnds h (B * F) (grown tWrite ks ht s) TallR) := by
 obtain ⟨a0, c0, rfl, hK1, hK2⟩ := hK.v
 obtain ⟨R, hR⟩ : ∃ R, grown tWrite ks ht s = R := ⟨_, rfl⟩
 have HR : Aside (tGrown tWrite ks.length ks ht s = R) := hR
 have HB : Aside (R ≠ .bad) := (by rw [← hR]; exact hb : _ ≠ _)
 have HK : Aside (ReadsK (1 * B) (.slice a0 ks.length c0) ks) := hK.right
 rw [hR]
 have q0 : Sat (treeP h s * ((1 * B) * F)) w := by rw [one_sep]; exact hs
 haveI := q0.i
 clear hb hR hK hs
 go_enter Tryz.func102, Tryz.ntmps102
 go_wp2
 have q1 : Sat (treeP h s * ((1 * B) * (Sl.block w.heap.size TTl [.int .i64 0, .int .i64 0, .int .i64 0, .int .i64 0, .int .i64 0] * F))) (w.alloc (.cells #[.int .i64 0, .int .i64 0, .int .i64 0, .int .i64 0, .int .i64 0] TTl)) := satI_eq (by ac_rfl)
 obtain ⟨N, hN⟩ : ∃ N, w.heap.size = N := ⟨_, rfl⟩
 rw [hN] at q1 ⊢
 clear hN q0 this
 go_loopg [1, 2] ks.length (fun g t1 t2 wr => ∃ (l : List Kd) (hh : Int) (f : Nat) (a : Option Addr) (c : Nat) (G : Assn) (s' : TS), t1 = .slice a l.length c ∧ t2 = .int .i64 hh ∧ l.length ≤ 65536 ∧ -1048576 ≤ hh ∧ hh + f ≤ 2097152 ∧ Aside (g = f ∧ tGrown tWrite f l hh s' = R) ∧ Aside (ReadsK (G * B) (.slice a l.length c) l) ∧
  Sat (treeP h s' * ((G * B) * (Sl.block N TTl [.int .i64 0, .int .i64 0, .int .i64 0, .int .i64 0, .int .i64 0] * F))) wr)
 case atStart => exact ⟨ks, ht, ks.length, a0, c0, 1, s, rfl, rfl, hl, h1, by omega, ⟨rfl, HR.out⟩, HK, q1⟩
 case round =>
  obtain ⟨l, hh, f, a, c, G, s', rfl, rfl, hll, hh1, hh2, A, HG, hsr⟩ := hrel
  clear q1 HR HK
  by_cases hlt : 1 < l.length
  · have hlt' : (1 : Int) < l.length := by omega
    obtain ⟨f', rfl⟩ : ∃ f', f = f' + 1 := by
     cases f with
     | zero => exact absurd ((tGrown_zero hlt hh s').symm.trans A.out.2).symm HB.out
     | succ f' => exact ⟨f', rfl⟩
    have hA2 := A.out.2
    have hA1 := A.out.1
    rw [tGrown_succ hlt] at hA2
    obtain ⟨r, hr⟩ : ∃ r, tSpread tWrite ⟨false, [], l⟩ s' = r := ⟨_, rfl⟩
    have hsp := fun F w q1 => spread_any h s' ⟨false, [], l⟩ _ (G * B) F w (readsN_kids HG.out) q1 (pure_kids l) (by simp [many]; omega)
    have hlen : ∀ x s2, r = .ok x s2 → x.length = (l.length + 11) / 12 := fun x s2 e => by
     have := tSpread_len (hr.trans e)
     simpa [many] using this
    unfold M.bind at hA2
    rw [hr] at hsp hA2
    have HA : Aside (gk = f' + 1) := hA1
    clear hr A hA1
    cases r with
    | bad => exact absurd hA2.symm HB.out
    | ok ks2 s2 =>
      have HC : Aside (tGrown tWrite f' ks2 (hh + 1) s2 = R) := hA2
      have hl2 := hlen ks2 s2 rfl
      have hl3 : ks2.length ≤ 65536 := by omega
      have hnb : Res.ok ks2 s2 ≠ .bad := by simp
      haveI := hsr.i
      clear hA2 hlen hl2
      go_wp2_with fail
      with_reducible refine Calls.mono (hsp _ _ hsr hnb) ?_
      rintro e w2 ⟨v2, G2, rfl, hG2, q2⟩
      obtain ⟨a2, c2, rfl, hc1, hc2⟩ := ReadsR.v hG2
      have HG2 : Aside (ReadsK (G2 * B) (.slice a2 ks2.length c2) ks2) := ReadsR.left hG2
      clear hsr hG2 hsp this
      go_wp2_with fail
      go_roundg f'
      case measure => have := HA.out; omega
      case rel =>
       refine ⟨ks2, hh + 1, f', a2, c2, G2, s2, rfl, by go_num, hl3, by omega, by omega, ⟨rfl, HC.out⟩, HG2, ?_⟩
       exact Sat.weak (B := G) (q2.eq (by ac_rfl))
    | fault er s2 =>
      subst hA2
      have hnb : (Res.fault er s2 : Res TS (List Kd)) ≠ .bad := by simp
      haveI := hsr.i
      clear hlen
      go_wp2_with fail
      with_reducible refine Calls.mono (hsp _ _ hsr hnb) ?_
      rintro e w2 ⟨rfl, q2⟩
      exact ⟨rfl, rfl, Sat.weak (B := G * Sl.block N TTl [.int .i64 0, .int .i64 0, .int .i64 0, .int .i64 0, .int .i64 0]) (q2.eq (by ac_rfl))⟩
  · have hlt' : ¬ (1 : Int) < l.length := by omega
    match l, hlt with
    | [], _ =>
     have hR : R = .ok noTall s' := by rw [← A.out.2]; cases f <;> rfl
     subst hR
     have q3 : Sat ((treeP h s' * (B * F)) * (G * Sl.block N TTl [.int .i64 0, .int .i64 0, .int .i64 0, .int .i64 0, .int .i64 0])) wr := hsr.eq (by ac_rfl)
     have hno := none_any _ wr q3
     have hlt' : ¬ (1 : Int) < (([] : List Kd).length : Nat) := by simp
     haveI := hsr.i
     clear A HG HB hsr
     go_wp2_with fail
     refine hno.mono ?_
     rintro e w2 ⟨rfl, q4⟩
     haveI := q4.i
     clear hno q3
     unfold tallV noTall kd0
     go_wp2
     go_returns
     exact ⟨_, 1, rfl, ⟨rfl, rfl⟩, by rw [one_sep]; exact keep3 _ _ _⟩
    | [k], _ =>
     have hR : R = .ok ⟨k, hh⟩ s' := by rw [← A.out.2]; cases f <;> rfl
     subst hR
     obtain ⟨b, q, rfl, r1, r2, r3, r4⟩ := readsK_at HG.out (i := 0) (x := k) rfl
     haveI := hsr.i
     clear A HG HB
     go_wp2
     go_returns
     exact ⟨_, 1, rfl, ⟨rfl, rfl⟩, by rw [one_sep]; exact keep3 _ _ _⟩
    | a :: b :: t, hlt => exact absurd (by simp) hlt
set_option maxRecDepth 100000 in
set_option maxHeartbeats 800000 in
theorem leaves_any (h : Th) (s : TS) (l : List Ent) (v : Value) (B F : Assn) (w : World) (hE : ReadsE B v l) (hs : Sat (treeP h s * (B * F)) w) (hl : l.length ≤ 65536) (hb : tLeaves tWrite l s ≠ .bad) :
 Calls Tryz.prog 57 #[.pointer (some ⟨h.t, 0, none⟩), v] w (TEnds h (B * F) (tLeaves tWrite l s) TallR) := by
 obtain ⟨a0, c0, rfl, hE1, hE2⟩ := hE.v
 have hsp := fun F w q1 => spread_any h s ⟨true, l, []⟩ _ B F w (readsN_ents hE) q1 (pure_ents l) (by simp [many]; omega)
 obtain ⟨R, hR⟩ : ∃ R, tLeaves tWrite l s = R := ⟨_, rfl⟩
 rw [hR] at hb ⊢
 unfold tLeaves M.bind at hR
 obtain ⟨r, hr⟩ : ∃ r, tSpread tWrite ⟨true, l, []⟩ s = r := ⟨_, rfl⟩
 have hlen : ∀ x s2, r = .ok x s2 → x.length = (l.length + 11) / 12 := fun x s2 e => by
  have := tSpread_len (hr.trans e)
  simpa [many] using this
 rw [hr] at hsp hR
 have h2 : Sat (B * (treeP h s * F)) w := hs.eq (by ac_rfl)
 haveI := h2.i
 clear hr hE hs
 cases r with
 | bad => exact absurd hR.symm hb
 | ok ks2 s2 =>
   have hl2 := hlen ks2 s2 rfl
   have hl3 : ks2.length ≤ 65536 := by omega
   have hgr : grown tWrite ks2 0 s2 = R := hR
   have hg := fun v B F w q1 q2 => grown_any h s2 ks2 0 v B F w q1 q2 hl3 (by omega) (by omega) (by rw [hgr]; exact hb)
   rw [hgr] at hg
   have hnb : Res.ok ks2 s2 ≠ .bad := by simp
   have HG : Aside (∀ (v : Value) (B F : Assn) (w : World), ReadsK B v ks2 → Sat (treeP h s2 * (B * F)) w → Calls Tryz.prog 102 #[.pointer (some ⟨h.t, 0, none⟩), v, .int .i64 0] w (TEnds h (B * F) R TallR)) := hg
   clear hg hgr hR hlen hl2 h2
   go_enter Tryz.func57, Tryz.ntmps57
   go_wp2_with fail
   with_reducible refine Calls.mono (hsp _ _ (takeI2 (treeP h s) B) hnb) ?_
   rintro e w2 ⟨v2, G2, rfl, hG2, q2⟩
   have hG3 : ReadsK G2 v2 ks2 := hG2
   obtain ⟨a5, c5, rfl, _, _⟩ := ReadsR.v hG3
   haveI := q2.i
   clear hsp hG2
   go_wp2_with fail
   with_reducible refine Calls.mono (HG.out _ G2 _ _ hG3 (takeI2 (treeP h s2) G2)) ?_
   rintro e w3 h3
   cases R with
   | bad => exact absurd rfl hb
   | fault er s3 =>
     obtain ⟨rfl, q3⟩ := h3
     haveI := q3.i
     exact ⟨rfl, rfl, keep3 _ _ _⟩
   | ok x s3 =>
     obtain ⟨v3, G3, rfl, ⟨rfl, rfl⟩, q3⟩ := h3
     rw [one_sep] at q3
     haveI := q3.i
     unfold tallV
     go_wp2
     go_returns
     exact ⟨_, 1, rfl, ⟨rfl, rfl⟩, by rw [one_sep]; exact keep3 _ _ _⟩
 | fault er s2 =>
   have hnb : (Res.fault er s2 : Res TS (List Kd)) ≠ .bad := by simp
   subst hR
   clear hlen h2 hb
   go_enter Tryz.func57, Tryz.ntmps57
   go_wp2_with fail
   with_reducible refine Calls.mono (hsp _ _ (takeI2 (treeP h s) B) hnb) ?_
   rintro e w2 ⟨rfl, q2⟩
   haveI := q2.i
   exact ⟨rfl, rfl, keep3 _ _ _⟩
set_option maxRecDepth 100000 in
set_option maxHeartbeats 800000 in
theorem over_any (h : Th) (s : TS) (ks : List Kd) (ht : Int) (v : Value) (B F : Assn) (w : World) (hK : ReadsK B v ks) (hs : Sat (treeP h s * (B * F)) w) (hl : ks.length ≤ 65536) (h1 : -1048000 ≤ ht) (h2 : ht ≤ 1048576) (hb : tOver tWrite ks ht s ≠ .bad) :
 Calls Tryz.prog 106 #[.pointer (some ⟨h.t, 0, none⟩), v, .int .i64 ht] w (TEnds h (B * F) (tOver tWrite ks ht s) TallR) := by
 unfold tOver at hb ⊢
 have hg := fun B F w q1 q2 => grown_any h s ks (ht - 1) v B F w q1 q2 hl (by omega) (by omega) hb
 obtain ⟨R, hR⟩ : ∃ R, grown tWrite ks (ht - 1) s = R := ⟨_, rfl⟩
 rw [hR] at hg hb ⊢
 obtain ⟨a0, c0, rfl, hK1, hK2⟩ := hK.v
 have h2 : Sat (B * (treeP h s * F)) w := hs.eq (by ac_rfl)
 haveI := h2.i
 have HK : Aside (ReadsK B (.slice a0 ks.length c0) ks) := hK
 clear hR hK hs h2
 go_enter Tryz.func106, Tryz.ntmps106
 go_wp2_with fail
 with_reducible refine Calls.mono (hg B _ _ HK.out (takeI2 (treeP h s) B)) ?_
 rintro e w3 h3
 cases R with
 | bad => exact absurd rfl hb
 | fault er s3 =>
   obtain ⟨rfl, q3⟩ := h3
   haveI := q3.i
   exact ⟨rfl, rfl, keep3 _ _ _⟩
 | ok x s3 =>
   obtain ⟨v3, G3, rfl, ⟨rfl, rfl⟩, q3⟩ := h3
   rw [one_sep] at q3
   haveI := q3.i
   unfold tallV
   go_wp2
   go_returns
   exact ⟨_, 1, rfl, ⟨rfl, rfl⟩, by rw [one_sep]; exact keep3 _ _ _⟩
end Go.Proofs.YteecnkneceemjaaGreat
