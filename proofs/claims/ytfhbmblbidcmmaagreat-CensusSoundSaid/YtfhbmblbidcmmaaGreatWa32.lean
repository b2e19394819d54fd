/-
  Versions are found sound just if they are in the words of the document. No condition. (part 32)
-/
import Derived.Test.YtfhbmblbidcmmaaGreatWa27
import Derived.Test.YtfhbmblbidcmmaaGreatWa23
import Derived.Test.YtfhbmblbidcmmaaGreatWa31
import Derived.IntWalk
import Derived.Deep.DeepCutAuto
import Derived.Deep.RegionHeld3
import Derived.WalkLawsBesides
set_option linter.unusedSimpArgs false
set_option linter.unusedVariables false
namespace Go.Tr
theorem ndPack_no {n : Nd} (h : may n = false) : ndPack n = (0, [], 1) := by
 unfold ndPack
 rw [if_pos h]
theorem ndPack_yes {n : Nd} (h : may n = true) (h12 : n.ents.length ≤ 12 ∧ n.kids.length ≤ 12) : ∃ k : Nat, (k = 1 ∨ k = 2) ∧ (ndPack n).1 = k ∧ (ndPack n).2.1.length ≤ 244 ∧ (ndPack n).2.2 = 0 := by
 have he : ∀ l : List Ent, (l.flatMap eb).length = l.length * 13 := fun l => by
  induction l with
  | nil => rfl
  | cons x l ih => rw [List.flatMap_cons, List.length_append, eb_len, ih, List.length_cons]; omega
 have hk : ∀ l : List Kd, (l.flatMap kb).length = l.length * 16 := fun l => by
  induction l with
  | nil => rfl
  | cons x l ih => rw [List.flatMap_cons, List.length_append, kb_len, ih, List.length_cons]; omega
 unfold ndPack
 rw [if_neg (by rw [h]; simp)]
 cases n.leaf with
 | true =>
   refine ⟨1, .inl rfl, rfl, ?_, rfl⟩
   simp only [if_true, List.length_append, leb_len, he]
   omega
 | false =>
   refine ⟨2, .inr rfl, rfl, ?_, rfl⟩
   simp only [Bool.false_eq_true, if_false, List.length_append, leb_len, hk]
   omega
end Go.Tr
namespace Go.Proofs.YtfhbmblbidcmmaaGreat
set_option linter.unusedSimpArgs false
set_option linter.unusedVariables false
open Go.RowKit Go.Sl Go.Dk Go.Tr
attribute [local go_sem ↓] Go.wp_at_zero Go.wp_at_succ
attribute [local go_sem] Go.Sl.cell_sat Go.Sl.frozen_sat
def KidR (k : Kd) (v : Value) (B : Assn) : Prop := v = kdV k ∧ B = 1
set_option maxRecDepth 100000 in
set_option maxHeartbeats 3200000 in
theorem twrite_any (h : Th) (s : TS) (n : Nd) (v : Value) (B F : Assn) (w : World) (hN : ReadsN B v n) (hs : Sat (treeP h s * (B * F)) w) (hle : n.ents.length ≤ 65536) (hlk : n.kids.length ≤ 65536) (hb : tWrite n s ≠ .bad) :
 Calls Tryz.prog 165 #[.pointer (some ⟨h.t, 0, none⟩), v] w (TEnds h (B * F) (tWrite n s) KidR) := by
 have hpk := fun F w q => ndPack_any n v B F w hN q (by omega) (by omega)
 have hsm := fun F w q => ndSum_any n v B F w hN q (by omega) (by omega)
 obtain ⟨hi, h2⟩ := tree_parts hs
 obtain ⟨vE, vK, rfl, hE, hK⟩ := id hN
 obtain ⟨aE, cE, rfl, hE1, hE2⟩ := hE.v
 obtain ⟨aK, cK, rfl, hK1, hK2⟩ := hK.v
 have HSM : Aside (∀ F w, Sat (B * F) w → Calls Tryz.prog 131 #[.agg #[.bool n.leaf, .slice aE n.ents.length cE, .slice aK n.kids.length cK]] w fun e w' => e = .returned (.tuple #[.int .i64 (ndSum n).1, .int .i64 (ndSum n).2.1, .int .i64 (ndSum n).2.2]) ∧ Sat (B * F) w') := hsm
 have h3 : Sat (B * (cacheP h.C h.D s.ck * (spaceP h.S s.sp * (Sl.block h.t TTr [.pointer (some ⟨h.C, 0, none⟩), .pointer (some ⟨h.S, 0, none⟩)] * F)))) w := h2.eq (by ac_rfl)
 haveI := h3.i
 clear hsm hE hK hN h2
 cases hm : may n with
 | false =>
   have hr : tWrite n s = .fault 13 s := by
    unfold tWrite
    rw [ndPack_no hm, if_pos (by simp)]
    rfl
   rw [hr]
   rw [ndPack_no hm] at hpk
   have HI : Aside (TsI s) := hi
   clear hm hr hi hs hb
   go_enter Tryz.func165, Tryz.ntmps165
   go_wp2_with fail
   refine (hpk _ _ (takeI B)).mono ?_
   rintro e w1 ⟨a1, c1, rfl, q1⟩
   haveI := q1.i
   clear hpk h3
   go_wp2
   refine ⟨rfl, ?_⟩
   exact ⟨rfl, tree_join HI.out (keep5 _ _ _ _ _)⟩
 | true =>
   have ho : s.ops < opsMax := by
    rcases Nat.lt_or_ge s.ops opsMax with h | h
    · exact h
    · refine absurd ?_ hb
      obtain ⟨k, _, _, _, h0⟩ := ndPack_yes hm (may_len hm)
      unfold tWrite M.bind mTake
      rw [if_neg (by rw [h0]; simp), if_neg (by omega)]
      rfl
   obtain ⟨k, hk, hk1, hk2, hk3⟩ := ndPack_yes hm (may_len hm)
   have hr : tWrite n s = M.bind mTake (fun t => M.bind (mFail (if t.2 = 9 then 7 else t.2)) fun _ => M.bind (mFail (pagePack t.1 k (ndPack n).2.1).2) fun _ => M.bind (mPut t.1 (pagePack t.1 k (ndPack n).2.1).1) fun e => M.bind (mFail e) fun _ => M.pure ⟨t.1, (ndSum n).1, (ndSum n).2.1, (ndSum n).2.2⟩) s := by
    conv => lhs; unfold tWrite
    rw [if_neg (by rw [hk3]; simp), hk1]
   have htk := spTake_any h.S s.sp _ w (takeI (spaceP h.S s.sp)) hi.res.1 hi.res.2 (by have := hi.taken; have := hi.ops; unfold opsMax at this; omega)
   have hi2 := hi.take ho
   have hrs := hi.res
   have htkn : s.sp.taken.length ≤ 1099511627776 := by have := hi.taken; have := hi.ops; unfold opsMax at this; omega
   have hpe : ndPack n = ((k : Int), (ndPack n).2.1, 0) := Prod.ext hk1 (Prod.ext rfl hk3)
   rw [hpe] at hpk
   clear hpe
   obtain ⟨body, hbd⟩ : ∃ b, (ndPack n).2.1 = b := ⟨_, rfl⟩
   rw [hbd] at hpk hk2 hr
   have HH : Aside (Sat (treeP h s * (B * F)) w) := hs
   obtain ⟨⟨sb, sl, ss⟩, hsum⟩ : ∃ r, ndSum n = r := ⟨_, rfl⟩
   rw [hsum] at HSM hr
   simp only at HSM hr
   clear hk1 hk3 hm hbd hsum hs htk
   cases hf : s.sp.free with
   | none =>
     have htk : s.sp.take = ((0, 9), s.sp) := by unfold Sp.take; rw [hf]
     have hr2 : tWrite n s = .fault 7 ⟨s.ck, s.sp, s.ops + 1⟩ := by
      rw [hr]
      unfold M.bind mTake
      rw [if_pos ho, htk]
      rfl
     rw [hr2]
     rw [htk] at hi2
     have HI : Aside (TsI ⟨s.ck, s.sp, s.ops + 1⟩) := hi2
     have ht := fun F w q => spTake_any h.S s.sp F w q hrs.1 hrs.2 htkn
     rw [htk] at ht
     have hfl := fail_not 7 (by omega)
     clear hr hr2 htk hf hi hi2 hb hrs htkn
     go_enter Tryz.func165, Tryz.ntmps165
     go_wp2_with fail
     refine (hpk _ _ (takeI B)).mono ?_
     rintro e w1 ⟨a1, c1, rfl, q1⟩
     haveI := q1.i
     clear hpk h3
     go_wp2_with fail
     refine (ht _ _ (takeI (spaceP h.S s.sp))).mono ?_
     rintro e w2 ⟨rfl, q2⟩
     haveI := q2.i
     clear ht q1
     go_wp2_with fail
     refine (hfl _).mono ?_
     rintro e w3 ⟨rfl, rfl⟩
     refine ⟨rfl, ?_⟩
     exact ⟨rfl, tree_join HI.out (keep5 _ _ _ _ _)⟩
   | some no =>
     have hno : 0 ≤ no ∧ no < 1048576 := by
      obtain ⟨h1, h2, _⟩ := Sp.least_some hf
      omega
     obtain ⟨m, rfl⟩ : ∃ m : Nat, no = m := ⟨no.toNat, by omega⟩
     have hpp : pagePack (m : Int) k body = (pgPack m k body, 0) := by
      unfold pagePack
      rw [if_neg (by omega), if_neg (by omega)]
      simp
     obtain ⟨sp2, hsp⟩ : ∃ x, s.sp.take.2 = x := ⟨_, rfl⟩
     have htk : s.sp.take = (((m : Int), 0), sp2) := by rw [← hsp]; unfold Sp.take; rw [hf]
     have hr2 : tWrite n s = if (s.ck.put m (pgPack m k body)).1 = 0 then .ok ⟨m, sb, sl, ss⟩ ⟨(s.ck.put m (pgPack m k body)).2, sp2, s.ops + 2⟩ else .fault (s.ck.put m (pgPack m k body)).1 ⟨(s.ck.put m (pgPack m k body)).2, sp2, s.ops + 2⟩ := by
      rw [hr]
      unfold M.bind mTake mPut
      rw [if_pos ho, htk]
      simp only [Res.bind, show ¬ ((0 : Int) = 9) by omega, if_false, hpp, mFail, if_true, M.pure]
      by_cases h0 : (s.ck.put m (pgPack m k body)).1 = 0 <;> simp [h0, M.fail, M.pure, Res.bind]
     rw [hr2]
     have hi3 := hi2.put m (pgPack m k body) (by simp only; omega)
     simp only [hsp] at hi2 hi3
     have ht := fun F w q => spTake_any h.S s.sp F w q hrs.1 hrs.2 htkn
     rw [htk] at ht
     simp only at ht
     have hpg := fun v B F w hB q => pagePack_go m k body v B F w hB q (by omega) (by omega) (by omega) hk2
     have hput := fun v B F w hB q => put_any h.C h.D s.ck 137438953472 m v (pgPack m k body) B F w hB q hi.ok (by omega)
     have hpgl := pgPack_len m k hk2
     obtain ⟨p, hp⟩ : ∃ p, pgPack m k body = p := ⟨_, rfl⟩
     rw [hp] at hpg hput hi3 hpgl ⊢
     obtain ⟨⟨er, k2⟩, hpr⟩ : ∃ r, s.ck.put m p = r := ⟨_, rfl⟩
     rw [hpr] at hput hi3 ⊢
     simp only at hput hi3 ⊢
     have HI : Aside (TsI ⟨k2, sp2, s.ops + 2⟩) := hi3
     have hz := fail_zero
     have HRB : Aside (∀ g, Reads (Sl.block g 346 (bys p)) (.slice (some ⟨g, 0, none⟩) 256 256) p) := fun g => by
      have := Reads.block0 (b := g) (e := 346) (l := p) (by rw [hpgl]; unfold maxLen; omega)
      rwa [hpgl] at this
     have HPG : Aside (∀ v B F w, Reads B v body → Sat (B * F) w → Calls Tryz.prog 194 #[.int .i64 m, .int .i64 k, v] w fun e w' => ∃ g, e = .returned (.tuple #[.slice (some ⟨g, 0, none⟩) 256 256, .int .i64 0]) ∧ Sat (Sl.block g 346 (bys p) * (B * F)) w') := hpg
     have HPU : Aside (∀ v B F w, Reads B v p → Sat (cacheP h.C h.D s.ck * (B * F)) w → Calls Tryz.prog 195 #[.pointer (some ⟨h.C, 0, none⟩), .int .i64 m, v] w fun e w' => e = .returned (.int .i64 er) ∧ Sat (cacheP h.C h.D k2 * (B * F)) w') := hput
     clear hr hr2 htk hf hi hi2 hi3 hb hrs htkn hp hpr hpp hpg hput hpgl hsp hno
     by_cases h0 : er = 0
     · subst h0
       rw [if_pos rfl]
       go_enter Tryz.func165, Tryz.ntmps165
       go_wp2_with fail
       refine (hpk _ _ (takeI B)).mono ?_
       rintro e w1 ⟨a1, c1, rfl, q1⟩
       haveI := q1.i
       clear hpk h3
       go_wp2_with fail
       refine (ht _ _ (takeI (spaceP h.S s.sp))).mono ?_
       rintro e w2 ⟨rfl, q2⟩
       haveI := q2.i
       clear ht q1
       go_wp2_with fail
       refine (hz _).mono ?_
       rintro e w3 ⟨rfl, rfl⟩
       go_wp2_with fail
       refine (HPG.out _ _ _ _ Reads.rw (takeI (rw TB 1 (.slice a1 body.length c1) (bys body)))).mono ?_
       rintro e w4 ⟨g, rfl, q4⟩
       haveI := q4.i
       clear q2
       go_wp2_with fail
       refine (hz _).mono ?_
       rintro e w5 ⟨rfl, rfl⟩
       go_wp2_with fail
       refine (HPU.out _ _ _ _ (HRB.out g) (takeI2 (cacheP h.C h.D s.ck) (Sl.block g 346 (bys p)))).mono ?_
       rintro e w6 ⟨rfl, q6⟩
       haveI := q6.i
       clear q4
       go_wp2_with fail
       refine (hz _).mono ?_
       rintro e w7 ⟨rfl, rfl⟩
       go_wp2_with fail
       refine (HSM.out _ _ (takeI B)).mono ?_
       rintro e w8 ⟨rfl, q8⟩
       haveI := q8.i
       clear q6
       go_wp2
       go_returns
       exact ⟨_, 1, rfl, ⟨rfl, rfl⟩, by rw [one_sep]; exact tree_join HI.out (keep5 _ _ _ _ _)⟩
     · rw [if_neg h0]
       have hfl := fail_not er h0
       clear h0
       go_enter Tryz.func165, Tryz.ntmps165
       go_wp2_with fail
       refine (hpk _ _ (takeI B)).mono ?_
       rintro e w1 ⟨a1, c1, rfl, q1⟩
       haveI := q1.i
       clear hpk h3
       go_wp2_with fail
       refine (ht _ _ (takeI (spaceP h.S s.sp))).mono ?_
       rintro e w2 ⟨rfl, q2⟩
       haveI := q2.i
       clear ht q1
       go_wp2_with fail
       refine (hz _).mono ?_
       rintro e w3 ⟨rfl, rfl⟩
       go_wp2_with fail
       refine (HPG.out _ _ _ _ Reads.rw (takeI (rw TB 1 (.slice a1 body.length c1) (bys body)))).mono ?_
       rintro e w4 ⟨g, rfl, q4⟩
       haveI := q4.i
       clear q2
       go_wp2_with fail
       refine (hz _).mono ?_
       rintro e w5 ⟨rfl, rfl⟩
       go_wp2_with fail
       refine (HPU.out _ _ _ _ (HRB.out g) (takeI2 (cacheP h.C h.D s.ck) (Sl.block g 346 (bys p)))).mono ?_
       rintro e w6 ⟨rfl, q6⟩
       haveI := q6.i
       clear q4
       go_wp2_with fail
       refine (hfl _).mono ?_
       rintro e w7 ⟨rfl, rfl⟩
       refine ⟨rfl, ?_⟩
       exact ⟨rfl, tree_join HI.out (keep5 _ _ _ _ _)⟩
end Go.Proofs.YtfhbmblbidcmmaaGreat
namespace Go.Tr
def atOf (m p i : Nat) : Nat := i * (m / p) + min i (m % p)
theorem atOf_next (m p i : Nat) : atOf m p (i + 1) = atOf m p i + (m / p + if i < m % p then 1 else 0) := by
 unfold atOf
 rw [Nat.add_mul, Nat.one_mul]
 split <;> omega
theorem atOf_le (m p i : Nat) (h : i ≤ p) : atOf m p i ≤ m := by
 have h1 : p * (m / p) + m % p = m := Nat.div_add_mod m p
 have h2 : i * (m / p) ≤ p * (m / p) := Nat.mul_le_mul_right _ h
 unfold atOf
 omega
theorem spreadFrom_len {σ : Type} {wt : Nd → M σ Kd} {n : Nd} {pages : Nat} : ∀ (c i at_ : Nat) (out ks : List Kd) (s s' : σ), spreadFrom wt n pages c i at_ out s = .ok ks s' → ks.length = out.length + c
 | 0, i, at_, out, ks, s, s', h => by cases h; rfl
 | c + 1, i, at_, out, ks, s, s', h => by
   unfold spreadFrom M.bind Res.bind at h
   split at h
   · have := spreadFrom_len c _ _ _ _ _ _ h
     rw [this, List.length_append]
     simp
     omega
   · cases h
   · cases h
theorem tSpread_len {σ : Type} {wt : Nd → M σ Kd} {n : Nd} {ks : List Kd} {s s' : σ} (h : tSpread wt n s = .ok ks s') : ks.length = (many n + 11) / 12 := by
 have := spreadFrom_len _ _ _ _ _ _ _ h
 simpa [pagesOf] using this
end Go.Tr
namespace Go.Proofs.YtfhbmblbidcmmaaGreat
set_option linter.unusedSimpArgs false
set_option linter.unusedVariables false
open Go.RowKit Go.Sl Go.Dk Go.Tr
attribute [local go_sem ↓] Go.wp_at_zero Go.wp_at_succ
attribute [local go_sem] Go.Sl.cell_sat Go.Sl.frozen_sat
def KidsR (ks : List Kd) (v : Value) (B : Assn) : Prop := ReadsK B v ks
def Pure (n : Nd) : Prop := many n = if n.leaf then n.ents.length else n.kids.length
set_option maxRecDepth 100000 in
set_option maxHeartbeats 3200000 in
theorem spread_any (h : Th) (s : TS) (n : Nd) (v : Value) (B F : Assn) (w : World) (hN : ReadsN B v n) (hs : Sat (treeP h s * (B * F)) w) (hp : Pure n) (hm : many n ≤ 65536) (hb : tSpread tWrite n s ≠ .bad) :
 Calls Tryz.prog 137 #[.pointer (some ⟨h.t, 0, none⟩), v] w (TEnds h (B * F) (tSpread tWrite n s) KidsR) := by
 obtain ⟨i0, E⟩ := elemKd
 have hmany := fun F w q => many_any n v B F w hN q (by unfold many at hm; omega) (by unfold many at hm; omega)
 obtain ⟨vE, vK, rfl, hE, hK⟩ := id hN
 obtain ⟨aE, cE, rfl, hE1, hE2⟩ := hE.v
 obtain ⟨aK, cK, rfl, hK1, hK2⟩ := hK.v
 obtain ⟨v, hv⟩ : ∃ v, Value.agg #[.bool n.leaf, .slice aE n.ents.length cE, .slice aK n.kids.length cK] = v := ⟨_, rfl⟩
 have HCUT : Aside (∀ (i j : Nat) F w, i ≤ j → j ≤ many n → Sat (B * F) w → Calls Tryz.prog 166 #[.agg #[.bool n.leaf, .slice aE n.ents.length cE, .slice aK n.kids.length cK], .int .i64 i, .int .i64 j] w fun e w' => ∃ v', e = .returned v' ∧ ReadsN B v' (cutN n i j) ∧ Sat (B * F) w') :=
  fun i j F w h1 h2 q => tcut_any n i j _ B F w hN q h1 (by rw [← hp]; exact h2)
 obtain ⟨m, hmm⟩ : ∃ m, many n = m := ⟨_, rfl⟩
 rw [hmm] at hm hmany HCUT
 obtain ⟨p, hpp⟩ : ∃ p, (m + 11) / 12 = p := ⟨_, rfl⟩
 obtain ⟨R, hR⟩ : ∃ R, tSpread tWrite n s = R := ⟨_, rfl⟩
 have HR : Aside (spreadFrom tWrite n p p 0 0 [] s = R) := (by rw [← hR]; unfold tSpread pagesOf; rw [hmm, hpp] : _ = _)
 have HM : Aside (many n = m) := hmm
 have HB : Aside (R ≠ .bad) := (by rw [← hR]; exact hb : _ ≠ _)
 have hp2 : p ≤ 5462 := by omega
 have hdv : ((m : Int) + 12 - 1) / 12 = (p : Int) := by omega
 rw [hR]
 have h2 : Sat (B * (treeP h s * F)) w := hs.eq (by ac_rfl)
 haveI := h2.i
 clear hE hK hN hs hb hR hp hv hmm
 go_enter Tryz.func137, Tryz.ntmps137
 go_wp2_with fail
 refine (hmany _ _ (takeI B)).mono ?_
 rintro e w1 ⟨rfl, q1⟩
 haveI := q1.i
 clear hmany h2
 go_wp2_with fail
 obtain ⟨N, hN⟩ : ∃ N, w.heap.size = N := ⟨_, rfl⟩
 rw [hN] at q1 ⊢
 clear hN
 have e0 := (Sat.rw_nil (e := TKd) (s := 4) q1)
 simp only [hdv]
 clear hdv
 go_loopg [7, 8, 18] p (fun g t7 t8 t18 wr => ∃ (i : Nat) (a : Option Addr) (c : Nat) (out : List Kd) (s' : TS), t18 = .int .i64 i ∧ t8 = .int .i64 (atOf m p i : Nat) ∧ t7 = .slice a i c ∧ i ≤ p ∧ out.length = i ∧ Aside (g = p - i ∧ spreadFrom tWrite n p (p - i) i (atOf m p i) out s' = R) ∧
  Sat (rw TKd 4 (.slice a i c) (kcs out) * (treeP h s' * (B * (Sl.block N TNd [.bool n.leaf, .slice aE n.ents.length cE, .slice aK n.kids.length cK] * F)))) wr)
 case atStart => exact ⟨0, none, 0, [], s, rfl, by simp [atOf], rfl, by omega, rfl, ⟨rfl, by simpa [atOf] using HR.out⟩, e0.eq (by ac_rfl)⟩
 case round =>
  obtain ⟨i, a, c, out, s', rfl, rfl, rfl, hi, hol, A, hsr⟩ := hrel
  haveI := hsr.i
  clear q1 e0
  by_cases hlt : i < p
  · have hlt' : (i : Int) < p := by omega
    have hp0 : ¬ (p : Int) = 0 := by omega
    obtain ⟨E1, hE1⟩ : ∃ x, m / p = x := ⟨_, rfl⟩
    have d1 : (m : Int) / (p : Int) = (E1 : Int) := by rw [← hE1]; rfl
    have hE2 : E1 ≤ 65536 := by rw [← hE1]; exact Nat.le_trans (Nat.div_le_self m p) hm
    have hnx := atOf_next m p i
    have hle := atOf_le m p (i + 1) (by omega)
    obtain ⟨pos, hpos⟩ : ∃ x, atOf m p i = x := ⟨_, rfl⟩
    simp only [hpos]
    rw [hE1] at hnx
    obtain ⟨sz, hsz⟩ : ∃ x, E1 + (if i < m % p then 1 else 0) = x := ⟨_, rfl⟩
    rw [hpos, hsz] at hnx
    have hstep : spreadFrom tWrite n p (p - i) i pos out s' = M.bind (tWrite (cutN n pos (pos + sz))) (fun k => spreadFrom tWrite n p (p - (i + 1)) (i + 1) (pos + sz) (out ++ [k])) s' := by
     rw [show p - i = (p - (i + 1)) + 1 by omega]
     conv => lhs; unfold spreadFrom
     rw [HM.out, hE1, hsz]
    have hA2 := A.out.2
    rw [hpos, hstep] at hA2
    obtain ⟨r, hr⟩ : ∃ r, tWrite (cutN n pos (pos + sz)) s' = r := ⟨_, rfl⟩
    have hwr := fun v B F w q1 q2 => twrite_any h s' (cutN n pos (pos + sz)) v B F w q1 q2 (by unfold cutN; split <;> simp [sub] <;> omega) (by unfold cutN; split <;> simp [sub] <;> omega)
    rw [hr] at hwr
    have hcut := fun F w q => HCUT.out pos (pos + sz) F w (by omega) (by omega) q
    have hpm : pos + sz ≤ 65536 := by omega
    clear hle
    unfold M.bind at hA2
    rw [hr] at hA2
    have hA1 := A.out.1
    clear hr hstep HCUT HR
    have HWR : Aside (∀ (v : Value) (B F : Assn) (w : World), ReadsN B v (cutN n pos (pos + sz)) → Sat (treeP h s' * (B * F)) w → r ≠ .bad → Calls Tryz.prog 165 #[.pointer (some ⟨h.t, 0, none⟩), v] w (TEnds h (B * F) r KidR)) := hwr
    have HSZ : Aside (E1 + (if i < m % p then 1 else 0) = sz) := hsz
    have HA : Aside (pos = atOf m p i ∧ gk = p - i ∧ out.length = i) := ⟨hpos.symm, hA1, hol⟩
    have HX : Aside (atOf m p (i + 1) = pos + sz) := hnx
    clear hwr hA1 A hpos hnx hol
    cases r with
    | bad => exact absurd hA2.symm HB.out
    | ok k s2 =>
      have hnb : Res.ok k s2 ≠ .bad := by simp
      have HC : Aside (spreadFrom tWrite n p (p - (i + 1)) (i + 1) (pos + sz) (out ++ [k]) s2 = R) := hA2
      clear hA2
      by_cases hrem : i < m % p
      · have hrem' : (i : Int) < (m : Int) % (p : Int) := by exact_mod_cast hrem
        have hq : E1 + 1 = sz := by rw [← HSZ.out, if_pos hrem]
        subst hq
        clear hsz HSZ HB HM hE1
        rw [Int.natCast_add, Int.natCast_add, Int.natCast_one] at hcut
        go_wp2_with fail
        refine (hcut _ _ (takeI B)).mono ?_
        rintro e w2 ⟨vc, rfl, hcN, q2⟩
        haveI := q2.i
        clear hcut hsr
        go_wp2_with fail
        with_reducible refine Calls.mono (HWR.out _ B _ _ hcN (takeI2 (treeP h s') B) hnb) ?_
        rintro e w3 ⟨v3, G3, rfl, ⟨rfl, rfl⟩, q3⟩
        rw [one_sep] at q3
        haveI := q3.i
        clear q2 hcN
        obtain ⟨k1, k2, k3, k4⟩ := k
        unfold kdV
        simp only []
        have HKC : Aside (kcs (out ++ [⟨k1, k2, k3, k4⟩]) = kcs out ++ [.int .i64 k1, .int .i64 k2, .int .i64 k3, .int .i64 k4]) := (by simp [kcs, krow] : _ = _)
        go_wp2_with (at_builtin; refine wpl_append_same E rfl (.tmp 31) (.tmp 40) rfl rfl rfl (takeI (rw TKd 4 (.slice a i c) (kcs out))) (Src.new (b := w3.heap.size) (e := TKd) (s := 4) (vs := [.int .i64 k1, .int .i64 k2, .int .i64 k3, .int .i64 k4]) (takeI _) rfl (by intro u hu; simp at hu; rcases hu with rfl | rfl | rfl | rfl <;> rfl)) (by unfold maxLen; omega) (by omega) ?_; intro a4 c4 w4 q4 z4; clear z4; haveI := q4.i)
        go_roundg (p - (i + 1))
        case measure => have := HA.out.2.1; omega
        case rel =>
         refine ⟨i + 1, a4, c4, out ++ [⟨k1, k2, k3, k4⟩], s2, by go_num, ?_, rfl, by omega, by rw [List.length_append, HA.out.2.2]; rfl, ⟨rfl, by rw [HX.out]; exact HC.out⟩, ?_⟩
         · rw [HX.out]; go_num
         · rw [HKC.out]
           exact keep5 _ _ _ _ _
      · have hrem' : ¬ (i : Int) < (m : Int) % (p : Int) := by exact_mod_cast hrem
        have hq : E1 = sz := by rw [← HSZ.out, if_neg hrem]; rfl
        subst hq
        clear hsz HSZ HB HM hE1
        rw [Int.natCast_add] at hcut
        go_wp2_with fail
        refine (hcut _ _ (takeI B)).mono ?_
        rintro e w2 ⟨vc, rfl, hcN, q2⟩
        haveI := q2.i
        clear hcut hsr
        go_wp2_with fail
        with_reducible refine Calls.mono (HWR.out _ B _ _ hcN (takeI2 (treeP h s') B) hnb) ?_
        rintro e w3 ⟨v3, G3, rfl, ⟨rfl, rfl⟩, q3⟩
        rw [one_sep] at q3
        haveI := q3.i
        clear q2 hcN
        obtain ⟨k1, k2, k3, k4⟩ := k
        unfold kdV
        simp only []
        have HKC : Aside (kcs (out ++ [⟨k1, k2, k3, k4⟩]) = kcs out ++ [.int .i64 k1, .int .i64 k2, .int .i64 k3, .int .i64 k4]) := (by simp [kcs, krow] : _ = _)
        go_wp2_with (at_builtin; refine wpl_append_same E rfl (.tmp 31) (.tmp 40) rfl rfl rfl (takeI (rw TKd 4 (.slice a i c) (kcs out))) (Src.new (b := w3.heap.size) (e := TKd) (s := 4) (vs := [.int .i64 k1, .int .i64 k2, .int .i64 k3, .int .i64 k4]) (takeI _) rfl (by intro u hu; simp at hu; rcases hu with rfl | rfl | rfl | rfl <;> rfl)) (by unfold maxLen; omega) (by omega) ?_; intro a4 c4 w4 q4 z4; clear z4; haveI := q4.i)
        go_roundg (p - (i + 1))
        case measure => have := HA.out.2.1; omega
        case rel =>
         refine ⟨i + 1, a4, c4, out ++ [⟨k1, k2, k3, k4⟩], s2, by go_num, ?_, rfl, by omega, by rw [List.length_append, HA.out.2.2]; rfl, ⟨rfl, by rw [HX.out]; exact HC.out⟩, ?_⟩
         · rw [HX.out]; go_num
         · rw [HKC.out]
           exact keep5 _ _ _ _ _
    | fault er s2 =>
      have hnb : (Res.fault er s2 : Res TS Kd) ≠ .bad := by simp
      subst hA2
      by_cases hrem : i < m % p
      · have hrem' : (i : Int) < (m : Int) % (p : Int) := by exact_mod_cast hrem
        have hq : E1 + 1 = sz := by rw [← HSZ.out, if_pos hrem]
        subst hq
        clear hsz HSZ HB HM hE1
        rw [Int.natCast_add, Int.natCast_add, Int.natCast_one] at hcut
        go_wp2_with fail
        refine (hcut _ _ (takeI B)).mono ?_
        rintro e w2 ⟨vc, rfl, hcN, q2⟩
        haveI := q2.i
        clear hcut hsr
        go_wp2_with fail
        with_reducible refine Calls.mono (HWR.out _ B _ _ hcN (takeI2 (treeP h s') B) hnb) ?_
        rintro e w3 ⟨rfl, q3⟩
        haveI := q3.i
        exact ⟨rfl, rfl, keep3 _ _ _⟩
      · have hrem' : ¬ (i : Int) < (m : Int) % (p : Int) := by exact_mod_cast hrem
        have hq : E1 = sz := by rw [← HSZ.out, if_neg hrem]; rfl
        subst hq
        clear hsz HSZ HB HM hE1
        rw [Int.natCast_add] at hcut
        go_wp2_with fail
        refine (hcut _ _ (takeI B)).mono ?_
        rintro e w2 ⟨vc, rfl, hcN, q2⟩
        haveI := q2.i
        clear hcut hsr
        go_wp2_with fail
        with_reducible refine Calls.mono (HWR.out _ B _ _ hcN (takeI2 (treeP h s') B) hnb) ?_
        rintro e w3 ⟨rfl, q3⟩
        haveI := q3.i
        exact ⟨rfl, rfl, keep3 _ _ _⟩
  · have hlt' : ¬ (i : Int) < p := by omega
    obtain rfl : i = p := by omega
    have hR : R = .ok out s' := by
     rw [← A.out.2, Nat.sub_self]
     rfl
    subst hR
    subst hol
    clear A HCUT HR HB HM
    go_wp2
    go_returns
    exact ⟨_, rw TKd 4 (.slice a out.length c) (kcs out), rfl, ReadsR.rw hsr ⟨a, c, rfl⟩, keep4 _ _ _ _⟩
end Go.Proofs.YtfhbmblbidcmmaaGreat
namespace Go.Tr
theorem tGrown_zero {σ : Type} {wt : Nd → M σ Kd} {l : List Kd} (h : 1 < l.length) (hh : Int) (s : σ) : tGrown wt 0 l hh s = .bad := by
 match l, h with
 | a :: b :: t, _ => rfl
theorem tGrown_succ {σ : Type} {wt : Nd → M σ Kd} {l : List Kd} (h : 1 < l.length) (f : Nat) (hh : Int) : tGrown wt (f + 1) l hh = M.bind (tSpread wt ⟨false, [], l⟩) fun ks => tGrown wt f ks (hh + 1) := by
 match l, h with
 | a :: b :: t, _ => rfl
end Go.Tr
namespace Go.Proofs.YtfhbmblbidcmmaaGreat
set_option linter.unusedSimpArgs false
set_option linter.unusedVariables false
open Go.RowKit Go.Sl Go.Dk Go.Tr
attribute [local go_sem ↓] Go.wp_at_zero Go.wp_at_succ
attribute [local go_sem] Go.Sl.cell_sat Go.Sl.frozen_sat
def TallR (x : Tall) (v : Value) (B : Assn) : Prop := v = tallV x ∧ B = 1
theorem pure_kids (ks : List Kd) : Pure ⟨false, [], ks⟩ := by unfold Pure many; simp
theorem pure_ents (l : List Ent) : Pure ⟨true, l, []⟩ := by unfold Pure many; simp
theorem readsN_kids {B : Assn} {v : Value} {ks : List Kd} (h : ReadsK B v ks) : ReadsN B (.agg #[.bool false, .slice none 0 0, v]) ⟨false, [], ks⟩ := ⟨_, _, rfl, ReadsR.nil 4 _, h⟩
theorem readsN_ents {B : Assn} {v : Value} {l : List Ent} (h : ReadsE B v l) : ReadsN B (.agg #[.bool true, v, .slice none 0 0]) ⟨true, l, []⟩ := ⟨_, _, rfl, h, ReadsR.nil 4 _⟩
set_option maxRecDepth 100000 in
set_option maxHeartbeats 3200000 in
theorem grown_any (h : Th) (s : TS) (ks : List Kd) (ht : Int) (v : Value) (B F : Assn) (w : World) (hK : ReadsK B v ks) (hs : Sat (treeP h s * (B * F)) w) (hl : ks.length ≤ 65536) (h1 : -1048576 ≤ ht) (h2 : ht ≤ 1048576) (hb : grown tWrite ks ht s ≠ .bad) :
 Calls Tryz.prog 136 #[.pointer (some ⟨h.t, 0, none⟩), v, .int .i64 ht] w (TEnds h (B * F) (grown tWrite ks ht s) TallR) := by
 obtain ⟨a0, c0, rfl, hK1, hK2⟩ := hK.v
 obtain ⟨R, hR⟩ : ∃ R, grown tWrite ks ht s = R := ⟨_, rfl⟩
 have HR : Aside (tGrown tWrite ks.length ks ht s = R) := hR
 have HB : Aside (R ≠ .bad) := (by rw [← hR]; exact hb : _ ≠ _)
 have HK : Aside (ReadsK (1 * B) (.slice a0 ks.length c0) ks) := hK.right
 rw [hR]
 have q0 : Sat (treeP h s * ((1 * B) * F)) w := by rw [one_sep]; exact hs
 haveI := q0.i
 clear hb hR hK hs
 go_enter Tryz.func136, Tryz.ntmps136
 go_wp2
 have q1 : Sat (treeP h s * ((1 * B) * (Sl.block w.heap.size TTl [.int .i64 0, .int .i64 0, .int .i64 0, .int .i64 0, .int .i64 0] * F))) (w.alloc (.cells #[.int .i64 0, .int .i64 0, .int .i64 0, .int .i64 0, .int .i64 0] TTl)) := satI_eq (by ac_rfl)
 obtain ⟨N, hN⟩ : ∃ N, w.heap.size = N := ⟨_, rfl⟩
 rw [hN] at q1 ⊢
 clear hN q0 this
 go_loopg [1, 2] ks.length (fun g t1 t2 wr => ∃ (l : List Kd) (hh : Int) (f : Nat) (a : Option Addr) (c : Nat) (G : Assn) (s' : TS), t1 = .slice a l.length c ∧ t2 = .int .i64 hh ∧ l.length ≤ 65536 ∧ -1048576 ≤ hh ∧ hh + f ≤ 2097152 ∧ Aside (g = f ∧ tGrown tWrite f l hh s' = R) ∧ Aside (ReadsK (G * B) (.slice a l.length c) l) ∧
  Sat (treeP h s' * ((G * B) * (Sl.block N TTl [.int .i64 0, .int .i64 0, .int .i64 0, .int .i64 0, .int .i64 0] * F))) wr)
 case atStart => exact ⟨ks, ht, ks.length, a0, c0, 1, s, rfl, rfl, hl, h1, by omega, ⟨rfl, HR.out⟩, HK, q1⟩
 case round =>
  obtain ⟨l, hh, f, a, c, G, s', rfl, rfl, hll, hh1, hh2, A, HG, hsr⟩ := hrel
  clear q1 HR HK
  by_cases hlt : 1 < l.length
  · have hlt' : (1 : Int) < l.length := by omega
    obtain ⟨f', rfl⟩ : ∃ f', f = f' + 1 := by
     cases f with
     | zero => exact absurd ((tGrown_zero hlt hh s').symm.trans A.out.2).symm HB.out
     | succ f' => exact ⟨f', rfl⟩
    have hA2 := A.out.2
    have hA1 := A.out.1
    rw [tGrown_succ hlt] at hA2
    obtain ⟨r, hr⟩ : ∃ r, tSpread tWrite ⟨false, [], l⟩ s' = r := ⟨_, rfl⟩
    have hsp := fun F w q1 => spread_any h s' ⟨false, [], l⟩ _ (G * B) F w (readsN_kids HG.out) q1 (pure_kids l) (by simp [many]; omega)
    have hlen : ∀ x s2, r = .ok x s2 → x.length = (l.length + 11) / 12 := fun x s2 e => by
     have := tSpread_len (hr.trans e)
     simpa [many] using this
    unfold M.bind at hA2
    rw [hr] at hsp hA2
    have HA : Aside (gk = f' + 1) := hA1
    clear hr A hA1
    cases r with
    | bad => exact absurd hA2.symm HB.out
    | ok ks2 s2 =>
      have HC : Aside (tGrown tWrite f' ks2 (hh + 1) s2 = R) := hA2
      have hl2 := hlen ks2 s2 rfl
      have hl3 : ks2.length ≤ 65536 := by omega
      have hnb : Res.ok ks2 s2 ≠ .bad := by simp
      haveI := hsr.i
      clear hA2 hlen hl2
      go_wp2_with fail
      with_reducible refine Calls.mono (hsp _ _ hsr hnb) ?_
      rintro e w2 ⟨v2, G2, rfl, hG2, q2⟩
      obtain ⟨a2, c2, rfl, hc1, hc2⟩ := ReadsR.v hG2
      have HG2 : Aside (ReadsK (G2 * B) (.slice a2 ks2.length c2) ks2) := ReadsR.left hG2
      clear hsr hG2 hsp this
      go_wp2_with fail
      go_roundg f'
      case measure => have := HA.out; omega
      case rel =>
       refine ⟨ks2, hh + 1, f', a2, c2, G2, s2, rfl, by go_num, hl3, by omega, by omega, ⟨rfl, HC.out⟩, HG2, ?_⟩
       exact Sat.weak (B := G) (q2.eq (by ac_rfl))
    | fault er s2 =>
      subst hA2
      have hnb : (Res.fault er s2 : Res TS (List Kd)) ≠ .bad := by simp
      haveI := hsr.i
      clear hlen
      go_wp2_with fail
      with_reducible refine Calls.mono (hsp _ _ hsr hnb) ?_
      rintro e w2 ⟨rfl, q2⟩
      exact ⟨rfl, rfl, Sat.weak (B := G * Sl.block N TTl [.int .i64 0, .int .i64 0, .int .i64 0, .int .i64 0, .int .i64 0]) (q2.eq (by ac_rfl))⟩
  · have hlt' : ¬ (1 : Int) < l.length := by omega
    match l, hlt with
    | [], _ =>
     have hR : R = .ok noTall s' := by rw [← A.out.2]; cases f <;> rfl
     subst hR
     have q3 : Sat ((treeP h s' * (B * F)) * (G * Sl.block N TTl [.int .i64 0, .int .i64 0, .int .i64 0, .int .i64 0, .int .i64 0])) wr := hsr.eq (by ac_rfl)
     have hno := none_any _ wr q3
     have hlt' : ¬ (1 : Int) < (([] : List Kd).length : Nat) := by simp
     haveI := hsr.i
     clear A HG HB hsr
     go_wp2_with fail
     refine hno.mono ?_
     rintro e w2 ⟨rfl, q4⟩
     haveI := q4.i
     clear hno q3
     unfold tallV noTall kd0
     go_wp2
     go_returns
     exact ⟨_, 1, rfl, ⟨rfl, rfl⟩, by rw [one_sep]; exact keep3 _ _ _⟩
    | [k], _ =>
     have hR : R = .ok ⟨k, hh⟩ s' := by rw [← A.out.2]; cases f <;> rfl
     subst hR
     obtain ⟨b, q, rfl, r1, r2, r3, r4⟩ := readsK_at HG.out (i := 0) (x := k) rfl
     haveI := hsr.i
     clear A HG HB
     go_wp2
     go_returns
     exact ⟨_, 1, rfl, ⟨rfl, rfl⟩, by rw [one_sep]; exact keep3 _ _ _⟩
    | a :: b :: t, hlt => exact absurd (by simp) hlt
set_option maxRecDepth 100000 in
set_option maxHeartbeats 800000 in
theorem leaves_any (h : Th) (s : TS) (l : List Ent) (v : Value) (B F : Assn) (w : World) (hE : ReadsE B v l) (hs : Sat (treeP h s * (B * F)) w) (hl : l.length ≤ 65536) (hb : tLeaves tWrite l s ≠ .bad) :
 Calls Tryz.prog 84 #[.pointer (some ⟨h.t, 0, none⟩), v] w (TEnds h (B * F) (tLeaves tWrite l s) TallR) := by
 obtain ⟨a0, c0, rfl, hE1, hE2⟩ := hE.v
 have hsp := fun F w q1 => spread_any h s ⟨true, l, []⟩ _ B F w (readsN_ents hE) q1 (pure_ents l) (by simp [many]; omega)
 obtain ⟨R, hR⟩ : ∃ R, tLeaves tWrite l s = R := ⟨_, rfl⟩
 rw [hR] at hb ⊢
 unfold tLeaves M.bind at hR
 obtain ⟨r, hr⟩ : ∃ r, tSpread tWrite ⟨true, l, []⟩ s = r := ⟨_, rfl⟩
 have hlen : ∀ x s2, r = .ok x s2 → x.length = (l.length + 11) / 12 := fun x s2 e => by
  have := tSpread_len (hr.trans e)
  simpa [many] using this
 rw [hr] at hsp hR
 have h2 : Sat (B * (treeP h s * F)) w := hs.eq (by ac_rfl)
 haveI := h2.i
 clear hr hE hs
 cases r with
 | bad => exact absurd hR.symm hb
 | ok ks2 s2 =>
   have hl2 := hlen ks2 s2 rfl
   have hl3 : ks2.length ≤ 65536 := by omega
   have hgr : grown tWrite ks2 0 s2 = R := hR
   have hg := fun v B F w q1 q2 => grown_any h s2 ks2 0 v B F w q1 q2 hl3 (by omega) (by omega) (by rw [hgr]; exact hb)
   rw [hgr] at hg
   have hnb : Res.ok ks2 s2 ≠ .bad := by simp
   have HG : Aside (∀ (v : Value) (B F : Assn) (w : World), ReadsK B v ks2 → Sat (treeP h s2 * (B * F)) w → Calls Tryz.prog 136 #[.pointer (some ⟨h.t, 0, none⟩), v, .int .i64 0] w (TEnds h (B * F) R TallR)) := hg
   clear hg hgr hR hlen hl2 h2
   go_enter Tryz.func84, Tryz.ntmps84
   go_wp2_with fail
   with_reducible refine Calls.mono (hsp _ _ (takeI2 (treeP h s) B) hnb) ?_
   rintro e w2 ⟨v2, G2, rfl, hG2, q2⟩
   have hG3 : ReadsK G2 v2 ks2 := hG2
   obtain ⟨a5, c5, rfl, _, _⟩ := ReadsR.v hG3
   haveI := q2.i
   clear hsp hG2
   go_wp2_with fail
   with_reducible refine Calls.mono (HG.out _ G2 _ _ hG3 (takeI2 (treeP h s2) G2)) ?_
   rintro e w3 h3
   cases R with
   | bad => exact absurd rfl hb
   | fault er s3 =>
     obtain ⟨rfl, q3⟩ := h3
     haveI := q3.i
     exact ⟨rfl, rfl, keep3 _ _ _⟩
   | ok x s3 =>
     obtain ⟨v3, G3, rfl, ⟨rfl, rfl⟩, q3⟩ := h3
     rw [one_sep] at q3
     haveI := q3.i
     unfold tallV
     go_wp2
     go_returns
     exact ⟨_, 1, rfl, ⟨rfl, rfl⟩, by rw [one_sep]; exact keep3 _ _ _⟩
 | fault er s2 =>
   have hnb : (Res.fault er s2 : Res TS (List Kd)) ≠ .bad := by simp
   subst hR
   clear hlen h2 hb
   go_enter Tryz.func84, Tryz.ntmps84
   go_wp2_with fail
   with_reducible refine Calls.mono (hsp _ _ (takeI2 (treeP h s) B) hnb) ?_
   rintro e w2 ⟨rfl, q2⟩
   haveI := q2.i
   exact ⟨rfl, rfl, keep3 _ _ _⟩
set_option maxRecDepth 100000 in
set_option maxHeartbeats 800000 in
theorem over_any (h : Th) (s : TS) (ks : List Kd) (ht : Int) (v : Value) (B F : Assn) (w : World) (hK : ReadsK B v ks) (hs : Sat (treeP h s * (B * F)) w) (hl : ks.length ≤ 65536) (h1 : -1048000 ≤ ht) (h2 : ht ≤ 1048576) (hb : tOver tWrite ks ht s ≠ .bad) :
 Calls Tryz.prog 144 #[.pointer (some ⟨h.t, 0, none⟩), v, .int .i64 ht] w (TEnds h (B * F) (tOver tWrite ks ht s) TallR) := by
 unfold tOver at hb ⊢
 have hg := fun B F w q1 q2 => grown_any h s ks (ht - 1) v B F w q1 q2 hl (by omega) (by omega) hb
 obtain ⟨R, hR⟩ : ∃ R, grown tWrite ks (ht - 1) s = R := ⟨_, rfl⟩
 rw [hR] at hg hb ⊢
 obtain ⟨a0, c0, rfl, hK1, hK2⟩ := hK.v
 have h2 : Sat (B * (treeP h s * F)) w := hs.eq (by ac_rfl)
 haveI := h2.i
 have HK : Aside (ReadsK B (.slice a0 ks.length c0) ks) := hK
 clear hR hK hs h2
 go_enter Tryz.func144, Tryz.ntmps144
 go_wp2_with fail
 with_reducible refine Calls.mono (hg B _ _ HK.out (takeI2 (treeP h s) B)) ?_
 rintro e w3 h3
 cases R with
 | bad => exact absurd rfl hb
 | fault er s3 =>
   obtain ⟨rfl, q3⟩ := h3
   haveI := q3.i
   exact ⟨rfl, rfl, keep3 _ _ _⟩
 | ok x s3 =>
   obtain ⟨v3, G3, rfl, ⟨rfl, rfl⟩, q3⟩ := h3
   rw [one_sep] at q3
   haveI := q3.i
   unfold tallV
   go_wp2
   go_returns
   exact ⟨_, 1, rfl, ⟨rfl, rfl⟩, by rw [one_sep]; exact keep3 _ _ _⟩
end Go.Proofs.YtfhbmblbidcmmaaGreat
namespace Go.Tr
section
variable {σ α β : Type}
theorem bind_nb {m : M σ α} {f : α → M σ β} {s : σ} {R : Res σ β} (h : M.bind m f s = R) (hb : R ≠ .bad) : m s ≠ .bad := fun e => hb (by
 rw [← h]
 unfold M.bind
 rw [e]
 rfl)
theorem bind_go {m : M σ α} {f : α → M σ β} {s s' : σ} {a : α} {R : Res σ β} (h : M.bind m f s = R) (hm : m s = .ok a s') : f a s' = R := by
 rw [← h]
 unfold M.bind
 rw [hm]
 rfl
theorem bind_up {m : M σ α} {f : α → M σ β} {s s' : σ} {e : Int} {R : Res σ β} (h : M.bind m f s = R) (hm : m s = .fault e s') : R = .fault e s' := by
 rw [← h]
 unfold M.bind
 rw [hm]
 rfl
theorem bind_bad {m : M σ α} {f : α → M σ β} {s : σ} {R : Res σ β} (h : M.bind m f s = R) (hm : m s = .bad) : R = .bad := by
 rw [← h]
 unfold M.bind
 rw [hm]
 rfl
theorem bind_out {m : M σ α} {f : α → M σ β} {s s2 : σ} {b : β} (h : M.bind m f s = .ok b s2) : ∃ a s1, m s = .ok a s1 ∧ f a s1 = .ok b s2 := by
 unfold M.bind at h
 cases hm : m s with
 | ok a s1 => rw [hm] at h; exact ⟨a, s1, rfl, h⟩
 | fault e s1 => rw [hm] at h; cases h
 | bad => rw [hm] at h; cases h
end
theorem both_many (a b : Nd) : many (both a b) = many a + many b := by simp [many, both]; omega
theorem tMeet_len {σ : Type} {rd : Int → M σ Nd} {wt : Nd → M σ Kd} (hrd : ∀ p s n s', rd p s = .ok n s' → many n ≤ 12) :
 ∀ (f : Nat) (a b : Tall) (s : σ) (r : List Kd × Int) (s' : σ), tMeet rd wt f a b s = .ok r s' → r.1.length ≤ 2
 | 0, a, b, s, r, s', h => by cases h
 | f + 1, a, b, s, r, s', h => by
   unfold tMeet at h
   split at h
   · obtain ⟨x, s1, h1, h⟩ := bind_out h
     cases hz : x.kids.getLast? with
     | none => simp only [hz] at h; cases h
     | some z =>
       simp only [hz] at h
       by_cases hlf : x.leaf = true
       · rw [if_pos hlf] at h; cases h
       · rw [if_neg hlf] at h
         obtain ⟨q, s2, h2, h⟩ := bind_out h
         obtain ⟨o, s3, h3, h⟩ := bind_out h
         cases h
         have ih := tMeet_len hrd f _ _ _ _ _ h2
         have hx := hrd _ _ _ _ h1
         rw [tSpread_len h3, both_many]
         have : many (cutN x 0 (x.kids.length - 1)) ≤ 11 := by
          unfold cutN
          rw [if_neg hlf]
          unfold many at hx ⊢
          simp [sub]
          omega
         have : many (⟨false, [], q.1⟩ : Nd) = q.1.length := by simp [many]
         omega
   · split at h
     · obtain ⟨x, s1, h1, h⟩ := bind_out h
       cases hz : x.kids with
       | nil => simp only [hz] at h; cases h
       | cons z zs =>
         simp only [hz] at h
         by_cases hlf : x.leaf = true
         · rw [if_pos hlf] at h; cases h
         · rw [if_neg hlf, ← hz] at h
           obtain ⟨q, s2, h2, h⟩ := bind_out h
           obtain ⟨o, s3, h3, h⟩ := bind_out h
           cases h
           have ih := tMeet_len hrd f _ _ _ _ _ h2
           have hx := hrd _ _ _ _ h1
           rw [tSpread_len h3, both_many]
           have : many (cutN x 1 x.kids.length) ≤ 11 := by
            unfold cutN
            rw [if_neg hlf]
            unfold many at hx ⊢
            simp [sub]
            omega
           have : many (⟨false, [], q.1⟩ : Nd) = q.1.length := by simp [many]
           omega
     · obtain ⟨x, s1, h1, h⟩ := bind_out h
       obtain ⟨y, s2, h2, h⟩ := bind_out h
       by_cases hlf : x.leaf = y.leaf
       · rw [if_pos hlf] at h
         obtain ⟨o, s3, h3, h⟩ := bind_out h
         cases h
         have hx := hrd _ _ _ _ h1
         have hy := hrd _ _ _ _ h2
         rw [tSpread_len h3, both_many]
         omega
       · rw [if_neg hlf] at h
         cases h
end Go.Tr
namespace Go.Proofs.YtfhbmblbidcmmaaGreat
set_option linter.unusedSimpArgs false
set_option linter.unusedVariables false
open Go.RowKit Go.Sl Go.Dk Go.Tr
attribute [local go_sem ↓] Go.wp_at_zero Go.wp_at_succ
attribute [local go_sem] Go.Sl.cell_sat Go.Sl.frozen_sat
theorem may_many {n : Nd} (h : may n = true) : many n ≤ 12 ∧ Pure n := by
 obtain ⟨h1, h2⟩ := may_facts h
 obtain ⟨h3, h4⟩ := may_len h
 unfold Pure many
 cases hl : n.leaf with
 | true =>
   have : n.kids = [] := by
    cases hk : n.kids with
    | nil => rfl
    | cons k l =>
      have := (h2 k (by rw [hk]; simp)).1
      rw [hl] at this; cases this
   rw [this]
   exact ⟨by simp; omega, by simp⟩
 | false =>
   have : n.ents = [] := by
    cases hk : n.ents with
    | nil => rfl
    | cons k l =>
      have := (h1 k (by rw [hk]; simp)).1
      rw [hl] at this; cases this
   rw [this]
   exact ⟨by simp; omega, by simp⟩
theorem tRead_may {p : Int} {s s' : TS} {n : Nd} (h : tRead p s = .ok n s') : may n = true := by
 have ho : s.ops < opsMax := by
  rcases Nat.lt_or_ge s.ops opsMax with h | h1
  · exact h
  · unfold tRead M.bind mGet at h
    rw [if_neg (by omega)] at h
    cases h
 rw [tRead_eq ho] at h
 split at h
 · split at h
   · rename_i n' hn
     cases h
     exact openNd_may hn
   · cases h
 · cases h
theorem tRead_many {p : Int} {s s' : TS} {n : Nd} (h : tRead p s = .ok n s') : many n ≤ 12 := (may_many (tRead_may h)).1
theorem tMeet_two {f : Nat} {a b : Tall} {s s' : TS} {r : List Kd × Int} (h : tMeet tRead tWrite f a b s = .ok r s') : r.1.length ≤ 2 := tMeet_len (fun _ _ _ _ h => tRead_many h) f a b s r s' h
theorem ReadsN.left {A B : Assn} {v : Value} {n : Nd} (h : ReadsN A v n) : ReadsN (A * B) v n := by
 obtain ⟨vE, vK, e, h1, h2⟩ := h
 exact ⟨vE, vK, e, ReadsR.left h1, ReadsR.left h2⟩
theorem ReadsN.right {A B : Assn} {v : Value} {n : Nd} (h : ReadsN B v n) : ReadsN (A * B) v n := by
 obtain ⟨vE, vK, e, h1, h2⟩ := h
 exact ⟨vE, vK, e, ReadsR.right h1, ReadsR.right h2⟩
theorem takeP {A R R' : Assn} {w : World} [h : SatI A w] (X Y : Assn) [t : Take A X R] [t' : Take R Y R'] : Sat (X * Y * R') w := (h.out.take2 X Y).eq (sep_assoc _ _ _).symm
theorem pure_both {x y : Nd} (hx : may x = true) (hy : may y = true) (hl : x.leaf = y.leaf) : Pure (both x y) := by
 have h1 := (may_many hx).2
 have h2 := (may_many hy).2
 unfold Pure at h1 h2 ⊢
 rw [both_many]
 rw [← hl] at h2
 show _ = if x.leaf then _ else _
 unfold both
 cases hlf : x.leaf with
 | true => rw [hlf] at h1 h2; simp only [if_true] at h1 h2 ⊢; rw [List.length_append]; omega
 | false => rw [hlf] at h1 h2; simp only [Bool.false_eq_true, if_false] at h1 h2 ⊢; rw [List.length_append]; omega
def MeetR (r : List Kd × Int) (v : Value) (B : Assn) : Prop := ∃ vk, v = .tuple #[vk, .int .i64 r.2] ∧ ReadsK B vk r.1
def MeetC (f : Nat) : Prop := ∀ (h : Th) (s : TS) (a b : Tall) (F : Assn) (w : World), Sat (treeP h s * F) w → -1 ≤ a.height → a.height ≤ 1000 → -1 ≤ b.height → b.height ≤ 1000 → tMeet tRead tWrite f a b s ≠ .bad →
 Calls Tryz.prog 145 #[.pointer (some ⟨h.t, 0, none⟩), tallV a, tallV b] w (TEnds h F (tMeet tRead tWrite f a b s) MeetR)
set_option maxRecDepth 100000 in
set_option maxHeartbeats 3200000 in
theorem meet_same (f : Nat) (h : Th) (s : TS) (a b : Tall) (F : Assn) (w : World) (hs : Sat (treeP h s * F) w) (hab : a.height = b.height) (hb : tMeet tRead tWrite (f + 1) a b s ≠ .bad) :
 Calls Tryz.prog 145 #[.pointer (some ⟨h.t, 0, none⟩), tallV a, tallV b] w (TEnds h F (tMeet tRead tWrite (f + 1) a b s) MeetR) := by
 obtain ⟨⟨a1, a2, a3, a4⟩, ah⟩ := a
 obtain ⟨⟨b1, b2, b3, b4⟩, bh⟩ := b
 simp only at hab
 subst hab
 obtain ⟨R, hR⟩ : ∃ R, tMeet tRead tWrite (f + 1) ⟨⟨a1, a2, a3, a4⟩, ah⟩ ⟨⟨b1, b2, b3, b4⟩, ah⟩ s = R := ⟨_, rfl⟩
 rw [hR] at hb ⊢
 have HB : Aside (R ≠ .bad) := hb
 unfold tMeet at hR
 simp only [Int.lt_irrefl, if_false] at hR
 have HR : Aside (M.bind (tRead a1) (fun x => M.bind (tRead b1) fun y => if x.leaf = y.leaf then M.bind (tSpread tWrite (both x y)) fun out => M.pure (out, ah) else M.bad) s = R) := hR
 have c1 := fun F w q => tread_any h s a1 F w q (bind_nb HR.out HB.out)
 unfold tallV
 haveI := hs.i
 clear hb hR
 go_enter Tryz.func145, Tryz.ntmps145
 go_upto_region 10 with (fail)
 obtain ⟨N, hN⟩ : ∃ N, w.heap.size = N := ⟨_, rfl⟩
 have q0 : Sat (treeP h s * (Sl.block (N + 1) TTl [.int .i64 b1, .int .i64 b2, .int .i64 b3, .int .i64 b4, .int .i64 ah] * (Sl.block N TTl [.int .i64 a1, .int .i64 a2, .int .i64 a3, .int .i64 a4, .int .i64 ah] * F))) ((w.alloc (.cells #[.int .i64 a1, .int .i64 a2, .int .i64 a3, .int .i64 a4, .int .i64 ah] TTl)).alloc (.cells #[.int .i64 b1, .int .i64 b2, .int .i64 b3, .int .i64 b4, .int .i64 ah] TTl)) := by
  rw [← hN]
  exact satI_eq (by ac_rfl)
 rw [hN]
 generalize (w.alloc (.cells #[.int .i64 a1, .int .i64 a2, .int .i64 a3, .int .i64 a4, .int .i64 ah] TTl)).alloc (.cells #[.int .i64 b1, .int .i64 b2, .int .i64 b3, .int .i64 b4, .int .i64 ah] TTl) = w0 at q0 ⊢
 clear hN hs this
 haveI := q0.i
 go_region_law (first
  | (go_simp
     go_at_call 129
     with_reducible refine Calls.mono (c1 _ _ (takeI (treeP h s))) ?_
     rintro e w1 h1
     obtain ⟨r1, hm1⟩ : ∃ r, r = tRead a1 s := ⟨_, rfl⟩
     rw [← hm1] at h1
     rcases r1 with ⟨x, s1⟩ | ⟨er, s1⟩ | _
     rotate_left
     · obtain ⟨rfl, q1⟩ := h1
       haveI := q1.i
       have hRR := bind_up HR.out hm1.symm
       subst hRR
       exact ⟨rfl, rfl, keep2 _ _⟩
     · exact absurd (bind_bad HR.out hm1.symm) HB.out
     obtain ⟨v1, G1, rfl, ⟨hx, mx⟩, q1⟩ := h1
     haveI := q1.i
     have hg1 := bind_go HR.out hm1.symm
     have HR1 : Aside (M.bind (tRead b1) (fun y => if x.leaf = y.leaf then M.bind (tSpread tWrite (both x y)) fun out => M.pure (out, ah) else M.bad) s1 = R) := hg1
     have c2 := fun F w q => tread_any h s1 b1 F w q (bind_nb HR1.out HB.out)
     have HX : Aside (ReadsN G1 v1 x ∧ may x = true) := ⟨hx, mx⟩
     clear hx mx hm1 hg1)
  | (go_simp
     go_at_call 129
     with_reducible refine Calls.mono (c2 _ _ (takeI (treeP h s1))) ?_
     rintro e w2 h2
     obtain ⟨r2, hm2⟩ : ∃ r, r = tRead b1 s1 := ⟨_, rfl⟩
     rw [← hm2] at h2
     rcases r2 with ⟨y, s2⟩ | ⟨er, s2⟩ | _
     rotate_left
     · obtain ⟨rfl, q2⟩ := h2
       haveI := q2.i
       have hRR := bind_up HR1.out hm2.symm
       subst hRR
       exact ⟨rfl, rfl, keep2 _ _⟩
     · exact absurd (bind_bad HR1.out hm2.symm) HB.out
     obtain ⟨v2, G2, rfl, ⟨hy, my⟩, q2⟩ := h2
     haveI := q2.i
     have hg2 := bind_go HR1.out hm2.symm
     have hR2 : (if x.leaf = y.leaf then M.bind (tSpread tWrite (both x y)) fun out => M.pure (out, ah) else M.bad) s2 = R := hg2
     have hlf : x.leaf = y.leaf := Decidable.byContradiction fun hc => HB.out (by rw [← hR2, if_neg hc]; rfl)
     rw [if_pos hlf] at hR2
     have HR2 : Aside (M.bind (tSpread tWrite (both x y)) (fun out => M.pure (out, ah)) s2 = R) := hR2
     have HY : Aside (ReadsN G2 v2 y ∧ may y = true ∧ x.leaf = y.leaf) := ⟨hy, my, hlf⟩
     have c3 := fun F w q => both_any x y v1 v2 (G1 * G2) F w (ReadsN.left HX.out.1) (ReadsN.right hy) q (by have := may_len HX.out.2; omega) (by have := may_len my; omega) (by have := may_len HX.out.2; omega) (by have := may_len my; omega)
     clear hy my hm2 hR2 hlf hg2)
  | (go_simp
     go_at_call 169
     with_reducible refine Calls.mono (c3 _ _ (takeP G1 G2)) ?_
     rintro e w3 ⟨v3, G3, rfl, hv3, q3⟩
     haveI := q3.i
     have c4 := fun F w q => spread_any h s2 (both x y) v3 G3 F w hv3 q (pure_both HX.out.2 HY.out.2.1 HY.out.2.2) (by have := (may_many HX.out.2).1; have := (may_many HY.out.2.1).1; rw [both_many]; omega) (bind_nb HR2.out HB.out)
     clear hv3)
  | (go_simp
     go_at_call 137
     with_reducible refine Calls.mono (c4 _ _ (takeI2 (treeP h s2) G3)) ?_
     rintro e w4 h4
     obtain ⟨r4, hm4⟩ : ∃ r, r = tSpread tWrite (both x y) s2 := ⟨_, rfl⟩
     rw [← hm4] at h4
     rcases r4 with ⟨out, s4⟩ | ⟨er, s4⟩ | _
     rotate_left
     · obtain ⟨rfl, q4⟩ := h4
       haveI := q4.i
       have hRR := bind_up HR2.out hm4.symm
       subst hRR
       exact ⟨rfl, rfl, keep2 _ _⟩
     · exact absurd (bind_bad HR2.out hm4.symm) HB.out
     obtain ⟨v4, G4, rfl, hv4, q4⟩ := h4
     have hv5 : ReadsK G4 v4 out := hv4
     haveI := q4.i
     have hg4 := bind_go HR2.out hm4.symm
     have hR4 : R = .ok (out, ah) s4 := hg4.symm
     clear hv4 hm4 hg4))
 all_goals
  subst hR4
  go_wp2
  go_ret2
  exact ⟨_, G4, rfl, ⟨v4, rfl, hv5⟩, keep3 _ _ _⟩
end Go.Proofs.YtfhbmblbidcmmaaGreat
namespace Go.Proofs.YtfhbmblbidcmmaaGreat
set_option linter.unusedSimpArgs false
set_option linter.unusedVariables false
open Go.RowKit Go.Sl Go.Dk Go.Tr
attribute [local go_sem ↓] Go.wp_at_zero Go.wp_at_succ
attribute [local go_sem] Go.Sl.cell_sat Go.Sl.frozen_sat
theorem last_split {α : Type} {l : List α} {z : α} (h : l.getLast? = some z) : ∃ i, l = i ++ [z] := by
 refine ⟨l.dropLast, ?_⟩
 have hne : l ≠ [] := by rintro rfl; cases h
 rw [List.getLast?_eq_some_getLast hne] at h
 cases h
 exact (List.dropLast_concat_getLast hne).symm
theorem pure_cut {x : Nd} (hl : x.leaf = false) (i j : Nat) (ks : List Kd) : Pure (both (cutN x i j) ⟨false, [], ks⟩) := by
 unfold Pure both cutN many
 rw [hl]
 simp
theorem pure_cut' {x : Nd} (hl : x.leaf = false) (i j : Nat) (ks : List Kd) : Pure (both ⟨false, [], ks⟩ (cutN x i j)) := by
 unfold Pure both cutN many
 rw [hl]
 simp
theorem many_cut {x : Nd} (hl : x.leaf = false) (i j : Nat) : (cutN x i j).ents.length = 0 ∧ (cutN x i j).kids.length ≤ x.kids.length ∧ many (cutN x i j) ≤ x.kids.length := by
 unfold cutN many
 rw [hl]
 simp [sub]
 omega
set_option maxRecDepth 100000 in
set_option maxHeartbeats 6400000 in
theorem meet_gt (f : Nat) (IH : MeetC f) (h : Th) (s : TS) (a b : Tall) (F : Assn) (w : World) (hs : Sat (treeP h s * F) w) (hab : b.height < a.height) (hb1 : -1 ≤ b.height) (ha1 : a.height ≤ 1000) (hb : tMeet tRead tWrite (f + 1) a b s ≠ .bad) :
 Calls Tryz.prog 145 #[.pointer (some ⟨h.t, 0, none⟩), tallV a, tallV b] w (TEnds h F (tMeet tRead tWrite (f + 1) a b s) MeetR) := by
 obtain ⟨⟨a1, a2, a3, a4⟩, ah⟩ := a
 obtain ⟨⟨b1, b2, b3, b4⟩, bh⟩ := b
 simp only at hab hb1 ha1
 obtain ⟨R, hR⟩ : ∃ R, tMeet tRead tWrite (f + 1) ⟨⟨a1, a2, a3, a4⟩, ah⟩ ⟨⟨b1, b2, b3, b4⟩, bh⟩ s = R := ⟨_, rfl⟩
 rw [hR] at hb ⊢
 have HB : Aside (R ≠ .bad) := hb
 unfold tMeet at hR
 simp only [hab, if_true] at hR
 have hn1 := bind_nb hR hb
 have c1 := fun F w q => tread_any h s a1 F w q hn1
 have HR : Aside (∀ x s1, tRead a1 s = .ok x s1 → ∃ i z, x.kids = i ++ [z] ∧ x.leaf = false ∧ M.bind (tMeet tRead tWrite f ⟨z, ah - 1⟩ ⟨⟨b1, b2, b3, b4⟩, bh⟩) (fun r => M.bind (tSpread tWrite (both (cutN x 0 i.length) ⟨false, [], r.1⟩)) fun out => M.pure (out, ah)) s1 = R) := fun x s1 hm => by
  have hg := bind_go hR hm
  cases hz : x.kids.getLast? with
  | none => simp only [hz] at hg; exact absurd hg.symm hb
  | some z =>
    obtain ⟨i, hi⟩ := last_split hz
    simp only [hz] at hg
    by_cases hlf : x.leaf = true
    · rw [if_pos hlf] at hg; exact absurd hg.symm hb
    · rw [if_neg hlf] at hg
      refine ⟨i, z, hi, by simpa using hlf, ?_⟩
      have e : i.length = x.kids.length - 1 := by rw [hi]; simp
      rw [e]
      exact hg
 have HU : Aside ((∀ er s1, tRead a1 s = .fault er s1 → R = .fault er s1) ∧ tRead a1 s ≠ .bad) := ⟨fun er s1 hm => bind_up hR hm, hn1⟩
 unfold tallV
 haveI := hs.i
 clear hb hR hn1
 go_enter Tryz.func145, Tryz.ntmps145
 go_wp2_with fail
 with_reducible refine Calls.mono (c1 _ _ (takeI (treeP h s))) ?_
 rintro e w1 h1
 obtain ⟨r1, hm1⟩ : ∃ r, r = tRead a1 s := ⟨_, rfl⟩
 rw [← hm1] at h1
 rcases r1 with ⟨x, s1⟩ | ⟨er, s1⟩ | _
 rotate_left
 · obtain ⟨rfl, q1⟩ := h1
   haveI := q1.i
   have hRR := HU.out.1 _ _ hm1.symm
   subst hRR
   exact ⟨rfl, rfl, keep2 _ _⟩
 · exact absurd hm1.symm HU.out.2
 obtain ⟨v1, G1, rfl, ⟨hx, mx⟩, q1⟩ := h1
 obtain ⟨i, z, hk, hlf, hR2⟩ := HR.out _ _ hm1.symm
 obtain ⟨vE, vK, rfl, hE, hK⟩ := id hx
 obtain ⟨aE, cE, rfl, hE1, hE2⟩ := hE.v
 obtain ⟨aK, cK, rfl, hK1, hK2⟩ := hK.v
 obtain ⟨n, hn⟩ : ∃ n, i.length = n := ⟨_, rfl⟩
 have hkl : x.kids.length = n + 1 := by rw [hk]; simp [hn]
 have h12 := (may_len mx).2
 obtain ⟨kb, ko, rfl, k1, k2, k3, k4⟩ := readsK_at hK (i := n) (x := z) (by rw [hk, ← hn]; simp)
 rw [hn] at hR2
 rw [hlf, hkl] at hx ⊢
 have HX : Aside (ReadsN G1 (.agg #[.bool false, .slice aE x.ents.length cE, .slice (some ⟨kb, ko, none⟩) (n + 1) cK]) x ∧ x.leaf = false ∧ x.kids.length = n + 1) := ⟨hx, hlf, hkl⟩
 obtain ⟨ne, hne⟩ : ∃ ne, x.ents.length = ne := ⟨_, rfl⟩
 rw [hne] at HX hE1 ⊢
 obtain ⟨z1, z2, z3, z4⟩ := z
 have HR2 : Aside (M.bind (tMeet tRead tWrite f ⟨⟨z1, z2, z3, z4⟩, ah - 1⟩ ⟨⟨b1, b2, b3, b4⟩, bh⟩) (fun r => M.bind (tSpread tWrite (both (cutN x 0 n) ⟨false, [], r.1⟩)) fun out => M.pure (out, ah)) s1 = R) := hR2
 have c2 := fun F w q => IH h s1 ⟨⟨z1, z2, z3, z4⟩, ah - 1⟩ ⟨⟨b1, b2, b3, b4⟩, bh⟩ F w q (by simp only; omega) (by simp only; omega) hb1 (by simp only; omega) (bind_nb HR2.out HB.out)
 unfold tallV at c2
 simp only at c2 k1 k2 k3 k4
 have hcut := fun F w q => tcut_any x 0 n _ G1 F w HX.out.1 q (by omega) (by rw [HX.out.2.1, HX.out.2.2]; simp)
 have HCUT : Aside (∀ F w, Sat (G1 * F) w → Calls Tryz.prog 166 #[.agg #[.bool false, .slice aE ne cE, .slice (some ⟨kb, ko, none⟩) (n + 1) cK], .int .i64 0, .int .i64 n] w fun e w' => ∃ v', e = .returned v' ∧ ReadsN G1 v' (cutN x 0 n) ∧ Sat (G1 * F) w') := hcut
 have HM : Aside (n ≤ 11) := (by omega : n ≤ 11)
 have hm11 : (n : Int) ≤ 11 := by omega
 have hix : (n : Int) < (n : Int) + 1 := by omega
 have hwr : IntKind.i64.wrap (ah - 1) = ah - 1 := IntWalk.i64_in _ (by omega)
 haveI := q1.i
 clear hx hE hK hk hn hkl hR2 hcut hne hlf mx hm1 HR HU c1
 go_upto_region 4 with (fail)
 go_cut [10, 11] (fun t10 t11 wx => ∃ (rk : List Kd) (rh : Int) (s2 : TS) (G2 : Assn) (a5 : Option Addr) (c5 : Nat), t10 = .slice a5 rk.length c5 ∧ t11 = .int .i64 rh ∧ Aside (M.bind (tSpread tWrite (both (cutN x 0 n) ⟨false, [], rk⟩)) (fun out => M.pure (out, ah)) s2 = R) ∧ Aside (ReadsK G2 (.slice a5 rk.length c5) rk ∧ rk.length ≤ 2) ∧
  Sat (treeP h s2 * (G2 * (G1 * (Sl.block w1.heap.size TNd [.bool false, .slice aE ne cE, .slice (some ⟨kb, ko, none⟩) (n + 1) cK] * (Sl.block w.heap.size TTl [.int .i64 a1, .int .i64 a2, .int .i64 a3, .int .i64 a4, .int .i64 ah] * F))))) wx)
 case first =>
  go_region_law (first
   | (go_simp
      go_at_call 145
      with_reducible refine Calls.mono (c2 _ _ (takeI (treeP h s1))) ?_
      rintro e w2 h2
      obtain ⟨r2, hm2⟩ : ∃ r, r = tMeet tRead tWrite f ⟨⟨z1, z2, z3, z4⟩, ah - 1⟩ ⟨⟨b1, b2, b3, b4⟩, bh⟩ s1 := ⟨_, rfl⟩
      rw [← hm2] at h2
      rcases r2 with ⟨rr, s2⟩ | ⟨er, s2⟩ | _
      rotate_left
      · obtain ⟨rfl, q2⟩ := h2
        haveI := q2.i
        have hRR := bind_up HR2.out hm2.symm
        subst hRR
        exact ⟨rfl, rfl, keep2 _ _⟩
      · exact absurd (bind_bad HR2.out hm2.symm) HB.out
      obtain ⟨v2, G2, rfl, ⟨vk, rfl, hk2⟩, q2⟩ := h2
      have hg2 := bind_go HR2.out hm2.symm
      have hl2 := tMeet_two hm2.symm
      obtain ⟨rk, rh⟩ := rr
      simp only at hk2 hl2
      have HR3 : Aside (M.bind (tSpread tWrite (both (cutN x 0 n) ⟨false, [], rk⟩)) (fun out => M.pure (out, ah)) s2 = R) := hg2
      obtain ⟨a5, c5, rfl, hc5, _⟩ := ReadsR.v hk2
      haveI := q2.i
      have HK2 : Aside (ReadsK G2 (.slice a5 rk.length c5) rk ∧ rk.length ≤ 2) := ⟨hk2, hl2⟩
      clear hk2 hg2 hm2 hl2))
  all_goals
   go_wp2
   go_meet
   exact ⟨rk, rh, s2, G2, a5, c5, rfl, rfl, HR3, HK2, keep6 _ _ _ _ _ _⟩
 case rest =>
  obtain ⟨rk, rh, s2, G2, a5, c5, rfl, rfl, HR3, HK2, q9⟩ := hcut
  haveI := q9.i
  have HMb : Aside (many (both (cutN x 0 n) ⟨false, [], rk⟩) ≤ 65536) := by
   have h1 := (many_cut HX.out.2.1 0 n).2.2
   have h2 := HX.out.2.2
   have h3 := HM.out
   have h4 := HK2.out.2
   have h5 : many (⟨false, [], rk⟩ : Nd) = rk.length := by simp [many]
   show many _ ≤ _
   rw [both_many, h5]
   omega
  clear q1 k1 k2 k3 k4 c2 HR2
  go_upto_region 5 with (fail)
  go_region_law (first
   | (go_simp
      go_at_call 166
      with_reducible refine Calls.mono (HCUT.out _ _ (takeI G1)) ?_
      rintro e w3 ⟨v3, rfl, hv3, q3⟩
      haveI := q3.i
      have c4 := fun F w q => both_any (cutN x 0 n) ⟨false, [], rk⟩ v3 (.agg #[.bool false, .slice none 0 0, .slice a5 rk.length c5]) (G1 * G2) F w (ReadsN.left hv3) (ReadsN.right (readsN_kids HK2.out.1)) q (by have := many_cut HX.out.2.1 0 n; omega) (by simp) (by have := many_cut HX.out.2.1 0 n; have := HX.out.2.2; have := HM.out; omega) (by show rk.length ≤ 65536; have := HK2.out.2; omega)
      clear hv3)
   | (go_simp
      go_at_call 169
      with_reducible refine Calls.mono (c4 _ _ (takeP G1 G2)) ?_
      rintro e w4 ⟨v4, G4, rfl, hv4, q4⟩
      haveI := q4.i
      have c5' := fun F w q => spread_any h s2 (both (cutN x 0 n) ⟨false, [], rk⟩) v4 G4 F w hv4 q (pure_cut HX.out.2.1 0 n rk) HMb.out (bind_nb HR3.out HB.out)
      clear hv4)
   | (go_simp
      go_at_call 137
      with_reducible refine Calls.mono (c5' _ _ (takeI2 (treeP h s2) G4)) ?_
      rintro e w5 h5
      obtain ⟨r5, hm5⟩ : ∃ r, r = tSpread tWrite (both (cutN x 0 n) ⟨false, [], rk⟩) s2 := ⟨_, rfl⟩
      rw [← hm5] at h5
      rcases r5 with ⟨out, s5⟩ | ⟨er, s5⟩ | _
      rotate_left
      · obtain ⟨rfl, q5⟩ := h5
        haveI := q5.i
        have hRR := bind_up HR3.out hm5.symm
        subst hRR
        exact ⟨rfl, rfl, keep2 _ _⟩
      · exact absurd (bind_bad HR3.out hm5.symm) HB.out
      obtain ⟨v5, G5, rfl, hv5, q5⟩ := h5
      have hv6 : ReadsK G5 v5 out := hv5
      haveI := q5.i
      have hg5 := bind_go HR3.out hm5.symm
      have hR4 : R = .ok (out, ah) s5 := hg5.symm
      clear hv5 hm5 hg5))
  all_goals
   subst hR4
   go_wp2
   go_ret2
   exact ⟨_, G5, rfl, ⟨v5, rfl, hv6⟩, keep3 _ _ _⟩
end Go.Proofs.YtfhbmblbidcmmaaGreat
namespace Go.Proofs.YtfhbmblbidcmmaaGreat
set_option linter.unusedSimpArgs false
set_option linter.unusedVariables false
open Go.RowKit Go.Sl Go.Dk Go.Tr
attribute [local go_sem ↓] Go.wp_at_zero Go.wp_at_succ
attribute [local go_sem] Go.Sl.cell_sat Go.Sl.frozen_sat
set_option maxRecDepth 100000 in
set_option maxHeartbeats 6400000 in
theorem meet_lt (f : Nat) (IH : MeetC f) (h : Th) (s : TS) (a b : Tall) (F : Assn) (w : World) (hs : Sat (treeP h s * F) w) (hab : a.height < b.height) (hb1 : -1 ≤ a.height) (ha1 : b.height ≤ 1000) (hb : tMeet tRead tWrite (f + 1) a b s ≠ .bad) :
 Calls Tryz.prog 145 #[.pointer (some ⟨h.t, 0, none⟩), tallV a, tallV b] w (TEnds h F (tMeet tRead tWrite (f + 1) a b s) MeetR) := by
 obtain ⟨⟨a1, a2, a3, a4⟩, ah⟩ := a
 obtain ⟨⟨b1, b2, b3, b4⟩, bh⟩ := b
 simp only at hab hb1 ha1
 obtain ⟨R, hR⟩ : ∃ R, tMeet tRead tWrite (f + 1) ⟨⟨a1, a2, a3, a4⟩, ah⟩ ⟨⟨b1, b2, b3, b4⟩, bh⟩ s = R := ⟨_, rfl⟩
 rw [hR] at hb ⊢
 have HB : Aside (R ≠ .bad) := hb
 unfold tMeet at hR
 have hab' : ¬ bh < ah := by omega
 simp only [hab, hab', if_true, if_false] at hR
 have hn1 := bind_nb hR hb
 have c1 := fun F w q => tread_any h s b1 F w q hn1
 have HR : Aside (∀ x s1, tRead b1 s = .ok x s1 → ∃ i z, x.kids = z :: i ∧ x.leaf = false ∧ M.bind (tMeet tRead tWrite f ⟨⟨a1, a2, a3, a4⟩, ah⟩ ⟨z, bh - 1⟩) (fun r => M.bind (tSpread tWrite (both ⟨false, [], r.1⟩ (cutN x 1 x.kids.length))) fun out => M.pure (out, bh)) s1 = R) := fun x s1 hm => by
  have hg := bind_go hR hm
  cases hz : x.kids with
  | nil => simp only [hz] at hg; exact absurd hg.symm hb
  | cons z i =>
    simp only [hz] at hg
    by_cases hlf : x.leaf = true
    · rw [if_pos hlf] at hg; exact absurd hg.symm hb
    · rw [if_neg hlf] at hg
      exact ⟨i, z, rfl, by simpa using hlf, hg⟩
 have HU : Aside ((∀ er s1, tRead b1 s = .fault er s1 → R = .fault er s1) ∧ tRead b1 s ≠ .bad) := ⟨fun er s1 hm => bind_up hR hm, hn1⟩
 unfold tallV
 haveI := hs.i
 clear hb hR hn1
 go_enter Tryz.func145, Tryz.ntmps145
 go_wp2_with fail
 with_reducible refine Calls.mono (c1 _ _ (takeI (treeP h s))) ?_
 rintro e w1 h1
 obtain ⟨r1, hm1⟩ : ∃ r, r = tRead b1 s := ⟨_, rfl⟩
 rw [← hm1] at h1
 rcases r1 with ⟨x, s1⟩ | ⟨er, s1⟩ | _
 rotate_left
 · obtain ⟨rfl, q1⟩ := h1
   haveI := q1.i
   have hRR := HU.out.1 _ _ hm1.symm
   subst hRR
   exact ⟨rfl, rfl, keep2 _ _⟩
 · exact absurd hm1.symm HU.out.2
 obtain ⟨v1, G1, rfl, ⟨hx, mx⟩, q1⟩ := h1
 obtain ⟨i, z, hk, hlf, hR2⟩ := HR.out _ _ hm1.symm
 obtain ⟨vE, vK, rfl, hE, hK⟩ := id hx
 obtain ⟨aE, cE, rfl, hE1, hE2⟩ := hE.v
 obtain ⟨aK, cK, rfl, hK1, hK2⟩ := hK.v
 obtain ⟨n, hn⟩ : ∃ n, i.length = n := ⟨_, rfl⟩
 have hkl : x.kids.length = n + 1 := by rw [hk]; simp [hn]
 have h12 := (may_len mx).2
 obtain ⟨kb, ko, rfl, k1, k2, k3, k4⟩ := readsK_at hK (i := 0) (x := z) (by rw [hk]; rfl)
 rw [hkl] at hR2
 rw [hlf, hkl] at hx ⊢
 have HX : Aside (ReadsN G1 (.agg #[.bool false, .slice aE x.ents.length cE, .slice (some ⟨kb, ko, none⟩) (n + 1) cK]) x ∧ x.leaf = false ∧ x.kids.length = n + 1) := ⟨hx, hlf, hkl⟩
 obtain ⟨ne, hne⟩ : ∃ ne, x.ents.length = ne := ⟨_, rfl⟩
 rw [hne] at HX hE1 ⊢
 obtain ⟨z1, z2, z3, z4⟩ := z
 have HR2 : Aside (M.bind (tMeet tRead tWrite f ⟨⟨a1, a2, a3, a4⟩, ah⟩ ⟨⟨z1, z2, z3, z4⟩, bh - 1⟩) (fun r => M.bind (tSpread tWrite (both ⟨false, [], r.1⟩ (cutN x 1 (n + 1)))) fun out => M.pure (out, bh)) s1 = R) := hR2
 have c2 := fun F w q => IH h s1 ⟨⟨a1, a2, a3, a4⟩, ah⟩ ⟨⟨z1, z2, z3, z4⟩, bh - 1⟩ F w q hb1 (by simp only; omega) (by simp only; omega) (by simp only; omega) (bind_nb HR2.out HB.out)
 unfold tallV at c2
 simp only at c2 k1 k2 k3 k4
 have hcut := fun F w q => tcut_any x 1 (n + 1) _ G1 F w HX.out.1 q (by omega) (by rw [HX.out.2.1, HX.out.2.2]; simp)
 have HCUT : Aside (∀ F w, Sat (G1 * F) w → Calls Tryz.prog 166 #[.agg #[.bool false, .slice aE ne cE, .slice (some ⟨kb, ko, none⟩) (n + 1) cK], .int .i64 1, .int .i64 ((n : Int) + 1)] w fun e w' => ∃ v', e = .returned v' ∧ ReadsN G1 v' (cutN x 1 (n + 1)) ∧ Sat (G1 * F) w') := by rw [Int.natCast_add] at hcut; exact hcut
 have HM : Aside (n ≤ 11) := (by omega : n ≤ 11)
 have hm11 : (n : Int) ≤ 11 := by omega
 have hix : (n : Int) < (n : Int) + 1 := by omega
 have hwr : IntKind.i64.wrap (bh - 1) = bh - 1 := IntWalk.i64_in _ (by omega)
 haveI := q1.i
 clear hx hE hK hk hn hkl hR2 hcut hne hlf mx hm1 HR HU c1
 go_upto_region 8 with (fail)
 go_cut [13, 14] (fun t10 t11 wx => ∃ (rk : List Kd) (rh : Int) (s2 : TS) (G2 : Assn) (a5 : Option Addr) (c5 : Nat), t10 = .slice a5 rk.length c5 ∧ t11 = .int .i64 rh ∧ Aside (M.bind (tSpread tWrite (both ⟨false, [], rk⟩ (cutN x 1 (n + 1)))) (fun out => M.pure (out, bh)) s2 = R) ∧ Aside (ReadsK G2 (.slice a5 rk.length c5) rk ∧ rk.length ≤ 2) ∧
  Sat (treeP h s2 * (G2 * (G1 * (Sl.block w1.heap.size TNd [.bool false, .slice aE ne cE, .slice (some ⟨kb, ko, none⟩) (n + 1) cK] * (Sl.block (w.heap.size + 1) TTl [.int .i64 b1, .int .i64 b2, .int .i64 b3, .int .i64 b4, .int .i64 bh] * F))))) wx)
 case first =>
  go_region_law (first
   | (go_simp
      go_at_call 145
      with_reducible refine Calls.mono (c2 _ _ (takeI (treeP h s1))) ?_
      rintro e w2 h2
      obtain ⟨r2, hm2⟩ : ∃ r, r = tMeet tRead tWrite f ⟨⟨a1, a2, a3, a4⟩, ah⟩ ⟨⟨z1, z2, z3, z4⟩, bh - 1⟩ s1 := ⟨_, rfl⟩
      rw [← hm2] at h2
      rcases r2 with ⟨rr, s2⟩ | ⟨er, s2⟩ | _
      rotate_left
      · obtain ⟨rfl, q2⟩ := h2
        haveI := q2.i
        have hRR := bind_up HR2.out hm2.symm
        subst hRR
        exact ⟨rfl, rfl, keep2 _ _⟩
      · exact absurd (bind_bad HR2.out hm2.symm) HB.out
      obtain ⟨v2, G2, rfl, ⟨vk, rfl, hk2⟩, q2⟩ := h2
      have hg2 := bind_go HR2.out hm2.symm
      have hl2 := tMeet_two hm2.symm
      obtain ⟨rk, rh⟩ := rr
      simp only at hk2 hl2
      have HR3 : Aside (M.bind (tSpread tWrite (both ⟨false, [], rk⟩ (cutN x 1 (n + 1)))) (fun out => M.pure (out, bh)) s2 = R) := hg2
      obtain ⟨a5, c5, rfl, hc5, _⟩ := ReadsR.v hk2
      haveI := q2.i
      have HK2 : Aside (ReadsK G2 (.slice a5 rk.length c5) rk ∧ rk.length ≤ 2) := ⟨hk2, hl2⟩
      clear hk2 hg2 hm2 hl2))
  all_goals
   go_wp2
   go_meet
   exact ⟨rk, rh, s2, G2, a5, c5, rfl, rfl, HR3, HK2, keep6 _ _ _ _ _ _⟩
 case rest =>
  obtain ⟨rk, rh, s2, G2, a5, c5, rfl, rfl, HR3, HK2, q9⟩ := hcut
  haveI := q9.i
  have HMb : Aside (many (both ⟨false, [], rk⟩ (cutN x 1 (n + 1))) ≤ 65536) := by
   have h1 := (many_cut HX.out.2.1 1 (n + 1)).2.2
   have h2 := HX.out.2.2
   have h3 := HM.out
   have h4 := HK2.out.2
   have h5 : many (⟨false, [], rk⟩ : Nd) = rk.length := by simp [many]
   show many _ ≤ _
   rw [both_many, h5]
   omega
  clear q1 k1 k2 k3 k4 c2 HR2
  go_upto_region 9 with (fail)
  go_region_law (first
   | (go_simp
      go_at_call 166
      with_reducible refine Calls.mono (HCUT.out _ _ (takeI G1)) ?_
      rintro e w3 ⟨v3, rfl, hv3, q3⟩
      haveI := q3.i
      have c4 := fun F w q => both_any ⟨false, [], rk⟩ (cutN x 1 (n + 1)) (.agg #[.bool false, .slice none 0 0, .slice a5 rk.length c5]) v3 (G1 * G2) F w (ReadsN.right (readsN_kids HK2.out.1)) (ReadsN.left hv3) q (by simp) (by have := many_cut HX.out.2.1 1 (n + 1); omega) (by show rk.length ≤ 65536; have := HK2.out.2; omega) (by have := many_cut HX.out.2.1 1 (n + 1); have := HX.out.2.2; have := HM.out; omega)
      clear hv3)
   | (go_simp
      go_at_call 169
      with_reducible refine Calls.mono (c4 _ _ (takeP G1 G2)) ?_
      rintro e w4 ⟨v4, G4, rfl, hv4, q4⟩
      haveI := q4.i
      have c5' := fun F w q => spread_any h s2 (both ⟨false, [], rk⟩ (cutN x 1 (n + 1))) v4 G4 F w hv4 q (pure_cut' HX.out.2.1 1 (n + 1) rk) HMb.out (bind_nb HR3.out HB.out)
      clear hv4)
   | (go_simp
      go_at_call 137
      with_reducible refine Calls.mono (c5' _ _ (takeI2 (treeP h s2) G4)) ?_
      rintro e w5 h5
      obtain ⟨r5, hm5⟩ : ∃ r, r = tSpread tWrite (both ⟨false, [], rk⟩ (cutN x 1 (n + 1))) s2 := ⟨_, rfl⟩
      rw [← hm5] at h5
      rcases r5 with ⟨out, s5⟩ | ⟨er, s5⟩ | _
      rotate_left
      · obtain ⟨rfl, q5⟩ := h5
        haveI := q5.i
        have hRR := bind_up HR3.out hm5.symm
        subst hRR
        exact ⟨rfl, rfl, keep2 _ _⟩
      · exact absurd (bind_bad HR3.out hm5.symm) HB.out
      obtain ⟨v5, G5, rfl, hv5, q5⟩ := h5
      have hv6 : ReadsK G5 v5 out := hv5
      haveI := q5.i
      have hg5 := bind_go HR3.out hm5.symm
      have hR4 : R = .ok (out, bh) s5 := hg5.symm
      clear hv5 hm5 hg5))
  all_goals
   subst hR4
   go_wp2
   go_ret2
   exact ⟨_, G5, rfl, ⟨v5, rfl, hv6⟩, keep3 _ _ _⟩
theorem meet_any : ∀ f : Nat, MeetC f
 | 0 => fun h s a b F w hs _ _ _ _ hb => absurd rfl hb
 | f + 1 => fun h s a b F w hs h1 h2 h3 h4 hb => by
   rcases Int.lt_trichotomy a.height b.height with hc | hc | hc
   · exact meet_lt f (meet_any f) h s a b F w hs hc h1 h4 hb
   · exact meet_same f h s a b F w hs hc hb
   · exact meet_gt f (meet_any f) h s a b F w hs hc h3 h2 hb
end Go.Proofs.YtfhbmblbidcmmaaGreat
namespace Go.Proofs.YtfhbmblbidcmmaaGreat
set_option linter.unusedSimpArgs false
set_option linter.unusedVariables false
open Go.RowKit Go.Sl Go.Dk Go.Tr
attribute [local go_sem ↓] Go.wp_at_zero Go.wp_at_succ
attribute [local go_sem] Go.Sl.cell_sat Go.Sl.frozen_sat
theorem tMeet_height {σ : Type} {rd : Int → M σ Nd} {wt : Nd → M σ Kd} : ∀ (f : Nat) (a b : Tall) (s : σ) (r : List Kd × Int) (s' : σ), tMeet rd wt f a b s = .ok r s' → r.2 = a.height ∨ r.2 = b.height
 | 0, a, b, s, r, s', h => by cases h
 | f + 1, a, b, s, r, s', h => by
   unfold tMeet at h
   split at h
   · obtain ⟨x, s1, h1, h⟩ := bind_out h
     cases hz : x.kids.getLast? with
     | none => simp only [hz] at h; cases h
     | some z =>
       simp only [hz] at h
       by_cases hlf : x.leaf = true
       · rw [if_pos hlf] at h; cases h
       · rw [if_neg hlf] at h
         obtain ⟨q, s2, h2, h⟩ := bind_out h
         obtain ⟨o, s3, h3, h⟩ := bind_out h
         cases h
         exact .inl rfl
   · split at h
     · obtain ⟨x, s1, h1, h⟩ := bind_out h
       cases hz : x.kids with
       | nil => simp only [hz] at h; cases h
       | cons z zs =>
         simp only [hz] at h
         by_cases hlf : x.leaf = true
         · rw [if_pos hlf] at h; cases h
         · rw [if_neg hlf] at h
           obtain ⟨q, s2, h2, h⟩ := bind_out h
           obtain ⟨o, s3, h3, h⟩ := bind_out h
           cases h
           exact .inr rfl
     · obtain ⟨x, s1, h1, h⟩ := bind_out h
       obtain ⟨y, s2, h2, h⟩ := bind_out h
       by_cases hlf : x.leaf = y.leaf
       · rw [if_pos hlf] at h
         obtain ⟨o, s3, h3, h⟩ := bind_out h
         cases h
         exact .inl rfl
       · rw [if_neg hlf] at h
         cases h
set_option maxRecDepth 100000 in
set_option maxHeartbeats 1600000 in
theorem put_tany (h : Th) (s : TS) (a b : Tall) (F : Assn) (w : World) (hs : Sat (treeP h s * F) w) (ha : -1000 ≤ a.height) (ha2 : a.height ≤ 1000) (hb : -1000 ≤ b.height) (hb2 : b.height ≤ 1000) (hnb : tPut tRead tWrite a b s ≠ .bad) :
 Calls Tryz.prog 99 #[.pointer (some ⟨h.t, 0, none⟩), tallV a, tallV b] w (TEnds h F (tPut tRead tWrite a b s) TallR) := by
 obtain ⟨R, hR⟩ : ∃ R, tPut tRead tWrite a b s = R := ⟨_, rfl⟩
 rw [hR] at hnb ⊢
 have HB : Aside (R ≠ .bad) := hnb
 have hme := fun (p1 : -1 ≤ a.height) (p2 : -1 ≤ b.height) F w q n => meet_any (deepOf a b) h s a b F w q p1 ha2 p2 hb2 n
 unfold tPut at hR
 have HA : Aside (deepOf a b = deepOf a b) := rfl
 obtain ⟨d, hd⟩ : ∃ d, deepOf a b = d := ⟨_, rfl⟩
 rw [hd] at hme hR
 have HH : Aside (∀ r s', tMeet tRead tWrite d a b s = .ok r s' → r.1.length ≤ 65536 ∧ -1000 ≤ r.2 ∧ r.2 ≤ 1000) := fun r s' h => by
  have h1 := tMeet_two h
  rcases tMeet_height d a b s r s' h with h2 | h2 <;> exact ⟨by omega, by omega, by omega⟩
 obtain ⟨m, hm⟩ : ∃ m, tMeet tRead tWrite d a b s = m := ⟨_, rfl⟩
 obtain ⟨⟨a1, a2, a3, a4⟩, ah⟩ := a
 obtain ⟨⟨b1, b2, b3, b4⟩, bh⟩ := b
 simp only at hR ha ha2 hb hb2
 unfold tallV at hme ⊢
 simp only at hme
 haveI := hs.i
 clear hnb hd HA
 by_cases h1 : ah < 0
 · rw [if_pos h1] at hR
   have hRR : R = .ok ⟨⟨b1, b2, b3, b4⟩, bh⟩ s := hR.symm
   subst hRR
   clear hR hme HH HB hm
   go_enter Tryz.func99, Tryz.ntmps99
   go_wp2
   go_returns
   exact ⟨_, 1, rfl, ⟨rfl, rfl⟩, by rw [one_sep]; exact keep2 _ _⟩
 · rw [if_neg h1] at hR
   by_cases h2 : bh < 0
   · rw [if_pos h2] at hR
     have hRR : R = .ok ⟨⟨a1, a2, a3, a4⟩, ah⟩ s := hR.symm
     subst hRR
     clear hR hme HH HB hm
     go_enter Tryz.func99, Tryz.ntmps99
     go_wp2
     go_returns
     exact ⟨_, 1, rfl, ⟨rfl, rfl⟩, by rw [one_sep]; exact keep2 _ _⟩
   · rw [if_neg h2] at hR
     have HR : Aside (M.bind (tMeet tRead tWrite d ⟨⟨a1, a2, a3, a4⟩, ah⟩ ⟨⟨b1, b2, b3, b4⟩, bh⟩) (fun r => grown tWrite r.1 r.2) s = R) := hR
     have hn := bind_nb HR.out HB.out
     replace hme := hme (by omega) (by omega)
     rw [hm] at hme hn
     have HM : Aside (tMeet tRead tWrite d ⟨⟨a1, a2, a3, a4⟩, ah⟩ ⟨⟨b1, b2, b3, b4⟩, bh⟩ s = m) := hm
     clear hR hm
     go_enter Tryz.func99, Tryz.ntmps99
     go_wp2_with fail
     with_reducible refine Calls.mono (hme _ _ (takeI (treeP h s)) hn) ?_
     rintro e w2 h2
     cases m with
     | bad => exact absurd rfl hn
     | fault er s2 =>
       obtain ⟨rfl, q2⟩ := h2
       haveI := q2.i
       have hRR := bind_up HR.out HM.out
       subst hRR
       exact ⟨rfl, rfl, keep2 _ _⟩
     | ok r s2 =>
       obtain ⟨v2, G2, rfl, ⟨vk, rfl, hk⟩, q2⟩ := h2
       obtain ⟨r1, rh⟩ := r
       simp only at hk
       obtain ⟨a5, c5, rfl, _, _⟩ := ReadsR.v hk
       have hg0 := bind_go HR.out HM.out
       have hgo : grown tWrite r1 rh s2 = R := hg0
       obtain ⟨g1, g2, g3⟩ := HH.out _ _ HM.out
       have hg := fun v B F w q1 q2 => grown_any h s2 r1 rh v B F w q1 q2 g1 (by simp only at g2; omega) (by simp only at g3; omega) (by rw [hgo]; exact HB.out)
       rw [hgo] at hg
       have HK : Aside (ReadsK G2 (.slice a5 r1.length c5) r1) := hk
       haveI := q2.i
       clear hme hk hgo hg0 g1 g2 g3 HR HM HH hn
       go_wp2_with fail
       with_reducible refine Calls.mono (hg _ G2 _ _ HK.out (takeI2 (treeP h s2) G2)) ?_
       rintro e w3 h3
       cases R with
       | bad => exact absurd rfl HB.out
       | fault er s3 =>
         obtain ⟨rfl, q3⟩ := h3
         haveI := q3.i
         exact ⟨rfl, rfl, keep2 _ _⟩
       | ok x s3 =>
         obtain ⟨v3, G3, rfl, ⟨rfl, rfl⟩, q3⟩ := h3
         rw [one_sep] at q3
         haveI := q3.i
         unfold tallV
         go_wp2
         go_returns
         exact ⟨_, 1, rfl, ⟨rfl, rfl⟩, by rw [one_sep]; exact keep2 _ _⟩
end Go.Proofs.YtfhbmblbidcmmaaGreat
namespace Go.Proofs.YtfhbmblbidcmmaaGreat
set_option linter.unusedSimpArgs false
set_option linter.unusedVariables false
open Go.RowKit Go.Sl Go.Dk Go.Tr
section
variable {σ : Type} {rd : Int → M σ Nd} {wt : Nd → M σ Kd}
theorem tGrown_height : ∀ (f : Nat) (ks : List Kd) (h : Int) (s : σ) (t : Tall) (s' : σ), tGrown wt f ks h s = .ok t s' → t.height = -1 ∨ (h ≤ t.height ∧ t.height ≤ h + f)
 | f, [], h, s, t, s', e => by
   have : t = noTall := by cases f <;> (cases e; rfl)
   subst this
   exact .inl rfl
 | f, [k], h, s, t, s', e => by
   have : t = ⟨k, h⟩ := by cases f <;> (cases e; rfl)
   subst this
   exact .inr ⟨by simp only; omega, by simp only; omega⟩
 | 0, a :: b :: l, h, s, t, s', e => by cases e
 | f + 1, a :: b :: l, h, s, t, s', e => by
   have e' : M.bind (tSpread wt ⟨false, [], a :: b :: l⟩) (fun ks => tGrown wt f ks (h + 1)) s = .ok t s' := e
   obtain ⟨ks, s1, h1, h2⟩ := bind_out e'
   rcases tGrown_height f ks (h + 1) s1 t s' h2 with h3 | ⟨h3, h4⟩
   · exact .inl h3
   · exact .inr ⟨by omega, by omega⟩
theorem grown_height {ks : List Kd} {h : Int} {s : σ} {t : Tall} {s' : σ} (e : grown wt ks h s = .ok t s') : t.height = -1 ∨ (h ≤ t.height ∧ t.height ≤ h + ks.length) := tGrown_height ks.length ks h s t s' e
theorem tOver_height {ks : List Kd} {h : Int} {s : σ} {t : Tall} {s' : σ} (e : tOver wt ks h s = .ok t s') : t.height = -1 ∨ (h - 1 ≤ t.height ∧ t.height ≤ h - 1 + ks.length) := grown_height e
theorem tLeaves_height {l : List Ent} {s : σ} {t : Tall} {s' : σ} (e : tLeaves wt l s = .ok t s') : t.height = -1 ∨ (0 ≤ t.height ∧ t.height ≤ (l.length + 11) / 12) := by
 unfold tLeaves at e
 obtain ⟨ks, s1, h1, h2⟩ := bind_out e
 have h3 := tSpread_len h1
 rcases grown_height h2 with h4 | ⟨h4, h5⟩
 · exact .inl h4
 · refine .inr ⟨h4, ?_⟩
   have : many (⟨true, l, []⟩ : Nd) = l.length := by simp [many]
   omega
theorem tPut_height (hrd : ∀ p s n s', rd p s = .ok n s' → many n ≤ 12) {a b : Tall} {s : σ} {t : Tall} {s' : σ} (e : tPut rd wt a b s = .ok t s') (L U : Int) (hL : L ≤ -1) (hU : -1 ≤ U) (a1 : L ≤ a.height) (a2 : a.height ≤ U) (b1 : L ≤ b.height) (b2 : b.height ≤ U) :
 L ≤ t.height ∧ t.height ≤ U + 2 := by
 unfold tPut at e
 split at e
 · cases e; omega
 · split at e
   · cases e; omega
   · obtain ⟨r, s1, h1, h2⟩ := bind_out e
     have h3 := tMeet_height _ _ _ _ _ _ h1
     have h4 := tMeet_len hrd _ _ _ _ _ _ h1
     rcases grown_height h2 with h5 | ⟨h5, h6⟩
     · omega
     · omega
theorem tParted_height (hrd : ∀ p s n s', rd p s = .ok n s' → may n = true) : ∀ (f : Nat) (x : Tall) (n : Int) (s : σ) (p : Tall × Tall) (s' : σ), tParted rd wt f x n s = .ok p s' → ∀ (L U : Int), L ≤ -1 → 0 ≤ U → L ≤ x.height - f → x.height ≤ U →
 (L ≤ p.1.height ∧ p.1.height ≤ U + 14 * (f + 1)) ∧ (L ≤ p.2.height ∧ p.2.height ≤ U + 14 * (f + 1))
 | f, x, n, s, p, s', e, L, U, hL, hU, h1, h2 => by
   have hno : noTall.height = -1 := rfl
   have hrd' : ∀ p s n s', rd p s = .ok n s' → many n ≤ 12 := fun p s n s' h => (may_many (hrd p s n s' h)).1
   unfold tParted at e
   by_cases c1 : n ≤ 0
   · rw [if_pos c1] at e
     cases e
     simp only [hno]
     omega
   rw [if_neg c1] at e
   by_cases c2 : x.kid.bytes ≤ n
   · rw [if_pos c2] at e
     cases e
     simp only [hno]
     omega
   rw [if_neg c2] at e
   cases f with
   | zero => cases e
   | succ f =>
     simp only at e
     obtain ⟨y, s1, e1, e⟩ := bind_out e
     have hy := may_len (hrd _ _ _ _ e1)
     by_cases hl : y.leaf = true
     · rw [if_pos hl] at e
       cases hp : passE y.ents n 0 with
       | none => rw [hp] at e; cases e
       | some k =>
         rw [hp] at e
         simp only at e
         obtain ⟨a, s2, e2, e⟩ := bind_out e
         obtain ⟨b, s3, e3, e⟩ := bind_out e
         cases e
         have ha := tLeaves_height e2
         have hb := tLeaves_height e3
         rw [List.length_take] at ha
         rw [List.length_drop] at hb
         simp only
         omega
     · rw [if_neg hl] at e
       cases hp : passK y.kids n 0 with
       | none => rw [hp] at e; cases e
       | some kr =>
         obtain ⟨k, r⟩ := kr
         rw [hp] at e
         simp only at e
         by_cases hr : r = 0
         · rw [if_pos hr] at e
           obtain ⟨a, s2, e2, e⟩ := bind_out e
           obtain ⟨b, s3, e3, e⟩ := bind_out e
           cases e
           have ha := tOver_height e2
           have hb := tOver_height e3
           rw [List.length_take] at ha
           rw [List.length_drop] at hb
           simp only
           omega
         · rw [if_neg hr] at e
           cases hz : y.kids[k]? with
           | none => rw [hz] at e; cases e
           | some z =>
             rw [hz] at e
             simp only at e
             obtain ⟨q, s2, e2, e⟩ := bind_out e
             obtain ⟨a, s3, e3, e⟩ := bind_out e
             obtain ⟨a', s4, e4, e⟩ := bind_out e
             obtain ⟨b, s5, e5, e⟩ := bind_out e
             obtain ⟨b', s6, e6, e⟩ := bind_out e
             cases e
             have hq := tParted_height hrd f ⟨z, x.height - 1⟩ r s1 q s2 e2 L U hL hU (by simp only; omega) (by simp only; omega)
             have ha := tOver_height e3
             have hb := tOver_height e5
             rw [List.length_take] at ha
             rw [List.length_drop] at hb
             have ha' := tPut_height hrd' e4 L (U + 14 * (f + 1)) hL (by omega) (by omega) (by omega) (by omega) (by omega)
             have hb' := tPut_height hrd' e6 L (U + 14 * (f + 1)) hL (by omega) (by omega) (by omega) (by omega) (by omega)
             simp only
             omega
end
end Go.Proofs.YtfhbmblbidcmmaaGreat
namespace Go.Proofs.YtfhbmblbidcmmaaGreat
set_option linter.unusedSimpArgs false
set_option linter.unusedVariables false
open Go.RowKit Go.Sl
theorem store5 {b T : Nat} {a0 a1 a2 a3 a4 v0 v1 v2 v3 v4 : Value} {F : Assn} {w : World} (hs : Sat (Sl.block b T [a0, a1, a2, a3, a4] * F) w) :
 Sat (Sl.block b T [v0, v1, v2, v3, v4] * F) (((((w.setCell ⟨b, 0, none⟩ v0).setCell ⟨b, 1, none⟩ v1).setCell ⟨b, 2, none⟩ v2).setCell ⟨b, 3, none⟩ v3).setCell ⟨b, 4, none⟩ v4) := by
 haveI := hs.i
 exact satI_eq (by rfl)
theorem store4 {b T : Nat} {a0 a1 a2 a3 v0 v1 v2 v3 : Value} {F : Assn} {w : World} (hs : Sat (Sl.block b T [a0, a1, a2, a3] * F) w) :
 Sat (Sl.block b T [v0, v1, v2, v3] * F) ((((w.setCell ⟨b, 0, none⟩ v0).setCell ⟨b, 1, none⟩ v1).setCell ⟨b, 2, none⟩ v2).setCell ⟨b, 3, none⟩ v3) := by
 haveI := hs.i
 exact satI_eq (by rfl)
class TakeB (A : Assn) (b : Nat) (T : outParam Nat) (l : outParam (List Value)) (R : outParam Assn) : Prop where
 out : A = Sl.block b T l * R
instance (priority := 1200) takeB_here {b T : Nat} {l : List Value} {R : Assn} : TakeB (Sl.block b T l * R) b T l R := ⟨rfl⟩
instance (priority := 1100) takeB_self {b T : Nat} {l : List Value} : TakeB (Sl.block b T l) b T l 1 := ⟨by rw [sep_comm, one_sep]⟩
instance (priority := 1000) takeB_right {A B R : Assn} {b T : Nat} {l : List Value} [h : TakeB B b T l R] : TakeB (A * B) b T l (A * R) := ⟨by rw [h.out]; ac_rfl⟩
instance (priority := 900) takeB_left {A B R : Assn} {b T : Nat} {l : List Value} [h : TakeB A b T l R] : TakeB (A * B) b T l (R * B) := ⟨by rw [h.out]; ac_rfl⟩
instance (priority := 30000) store5I {A R : Assn} {b T : Nat} {a0 a1 a2 a3 a4 v0 v1 v2 v3 v4 : Value} {w : World} [h : SatI A w] [t : TakeB A b T [a0, a1, a2, a3, a4] R] :
 SatI (Sl.block b T [v0, v1, v2, v3, v4] * R) (((((w.setCell ⟨b, 0, none⟩ v0).setCell ⟨b, 1, none⟩ v1).setCell ⟨b, 2, none⟩ v2).setCell ⟨b, 3, none⟩ v3).setCell ⟨b, 4, none⟩ v4) := ⟨store5 (h.out.eq t.out)⟩
instance (priority := 29000) store4I {A R : Assn} {b T : Nat} {a0 a1 a2 a3 v0 v1 v2 v3 : Value} {w : World} [h : SatI A w] [t : TakeB A b T [a0, a1, a2, a3] R] :
 SatI (Sl.block b T [v0, v1, v2, v3] * R) ((((w.setCell ⟨b, 0, none⟩ v0).setCell ⟨b, 1, none⟩ v1).setCell ⟨b, 2, none⟩ v2).setCell ⟨b, 3, none⟩ v3) := ⟨store4 (h.out.eq t.out)⟩
theorem store1 {b T : Nat} {a v : Value} {F : Assn} {w : World} (hs : Sat (Sl.block b T [a] * F) w) : Sat (Sl.block b T [v] * F) (w.setCell ⟨b, 0, none⟩ v) := by
 haveI := hs.i
 exact satI_eq (by rfl)
instance (priority := 25000) store1I {A R : Assn} {b T : Nat} {a v : Value} {w : World} [h : SatI A w] [t : TakeB A b T [a] R] : SatI (Sl.block b T [v] * R) (w.setCell ⟨b, 0, none⟩ v) := ⟨store1 (h.out.eq t.out)⟩
theorem keep8 {A R R' R'' R3 R4 R5 R6 R7 : Assn} {w : World} [h : SatI A w] (X Y Z V U T P Q : Assn) [t : Take A X R] [t' : Take R Y R'] [t'' : Take R' Z R''] [t3 : Take R'' V R3] [t4 : Take R3 U R4] [t5 : Take R4 T R5] [t6 : Take R5 P R6] [t7 : Take R6 Q R7] : Sat (X * (Y * (Z * (V * (U * (T * (P * Q))))))) w := Sat.weak (B := R7) ((h.out.take3 X Y Z).eq (by rw [t3.out, t4.out, t5.out, t6.out, t7.out]; ac_rfl))
theorem keep9 {A R R' R'' R3 R4 R5 R6 R7 R8 : Assn} {w : World} [h : SatI A w] (X Y Z V U T P Q S : Assn) [t : Take A X R] [t' : Take R Y R'] [t'' : Take R' Z R''] [t3 : Take R'' V R3] [t4 : Take R3 U R4] [t5 : Take R4 T R5] [t6 : Take R5 P R6] [t7 : Take R6 Q R7] [t8 : Take R7 S R8] : Sat (X * (Y * (Z * (V * (U * (T * (P * (Q * S)))))))) w := Sat.weak (B := R8) ((h.out.take3 X Y Z).eq (by rw [t3.out, t4.out, t5.out, t6.out, t7.out, t8.out]; ac_rfl))
theorem keep7 {A R R' R'' R3 R4 R5 R6 : Assn} {w : World} [h : SatI A w] (X Y Z V U T P : Assn) [t : Take A X R] [t' : Take R Y R'] [t'' : Take R' Z R''] [t3 : Take R'' V R3] [t4 : Take R3 U R4] [t5 : Take R4 T R5] [t6 : Take R5 P R6] : Sat (X * (Y * (Z * (V * (U * (T * P)))))) w := Sat.weak (B := R6) ((h.out.take3 X Y Z).eq (by rw [t3.out, t4.out, t5.out, t6.out]; ac_rfl))
end Go.Proofs.YtfhbmblbidcmmaaGreat
namespace Go.Proofs.YtfhbmblbidcmmaaGreat
set_option linter.unusedSimpArgs false
set_option linter.unusedVariables false
open Go.RowKit Go.Sl Go.Dk Go.Tr
attribute [local go_sem ↓] Go.wp_at_zero Go.wp_at_succ
attribute [local go_sem] Go.Sl.cell_sat Go.Sl.frozen_sat
def PairR (p : Tall × Tall) (v : Value) (B : Assn) : Prop := v = .tuple #[tallV p.1, tallV p.2] ∧ B = 1
set_option maxRecDepth 100000 in
set_option maxHeartbeats 3200000 in
theorem parted_low (f : Nat) (h : Th) (s : TS) (x : Tall) (n : Int) (F : Assn) (w : World) (hs : Sat (treeP h s * F) w) (h1 : n ≤ 0) :
 Calls Tryz.prog 98 #[.pointer (some ⟨h.t, 0, none⟩), tallV x, .int .i64 n] w (TEnds h F (tParted tRead tWrite f x n s) PairR) := by
 have hRR : tParted tRead tWrite f x n s = .ok (noTall, x) s := by unfold tParted; rw [if_pos h1]; rfl
 rw [hRR]
 clear hRR
 obtain ⟨⟨x1, x2, x3, x4⟩, xh⟩ := x
 have hno := none_any
 unfold tallV noTall kd0 at hno
 unfold tallV
 simp only at hno
 haveI := hs.i
 go_enter Tryz.func98, Tryz.ntmps98
 go_upto_region 2 with (fail)
 obtain ⟨N, hN⟩ : ∃ N, w.heap.size = N := ⟨_, rfl⟩
 have q0 : Sat (treeP h s * (Sl.block (N + 2) TTl [.int .i64 0, .int .i64 0, .int .i64 0, .int .i64 0, .int .i64 0] * (Sl.block (N + 1) TTl [.int .i64 0, .int .i64 0, .int .i64 0, .int .i64 0, .int .i64 0] * (Sl.block N TTl [.int .i64 x1, .int .i64 x2, .int .i64 x3, .int .i64 x4, .int .i64 xh] * F)))) (((w.alloc (.cells #[.int .i64 x1, .int .i64 x2, .int .i64 x3, .int .i64 x4, .int .i64 xh] TTl)).alloc (.cells #[.int .i64 0, .int .i64 0, .int .i64 0, .int .i64 0, .int .i64 0] TTl)).alloc (.cells #[.int .i64 0, .int .i64 0, .int .i64 0, .int .i64 0, .int .i64 0] TTl)) := by
  rw [← hN]
  exact satI_eq (by ac_rfl)
 rw [hN]
 generalize ((w.alloc (.cells #[.int .i64 x1, .int .i64 x2, .int .i64 x3, .int .i64 x4, .int .i64 xh] TTl)).alloc (.cells #[.int .i64 0, .int .i64 0, .int .i64 0, .int .i64 0, .int .i64 0] TTl)).alloc (.cells #[.int .i64 0, .int .i64 0, .int .i64 0, .int .i64 0, .int .i64 0] TTl) = w0 at q0 ⊢
 have q1 : Sat (treeP h s * (Sl.block (N + 1 + 1) TTl [.int .i64 0, .int .i64 0, .int .i64 0, .int .i64 0, .int .i64 0] * (Sl.block (N + 1) TTl [.int .i64 0, .int .i64 0, .int .i64 0, .int .i64 0, .int .i64 0] * (Sl.block N TTl [.int .i64 x1, .int .i64 x2, .int .i64 x3, .int .i64 x4, .int .i64 xh] * F)))) w0 := q0
 clear hN hs this q0
 have q0 := q1
 clear q1
 haveI := q0.i
 go_region_law (first
  | (go_simp
     go_at_call 143
     with_reducible refine Calls.mono (hno _ _ q0) ?_
     rintro e w1 ⟨rfl, q1⟩
     haveI := q1.i))
 all_goals
  go_wp2
  go_returns
  exact ⟨_, 1, rfl, ⟨rfl, rfl⟩, by rw [one_sep]; exact keep2 _ _⟩
set_option maxRecDepth 100000 in
set_option maxHeartbeats 3200000 in
theorem parted_high (f : Nat) (h : Th) (s : TS) (x : Tall) (n : Int) (F : Assn) (w : World) (hs : Sat (treeP h s * F) w) (h1 : ¬ n ≤ 0) (h2 : x.kid.bytes ≤ n) :
 Calls Tryz.prog 98 #[.pointer (some ⟨h.t, 0, none⟩), tallV x, .int .i64 n] w (TEnds h F (tParted tRead tWrite f x n s) PairR) := by
 have hRR : tParted tRead tWrite f x n s = .ok (x, noTall) s := by unfold tParted; rw [if_neg h1, if_pos h2]; rfl
 rw [hRR]
 clear hRR
 obtain ⟨⟨x1, x2, x3, x4⟩, xh⟩ := x
 simp only at h2
 have hno := none_any
 unfold tallV noTall kd0 at hno
 unfold tallV
 simp only at hno
 haveI := hs.i
 go_enter Tryz.func98, Tryz.ntmps98
 go_upto_region 4 with (fail)
 obtain ⟨N, hN⟩ : ∃ N, w.heap.size = N := ⟨_, rfl⟩
 have q0 : Sat (treeP h s * (Sl.block (N + 2) TTl [.int .i64 0, .int .i64 0, .int .i64 0, .int .i64 0, .int .i64 0] * (Sl.block (N + 1) TTl [.int .i64 0, .int .i64 0, .int .i64 0, .int .i64 0, .int .i64 0] * (Sl.block N TTl [.int .i64 x1, .int .i64 x2, .int .i64 x3, .int .i64 x4, .int .i64 xh] * F)))) (((w.alloc (.cells #[.int .i64 x1, .int .i64 x2, .int .i64 x3, .int .i64 x4, .int .i64 xh] TTl)).alloc (.cells #[.int .i64 0, .int .i64 0, .int .i64 0, .int .i64 0, .int .i64 0] TTl)).alloc (.cells #[.int .i64 0, .int .i64 0, .int .i64 0, .int .i64 0, .int .i64 0] TTl)) := by
  rw [← hN]
  exact satI_eq (by ac_rfl)
 rw [hN]
 generalize ((w.alloc (.cells #[.int .i64 x1, .int .i64 x2, .int .i64 x3, .int .i64 x4, .int .i64 xh] TTl)).alloc (.cells #[.int .i64 0, .int .i64 0, .int .i64 0, .int .i64 0, .int .i64 0] TTl)).alloc (.cells #[.int .i64 0, .int .i64 0, .int .i64 0, .int .i64 0, .int .i64 0] TTl) = w0 at q0 ⊢
 have q1 : Sat (treeP h s * (Sl.block (N + 1 + 1) TTl [.int .i64 0, .int .i64 0, .int .i64 0, .int .i64 0, .int .i64 0] * (Sl.block (N + 1) TTl [.int .i64 0, .int .i64 0, .int .i64 0, .int .i64 0, .int .i64 0] * (Sl.block N TTl [.int .i64 x1, .int .i64 x2, .int .i64 x3, .int .i64 x4, .int .i64 xh] * F)))) w0 := q0
 clear hN hs this q0
 have q0 := q1
 clear q1
 haveI := q0.i
 go_region_law (first
  | (go_simp
     go_at_call 143
     with_reducible refine Calls.mono (hno _ _ q0) ?_
     rintro e w1 ⟨rfl, q1⟩
     haveI := q1.i))
 all_goals
  go_wp2
  go_returns
  exact ⟨_, 1, rfl, ⟨rfl, rfl⟩, by rw [one_sep]; exact keep2 _ _⟩
end Go.Proofs.YtfhbmblbidcmmaaGreat
