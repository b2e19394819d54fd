/-
  TreePlays: what its proof leans on (part 51)
-/
import Derived.Test.YteecnkneceemjaaGreatRp47
import Derived.Test.YteecnkneceemjaaGreatRp41
import Derived.Test.YteecnkneceemjaaGreatRp50
import Derived.Deep.DeepCutAuto
import Derived.Deep.RegionHeld3
import Derived.Test.YteecnkneceemjaaGreatRp49
import Derived.Test.YteecnkneceemjaaGreatRp38
import Derived.Test.YteecnkneceemjaaGreatRp45
import Derived.Test.YteecnkneceemjaaGreatRp44
import Derived.IntWalk
import Derived.WalkLawsBesides
import Derived.Test.YteecnkneceemjaaGreatRp19
import Derived.Test.YteecnkneceemjaaGreatRp12
set_option linter.unusedSimpArgs false
set_option linter.unusedVariables false
namespace Go.Proofs.YteecnkneceemjaaGreat
set_option linter.unusedSimpArgs false
set_option linter.unusedVariables false
open Go.RowKit Go.Sl Go.Dk Go.Tr
attribute [local go_sem ↓] Go.wp_at_zero Go.wp_at_succ
attribute [local go_sem] Go.Sl.cell_sat Go.Sl.frozen_sat
theorem eB_short {l : List Ent} (h : l.length ≤ 1) (hm : ∀ x ∈ l, mayEnt x = true) : 0 ≤ eBytes l ∧ eBytes l ≤ 1048576 := by
 match l, h with
 | [], _ => simp [eBytes]
 | [a], _ =>
  have := mayE_iff.1 (hm a (by simp))
  have e : eBytes [a] = a.len := by simp [eBytes]
  rw [e]
  omega
theorem takeP4 {A R R' R'' R3 : Assn} {w : World} [h : SatI A w] (X Y Z V : Assn) [t : Take A X R] [t' : Take R Y R'] [t'' : Take R' Z R''] [t3 : Take R'' V R3] : Sat (X * (Y * (Z * V)) * R3) w := (h.out.take3 X Y Z).eq (by rw [t3.out]; ac_rfl)
theorem readsLL_three {X Y Z : Assn} {x y z : Value} {l m k : List Ent} (b : Nat) (h1 : ReadsE X x l) (h2 : ReadsE Y y m) (h3 : ReadsE Z z k) : ReadsLL (Sl.block b TEs [x, y, z] * (X * (Y * Z))) (.slice (some ⟨b, 0, none⟩) 3 3) [l, m, k] := by
 refine ⟨[x, y, z], ⟨rfl, _, _, rfl, Nat.le_refl _, by omega, fun j u hj => ⟨b, 0, rfl, ?_⟩⟩, rfl, fun i u l' hx hl => ?_⟩
 · haveI : At [x, y, z] j u := ⟨hj⟩
   rw [Nat.zero_add]
   exact inferInstance
 · match i with
   | 0 => simp at hx hl; subst hx; subst hl; exact ReadsR.right (ReadsR.left h1)
   | 1 => simp at hx hl; subst hx; subst hl; exact ReadsR.right (ReadsR.right (ReadsR.left h2))
   | 2 => simp at hx hl; subst hx; subst hl; exact ReadsR.right (ReadsR.right (ReadsR.right h3))
   | i + 3 => simp at hx
structure SpA (s1 : TS) (root at_ n all : Int) (L R : List Ent × Int) (whole : Tall) (r1 r0 : Int) (s2 s3 s4 s5 s6 : TS) : Prop where
 hl : Go.Tr.leftOf tRead root at_ s1 = .ok L s2
 hr : Go.Tr.rightOf tRead root (at_ + n) all s2 = .ok R s3
 hw : tRooted tRead root s3 = .ok whole s4
 hk1 : tRank tRead 30 whole R.2 s4 = .ok r1 s5
 hk0 : tRank tRead 30 whole L.2 s5 = .ok r0 s6
structure SpB (whole : Tall) (L R : List Ent × Int) (put : List Ent) (p q : Tall × Tall) (m x y : Tall) (s6 s7 s8 s9 s10 s11 : TS) : Prop where
 hp : tParted tRead tWrite 30 whole L.2 s6 = .ok p s7
 hq : tParted tRead tWrite 30 p.2 (R.2 - L.2) s7 = .ok q s8
 hm : tLeaves tWrite (join (L.1 ++ put ++ R.1)) s8 = .ok m s9
 hx : tPut tRead tWrite p.1 m s9 = .ok x s10
 hy : tPut tRead tWrite x q.2 s10 = .ok y s11
set_option maxRecDepth 100000 in
set_option maxHeartbeats 12800000 in
theorem splice_main (h : Th) (s : TS) (root at_ n : Int) (put : List Ent) (v : Value) (B F : Assn) (w : World) (hE : ReadsE B v put) (hs : Sat (treeP h s * (B * F)) w) (hl : put.length ≤ 1000)
 (hm : mayList put = true) (all : Int) (s1 : TS) (hz : tSize tRead root s = .ok all s1) (k1 : ¬ at_ < 0) (k2 : ¬ n < 0) (k3 : ¬ all < at_) (k4 : ¬ all - at_ < n) (k5 : ¬ 1048576 < all - n + eBytes put) (k6 : n = 0 → put ≠ [])
 (L R : List Ent × Int) (whole : Tall) (r1 r0 : Int) (s2 s3 s4 s5 s6 : TS) (HA : SpA s1 root at_ n all L R whole r1 r0 s2 s3 s4 s5 s6) (Q : Res TS Int)
 (hbig : 1024 < whole.kid.scraps - r1 + r0 + (join (L.1 ++ put ++ R.1)).length → Q = .fault 11 (s6.undone s1.sp.taken.length))
 (hgo : ¬ 1024 < whole.kid.scraps - r1 + r0 + (join (L.1 ++ put ++ R.1)).length → ∃ p q m x y s7 s8 s9 s10 s11, SpB whole L R put p q m x y s6 s7 s8 s9 s10 s11 ∧ Q = .ok y.kid.page s11) :
 Calls Tryz.prog 21 #[.pointer (some ⟨h.t, 0, none⟩), .int .i64 root, .int .i64 at_, .int .i64 n, v] w (Back h (B * F) Q (fun z => vi2 z 0) (fun er => vi2 0 er)) := by
 have hmf : ∀ (fn : Fn) (first cap : Array Value) (w : World), (Instr.makeFunc fn first cap).run Tryz.prog w = .ok (.func fn first cap) w := fun _ _ _ _ => rfl
 have HBG : Aside (1024 < whole.kid.scraps - r1 + r0 + (join (L.1 ++ put ++ R.1)).length → Q = .fault 11 (s6.undone s1.sp.taken.length)) := hbig
 have HGO : Aside (¬ 1024 < whole.kid.scraps - r1 + r0 + (join (L.1 ++ put ++ R.1)).length → ∃ p q m x y s7 s8 s9 s10 s11, SpB whole L R put p q m x y s6 s7 s8 s9 s10 s11 ∧ Q = .ok y.kid.page s11) := hgo
 obtain ⟨HL, HR, HW, HK1, HK0⟩ := HA
 have hgrow : s1.sp.taken.length ≤ s6.sp.taken.length := by
  have g1 := (Keeps.ok (leftOf_keeps grow_goes tRead_keeps root at_) HL).len
  have g2 := (Keeps.ok (rightOf_keeps grow_goes tRead_keeps root (at_ + n) all) HR).len
  have g3 := (Keeps.ok (tRooted_keeps grow_goes tRead_keeps root) HW).len
  have g4 := (Keeps.ok (tRank_keeps grow_goes tRead_keeps 30 whole R.2) HK1).len
  have g5 := (Keeps.ok (tRank_keeps grow_goes tRead_keeps 30 whole L.2) HK0).len
  omega
 obtain ⟨lb1, lb2, lb3, lb4⟩ := leftOf_bound (by omega) HL
 obtain ⟨rb1, rb2, rb3, rb4⟩ := rightOf_bound (by omega) HR
 obtain ⟨wb1, wb2, wb3, wb4⟩ := rooted_bound HW
 have kb1 := rank_bound (fun p s n s' h => tRead_may h) 16777216 (by omega) 30 whole R.2 s4 r1 s5 wb3 (by omega) HK1
 have kb0 := rank_bound (fun p s n s' h => tRead_may h) 16777216 (by omega) 30 whole L.2 s5 r0 s6 wb3 (by omega) HK0
 obtain ⟨a0, c0, rfl, hE1, hE2⟩ := hE.v
 have hmy := fun F w q => tmay_any put _ B F w hE q (by omega)
 rw [hm] at hmy
 have c1 := fun F w q => size_tany h s root F w q (by rw [hz]; simp)
 rw [hz] at c1
 have hzb := size_bound hz
 have hmp := mayList_parts hm
 have hmp1 := fun x hx => mayE_len (hmp.1 x hx)
 have hpb := eBytes_ge hmp.1
 have htot := fun F w q => total_any put _ B F w hE q (by omega) (fun x hx => by have := hmp1 x hx; have := mayE_iff.1 (hmp.1 x hx); omega)
 have hw : IntKind.i64.wrap (all - at_) = all - at_ := IntWalk.i64_in _ (by omega)
 have hw2 : IntKind.i64.wrap (all - n) = all - n := IntWalk.i64_in _ (by omega)
 have HMP : Aside ((∀ x ∈ put, mayEnt x = true) ∧ eBytes put ≤ 1048576) := hmp
 obtain ⟨tot, htt⟩ : ∃ t, eBytes put = t := ⟨_, rfl⟩
 rw [htt] at htot hmp hpb k5
 obtain ⟨hmp2, hmp3⟩ := hmp
 have hw3 : IntKind.i64.wrap (all - n + tot) = all - n + tot := IntWalk.i64_in _ (by omega)
 have hw4 : IntKind.i64.wrap (at_ + n) = at_ + n := IntWalk.i64_in _ (by omega)
 obtain ⟨np, hnp⟩ : ∃ np, put.length = np := ⟨_, rfl⟩
 have HNP : Aside (put.length = np ∧ (n = 0 → np ≠ 0)) := ⟨hnp, fun e1 e2 => k6 e1 (List.length_eq_zero_iff.1 (hnp.trans e2))⟩
 have HEP : Aside (ReadsE B (.slice a0 put.length c0) put) := hE
 rw [hnp] at hl hE1 hmy htot hpb ⊢
 have h2 : Sat (B * (treeP h s * F)) w := hs.eq (by ac_rfl)
 haveI := h2.i
 unfold vi2 at c1
 clear hs h2 hmp2 hmp1 hE hm hbig hgo k6 hnp hz htt
 go_enter_defers Tryz.func21, Tryz.ntmps21
 go_wp2_with fail
 with_reducible refine Calls.mono (hmy _ _ (takeI B)) ?_
 rintro e w2 ⟨rfl, q2⟩
 obtain ⟨N, hN⟩ : ∃ N, w.heap.size = N := ⟨_, rfl⟩
 rw [hN] at q2 ⊢
 haveI := q2.i
 clear hN hmy
 go_wp2_with fail
 with_reducible refine Calls.mono (c1 _ _ (takeI (treeP h s))) ?_
 rintro e w3 ⟨rfl, q3⟩
 haveI := q3.i
 clear c1 q2
 go_wp2_with fail
 with_reducible refine Calls.mono (htot _ _ (takeI B)) ?_
 rintro e w4 ⟨rfl, q4⟩
 haveI := q4.i
 clear htot q3
 go_upto_region 10 with (fail)
 go_cut [75] from 28 to 185 (fun t75 wx => t75 = .bool false ∧ Sat (treeP h s1 * (B * (Sl.block (N + 1) TEr [.int .i64 0] * (Sl.block N TIt [.int .i64 0] * F)))) wx)
 case first =>
  by_cases hn0 : n = 0
  · subst hn0
    have hnp0 : ¬ np = 0 := HNP.out.2 rfl
    have hnp1 : ((np : Int) == 0) = false := by simp; omega
    go_wp2
    go_meet
    exact ⟨rfl, keep5 _ _ _ _ _⟩
  · have hn1 : ((n : Int) == 0) = false := by simpa using hn0
    go_wp2
    go_meet
    exact ⟨rfl, keep5 _ _ _ _ _⟩
 case rest =>
  obtain ⟨rfl, q5⟩ := hcut
  haveI := q5.i
  clear q4
  go_wp2_with fail
  with_reducible refine Calls.mono (mark_tany h s1 _ _ (takeI (treeP h s1))) ?_
  rintro e w5 ⟨rfl, q6⟩
  haveI := q6.i
  clear q5
  go_upto_if 89 with (fail)
  go_cut [13, 15] from 28 to 185 (fun t13 t15 wx => ∃ (al : Option Addr) (nl cl : Nat) (GL : Assn), t13 = .int .i64 L.2 ∧ t15 = .slice al nl cl ∧ nl = L.1.length ∧ Aside (ReadsE GL (.slice al nl cl) L.1) ∧ Sat (treeP h s2 * (GL * (B * (Sl.block (N + 1) TEr [.int .i64 0] * (Sl.block N TIt [.int .i64 0] * F))))) wx)
  case first =>
   have hL := HL
   unfold Go.Tr.leftOf at hL
   by_cases hat : 0 < at_
   · rw [if_pos hat] at hL
     obtain ⟨z, s1', e1, e2⟩ := bind_out hL
     have hsk := fun F w q => seek_any h s1 root (at_ - 1) F w q (by rw [e1]; simp)
     rw [e1] at hsk
     obtain ⟨b1, b2, b3, b4⟩ := seek_bound (by omega) e1
     have b5 := mayE_iff.1 b1
     obtain ⟨⟨z1, z2, z3, z4⟩, za⟩ := z
     simp only at b1 b2 b3 b4 b5 e2
     have hpt := fun F w q => part_any ⟨z1, z2, z3, z4⟩ 0 (at_ - za) F w q (by simp only; omega) (by omega) (by omega)
     have HP : Aside (L = (Go.Tr.part ⟨z1, z2, z3, z4⟩ 0 (at_ - za), za) ∧ s1' = s2) := by
      cases e2
      exact ⟨rfl, rfl⟩
     have hv1 : IntKind.i64.wrap (at_ - 1) = at_ - 1 := IntWalk.i64_in _ (by omega)
     have hv2 : IntKind.i64.wrap (at_ - za) = at_ - za := IntWalk.i64_in _ (by omega)
     unfold entV at hpt
     simp only at hpt
     clear e1 e2 b1 b5 hL
     go_wp2_with fail
     with_reducible refine Calls.mono (hsk _ _ (takeI (treeP h s1))) ?_
     rintro e w6 ⟨v6, G6, rfl, ⟨rfl, rfl⟩, q7⟩
     rw [one_sep] at q7
     haveI := q7.i
     clear hsk q6
     go_wp2_with fail
     with_reducible refine Calls.mono (hpt _ _ satI) ?_
     rintro e w7 ⟨v7, G7, rfl, hv7, q8⟩
     obtain ⟨al, cl, rfl, _, _⟩ := hv7.v
     haveI := q8.i
     obtain ⟨e3, e4⟩ := HP.out
     subst e3
     subst e4
     go_wp2
     go_meet
     exact ⟨al, _, cl, G7, rfl, rfl, rfl, hv7, keep6 _ _ _ _ _ _⟩
   · rw [if_neg hat] at hL
     have HP : Aside (L = ([], at_) ∧ s1 = s2) := by
      cases hL
      exact ⟨rfl, rfl⟩
     clear hL
     go_wp2
     go_meet
     obtain ⟨e3, e4⟩ := HP.out
     subst e3
     subst e4
     exact ⟨none, 0, 0, 1, rfl, rfl, rfl, ReadsR.nil 4 _, by rw [one_sep]; exact keep5 _ _ _ _ _⟩
  case rest =>
   obtain ⟨al, nl, cl, GL, rfl, rfl, hnl, HGL, q7⟩ := hcut
   subst hnl
   haveI := q7.i
   clear q6
   go_upto_if 108 with (fail)
   go_cut [14, 16] from 28 to 185 (fun t14 t16 wx => ∃ (ar : Option Addr) (nr cr : Nat) (GR : Assn), t14 = .int .i64 R.2 ∧ t16 = .slice ar nr cr ∧ nr = R.1.length ∧ Aside (ReadsE GR (.slice ar nr cr) R.1) ∧ Sat (treeP h s3 * (GR * (GL * (B * (Sl.block (N + 1) TEr [.int .i64 0] * (Sl.block N TIt [.int .i64 0] * F)))))) wx)
   case first =>
    have hR := HR
    unfold Go.Tr.rightOf at hR
    by_cases hat : at_ + n < all
    · rw [if_pos hat] at hR
      obtain ⟨z, s1', e1, e2⟩ := bind_out hR
      have hsk := fun F w q => seek_any h s2 root (at_ + n) F w q (by rw [e1]; simp)
      rw [e1] at hsk
      obtain ⟨b1, b2, b3, b4⟩ := seek_bound (by omega) e1
      have b5 := mayE_iff.1 b1
      obtain ⟨⟨z1, z2, z3, z4⟩, za⟩ := z
      simp only at b1 b2 b3 b4 b5 e2
      have hpt := fun F w q => part_any ⟨z1, z2, z3, z4⟩ (at_ + n - za) z3 F w q (by simp only; omega) (by omega) (by omega)
      have HP : Aside (R = (Go.Tr.part ⟨z1, z2, z3, z4⟩ (at_ + n - za) z3, za + z3) ∧ s1' = s3) := by
       cases e2
       exact ⟨rfl, rfl⟩
      have hv1 : IntKind.i64.wrap (at_ + n - za) = at_ + n - za := IntWalk.i64_in _ (by omega)
      have hv2 : IntKind.i64.wrap (za + z3) = za + z3 := IntWalk.i64_in _ (by omega)
      unfold entV at hpt
      simp only at hpt
      clear e1 e2 b1 b5 hR
      go_wp2_with fail
      with_reducible refine Calls.mono (hsk _ _ (takeI (treeP h s2))) ?_
      rintro e w6 ⟨v6, G6, rfl, ⟨rfl, rfl⟩, q8⟩
      rw [one_sep] at q8
      haveI := q8.i
      obtain ⟨N19, hN19⟩ : ∃ M, w6.heap.size = M := ⟨_, rfl⟩
      clear hsk q7
      go_upto_region 21 with (fail)
      try rw [hN19]
      have q9 : Sat (Sl.block N19 TEn [.int .i64 z1, .int .i64 z2, .int .i64 z3, .int .i64 z4] * (treeP h s1' * (GL * (B * (Sl.block (N + 1) TEr [.int .i64 0] * (Sl.block N TIt [.int .i64 0] * F)))))) (w6.alloc (.cells #[.int .i64 z1, .int .i64 z2, .int .i64 z3, .int .i64 z4] TEn)) := by
       rw [← hN19]
       exact satI_eq (by ac_rfl)
      clear hN19 q8
      generalize w6.alloc (.cells #[.int .i64 z1, .int .i64 z2, .int .i64 z3, .int .i64 z4] TEn) = w66 at q9 ⊢
      haveI := q9.i
      go_region_held3 (fun w' => w'.cell? ⟨N19, 0, none⟩ = some (.int .i64 z1) ∧ w'.cell? ⟨N19, 1, none⟩ = some (.int .i64 z2) ∧ w'.cell? ⟨N19, 2, none⟩ = some (.int .i64 z3) ∧ w'.cell? ⟨N19, 3, none⟩ = some (.int .i64 z4)) (first | exact ⟨cell_sat _ _ _, cell_sat _ _ _, cell_sat _ _ _, cell_sat _ _ _⟩) (first
       | (go_at_call 64
          with_reducible refine Calls.mono (hpt _ _ satI) ?_
          rintro e w7 ⟨v7, G7, rfl, hv7, q10⟩
          obtain ⟨ar, cr, rfl, _, _⟩ := hv7.v
          haveI := q10.i))
      all_goals
       obtain ⟨e3, e4⟩ := HP.out
       subst e3
       subst e4
       go_wp2
       go_meet
       exact ⟨ar, _, cr, G7, rfl, rfl, rfl, hv7, keep7 _ _ _ _ _ _ _⟩
    · rw [if_neg hat] at hR
      have HP : Aside (R = ([], at_ + n) ∧ s2 = s3) := by
       cases hR
       exact ⟨rfl, rfl⟩
      clear hR
      go_wp2
      go_meet
      obtain ⟨e3, e4⟩ := HP.out
      subst e3
      subst e4
      exact ⟨none, 0, 0, 1, rfl, rfl, rfl, ReadsR.nil 4 _, by rw [one_sep]; exact keep6 _ _ _ _ _ _⟩
   case rest =>
    obtain ⟨ar, nr, cr, GR, rfl, rfl, hnr, HGR, q8⟩ := hcut
    haveI := q8.i
    subst hnr
    clear q7
    obtain ⟨lB1, lB2⟩ := eB_short lb1 lb2
    obtain ⟨rB1, rB2⟩ := eB_short rb1 rb2
    have hfl : ([L.1, put, R.1] : List (List Ent)).flatten = L.1 ++ put ++ R.1 := by simp
    have hEP : ReadsE B (.slice a0 np c0) put := by have := HEP.out; rw [HNP.out.1] at this; exact this
    have hjo := fun b F w q => join_any [L.1, put, R.1] (.slice (some ⟨b, 0, none⟩) 3 3) (Sl.block b TEs [.slice al L.1.length cl, .slice a0 np c0, .slice ar R.1.length cr] * (GL * (B * GR))) F w (readsLL_three b HGL.out hEP HGR.out) q (by simp)
     (by rw [hfl]; simp only [List.length_append]; rw [HNP.out.1]; omega)
     (by
       rw [hfl]
       intro x hx
       rcases List.mem_append.1 hx with hx | hx
       · rcases List.mem_append.1 hx with hx | hx
         · exact lb2 x hx
         · exact HMP.out.1 x hx
       · exact rb2 x hx)
     (by rw [hfl, Go.Tr.eBytes_append, Go.Tr.eBytes_append]; have := HMP.out.2; omega)
    rw [hfl] at hjo
    have hjl := join_short (L.1 ++ put ++ R.1)
    simp only [List.length_append] at hjl
    rw [HNP.out.1] at hjl
    obtain ⟨js, hjs⟩ : ∃ js, join (L.1 ++ put ++ R.1) = js := ⟨_, rfl⟩
    have HJS : Aside (join (L.1 ++ put ++ R.1) = js) := hjs
    rw [hjs] at hjo hjl
    obtain ⟨nj, hnj⟩ : ∃ nj, js.length = nj := ⟨_, rfl⟩
    have HNJ : Aside (js.length = nj) := hnj
    rw [hnj] at hjl
    have hjl2 : nj ≤ 1002 := by omega
    rw [hnj] at hjo
    have c3 := fun F w q => rooted_any h s3 root F w q (by rw [HW]; simp)
    rw [HW] at c3
    have c4 := fun F w q => rank_any 30 h s4 whole R.2 F w q wb1 (by omega) wb3 (by omega) (by omega) (by omega) (by rw [HK1]; simp)
    rw [HK1] at c4
    have c5 := fun F w q => rank_any 30 h s5 whole L.2 F w q wb1 (by omega) wb3 (by omega) (by omega) (by omega) (by rw [HK0]; simp)
    rw [HK0] at c5
    have c6 := fun F w q nb => parted_any 30 h s6 whole L.2 F w q (by omega) (by omega) (by omega) (by omega) nb
    obtain ⟨⟨x1, x2, x3, x4⟩, xh⟩ := whole
    unfold tallV at c4 c5 c6
    simp only at c4 c5 c6 wb1 wb2 wb3 wb4 kb1 kb0
    have hv1 : IntKind.i64.wrap (x4 - r1) = x4 - r1 := IntWalk.i64_in _ (by omega)
    have hv2 : IntKind.i64.wrap (x4 - r1 + r0) = x4 - r1 + r0 := IntWalk.i64_in _ (by omega)
    have hv3 : IntKind.i64.wrap (x4 - r1 + r0 + (nj : Int)) = x4 - r1 + r0 + nj := IntWalk.i64_in _ (by omega)
    have hv4 : IntKind.i64.wrap (R.2 - L.2) = R.2 - L.2 := IntWalk.i64_in _ (by omega)
    have HB1 : Aside (-1 ≤ xh ∧ xh ≤ 20 ∧ R.2 - L.2 ≤ 1099511627776) := ⟨wb1, wb2, by omega⟩
    have HGR2 : Aside (s1.sp.taken.length ≤ s6.sp.taken.length) := hgrow
    clear lB1 lB2 rB1 rB2 hfl hEP hjs hjl hnj kb1 kb0 wb1 wb2 wb3 wb4 hgrow lb1 lb2 rb1 rb2 HGL HGR HEP HMP hzb
    go_wp2_with fail
    with_reducible refine Calls.mono (hjo _ _ _ (takeP4 _ _ _ _)) ?_
    rintro e w7 ⟨aj, cj, rfl, q9⟩
    haveI := q9.i
    clear hjo
    have q10 : Sat (treeP h s3 * (rw TEn 4 (.slice aj nj cj) (ecs js) * (Sl.block (N + 1) TEr [.int .i64 0] * (Sl.block N TIt [.int .i64 0] * (B * F))))) w7 := keep6 _ _ _ _ _ _
    haveI := q10.i
    have hJ : ReadsE (rw TEn 4 (.slice aj nj cj) (ecs js)) (.slice aj nj cj) js := by
     have := ReadsR.rw (F := treeP h s3 * (Sl.block (N + 1) TEr [.int .i64 0] * (Sl.block N TIt [.int .i64 0] * (B * F)))) (q10.eq (by ac_rfl)) ⟨aj, cj, rfl⟩ (n := nj)
     rw [← HNJ.out] at this ⊢
     exact this
    have HJ : Aside (ReadsE (rw TEn 4 (.slice aj nj cj) (ecs js)) (.slice aj nj cj) js) := hJ
    clear hJ q8 q9
    go_wp2_with fail
    with_reducible refine Calls.mono (c3 _ _ (takeI (treeP h s3))) ?_
    rintro e w8 ⟨v8, G8, rfl, ⟨rfl, rfl⟩, q11⟩
    rw [one_sep] at q11
    haveI := q11.i
    obtain ⟨N22, hN22⟩ : ∃ M, w8.heap.size = M := ⟨_, rfl⟩
    unfold tallV
    clear q10 c3
    go_upto_region 24 with (fail)
    try rw [hN22]
    have q12 : Sat (Sl.block N22 TTl [.int .i64 x1, .int .i64 x2, .int .i64 x3, .int .i64 x4, .int .i64 xh] * (treeP h s4 * (rw TEn 4 (.slice aj nj cj) (ecs js) * (Sl.block (N + 1) TEr [.int .i64 0] * (Sl.block N TIt [.int .i64 0] * (B * F)))))) (w8.alloc (.cells #[.int .i64 x1, .int .i64 x2, .int .i64 x3, .int .i64 x4, .int .i64 xh] TTl)) := by
     rw [← hN22]
     exact satI_eq (by ac_rfl)
    clear hN22 q11
    generalize w8.alloc (.cells #[.int .i64 x1, .int .i64 x2, .int .i64 x3, .int .i64 x4, .int .i64 xh] TTl) = w88 at q12 ⊢
    haveI := q12.i
    go_cut [157] from 28 to 185 (fun t157 wx => t157 = .bool (decide (1024 < x4 - r1 + r0 + (nj : Int))) ∧ Sat (Sl.block N22 TTl [.int .i64 x1, .int .i64 x2, .int .i64 x3, .int .i64 x4, .int .i64 xh] * (treeP h s6 * (rw TEn 4 (.slice aj nj cj) (ecs js) * (Sl.block (N + 1) TEr [.int .i64 0] * (Sl.block N TIt [.int .i64 0] * (B * F)))))) wx)
    case first =>
     go_region_held3 (fun w' => w'.cell? ⟨N22, 0, none⟩ = some (.int .i64 x1) ∧ w'.cell? ⟨N22, 1, none⟩ = some (.int .i64 x2) ∧ w'.cell? ⟨N22, 2, none⟩ = some (.int .i64 x3) ∧ w'.cell? ⟨N22, 3, none⟩ = some (.int .i64 x4) ∧ w'.cell? ⟨N22, 4, none⟩ = some (.int .i64 xh)) (first | exact ⟨cell_sat _ _ _, cell_sat _ _ _, cell_sat _ _ _, cell_sat _ _ _, cell_sat _ _ _⟩) (first
      | (go_at_call 66
         with_reducible refine Calls.mono (c4 _ _ (takeI (treeP h s4))) ?_
         rintro e w9 ⟨v9, G9, rfl, ⟨rfl, rfl⟩, q13⟩
         rw [one_sep] at q13
         haveI := q13.i)
      | (go_at_call 66
         with_reducible refine Calls.mono (c5 _ _ (takeI (treeP h s5))) ?_
         rintro e w10 ⟨v10, G10, rfl, ⟨rfl, rfl⟩, q14⟩
         rw [one_sep] at q14
         haveI := q14.i))
     all_goals
      go_wp2
      go_meet
      exact ⟨rfl, keep6 _ _ _ _ _ _⟩
    case rest =>
     obtain ⟨rfl, q13⟩ := hcut
     haveI := q13.i
     clear q12 c4 c5
     by_cases hb : 1024 < x4 - r1 + r0 + (nj : Int)
     · have hQ := HBG.out (by rw [HJS.out, HNJ.out]; omega)
       subst hQ
       have hd : decide (1024 < x4 - r1 + r0 + (nj : Int)) = true := decide_eq_true hb
       rw [hd]
       go_wp2
       refine leaves_cons (f := 63) (args := #[.pointer (some ⟨N, 0, none⟩), .pointer (some ⟨N + 1, 0, none⟩)]) (by simp) (by simp [go_sem]) ?_
       refine (spliceC_idle _ _ _).mono ?_
       rintro e u' w14 ⟨rfl, rfl, rfl⟩
       show Leaves _ _ _ _ _ .returning _
       refine leaves_cons (f := 54) (args := #[.pointer (some ⟨h.t, 0, none⟩), .int .i64 s1.sp.taken.length, .pointer (some ⟨N + 1, 0, none⟩)]) (by simp) (by simp [go_sem]) ?_
       refine (undoD_er h s6 s1.sp.taken.length (N + 1) 11 _ _ _ (by omega) HGR2.out (takeI2 (treeP h s6) (Sl.block (N + 1) TEr [.int .i64 11]))).mono ?_
       rintro e u' w15 ⟨rfl, rfl, q14⟩
       haveI := q14.i
       simp [Leaves, settle, results, Tryz.results21, go_sem]
       exact ⟨rfl, keep3 _ _ _⟩
     · obtain ⟨p, q, m, x, y, s7, s8, s9, s10, s11, ⟨hp, hq, hm, hx, hy⟩, hQ⟩ := HGO.out (by rw [HJS.out, HNJ.out]; omega)
       have hd : decide (1024 < x4 - r1 + r0 + (nj : Int)) = false := decide_eq_false hb
       rw [HJS.out] at hm
       obtain ⟨w1, w2', w3⟩ := HB1.out
       have hp1 := tParted_height (fun p s n s' h => tRead_may h) 30 _ _ _ _ _ hp (-31) 20 (by omega) (by omega) (by simp only; omega) (by simp only; omega)
       have hq1 := tParted_height (fun p s n s' h => tRead_may h) 30 _ _ _ _ _ hq (-62) 454 (by omega) (by omega) (by omega) (by omega)
       have hm1 := tLeaves_height hm
       rw [HNJ.out] at hm1
       have hx1 := tPut_height (fun p s n s' h => tRead_many h) hx (-31) 454 (by omega) (by omega) (by omega) (by omega) (by omega) (by omega)
       have d6 := fun F w q => c6 F w q (by rw [hp]; simp)
       rw [hp] at d6
       have d7 := fun F w q => parted_any 30 h s7 p.2 (R.2 - L.2) F w q (by omega) (by omega) (by omega) w3 (by rw [hq]; simp)
       rw [hq] at d7
       have d8 := fun F w q => leaves_any h s8 js _ _ F w HJ.out q (by rw [HNJ.out]; omega) (by rw [hm]; simp)
       rw [hm] at d8
       have d9 := fun F w q => put_tany h s9 p.1 m F w q (by omega) (by omega) (by omega) (by omega) (by rw [hx]; simp)
       rw [hx] at d9
       have d10 := fun F w q' => put_tany h s10 x q.2 F w q' (by omega) (by omega) (by omega) (by omega) (by rw [hy]; simp)
       rw [hy] at d10
       obtain ⟨⟨⟨p1, p2, p3, p4⟩, ph⟩, ⟨⟨o1, o2, o3, o4⟩, oh⟩⟩ := p
       obtain ⟨⟨⟨g1, g2, g3, g4⟩, gh⟩, ⟨⟨l1, l2, l3, l4⟩, lh⟩⟩ := q
       obtain ⟨⟨m1, m2, m3, m4⟩, mh⟩ := m
       obtain ⟨⟨u1, u2, u3, u4⟩, uh⟩ := x
       obtain ⟨⟨y1, y2, y3, y4⟩, yh⟩ := y
       unfold PairR at d6 d7
       unfold TallR at d8 d9 d10
       unfold tallV at d6 d7 d8 d9 d10
       simp only at d6 d7 d8 d9 d10 hQ
       subst hQ
       rw [hd]
       clear hp hq hm hx hy hp1 hq1 hm1 hx1 c6
       go_wp2_with fail
       with_reducible refine Calls.mono (d6 _ _ (takeI (treeP h s6))) ?_
       rintro e w14 ⟨v14, G14, rfl, ⟨rfl, rfl⟩, q14⟩
       rw [one_sep] at q14
       haveI := q14.i
       obtain ⟨N23, hN23⟩ : ∃ M, w14.heap.size = M := ⟨_, rfl⟩
       clear q13
       go_wp2_with fail
       with_reducible refine Calls.mono (d7 _ _ (takeI (treeP h s7))) ?_
       rintro e w15 ⟨v15, G15, rfl, ⟨rfl, rfl⟩, q15⟩
       rw [one_sep] at q15
       haveI := q15.i
       have q16 : Sat (treeP h s8 * (rw TEn 4 (.slice aj nj cj) (ecs js) * (Sl.block N23 TTl [.int .i64 p1, .int .i64 p2, .int .i64 p3, .int .i64 p4, .int .i64 ph] * (Sl.block (N + 1) TEr [.int .i64 0] * (Sl.block N TIt [.int .i64 0] * (B * F)))))) w15 := by
        rw [← hN23]
        exact keep6 _ _ _ _ _ _
       obtain ⟨N25, hN25⟩ : ∃ M, w15.heap.size = M := ⟨_, rfl⟩
       haveI := q16.i
       clear q14 q15 d6 d7
       try rw [hN23]
       clear hN23
       go_upto_region 28 with (fail)
       try rw [hN25]
       have q17 : Sat (Sl.block (N25 + 1) TTl [.int .i64 l1, .int .i64 l2, .int .i64 l3, .int .i64 l4, .int .i64 lh] * (treeP h s8 * (rw TEn 4 (.slice aj nj cj) (ecs js) * (Sl.block N23 TTl [.int .i64 p1, .int .i64 p2, .int .i64 p3, .int .i64 p4, .int .i64 ph] * (Sl.block (N + 1) TEr [.int .i64 0] * (Sl.block N TIt [.int .i64 0] * (B * F))))))) ((w15.alloc (.cells #[.int .i64 g1, .int .i64 g2, .int .i64 g3, .int .i64 g4, .int .i64 gh] TTl)).alloc (.cells #[.int .i64 l1, .int .i64 l2, .int .i64 l3, .int .i64 l4, .int .i64 lh] TTl)) := by
        rw [← hN25]
        exact satI_weak (C := Sl.block w15.heap.size TTl [.int .i64 g1, .int .i64 g2, .int .i64 g3, .int .i64 g4, .int .i64 gh]) (by ac_rfl)
       clear hN25 q16
       generalize (w15.alloc (.cells #[.int .i64 g1, .int .i64 g2, .int .i64 g3, .int .i64 g4, .int .i64 gh] TTl)).alloc (.cells #[.int .i64 l1, .int .i64 l2, .int .i64 l3, .int .i64 l4, .int .i64 lh] TTl) = w55 at q17 ⊢
       haveI := q17.i
       go_cut [27] from 28 to 185 (fun t27 wx => ∃ M : Nat, t27 = .pointer (some ⟨M, 0, none⟩) ∧ Sat (Sl.block M TTl [.int .i64 y1, .int .i64 y2, .int .i64 y3, .int .i64 y4, .int .i64 yh] * (treeP h s11 * (Sl.block (N + 1) TEr [.int .i64 0] * (Sl.block N TIt [.int .i64 0] * (B * F))))) wx)
       case first =>
        go_region_held3 (fun w' => w'.cell? ⟨N23, 0, none⟩ = some (.int .i64 p1) ∧ w'.cell? ⟨N23, 1, none⟩ = some (.int .i64 p2) ∧ w'.cell? ⟨N23, 2, none⟩ = some (.int .i64 p3) ∧ w'.cell? ⟨N23, 3, none⟩ = some (.int .i64 p4) ∧ w'.cell? ⟨N23, 4, none⟩ = some (.int .i64 ph) ∧ w'.cell? ⟨N25 + 1, 0, none⟩ = some (.int .i64 l1) ∧ w'.cell? ⟨N25 + 1, 1, none⟩ = some (.int .i64 l2) ∧ w'.cell? ⟨N25 + 1, 2, none⟩ = some (.int .i64 l3) ∧ w'.cell? ⟨N25 + 1, 3, none⟩ = some (.int .i64 l4) ∧ w'.cell? ⟨N25 + 1, 4, none⟩ = some (.int .i64 lh)) (first | exact ⟨cell_sat _ _ _, cell_sat _ _ _, cell_sat _ _ _, cell_sat _ _ _, cell_sat _ _ _, cell_sat _ _ _, cell_sat _ _ _, cell_sat _ _ _, cell_sat _ _ _, cell_sat _ _ _⟩) (first
         | (go_at_call 57
            with_reducible refine Calls.mono (d8 _ _ (takeI2 (treeP h s8) (rw TEn 4 (.slice aj nj cj) (ecs js)))) ?_
            rintro e w16 ⟨v16, G16, rfl, ⟨rfl, rfl⟩, q18⟩
            rw [one_sep] at q18
            haveI := q18.i)
         | (go_at_call 68
            with_reducible refine Calls.mono (d9 _ _ (takeI (treeP h s9))) ?_
            rintro e w17 ⟨v17, G17, rfl, ⟨rfl, rfl⟩, q19⟩
            rw [one_sep] at q19
            haveI := q19.i)
         | (go_at_call 68
            with_reducible refine Calls.mono (d10 _ _ (takeI (treeP h s10))) ?_
            rintro e w18 ⟨v18, G18, rfl, ⟨rfl, rfl⟩, q20⟩
            rw [one_sep] at q20
            haveI := q20.i))
        all_goals
         go_wp2
         go_meet
         exact ⟨_, rfl, keep6 _ _ _ _ _ _⟩
       case rest =>
        obtain ⟨M, rfl, q18⟩ := hcut
        haveI := q18.i
        clear q17
        go_wp2
        refine leaves_cons (f := 63) (args := #[.pointer (some ⟨N, 0, none⟩), .pointer (some ⟨N + 1, 0, none⟩)]) (by simp) (by simp [go_sem]) ?_
        refine (spliceC_idle _ _ _).mono ?_
        rintro e u' w19 ⟨rfl, rfl, rfl⟩
        show Leaves _ _ _ _ _ .returning _
        refine leaves_cons (f := 54) (args := #[.pointer (some ⟨h.t, 0, none⟩), .int .i64 s1.sp.taken.length, .pointer (some ⟨N + 1, 0, none⟩)]) (by simp) (by simp [go_sem]) ?_
        refine (undoD_ok _ _ (N + 1) _ _ _ (takeI (Sl.block (N + 1) TEr [.int .i64 0]))).mono ?_
        rintro e u' w20 ⟨rfl, rfl, q21⟩
        haveI := q21.i
        simp [Leaves, settle, results, Tryz.results21, go_sem]
        exact ⟨rfl, keep3 _ _ _⟩
end Go.Proofs.YteecnkneceemjaaGreat
namespace Go.Tr
section
variable {σ : Type}
def tPre (rd : Int → M σ Nd) (root at_ n all : Int) : M σ ((List Ent × Int) × (List Ent × Int) × Tall × Int × Int) :=
 M.bind (leftOf rd root at_) fun L => M.bind (rightOf rd root (at_ + n) all) fun R =>
 M.bind (tRooted rd root) fun whole => M.bind (tRank rd 30 whole R.2) fun r1 => M.bind (tRank rd 30 whole L.2) fun r0 => M.pure (L, R, whole, r1, r0)
variable {X : Env σ} (hX : X.Ok)
include hX in
theorem pre_ok {root : Int} {l put : List Ent} {s : σ} (hI : X.inv s) (hr : Rt (X.V s) root l) (hj : Joined l) (L : Nat) (hL4 : L ≤ 4) (hL : ∀ h : Nat, 2 * 4 ^ h ≤ l.length → h ≤ L) {at_ n : Int} (h0 : 0 ≤ at_) (hn : 0 ≤ n) (h1 : at_ + n ≤ eBytes l) :
 Step X s (5 * L + 5) 0 (tPre X.rd root at_ n (eBytes l)) (fun q s' => q.2.2.1.kid.scraps - q.2.2.2.1 + q.2.2.2.2 + ((join (q.1.1 ++ put ++ q.2.1.1)).length : Int) = ((spliceL l at_ n put).length : Int)) := by
 have hm := hr.fit.1
 unfold tPre
 refine (Step.bind (R2 := L + 1 + (L + 1 + (L + 1 + (L + 1 + 0)))) (W2 := 0)
  (leftOf_ok hX hI hr hj L hL h0 (by omega)) ?_).mono (by omega) (by omega) fun _ _ _ _ x => x
 rintro p s1 hI1 hle1 ⟨A, hA⟩
 refine Step.bind (W1 := 0) (W2 := 0) (rightOf_ok hX hI1 (hr.le hle1) hj L hL («to» := at_ + n) (by omega) h1) ?_
 rintro q s2 hI2 hle2 ⟨C, B, hC⟩
 obtain ⟨hp1, D, hp2, hp3⟩ := splice_parts (put := put) hm hj h0 hn hA hC
 have hr2 := (hr.le hle1).le hle2
 refine Step.bind (W1 := 0) (W2 := 0) (rooted_ok hX hI2 hr2 L hL) ?_
 rintro whole s3 hI3 hle3 ⟨t1, t2⟩
 have eC : l = C ++ B := hC.1
 have e2 : q.2 = eBytes C := hC.2.1
 have eA : p.2 = eBytes A := hA.2.1
 rw [e2, eA]
 have hw1 : Tl (X.V s3) whole (C ++ B) := by rw [← eC]; exact t1
 refine Step.bind (W1 := 0) (W2 := 0) ((rank_ok hX 30 (h := L) (by omega) hI3 hw1 t2)) ?_
 rintro r1 s4 hI4 hle4 rfl
 have hw2 : Tl (X.V s4) whole (A ++ (D ++ B)) := by rw [← hp3]; exact t1.le hle4
 refine Step.bind (W1 := 0) (W2 := 0) (R2 := 0) ((rank_ok hX 30 (h := L) (by omega) hI4 hw2 t2)) ?_
 rintro r0 s5 hI5 hle5 rfl
 refine Step.ret hI5 ?_
 simp only
 rw [t1.scraps, hp1, eC, hp2]
 simp only [List.length_append]
 omega
end
end Go.Tr
namespace Go.Proofs.YteecnkneceemjaaGreat
set_option linter.unusedSimpArgs false
set_option linter.unusedVariables false
open Go.RowKit Go.Sl Go.Dk Go.Tr
theorem step_get {α : Type} {s : TS} {R W : Nat} {m : M TS α} {Q : α → TS → Prop} (h : Step (envT true) s R W m Q) (hw : W ≤ roomOf s.sp) (hl : R + W ≤ leftOps s) :
 ∃ a s', m s = .ok a s' ∧ TInv true s' ∧ Le (nodeAt s) (nodeAt s') ∧ s'.ck.reads.toNat ≤ s.ck.reads.toNat + R ∧ roomOf s.sp ≤ roomOf s'.sp + W ∧ leftOps s ≤ leftOps s' + (R + W) ∧ Q a s' := by
 unfold Step at h
 cases hm : m s with
 | ok a s' =>
   rw [hm] at h
   obtain ⟨h1, h2, h3, h4, h5, h6⟩ := h
   exact ⟨a, s', rfl, h1, h2, h3, h4, h5, h6⟩
 | fault e s' =>
   rw [hm] at h
   obtain ⟨h1, _⟩ := h
   rcases h1 with ⟨h1, _⟩ | h1
   · cases h1
   · have : roomOf s.sp < W := h1
     omega
 | bad =>
   rw [hm] at h
   have : leftOps s < R + W := h
   omega
def SameSp (s s' : TS) : Prop := s'.sp = s.sp ∧ s'.ck.cap = s.ck.cap
theorem sameSp_goes : Goes SameSp where
 same s := ⟨rfl, rfl⟩
 next a b c h1 h2 := ⟨h2.1.trans h1.1, h2.2.trans h1.2⟩
def SameCap (s s' : TS) : Prop := s'.ck.cap = s.ck.cap
theorem sameCap_goes : Goes SameCap where
 same s := rfl
 next a b c h1 h2 := Eq.trans h2 h1
theorem release_cap (s : Ck) (no : Int) : (s.release no).2.cap = s.cap := by
 unfold Ck.release
 split <;> exact (write_same s no).2.1
theorem room_cap (s : Ck) : s.room.2.cap = s.cap := by
 unfold Ck.room
 split
 · rfl
 · split
   · rfl
   · exact release_cap s _
theorem take_cap (s : Ck) (no : Int) (b : List UInt8) : (s.take no b).2.cap = s.cap := by
 unfold Ck.take
 split <;> exact room_cap s
theorem get_cap (s : Ck) (no : Int) : (s.get no).2.2.cap = s.cap := by
 unfold Ck.get
 split
 · rfl
 · split
   · rfl
   · simp only
     split
     · split <;> exact take_cap s _ _
     · rfl
theorem put_cap (s : Ck) (no : Int) (b : List UInt8) : (s.put no b).2.cap = s.cap := by
 unfold Ck.put
 split
 · rfl
 · split
   · rfl
   · split <;> exact take_cap s _ _
theorem mFail_sp (P : TS → TS → Prop) (h : Goes P) (e : Int) : Keeps P (mFail e) := by
 unfold mFail
 split
 · exact Keeps.pure h _
 · exact Keeps.fail h _
theorem tRead_sp (p : Int) : Keeps SameSp (tRead p) := by
 refine Keeps.bind sameSp_goes (fun s => ?_) fun r => Keeps.bind sameSp_goes (mFail_sp _ sameSp_goes _) fun _ => ?_
 · unfold mGet
   by_cases h : s.ops < opsMax
   · rw [if_pos h]; exact ⟨rfl, get_cap _ _⟩
   · rw [if_neg h]; trivial
 · cases openNd p r.2 with
   | none => exact Keeps.fail sameSp_goes _
   | some n => exact Keeps.pure sameSp_goes _
theorem tRead_cap (p : Int) : Keeps SameCap (tRead p) := fun s => by
 have := tRead_sp p s
 cases h : tRead p s with
 | ok a s' => rw [h] at this; exact this.2
 | fault e s' => rw [h] at this; exact this.2
 | bad => trivial
theorem tWrite_cap (n : Nd) : Keeps SameCap (tWrite n) := by
 refine Keeps.ite (Keeps.fail sameCap_goes _) ?_
 refine Keeps.bind sameCap_goes (fun s => ?_) fun t => Keeps.bind sameCap_goes (mFail_sp _ sameCap_goes _) fun _ => Keeps.bind sameCap_goes (mFail_sp _ sameCap_goes _) fun _ => Keeps.bind sameCap_goes (fun s => put_cap _ _ _) fun e => Keeps.bind sameCap_goes (mFail_sp _ sameCap_goes _) fun _ => Keeps.pure sameCap_goes _
 unfold mTake
 by_cases h : s.ops < opsMax
 · rw [if_pos h]; rfl
 · rw [if_neg h]; trivial
theorem undone_same {s : TS} {m : Nat} (h : s.sp.taken.length = m) : s.undone m = s := by
 subst h
 unfold TS.undone spBack
 simp only [List.drop_length, List.take_length]
 show (⟨forgets (sortI (backGo [] s.sp.used []).2) s.ck, ⟨s.sp.reserved, (backGo [] s.sp.used []).1, s.sp.waiting, s.sp.taken⟩, s.ops⟩ : TS) = s
 have e : (backGo [] s.sp.used []) = (s.sp.used, []) := rfl
 rw [e]
 have e2 : sortI ([] : List Int) = [] := by simp [sortI]
 rw [e2]
 rfl
end Go.Proofs.YteecnkneceemjaaGreat
namespace Go.Proofs.YteecnkneceemjaaGreat
set_option linter.unusedSimpArgs false
set_option linter.unusedVariables false
open Go.RowKit Go.Sl Go.Dk Go.Tr
def buildR (l : List Ent) : Int × List Ent := if mayList l = false then (1, []) else if 1024 < (join l).length then (11, []) else (0, join l)
def spliceR (l : List Ent) (at_ n : Int) (put : List Ent) : Int × List Ent :=
 if mayList put = false then (1, []) else
 if at_ < 0 ∨ n < 0 ∨ eBytes l < at_ ∨ eBytes l - at_ < n then (2, []) else
 if 1048576 < eBytes l - n + eBytes put then (10, []) else
 if n = 0 ∧ put = [] then (0, l) else
 if 1024 < (spliceL l at_ n put).length then (11, []) else (0, spliceL l at_ n put)
structure Nxt (s s' : TS) (R W : Nat) : Prop where
 inv : TInv true s'
 le : Le (nodeAt s) (nodeAt s')
 reads : s'.ck.reads.toNat ≤ s.ck.reads.toNat + R
 room : roomOf s.sp ≤ roomOf s'.sp + W
 left : leftOps s ≤ leftOps s' + (R + W)
 cap : s'.ck.cap = s.ck.cap
theorem Nxt.refl {s : TS} (h : TInv true s) : Nxt s s 0 0 := ⟨h, Le.rfl' _, Nat.le_refl _, Nat.le_refl _, Nat.le_refl _, rfl⟩
theorem Nxt.more {s s' : TS} {R W R' W' : Nat} (h : Nxt s s' R W) (h1 : R ≤ R') (h2 : W ≤ W') : Nxt s s' R' W' := ⟨h.inv, h.le, by have := h.reads; omega, by have := h.room; omega, by have := h.left; omega, h.cap⟩
theorem Nxt.trans {s s1 s2 : TS} {R1 W1 R2 W2 : Nat} (h : Nxt s s1 R1 W1) (k : Nxt s1 s2 R2 W2) : Nxt s s2 (R1 + R2) (W1 + W2) :=
 ⟨k.inv, h.le.trans k.le, by have := h.reads; have := k.reads; omega, by have := h.room; have := k.room; omega, by have := h.left; have := k.left; omega, k.cap.trans h.cap⟩
theorem rt_zero {v : Int → Option Nd} {r : Int} {l : List Ent} (h : Rt v r l) : r = 0 ↔ l = [] := by
 rcases h with ⟨rfl, rfl⟩ | ⟨h, k, rfl, hs⟩
 · simp
 · have h1 := hs.fine.ne
   have h2 := mayK_facts hs.fine.may
   constructor
   · intro e; omega
   · intro e; exact absurd e h1
theorem fit_join {l : List Ent} (hm : mayList l = true) (h : ¬ 1024 < (join l).length) : Fit (join l) := by
 obtain ⟨h1, h2⟩ := mayList_parts hm
 exact ⟨join_may h1 h2, by rw [eBytes_join]; exact h2, by omega⟩
theorem bld_any (h : Th) (s : TS) (l : List Ent) (v : Value) (B F : Assn) (w : World) (hE : ReadsE B v l) (hs : Sat (treeP h s * (B * F)) w) (hI : TInv true s) (hl : l.length ≤ 65536) (hr : 2048 ≤ roomOf s.sp) (hf : 2048 ≤ leftOps s) :
 Calls Tryz.prog 16 #[.pointer (some ⟨h.t, 0, none⟩), v] w fun e w' => ∃ (r : Int) (s' : TS), e = .returned (vi2 r (buildR l).1) ∧ Sat (treeP h s' * (B * F)) w' ∧ Nxt s s' 0 2048 ∧ ((buildR l).1 = 0 → Rt (nodeAt s') r (buildR l).2) ∧ ((buildR l).1 ≠ 0 → r = 0) := by
 unfold buildR
 by_cases hm : mayList l = false
 · rw [if_pos hm]
   refine (build_no h s l v B F w hE hs hl hm).mono fun e w' hx => ?_
   unfold mBuild at hx
   rw [if_pos hm] at hx
   exact ⟨0, s, hx.1, hx.2, (Nxt.refl hI).more (by omega) (by omega), fun e => absurd e (by decide), fun _ => rfl⟩
 · rw [if_neg hm]
   have hm' : mayList l = true := by simpa using hm
   by_cases hj : 1024 < (join l).length
   · rw [if_pos hj]
     refine (build_go h s l v B F w hE hs hl hm' (by unfold mBuild; rw [if_neg hm, if_pos hj]; simp)).mono fun e w' hx => ?_
     unfold mBuild at hx
     rw [if_neg hm, if_pos hj] at hx
     exact ⟨0, s, hx.1, hx.2, (Nxt.refl hI).more (by omega) (by omega), fun e => absurd e (by decide), fun _ => rfl⟩
   · rw [if_neg hj]
     obtain ⟨r, s', hx, h1, h2, h3, h4, h5, h6⟩ := step_get (build_ok (envT_ok true) (s := s) hI (fit_join hm' hj)) hr (by omega)
     have hx' : tBuild tWrite (join l) s = .ok r s' := hx
     have hM : mBuild l s = .ok r s' := by unfold mBuild; rw [if_neg hm, if_neg hj, hx']; rfl
     have hcap := Keeps.ok (tBuild_keeps sameCap_goes tWrite_cap (join l)) hx'
     refine (build_go h s l v B F w hE hs hl hm' (by rw [hM]; simp)).mono fun e w' hy => ?_
     rw [hM] at hy
     exact ⟨r, s', hy.1, hy.2, ⟨h1, h2, h3, h4, h5, hcap⟩, fun _ => h6, fun e => absurd rfl e⟩
theorem siz_any (h : Th) (s : TS) (root : Int) (l : List Ent) (F : Assn) (w : World) (hs : Sat (treeP h s * F) w) (hI : TInv true s) (hR : Rt (nodeAt s) root l) (hf : 1 ≤ leftOps s) :
 ∃ s', tSize tRead root s = .ok (eBytes l) s' ∧ Nxt s s' 1 0 := by
 obtain ⟨r, s', hx, h1, h2, h3, h4, h5, rfl⟩ := step_get (size_ok (envT_ok true) (s := s) hI hR) (Nat.zero_le _) (by omega)
 have hx' : tSize tRead root s = .ok _ s' := hx
 exact ⟨s', hx', h1, h2, h3, h4, h5, (show SameCap s s' from Keeps.ok (tSize_keeps sameCap_goes tRead_cap root) hx')⟩
theorem size_call (h : Th) (s : TS) (root : Int) (l : List Ent) (F : Assn) (w : World) (hs : Sat (treeP h s * F) w) (hI : TInv true s) (hR : Rt (nodeAt s) root l) (hf : 1 ≤ leftOps s) :
 Calls Tryz.prog 37 #[.pointer (some ⟨h.t, 0, none⟩), .int .i64 root] w fun e w' => ∃ s', e = .returned (vi2 (eBytes l) 0) ∧ Sat (treeP h s' * F) w' ∧ Nxt s s' 1 0 := by
 obtain ⟨s', hx, hn⟩ := siz_any h s root l F w hs hI hR hf
 refine (size_tany h s root F w hs (by rw [hx]; simp)).mono fun e w' hy => ?_
 rw [hx] at hy
 exact ⟨s', hy.1, hy.2, hn⟩
def SeekOk (l : List Ent) (at_ : Int) (x : Ent) (a e : Int) : Prop :=
 if at_ < 0 ∨ eBytes l ≤ at_ then x = ⟨0, 0, 0, 0⟩ ∧ a = 0 ∧ e = 2 else e = 0 ∧ ∃ l1 l2, l = l1 ++ x :: l2 ∧ a = eBytes l1 ∧ eBytes l1 ≤ at_ ∧ at_ < eBytes l1 + x.len
theorem seek_call (h : Th) (s : TS) (root at_ : Int) (l : List Ent) (F : Assn) (w : World) (hs : Sat (treeP h s * F) w) (hI : TInv true s) (hR : Rt (nodeAt s) root l) (L : Nat) (hL : ∀ h : Nat, 2 * 4 ^ h ≤ l.length → h ≤ L) (hf : L + 2 ≤ leftOps s) :
 Calls Tryz.prog 20 #[.pointer (some ⟨h.t, 0, none⟩), .int .i64 root, .int .i64 at_] w fun en w' => ∃ (x : Ent) (a e : Int) (s' : TS), en = .returned (seekV x a e) ∧ Sat (treeP h s' * F) w' ∧ Nxt s s' (L + 2) 0 ∧ SeekOk l at_ x a e := by
 obtain ⟨s1, hx, hn⟩ := siz_any h s root l F w hs hI hR (by omega)
 unfold SeekOk
 by_cases hc : at_ < 0 ∨ eBytes l ≤ at_
 · have hM : mSeek root at_ s = .fault 2 s1 := by unfold mSeek M.bind; rw [hx]; simp only [Res.bind]; rw [if_pos hc]; rfl
   refine (seek_tany h s root at_ F w hs (by rw [hM]; simp)).mono fun e w' hy => ?_
   rw [hM] at hy
   exact ⟨_, _, _, s1, hy.1, hy.2, hn.more (by omega) (by omega), by rw [if_pos hc]; exact ⟨rfl, rfl, rfl⟩⟩
 · obtain ⟨z, s2, hz, h1, h2, h3, h4, h5, h6⟩ := step_get (seek_ok (envT_ok true) hn.inv (hR.le hn.le) L hL at_ (by omega) (by omega)) (Nat.zero_le _) (by have := hn.left; omega)
   have hz' : tSeek tRead root at_ s1 = .ok z s2 := hz
   have hM : mSeek root at_ s = .ok z s2 := by unfold mSeek M.bind; rw [hx]; simp only [Res.bind]; rw [if_neg hc]; exact hz'
   have hcap := Keeps.ok (tSeek_keeps sameCap_goes tRead_cap root at_) hz'
   refine (seek_tany h s root at_ F w hs (by rw [hM]; simp)).mono fun e w' hy => ?_
   rw [hM] at hy
   exact ⟨z.1, z.2, 0, s2, hy.1, hy.2, (hn.trans ⟨h1, h2, h3, h4, h5, hcap⟩).more (by omega) (by omega), by rw [if_neg hc]; exact ⟨rfl, h6⟩⟩
theorem splice_call (h : Th) (s : TS) (root at_ n : Int) (l put : List Ent) (v : Value) (B F : Assn) (w : World) (hE : ReadsE B v put) (hs : Sat (treeP h s * (B * F)) w) (hl : put.length ≤ 1000) (hI : TInv true s) (hR : Rt (nodeAt s) root l) (hj : Joined l)
 (L : Nat) (hL4 : L ≤ 4) (hL : ∀ h : Nat, 2 * 4 ^ h ≤ l.length → h ≤ L) (hr : 2600 ≤ roomOf s.sp) (hf : 2800 ≤ leftOps s) :
 Calls Tryz.prog 21 #[.pointer (some ⟨h.t, 0, none⟩), .int .i64 root, .int .i64 at_, .int .i64 n, v] w fun e w' => ∃ (r : Int) (s' : TS), e = .returned (vi2 r (spliceR l at_ n put).1) ∧ Sat (treeP h s' * (B * F)) w' ∧ Nxt s s' (2 * (L * L) + 17 * L + 20) 2600 ∧
  ((spliceR l at_ n put).1 = 0 → Rt (nodeAt s') r (spliceR l at_ n put).2) ∧ ((spliceR l at_ n put).1 ≠ 0 → r = 0) ∧ ((spliceR l at_ n put).1 = 0 → n = 0 → put = [] → r = root) := by
 have hLL : L * L ≤ 16 := by have := Nat.mul_le_mul hL4 hL4; omega
 unfold spliceR
 by_cases hm : mayList put = false
 · rw [if_pos hm]
   refine (splice_may h s root at_ n put v B F w hE hs (by omega) hm).mono fun e w' hx => ?_
   exact ⟨0, s, hx.1, hx.2, (Nxt.refl hI).more (by omega) (by omega), fun e => absurd e (by decide), fun _ => rfl, fun e => absurd e (by decide)⟩
 rw [if_neg hm]
 have hm' : mayList put = true := by simpa using hm
 obtain ⟨s1, hz, hn⟩ := siz_any h s root l (B * F) w hs hI hR (by omega)
 by_cases hc : at_ < 0 ∨ n < 0 ∨ eBytes l < at_ ∨ eBytes l - at_ < n
 · rw [if_pos hc]
   refine (splice_range h s root at_ n put v B F w hE hs (by omega) hm' _ s1 hz hc).mono fun e w' hx => ?_
   exact ⟨0, s1, hx.1, hx.2, hn.more (by omega) (by omega), fun e => absurd e (by decide), fun _ => rfl, fun e => absurd e (by decide)⟩
 rw [if_neg hc]
 by_cases hbg : 1048576 < eBytes l - n + eBytes put
 · rw [if_pos hbg]
   refine (splice_big h s root at_ n put v B F w hE hs (by omega) hm' _ s1 hz (by omega) (by omega) (by omega) (by omega) hbg).mono fun e w' hx => ?_
   exact ⟨0, s1, hx.1, hx.2, hn.more (by omega) (by omega), fun e => absurd e (by decide), fun _ => rfl, fun e => absurd e (by decide)⟩
 rw [if_neg hbg]
 by_cases hno : n = 0 ∧ put = []
 · rw [if_pos hno]
   refine (splice_none h s root at_ n put v B F w hE hs (by omega) hm' _ s1 hz (by omega) (by omega) (by omega) (by omega) hbg hno.1 hno.2).mono fun e w' hx => ?_
   exact ⟨root, s1, hx.1, hx.2, hn.more (by omega) (by omega), fun _ => hR.le hn.le, fun e => absurd rfl e, fun _ _ _ => rfl⟩
 rw [if_neg hno]
 have hput := (mayList_parts hm').1
 have hl1 := hn.left
 have hr1 := hn.room
 obtain ⟨⟨PL, PR, whole, r1, r0⟩, s6, hpre, p1, p2, p3, p4, p5, p6⟩ := step_get (pre_ok (put := put) (envT_ok true) hn.inv (hR.le hn.le) hj L hL4 hL (at_ := at_) (n := n) (by omega) (by omega) (by omega)) (Nat.zero_le _) (by omega)
 simp only at p6
 have hpre' : tPre tRead root at_ n (eBytes l) s1 = .ok (PL, PR, whole, r1, r0) s6 := hpre
 unfold tPre at hpre'
 obtain ⟨a1, s2, e1, g1⟩ := bind_out hpre'
 obtain ⟨a2, s3, e2, g2⟩ := bind_out g1
 obtain ⟨a3, s4, e3, g3⟩ := bind_out g2
 obtain ⟨a4, s5, e4, g4⟩ := bind_out g3
 obtain ⟨a5, s6', e5, g5⟩ := bind_out g4
 cases g5
 have HA : SpA s1 root at_ n (eBytes l) PL PR whole r1 r0 s2 s3 s4 s5 s6 := ⟨e1, e2, e3, e4, e5⟩
 have hsp : SameSp s1 s6 := by
  have q1 := Keeps.ok (leftOf_keeps sameSp_goes tRead_sp root at_) e1
  have q2 := Keeps.ok (rightOf_keeps sameSp_goes tRead_sp root (at_ + n) (eBytes l)) e2
  have q3 := Keeps.ok (tRooted_keeps sameSp_goes tRead_sp root) e3
  have q4 := Keeps.ok (tRank_keeps sameSp_goes tRead_sp 30 whole PR.2) e4
  have q5 := Keeps.ok (tRank_keeps sameSp_goes tRead_sp 30 whole PL.2) e5
  exact sameSp_goes.next _ _ _ q1 (sameSp_goes.next _ _ _ q2 (sameSp_goes.next _ _ _ q3 (sameSp_goes.next _ _ _ q4 q5)))
 by_cases hmany : 1024 < (spliceL l at_ n put).length
 · rw [if_pos hmany]
   have hu : s6.undone s1.sp.taken.length = s6 := undone_same (by rw [hsp.1])
   refine (splice_main h s root at_ n put v B F w hE hs hl hm' _ s1 hz (by omega) (by omega) (by omega) (by omega) hbg (fun e1 e2 => hno ⟨e1, e2⟩) PL PR whole r1 r0 s2 s3 s4 s5 s6 HA (.fault 11 s6) (fun _ => by rw [hu]) (fun hq => absurd (by rw [p6]; omega) hq)).mono fun e w' hx => ?_
   exact ⟨0, s6, hx.1, hx.2, (hn.trans ⟨p1, p2, p3, p4, p5, hsp.2⟩).more (by omega) (by omega), fun e => absurd e (by decide), fun _ => rfl, fun e => absurd e (by decide)⟩
 · rw [if_neg hmany]
   obtain ⟨r, s11, hsr, b1, b2, b3, b4, b5, b6⟩ := step_get ((splice_ok (envT_ok true) hn.inv (hR.le hn.le) hj L hL4 hL (at_ := at_) (n := n) (by omega) (by omega) (by omega) hput (by omega)).1 (by omega)) (by omega) (by omega)
   have hsr' : tSplice tRead tWrite root at_ n (eBytes l) put s1 = .ok r s11 := hsr
   have hcap := Keeps.ok (tSplice_keeps sameCap_goes tRead_cap tWrite_cap root at_ n (eBytes l) put) hsr'
   have hrest : M.bind (tParted tRead tWrite 30 whole PL.2) (fun p => M.bind (tParted tRead tWrite 30 p.2 (PR.2 - PL.2)) fun q => M.bind (tLeaves tWrite (join (PL.1 ++ put ++ PR.1))) fun m => M.bind (tPut tRead tWrite p.1 m) fun x => M.bind (tPut tRead tWrite x q.2) fun y => M.pure y.kid.page) s6 = .ok r s11 := by
    have hh := hsr'
    unfold tSplice at hh
    have i1 := bind_go hh e1
    have i2 := bind_go i1 e2
    have i3 := bind_go i2 e3
    have i4 := bind_go i3 e4
    have i5 := bind_go i4 e5
    rw [if_neg (by rw [p6]; omega)] at i5
    exact i5
   obtain ⟨p, s7, f1, j1⟩ := bind_out hrest
   obtain ⟨q, s8, f2, j2⟩ := bind_out j1
   obtain ⟨m, s9, f3, j3⟩ := bind_out j2
   obtain ⟨x, s10, f4, j4⟩ := bind_out j3
   obtain ⟨y, s11', f5, j5⟩ := bind_out j4
   cases j5
   refine (splice_main h s root at_ n put v B F w hE hs hl hm' _ s1 hz (by omega) (by omega) (by omega) (by omega) hbg (fun e1 e2 => hno ⟨e1, e2⟩) PL PR whole r1 r0 s2 s3 s4 s5 s6 HA (.ok y.kid.page s11) (fun hq => absurd hq (by rw [p6]; omega)) (fun _ => ⟨p, q, m, x, y, s7, s8, s9, s10, s11, ⟨f1, f2, f3, f4, f5⟩, rfl⟩)).mono fun e w' hx => ?_
   exact ⟨_, s11, hx.1, hx.2, (hn.trans ⟨b1, b2, b3, b4, b5, hcap⟩).more (by omega) (by omega), fun _ => b6, fun e => absurd rfl e, fun _ e1 e2 => absurd ⟨e1, e2⟩ hno⟩
end Go.Proofs.YteecnkneceemjaaGreat
namespace Go.Tr
theorem cutE_may {x : Ent} (h : mayEnt x = true) {a n : Int} (h0 : 0 ≤ a) (h1 : 1 ≤ n) (h2 : a + n ≤ x.len) : mayEnt (cutE x a n) = true := by
 rw [mayE_iff] at h ⊢
 unfold cutE
 simp only
 refine ⟨h.1, by omega, by omega, by omega, by omega, by omega, ?_, ?_⟩
 · split <;> omega
 · rcases h.2.2.2.2.2.2.2 with h3 | h3
   · exact .inl h3
   · right
     rw [if_neg (by omega)]
theorem first_may : ∀ (l : List Ent) (n : Int), (∀ x ∈ l, mayEnt x = true) → (∀ x ∈ (first l n).1, mayEnt x = true) ∧ (∀ x ∈ (first l n).2, mayEnt x = true)
 | [], n, _ => by simp [first]
 | x :: l, n, hm => by
   have ih := first_may l (n - x.len) fun y hy => hm y (List.mem_cons_of_mem _ hy)
   have hx := hm x List.mem_cons_self
   rw [first_cons]
   split
   · exact ⟨fun y hy => by rcases List.mem_cons.1 hy with rfl | hy; exact hx; exact ih.1 y hy, ih.2⟩
   split
   · exact ⟨ih.1, fun y hy => by rcases List.mem_cons.1 hy with rfl | hy; exact hx; exact ih.2 y hy⟩
   · exact ⟨fun y hy => by rcases List.mem_cons.1 hy with rfl | hy; exact cutE_may hx (by omega) (by omega) (by omega); exact ih.1 y hy, fun y hy => by rcases List.mem_cons.1 hy with rfl | hy; exact cutE_may hx (by omega) (by omega) (by omega); exact ih.2 y hy⟩
theorem first_sum : ∀ (l : List Ent) (n : Int), eBytes (first l n).1 + eBytes (first l n).2 = eBytes l
 | [], n => by simp [first, eBytes]
 | x :: l, n => by
   have ih := first_sum l (n - x.len)
   rw [first_cons, eBytes_cons]
   split
   · simp only [eBytes_cons]; omega
   split
   · simp only [eBytes_cons]; omega
   · simp only [eBytes_cons]; unfold cutE; simp only; omega
theorem first_bytes (l : List Ent) (n : Int) (hm : ∀ x ∈ l, mayEnt x = true) (h0 : 0 ≤ n) (h1 : n ≤ eBytes l) : eBytes (first l n).1 = n := by
 induction l generalizing n with
 | nil => simp [eBytes] at h1; simp [first, eBytes]; omega
 | cons x l ih =>
   have hx := mayE_iff.1 (hm x List.mem_cons_self)
   rw [eBytes_cons] at h1
   rw [first_cons]
   split
   · rename_i h2
     rw [eBytes_cons, ih (n - x.len) (fun y hy => hm y (List.mem_cons_of_mem _ hy)) (by omega) (by omega)]
     omega
   · rename_i h2
     have hno := first_none l (n - x.len) (by omega) fun y hy => hm y (List.mem_cons_of_mem _ hy)
     split
     · simp only [hno]
       simp [eBytes]
       omega
     · simp only [hno]
       unfold cutE
       simp [eBytes]
theorem splice_out {l put : List Ent} {at_ n : Int} (hm : ∀ x ∈ l, mayEnt x = true) (hp : ∀ x ∈ put, mayEnt x = true) (h0 : 0 ≤ at_) (hn : 0 ≤ n) (h1 : at_ + n ≤ eBytes l) :
 (∀ x ∈ (first l at_).1 ++ put ++ (first (first l at_).2 n).2, mayEnt x = true) ∧ eBytes ((first l at_).1 ++ put ++ (first (first l at_).2 n).2) = eBytes l - n + eBytes put := by
 have m1 := first_may l at_ hm
 have m2 := first_may (first l at_).2 n m1.2
 have s1 := first_sum l at_
 have s2 := first_sum (first l at_).2 n
 have b1 := first_bytes l at_ hm h0 (by omega)
 have b2 := first_bytes (first l at_).2 n m1.2 hn (by omega)
 refine ⟨fun x hx => ?_, ?_⟩
 · rcases List.mem_append.1 hx with hx | hx
   · rcases List.mem_append.1 hx with hx | hx
     · exact m1.1 x hx
     · exact hp x hx
   · exact m2.2 x hx
 · rw [eBytes_append, eBytes_append]
   omega
end Go.Tr
namespace Go.Proofs.YteecnkneceemjaaGreat
open Go.Tr
def GoodL (l : List Ent) : Prop := Fit l ∧ Joined l
theorem good_nil : GoodL [] := ⟨⟨by simp, by simp [eBytes], by simp⟩, trivial⟩
theorem good_join {l : List Ent} (h : ∀ x ∈ l, mayEnt x = true) (hb : eBytes l ≤ 1048576) (hl : ¬ 1024 < (join l).length) : GoodL (join l) := ⟨⟨join_may h hb, by rw [eBytes_join]; exact hb, by omega⟩, joined_join l⟩
theorem buildR_good {l : List Ent} (h : (buildR l).1 = 0) : GoodL (buildR l).2 := by
 unfold buildR at h ⊢
 by_cases hm : mayList l = false
 · rw [if_pos hm] at h; cases h
 · rw [if_neg hm] at h ⊢
   by_cases hj : 1024 < (join l).length
   · rw [if_pos hj] at h; cases h
   · rw [if_neg hj]
     obtain ⟨h1, h2⟩ := mayList_parts (by simpa using hm)
     exact good_join h1 h2 hj
theorem spliceR_good {l put : List Ent} {at_ n : Int} (hl : GoodL l) (h : (spliceR l at_ n put).1 = 0) : GoodL (spliceR l at_ n put).2 := by
 unfold spliceR at h ⊢
 by_cases hm : mayList put = false
 · rw [if_pos hm] at h; cases h
 rw [if_neg hm] at h ⊢
 by_cases hc : at_ < 0 ∨ n < 0 ∨ eBytes l < at_ ∨ eBytes l - at_ < n
 · rw [if_pos hc] at h; cases h
 rw [if_neg hc] at h ⊢
 by_cases hb : 1048576 < eBytes l - n + eBytes put
 · rw [if_pos hb] at h; cases h
 rw [if_neg hb] at h ⊢
 by_cases hz : n = 0 ∧ put = []
 · rw [if_pos hz]; exact hl
 rw [if_neg hz] at h ⊢
 by_cases hj : 1024 < (spliceL l at_ n put).length
 · rw [if_pos hj] at h; cases h
 rw [if_neg hj]
 obtain ⟨h1, h2⟩ := mayList_parts (by simpa using hm : mayList put = true)
 obtain ⟨o1, o2⟩ := splice_out (n := n) (at_ := at_) hl.1.1 h1 (by omega) (by omega) (by omega)
 exact good_join o1 (by omega) hj
end Go.Proofs.YteecnkneceemjaaGreat
namespace Go.Proofs.YteecnkneceemjaaGreat
set_option linter.unusedSimpArgs false
set_option linter.unusedVariables false
open Go.RowKit Go.Sl Go.Dk Go.Tr
attribute [local go_sem ↓] Go.wp_at_zero Go.wp_at_succ
attribute [local go_sem] Go.Sl.cell_sat Go.Sl.frozen_sat
set_option maxRecDepth 100000 in
set_option maxHeartbeats 3200000 in
theorem rsame_any (la lb : List Ent) (va vb : Value) (B F : Assn) (w : World) (hA : ReadsE B va la) (hB : ReadsE B vb lb) (hs : Sat (B * F) w) (hl : la.length ≤ 65536) (hl' : lb.length ≤ 65536) :
 Calls Tryz.prog 14 #[va, vb] w fun e w' => e = .returned (.bool (decide (la = lb))) ∧ Sat (B * F) w' := by
 obtain ⟨a0, c0, rfl, hA1, hA2⟩ := hA.v
 obtain ⟨a1, c1, rfl, hB1, hB2⟩ := hB.v
 have HA : Aside (ReadsE B (.slice a0 la.length c0) la) := hA
 have HB : Aside (ReadsE B (.slice a1 lb.length c1) lb) := hB
 obtain ⟨na, hna⟩ : ∃ nl, la.length = nl := ⟨_, rfl⟩
 obtain ⟨nb, hnb⟩ : ∃ nl, lb.length = nl := ⟨_, rfl⟩
 have HN : Aside (la.length = na ∧ lb.length = nb) := ⟨hna, hnb⟩
 obtain ⟨r, hr⟩ : ∃ r, decide (la = lb) = r := ⟨_, rfl⟩
 have HR : Aside (decide (la = lb) = r) := hr
 rw [hna] at hl hA1
 rw [hnb] at hl' hB1
 rw [hna, hnb, hr]
 haveI := hs.i
 clear hA hB hna hnb hr
 by_cases hne : na = nb
 · subst hne
   have b1 : ((na : Int) != (na : Int)) = false := by simp
   go_enter Tryz.func14, Tryz.ntmps14
   go_wp2
   go_loopg [5] na (fun g t5 wr => ∃ (j : Nat), t5 = .int .i64 j ∧ j ≤ na ∧ Aside (g = na - j ∧ la.take j = lb.take j) ∧ Sat (B * F) wr)
   case atStart => exact ⟨0, rfl, by omega, ⟨rfl, by simp⟩, hs⟩
   case round =>
    obtain ⟨j, rfl, hj, J, hsr⟩ := hrel
    clear hs this
    haveI := hsr.i
    by_cases hlj : j < na
    · have hlj' : (j : Int) < na := by omega
      obtain ⟨y, hy⟩ : ∃ y, la[j]? = some y := ⟨_, List.getElem?_eq_getElem (by have := HN.out; omega)⟩
      obtain ⟨z, hz⟩ : ∃ y, lb[j]? = some y := ⟨_, List.getElem?_eq_getElem (by have := HN.out; omega)⟩
      obtain ⟨b, q, rfl, r1, r2, r3, r4⟩ := readsE_at HA.out hy
      obtain ⟨b', q', rfl, s1, s2, s3, s4⟩ := readsE_at HB.out hz
      have HY : Aside (la[j]? = some y ∧ lb[j]? = some z) := ⟨hy, hz⟩
      clear hy hz
      by_cases hyz : y = z
      · have HE : Aside (la.take (j + 1) = lb.take (j + 1)) := (by rw [take_snoc' HY.out.1, take_snoc' HY.out.2, J.out.2, hyz] : _ = _)
        subst hyz
        obtain ⟨y1, y2, y3, y4⟩ := y
        simp only at r1 r2 r3 r4 s1 s2 s3 s4
        go_wp2_with fail
        go_region
        go_wp2
        go_roundg (na - (j + 1))
        case measure => have := J.out.1; omega
        case rel => exact ⟨j + 1, by go_num, by omega, ⟨rfl, HE.out⟩, keep2 _ _⟩
      · have HF : Aside (r = false) := by
         rw [← HR.out]
         apply decide_eq_false
         intro e
         rw [e, HY.out.2] at HY
         exact hyz (Option.some.inj HY.out.1).symm
        obtain ⟨y1, y2, y3, y4⟩ := y
        obtain ⟨z1, z2, z3, z4⟩ := z
        simp only at r1 r2 r3 r4 s1 s2 s3 s4
        have hd : ¬ (y1 = z1 ∧ y2 = z2 ∧ y3 = z3 ∧ y4 = z4) := by simpa using hyz
        clear hyz HR HY
        by_cases e1 : ¬ y1 = z1
        · clear hd
          go_wp2_with fail
          go_region
          go_wp2
          go_ret
          exact ⟨by rw [HF.out]; rfl, keep2 B F⟩
        have e1 := Classical.not_not.1 e1
        subst e1
        by_cases e2 : ¬ y2 = z2
        · clear hd
          go_wp2_with fail
          go_region
          go_wp2
          go_ret
          exact ⟨by rw [HF.out]; rfl, keep2 B F⟩
        have e2 := Classical.not_not.1 e2
        subst e2
        by_cases e3 : ¬ y3 = z3
        · clear hd
          go_wp2_with fail
          go_region
          go_wp2
          go_ret
          exact ⟨by rw [HF.out]; rfl, keep2 B F⟩
        have e3 := Classical.not_not.1 e3
        subst e3
        by_cases e4 : y4 = z4
        · exact absurd ⟨rfl, rfl, rfl, e4⟩ hd
        · clear hd
          go_wp2_with fail
          go_region
          go_wp2
          go_ret
          exact ⟨by rw [HF.out]; rfl, keep2 B F⟩
    · have hlj' : ¬ (j : Int) < na := by omega
      have HF : Aside (r = true) := by
       rw [← HR.out]
       apply decide_eq_true
       have h := J.out.2
       rwa [List.take_of_length_le (by rw [HN.out.1]; omega), List.take_of_length_le (by rw [HN.out.2]; omega)] at h
      go_wp2
      go_ret
      exact ⟨by rw [HF.out]; rfl, keep2 B F⟩
 · have HF : Aside (r = false) := by
    rw [← HR.out]
    apply decide_eq_false
    intro e
    apply hne
    rw [← HN.out.1, ← HN.out.2, e]
   have b1 : ((na : Int) != (nb : Int)) = true := by simp; omega
   have b2 : ((na : Int) == (nb : Int)) = false := by simp; omega
   go_enter Tryz.func14, Tryz.ntmps14
   go_wp2
   go_ret
   exact ⟨by rw [HF.out]; rfl, keep2 B F⟩
end Go.Proofs.YteecnkneceemjaaGreat
namespace Go.Proofs.YteecnkneceemjaaGreat
set_option linter.unusedSimpArgs false
set_option linter.unusedVariables false
open Go.RowKit Go.Sl Go.Dk Go.Tr
attribute [local go_sem ↓] Go.wp_at_zero Go.wp_at_succ
attribute [local go_sem] Go.Sl.cell_sat Go.Sl.frozen_sat
def lentA (g c : Nat) (l : List Ent) : Assn := rw TEn 4 (.slice (some ⟨g, 0, none⟩) (l.length + 1) c) (ecs (l ++ [⟨0, 0, 0, 77⟩]))
theorem ReadsR.front {s : Nat} {B : Assn} {a : Option Addr} {n m c : Nat} {cs ds : List Value} (h : ReadsR s B (.slice a m c) m (cs ++ ds)) (hn : cs.length = n * s) (hm : n ≤ m) : ReadsR s B (.slice a n c) n cs := by
 obtain ⟨_, a', c', e, h2, h3, h4⟩ := h
 cases e
 exact ⟨hn, a, c, rfl, by omega, h3, fun j u hj => h4 j u (by rw [List.getElem?_append_left (List.getElem?_eq_some_iff.1 hj).1]; exact hj)⟩
theorem lent_reads {g c : Nat} {l : List Ent} {F : Assn} {w : World} (hs : Sat (lentA g c l * F) w) : ReadsE (lentA g c l) (.slice (some ⟨g, 0, none⟩) l.length c) l ∧ l.length + 1 ≤ c := by
 unfold lentA at hs ⊢
 have h := readsE_rw hs (by simp)
 have e3 : (l ++ [(⟨0, 0, 0, 77⟩ : Ent)]).length = l.length + 1 := by simp
 unfold ReadsE at h
 rw [e3] at h
 obtain ⟨a', c', e, h2, h3⟩ := h.v
 cases e
 have e2 : ecs (l ++ [⟨0, 0, 0, 77⟩]) = ecs l ++ erow ⟨0, 0, 0, 77⟩ := ecs_last _ _
 refine ⟨?_, by simpa using h2⟩
 have h5 : ReadsR 4 (rw TEn 4 (.slice (some ⟨g, 0, none⟩) (l.length + 1) c) (ecs (l ++ [⟨0, 0, 0, 77⟩]))) (.slice (some ⟨g, 0, none⟩) (l.length + 1) c) (l.length + 1) (ecs l ++ erow ⟨0, 0, 0, 77⟩) := by
  rw [← e2]
  exact h
 exact ReadsR.front h5 (ecs_len l) (by omega)
set_option maxRecDepth 100000 in
set_option maxHeartbeats 1600000 in
theorem lent_any (l : List Ent) (v : Value) (B F : Assn) (w : World) (hE : ReadsE B v l) (hs : Sat (B * F) w) (hl : l.length ≤ 65536) :
 Calls Tryz.prog 45 #[v] w fun e w' => ∃ g c, e = .returned (.slice (some ⟨g, 0, none⟩) l.length c) ∧ Sat (lentA g c l * (B * F)) w' := by
 obtain ⟨i0, E⟩ := elemEn
 have SE : Aside (∀ (F : Assn) (w : World), Sat (B * F) w → Src Tryz.prog 4 w v l.length (ecs l)) := fun F w h => ReadsR.src hE (ecs_one l) h
 obtain ⟨a0, c0, rfl, hE1, hE2⟩ := hE.v
 unfold lentA
 rw [ecs_last]
 unfold erow
 obtain ⟨n, hn⟩ : ∃ n, l.length = n := ⟨_, rfl⟩
 obtain ⟨xs, hxs⟩ : ∃ xs, ecs l = xs := ⟨_, rfl⟩
 rw [hn] at hl hE1 SE ⊢
 rw [hxs] at SE ⊢
 haveI := hs.i
 clear hE hn hxs
 go_enter Tryz.func45, Tryz.ntmps45
 go_wp2_with (first
  | (at_builtin; refine wpl_append_same E rfl (.tmp 4) (.tmp 5) rfl rfl rfl (Sat.rw_nil (e := TEn) (s := 4) satI) (SE.out _ _ (takeI B)) (by unfold maxLen; omega) (by omega) ?_; intro a1 c1 w1 q1 z1; clear z1; rw [List.nil_append] at q1; rw [Nat.zero_add] at q1 ⊢; haveI := q1.i)
  | (at_builtin; refine wpl_append_same E rfl (.tmp 7) (.tmp 9) rfl rfl rfl (takeI (rw TEn 4 (.slice a1 n c1) xs)) (Src.new (b := w1.heap.size) (e := TEn) (s := 4) (vs := [.int .i64 0, .int .i64 0, .int .i64 0, .int .i64 77]) (takeI _) rfl (by intro u hu; simp at hu; rcases hu with rfl | rfl | rfl | rfl <;> rfl)) (by unfold maxLen; omega) (by omega) ?_; intro a2 c2 w2 q2 z2; clear z2; obtain ⟨g, rfl⟩ := row_some q2 (by omega); have hc := rw_max q2; haveI := q2.i))
 go_ret
 exact ⟨g, c2, rfl, keep3 _ B F⟩
set_option maxRecDepth 100000 in
set_option maxHeartbeats 1600000 in
theorem kept_any (l : List Ent) (g c : Nat) (v : Value) (B F : Assn) (w : World) (hE : ReadsE B v l) (hs : Sat (lentA g c l * (B * F)) w) (hl : l.length ≤ 65536) :
 Calls Tryz.prog 47 #[.slice (some ⟨g, 0, none⟩) l.length c, v] w fun e w' => e = .returned (.bool true) ∧ Sat (lentA g c l * (B * F)) w' := by
 obtain ⟨hg, hc⟩ := lent_reads hs
 have hsm := fun F w h => rsame_any l l _ _ (lentA g c l * B) F w (ReadsR.left hg) (ReadsR.right hE) h hl hl
 rw [decide_eq_true rfl] at hsm
 obtain ⟨a0, c0, rfl, hE1, hE2⟩ := hE.v
 have hs2 : Sat ((lentA g c l * B) * F) w := hs.eq (by ac_rfl)
 have hu : ∀ w1 : World, Sat ((lentA g c l * B) * F) w1 → w1.cell? ⟨g, l.length * 4 + 3, none⟩ = some (.int .i64 77) ∧ Sat (lentA g c l * (B * F)) w1 := fun w1 h => by
  have h2 : Sat (lentA g c l * (B * F)) w1 := h.eq (by ac_rfl)
  refine ⟨?_, h2⟩
  unfold lentA at h2
  haveI := h2.i
  have t3 := ecs_at l ⟨0, 0, 0, 77⟩ l.length rfl 3 _ rfl
  haveI : At (ecs (l ++ [⟨0, 0, 0, 77⟩])) (l.length * 4 + 3) (.int .i64 77) := ⟨t3⟩
  exact cell_sat _ _ _
 have HU : Aside (∀ w1 : World, Sat ((lentA g c l * B) * F) w1 → w1.cell? ⟨g, l.length * 4 + 3, none⟩ = some (.int .i64 77) ∧ Sat (lentA g c l * (B * F)) w1) := hu
 obtain ⟨n, hn⟩ : ∃ n, l.length = n := ⟨_, rfl⟩
 rw [hn] at hsm hc hl HU ⊢
 have hc2 : (n : Int) < c := by omega
 have hc3 : n + 1 ≤ c := by omega
 have hc4 : (n : Int) + 1 ≤ c := by omega
 have hw : IntKind.i64.wrap ((n : Int) + 1) = (n : Int) + 1 := IntWalk.i64_in _ (by omega)
 have hn1 : (n : Int) < (n : Int) + 1 := by omega
 have hn2 : (0 : Int) ≤ (n : Int) := by omega
 clear hE hg hu hn
 go_enter Tryz.func47, Tryz.ntmps47
 go_wp2_with fail
 refine (hsm _ _ hs2).mono ?_
 rintro e w1 ⟨rfl, q1⟩
 obtain ⟨h77, q2⟩ := HU.out _ q1
 clear hsm hs hs2 q1
 go_wp2
 go_ret
 exact ⟨rfl, q2⟩
end Go.Proofs.YteecnkneceemjaaGreat
namespace Go.Proofs.YteecnkneceemjaaGreat
set_option linter.unusedSimpArgs false
set_option linter.unusedVariables false
open Go.RowKit Go.Sl Go.Dk Go.Tr
attribute [local go_sem ↓] Go.wp_at_zero Go.wp_at_succ
attribute [local go_sem] Go.Sl.cell_sat Go.Sl.frozen_sat
def ListCode (B0 B F : Assn) (r : Int × List Ent) (e : Ending) (w' : World) : Prop := ∃ (a : Option Addr) (c : Nat) (G : Assn), e = .returned (.tuple #[.slice a r.2.length c, .int .i64 r.1]) ∧ ReadsE (G * B0) (.slice a r.2.length c) r.2 ∧ Sat (G * (B * F)) w'
theorem listCode_nil {B0 B F : Assn} {n : Int} {w : World} (hs : Sat (B * F) w) : ListCode B0 B F (n, []) (.returned (.tuple #[.slice none 0 0, .int .i64 n])) w := ⟨none, 0, 1, rfl, ReadsR.nil 4 _, by rw [one_sep]; exact hs⟩
set_option maxRecDepth 100000 in
set_option maxHeartbeats 1600000 in
theorem rbuild_any (l : List Ent) (v : Value) (B F : Assn) (w : World) (hE : ReadsE B v l) (hs : Sat (B * F) w) (hl : l.length ≤ 65536) :
 Calls Tryz.prog 46 #[v] w (ListCode B B F (buildR l)) := by
 have hmy := fun F w h => rmay_any l v B F w hE h hl
 unfold buildR
 by_cases hm : mayList l = false
 · rw [if_pos hm]
   rw [hm] at hmy
   go_enter Tryz.func46, Tryz.ntmps46
   go_wp2_with fail
   refine (hmy _ _ hs).mono ?_
   rintro e w1 ⟨rfl, q1⟩
   go_wp2
   go_ret2
   exact listCode_nil q1
 · rw [if_neg hm]
   have hm' : mayList l = true := by simpa using hm
   rw [hm'] at hmy
   obtain ⟨h1, h2⟩ := mayList_parts hm'
   have hjn := fun F w h => rjoin_any l v B F w hE h (by omega) h1 (by omega)
   by_cases hj : 1024 < (join l).length
   · rw [if_pos hj]
     obtain ⟨n, hn⟩ : ∃ n, (join l).length = n := ⟨_, rfl⟩
     rw [hn] at hj hjn
     have hj2 : (1024 : Int) < n := by omega
     clear h1 h2 hn
     go_enter Tryz.func46, Tryz.ntmps46
     go_wp2_with fail
     refine (hmy _ _ hs).mono ?_
     rintro e w1 ⟨rfl, q1⟩
     clear hs
     go_wp2_with fail
     refine (hjn _ _ q1).mono ?_
     rintro e w2 ⟨a, c, rfl, q2⟩
     clear q1
     go_wp2
     go_ret2
     exact listCode_nil q2.right
   · rw [if_neg hj]
     obtain ⟨R, hR⟩ : ∃ R, join l = R := ⟨_, rfl⟩
     rw [hR] at hj hjn ⊢
     obtain ⟨n, hn⟩ : ∃ n, R.length = n := ⟨_, rfl⟩
     have HN : Aside (R.length = n) := hn
     rw [hn] at hj hjn
     have hj2 : ¬ (1024 : Int) < n := by omega
     clear h1 h2 hn hR
     go_enter Tryz.func46, Tryz.ntmps46
     go_wp2_with fail
     refine (hmy _ _ hs).mono ?_
     rintro e w1 ⟨rfl, q1⟩
     clear hs
     go_wp2_with fail
     refine (hjn _ _ q1).mono ?_
     rintro e w2 ⟨a, c, rfl, q2⟩
     clear q1
     go_wp2
     go_ret2
     refine ⟨a, c, _, by rw [HN.out]; rfl, ReadsR.left (readsE_rw (by simp only; rw [HN.out]; exact q2) rfl), ?_⟩
     simp only
     rw [HN.out]
     exact q2
theorem src_rw {a : Option Addr} {c : Nat} (l : List Ent) (n : Nat) (hn : l.length = n) : ∀ (F : Assn) (w : World), Sat (rw TEn 4 (.slice a n c) (ecs l) * F) w → Src Tryz.prog 4 w (.slice a n c) n (ecs l) := fun F w h => by
 subst hn
 exact ReadsR.src (readsE_rw h rfl) (ecs_one l) h
set_option maxRecDepth 100000 in
set_option maxHeartbeats 3200000 in
theorem rsplice_any (l put : List Ent) (at_ n : Int) (v vp : Value) (B0 B F : Assn) (w : World) (hE0 : ReadsE B0 v l) (hE : ReadsE B v l) (hP : ReadsE B vp put) (hs : Sat (B * F) w) (hg : GoodL l) (hpl : put.length ≤ 1000) :
 Calls Tryz.prog 31 #[v, .int .i64 at_, .int .i64 n, vp] w (ListCode B0 B F (spliceR l at_ n put)) := by
 obtain ⟨⟨hgm, hgb, hgl⟩, hgj⟩ := hg
 have hmy := fun F w h => rmay_any put vp B F w hP h (by omega)
 have hsz := fun F w h => rsize_any l v B F w hE h (by omega) fun x hx => by have := mayE_bounds (hgm x hx); omega
 unfold spliceR
 by_cases hm : mayList put = false
 · rw [if_pos hm]
   rw [hm] at hmy
   go_enter Tryz.func31, Tryz.ntmps31
   go_wp2_with fail
   refine (hmy _ _ hs).mono ?_
   rintro e w1 ⟨rfl, q1⟩
   go_wp2
   go_ret2
   exact listCode_nil q1
 rw [if_neg hm]
 have hm' : mayList put = true := by simpa using hm
 rw [hm'] at hmy
 obtain ⟨hpm, hpb⟩ := mayList_parts hm'
 have hsp := fun F w h => rsize_any put vp B F w hP h (by omega) fun x hx => by have := mayE_bounds (hpm x hx); omega
 have hp0 := (okE_len (o := put) fun y hy => (OkE.of (hpm y hy)).1).1
 have hz0 := (okE_len (o := l) fun y hy => (OkE.of (hgm y hy)).1).1
 by_cases hc : at_ < 0 ∨ n < 0 ∨ eBytes l < at_ ∨ eBytes l - at_ < n
 · rw [if_pos hc]
   obtain ⟨z, hz⟩ : ∃ z, eBytes l = z := ⟨_, rfl⟩
   rw [hz] at hc hsz hz0 hgb
   by_cases c1 : at_ < 0
   · go_enter Tryz.func31, Tryz.ntmps31
     go_wp2_with fail
     refine (hmy _ _ hs).mono ?_
     rintro e w1 ⟨rfl, q1⟩
     go_wp2_with fail
     refine (hsz _ _ q1).mono ?_
     rintro e w2 ⟨rfl, q2⟩
     go_wp2
     go_ret2
     exact listCode_nil q2
   by_cases c2 : n < 0
   · go_enter Tryz.func31, Tryz.ntmps31
     go_wp2_with fail
     refine (hmy _ _ hs).mono ?_
     rintro e w1 ⟨rfl, q1⟩
     go_wp2_with fail
     refine (hsz _ _ q1).mono ?_
     rintro e w2 ⟨rfl, q2⟩
     go_wp2
     go_ret2
     exact listCode_nil q2
   by_cases c3 : z < at_
   · go_enter Tryz.func31, Tryz.ntmps31
     go_wp2_with fail
     refine (hmy _ _ hs).mono ?_
     rintro e w1 ⟨rfl, q1⟩
     go_wp2_with fail
     refine (hsz _ _ q1).mono ?_
     rintro e w2 ⟨rfl, q2⟩
     go_wp2
     go_ret2
     exact listCode_nil q2
   have c4 : z - at_ < n := by omega
   have hw : IntKind.i64.wrap (z - at_) = z - at_ := IntWalk.i64_in _ (by omega)
   go_enter Tryz.func31, Tryz.ntmps31
   go_wp2_with fail
   refine (hmy _ _ hs).mono ?_
   rintro e w1 ⟨rfl, q1⟩
   go_wp2_with fail
   refine (hsz _ _ q1).mono ?_
   rintro e w2 ⟨rfl, q2⟩
   go_wp2
   go_ret2
   exact listCode_nil q2
 rw [if_neg hc]
 have c1 : 0 ≤ at_ := by omega
 have c2 : 0 ≤ n := by omega
 have c3 : at_ ≤ eBytes l := by omega
 have c4 : n ≤ eBytes l - at_ := by omega
 obtain ⟨hO1, hO2⟩ := splice_out (n := n) (at_ := at_) hgm hpm c1 c2 (by omega)
 have HO : Aside ((∀ x ∈ (first l at_).1 ++ put ++ (first (first l at_).2 n).2, mayEnt x = true) ∧ eBytes ((first l at_).1 ++ put ++ (first (first l at_).2 n).2) ≤ 1099511627776) := ⟨hO1, by rw [hO2]; omega⟩
 have HM : Aside ((∀ x ∈ l, mayEnt x = true) ∧ (∀ x ∈ (first l at_).2, mayEnt x = true)) := ⟨hgm, (first_may l at_ hgm).2⟩
 have HFL : Aside ((first l at_).1.length ≤ 1024 ∧ (first l at_).2.length ≤ 1024 ∧ (first (first l at_).2 n).1.length ≤ 1024 ∧ (first (first l at_).2 n).2.length ≤ 1024) := by
  have h1 := first_len l at_
  have h2 := first_len (first l at_).2 n
  exact ⟨by omega, by omega, by omega, by omega⟩
 unfold spliceL
 obtain ⟨z, hz⟩ : ∃ z, eBytes l = z := ⟨_, rfl⟩
 obtain ⟨pz, hpz⟩ : ∃ z, eBytes put = z := ⟨_, rfl⟩
 rw [hz] at hsz hz0 hgb c3 c4 ⊢
 rw [hpz] at hsp hp0 hpb ⊢
 have hw1 : IntKind.i64.wrap (z - at_) = z - at_ := IntWalk.i64_in _ (by omega)
 have hw2 : IntKind.i64.wrap (z - n) = z - n := IntWalk.i64_in _ (by omega)
 have hw3 : IntKind.i64.wrap (z - n + pz) = z - n + pz := IntWalk.i64_in _ (by omega)
 have d1 : ¬ at_ < 0 := by omega
 have d2 : ¬ n < 0 := by omega
 have d3 : ¬ z < at_ := by omega
 have d4 : ¬ z - at_ < n := by omega
 clear hc hO1 hO2 hz hpz hgj hm hm' hgm hpm
 by_cases hb : 1048576 < z - n + pz
 · rw [if_pos hb]
   go_enter Tryz.func31, Tryz.ntmps31
   go_wp2_with fail
   refine (hmy _ _ hs).mono ?_
   rintro e w1 ⟨rfl, q1⟩
   go_wp2_with fail
   refine (hsz _ _ q1).mono ?_
   rintro e w2 ⟨rfl, q2⟩
   go_wp2_with fail
   refine (hsp _ _ q2).mono ?_
   rintro e w3 ⟨rfl, q3⟩
   go_wp2
   go_ret2
   exact listCode_nil q3
 rw [if_neg hb]
 obtain ⟨ap, cp, rfl, hp1, hp2⟩ := hP.v
 obtain ⟨np, hnp⟩ : ∃ k, put.length = k := ⟨_, rfl⟩
 by_cases hzz : n = 0 ∧ put = []
 · rw [if_pos hzz]
   obtain ⟨rfl, hpe⟩ := hzz
   obtain rfl : np = 0 := by rw [← hnp, hpe]; rfl
   rw [hnp] at hmy hsp ⊢
   obtain ⟨al, cl, rfl, hl1, hl2⟩ := hE.v
   have HE : Aside (ReadsE B0 (.slice al l.length cl) l) := hE0
   clear hE0 hE hP HO HM HFL
   go_enter Tryz.func31, Tryz.ntmps31
   go_wp2_with fail
   refine (hmy _ _ hs).mono ?_
   rintro e w1 ⟨rfl, q1⟩
   go_wp2_with fail
   refine (hsz _ _ q1).mono ?_
   rintro e w2 ⟨rfl, q2⟩
   go_wp2_with fail
   refine (hsp _ _ q2).mono ?_
   rintro e w3 ⟨rfl, q3⟩
   go_wp2
   go_ret2
   exact ⟨al, cl, 1, rfl, ReadsR.right HE.out, by rw [one_sep]; exact q3⟩
 rw [if_neg hzz]
 obtain ⟨i0, E⟩ := elemEn
 have SP : Aside (∀ (F : Assn) (w : World), Sat (B * F) w → Src Tryz.prog 4 w (.slice ap np cp) np (ecs put)) := fun F w h => by
  rw [← hnp]
  exact ReadsR.src hP (ecs_one put) h
 obtain ⟨L, hL⟩ : ∃ x, (first l at_).1 = x := ⟨_, rfl⟩
 obtain ⟨R, hR⟩ : ∃ x, (first l at_).2 = x := ⟨_, rfl⟩
 obtain ⟨M, hM⟩ : ∃ x, (first R n).1 = x := ⟨_, rfl⟩
 obtain ⟨K, hK⟩ : ∃ x, (first R n).2 = x := ⟨_, rfl⟩
 have hf1 := fun F w h => rfirst_any l at_ v B F w hE h (by omega) HM.out.1 (by omega) (by omega)
 have hf2 := fun a c F w (h : Sat (rw TEn 4 (.slice a R.length c) (ecs R) * F) w) => rfirst_any R n _ _ F w (readsE_rw h rfl) h (by have := HFL.out.2.1; rw [hR] at this; omega) (by have := HM.out.2; rw [hR] at this; exact this) (by omega) (by omega)
 rw [hL, hR] at hf1
 rw [hM, hK] at hf2
 rw [hL, hR, hK] at HO
 rw [hL, hR, hM, hK] at HFL
 rw [hL, hR, hK]
 obtain ⟨nL, hnL⟩ : ∃ k, L.length = k := ⟨_, rfl⟩
 obtain ⟨nR, hnR⟩ : ∃ k, R.length = k := ⟨_, rfl⟩
 obtain ⟨nM, hnM⟩ : ∃ k, M.length = k := ⟨_, rfl⟩
 obtain ⟨nK, hnK⟩ : ∃ k, K.length = k := ⟨_, rfl⟩
 have SL : Aside (∀ (a : Option Addr) (c : Nat) (F : Assn) (w : World), Sat (rw TEn 4 (.slice a nL c) (ecs L) * F) w → Src Tryz.prog 4 w (.slice a nL c) nL (ecs L)) := fun a c => src_rw L nL hnL
 have SK : Aside (∀ (a : Option Addr) (c : Nat) (F : Assn) (w : World), Sat (rw TEn 4 (.slice a nK c) (ecs K) * F) w → Src Tryz.prog 4 w (.slice a nK c) nK (ecs K)) := fun a c => src_rw K nK hnK
 have hjn := fun a c F w (h : Sat (rw TEn 4 (.slice a (nL + np + nK) c) (ecs L ++ ecs put ++ ecs K) * F) w) => rjoin_any (L ++ put ++ K) (.slice a (nL + np + nK) c) (rw TEn 4 (.slice a (nL + np + nK) c) (ecs L ++ ecs put ++ ecs K)) F w
  (by
    have e1 : ecs (L ++ put ++ K) = ecs L ++ ecs put ++ ecs K := by simp [ecs]
    have e2 : (L ++ put ++ K).length = nL + np + nK := by rw [List.length_append, List.length_append, hnL, hnp, hnK]
    rw [← e1] at h ⊢
    exact readsE_rw h e2.symm) h (by have := HFL.out; rw [List.length_append, List.length_append]; omega) HO.out.1 HO.out.2
 rw [hnL, hnR] at hf1
 rw [hnR] at hf2
 rw [hnM, hnK] at hf2
 have hFL := HFL.out
 rw [hnL, hnR, hnM, hnK] at hFL
 have hnpl : np ≤ 1000 := by omega
 obtain ⟨J, hJ⟩ : ∃ x, join (L ++ put ++ K) = x := ⟨_, rfl⟩
 rw [hJ] at hjn ⊢
 obtain ⟨nJ, hnJ⟩ : ∃ k, J.length = k := ⟨_, rfl⟩
 have HNJ : Aside (J.length = nJ) := hnJ
 obtain ⟨RR, hRR⟩ : ∃ r : Int × List Ent, (if 1024 < J.length then (11, []) else (0, J)) = r := ⟨_, rfl⟩
 rw [hRR]
 have HRR : Aside ((if 1024 < J.length then ((11 : Int), ([] : List Ent)) else (0, J)) = RR) := hRR
 clear hRR
 rw [hnJ] at hjn
 rw [hnp] at hmy hsp hp1 ⊢
 have HOR : Aside (n ≠ 0 ∨ np ≠ 0) := by
  rcases Classical.em (n = 0) with h1 | h1
  · right
    intro h2
    exact hzz ⟨h1, List.length_eq_zero_iff.1 (by rw [hnp, h2])⟩
  · exact .inl h1
 clear hzz hL hR hM hK hnL hnR hnM hnK hnp hnJ hJ HFL HO HM hE0 hE hP hpl hgl
 obtain ⟨xL, hxL⟩ : ∃ x, ecs L = x := ⟨_, rfl⟩
 obtain ⟨xP, hxP⟩ : ∃ x, ecs put = x := ⟨_, rfl⟩
 obtain ⟨xK, hxK⟩ : ∃ x, ecs K = x := ⟨_, rfl⟩
 rw [hxL] at hf1 SL hjn
 rw [hxP] at SP hjn
 rw [hxK] at hf2 SK hjn
 clear hxL hxP hxK
 go_enter Tryz.func31, Tryz.ntmps31
 go_wp2_with fail
 refine (hmy _ _ hs).mono ?_
 rintro e w1 ⟨rfl, q1⟩
 go_wp2_with fail
 refine (hsz _ _ q1).mono ?_
 rintro e w2 ⟨rfl, q2⟩
 go_wp2_with fail
 refine (hsp _ _ q2).mono ?_
 rintro e w3 ⟨rfl, q3⟩
 clear hs q1 q2
 rcases HOR.out with hz | hz
 · have hz1 : (n == 0) = false := by simp [hz]
   go_wp2_with fail
   refine (hf1 _ _ q3).mono ?_
   rintro e w4 ⟨a1, c1', a2, c2', rfl, q4⟩
   haveI := q4.i
   clear q3 hf1 hmy hsz hsp
   go_wp2_with fail
   refine (hf2 a2 c2' _ _ (takeI (rw TEn 4 (.slice a2 nR c2') (ecs R)))).mono ?_
   rintro e w5 ⟨a3, c3', a4, c4', rfl, q5⟩
   haveI := q5.i
   clear q4 hf2
   go_wp2_with (first
    | (at_builtin; refine wpl_append_same E rfl (.tmp 66) (.tmp 67) rfl rfl rfl (Sat.rw_nil (e := TEn) (s := 4) satI) (SL.out _ _ _ _ (takeI (rw TEn 4 (.slice a1 nL c1') xL))) (by unfold maxLen; omega) (by omega) ?_; intro a6 c6 w6 q6 z6; clear z6; rw [List.nil_append] at q6; rw [Nat.zero_add] at q6 ⊢; haveI := q6.i)
    | (at_builtin; refine wpl_append_same E rfl (.tmp 69) (.tmp 70) rfl rfl rfl (takeI (rw TEn 4 (.slice a6 nL c6) xL)) (SP.out _ _ (takeI B)) (by unfold maxLen; omega) (by omega) ?_; intro a7 c7 w7 q7 z7; clear z7; haveI := q7.i)
    | (at_builtin; refine wpl_append_same E rfl (.tmp 72) (.tmp 73) rfl rfl rfl (takeI (rw TEn 4 (.slice a7 (nL + np) c7) (xL ++ xP))) (SK.out _ _ _ _ (takeI (rw TEn 4 (.slice a4 nK c4') xK))) (by unfold maxLen; omega) (by omega) ?_; intro a8 c8 w8 q8 z8; clear z8; haveI := q8.i))
   refine (hjn a8 c8 _ _ q8).mono ?_
   rintro e w9 ⟨a9, c9, rfl, q9⟩
   haveI := q9.i
   clear q8
   by_cases hj : 1024 < nJ
   · have hj2 : (1024 : Int) < nJ := by omega
     have hj3 : 1024 < J.length := by rw [HNJ.out]; exact hj
     go_wp2
     go_ret2
     rw [← HRR.out, if_pos hj3]
     exact listCode_nil (keep2 B F)
   · have hj2 : ¬ (1024 : Int) < nJ := by omega
     have hj3 : ¬ 1024 < J.length := by rw [HNJ.out]; exact hj
     go_wp2
     go_ret2
     rw [← HRR.out, if_neg hj3]
     have q10 : Sat (rw TEn 4 (.slice a9 nJ c9) (ecs J) * (B * F)) w9 := keep3 _ B F
     refine ⟨a9, c9, rw TEn 4 (.slice a9 nJ c9) (ecs J), by simp only; rw [HNJ.out]; rfl, ReadsR.left ?_, q10⟩
     have := readsE_rw q10 HNJ.out.symm
     unfold ReadsE at this
     rw [HNJ.out] at this
     simp only
     rw [HNJ.out]
     exact this
 · have hz1 : (np == 0) = false := by simp [hz]
   have hz2 : ((np : Int) == 0) = false := by simp [hz]
   by_cases hn0 : n = 0
   · subst hn0
     go_wp2_with fail
     refine (hf1 _ _ q3).mono ?_
     rintro e w4 ⟨a1, c1', a2, c2', rfl, q4⟩
     haveI := q4.i
     clear q3 hf1 hmy hsz hsp
     go_wp2_with fail
     refine (hf2 a2 c2' _ _ (takeI (rw TEn 4 (.slice a2 nR c2') (ecs R)))).mono ?_
     rintro e w5 ⟨a3, c3', a4, c4', rfl, q5⟩
     haveI := q5.i
     clear q4 hf2
     go_wp2_with (first
      | (at_builtin; refine wpl_append_same E rfl (.tmp 66) (.tmp 67) rfl rfl rfl (Sat.rw_nil (e := TEn) (s := 4) satI) (SL.out _ _ _ _ (takeI (rw TEn 4 (.slice a1 nL c1') xL))) (by unfold maxLen; omega) (by omega) ?_; intro a6 c6 w6 q6 z6; clear z6; rw [List.nil_append] at q6; rw [Nat.zero_add] at q6 ⊢; haveI := q6.i)
      | (at_builtin; refine wpl_append_same E rfl (.tmp 69) (.tmp 70) rfl rfl rfl (takeI (rw TEn 4 (.slice a6 nL c6) xL)) (SP.out _ _ (takeI B)) (by unfold maxLen; omega) (by omega) ?_; intro a7 c7 w7 q7 z7; clear z7; haveI := q7.i)
      | (at_builtin; refine wpl_append_same E rfl (.tmp 72) (.tmp 73) rfl rfl rfl (takeI (rw TEn 4 (.slice a7 (nL + np) c7) (xL ++ xP))) (SK.out _ _ _ _ (takeI (rw TEn 4 (.slice a4 nK c4') xK))) (by unfold maxLen; omega) (by omega) ?_; intro a8 c8 w8 q8 z8; clear z8; haveI := q8.i))
     refine (hjn a8 c8 _ _ q8).mono ?_
     rintro e w9 ⟨a9, c9, rfl, q9⟩
     haveI := q9.i
     clear q8
     by_cases hj : 1024 < nJ
     · have hj2 : (1024 : Int) < nJ := by omega
       have hj3 : 1024 < J.length := by rw [HNJ.out]; exact hj
       go_wp2
       go_ret2
       rw [← HRR.out, if_pos hj3]
       exact listCode_nil (keep2 B F)
     · have hj2 : ¬ (1024 : Int) < nJ := by omega
       have hj3 : ¬ 1024 < J.length := by rw [HNJ.out]; exact hj
       go_wp2
       go_ret2
       rw [← HRR.out, if_neg hj3]
       have q10 : Sat (rw TEn 4 (.slice a9 nJ c9) (ecs J) * (B * F)) w9 := keep3 _ B F
       refine ⟨a9, c9, rw TEn 4 (.slice a9 nJ c9) (ecs J), by simp only; rw [HNJ.out]; rfl, ReadsR.left ?_, q10⟩
       have := readsE_rw q10 HNJ.out.symm
       unfold ReadsE at this
       rw [HNJ.out] at this
       simp only
       rw [HNJ.out]
       exact this
   · have hz3 : (n == 0) = false := by simp [hn0]
     go_wp2_with fail
     refine (hf1 _ _ q3).mono ?_
     rintro e w4 ⟨a1, c1', a2, c2', rfl, q4⟩
     haveI := q4.i
     clear q3 hf1 hmy hsz hsp
     go_wp2_with fail
     refine (hf2 a2 c2' _ _ (takeI (rw TEn 4 (.slice a2 nR c2') (ecs R)))).mono ?_
     rintro e w5 ⟨a3, c3', a4, c4', rfl, q5⟩
     haveI := q5.i
     clear q4 hf2
     go_wp2_with (first
      | (at_builtin; refine wpl_append_same E rfl (.tmp 66) (.tmp 67) rfl rfl rfl (Sat.rw_nil (e := TEn) (s := 4) satI) (SL.out _ _ _ _ (takeI (rw TEn 4 (.slice a1 nL c1') xL))) (by unfold maxLen; omega) (by omega) ?_; intro a6 c6 w6 q6 z6; clear z6; rw [List.nil_append] at q6; rw [Nat.zero_add] at q6 ⊢; haveI := q6.i)
      | (at_builtin; refine wpl_append_same E rfl (.tmp 69) (.tmp 70) rfl rfl rfl (takeI (rw TEn 4 (.slice a6 nL c6) xL)) (SP.out _ _ (takeI B)) (by unfold maxLen; omega) (by omega) ?_; intro a7 c7 w7 q7 z7; clear z7; haveI := q7.i)
      | (at_builtin; refine wpl_append_same E rfl (.tmp 72) (.tmp 73) rfl rfl rfl (takeI (rw TEn 4 (.slice a7 (nL + np) c7) (xL ++ xP))) (SK.out _ _ _ _ (takeI (rw TEn 4 (.slice a4 nK c4') xK))) (by unfold maxLen; omega) (by omega) ?_; intro a8 c8 w8 q8 z8; clear z8; haveI := q8.i))
     refine (hjn a8 c8 _ _ q8).mono ?_
     rintro e w9 ⟨a9, c9, rfl, q9⟩
     haveI := q9.i
     clear q8
     by_cases hj : 1024 < nJ
     · have hj2 : (1024 : Int) < nJ := by omega
       have hj3 : 1024 < J.length := by rw [HNJ.out]; exact hj
       go_wp2
       go_ret2
       rw [← HRR.out, if_pos hj3]
       exact listCode_nil (keep2 B F)
     · have hj2 : ¬ (1024 : Int) < nJ := by omega
       have hj3 : ¬ 1024 < J.length := by rw [HNJ.out]; exact hj
       go_wp2
       go_ret2
       rw [← HRR.out, if_neg hj3]
       have q10 : Sat (rw TEn 4 (.slice a9 nJ c9) (ecs J) * (B * F)) w9 := keep3 _ B F
       refine ⟨a9, c9, rw TEn 4 (.slice a9 nJ c9) (ecs J), by simp only; rw [HNJ.out]; rfl, ReadsR.left ?_, q10⟩
       have := readsE_rw q10 HNJ.out.symm
       unfold ReadsE at this
       rw [HNJ.out] at this
       simp only
       rw [HNJ.out]
       exact this
end Go.Proofs.YteecnkneceemjaaGreat
namespace Go.Proofs.YteecnkneceemjaaGreat
set_option linter.unusedSimpArgs false
set_option linter.unusedVariables false
open Go.RowKit Go.Sl Go.Dk Go.Tr
attribute [local go_sem ↓] Go.wp_at_zero Go.wp_at_succ
attribute [local go_sem] Go.Sl.cell_sat Go.Sl.frozen_sat
theorem ecs_app (a b : List Ent) : ecs (a ++ b) = ecs a ++ ecs b := by simp [ecs]
def SeeOut (N m : Nat) (cs : List Value) (B F : Assn) (e : Ending) (w' : World) : Prop := ∃ (a' : Option Addr) (c' : Nat),
 (1024 < m ∧ e = .panicked (faultC 13) ∧ Sat (Sl.block N TEs [.slice a' m c'] * (B * F)) w') ∨
 (¬ 1024 < m ∧ e = .returned (.bool true) ∧ Sat (Sl.block N TEs [.slice a' m c'] * (rw TEn 4 (.slice a' m c') cs * (B * F))) w')
set_option maxRecDepth 100000 in
set_option maxHeartbeats 1600000 in
theorem see_any (no : Int) (n : Nd) (v : Value) (N : Nat) (o : List Ent) (a : Option Addr) (c : Nat) (B F : Assn) (w : World) (hN : ReadsN B v n) (hm : may n = true) (ho : o.length ≤ 1024)
 (hs : Sat (Sl.block N TEs [.slice a o.length c] * (rw TEn 4 (.slice a o.length c) (ecs o) * (B * F))) w) :
 Calls Tryz.prog 51 #[.int .i64 no, v, .pointer (some ⟨N, 0, none⟩)] w (SeeOut N (o ++ n.ents).length (ecs (o ++ n.ents)) B F) := by
 obtain ⟨i0, E⟩ := elemEn
 obtain ⟨l1, l2⟩ := may_len hm
 obtain ⟨vE, vK, rfl, hE, hK⟩ := hN
 obtain ⟨aE, cE, rfl, hE1, hE2⟩ := hE.v
 obtain ⟨aK, cK, rfl, hK1, hK2⟩ := ReadsR.v hK
 have sE := fun (F : Assn) (w : World) (h : Sat (B * F) w) => hE.src (P := Tryz.prog) (ecs_one n.ents) h
 rw [List.length_append, ecs_app]
 obtain ⟨ne, hne⟩ : ∃ k, n.ents.length = k := ⟨_, rfl⟩
 obtain ⟨nO, hno⟩ : ∃ k, o.length = k := ⟨_, rfl⟩
 rw [hne] at sE l1 hE1 ⊢
 rw [hno] at hs ho ⊢
 have SE : Aside (∀ (F : Assn) (w : World), Sat (B * F) w → Src Tryz.prog 4 w (.slice aE ne cE) ne (ecs n.ents)) := sE
 obtain ⟨xs, hxs⟩ : ∃ x, ecs o = x := ⟨_, rfl⟩
 rw [hxs] at hs ⊢
 obtain ⟨m, hsum⟩ : ∃ m, nO + ne = m := ⟨_, rfl⟩
 have HSUM : Aside (nO + ne = m) := hsum
 have hmb : m ≤ 1036 := by omega
 rw [hsum]
 haveI := hs.i
 clear hE hK sE hne hno hxs
 clear hsum
 by_cases hc : 1024 < m
 · have HC : Aside (1024 < m) := hc
   have hc' : (1024 : Int) < m := by omega
   clear hc
   go_enter Tryz.func51, Tryz.ntmps51
   go_wp2_with (at_builtin; refine wpl_append_same E rfl (.tmp 6) (.tmp 8) rfl rfl rfl (takeI (rw TEn 4 (.slice a nO c) xs)) (SE.out _ _ (takeI B)) (by unfold maxLen; omega) (by omega) ?_; intro a9 c9 w9 q9 z9; clear z9; rw [HSUM.out] at q9 ⊢; haveI := q9.i)
   exact ⟨rfl, a9, c9, .inl ⟨HC.out, rfl, keep3 _ _ _⟩⟩
 · have HC : Aside (¬ 1024 < m) := hc
   have hc' : ¬ (1024 : Int) < m := by omega
   clear hc
   go_enter Tryz.func51, Tryz.ntmps51
   go_wp2_with (at_builtin; refine wpl_append_same E rfl (.tmp 6) (.tmp 8) rfl rfl rfl (takeI (rw TEn 4 (.slice a nO c) xs)) (SE.out _ _ (takeI B)) (by unfold maxLen; omega) (by omega) ?_; intro a9 c9 w9 q9 z9; clear z9; rw [HSUM.out] at q9 ⊢; haveI := q9.i)
   go_returns
   exact ⟨a9, c9, .inr ⟨HC.out, rfl, keep4 _ _ _ _⟩⟩
set_option maxRecDepth 100000 in
set_option maxHeartbeats 1600000 in
theorem listC_idle (N E : Nat) (w : World) :
 CallsD Tryz.prog 48 #[.pointer (some ⟨N, 0, none⟩), .pointer (some ⟨E, 0, none⟩)] .returning w fun e u' w' => e = .returned (.tuple #[]) ∧ u' = .returning ∧ w' = w := by
 refine callsD_of_wpS Tryz.func48 rfl fun c₀ cs hu => ?_
 apply wpS_seq
 apply wpS_region
 simp [wpOpsS, go_sem, recoverD, hu, Tryz.ntmps48, Exit.thenS]
 apply wpS_seq
 apply wpS_region
 simp [wpOpsS, go_sem, Exit.thenS]
 refine wpS_cond (t := false) (by simp [Act.eval, Array.replicate]) ?_
 simp only [Bool.false_eq_true, if_false]
 refine wpS_of_wp (wp_skip ?_)
 cases c₀
 simp_all [bodyPostS, results, Tryz.results48, Exit.thenS]
set_option maxRecDepth 100000 in
set_option maxHeartbeats 1600000 in
theorem listC_caught (N E : Nat) (er : Int) (a b : Value) (F : Assn) (w : World) (hs : Sat (Sl.block N TEs [a] * (Sl.block E TEr [b] * F)) w) :
 CallsD Tryz.prog 48 #[.pointer (some ⟨N, 0, none⟩), .pointer (some ⟨E, 0, none⟩)] (.panicking (faultC er)) w fun e u' w' => e = .returned (.tuple #[]) ∧ u' = .panicking [{ v := .iface TFa (.agg #[.int .i64 er]), recovered := true }] ∧ Sat (Sl.block N TEs [.slice none 0 0] * (Sl.block E TEr [.int .i64 er] * F)) w' := by
 haveI := hs.i
 refine callsD_of_wpS Tryz.func48 rfl fun c₀ cs hu => ?_
 unfold faultC at hu
 apply wpS_seq
 apply wpS_region
 simp [wpOpsS, go_sem, recoverD, hu, Tryz.ntmps48, Exit.thenS]
 apply wpS_seq
 apply wpS_region
 simp [wpOpsS, go_sem, Exit.thenS]
 refine wpS_cond (t := true) (by simp [Act.eval, Array.replicate]) ?_
 simp only [if_true]
 refine wpS_of_wp ?_
 go_wp2_with fail
 refine Calls.mono (given_any er _ _ hs) ?_
 rintro en w2 ⟨rfl, q2⟩
 haveI := q2.i
 go_wp2
 simp [bodyPostS, results, Tryz.results48]
 exact satI_eq (by ac_rfl)
end Go.Proofs.YteecnkneceemjaaGreat
namespace Go.Proofs.YteecnkneceemjaaGreat
set_option linter.unusedSimpArgs false
set_option linter.unusedVariables false
open Go.RowKit Go.Sl Go.Dk Go.Tr
attribute [local go_sem ↓] Go.wp_at_zero Go.wp_at_succ
attribute [local go_sem] Go.Sl.cell_sat Go.Sl.frozen_sat
def WalkOut (h : Th) (N : Nat) (F : Assn) (r : Res TS (List Ent)) (e : Ending) (w' : World) : Prop := match r with
 | .ok o s => e = .returned (.tuple #[]) ∧ o.length ≤ 1024 ∧ ∃ (a : Option Addr) (c : Nat), Sat (treeP h s * (Sl.block N TEs [.slice a o.length c] * (rw TEn 4 (.slice a o.length c) (ecs o) * F))) w'
 | .fault n s => e = .panicked (faultC n) ∧ ∃ v, Sat (treeP h s * (Sl.block N TEs [v] * F)) w'
 | .bad => False
def WalkC (f : Nat) : Prop := ∀ (h : Th) (s : TS) (no : Int) (o : List Ent) (N : Nat) (a : Option Addr) (c : Nat) (F : Assn) (w : World), f ≤ 21 → o.length ≤ 1024 → Sat (treeP h s * (Sl.block N TEs [.slice a o.length c] * (rw TEn 4 (.slice a o.length c) (ecs o) * F))) w → listTo tRead f no o s ≠ .bad →
 Calls Tryz.prog 50 #[.pointer (some ⟨h.t, 0, none⟩), .int .i64 no, .int .i64 (21 - (f : Int)), .func (Fn.func 51) #[] #[.pointer (some ⟨N, 0, none⟩)]] w (WalkOut h N F (listTo tRead f no o s))
set_option maxRecDepth 100000 in
set_option maxHeartbeats 1600000 in
theorem walk_zero : WalkC 0 := by
 intro h s no o N a c F w hf ho hs hb
 have hR : listTo tRead 0 no o s = .fault 13 s := rfl
 rw [hR]
 haveI := hs.i
 go_enter Tryz.func50, Tryz.ntmps50
 go_wp2
 exact ⟨rfl, rfl, .slice a o.length c, keep3 _ _ _⟩
set_option maxRecDepth 100000 in
set_option maxHeartbeats 6400000 in
theorem walk_succ (f : Nat) (ih : WalkC f) : WalkC (f + 1) := by
 intro h s no o N a c F w hf ho hs hb
 obtain ⟨R, hR⟩ : ∃ R, listTo tRead (f + 1) no o s = R := ⟨_, rfl⟩
 rw [hR] at hb ⊢
 have HB : Aside (R ≠ .bad) := hb
 have HI : Aside (WalkC f) := ih
 have HR : Aside (M.bind (tRead no) (fun n => if 1024 < (o ++ n.ents).length then M.fail 13 else kidsTo (listTo tRead f) n.kids (o ++ n.ents)) s = R) := hR
 have c1 := fun F w q => tread_any h s no F w q (bind_nb HR.out HB.out)
 have hdeep : ¬ (20 : Int) < 21 - ((f + 1 : Nat) : Int) := by omega
 obtain ⟨dp, hdp⟩ : ∃ d, (21 : Int) - ((f + 1 : Nat) : Int) = d := ⟨_, rfl⟩
 have HDP : Aside (dp + 1 = 21 - (f : Int)) := (by omega : dp + 1 = 21 - (f : Int))
 have hdb : -1 ≤ dp ∧ dp ≤ 20 := by omega
 rw [hdp] at hdeep ⊢
 have HO : Aside (o.length ≤ 1024) := ho
 haveI := hs.i
 clear hR hb ih hdp
 go_enter Tryz.func50, Tryz.ntmps50
 go_wp2_with fail
 with_reducible refine Calls.mono (c1 _ _ (takeI (treeP h s))) ?_
 rintro e w1 hx0
 obtain ⟨r1, hm1⟩ : ∃ r, r = tRead no s := ⟨_, rfl⟩
 rw [← hm1] at hx0
 rcases r1 with ⟨y, s2⟩ | ⟨er, s2⟩ | _
 rotate_left
 · obtain ⟨rfl, q1⟩ := hx0
   haveI := q1.i
   have hRR := bind_up HR.out hm1.symm
   subst hRR
   exact ⟨rfl, rfl, .slice a o.length c, keep3 _ _ _⟩
 · exact absurd (bind_bad HR.out hm1.symm) HB.out
 obtain ⟨v1, B2, rfl, ⟨hx, hma⟩, q1⟩ := hx0
 have hg0 := bind_go HR.out hm1.symm
 have HG : Aside ((if 1024 < (o ++ y.ents).length then M.fail 13 else kidsTo (listTo tRead f) y.kids (o ++ y.ents)) s2 = R) := hg0
 have hsee := fun F w q => see_any no y v1 N o a c B2 F w hx hma HO.out q
 have HMa : Aside (may y = true) := hma
 obtain ⟨se, sk, rfl, hE, hK⟩ := id hx
 obtain ⟨a1, c1', rfl, hE1, hE2⟩ := hE.v
 obtain ⟨a2, c2, rfl, hK1, hK2⟩ := ReadsR.v hK
 obtain ⟨hl1, hl2⟩ := may_len hma
 obtain ⟨ne, hne⟩ : ∃ ne, y.ents.length = ne := ⟨_, rfl⟩
 obtain ⟨nk, hnk⟩ : ∃ nk, y.kids.length = nk := ⟨_, rfl⟩
 have HK : Aside (ReadsK B2 (.slice a2 y.kids.length c2) y.kids ∧ y.kids.length = nk) := ⟨hK, hnk⟩
 rw [hne] at hl1 hE1 hsee ⊢
 rw [hnk] at hl2 hK1 hsee ⊢
 obtain ⟨N8, hN8⟩ : ∃ M, w1.heap.size = M := ⟨_, rfl⟩
 haveI := q1.i
 clear hE hK hma hne hnk hm1 HR c1 hx hg0
 go_wp2_with fail
 have q4 : Sat (Sl.block N TEs [.slice a o.length c] * (rw TEn 4 (.slice a o.length c) (ecs o) * (B2 * (treeP h s2 * (Sl.block N8 TNd [.bool y.leaf, .slice a1 ne c1', .slice a2 nk c2] * F))))) (w1.alloc (.cells #[.bool y.leaf, .slice a1 ne c1', .slice a2 nk c2] TNd)) := by
  rw [← hN8]
  exact satI_eq (by ac_rfl)
 try rw [hN8]
 clear hN8 q1
 with_reducible refine Calls.mono (hsee _ _ q4) ?_
 rintro e w3 ⟨a3, c3, h3⟩
 rcases h3 with ⟨hc, rfl, q5⟩ | ⟨hc, rfl, q5⟩
 · have hRR : R = .fault 13 s2 := by have := HG.out; rw [if_pos hc] at this; exact this.symm
   subst hRR
   haveI := q5.i
   exact ⟨rfl, rfl, .slice a3 (o ++ y.ents).length c3, keep3 _ _ _⟩
 · have hG2 := HG.out
   rw [if_neg hc] at hG2
   have HG2 : Aside (kidsTo (listTo tRead f) y.kids (o ++ y.ents) s2 = R) := hG2
   obtain ⟨o3, ho3⟩ : ∃ x, o ++ y.ents = x := ⟨_, rfl⟩
   rw [ho3] at hc q5 HG2
   haveI := q5.i
   have q6 : Sat (treeP h s2 * (Sl.block N TEs [.slice a3 o3.length c3] * (rw TEn 4 (.slice a3 o3.length c3) (ecs o3) * (B2 * (Sl.block N8 TNd [.bool y.leaf, .slice a1 ne c1', .slice a2 nk c2] * F))))) w3 := satI_eq (by ac_rfl)
   haveI := q6.i
   clear q4 q5 hsee hG2 ho3 HG
   go_wp2_with fail
   go_loopg [26] nk (fun g t26 wr => ∃ (i : Nat) (o4 : List Ent) (a4 : Option Addr) (c4 : Nat) (s4 : TS), t26 = .int .i64 i ∧ i ≤ nk ∧ Aside (g = nk - i ∧ o4.length ≤ 1024 ∧ kidsTo (listTo tRead f) (y.kids.drop i) o4 s4 = R) ∧
    Sat (treeP h s4 * (Sl.block N TEs [.slice a4 o4.length c4] * (rw TEn 4 (.slice a4 o4.length c4) (ecs o4) * (B2 * (Sl.block N8 TNd [.bool y.leaf, .slice a1 ne c1', .slice a2 nk c2] * F))))) wr)
   case atStart => exact ⟨0, o3, a3, c3, s2, rfl, by omega, ⟨rfl, by omega, HG2.out⟩, q6⟩
   case round =>
    obtain ⟨i, o4, a4, c4, s4, rfl, hi, A, q7⟩ := hrel
    clear q6
    haveI := q7.i
    by_cases hlt : i < nk
    · have hlt' : (i : Int) < nk := by omega
      obtain ⟨k, hk⟩ : ∃ k, y.kids[i]? = some k := ⟨_, List.getElem?_eq_getElem (by have := HK.out.2; omega)⟩
      obtain ⟨b, q, rfl, r1, r2, r3, r4⟩ := readsK_at HK.out.1 hk
      have hd : y.kids.drop i = k :: y.kids.drop (i + 1) := by
       obtain ⟨u1, u2⟩ := List.getElem?_eq_some_iff.1 hk
       rw [List.drop_eq_getElem_cons u1, u2]
      have hA := A.out.2.2
      rw [hd] at hA
      have HS : Aside (M.bind (listTo tRead f k.page o4) (kidsTo (listTo tRead f) (y.kids.drop (i + 1))) s4 = R) := hA
      have hrec := fun F w q => HI.out h s4 k.page o4 N a4 c4 F w (by omega) A.out.2.1 q (bind_nb HS.out HB.out)
      obtain ⟨m, hm⟩ : ∃ m, listTo tRead f k.page o4 s4 = m := ⟨_, rfl⟩
      have HM : Aside (listTo tRead f k.page o4 s4 = m) := hm
      rw [hm, ← HDP.out] at hrec
      have hw : IntKind.i64.wrap (dp + 1) = dp + 1 := IntWalk.i64_in _ (by omega)
      have hnb := bind_nb HS.out HB.out
      obtain ⟨k1, k2, k3, k4⟩ := k
      simp only at r1 r2 r3 r4 hrec HS HM
      clear hk hd hA hm
      go_wp2_with fail
      with_reducible refine Calls.mono (hrec _ _ (takeI3 (treeP h s4) (Sl.block N TEs [.slice a4 o4.length c4]) (rw TEn 4 (.slice a4 o4.length c4) (ecs o4)))) ?_
      rintro e w5 h5
      cases m with
      | bad => exact absurd HM.out (bind_nb HS.out HB.out)
      | fault er s5 =>
        obtain ⟨rfl, v5, q8⟩ := h5
        haveI := q8.i
        have hRR := bind_up HS.out HM.out
        subst hRR
        exact ⟨rfl, rfl, v5, keep3 _ _ _⟩
      | ok o5 s5 =>
        obtain ⟨rfl, ho5, a5, c5, q8⟩ := h5
        have hg5 := bind_go HS.out HM.out
        have HO5 : Aside (o5.length ≤ 1024 ∧ kidsTo (listTo tRead f) (y.kids.drop (i + 1)) o5 s5 = R) := ⟨ho5, hg5⟩
        haveI := q8.i
        clear hrec hnb hg5 ho5 HS HM q7
        go_wp2_with fail
        go_roundg (nk - (i + 1))
        case measure => have := A.out.1; omega
        case rel => exact ⟨i + 1, o5, a5, c5, s5, by go_num, by omega, ⟨rfl, HO5.out.1, HO5.out.2⟩, keep6 _ _ _ _ _ _⟩
    · have hlt' : ¬ (i : Int) < nk := by omega
      obtain rfl : i = nk := by omega
      have hA := A.out.2.2
      rw [List.drop_of_length_le (by rw [HK.out.2]; exact Nat.le_refl _)] at hA
      have hRR : R = .ok o4 s4 := hA.symm
      subst hRR
      have HO4 : Aside (o4.length ≤ 1024) := A.out.2.1
      clear hA A
      go_wp2
      go_end0
      exact ⟨rfl, HO4.out, a4, c4, keep4 _ _ _ _⟩
theorem walk_any (f : Nat) : WalkC f := by
 induction f with
 | zero => exact walk_zero
 | succ f ih => exact walk_succ f ih
end Go.Proofs.YteecnkneceemjaaGreat
namespace Go.Proofs.YteecnkneceemjaaGreat
set_option linter.unusedSimpArgs false
set_option linter.unusedVariables false
open Go.RowKit Go.Sl Go.Dk Go.Tr
attribute [local go_sem ↓] Go.wp_at_zero Go.wp_at_succ
attribute [local go_sem] Go.Sl.cell_sat Go.Sl.frozen_sat
def ListOut (h : Th) (F : Assn) (r : Res TS (List Ent)) (e : Ending) (w' : World) : Prop := match r with
 | .ok l s => ∃ (a : Option Addr) (c : Nat), e = .returned (.tuple #[.slice a l.length c, .int .i64 0]) ∧ Sat (rw TEn 4 (.slice a l.length c) (ecs l) * (treeP h s * F)) w'
 | .fault n s => e = .returned (.tuple #[.slice none 0 0, .int .i64 n]) ∧ Sat (treeP h s * F) w'
 | .bad => False
set_option maxRecDepth 100000 in
set_option maxHeartbeats 3200000 in
theorem list_tany (h : Th) (s : TS) (root : Int) (F : Assn) (w : World) (hs : Sat (treeP h s * F) w) (hb : tList tRead root s ≠ .bad) :
 Calls Tryz.prog 13 #[.pointer (some ⟨h.t, 0, none⟩), .int .i64 root] w (ListOut h F (tList tRead root s)) := by
 have hmf : ∀ (fn : Fn) (first cap : Array Value) (w : World), (Instr.makeFunc fn first cap).run Tryz.prog w = .ok (.func fn first cap) w := fun _ _ _ _ => rfl
 obtain ⟨R, hR⟩ : ∃ R, tList tRead root s = R := ⟨_, rfl⟩
 rw [hR] at hb ⊢
 have HB : Aside (R ≠ .bad) := hb
 unfold tList at hR
 have h0 := hs.rw_nil (e := TEn) (s := 4)
 haveI := h0.i
 clear hb hs
 by_cases hz : root = 0
 · rw [if_pos hz] at hR
   have hRR : R = .ok [] s := hR.symm
   subst hRR
   subst hz
   clear hR HB
   go_enter_defers Tryz.func13, Tryz.ntmps13
   go_wp2
   refine leaves_cons (f := 48) (args := #[.pointer (some ⟨w.heap.size, 0, none⟩), .pointer (some ⟨w.heap.size + 1, 0, none⟩)]) (by simp) (by simp [go_sem]) ?_
   refine (listC_idle _ _ _).mono ?_
   rintro e u' w'' ⟨rfl, rfl, rfl⟩
   simp [Leaves, settle, results, Tryz.results13, go_sem]
   refine ⟨none, 0, rfl, ?_⟩
   show Sat (rw TEn 4 (.slice none 0 0) [] * (treeP h s * F)) _
   exact keep3 _ _ _
 · rw [if_neg hz] at hR
   have hz' : ((root : Int) == 0) = false := by simpa using hz
   have hwk := fun N F w q => walk_any 21 h s root [] N none 0 F w (by omega) (by simp) q (by rw [hR]; exact HB.out)
   rw [hR, show (21 : Int) - ((21 : Nat) : Int) = 0 from rfl] at hwk
   obtain ⟨N, hN⟩ : ∃ N, w.heap.size = N := ⟨_, rfl⟩
   clear hR
   go_enter_defers Tryz.func13, Tryz.ntmps13
   go_wp2_with fail
   have q1 : Sat (treeP h s * (Sl.block N TEs [.slice none 0 0] * (rw TEn 4 (.slice none 0 0) [] * (Sl.block (N + 1) TEr [.int .i64 0] * F)))) ((w.alloc (.cells #[.slice none 0 0] TEs)).alloc (.cells #[.int .i64 0] TEr)) := by
    rw [← hN]
    exact satI_eq (by ac_rfl)
   try rw [hN]
   clear hN
   with_reducible refine Calls.mono (hwk N _ _ q1) ?_
   rintro e w2 h2
   cases R with
   | bad => exact absurd rfl HB.out
   | fault er s2 =>
     obtain ⟨rfl, v2, q2⟩ := h2
     haveI := q2.i
     show bodyPostD _ _ _ (.panic (faultC er)) _ w2
     refine leaves_cons (f := 48) (args := #[.pointer (some ⟨N, 0, none⟩), .pointer (some ⟨N + 1, 0, none⟩)]) (by simp) (by simp [go_sem]) ?_
     refine (listC_caught N (N + 1) er _ _ _ w2 (takeI2 (Sl.block N TEs [v2]) (Sl.block (N + 1) TEr [.int .i64 0]))).mono ?_
     rintro e u' w3 ⟨rfl, rfl, q3⟩
     haveI := q3.i
     simp [Leaves, settle, results, Tryz.results13, go_sem]
     exact ⟨rfl, keep2 _ _⟩
   | ok l s2 =>
     obtain ⟨rfl, hl, a2, c2, q2⟩ := h2
     have HLL : Aside (l.length ≤ 1024) := hl
     obtain ⟨n, hn⟩ : ∃ n, l.length = n := ⟨_, rfl⟩
     have HNN : Aside (l.length = n) := hn
     rw [hn] at q2
     haveI := q2.i
     clear q1 hwk hn hl
     go_wp2
     refine leaves_cons (f := 48) (args := #[.pointer (some ⟨N, 0, none⟩), .pointer (some ⟨N + 1, 0, none⟩)]) (by simp) (by simp [go_sem]) ?_
     refine (listC_idle _ _ _).mono ?_
     rintro e u' w3 ⟨rfl, rfl, rfl⟩
     simp [Leaves, settle, results, Tryz.results13, go_sem]
     refine ⟨a2, c2, ?_, ?_⟩
     · rw [HNN.out]
     · rw [HNN.out]
       exact keep3 _ _ _
end Go.Proofs.YteecnkneceemjaaGreat
namespace Go.Proofs.YteecnkneceemjaaGreat
set_option linter.unusedSimpArgs false
set_option linter.unusedVariables false
open Go.RowKit Go.Sl Go.Dk Go.Tr
end Go.Proofs.YteecnkneceemjaaGreat
namespace Go.Proofs.YteecnkneceemjaaGreat
set_option linter.unusedSimpArgs false
set_option linter.unusedVariables false
open Go.RowKit Go.Sl Go.Dk Go.Tr
attribute [local go_sem ↓] Go.wp_at_zero Go.wp_at_succ
attribute [local go_sem] Go.Sl.cell_sat Go.Sl.frozen_sat
abbrev TMd : TypeId := 31
abbrev TOp : TypeId := 34
abbrev TLe : TypeId := 32
theorem elemEs : ∃ i, ElemOk Tryz.prog 29 TLe 1 24 i (.slice none 0 0) := elemOk Tryz.underlying29 (by kernel_rfl) rfl (by omega)
theorem list_call (h : Th) (s : TS) (root : Int) (l : List Ent) (F : Assn) (w : World) (hs : Sat (treeP h s * F) w) (hI : TInv true s) (hR : Rt (nodeAt s) root l) (hf : 2047 ≤ leftOps s) :
 Calls Tryz.prog 13 #[.pointer (some ⟨h.t, 0, none⟩), .int .i64 root] w fun e w' => ∃ (a : Option Addr) (c : Nat) (s' : TS), e = .returned (.tuple #[.slice a l.length c, .int .i64 0]) ∧ Sat (rw TEn 4 (.slice a l.length c) (ecs l) * (treeP h s' * F)) w' ∧ Nxt s s' 2047 0 := by
 obtain ⟨r, s', hx, h1, h2, h3, h4, h5, h6⟩ := step_get (list_ok (envT_ok true) (s := s) hI hR) (Nat.zero_le _) (by omega)
 subst h6
 have hx' : tList tRead root s = .ok r s' := hx
 have hcap := Keeps.ok (tList_keeps sameCap_goes tRead_cap root) hx'
 refine (list_tany h s root F w hs (by rw [hx']; simp)).mono fun e w' hy => ?_
 rw [hx'] at hy
 obtain ⟨a, c, e1, e2⟩ := hy
 exact ⟨a, c, s', e1, e2, ⟨h1, h2, h3, h4, h5, hcap⟩⟩
structure Played (s : TS) (ms : List (Int × List Ent)) (vs : List Value) (G : Assn) : Prop where
 len : vs.length = ms.length
 each : ∀ (i : Nat) (v : Value) (p : Int × List Ent), vs[i]? = some v → ms[i]? = some p → ReadsE G v p.2 ∧ Rt (nodeAt s) p.1 p.2 ∧ GoodL p.2
def rootC (ms : List (Int × List Ent)) : List Value := ms.map fun p => .int .i64 p.1
def madeA (mb : Nat) (a1 : Option Addr) (c1 : Nat) (a2 : Option Addr) (c2 n : Nat) (rs vs : List Value) : Assn :=
 Sl.block mb TMd [.slice a1 n c1, .slice a2 n c2] * (rw TIn 1 (.slice a1 n c1) rs * rw TLe 1 (.slice a2 n c2) vs)
def benchA (b : Nat) (h : Th) : Assn := Sl.block b TBe [.pointer (some ⟨h.D, 0, none⟩), .pointer (some ⟨h.C, 0, none⟩), .pointer (some ⟨h.S, 0, none⟩), .pointer (some ⟨h.t, 0, none⟩)]
theorem Played.same {s s' : TS} {ms : List (Int × List Ent)} {vs : List Value} {G : Assn} (h : Played s ms vs G) (hle : Le (nodeAt s) (nodeAt s')) : Played s' ms vs G :=
 ⟨h.len, fun i v p h1 h2 => by
   obtain ⟨k1, k2, k3⟩ := h.each i v p h1 h2
   exact ⟨k1, k2.le hle, k3⟩⟩
theorem Played.more {s s' : TS} {ms : List (Int × List Ent)} {vs : List Value} {G G' : Assn} (h : Played s ms vs G) (hle : Le (nodeAt s) (nodeAt s')) {r : Int} {l : List Ent} {v : Value} (h1 : ReadsE (G' * G) v l) (h2 : Rt (nodeAt s') r l) (h3 : GoodL l) :
 Played s' (ms ++ [(r, l)]) (vs ++ [v]) (G' * G) :=
 ⟨by rw [List.length_append, List.length_append, h.len]; rfl, fun i u p k1 k2 => by
   by_cases hi : i < ms.length
   · rw [List.getElem?_append_left (by rw [h.len]; exact hi)] at k1
     rw [List.getElem?_append_left hi] at k2
     obtain ⟨m1, m2, m3⟩ := h.each i u p k1 k2
     exact ⟨ReadsR.right m1, m2.le hle, m3⟩
   · rw [List.getElem?_append_right (by rw [h.len]; omega), h.len] at k1
     rw [List.getElem?_append_right (by omega)] at k2
     by_cases hz : i - ms.length = 0
     · rw [hz] at k1 k2
       cases k1
       cases k2
       exact ⟨h1, h2, h3⟩
     · rw [List.getElem?_eq_none (by simp; omega)] at k2
       cases k2⟩
theorem Played.at {s : TS} {ms : List (Int × List Ent)} {vs : List Value} {G : Assn} (h : Played s ms vs G) {i : Nat} (hi : i < ms.length) : ∃ v r l, vs[i]? = some v ∧ (rootC ms)[i]? = some (.int .i64 r) ∧ ReadsE G v l ∧ Rt (nodeAt s) r l ∧ GoodL l ∧ ms[i]? = some (r, l) := by
 obtain ⟨v, hv⟩ : ∃ v, vs[i]? = some v := ⟨_, List.getElem?_eq_getElem (by rw [h.len]; exact hi)⟩
 obtain ⟨⟨r, l⟩, hp⟩ : ∃ p, ms[i]? = some p := ⟨_, List.getElem?_eq_getElem hi⟩
 obtain ⟨k1, k2, k3⟩ := h.each i v _ hv hp
 exact ⟨v, r, l, hv, by unfold rootC; rw [List.getElem?_map, hp]; rfl, k1, k2, k3, hp⟩
end Go.Proofs.YteecnkneceemjaaGreat
namespace Go.Proofs.YteecnkneceemjaaGreat
set_option linter.unusedSimpArgs false
set_option linter.unusedVariables false
open Go.RowKit Go.Sl Go.Dk Go.Tr
attribute [local go_sem ↓] Go.wp_at_zero Go.wp_at_succ
attribute [local go_sem] Go.Sl.cell_sat Go.Sl.frozen_sat
def DoesOut (h : Th) (s : TS) (mb b m : Nat) (Bp F : Assn) (e : Ending) (w' : World) : Prop :=
 ∃ (s' : TS) (a1 : Option Addr) (c1 : Nat) (a2 : Option Addr) (c2 : Nat) (ms : List (Int × List Ent)) (vs : List Value) (G : Assn), e = .returned (.bool true) ∧
  Sat (treeP h s' * (G * (madeA mb a1 c1 a2 c2 ms.length (rootC ms) vs * (benchA b h * (Bp * F))))) w' ∧ Played s' ms vs G ∧ m ≤ ms.length ∧ ms.length ≤ m + 1 ∧ Nxt s s' 3000 2600
theorem seek_low {l l1 l2 : List Ent} {x : Ent} (hl : l = l1 ++ x :: l2) (hm : ∀ y ∈ l, mayEnt y = true) {i : Nat} (hi : i < l1.length) : eBytes (l.take (i + 1)) ≤ eBytes l1 := by
 have e : l.take (i + 1) = l1.take (i + 1) := by rw [hl, List.take_append_of_le_length (by omega)]
 rw [e]
 have h1 : eBytes l1 = eBytes (l1.take (i + 1)) + eBytes (l1.drop (i + 1)) := by rw [← eBytes_append, List.take_append_drop]
 have h2 := (okE_len (o := l1.drop (i + 1)) (fun y hy => (OkE.of (hm y (by rw [hl]; exact List.mem_append_left _ (List.mem_of_mem_drop hy)))).1)).1
 omega
set_option maxRecDepth 100000 in
set_option maxHeartbeats 6400000 in
theorem does_ask (h : Th) (s : TS) (mb b : Nat) (a1 : Option Addr) (c1 : Nat) (a2 : Option Addr) (c2 : Nat) (ms : List (Int × List Ent)) (vs : List Value) (G : Assn) (k f at_ n : Int) (put : List Ent) (v : Value) (Bp F : Assn) (w : World)
 (hk1 : k ≠ 1) (hk2 : k ≠ 2) (hk3 : k ≠ 3) (hP : Played s ms vs G) (hn0 : 0 < ms.length) (hn1 : ms.length ≤ 64) (hI : TInv true s) (hf : 10000 ≤ leftOps s) (hE : ReadsE Bp v put) (hpl : put.length ≤ 60)
 (hs : Sat (treeP h s * (G * (madeA mb a1 c1 a2 c2 ms.length (rootC ms) vs * (benchA b h * (Bp * F))))) w) :
 Calls Tryz.prog 12 #[.pointer (some ⟨mb, 0, none⟩), .pointer (some ⟨b, 0, none⟩), .agg #[.int .i64 k, .int .i64 f, .int .i64 at_, .int .i64 n, v]] w (DoesOut h s mb b ms.length Bp F) := by
 obtain ⟨nm, hnm⟩ : ∃ m, ms.length = m := ⟨_, rfl⟩
 have HNM : Aside (ms.length = nm) := hnm
 obtain ⟨j, hj, hjn⟩ : ∃ j : Nat, f % (ms.length : Int) = (j : Int) ∧ j < ms.length := ⟨(f % (ms.length : Int)).toNat, by have := Int.emod_nonneg f (show (ms.length : Int) ≠ 0 by omega); omega, by have := Int.emod_lt_of_pos f (show 0 < (ms.length : Int) by omega); omega⟩
 obtain ⟨vj, r, l, hv, hr, hle, hrt, hg, -⟩ := hP.at hjn
 obtain ⟨al, cl, rfl, hl1, hl2⟩ := hle.v
 obtain ⟨rs, hrs⟩ : ∃ x, rootC ms = x := ⟨_, rfl⟩
 have HPL : Aside (Played s ms vs G) := hP
 have HL : Aside (ReadsE G (.slice al l.length cl) l ∧ Rt (nodeAt s) r l ∧ GoodL l) := ⟨hle, hrt, hg⟩
 have HRS : Aside (rootC ms = rs) := hrs
 have HLT : Aside (∀ (F : Assn) (w : World), Sat (Bp * F) w → Calls Tryz.prog 45 #[v] w fun e w' => ∃ g c, e = .returned (.slice (some ⟨g, 0, none⟩) put.length c) ∧ Sat (lentA g c put * (Bp * F)) w') := fun F w h => lent_any put v Bp F w hE h (by omega)
 rw [hrs, hnm] at hs
 rw [hrs] at hr
 rw [hnm] at hj hjn hn0 hn1 ⊢
 haveI : At rs j (.int .i64 r) := ⟨hr⟩
 haveI : At vs j (.slice al l.length cl) := ⟨hv⟩
 have hgl := hg.1.2.2
 have hgb := hg.1.2.1
 obtain ⟨z, hz⟩ : ∃ z, eBytes l = z := ⟨_, rfl⟩
 obtain ⟨nl, hnl⟩ : ∃ z, l.length = z := ⟨_, rfl⟩
 have HZ : Aside (eBytes l = z ∧ l.length = nl) := ⟨hz, hnl⟩
 rw [hnl] at hl1 hgl
 rw [hz] at hgb
 unfold madeA benchA at hs
 have q0 : Sat (treeP h s * (G * (Sl.block mb TMd [.slice a1 nm c1, .slice a2 nm c2] * (rw TIn 1 (.slice a1 nm c1) rs * (rw TLe 1 (.slice a2 nm c2) vs * (Sl.block b TBe [.pointer (some ⟨h.D, 0, none⟩), .pointer (some ⟨h.C, 0, none⟩), .pointer (some ⟨h.S, 0, none⟩), .pointer (some ⟨h.t, 0, none⟩)] * (Bp * F))))))) w := hs.eq (by ac_rfl)
 have hjlt : (j : Int) < nm := by omega
 have hj0 : (0 : Int) ≤ j := by omega
 have e1 : (k == 1) = false := by simp [hk1]
 have e2 : (k == 2) = false := by simp [hk2]
 have e3 : (k == 3) = false := by simp [hk3]
 have hqr : ∀ g w, (Sem.run Tryz.prog (Instr.indexAt 28 (Value.slice (some ⟨g, 0, none⟩) nm c1) (Value.int IntKind.i64 j)) w) = .ok (.pointer (some ⟨g, j, none⟩)) w := by
  intro g w
  simp [go_sem, *]
 obtain ⟨g1, rfl⟩ := row_some (hs := q0.take (rw TIn 1 (.slice a1 nm c1) rs)) (by omega)
 obtain ⟨g2, rfl⟩ := row_some (hs := q0.take (rw TLe 1 (.slice a2 nm c2) vs)) (by omega)
 have HFIN : Aside (∀ (w' : World) (s' : TS), Nxt s s' 3000 2600 → Sat (treeP h s' * (G * (Sl.block mb TMd [.slice (some ⟨g1, 0, none⟩) nm c1, .slice (some ⟨g2, 0, none⟩) nm c2] * (rw TIn 1 (.slice (some ⟨g1, 0, none⟩) nm c1) rs * (rw TLe 1 (.slice (some ⟨g2, 0, none⟩) nm c2) vs * (Sl.block b TBe [.pointer (some ⟨h.D, 0, none⟩), .pointer (some ⟨h.C, 0, none⟩), .pointer (some ⟨h.S, 0, none⟩), .pointer (some ⟨h.t, 0, none⟩)] * (Bp * F))))))) w' → DoesOut h s mb b nm Bp F (.returned (.bool true)) w') := fun w' s' nx q => by
  refine ⟨s', some ⟨g1, 0, none⟩, c1, some ⟨g2, 0, none⟩, c2, ms, vs, G, rfl, ?_, HPL.out.same nx.le, by rw [HNM.out]; exact Nat.le_refl _, by rw [HNM.out]; omega, nx⟩
  rw [HNM.out, HRS.out]
  unfold madeA benchA
  exact q.eq (by ac_rfl)
 clear hle hrt hg hP hs hrs hnm hr hv hE hz hnl
 go_enter Tryz.func12, Tryz.ntmps12
 haveI := q0.i
 go_wp2_with fail
 obtain ⟨N, hN⟩ : ∃ N, w.heap.size = N := ⟨_, rfl⟩
 have q1 : Sat (treeP h s * (G * (Sl.block N TOp [.int .i64 k, .int .i64 f, .int .i64 at_, .int .i64 n, v] * (Sl.block mb TMd [.slice (some ⟨g1, 0, none⟩) nm c1, .slice (some ⟨g2, 0, none⟩) nm c2] * (rw TIn 1 (.slice (some ⟨g1, 0, none⟩) nm c1) rs * (rw TLe 1 (.slice (some ⟨g2, 0, none⟩) nm c2) vs * (Sl.block b TBe [.pointer (some ⟨h.D, 0, none⟩), .pointer (some ⟨h.C, 0, none⟩), .pointer (some ⟨h.S, 0, none⟩), .pointer (some ⟨h.t, 0, none⟩)] * (Bp * F)))))))) (w.alloc (.cells #[.int .i64 k, .int .i64 f, .int .i64 at_, .int .i64 n, v] TOp)) := by
  rw [← hN]
  show Sat (_ * (_ * (Sl.block w.heap.size TOp [.int .i64 k, .int .i64 f, .int .i64 at_, .int .i64 n, v] * _))) _
  exact satI_eq (by ac_rfl)
 try rw [hN]
 generalize w.alloc (.cells #[.int .i64 k, .int .i64 f, .int .i64 at_, .int .i64 n, v] TOp) = w0 at q1 ⊢
 clear hN q0 this
 haveI := q1.i
 go_region_held3 (fun w' => w'.cell? ⟨N, 1, none⟩ = some (.int .i64 f) ∧ w'.cell? ⟨mb, 0, none⟩ = some (.slice (some ⟨g1, 0, none⟩) nm c1)) (first | exact ⟨cell_sat _ _ _, cell_sat _ _ _⟩) (first | (go_at_call 10; refine (pick_any f nm _ (by omega) (by omega)).mono ?_; rintro e w9 ⟨rfl, rfl⟩))
 go_wp2_with fail
 go_region
 go_wp2_with fail
 with_reducible refine Calls.mono (HLT.out _ _ (takeI Bp)) ?_
 rintro e w2 ⟨gp, cp, rfl, q2⟩
 haveI := q2.i
 clear q1
 go_wp2_with fail
 have hsz := fun F w q => size_call h s r l F w q hI HL.out.2.1 (by omega)
 rw [HZ.out.1] at hsz
 with_reducible refine Calls.mono (hsz _ _ (takeI (treeP h s))) ?_
 rintro e w3 ⟨s1, rfl, q3, nx1⟩
 unfold vi2
 haveI := q3.i
 clear q2 hsz
 go_wp2_with fail
 have hL4 : ∀ h : Nat, 2 * 4 ^ h ≤ l.length → h ≤ 4 := fun q hq => by
  rcases Nat.lt_or_ge 4 q with h1 | h1
  · have : 4 ^ 5 ≤ 4 ^ q := Nat.pow_le_pow_right (by omega) h1
    have := HZ.out.2
    omega
  · exact h1
 have hsk := fun F w q => seek_call h s1 r at_ l F w q nx1.inv (HL.out.2.1.le nx1.le) 4 hL4 (by have := nx1.left; omega)
 clear hL4
 go_cut [21, 22, 23] (fun t21 t22 t23 wx => ∃ (M : Nat) (x1 x2 x3 x4 xa xe : Int) (s2 : TS), t21 = .pointer (some ⟨M, 0, none⟩) ∧ t22 = .int .i64 xa ∧ t23 = .int .i64 xe ∧ Aside (Nxt s1 s2 6 0 ∧ SeekOk l at_ ⟨x1, x2, x3, x4⟩ xa xe) ∧
  Sat (treeP h s2 * (G * (Sl.block M TEn [.int .i64 x1, .int .i64 x2, .int .i64 x3, .int .i64 x4] * (Sl.block N TOp [.int .i64 k, .int .i64 f, .int .i64 at_, .int .i64 n, v] * (Sl.block mb TMd [.slice (some ⟨g1, 0, none⟩) nm c1, .slice (some ⟨g2, 0, none⟩) nm c2] * (rw TIn 1 (.slice (some ⟨g1, 0, none⟩) nm c1) rs * (rw TLe 1 (.slice (some ⟨g2, 0, none⟩) nm c2) vs * (Sl.block b TBe [.pointer (some ⟨h.D, 0, none⟩), .pointer (some ⟨h.C, 0, none⟩), .pointer (some ⟨h.S, 0, none⟩), .pointer (some ⟨h.t, 0, none⟩)] * (Bp * F))))))))) wx)
 case first =>
  go_region_held3 (fun w' => w'.cell? ⟨b, 3, none⟩ = some (.pointer (some ⟨h.t, 0, none⟩)) ∧ w'.cell? ⟨N, 2, none⟩ = some (.int .i64 at_)) (first | exact ⟨cell_sat _ _ _, cell_sat _ _ _⟩) (first | (go_at_call 20; with_reducible refine Calls.mono (hsk _ _ (takeI (treeP h s1))) ?_; rintro e w4 ⟨⟨x1, x2, x3, x4⟩, xa, xe, s2, rfl, q4, nx2, hso⟩; unfold seekV; haveI := q4.i))
  all_goals
   go_wp2_with fail
   go_meet
   exact ⟨_, x1, x2, x3, x4, xa, xe, s2, rfl, rfl, rfl, ⟨nx2, hso⟩, keep9 _ _ _ _ _ _ _ _ _⟩
 case rest =>
  obtain ⟨M, x1, x2, x3, x4, xa, xe, s2, rfl, rfl, rfl, HX, q5⟩ := hcut
  clear q3 hsk
  haveI := q5.i
  have hsm := fun F w q => rsize_any l _ G F w HL.out.1 q (by have := HZ.out.2; omega) (fun x hx => by have := mayE_bounds (HL.out.2.2.1.1 x hx); omega)
  rw [HZ.out.1, HZ.out.2] at hsm
  have HSM : Aside (∀ (F : Assn) (w : World), Sat (G * F) w → Calls Tryz.prog 18 #[.slice al nl cl] w fun e w' => e = .returned (.int .i64 z) ∧ Sat (G * F) w') := hsm
  rw [HZ.out.2]
  clear hsm
  go_wp2_with fail
  with_reducible refine Calls.mono (HSM.out _ _ (takeI G)) ?_
  rintro e w6 ⟨rfl, q6⟩
  haveI := q6.i
  clear q5
  by_cases hout : at_ < 0 ∨ z ≤ at_
  · obtain ⟨hx, hx2, hx3⟩ : (⟨x1, x2, x3, x4⟩ : Ent) = ⟨0, 0, 0, 0⟩ ∧ xa = 0 ∧ xe = 2 := by
     have h3 := HX.out.2
     unfold SeekOk at h3
     rwa [HZ.out.1, if_pos hout] at h3
    cases hx
    subst hx2 hx3
    rcases hout with ho | ho
    · go_wp2
      go_ret
      exact HFIN.out _ s2 ((nx1.trans HX.out.1).more (by omega) (by omega)) (keep8 _ _ _ _ _ _ _ _)
    · have ho2 : ¬ at_ < 0 ∨ at_ < 0 := by omega
      clear ho2
      go_wp2
      all_goals go_ret
      all_goals exact HFIN.out _ s2 ((nx1.trans HX.out.1).more (by omega) (by omega)) (keep8 _ _ _ _ _ _ _ _)
  · have h3 := HX.out.2
    unfold SeekOk at h3
    rw [HZ.out.1, if_neg hout] at h3
    obtain ⟨rfl, l1, l2, hl, rfl, h5, h6⟩ := h3
    have HS : Aside (l = l1 ++ ⟨x1, x2, x3, x4⟩ :: l2) := hl
    have HLO : Aside (∀ i : Nat, i < l1.length → eBytes (l.take (i + 1)) ≤ eBytes l1) := fun i hi => seek_low hl HL.out.2.2.1.1 hi
    obtain ⟨n1, hn1'⟩ : ∃ x, l1.length = x := ⟨_, rfl⟩
    have hn2 : n1 < nl := by
     rw [← HZ.out.2, hl, ← hn1', List.length_append, List.length_cons]
     omega
    have hb0 : Aside (∀ i : Nat, 0 ≤ eBytes (l.take i) ∧ eBytes (l.take i) ≤ i * 1048576) := eBytes_take_bound fun x hx => by have := mayE_bounds (HL.out.2.2.1.1 x hx); omega
    have HAT : Aside (l[n1]? = some ⟨x1, x2, x3, x4⟩ ∧ l.take n1 = l1) := by
     rw [hl, ← hn1']
     exact ⟨by simp, by simp⟩
    have HMY : Aside (∀ (i : Nat) (y : Ent), l[i]? = some y → 1 ≤ y.len ∧ y.len ≤ 1048576) := fun i y hy => mayE_bounds (HL.out.2.2.1.1 y (List.mem_of_getElem? hy))
    rw [hn1'] at HLO
    obtain ⟨z1, hz1⟩ : ∃ x, eBytes l1 = x := ⟨_, rfl⟩
    rw [hz1] at HLO h5 h6 ⊢
    have HZ1 : Aside (eBytes l1 = z1) := hz1
    simp only at h6
    clear hl hn1' hz1
    have ho1 : ¬ at_ < 0 := by omega
    have ho2 : ¬ z ≤ at_ := by omega
    have HNX : Aside (Nxt s s2 3000 2600) := (nx1.trans HX.out.1).more (by omega) (by omega)
    clear hout HX
    go_wp2
    go_loopg [24, 25] nl (fun g t24 t25 wr => ∃ (i : Nat), t25 = .int .i64 i ∧ t24 = .int .i64 (eBytes (l.take i)) ∧ i ≤ n1 ∧ Aside (g = nl - i) ∧
     Sat (treeP h s2 * (G * (Sl.block M TEn [.int .i64 x1, .int .i64 x2, .int .i64 x3, .int .i64 x4] * (Sl.block N TOp [.int .i64 k, .int .i64 f, .int .i64 at_, .int .i64 n, v] * (Sl.block mb TMd [.slice (some ⟨g1, 0, none⟩) nm c1, .slice (some ⟨g2, 0, none⟩) nm c2] * (rw TIn 1 (.slice (some ⟨g1, 0, none⟩) nm c1) rs * (rw TLe 1 (.slice (some ⟨g2, 0, none⟩) nm c2) vs * (Sl.block b TBe [.pointer (some ⟨h.D, 0, none⟩), .pointer (some ⟨h.C, 0, none⟩), .pointer (some ⟨h.S, 0, none⟩), .pointer (some ⟨h.t, 0, none⟩)] * (Bp * F))))))))) wr)
    case atStart => exact ⟨0, rfl, by simp [eBytes], by omega, rfl, keep9 _ _ _ _ _ _ _ _ _⟩
    case round =>
     obtain ⟨i, rfl, rfl, hi, A, q7⟩ := hrel
     clear q6
     haveI := q7.i
     have hi1 : (i : Int) < nl := by omega
     obtain ⟨y, hy⟩ : ∃ y, l[i]? = some y := ⟨_, List.getElem?_eq_getElem (by rw [HZ.out.2]; omega)⟩
     have hle := HL.out.1
     obtain ⟨bl, ol, hal, r1, r2, r3, r4⟩ := readsE_at hle hy
     subst hal
     have hyb := HMY.out i y hy
     have hsn := eBytes_snoc hy
     have hbi := hb0.out i
     obtain ⟨zi, hzi⟩ : ∃ x, eBytes (l.take i) = x := ⟨_, rfl⟩
     rw [hzi] at hsn hbi ⊢
     have hw1 : IntKind.i64.wrap (zi + y.len) = zi + y.len := IntWalk.i64_in _ (by omega)
     by_cases hin : i < n1
     · have h7 := HLO.out i hin
       rw [hsn] at h7
       have HSN : Aside (eBytes (l.take (i + 1)) = zi + y.len) := hsn
       have hno : ¬ at_ < zi + y.len := by omega
       obtain ⟨y1, y2, y3, y4⟩ := y
       simp only at r1 r2 r3 r4 hyb hw1 HSN hno
       clear hy hzi hsn hle h7
       go_wp2_with fail
       go_region
       go_wp2_with fail
       go_roundg (nl - (i + 1))
       case measure => have := A.out; omega
       case rel => exact ⟨i + 1, by go_num, by rw [HSN.out], by omega, rfl, keep9 _ _ _ _ _ _ _ _ _⟩
     · obtain rfl : i = n1 := by omega
       rw [HAT.out.1] at hy
       cases hy
       have hze : zi = z1 := by rw [← hzi, HAT.out.2, HZ1.out]
       subst hze
       simp only at r1 r2 r3 r4 hyb hw1
       clear hzi hsn hle
       go_wp2_with fail
       go_region
       go_wp2_with fail
       go_region
       go_wp2_with fail
       go_ret
       exact HFIN.out _ s2 HNX.out (keep8 _ _ _ _ _ _ _ _)
end Go.Proofs.YteecnkneceemjaaGreat
