/-
  Of any pages in a file a root is found to be a tree just if it is one in the form of the document. No condition. (part 55)
-/
import Derived.Test.YtfhbmblbidcmmaaGreatRk53
import Derived.Test.YtfhbmblbidcmmaaGreatRk40
import Derived.Test.YtfhbmblbidcmmaaGreatRk54
import Derived.Deep.DeepCutAuto
import Derived.Deep.RegionHeld3
import Derived.Test.YtfhbmblbidcmmaaGreatRk46
import Derived.Test.YtfhbmblbidcmmaaGreatRk52
import Derived.Test.YtfhbmblbidcmmaaGreatRk28
import Derived.Test.YtfhbmblbidcmmaaGreatRk10
set_option linter.unusedSimpArgs false
set_option linter.unusedVariables false
namespace Go.Proofs.YtfhbmblbidcmmaaGreat
set_option linter.unusedSimpArgs false
set_option linter.unusedVariables false
open Go.RowKit Go.Sl Go.Dk Go.Tr
attribute [local go_sem ↓] Go.wp_at_zero Go.wp_at_succ
attribute [local go_sem] Go.Sl.cell_sat Go.Sl.frozen_sat
theorem eB_short {l : List Ent} (h : l.length ≤ 1) (hm : ∀ x ∈ l, mayEnt x = true) : 0 ≤ eBytes l ∧ eBytes l ≤ 1048576 := by
 match l, h with
 | [], _ => simp [eBytes]
 | [a], _ =>
  have := mayE_iff.1 (hm a (by simp))
  have e : eBytes [a] = a.len := by simp [eBytes]
  rw [e]
  omega
theorem takeP4 {A R R' R'' R3 : Assn} {w : World} [h : SatI A w] (X Y Z V : Assn) [t : Take A X R] [t' : Take R Y R'] [t'' : Take R' Z R''] [t3 : Take R'' V R3] : Sat (X * (Y * (Z * V)) * R3) w := (h.out.take3 X Y Z).eq (by rw [t3.out]; ac_rfl)
theorem readsLL_three {X Y Z : Assn} {x y z : Value} {l m k : List Ent} (b : Nat) (h1 : ReadsE X x l) (h2 : ReadsE Y y m) (h3 : ReadsE Z z k) : ReadsLL (Sl.block b TEs [x, y, z] * (X * (Y * Z))) (.slice (some ⟨b, 0, none⟩) 3 3) [l, m, k] := by
 refine ⟨[x, y, z], ⟨rfl, _, _, rfl, Nat.le_refl _, by omega, fun j u hj => ⟨b, 0, rfl, ?_⟩⟩, rfl, fun i u l' hx hl => ?_⟩
 · haveI : At [x, y, z] j u := ⟨hj⟩
   rw [Nat.zero_add]
   exact inferInstance
 · match i with
   | 0 => simp at hx hl; subst hx; subst hl; exact ReadsR.right (ReadsR.left h1)
   | 1 => simp at hx hl; subst hx; subst hl; exact ReadsR.right (ReadsR.right (ReadsR.left h2))
   | 2 => simp at hx hl; subst hx; subst hl; exact ReadsR.right (ReadsR.right (ReadsR.right h3))
   | i + 3 => simp at hx
structure SpA (s1 : TS) (root at_ n all : Int) (L R : List Ent × Int) (whole : Tall) (r1 r0 : Int) (s2 s3 s4 s5 s6 : TS) : Prop where
 hl : Go.Tr.leftOf tRead root at_ s1 = .ok L s2
 hr : Go.Tr.rightOf tRead root (at_ + n) all s2 = .ok R s3
 hw : tRooted tRead root s3 = .ok whole s4
 hk1 : tRank tRead 30 whole R.2 s4 = .ok r1 s5
 hk0 : tRank tRead 30 whole L.2 s5 = .ok r0 s6
structure SpB (whole : Tall) (L R : List Ent × Int) (put : List Ent) (p q : Tall × Tall) (m x y : Tall) (s6 s7 s8 s9 s10 s11 : TS) : Prop where
 hp : tParted tRead tWrite 30 whole L.2 s6 = .ok p s7
 hq : tParted tRead tWrite 30 p.2 (R.2 - L.2) s7 = .ok q s8
 hm : tLeaves tWrite (join (L.1 ++ put ++ R.1)) s8 = .ok m s9
 hx : tPut tRead tWrite p.1 m s9 = .ok x s10
 hy : tPut tRead tWrite x q.2 s10 = .ok y s11
set_option maxRecDepth 100000 in
set_option maxHeartbeats 12800000 in
theorem splice_main (h : Th) (s : TS) (root at_ n : Int) (put : List Ent) (v : Value) (B F : Assn) (w : World) (hE : ReadsE B v put) (hs : Sat (treeP h s * (B * F)) w) (hl : put.length ≤ 1000)
 (hm : mayList put = true) (all : Int) (s1 : TS) (hz : tSize tRead root s = .ok all s1) (k1 : ¬ at_ < 0) (k2 : ¬ n < 0) (k3 : ¬ all < at_) (k4 : ¬ all - at_ < n) (k5 : ¬ 1048576 < all - n + eBytes put) (k6 : n = 0 → put ≠ [])
 (L R : List Ent × Int) (whole : Tall) (r1 r0 : Int) (s2 s3 s4 s5 s6 : TS) (HA : SpA s1 root at_ n all L R whole r1 r0 s2 s3 s4 s5 s6) (Q : Res TS Int)
 (hbig : 1024 < whole.kid.scraps - r1 + r0 + (join (L.1 ++ put ++ R.1)).length → Q = .fault 11 (s6.undone s1.sp.taken.length))
 (hgo : ¬ 1024 < whole.kid.scraps - r1 + r0 + (join (L.1 ++ put ++ R.1)).length → ∃ p q m x y s7 s8 s9 s10 s11, SpB whole L R put p q m x y s6 s7 s8 s9 s10 s11 ∧ Q = .ok y.kid.page s11) :
 Calls Tryz.prog 33 #[.pointer (some ⟨h.t, 0, none⟩), .int .i64 root, .int .i64 at_, .int .i64 n, v] w (Back h (B * F) Q (fun z => vi2 z 0) (fun er => vi2 0 er)) := by
 have hmf : ∀ (fn : Fn) (first cap : Array Value) (w : World), (Instr.makeFunc fn first cap).run Tryz.prog w = .ok (.func fn first cap) w := fun _ _ _ _ => rfl
 have HBG : Aside (1024 < whole.kid.scraps - r1 + r0 + (join (L.1 ++ put ++ R.1)).length → Q = .fault 11 (s6.undone s1.sp.taken.length)) := hbig
 have HGO : Aside (¬ 1024 < whole.kid.scraps - r1 + r0 + (join (L.1 ++ put ++ R.1)).length → ∃ p q m x y s7 s8 s9 s10 s11, SpB whole L R put p q m x y s6 s7 s8 s9 s10 s11 ∧ Q = .ok y.kid.page s11) := hgo
 obtain ⟨HL, HR, HW, HK1, HK0⟩ := HA
 have hgrow : s1.sp.taken.length ≤ s6.sp.taken.length := by
  have g1 := (Keeps.ok (leftOf_keeps grow_goes tRead_keeps root at_) HL).len
  have g2 := (Keeps.ok (rightOf_keeps grow_goes tRead_keeps root (at_ + n) all) HR).len
  have g3 := (Keeps.ok (tRooted_keeps grow_goes tRead_keeps root) HW).len
  have g4 := (Keeps.ok (tRank_keeps grow_goes tRead_keeps 30 whole R.2) HK1).len
  have g5 := (Keeps.ok (tRank_keeps grow_goes tRead_keeps 30 whole L.2) HK0).len
  omega
 obtain ⟨lb1, lb2, lb3, lb4⟩ := leftOf_bound (by omega) HL
 obtain ⟨rb1, rb2, rb3, rb4⟩ := rightOf_bound (by omega) HR
 obtain ⟨wb1, wb2, wb3, wb4⟩ := rooted_bound HW
 have kb1 := rank_bound (fun p s n s' h => tRead_may h) 16777216 (by omega) 30 whole R.2 s4 r1 s5 wb3 (by omega) HK1
 have kb0 := rank_bound (fun p s n s' h => tRead_may h) 16777216 (by omega) 30 whole L.2 s5 r0 s6 wb3 (by omega) HK0
 obtain ⟨a0, c0, rfl, hE1, hE2⟩ := hE.v
 have hmy := fun F w q => tmay_any put _ B F w hE q (by omega)
 rw [hm] at hmy
 have c1 := fun F w q => size_tany h s root F w q (by rw [hz]; simp)
 rw [hz] at c1
 have hzb := size_bound hz
 have hmp := mayList_parts hm
 have hmp1 := fun x hx => mayE_len (hmp.1 x hx)
 have hpb := eBytes_ge hmp.1
 have htot := fun F w q => total_any put _ B F w hE q (by omega) (fun x hx => by have := hmp1 x hx; have := mayE_iff.1 (hmp.1 x hx); omega)
 have hw : IntKind.i64.wrap (all - at_) = all - at_ := IntWalk.i64_in _ (by omega)
 have hw2 : IntKind.i64.wrap (all - n) = all - n := IntWalk.i64_in _ (by omega)
 have HMP : Aside ((∀ x ∈ put, mayEnt x = true) ∧ eBytes put ≤ 1048576) := hmp
 obtain ⟨tot, htt⟩ : ∃ t, eBytes put = t := ⟨_, rfl⟩
 rw [htt] at htot hmp hpb k5
 obtain ⟨hmp2, hmp3⟩ := hmp
 have hw3 : IntKind.i64.wrap (all - n + tot) = all - n + tot := IntWalk.i64_in _ (by omega)
 have hw4 : IntKind.i64.wrap (at_ + n) = at_ + n := IntWalk.i64_in _ (by omega)
 obtain ⟨np, hnp⟩ : ∃ np, put.length = np := ⟨_, rfl⟩
 have HNP : Aside (put.length = np ∧ (n = 0 → np ≠ 0)) := ⟨hnp, fun e1 e2 => k6 e1 (List.length_eq_zero_iff.1 (hnp.trans e2))⟩
 have HEP : Aside (ReadsE B (.slice a0 put.length c0) put) := hE
 rw [hnp] at hl hE1 hmy htot hpb ⊢
 have h2 : Sat (B * (treeP h s * F)) w := hs.eq (by ac_rfl)
 haveI := h2.i
 unfold vi2 at c1
 clear hs h2 hmp2 hmp1 hE hm hbig hgo k6 hnp hz htt
 go_enter_defers Tryz.func33, Tryz.ntmps33
 go_wp2_with fail
 with_reducible refine Calls.mono (hmy _ _ (takeI B)) ?_
 rintro e w2 ⟨rfl, q2⟩
 obtain ⟨N, hN⟩ : ∃ N, w.heap.size = N := ⟨_, rfl⟩
 rw [hN] at q2 ⊢
 haveI := q2.i
 clear hN hmy
 go_wp2_with fail
 with_reducible refine Calls.mono (c1 _ _ (takeI (treeP h s))) ?_
 rintro e w3 ⟨rfl, q3⟩
 haveI := q3.i
 clear c1 q2
 go_wp2_with fail
 with_reducible refine Calls.mono (htot _ _ (takeI B)) ?_
 rintro e w4 ⟨rfl, q4⟩
 haveI := q4.i
 clear htot q3
 go_upto_region 10 with (fail)
 go_cut [75] from 28 to 185 (fun t75 wx => t75 = .bool false ∧ Sat (treeP h s1 * (B * (Sl.block (N + 1) TEr [.int .i64 0] * (Sl.block N TIt [.int .i64 0] * F)))) wx)
 case first =>
  by_cases hn0 : n = 0
  · subst hn0
    have hnp0 : ¬ np = 0 := HNP.out.2 rfl
    have hnp1 : ((np : Int) == 0) = false := by simp; omega
    go_wp2
    go_meet
    exact ⟨rfl, keep5 _ _ _ _ _⟩
  · have hn1 : ((n : Int) == 0) = false := by simpa using hn0
    go_wp2
    go_meet
    exact ⟨rfl, keep5 _ _ _ _ _⟩
 case rest =>
  obtain ⟨rfl, q5⟩ := hcut
  haveI := q5.i
  clear q4
  go_wp2_with fail
  with_reducible refine Calls.mono (mark_tany h s1 _ _ (takeI (treeP h s1))) ?_
  rintro e w5 ⟨rfl, q6⟩
  haveI := q6.i
  clear q5
  go_upto_if 89 with (fail)
  go_cut [13, 15] from 28 to 185 (fun t13 t15 wx => ∃ (al : Option Addr) (nl cl : Nat) (GL : Assn), t13 = .int .i64 L.2 ∧ t15 = .slice al nl cl ∧ nl = L.1.length ∧ Aside (ReadsE GL (.slice al nl cl) L.1) ∧ Sat (treeP h s2 * (GL * (B * (Sl.block (N + 1) TEr [.int .i64 0] * (Sl.block N TIt [.int .i64 0] * F))))) wx)
  case first =>
   have hL := HL
   unfold Go.Tr.leftOf at hL
   by_cases hat : 0 < at_
   · rw [if_pos hat] at hL
     obtain ⟨z, s1', e1, e2⟩ := bind_out hL
     have hsk := fun F w q => seek_any h s1 root (at_ - 1) F w q (by rw [e1]; simp)
     rw [e1] at hsk
     obtain ⟨b1, b2, b3, b4⟩ := seek_bound (by omega) e1
     have b5 := mayE_iff.1 b1
     obtain ⟨⟨z1, z2, z3, z4⟩, za⟩ := z
     simp only at b1 b2 b3 b4 b5 e2
     have hpt := fun F w q => part_any ⟨z1, z2, z3, z4⟩ 0 (at_ - za) F w q (by simp only; omega) (by omega) (by omega)
     have HP : Aside (L = (Go.Tr.part ⟨z1, z2, z3, z4⟩ 0 (at_ - za), za) ∧ s1' = s2) := by
      cases e2
      exact ⟨rfl, rfl⟩
     have hv1 : IntKind.i64.wrap (at_ - 1) = at_ - 1 := IntWalk.i64_in _ (by omega)
     have hv2 : IntKind.i64.wrap (at_ - za) = at_ - za := IntWalk.i64_in _ (by omega)
     unfold entV at hpt
     simp only at hpt
     clear e1 e2 b1 b5 hL
     go_wp2_with fail
     with_reducible refine Calls.mono (hsk _ _ (takeI (treeP h s1))) ?_
     rintro e w6 ⟨v6, G6, rfl, ⟨rfl, rfl⟩, q7⟩
     rw [one_sep] at q7
     haveI := q7.i
     clear hsk q6
     go_wp2_with fail
     with_reducible refine Calls.mono (hpt _ _ satI) ?_
     rintro e w7 ⟨v7, G7, rfl, hv7, q8⟩
     obtain ⟨al, cl, rfl, _, _⟩ := hv7.v
     haveI := q8.i
     obtain ⟨e3, e4⟩ := HP.out
     subst e3
     subst e4
     go_wp2
     go_meet
     exact ⟨al, _, cl, G7, rfl, rfl, rfl, hv7, keep6 _ _ _ _ _ _⟩
   · rw [if_neg hat] at hL
     have HP : Aside (L = ([], at_) ∧ s1 = s2) := by
      cases hL
      exact ⟨rfl, rfl⟩
     clear hL
     go_wp2
     go_meet
     obtain ⟨e3, e4⟩ := HP.out
     subst e3
     subst e4
     exact ⟨none, 0, 0, 1, rfl, rfl, rfl, ReadsR.nil 4 _, by rw [one_sep]; exact keep5 _ _ _ _ _⟩
  case rest =>
   obtain ⟨al, nl, cl, GL, rfl, rfl, hnl, HGL, q7⟩ := hcut
   subst hnl
   haveI := q7.i
   clear q6
   go_upto_if 108 with (fail)
   go_cut [14, 16] from 28 to 185 (fun t14 t16 wx => ∃ (ar : Option Addr) (nr cr : Nat) (GR : Assn), t14 = .int .i64 R.2 ∧ t16 = .slice ar nr cr ∧ nr = R.1.length ∧ Aside (ReadsE GR (.slice ar nr cr) R.1) ∧ Sat (treeP h s3 * (GR * (GL * (B * (Sl.block (N + 1) TEr [.int .i64 0] * (Sl.block N TIt [.int .i64 0] * F)))))) wx)
   case first =>
    have hR := HR
    unfold Go.Tr.rightOf at hR
    by_cases hat : at_ + n < all
    · rw [if_pos hat] at hR
      obtain ⟨z, s1', e1, e2⟩ := bind_out hR
      have hsk := fun F w q => seek_any h s2 root (at_ + n) F w q (by rw [e1]; simp)
      rw [e1] at hsk
      obtain ⟨b1, b2, b3, b4⟩ := seek_bound (by omega) e1
      have b5 := mayE_iff.1 b1
      obtain ⟨⟨z1, z2, z3, z4⟩, za⟩ := z
      simp only at b1 b2 b3 b4 b5 e2
      have hpt := fun F w q => part_any ⟨z1, z2, z3, z4⟩ (at_ + n - za) z3 F w q (by simp only; omega) (by omega) (by omega)
      have HP : Aside (R = (Go.Tr.part ⟨z1, z2, z3, z4⟩ (at_ + n - za) z3, za + z3) ∧ s1' = s3) := by
       cases e2
       exact ⟨rfl, rfl⟩
      have hv1 : IntKind.i64.wrap (at_ + n - za) = at_ + n - za := IntWalk.i64_in _ (by omega)
      have hv2 : IntKind.i64.wrap (za + z3) = za + z3 := IntWalk.i64_in _ (by omega)
      unfold entV at hpt
      simp only at hpt
      clear e1 e2 b1 b5 hR
      go_wp2_with fail
      with_reducible refine Calls.mono (hsk _ _ (takeI (treeP h s2))) ?_
      rintro e w6 ⟨v6, G6, rfl, ⟨rfl, rfl⟩, q8⟩
      rw [one_sep] at q8
      haveI := q8.i
      obtain ⟨N19, hN19⟩ : ∃ M, w6.heap.size = M := ⟨_, rfl⟩
      clear hsk q7
      go_upto_region 21 with (fail)
      try rw [hN19]
      have q9 : Sat (Sl.block N19 TEn [.int .i64 z1, .int .i64 z2, .int .i64 z3, .int .i64 z4] * (treeP h s1' * (GL * (B * (Sl.block (N + 1) TEr [.int .i64 0] * (Sl.block N TIt [.int .i64 0] * F)))))) (w6.alloc (.cells #[.int .i64 z1, .int .i64 z2, .int .i64 z3, .int .i64 z4] TEn)) := by
       rw [← hN19]
       exact satI_eq (by ac_rfl)
      clear hN19 q8
      generalize w6.alloc (.cells #[.int .i64 z1, .int .i64 z2, .int .i64 z3, .int .i64 z4] TEn) = w66 at q9 ⊢
      haveI := q9.i
      go_region_held3 (fun w' => w'.cell? ⟨N19, 0, none⟩ = some (.int .i64 z1) ∧ w'.cell? ⟨N19, 1, none⟩ = some (.int .i64 z2) ∧ w'.cell? ⟨N19, 2, none⟩ = some (.int .i64 z3) ∧ w'.cell? ⟨N19, 3, none⟩ = some (.int .i64 z4)) (first | exact ⟨cell_sat _ _ _, cell_sat _ _ _, cell_sat _ _ _, cell_sat _ _ _⟩) (first
       | (go_at_call 95
          with_reducible refine Calls.mono (hpt _ _ satI) ?_
          rintro e w7 ⟨v7, G7, rfl, hv7, q10⟩
          obtain ⟨ar, cr, rfl, _, _⟩ := hv7.v
          haveI := q10.i))
      all_goals
       obtain ⟨e3, e4⟩ := HP.out
       subst e3
       subst e4
       go_wp2
       go_meet
       exact ⟨ar, _, cr, G7, rfl, rfl, rfl, hv7, keep7 _ _ _ _ _ _ _⟩
    · rw [if_neg hat] at hR
      have HP : Aside (R = ([], at_ + n) ∧ s2 = s3) := by
       cases hR
       exact ⟨rfl, rfl⟩
      clear hR
      go_wp2
      go_meet
      obtain ⟨e3, e4⟩ := HP.out
      subst e3
      subst e4
      exact ⟨none, 0, 0, 1, rfl, rfl, rfl, ReadsR.nil 4 _, by rw [one_sep]; exact keep6 _ _ _ _ _ _⟩
   case rest =>
    obtain ⟨ar, nr, cr, GR, rfl, rfl, hnr, HGR, q8⟩ := hcut
    haveI := q8.i
    subst hnr
    clear q7
    obtain ⟨lB1, lB2⟩ := eB_short lb1 lb2
    obtain ⟨rB1, rB2⟩ := eB_short rb1 rb2
    have hfl : ([L.1, put, R.1] : List (List Ent)).flatten = L.1 ++ put ++ R.1 := by simp
    have hEP : ReadsE B (.slice a0 np c0) put := by have := HEP.out; rw [HNP.out.1] at this; exact this
    have hjo := fun b F w q => join_any [L.1, put, R.1] (.slice (some ⟨b, 0, none⟩) 3 3) (Sl.block b TEs [.slice al L.1.length cl, .slice a0 np c0, .slice ar R.1.length cr] * (GL * (B * GR))) F w (readsLL_three b HGL.out hEP HGR.out) q (by simp)
     (by rw [hfl]; simp only [List.length_append]; rw [HNP.out.1]; omega)
     (by
       rw [hfl]
       intro x hx
       rcases List.mem_append.1 hx with hx | hx
       · rcases List.mem_append.1 hx with hx | hx
         · exact lb2 x hx
         · exact HMP.out.1 x hx
       · exact rb2 x hx)
     (by rw [hfl, Go.Tr.eBytes_append, Go.Tr.eBytes_append]; have := HMP.out.2; omega)
    rw [hfl] at hjo
    have hjl := join_short (L.1 ++ put ++ R.1)
    simp only [List.length_append] at hjl
    rw [HNP.out.1] at hjl
    obtain ⟨js, hjs⟩ : ∃ js, join (L.1 ++ put ++ R.1) = js := ⟨_, rfl⟩
    have HJS : Aside (join (L.1 ++ put ++ R.1) = js) := hjs
    rw [hjs] at hjo hjl
    obtain ⟨nj, hnj⟩ : ∃ nj, js.length = nj := ⟨_, rfl⟩
    have HNJ : Aside (js.length = nj) := hnj
    rw [hnj] at hjl
    have hjl2 : nj ≤ 1002 := by omega
    rw [hnj] at hjo
    have c3 := fun F w q => rooted_any h s3 root F w q (by rw [HW]; simp)
    rw [HW] at c3
    have c4 := fun F w q => rank_any 30 h s4 whole R.2 F w q wb1 (by omega) wb3 (by omega) (by omega) (by omega) (by rw [HK1]; simp)
    rw [HK1] at c4
    have c5 := fun F w q => rank_any 30 h s5 whole L.2 F w q wb1 (by omega) wb3 (by omega) (by omega) (by omega) (by rw [HK0]; simp)
    rw [HK0] at c5
    have c6 := fun F w q nb => parted_any 30 h s6 whole L.2 F w q (by omega) (by omega) (by omega) (by omega) nb
    obtain ⟨⟨x1, x2, x3, x4⟩, xh⟩ := whole
    unfold tallV at c4 c5 c6
    simp only at c4 c5 c6 wb1 wb2 wb3 wb4 kb1 kb0
    have hv1 : IntKind.i64.wrap (x4 - r1) = x4 - r1 := IntWalk.i64_in _ (by omega)
    have hv2 : IntKind.i64.wrap (x4 - r1 + r0) = x4 - r1 + r0 := IntWalk.i64_in _ (by omega)
    have hv3 : IntKind.i64.wrap (x4 - r1 + r0 + (nj : Int)) = x4 - r1 + r0 + nj := IntWalk.i64_in _ (by omega)
    have hv4 : IntKind.i64.wrap (R.2 - L.2) = R.2 - L.2 := IntWalk.i64_in _ (by omega)
    have HB1 : Aside (-1 ≤ xh ∧ xh ≤ 20 ∧ R.2 - L.2 ≤ 1099511627776) := ⟨wb1, wb2, by omega⟩
    have HGR2 : Aside (s1.sp.taken.length ≤ s6.sp.taken.length) := hgrow
    clear lB1 lB2 rB1 rB2 hfl hEP hjs hjl hnj kb1 kb0 wb1 wb2 wb3 wb4 hgrow lb1 lb2 rb1 rb2 HGL HGR HEP HMP hzb
    go_wp2_with fail
    with_reducible refine Calls.mono (hjo _ _ _ (takeP4 _ _ _ _)) ?_
    rintro e w7 ⟨aj, cj, rfl, q9⟩
    haveI := q9.i
    clear hjo
    have q10 : Sat (treeP h s3 * (rw TEn 4 (.slice aj nj cj) (ecs js) * (Sl.block (N + 1) TEr [.int .i64 0] * (Sl.block N TIt [.int .i64 0] * (B * F))))) w7 := keep6 _ _ _ _ _ _
    haveI := q10.i
    have hJ : ReadsE (rw TEn 4 (.slice aj nj cj) (ecs js)) (.slice aj nj cj) js := by
     have := ReadsR.rw (F := treeP h s3 * (Sl.block (N + 1) TEr [.int .i64 0] * (Sl.block N TIt [.int .i64 0] * (B * F)))) (q10.eq (by ac_rfl)) ⟨aj, cj, rfl⟩ (n := nj)
     rw [← HNJ.out] at this ⊢
     exact this
    have HJ : Aside (ReadsE (rw TEn 4 (.slice aj nj cj) (ecs js)) (.slice aj nj cj) js) := hJ
    clear hJ q8 q9
    go_wp2_with fail
    with_reducible refine Calls.mono (c3 _ _ (takeI (treeP h s3))) ?_
    rintro e w8 ⟨v8, G8, rfl, ⟨rfl, rfl⟩, q11⟩
    rw [one_sep] at q11
    haveI := q11.i
    obtain ⟨N22, hN22⟩ : ∃ M, w8.heap.size = M := ⟨_, rfl⟩
    unfold tallV
    clear q10 c3
    go_upto_region 24 with (fail)
    try rw [hN22]
    have q12 : Sat (Sl.block N22 TTl [.int .i64 x1, .int .i64 x2, .int .i64 x3, .int .i64 x4, .int .i64 xh] * (treeP h s4 * (rw TEn 4 (.slice aj nj cj) (ecs js) * (Sl.block (N + 1) TEr [.int .i64 0] * (Sl.block N TIt [.int .i64 0] * (B * F)))))) (w8.alloc (.cells #[.int .i64 x1, .int .i64 x2, .int .i64 x3, .int .i64 x4, .int .i64 xh] TTl)) := by
     rw [← hN22]
     exact satI_eq (by ac_rfl)
    clear hN22 q11
    generalize w8.alloc (.cells #[.int .i64 x1, .int .i64 x2, .int .i64 x3, .int .i64 x4, .int .i64 xh] TTl) = w88 at q12 ⊢
    haveI := q12.i
    go_cut [157] from 28 to 185 (fun t157 wx => t157 = .bool (decide (1024 < x4 - r1 + r0 + (nj : Int))) ∧ Sat (Sl.block N22 TTl [.int .i64 x1, .int .i64 x2, .int .i64 x3, .int .i64 x4, .int .i64 xh] * (treeP h s6 * (rw TEn 4 (.slice aj nj cj) (ecs js) * (Sl.block (N + 1) TEr [.int .i64 0] * (Sl.block N TIt [.int .i64 0] * (B * F)))))) wx)
    case first =>
     go_region_held3 (fun w' => w'.cell? ⟨N22, 0, none⟩ = some (.int .i64 x1) ∧ w'.cell? ⟨N22, 1, none⟩ = some (.int .i64 x2) ∧ w'.cell? ⟨N22, 2, none⟩ = some (.int .i64 x3) ∧ w'.cell? ⟨N22, 3, none⟩ = some (.int .i64 x4) ∧ w'.cell? ⟨N22, 4, none⟩ = some (.int .i64 xh)) (first | exact ⟨cell_sat _ _ _, cell_sat _ _ _, cell_sat _ _ _, cell_sat _ _ _, cell_sat _ _ _⟩) (first
      | (go_at_call 97
         with_reducible refine Calls.mono (c4 _ _ (takeI (treeP h s4))) ?_
         rintro e w9 ⟨v9, G9, rfl, ⟨rfl, rfl⟩, q13⟩
         rw [one_sep] at q13
         haveI := q13.i)
      | (go_at_call 97
         with_reducible refine Calls.mono (c5 _ _ (takeI (treeP h s5))) ?_
         rintro e w10 ⟨v10, G10, rfl, ⟨rfl, rfl⟩, q14⟩
         rw [one_sep] at q14
         haveI := q14.i))
     all_goals
      go_wp2
      go_meet
      exact ⟨rfl, keep6 _ _ _ _ _ _⟩
    case rest =>
     obtain ⟨rfl, q13⟩ := hcut
     haveI := q13.i
     clear q12 c4 c5
     by_cases hb : 1024 < x4 - r1 + r0 + (nj : Int)
     · have hQ := HBG.out (by rw [HJS.out, HNJ.out]; omega)
       subst hQ
       have hd : decide (1024 < x4 - r1 + r0 + (nj : Int)) = true := decide_eq_true hb
       rw [hd]
       go_wp2
       refine leaves_cons (f := 93) (args := #[.pointer (some ⟨N, 0, none⟩), .pointer (some ⟨N + 1, 0, none⟩)]) (by simp) (by simp [go_sem]) ?_
       refine (spliceC_idle _ _ _).mono ?_
       rintro e u' w14 ⟨rfl, rfl, rfl⟩
       show Leaves _ _ _ _ _ .returning _
       refine leaves_cons (f := 81) (args := #[.pointer (some ⟨h.t, 0, none⟩), .int .i64 s1.sp.taken.length, .pointer (some ⟨N + 1, 0, none⟩)]) (by simp) (by simp [go_sem]) ?_
       refine (undoD_er h s6 s1.sp.taken.length (N + 1) 11 _ _ _ (by omega) HGR2.out (takeI2 (treeP h s6) (Sl.block (N + 1) TEr [.int .i64 11]))).mono ?_
       rintro e u' w15 ⟨rfl, rfl, q14⟩
       haveI := q14.i
       simp [Leaves, settle, results, Tryz.results33, go_sem]
       exact ⟨rfl, keep3 _ _ _⟩
     · obtain ⟨p, q, m, x, y, s7, s8, s9, s10, s11, ⟨hp, hq, hm, hx, hy⟩, hQ⟩ := HGO.out (by rw [HJS.out, HNJ.out]; omega)
       have hd : decide (1024 < x4 - r1 + r0 + (nj : Int)) = false := decide_eq_false hb
       rw [HJS.out] at hm
       obtain ⟨w1, w2', w3⟩ := HB1.out
       have hp1 := tParted_height (fun p s n s' h => tRead_may h) 30 _ _ _ _ _ hp (-31) 20 (by omega) (by omega) (by simp only; omega) (by simp only; omega)
       have hq1 := tParted_height (fun p s n s' h => tRead_may h) 30 _ _ _ _ _ hq (-62) 454 (by omega) (by omega) (by omega) (by omega)
       have hm1 := tLeaves_height hm
       rw [HNJ.out] at hm1
       have hx1 := tPut_height (fun p s n s' h => tRead_many h) hx (-31) 454 (by omega) (by omega) (by omega) (by omega) (by omega) (by omega)
       have d6 := fun F w q => c6 F w q (by rw [hp]; simp)
       rw [hp] at d6
       have d7 := fun F w q => parted_any 30 h s7 p.2 (R.2 - L.2) F w q (by omega) (by omega) (by omega) w3 (by rw [hq]; simp)
       rw [hq] at d7
       have d8 := fun F w q => leaves_any h s8 js _ _ F w HJ.out q (by rw [HNJ.out]; omega) (by rw [hm]; simp)
       rw [hm] at d8
       have d9 := fun F w q => put_tany h s9 p.1 m F w q (by omega) (by omega) (by omega) (by omega) (by rw [hx]; simp)
       rw [hx] at d9
       have d10 := fun F w q' => put_tany h s10 x q.2 F w q' (by omega) (by omega) (by omega) (by omega) (by rw [hy]; simp)
       rw [hy] at d10
       obtain ⟨⟨⟨p1, p2, p3, p4⟩, ph⟩, ⟨⟨o1, o2, o3, o4⟩, oh⟩⟩ := p
       obtain ⟨⟨⟨g1, g2, g3, g4⟩, gh⟩, ⟨⟨l1, l2, l3, l4⟩, lh⟩⟩ := q
       obtain ⟨⟨m1, m2, m3, m4⟩, mh⟩ := m
       obtain ⟨⟨u1, u2, u3, u4⟩, uh⟩ := x
       obtain ⟨⟨y1, y2, y3, y4⟩, yh⟩ := y
       unfold PairR at d6 d7
       unfold TallR at d8 d9 d10
       unfold tallV at d6 d7 d8 d9 d10
       simp only at d6 d7 d8 d9 d10 hQ
       subst hQ
       rw [hd]
       clear hp hq hm hx hy hp1 hq1 hm1 hx1 c6
       go_wp2_with fail
       with_reducible refine Calls.mono (d6 _ _ (takeI (treeP h s6))) ?_
       rintro e w14 ⟨v14, G14, rfl, ⟨rfl, rfl⟩, q14⟩
       rw [one_sep] at q14
       haveI := q14.i
       obtain ⟨N23, hN23⟩ : ∃ M, w14.heap.size = M := ⟨_, rfl⟩
       clear q13
       go_wp2_with fail
       with_reducible refine Calls.mono (d7 _ _ (takeI (treeP h s7))) ?_
       rintro e w15 ⟨v15, G15, rfl, ⟨rfl, rfl⟩, q15⟩
       rw [one_sep] at q15
       haveI := q15.i
       have q16 : Sat (treeP h s8 * (rw TEn 4 (.slice aj nj cj) (ecs js) * (Sl.block N23 TTl [.int .i64 p1, .int .i64 p2, .int .i64 p3, .int .i64 p4, .int .i64 ph] * (Sl.block (N + 1) TEr [.int .i64 0] * (Sl.block N TIt [.int .i64 0] * (B * F)))))) w15 := by
        rw [← hN23]
        exact keep6 _ _ _ _ _ _
       obtain ⟨N25, hN25⟩ : ∃ M, w15.heap.size = M := ⟨_, rfl⟩
       haveI := q16.i
       clear q14 q15 d6 d7
       try rw [hN23]
       clear hN23
       go_upto_region 28 with (fail)
       try rw [hN25]
       have q17 : Sat (Sl.block (N25 + 1) TTl [.int .i64 l1, .int .i64 l2, .int .i64 l3, .int .i64 l4, .int .i64 lh] * (treeP h s8 * (rw TEn 4 (.slice aj nj cj) (ecs js) * (Sl.block N23 TTl [.int .i64 p1, .int .i64 p2, .int .i64 p3, .int .i64 p4, .int .i64 ph] * (Sl.block (N + 1) TEr [.int .i64 0] * (Sl.block N TIt [.int .i64 0] * (B * F))))))) ((w15.alloc (.cells #[.int .i64 g1, .int .i64 g2, .int .i64 g3, .int .i64 g4, .int .i64 gh] TTl)).alloc (.cells #[.int .i64 l1, .int .i64 l2, .int .i64 l3, .int .i64 l4, .int .i64 lh] TTl)) := by
        rw [← hN25]
        exact satI_weak (C := Sl.block w15.heap.size TTl [.int .i64 g1, .int .i64 g2, .int .i64 g3, .int .i64 g4, .int .i64 gh]) (by ac_rfl)
       clear hN25 q16
       generalize (w15.alloc (.cells #[.int .i64 g1, .int .i64 g2, .int .i64 g3, .int .i64 g4, .int .i64 gh] TTl)).alloc (.cells #[.int .i64 l1, .int .i64 l2, .int .i64 l3, .int .i64 l4, .int .i64 lh] TTl) = w55 at q17 ⊢
       haveI := q17.i
       go_cut [27] from 28 to 185 (fun t27 wx => ∃ M : Nat, t27 = .pointer (some ⟨M, 0, none⟩) ∧ Sat (Sl.block M TTl [.int .i64 y1, .int .i64 y2, .int .i64 y3, .int .i64 y4, .int .i64 yh] * (treeP h s11 * (Sl.block (N + 1) TEr [.int .i64 0] * (Sl.block N TIt [.int .i64 0] * (B * F))))) wx)
       case first =>
        go_region_held3 (fun w' => w'.cell? ⟨N23, 0, none⟩ = some (.int .i64 p1) ∧ w'.cell? ⟨N23, 1, none⟩ = some (.int .i64 p2) ∧ w'.cell? ⟨N23, 2, none⟩ = some (.int .i64 p3) ∧ w'.cell? ⟨N23, 3, none⟩ = some (.int .i64 p4) ∧ w'.cell? ⟨N23, 4, none⟩ = some (.int .i64 ph) ∧ w'.cell? ⟨N25 + 1, 0, none⟩ = some (.int .i64 l1) ∧ w'.cell? ⟨N25 + 1, 1, none⟩ = some (.int .i64 l2) ∧ w'.cell? ⟨N25 + 1, 2, none⟩ = some (.int .i64 l3) ∧ w'.cell? ⟨N25 + 1, 3, none⟩ = some (.int .i64 l4) ∧ w'.cell? ⟨N25 + 1, 4, none⟩ = some (.int .i64 lh)) (first | exact ⟨cell_sat _ _ _, cell_sat _ _ _, cell_sat _ _ _, cell_sat _ _ _, cell_sat _ _ _, cell_sat _ _ _, cell_sat _ _ _, cell_sat _ _ _, cell_sat _ _ _, cell_sat _ _ _⟩) (first
         | (go_at_call 84
            with_reducible refine Calls.mono (d8 _ _ (takeI2 (treeP h s8) (rw TEn 4 (.slice aj nj cj) (ecs js)))) ?_
            rintro e w16 ⟨v16, G16, rfl, ⟨rfl, rfl⟩, q18⟩
            rw [one_sep] at q18
            haveI := q18.i)
         | (go_at_call 99
            with_reducible refine Calls.mono (d9 _ _ (takeI (treeP h s9))) ?_
            rintro e w17 ⟨v17, G17, rfl, ⟨rfl, rfl⟩, q19⟩
            rw [one_sep] at q19
            haveI := q19.i)
         | (go_at_call 99
            with_reducible refine Calls.mono (d10 _ _ (takeI (treeP h s10))) ?_
            rintro e w18 ⟨v18, G18, rfl, ⟨rfl, rfl⟩, q20⟩
            rw [one_sep] at q20
            haveI := q20.i))
        all_goals
         go_wp2
         go_meet
         exact ⟨_, rfl, keep6 _ _ _ _ _ _⟩
       case rest =>
        obtain ⟨M, rfl, q18⟩ := hcut
        haveI := q18.i
        clear q17
        go_wp2
        refine leaves_cons (f := 93) (args := #[.pointer (some ⟨N, 0, none⟩), .pointer (some ⟨N + 1, 0, none⟩)]) (by simp) (by simp [go_sem]) ?_
        refine (spliceC_idle _ _ _).mono ?_
        rintro e u' w19 ⟨rfl, rfl, rfl⟩
        show Leaves _ _ _ _ _ .returning _
        refine leaves_cons (f := 81) (args := #[.pointer (some ⟨h.t, 0, none⟩), .int .i64 s1.sp.taken.length, .pointer (some ⟨N + 1, 0, none⟩)]) (by simp) (by simp [go_sem]) ?_
        refine (undoD_ok _ _ (N + 1) _ _ _ (takeI (Sl.block (N + 1) TEr [.int .i64 0]))).mono ?_
        rintro e u' w20 ⟨rfl, rfl, q21⟩
        haveI := q21.i
        simp [Leaves, settle, results, Tryz.results33, go_sem]
        exact ⟨rfl, keep3 _ _ _⟩
end Go.Proofs.YtfhbmblbidcmmaaGreat
namespace Go.Proofs.YtfhbmblbidcmmaaGreat
set_option linter.unusedSimpArgs false
set_option linter.unusedVariables false
open Go.RowKit Go.Sl Go.Dk Go.Tr
attribute [local go_sem ↓] Go.wp_at_zero Go.wp_at_succ
attribute [local go_sem] Go.Sl.cell_sat Go.Sl.frozen_sat
theorem okOf_bind {α β : Type} {m : M TS α} {f : α → M TS β} {s : TS} {x : β} (h : okOf (M.bind m f s) = some x) : ∃ a s1, m s = .ok a s1 ∧ okOf (f a s1) = some x := by
 unfold M.bind Res.bind at h
 cases hm : m s with
 | ok a s1 => rw [hm] at h; exact ⟨a, s1, rfl, h⟩
 | fault e s1 => rw [hm] at h; cases h
 | bad => rw [hm] at h; cases h
theorem aw_facts : ∃ (s1 s2 s3 s4 : TS) (q : Int), mBuild [⟨0, 0, 10, -1⟩] (ts0 1048576 8) = .ok 1 s1 ∧ tSize tRead 1 s1 = .ok 10 s2 ∧ tSplice tRead tWrite 1 3 2 10 [⟨1, 0, 1, 1⟩] s2 = .ok q s3 ∧ tList tRead q s3 = .ok [⟨0, 0, 3, -1⟩, ⟨1, 0, 1, 1⟩, ⟨0, 5, 5, -1⟩] s4 := by
 have h := aw2
 cases ho : okOf (awM (ts0 1048576 8)) with
 | none => rw [ho] at h; cases h
 | some x =>
   obtain ⟨r, n, q, l⟩ := x
   rw [ho] at h
   simp only [Bool.and_eq_true, decide_eq_true_eq] at h
   obtain ⟨⟨rfl, rfl⟩, h3⟩ := h
   have h4 := eq_of_beq h3
   have hl : l = [⟨0, 0, 3, -1⟩, ⟨1, 0, 1, 1⟩, ⟨0, 5, 5, -1⟩] := by
    have e : (l.map fun e : Ent => (e.src, e.pos, e.len, e.lines)).map (fun t : Int × Int × Int × Int => (⟨t.1, t.2.1, t.2.2.1, t.2.2.2⟩ : Ent)) = l := by
     rw [List.map_map]
     exact List.map_id'' (fun _ => rfl) l
    rw [h4] at e
    exact e.symm
   unfold awM at ho
   obtain ⟨a, s1, e1, ho⟩ := okOf_bind ho
   obtain ⟨b, s2, e2, ho⟩ := okOf_bind ho
   obtain ⟨c, s3, e3, ho⟩ := okOf_bind ho
   obtain ⟨d, s4, e4, ho⟩ := okOf_bind ho
   cases ho
   rw [hl] at e4
   exact ⟨s1, s2, s3, s4, _, e1, e2, e3, e4⟩
set_option maxRecDepth 100000 in
set_option maxHeartbeats 3200000 in
theorem awake_any (F : Assn) (w : World) (hs : Sat F w) : Calls Tryz.prog 12 #[] w fun e w' => e = .returned (.bool true) ∧ Sat F w' := by
 haveI : TopN := ⟨1048576, Nat.le_refl _⟩
 obtain ⟨s1, s2, s3, s4, qr, f1, f2, f3, f4⟩ := aw_facts
 obtain ⟨L, t1, g1, h1⟩ := bind_out f3
 obtain ⟨R, t2, g2, h1⟩ := bind_out h1
 obtain ⟨whole, t3, g3, h1⟩ := bind_out h1
 obtain ⟨r1, t4, g4, h1⟩ := bind_out h1
 obtain ⟨r0, t5, g5, h1⟩ := bind_out h1
 have hno : ¬ 1024 < whole.kid.scraps - r1 + r0 + ((join (L.1 ++ [⟨1, 0, 1, 1⟩] ++ R.1)).length : Int) := fun hc => by rw [if_pos hc] at h1; cases h1
 rw [if_neg hno] at h1
 obtain ⟨p, t6, g6, h1⟩ := bind_out h1
 obtain ⟨q, t7, g7, h1⟩ := bind_out h1
 obtain ⟨m, t8, g8, h1⟩ := bind_out h1
 obtain ⟨x, t9, g9, h1⟩ := bind_out h1
 obtain ⟨y, t10, g10, h1⟩ := bind_out h1
 cases h1
 have hbd := fun B F w hE q => build_any ⟨0, 0, 0, 0⟩ (ts0 1048576 8) [⟨0, 0, 10, -1⟩] (.slice none 0 0) B F w hE q
 have HB : Aside (∀ (h : Th) (v : Value) (B F : Assn) (w : World), ReadsE B v [⟨0, 0, 10, -1⟩] → Sat (treeP h (ts0 1048576 8) * (B * F)) w →
  Calls Tryz.prog 23 #[.pointer (some ⟨h.t, 0, none⟩), v] w fun e w' => e = .returned (.tuple #[.int .i64 1, .int .i64 0]) ∧ Sat (treeP h s1 * (B * F)) w') := fun h v B F w hE q => by
  have := build_any h (ts0 1048576 8) [⟨0, 0, 10, -1⟩] v B F w hE q (by simp) (by rw [f1]; simp)
  rw [f1] at this
  exact this
 have HS : Aside (∀ (h : Th) (v : Value) (B F : Assn) (w : World), ReadsE B v [⟨1, 0, 1, 1⟩] → Sat (treeP h s1 * (B * F)) w →
  Calls Tryz.prog 33 #[.pointer (some ⟨h.t, 0, none⟩), .int .i64 1, .int .i64 3, .int .i64 2, v] w fun e w' => e = .returned (.tuple #[.int .i64 y.kid.page, .int .i64 0]) ∧ Sat (treeP h s3 * (B * F)) w') := fun h v B F w hE hq =>
  splice_main h s1 1 3 2 [⟨1, 0, 1, 1⟩] v B F w hE hq (by simp) (by decide) 10 s2 f2 (by omega) (by omega) (by omega) (by omega) (by simp [eBytes]) (by omega) L R whole r1 r0 t1 t2 t3 t4 t5 ⟨g1, g2, g3, g4, g5⟩ (.ok y.kid.page s3) (fun hc => absurd hc hno) (fun _ => ⟨p, q, m, x, y, t6, t7, t8, t9, s3, ⟨g6, g7, g8, g9, g10⟩, rfl⟩)
 have HL : Aside (∀ (h : Th) (F : Assn) (w : World), Sat (treeP h s3 * F) w →
  Calls Tryz.prog 44 #[.pointer (some ⟨h.t, 0, none⟩), .int .i64 y.kid.page] w fun e w' => ∃ (a : Option Addr) (c : Nat), e = .returned (.tuple #[.slice a 3 c, .int .i64 0]) ∧ Sat (rw TEn 4 (.slice a 3 c) [.int .i64 0, .int .i64 0, .int .i64 3, .int .i64 (-1), .int .i64 1, .int .i64 0, .int .i64 1, .int .i64 1, .int .i64 0, .int .i64 5, .int .i64 5, .int .i64 (-1)] * (treeP h s4 * F)) w') := fun h F w hq => by
  have := list_tany h s3 y.kid.page F w hq (by rw [f4]; simp)
  rw [f4] at this
  exact this
 obtain ⟨pg, hpg⟩ : ∃ z, y.kid.page = z := ⟨_, rfl⟩
 rw [hpg] at HS HL
 clear hpg g1 g2 g3 g4 g5 g6 g7 g8 g9 g10 hno f1 f2 f3 f4 hbd
 go_enter Tryz.func12, Tryz.ntmps12
 go_wp2_with fail
 with_reducible refine Calls.mono (set_any 1048576 8 F w hs (by omega) (by omega) (by omega) (by omega)) ?_
 rintro e w1 ⟨b, h, rfl, q1⟩
 obtain ⟨s0, hs0⟩ : ∃ s, ts0 1048576 8 = s := ⟨_, rfl⟩
 rw [hs0] at q1 HB
 haveI := q1.i
 obtain ⟨N1, hN1⟩ : ∃ M, w1.heap.size = M := ⟨_, rfl⟩
 clear hs0
 go_wp2_with fail
 try rw [hN1]
 have q2 : Sat (treeP h s0 * (Sl.block N1 TEn (erow ⟨0, 0, 10, -1⟩) * (Sl.block b TBe [.pointer (some ⟨h.D, 0, none⟩), .pointer (some ⟨h.C, 0, none⟩), .pointer (some ⟨h.S, 0, none⟩), .pointer (some ⟨h.t, 0, none⟩)] * F))) (w1.alloc (.cells #[.int .i64 0, .int .i64 0, .int .i64 10, .int .i64 (-1)] TEn)) := by
  rw [← hN1]
  show Sat (treeP h s0 * (Sl.block w1.heap.size TEn [.int .i64 0, .int .i64 0, .int .i64 10, .int .i64 (-1)] * _)) _
  exact satI_eq (by ac_rfl)
 with_reducible refine Calls.mono (HB.out h _ _ _ _ (reads_one ⟨0, 0, 10, -1⟩ N1) q2) ?_
 rintro e w2 ⟨rfl, q3⟩
 haveI := q3.i
 obtain ⟨N2, hN2⟩ : ∃ M, w2.heap.size = M := ⟨_, rfl⟩
 clear hN1 q1 q2
 go_wp2_with fail
 try rw [hN2]
 have q4 : Sat (treeP h s1 * (Sl.block N2 TEn (erow ⟨1, 0, 1, 1⟩) * (Sl.block b TBe [.pointer (some ⟨h.D, 0, none⟩), .pointer (some ⟨h.C, 0, none⟩), .pointer (some ⟨h.S, 0, none⟩), .pointer (some ⟨h.t, 0, none⟩)] * F))) (w2.alloc (.cells #[.int .i64 1, .int .i64 0, .int .i64 1, .int .i64 1] TEn)) := by
  rw [← hN2]
  show Sat (treeP h s1 * (Sl.block w2.heap.size TEn [.int .i64 1, .int .i64 0, .int .i64 1, .int .i64 1] * _)) _
  exact satI_weak (C := Sl.block N1 TEn (erow ⟨0, 0, 10, -1⟩)) (by ac_rfl)
 with_reducible refine Calls.mono (HS.out h _ _ _ _ (reads_one ⟨1, 0, 1, 1⟩ N2) q4) ?_
 rintro e w3 ⟨rfl, q5⟩
 haveI := q5.i
 clear hN2 q3 q4
 go_wp2_with fail
 with_reducible refine Calls.mono (HL.out h _ _ (takeI (treeP h s3))) ?_
 rintro e w4 ⟨al, cl, rfl, q6⟩
 obtain ⟨g, rfl⟩ := row_some q6 (by omega)
 haveI := q6.i
 clear q5
 go_wp2
 go_ret
 exact ⟨rfl, keep1 F⟩
end Go.Proofs.YtfhbmblbidcmmaaGreat
namespace Go.Proofs.YtfhbmblbidcmmaaGreat
set_option linter.unusedSimpArgs false
set_option linter.unusedVariables false
open Go.RowKit Go.Sl Go.Dk Go.Tr
open Go.Lru (ikey)
attribute [local go_sem ↓] Go.wp_at_zero Go.wp_at_succ
attribute [local go_sem] Go.Sl.cell_sat Go.Sl.frozen_sat
instance topC : TopN := ⟨1048576, Nat.le_refl _⟩
def dkF (B : List UInt8) : Dk := ⟨1073741824, 0, 0, false, false, [(nmS, ⟨B, B, true⟩)], []⟩
def ckF (B : List UInt8) : Ck := ⟨nmS, 6, 0, dkF B, [], []⟩
def tsF (B : List UInt8) : TS := ⟨ckF B, Sp.new 1, 0⟩
theorem nmS_nm : Dk.named nmS = true := by decide +kernel
theorem load_file (B : List UInt8) (hB : B.length ≤ 20000) : (Dk.new 1073741824).load nmS B = (0, dkF B) := by
 have h1 : (Dk.new 1073741824).fits ((Dk.new 1073741824).get nmS) B.length = 0 := by
  unfold Dk.fits
  have e1 : (Dk.new 1073741824).get nmS = none := rfl
  have e2 : (Dk.new 1073741824).files = [] := rfl
  have e3 : (Dk.new 1073741824).room = 1073741824 := rfl
  rw [e1, e2, e3]
  have e4 : sum ([] : List (ByteArray × Fl)) = 0 := rfl
  have e5 : had none = 0 := rfl
  rw [e4, e5, if_neg (by simp), if_neg (by simp; omega)]
 unfold Dk.load
 rw [if_neg (by simp [nmS_nm]), h1, if_neg (by simp)]
 rfl
theorem get_F (B : List UInt8) : (dkF B).get nmS = some ⟨B, B, true⟩ := by
 show fget nmS [(nmS, _)] = _
 unfold fget
 rw [if_pos rfl]
theorem file_F (B : List UInt8) : fnow (dkF B) nmS = B := by
 unfold fnow
 rw [get_F]
 rfl
theorem dkF_ok (B : List UInt8) (hB : B.length ≤ 20000) : Ok 0 (dkF B) := by
 have := ok_load (ok_new 1073741824 (by omega) (by unfold big; omega)) nmS B
 rw [load_file B hB] at this
 exact this
theorem ckF_ok (B : List UInt8) (hB : B.length ≤ 20000) : CkOk 0 (ckF B) :=
 ⟨⟨by simp [ckF, keysI], by simp [ckF], by simp [ckF]⟩, by simp [ckF], fun k => by simp [ckF, hasI, pget], rfl, by simp [ckF], by simp [ckF], by simp [ckF], dkF_ok B hB, nmS_nm, by simp [ckF]⟩
theorem tsF_inv (B : List UInt8) (hB : B.length ≤ 20000) : TInv true (tsF B) where
 ts := ⟨⟨0, ckF_ok B hB⟩, by
  have e : fnow (ckF B).d (ckF B).nm = B := file_F B
  exact ⟨Int.le_refl _, Int.le_refl _, Nat.zero_le _, Int.le_refl _, by show (fnow (ckF B).d (ckF B).nm).length ≤ _; rw [e]; omega⟩, by unfold tsF opsMax; simp, by simp [tsF, Sp.new], by simp [tsF, Sp.new]⟩
 good := ⟨⟨rfl, rfl, nmS_nm, by show 1 + (if ((dkF B).get nmS).isSome then 0 else 1) ≤ 8; split <;> omega⟩, by simp [tsF, ckF], by simp [tsF, ckF], ⟨by
  have e : fnow (ckF B).d (ckF B).nm = B := file_F B
  have e3 : TOP = 1048576 := rfl
  show (fnow (ckF B).d (ckF B).nm).length ≤ _; rw [e, e3]; omega, by simp [tsF, ckF]⟩⟩
 res := by simp [tsF, Sp.new]
 used := by simp [tsF, Sp.new]
 roomy h := by
  unfold Roomy oth
  show ((sum (dkF B).files : Nat) : Int) - had ((dkF B).get nmS) + ((256 * TOP : Nat) : Int) ≤ 1073741824
  rw [get_F]
  have e1 : sum (dkF B).files = B.length := by simp [dkF, sum]
  have e2 : had (some ⟨B, B, true⟩) = B.length := rfl
  have e3 : TOP = 1048576 := rfl
  rw [e1, e2, e3]
  omega
theorem tsF_rdy (B : List UInt8) (hB : B.length ≤ 20000) : Rdy (fileNode B) 100000 (tsF B) where
 ts := (tsF_inv B hB).ts
 good := (tsF_inv B hB).good.pf
 up := rfl
 look := .inl ⟨fun n hn => by (cases hn), by
  have e : fileOf (tsF B) = B := file_F B
  rw [e]⟩
 left := by
  unfold leftOps
  show 100000 ≤ (opsMax - 0) / 2
  decide
set_option maxHeartbeats 1600000 in
theorem load_tree (h : Th) (B : List UInt8) (v : Value) (G F : Assn) (w : World) (hB : Reads G v B) (hl : B.length ≤ 20000) (hs : Sat (treeP h (ts0 1073741824 6) * (G * F)) w) :
 Calls Tryz.prog 15 #[.pointer (some ⟨h.D, 0, none⟩), .string nmS, v] w fun e w' => e = .returned (.int .i64 0) ∧ Sat (treeP h (tsF B) * (G * F)) w' := by
 obtain ⟨hi, q1⟩ := tree_parts hs
 obtain ⟨L, PM, ps, hp, q2⟩ := Sat.cache_open q1
 have q3 : Sat (diskP h.D (Dk.new 1073741824) * (G * (coreC h.C L h.D PM (ckF B) * (lruI L 6 [] * (mp ikey PM (ps.map kvP) * pagesA ps)) * (spaceP h.S (Sp.new 1) * (Sl.block h.t TTr [.pointer (some ⟨h.C, 0, none⟩), .pointer (some ⟨h.S, 0, none⟩)] * F))))) w := by
  refine q2.eq ?_
  show (coreC h.C L h.D PM (ckF B) * (lruI L 6 [] * (diskP h.D (Dk.new 1073741824) * (mp ikey PM (ps.map kvP) * pagesA ps)))) * _ = _
  ac_rfl
 have hc := load_any h.D (Dk.new 1073741824) 0 nmS v B G _ w hB q3 (by decide) (by omega) (ok_new 1073741824 (by omega) (by unfold big; omega)) (by unfold big; omega)
 rw [load_file B hl] at hc
 refine hc.mono ?_
 rintro e w' ⟨rfl, q4⟩
 refine ⟨rfl, tree_join (tsF_inv B hl).ts (Sat.cache_shut (L := L) (PM := PM) (ps := ps) hp ?_)⟩
 refine q4.eq ?_
 show _ = (coreC h.C L h.D PM (ckF B) * (lruI L 6 [] * (diskP h.D (dkF B) * (mp ikey PM (ps.map kvP) * pagesA ps)))) * _
 ac_rfl
end Go.Proofs.YtfhbmblbidcmmaaGreat
namespace Go.Proofs.YtfhbmblbidcmmaaGreat
set_option linter.unusedSimpArgs false
set_option linter.unusedVariables false
open Go.RowKit Go.Sl Go.Dk Go.Tr
attribute [local go_sem ↓] Go.wp_at_zero Go.wp_at_succ
attribute [local go_sem] Go.Sl.cell_sat Go.Sl.frozen_sat
structure PageT where
 lf : Bool
 es : List Ent
 aE : Option Addr
 cE : Nat
 ks : List Kd
 aK : Option Addr
 cK : Nat
 raw : List UInt8
 aR : Option Addr
 cR : Nat
 no : Int
def crowP (x : PageT) : List Value := [.bool x.lf, .slice x.aE x.es.length x.cE, .slice x.aK x.ks.length x.cK, .slice x.aR x.raw.length x.cR, .int .i64 x.no]
structure PageIn (w : World) (x : PageT) : Prop where
 e : ReadsE (old w) (.slice x.aE x.es.length x.cE) x.es
 k : ReadsK (old w) (.slice x.aK x.ks.length x.cK) x.ks
 r : Reads (old w) (.slice x.aR x.raw.length x.cR) x.raw
 rl : x.raw.length ≤ 9223372036854775807
theorem pack_len {no kind : Int} {b : List UInt8} : (pagePack no kind b).2 = 0 → (pagePack no kind b).1.length = 256 := by
 unfold pagePack
 intro h
 split at h
 · simp at h
 · next h1 =>
   split at h
   · simp at h
   · next h2 =>
     rw [if_neg h1, if_neg h2]
     exact pgPack_len _ _ (by omega)
theorem field_Lk (o : Bool) (xh : Int) (vE vP : Value) (w : World) : (Instr.field TLk (.agg #[.bool o, .int .i64 xh, vE, vP]) 0).run Tryz.prog w = .ok (.bool o) w := by kernel_rfl
theorem below_isC {A R : Assn} {w w' : World} [h : SatI A w'] [t : Take A (old w) R] : Below w.heap.size w w' := (h.out.take (old w)).old_below
set_option maxRecDepth 100000 in
set_option maxHeartbeats 6400000 in
theorem treeChecks_walk (va : Value) (root : Int) (cs : List PageT) (w : World) (hv : Rws w va 5 (cs.map crowP)) (hl : cs.length ≤ 9223372036854775807) (hcs : ∀ c ∈ cs, PageIn w c) :
 Calls Tryz.prog 3 #[va, .int .i64 root] w fun e w' => e = .returned (.bool true) ∧ Below w.heap.size w w' := by
 obtain ⟨va, vc, hvv⟩ := hv.len
 rw [List.length_map] at hvv
 subst hvv
 obtain ⟨iB, EB⟩ := elemB
 have HCS : Aside (∀ c ∈ cs, PageIn w c) := hcs
 have HV : Aside (Rws w (.slice va cs.length vc) 5 (cs.map crowP)) := hv
 have hmk := mk_bytes 256 (by omega)
 obtain ⟨zz, hzz⟩ : ∃ z : List UInt8, List.replicate 256 0 = z := ⟨_, rfl⟩
 have HZZ : Aside (zz.length = 256) := (by rw [← hzz]; simp : _ = _)
 rw [hzz, show ((256 : Nat) : Int) = 256 from rfl] at hmk
 clear hcs hv hzz
 go_enter Tryz.func3, Tryz.ntmps3
 go_wp2_with fail
 with_reducible refine Calls.mono (set_any 1073741824 6 (old w) w (Sat.old_self w) (by omega) (by omega) (by omega) (by omega)) ?_
 rintro e w1 ⟨b, h, rfl, q1⟩
 haveI := q1.i
 go_wp2_with fail
 with_reducible refine Calls.mono (awake_any _ _ q1) ?_
 rintro e w2 ⟨rfl, q2⟩
 haveI := q2.i
 clear q1
 obtain ⟨n, hn⟩ : ∃ n, cs.length = n := ⟨_, rfl⟩
 have HN : Aside (cs.length = n) := hn
 rw [hn] at hl HV ⊢
 clear hn
 by_cases hbig : 40 < n
 · have hb1 : decide ((40 : Int) < (n : Int)) = true := decide_eq_true (by omega)
   have hb2 : (40 : Int) < n := by omega
   go_wp2_with fail
   with_reducible refine Calls.mono (awake_any _ _ q2) ?_
   rintro e w3 ⟨rfl, q3⟩
   haveI := q3.i
   clear q2
   go_wp2
   go_ret
   exact ⟨rfl, below_isC⟩
 have hb1 : decide ((40 : Int) < (n : Int)) = false := decide_eq_false (by omega)
 have hb2 : ¬ (40 : Int) < n := by omega
 go_wp2_with fail
 have q3 : Sat (rw TB 1 (.slice (some ⟨w2.heap.size, 0, none⟩) 256 256) (bys zz) * (Sl.block b TBe [.pointer (some ⟨h.D, 0, none⟩), .pointer (some ⟨h.C, 0, none⟩), .pointer (some ⟨h.S, 0, none⟩), .pointer (some ⟨h.t, 0, none⟩)] * (treeP h (ts0 1073741824 6) * old w))) (w2.alloc (.cells (bys zz).toArray TB)) := block_rwI (g := w2.heap.size) (e := TB) (l := bys zz) (n := 256) (by rw [bys_len, HZZ.out]) (by omega)
 generalize w2.alloc (.cells (bys zz).toArray TB) = w3 at q3 ⊢
 have HM : Aside (∀ w, (Instr.makeSlice 26 (.int .i64 256) (.int .i64 256)).run Tryz.prog w = .ok (.slice (some ⟨w.heap.size, 0, none⟩) 256 256) (w.alloc (.cells (bys zz).toArray TB))) := hmk
 clear q2 this hmk
 go_loopg [7, 6] n (fun g t7 t6 wr => ∃ (i k : Nat) (l : List UInt8) (a : Option Addr) (c : Nat), t7 = .int .i64 i ∧ t6 = .slice a k c ∧ i ≤ n ∧ k ≤ 256 * (i + 1) ∧ Aside (g = n - i ∧ l.length = k) ∧ Sat (rw TB 1 (.slice a k c) (bys l) * (Sl.block b TBe [.pointer (some ⟨h.D, 0, none⟩), .pointer (some ⟨h.C, 0, none⟩), .pointer (some ⟨h.S, 0, none⟩), .pointer (some ⟨h.t, 0, none⟩)] * (treeP h (ts0 1073741824 6) * old w))) wr)
 case atStart => exact ⟨0, 256, zz, _, 256, rfl, rfl, by omega, by omega, ⟨rfl, HZZ.out⟩, q3⟩
 case round =>
  obtain ⟨i, k, l, a, c, rfl, rfl, hi, hk, A, q4⟩ := hrel
  clear q3
  haveI := q4.i
  by_cases hlt : i < n
  · have hlt' : (i : Int) < n := by omega
    obtain ⟨⟨lf, es, aE, cE, ks, aK, cK, raw, aR, cR, no⟩, hx⟩ : ∃ x, cs[i]? = some x := ⟨cs[i]'(by rw [HN.out]; exact hlt), by simp⟩
    obtain ⟨rb, ro, e1, hcell⟩ := HV.out.at (show (cs.map crowP)[i]? = some (crowP ⟨lf, es, aE, cE, ks, aK, cK, raw, aR, cR, no⟩) by simp [hx])
    subst e1
    have hin := HCS.out _ (List.mem_of_getElem? hx)
    have hE := hin.e
    have hK := hin.k
    have hR := hin.r
    have hRl := hin.rl
    simp only at hE hK hR hRl
    have HPK : Aside (∀ F w', Sat (old w * F) w' → Calls Tryz.prog 13 #[.agg #[.bool lf, .slice aE es.length cE, .slice aK ks.length cK]] w' (SomeOut (old w) F)) := fun F w' q => r13pack_any lf es ks aE cE aK cK (old w) F w' hE hK q
    have HRW : Aside (Reads (old w) (.slice aR raw.length cR) raw) := hR
    obtain ⟨me, hme⟩ : ∃ z, es.length = z := ⟨_, rfl⟩
    obtain ⟨mk, hmk2⟩ : ∃ z, ks.length = z := ⟨_, rfl⟩
    obtain ⟨mr, hmr⟩ : ∃ z, raw.length = z := ⟨_, rfl⟩
    have e2 : OldAt w rb (ro + i * 5 + 1) (.slice aE es.length cE) := ⟨hcell 1 _ rfl⟩
    have e3 : OldAt w rb (ro + i * 5 + 2) (.slice aK ks.length cK) := ⟨hcell 2 _ rfl⟩
    have e4 : OldAt w rb (ro + i * 5 + 3) (.slice aR raw.length cR) := ⟨hcell 3 _ rfl⟩
    rw [hme, hmk2] at HPK
    rw [hmr] at HRW hRl e4
    rw [hme] at e2
    rw [hmk2] at e3
    haveI : OldAt w rb (ro + i * 5) (.bool lf) := ⟨by have := hcell 0 _ rfl; simpa using this⟩
    haveI := e2
    haveI := e3
    haveI := e4
    haveI : OldAt w rb (ro + i * 5 + 4) (.int .i64 no) := ⟨hcell 4 _ rfl⟩
    have hw1 : IntKind.i64.wrap ((i : Int) + 1) = (i : Int) + 1 := IntWalk.i64_in _ (by omega)
    clear hcell hx hin hE hK hR hme hmk2 hmr
    go_wp2_with fail
    with_reducible refine Calls.mono (HPK.out _ _ (takeI (old w))) ?_
    rintro e w5 ⟨kd, er, v5, l5, G5, rfl, hr5, hl5, q5⟩
    obtain ⟨a5, c5, rfl, hc5, hm5⟩ := (hr5 _ _ q5).len
    have HR5 : Aside (Reads G5 (.slice a5 l5.length c5) l5) := hr5
    obtain ⟨m5, hm5'⟩ : ∃ z, l5.length = z := ⟨_, rfl⟩
    rw [hm5'] at HR5 hc5 ⊢
    have q6 : Sat (rw TB 1 (.slice a k c) (bys l) * (G5 * (old w * (Sl.block b TBe [.pointer (some ⟨h.D, 0, none⟩), .pointer (some ⟨h.C, 0, none⟩), .pointer (some ⟨h.S, 0, none⟩), .pointer (some ⟨h.t, 0, none⟩)] * treeP h (ts0 1073741824 6))))) w5 := q5.eq (by ac_rfl)
    haveI := q6.i
    clear q5 hr5 hl5 hm5' q4 HPK
    go_upto_if 49 with (fail)
    go_cut [8, 9] (fun t8 t9 wx => ∃ (kd : Int) (m : Nat) (a' : Option Addr) (c' : Nat), t8 = .int .i64 kd ∧ t9 = .slice a' m c' ∧ Aside (∃ lx : List UInt8, Reads (G5 * old w) (.slice a' m c') lx) ∧ Sat (rw TB 1 (.slice a k c) (bys l) * (G5 * (old w * (Sl.block b TBe [.pointer (some ⟨h.D, 0, none⟩), .pointer (some ⟨h.C, 0, none⟩), .pointer (some ⟨h.S, 0, none⟩), .pointer (some ⟨h.t, 0, none⟩)] * treeP h (ts0 1073741824 6))))) wx)
    case first =>
     cases e9 : (er != 0) with
     | true =>
       go_upto_region 10 with (fail)
       go_region
       go_wp2_with fail
       go_meet
       exact ⟨_, mr, aR, cR, rfl, rfl, ⟨raw, Reads.right HRW.out⟩, q6.drew⟩
     | false =>
       go_wp2_with fail
       go_meet
       exact ⟨kd, m5, a5, c5, rfl, rfl, ⟨l5, Reads.left HR5.out⟩, q6⟩
    case rest =>
     obtain ⟨kd, m6, a6, c6, rfl, rfl, hrx, q7⟩ := hcut
     obtain ⟨lx, hlx⟩ := hrx
     clear q6 HR5 HRW
     have hpk := fun nn F w' q => rpack05_any nn kd (.slice a6 m6 c6) lx (G5 * old w) F w' hlx q
     have HPK : Aside (∀ (nn : Int) (F : Assn) (w' : World), Sat (G5 * (old w * F)) w' → Calls Tryz.prog 14 #[.int .i64 nn, .int .i64 kd, .slice a6 m6 c6] w' fun e w9 => ∃ (a : Option Addr) (c : Nat) (l : List UInt8) (er : Int), e = .returned (.tuple #[.slice a l.length c, .int .i64 er]) ∧ Aside (er = 0 → l.length = 256) ∧ Sat (rw TB 1 (.slice a l.length c) (bys l) * (G5 * (old w * F))) w9) := fun nn F w' q => (hpk nn F w' (q.eq (sep_assoc _ _ _).symm)).mono fun e w9 ⟨a, c, h1, h2⟩ => ⟨a, c, _, _, h1, pack_len, h2.eq (by ac_rfl)⟩
     haveI := q7.i
     clear hlx hpk
     go_wp2_with fail
     with_reducible refine Calls.mono (HPK.out _ _ _ (takeI2 G5 (old w))) ?_
     rintro e w8 ⟨a8, c8, l8, er8, rfl, H8, q8⟩
     obtain ⟨m8, hm8⟩ : ∃ z, l8.length = z := ⟨_, rfl⟩
     have H8' : Aside (l8.length = m8 ∧ (er8 = 0 → l8.length = 256)) := ⟨hm8, H8⟩
     rw [hm8] at q8 ⊢
     haveI := q8.i
     clear H8 hm8 q7 HPK
     have hmk := HM.out
     go_upto_if 79 with (fail)
     go_cut [11] (fun t11 wx => ∃ (a9 : Option Addr) (c9 : Nat) (l9 : List UInt8), t11 = .slice a9 256 c9 ∧ Aside (l9.length = 256) ∧ Sat (rw TB 1 (.slice a9 256 c9) (bys l9) * (rw TB 1 (.slice a k c) (bys l) * (Sl.block b TBe [.pointer (some ⟨h.D, 0, none⟩), .pointer (some ⟨h.C, 0, none⟩), .pointer (some ⟨h.S, 0, none⟩), .pointer (some ⟨h.t, 0, none⟩)] * (treeP h (ts0 1073741824 6) * old w)))) wx)
     case first =>
      cases e9 : (er8 != 0) with
      | true =>
        go_wp2_with fail
        go_meet
        have q9 := block_rwI (g := w8.heap.size) (e := TB) (l := bys zz) (n := 256) (w := w8.alloc (.cells (bys zz).toArray TB)) (by rw [bys_len, HZZ.out]) (by omega)
        haveI := q9.i
        exact ⟨_, _, zz, rfl, HZZ.out, satI_weak (C := G5 * rw TB 1 (.slice a8 m8 c8) (bys l8)) (by ac_rfl)⟩
      | false =>
        have h0 : er8 = 0 := by simpa using e9
        have h1 := H8'.out.2 h0
        have h2 : m8 = 256 := by rw [← H8'.out.1, h1]
        subst h2
        clear e9
        subst h0
        go_wp2_with fail
        go_meet
        exact ⟨a8, c8, l8, rfl, h1, satI_weak (C := G5) (by ac_rfl)⟩
     case rest =>
      obtain ⟨a9, c9, l9, rfl, H9, q9⟩ := hcut
      clear q8 hmk
      haveI := q9.i
      go_wp2_with (at_builtin; refine wpl_append_same EB rfl (.tmp 81) (.tmp 82) rfl rfl rfl (takeI (rw TB 1 (.slice a k c) (bys l))) (Reads.srcI (Reads.rw (e := TB) (v := .slice a9 256 c9) (l := l9)) H9.out) (by unfold maxLen; omega) (by omega) ?_; intro a10 c10 w10 q10 z10; clear z10; rw [← bys_append] at q10; haveI := q10.i)
      go_roundg (n - (i + 1))
      case measure => have := A.out.1; omega
      case rel =>
       exact ⟨i + 1, k + 256, l ++ l9, a10, c10, by go_num, rfl, by omega, by omega, ⟨rfl, by rw [List.length_append, A.out.2, H9.out]⟩, satI_weak (C := rw TB 1 (.slice a9 256 c9) (bys l9)) (by ac_rfl)⟩
  · have hlt' : ¬ (i : Int) < n := by omega
    have HLK : Aside (l.length = k) := A.out.2
    have hkb : k ≤ 20000 := by omega
    clear A
    have HLD : Aside (∀ F w', Sat (treeP h (ts0 1073741824 6) * (rw TB 1 (.slice a k c) (bys l) * F)) w' → Calls Tryz.prog 15 #[.pointer (some ⟨h.D, 0, none⟩), .string ⟨#[115, 116, 111, 114, 101]⟩, .slice a k c] w' fun e w9 => e = .returned (.int .i64 0) ∧ Sat (treeP h (tsF l) * (rw TB 1 (.slice a k c) (bys l) * F)) w9) := fun F w' q => load_tree h l _ (rw TB 1 (.slice a k c) (bys l)) F w' Reads.rw (by rw [HLK.out]; exact hkb) q
    have HTR : Aside (∀ F w', Sat (rw TB 1 (.slice a k c) (bys l) * F) w' → Calls Tryz.prog 16 #[.slice a k c, .int .i64 root] w' (LkOut (rw TB 1 (.slice a k c) (bys l)) F (rTree (fileNode l) root))) := fun F w' q => r14tree_any l _ (rw TB 1 (.slice a k c) (bys l)) root F w' Reads.rw (by rw [HLK.out]; omega) q
    have HCK : Aside (∀ F w', Sat (treeP h (tsF l) * F) w' → Calls Tryz.prog 17 #[.pointer (some ⟨h.t, 0, none⟩), .int .i64 root] w' (CheckOut (fileNode l) 78 h 100000 (tsF l) root F)) := fun F w' q => check_any (fileNode l) 78 h 100000 (tsF l) root F w' (fun p n hp => ⟨fileNode_may hp, by
     unfold fileNode at hp
     split at hp
     · cases hp
     · next h9 =>
       have := HLK.out
       omega⟩) (tsF_rdy l (by rw [HLK.out]; exact hkb)) (by omega) q
    go_wp2_with fail
    with_reducible refine Calls.mono (HLD.out _ _ (takeI2 (treeP h (ts0 1073741824 6)) (rw TB 1 (.slice a k c) (bys l)))) ?_
    rintro e w5 ⟨rfl, q5⟩
    haveI := q5.i
    clear q4 HLD
    go_wp2_with fail
    with_reducible refine Calls.mono (HTR.out _ _ (takeI (rw TB 1 (.slice a k c) (bys l)))) ?_
    rintro e w6 ⟨v6, G6, rfl, hL6, q6⟩
    obtain ⟨vE, vP, rfl, hE6, hP6⟩ := hL6
    have HOK : Aside (∃ o, (rTree (fileNode l) root).ok = o) := ⟨_, rfl⟩
    obtain ⟨o, ho⟩ := HOK.out
    obtain ⟨xh, hxh⟩ : ∃ x, (rTree (fileNode l) root).height = x := ⟨_, rfl⟩
    have HO : Aside ((rTree (fileNode l) root).ok = o) := ho
    rw [ho, hxh]
    have hfl := fun w => field_Lk o xh vE vP w
    haveI := q6.i
    clear hE6 hP6 ho hxh HTR q5 HOK
    cases o with
    | true =>
      go_wp2_with fail
      with_reducible refine Calls.mono (HCK.out _ _ (takeI (treeP h (tsF l)))) ?_
      rintro e w7 ⟨s7, m7, q7, _, _, _, rfl, _⟩
      rw [HO.out]
      haveI := q7.i
      go_wp2
      go_ret
      exact ⟨rfl, below_isC⟩
    | false =>
      go_wp2_with fail
      with_reducible refine Calls.mono (HCK.out _ _ (takeI (treeP h (tsF l)))) ?_
      rintro e w7 ⟨s7, m7, q7, _, _, _, rfl, _⟩
      rw [HO.out]
      haveI := q7.i
      go_wp2
      go_ret
      exact ⟨rfl, below_isC⟩
end Go.Proofs.YtfhbmblbidcmmaaGreat
namespace Go.Proofs.YtfhbmblbidcmmaaGreat
set_option linter.unusedSimpArgs false
set_option linter.unusedVariables false
open Go.RowKit Go.Sl Go.Dk Go.Tr Go.ChangeShapes Go.WideShapes
theorem readsK_old {w : World} {a : Option Addr} {cap : Nat} {l : List Kd} (h : Rws w (.slice a l.length cap) 4 (l.map krow)) (h1 : l.length ≤ cap) (h2 : cap ≤ 9223372036854775807) : ReadsK (old w) (.slice a l.length cap) l := by
 have hl4 : (kcs l).length = l.length * 4 := flatV_len (f := krow) (fun _ => rfl) l
 refine ⟨hl4, a, cap, rfl, h1, h2, fun j u hj => ?_⟩
 have hjl : j < l.length * 4 := by
  rw [← hl4]
  exact (List.getElem?_eq_some_iff.1 hj).1
 obtain ⟨x, hx⟩ : ∃ x, l[j / 4]? = some x := ⟨_, List.getElem?_eq_getElem (by omega)⟩
 have hf := flat_at (f := krow) (s := 4) (fun _ => rfl) l (j / 4) (j % 4) x hx (by omega)
 have ej : j / 4 * 4 + j % 4 = j := by omega
 rw [ej] at hf
 obtain ⟨b, o, rfl, h6⟩ := h.at (i := j / 4) (r := krow x) (by simp [hx])
 refine ⟨b, o, rfl, ?_⟩
 have h7 := h6 (j % 4) u (hf.symm.trans hj)
 rw [Nat.add_assoc, ej] at h7
 haveI : OldAt w b (o + j) u := ⟨h7⟩
 exact inferInstance
theorem kids_in {H : Type} {enc : TypeId × Value → H} {w : World} {base : Nat} {spare : Nat → Bool} {held : Bool} {a : Option Addr} {len cap : Nat}
 (h : ∃ fuel x, DataW.trod enc Tryz.prog w base spare held fuel 30 [.slice a len cap] = some x) :
 ∃ l : List Kd, l.length = len ∧ ReadsK (old w) (.slice a len cap) l := by
 obtain ⟨fuel, x, hx⟩ := h
 have hcap : len ≤ cap ∧ cap ≤ maxLen := by
  rcases DataW.trod_slice Tryz.underlying30 hx with ⟨h0, _⟩ | ⟨a', len', cap', elems, rest, n, _, h1, _, _, h2, h3, _⟩
  · simp only [List.cons.injEq, Value.slice.injEq, and_true] at h0
    obtain ⟨_, rfl, rfl⟩ := h0
    exact ⟨Nat.le_refl _, by unfold maxLen; decide⟩
  · simp only [List.cons.injEq, Value.slice.injEq, and_true] at h1
    obtain ⟨_, rfl, rfl⟩ := h1
    exact ⟨h2, h3⟩
 have e4 : Tryz.prog.cellsOf TKd = 4 := by kernel_rfl
 have e1 : Tryz.prog.cellsOf 3 = 1 := by kernel_rfl
 obtain ⟨rs, h1, h2, h3, h4⟩ := rows_of_trod (s := 4) Tryz.underlying30 e4 (by omega) hx
 obtain ⟨l, rfl⟩ := rowsE_map (f := krow) rs (by
  intro r hr
  obtain ⟨n, y, hy⟩ := h4 r hr
  obtain ⟨hl, n', hf⟩ := field_of_trod Tryz.underlying141 hy
  obtain ⟨v0, v1, v2, v3, rfl⟩ := four_of (hl.trans e4)
  obtain ⟨_, y0, g0⟩ := fieldE_at Tryz.underlying141 hy 0 3 0 1 rfl e1
  obtain ⟨_, y1, g1⟩ := fieldE_at Tryz.underlying141 hy 1 3 1 1 rfl e1
  obtain ⟨_, y2, g2⟩ := fieldE_at Tryz.underlying141 hy 2 3 2 1 rfl e1
  obtain ⟨_, y3, f1⟩ := fieldE_at Tryz.underlying141 hy 3 3 3 1 rfl e1
  obtain ⟨z0, rfl, _⟩ := int_of_trod Tryz.underlying3 g0
  obtain ⟨z1, rfl, _⟩ := int_of_trod Tryz.underlying3 g1
  obtain ⟨z2, rfl, _⟩ := int_of_trod Tryz.underlying3 g2
  obtain ⟨z3, rfl, _⟩ := int_of_trod Tryz.underlying3 f1
  exact ⟨⟨z0, z1, z2, z3⟩, rfl⟩)
 have hlen : l.length = len := by simpa using h2
 subst hlen
 exact ⟨l, rfl, readsK_old h1 hcap.1 hcap.2⟩
theorem u8C_wf {n : Int} (h : (Lit.int .u8 n).wf = true) : ∃ x : UInt8, n = (x.toNat : Int) := by
 have h1 : 0 ≤ n ∧ n ≤ 255 := by simpa [Lit.wf, IntKind.min, IntKind.max, IntKind.signed, IntKind.bits] using h
 refine ⟨UInt8.ofNat n.toNat, ?_⟩
 simp [UInt8.toNat_ofNat']
 omega
theorem five_ofC {r : List Value} (h : r.length = 5) : ∃ a b c d e, r = [a, b, c, d, e] := by
 match r, h with
 | [a, b, c, d, e], _ => exact ⟨a, b, c, d, e, rfl⟩
theorem rowsP_mapC {α : Type} {f : α → List Value} {p : α → Prop} : ∀ l : List (List Value), (∀ r ∈ l, ∃ c, r = f c ∧ p c) → ∃ cs : List α, l = cs.map f ∧ ∀ c ∈ cs, p c
 | [], _ => ⟨[], rfl, fun _ h => by cases h⟩
 | r :: l, hl => by
   obtain ⟨c, rfl, hc⟩ := hl r (by simp)
   obtain ⟨cs, rfl, hcs⟩ := rowsP_mapC l fun r' hr' => hl r' (by simp [hr'])
   exact ⟨c :: cs, rfl, fun x hx => by
    rcases List.mem_cons.1 hx with h | h
    · rw [h]; exact hc
    · exact hcs x h⟩
theorem bytes_inB {H : Type} {enc : TypeId × Value → H} {w : World} {base : Nat} {spare : Nat → Bool} {held : Bool} {a : Option Addr} {len cap : Nat}
 (h : ∃ fuel x, DataW.trod enc Tryz.prog w base spare held fuel 26 [.slice a len cap] = some x) :
 ∃ l : List UInt8, Byt w (.slice a len cap) l := by
 obtain ⟨fuel, x, hx⟩ := h
 have hcap : len ≤ cap ∧ cap ≤ maxLen := by
  rcases DataW.trod_slice Tryz.underlying26 hx with ⟨h0, _⟩ | ⟨a', len', cap', elems, rest, n, _, h1, _, _, h2, h3, _⟩
  · simp only [List.cons.injEq, Value.slice.injEq, and_true] at h0
    obtain ⟨_, rfl, rfl⟩ := h0
    exact ⟨Nat.le_refl _, by unfold maxLen; decide⟩
  · simp only [List.cons.injEq, Value.slice.injEq, and_true] at h1
    obtain ⟨_, rfl, rfl⟩ := h1
    exact ⟨h2, h3⟩
 obtain ⟨rs, h1, h2, h3, h4⟩ := rows_of_trod (s := 1) Tryz.underlying26 (by kernel_rfl) (by omega) hx
 obtain ⟨zs, rfl, hz⟩ := rowsP_mapC (f := fun z : UInt8 => [Value.int .u8 z.toNat]) (p := fun z => True) rs (by
  intro r hr
  obtain ⟨n, y, hy⟩ := h4 r hr
  obtain ⟨z, hz, _, hw⟩ := DataW.trod_int Tryz.underlying5 hy
  obtain ⟨x2, rfl⟩ := u8C_wf hw
  exact ⟨x2, hz, trivial⟩)
 obtain ⟨a', c', e1, h5⟩ := h1
 have e2 := e1
 simp only [List.length_map, Value.slice.injEq] at e2
 obtain ⟨rfl, rfl, rfl⟩ := e2
 refine ⟨zs, a, cap, rfl, hcap.1, hcap.2, fun i z hi => ?_⟩
 obtain ⟨_, b, o, rfl, h6⟩ := h5 i [.int .u8 z.toNat] (by simp [hi])
 exact ⟨b, o, rfl, by have := h6 0 _ rfl; simpa [bv] using this⟩
theorem slice_of_trod {H : Type} {enc : TypeId × Value → H} {w : World} {base : Nat} {spare : Nat → Bool} {held : Bool} {t e fuel : Nat} {v : Value} {x : DataW H × List MemPlace} (ht : Tryz.prog.underlying t = some (.slice e)) (h : DataW.trod enc Tryz.prog w base spare held fuel t [v] = some x) : ∃ a n c, v = .slice a n c := by
 rcases DataW.trod_slice ht h with ⟨h0, _⟩ | ⟨a, len, cap, elems, rest, n, _, h1, _⟩
 · exact ⟨none, 0, 0, by simpa using h0⟩
 · exact ⟨some a, len, cap, by simpa using h1⟩
theorem pages_in {H : Type} {enc : TypeId × Value → H} {w : World} {base : Nat} {spare : Nat → Bool} {held : Bool} {a : Option Addr} {len cap : Nat}
 (h : ∃ fuel x, DataW.trod enc Tryz.prog w base spare held fuel 22 [.slice a len cap] = some x) :
 ∃ cs : List PageT, Rws w (.slice a len cap) 5 (cs.map crowP) ∧ cs.length = len ∧ len ≤ 9223372036854775807 ∧ ∀ c ∈ cs, PageIn w c := by
 obtain ⟨fuel, x, hx⟩ := h
 obtain ⟨rs, h1, h2, h3, h4⟩ := rows_of_trod (s := 5) Tryz.underlying22 (by kernel_rfl) (by omega) hx
 obtain ⟨cs, rfl, hcs⟩ := rowsP_mapC (f := crowP) (p := PageIn w) rs (by
  intro r hr
  obtain ⟨n, y, hy⟩ := h4 r hr
  obtain ⟨hl, n', hf⟩ := field_of_trod Tryz.underlying34 hy
  obtain ⟨v0, v1, v2, v3, v4, rfl⟩ := five_ofC (hl.trans (by kernel_rfl))
  have cN : Tryz.prog.cellsOf TNd = 3 := by kernel_rfl
  have c0 : Tryz.prog.cellsOf 3 = 1 := by kernel_rfl
  have cb : Tryz.prog.cellsOf 4 = 1 := by kernel_rfl
  have cB : Tryz.prog.cellsOf 26 = 1 := by kernel_rfl
  have cE : Tryz.prog.cellsOf 29 = 1 := by kernel_rfl
  have cK : Tryz.prog.cellsOf 30 = 1 := by kernel_rfl
  obtain ⟨_, y0, e0⟩ := fieldE_at Tryz.underlying34 hy 0 TNd 0 3 rfl cN
  obtain ⟨n1, y1, e1⟩ := fieldE_at Tryz.underlying34 hy 1 26 3 1 rfl cB
  obtain ⟨_, y2, e2⟩ := fieldE_at Tryz.underlying34 hy 2 3 4 1 rfl c0
  obtain ⟨_, y3, g0⟩ := fieldE_at Tryz.underlying32 e0 0 4 0 1 rfl cb
  obtain ⟨n4, y4, g1⟩ := fieldE_at Tryz.underlying32 e0 1 29 1 1 rfl cE
  obtain ⟨n5, y5, g2⟩ := fieldE_at Tryz.underlying32 e0 2 30 2 1 rfl cK
  obtain ⟨lf, hb, _⟩ := DataW.trod_bool Tryz.underlying4 g0
  obtain rfl : v0 = .bool lf := by simpa using hb
  obtain ⟨no, rfl, _⟩ := int_of_trod Tryz.underlying3 e2
  obtain ⟨aE, nE, kE, rfl⟩ := slice_of_trod Tryz.underlying29 g1
  obtain ⟨aK, nK, kK, rfl⟩ := slice_of_trod Tryz.underlying30 g2
  obtain ⟨aR, nR, kR, rfl⟩ := slice_of_trod Tryz.underlying26 e1
  obtain ⟨es, hes, hE⟩ := entries_in ⟨n4, y4, g1⟩
  obtain ⟨ks, hks, hK⟩ := kids_in ⟨n5, y5, g2⟩
  obtain ⟨raw, hR⟩ := bytes_inB ⟨n1, y1, e1⟩
  obtain ⟨hn, hnc, hcm⟩ := hR.n
  subst hes hks hn
  exact ⟨⟨lf, es, aE, kE, ks, aK, kK, raw, aR, kR, no⟩, rfl, ⟨hE, hK, Reads.old hR, by show raw.length ≤ _; unfold maxLen at hcm; omega⟩⟩)
 exact ⟨cs, h1, by simpa using h2, h3, hcs⟩
end Go.Proofs.YtfhbmblbidcmmaaGreat
