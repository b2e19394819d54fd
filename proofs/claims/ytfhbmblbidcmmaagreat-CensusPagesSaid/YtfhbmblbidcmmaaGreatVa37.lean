/-
  Of all versions the pages that are told are just those of their trees in the file in the form of the document, and a root that is none is refused. No condition. (part 37)
-/
import Derived.Test.YtfhbmblbidcmmaaGreatVa35
import Derived.Test.YtfhbmblbidcmmaaGreatVa33
import Derived.Test.YtfhbmblbidcmmaaGreatVa36
import Derived.Deep.DeepCutAuto
import Derived.Deep.RegionHeld3
set_option linter.unusedSimpArgs false
set_option linter.unusedVariables false
namespace Go.Proofs.YtfhbmblbidcmmaaGreat
set_option linter.unusedSimpArgs false
set_option linter.unusedVariables false
open Go.RowKit Go.Sl Go.Dk Go.Tr
attribute [local go_sem ↓] Go.wp_at_zero Go.wp_at_succ
attribute [local go_sem] Go.Sl.cell_sat Go.Sl.frozen_sat
theorem eB_short {l : List Ent} (h : l.length ≤ 1) (hm : ∀ x ∈ l, mayEnt x = true) : 0 ≤ eBytes l ∧ eBytes l ≤ 1048576 := by
 match l, h with
 | [], _ => simp [eBytes]
 | [a], _ =>
  have := mayE_iff.1 (hm a (by simp))
  have e : eBytes [a] = a.len := by simp [eBytes]
  rw [e]
  omega
theorem takeP4 {A R R' R'' R3 : Assn} {w : World} [h : SatI A w] (X Y Z V : Assn) [t : Take A X R] [t' : Take R Y R'] [t'' : Take R' Z R''] [t3 : Take R'' V R3] : Sat (X * (Y * (Z * V)) * R3) w := (h.out.take3 X Y Z).eq (by rw [t3.out]; ac_rfl)
theorem readsLL_three {X Y Z : Assn} {x y z : Value} {l m k : List Ent} (b : Nat) (h1 : ReadsE X x l) (h2 : ReadsE Y y m) (h3 : ReadsE Z z k) : ReadsLL (Sl.block b TEs [x, y, z] * (X * (Y * Z))) (.slice (some ⟨b, 0, none⟩) 3 3) [l, m, k] := by
 refine ⟨[x, y, z], ⟨rfl, _, _, rfl, Nat.le_refl _, by omega, fun j u hj => ⟨b, 0, rfl, ?_⟩⟩, rfl, fun i u l' hx hl => ?_⟩
 · haveI : At [x, y, z] j u := ⟨hj⟩
   rw [Nat.zero_add]
   exact inferInstance
 · match i with
   | 0 => simp at hx hl; subst hx; subst hl; exact ReadsR.right (ReadsR.left h1)
   | 1 => simp at hx hl; subst hx; subst hl; exact ReadsR.right (ReadsR.right (ReadsR.left h2))
   | 2 => simp at hx hl; subst hx; subst hl; exact ReadsR.right (ReadsR.right (ReadsR.right h3))
   | i + 3 => simp at hx
structure SpA (s1 : TS) (root at_ n all : Int) (L R : List Ent × Int) (whole : Tall) (r1 r0 : Int) (s2 s3 s4 s5 s6 : TS) : Prop where
 hl : Go.Tr.leftOf tRead root at_ s1 = .ok L s2
 hr : Go.Tr.rightOf tRead root (at_ + n) all s2 = .ok R s3
 hw : tRooted tRead root s3 = .ok whole s4
 hk1 : tRank tRead 30 whole R.2 s4 = .ok r1 s5
 hk0 : tRank tRead 30 whole L.2 s5 = .ok r0 s6
structure SpB (whole : Tall) (L R : List Ent × Int) (put : List Ent) (p q : Tall × Tall) (m x y : Tall) (s6 s7 s8 s9 s10 s11 : TS) : Prop where
 hp : tParted tRead tWrite 30 whole L.2 s6 = .ok p s7
 hq : tParted tRead tWrite 30 p.2 (R.2 - L.2) s7 = .ok q s8
 hm : tLeaves tWrite (join (L.1 ++ put ++ R.1)) s8 = .ok m s9
 hx : tPut tRead tWrite p.1 m s9 = .ok x s10
 hy : tPut tRead tWrite x q.2 s10 = .ok y s11
set_option maxRecDepth 100000 in
set_option maxHeartbeats 12800000 in
theorem splice_main (h : Th) (s : TS) (root at_ n : Int) (put : List Ent) (v : Value) (B F : Assn) (w : World) (hE : ReadsE B v put) (hs : Sat (treeP h s * (B * F)) w) (hl : put.length ≤ 1000)
 (hm : mayList put = true) (all : Int) (s1 : TS) (hz : tSize tRead root s = .ok all s1) (k1 : ¬ at_ < 0) (k2 : ¬ n < 0) (k3 : ¬ all < at_) (k4 : ¬ all - at_ < n) (k5 : ¬ 1048576 < all - n + eBytes put) (k6 : n = 0 → put ≠ [])
 (L R : List Ent × Int) (whole : Tall) (r1 r0 : Int) (s2 s3 s4 s5 s6 : TS) (HA : SpA s1 root at_ n all L R whole r1 r0 s2 s3 s4 s5 s6) (Q : Res TS Int)
 (hbig : 1024 < whole.kid.scraps - r1 + r0 + (join (L.1 ++ put ++ R.1)).length → Q = .fault 11 (s6.undone s1.sp.taken.length))
 (hgo : ¬ 1024 < whole.kid.scraps - r1 + r0 + (join (L.1 ++ put ++ R.1)).length → ∃ p q m x y s7 s8 s9 s10 s11, SpB whole L R put p q m x y s6 s7 s8 s9 s10 s11 ∧ Q = .ok y.kid.page s11) :
 Calls Tryz.prog 33 #[.pointer (some ⟨h.t, 0, none⟩), .int .i64 root, .int .i64 at_, .int .i64 n, v] w (Back h (B * F) Q (fun z => vi2 z 0) (fun er => vi2 0 er)) := by
 have hmf : ∀ (fn : Fn) (first cap : Array Value) (w : World), (Instr.makeFunc fn first cap).run Tryz.prog w = .ok (.func fn first cap) w := fun _ _ _ _ => rfl
 have HBG : Aside (1024 < whole.kid.scraps - r1 + r0 + (join (L.1 ++ put ++ R.1)).length → Q = .fault 11 (s6.undone s1.sp.taken.length)) := hbig
 have HGO : Aside (¬ 1024 < whole.kid.scraps - r1 + r0 + (join (L.1 ++ put ++ R.1)).length → ∃ p q m x y s7 s8 s9 s10 s11, SpB whole L R put p q m x y s6 s7 s8 s9 s10 s11 ∧ Q = .ok y.kid.page s11) := hgo
 obtain ⟨HL, HR, HW, HK1, HK0⟩ := HA
 have hgrow : s1.sp.taken.length ≤ s6.sp.taken.length := by
  have g1 := (Keeps.ok (leftOf_keeps grow_goes tRead_keeps root at_) HL).len
  have g2 := (Keeps.ok (rightOf_keeps grow_goes tRead_keeps root (at_ + n) all) HR).len
  have g3 := (Keeps.ok (tRooted_keeps grow_goes tRead_keeps root) HW).len
  have g4 := (Keeps.ok (tRank_keeps grow_goes tRead_keeps 30 whole R.2) HK1).len
  have g5 := (Keeps.ok (tRank_keeps grow_goes tRead_keeps 30 whole L.2) HK0).len
  omega
 obtain ⟨lb1, lb2, lb3, lb4⟩ := leftOf_bound (by omega) HL
 obtain ⟨rb1, rb2, rb3, rb4⟩ := rightOf_bound (by omega) HR
 obtain ⟨wb1, wb2, wb3, wb4⟩ := rooted_bound HW
 have kb1 := rank_bound (fun p s n s' h => tRead_may h) 16777216 (by omega) 30 whole R.2 s4 r1 s5 wb3 (by omega) HK1
 have kb0 := rank_bound (fun p s n s' h => tRead_may h) 16777216 (by omega) 30 whole L.2 s5 r0 s6 wb3 (by omega) HK0
 obtain ⟨a0, c0, rfl, hE1, hE2⟩ := hE.v
 have hmy := fun F w q => tmay_any put _ B F w hE q (by omega)
 rw [hm] at hmy
 have c1 := fun F w q => size_tany h s root F w q (by rw [hz]; simp)
 rw [hz] at c1
 have hzb := size_bound hz
 have hmp := mayList_parts hm
 have hmp1 := fun x hx => mayE_len (hmp.1 x hx)
 have hpb := eBytes_ge hmp.1
 have htot := fun F w q => total_any put _ B F w hE q (by omega) (fun x hx => by have := hmp1 x hx; have := mayE_iff.1 (hmp.1 x hx); omega)
 have hw : IntKind.i64.wrap (all - at_) = all - at_ := IntWalk.i64_in _ (by omega)
 have hw2 : IntKind.i64.wrap (all - n) = all - n := IntWalk.i64_in _ (by omega)
 have HMP : Aside ((∀ x ∈ put, mayEnt x = true) ∧ eBytes put ≤ 1048576) := hmp
 obtain ⟨tot, htt⟩ : ∃ t, eBytes put = t := ⟨_, rfl⟩
 rw [htt] at htot hmp hpb k5
 obtain ⟨hmp2, hmp3⟩ := hmp
 have hw3 : IntKind.i64.wrap (all - n + tot) = all - n + tot := IntWalk.i64_in _ (by omega)
 have hw4 : IntKind.i64.wrap (at_ + n) = at_ + n := IntWalk.i64_in _ (by omega)
 obtain ⟨np, hnp⟩ : ∃ np, put.length = np := ⟨_, rfl⟩
 have HNP : Aside (put.length = np ∧ (n = 0 → np ≠ 0)) := ⟨hnp, fun e1 e2 => k6 e1 (List.length_eq_zero_iff.1 (hnp.trans e2))⟩
 have HEP : Aside (ReadsE B (.slice a0 put.length c0) put) := hE
 rw [hnp] at hl hE1 hmy htot hpb ⊢
 have h2 : Sat (B * (treeP h s * F)) w := hs.eq (by ac_rfl)
 haveI := h2.i
 unfold vi2 at c1
 clear hs h2 hmp2 hmp1 hE hm hbig hgo k6 hnp hz htt
 go_enter_defers Tryz.func33, Tryz.ntmps33
 go_wp2_with fail
 with_reducible refine Calls.mono (hmy _ _ (takeI B)) ?_
 rintro e w2 ⟨rfl, q2⟩
 obtain ⟨N, hN⟩ : ∃ N, w.heap.size = N := ⟨_, rfl⟩
 rw [hN] at q2 ⊢
 haveI := q2.i
 clear hN hmy
 go_wp2_with fail
 with_reducible refine Calls.mono (c1 _ _ (takeI (treeP h s))) ?_
 rintro e w3 ⟨rfl, q3⟩
 haveI := q3.i
 clear c1 q2
 go_wp2_with fail
 with_reducible refine Calls.mono (htot _ _ (takeI B)) ?_
 rintro e w4 ⟨rfl, q4⟩
 haveI := q4.i
 clear htot q3
 go_upto_region 10 with (fail)
 go_cut [75] from 28 to 185 (fun t75 wx => t75 = .bool false ∧ Sat (treeP h s1 * (B * (Sl.block (N + 1) TEr [.int .i64 0] * (Sl.block N TIt [.int .i64 0] * F)))) wx)
 case first =>
  by_cases hn0 : n = 0
  · subst hn0
    have hnp0 : ¬ np = 0 := HNP.out.2 rfl
    have hnp1 : ((np : Int) == 0) = false := by simp; omega
    go_wp2
    go_meet
    exact ⟨rfl, keep5 _ _ _ _ _⟩
  · have hn1 : ((n : Int) == 0) = false := by simpa using hn0
    go_wp2
    go_meet
    exact ⟨rfl, keep5 _ _ _ _ _⟩
 case rest =>
  obtain ⟨rfl, q5⟩ := hcut
  haveI := q5.i
  clear q4
  go_wp2_with fail
  with_reducible refine Calls.mono (mark_tany h s1 _ _ (takeI (treeP h s1))) ?_
  rintro e w5 ⟨rfl, q6⟩
  haveI := q6.i
  clear q5
  go_upto_if 89 with (fail)
  go_cut [13, 15] from 28 to 185 (fun t13 t15 wx => ∃ (al : Option Addr) (nl cl : Nat) (GL : Assn), t13 = .int .i64 L.2 ∧ t15 = .slice al nl cl ∧ nl = L.1.length ∧ Aside (ReadsE GL (.slice al nl cl) L.1) ∧ Sat (treeP h s2 * (GL * (B * (Sl.block (N + 1) TEr [.int .i64 0] * (Sl.block N TIt [.int .i64 0] * F))))) wx)
  case first =>
   have hL := HL
   unfold Go.Tr.leftOf at hL
   by_cases hat : 0 < at_
   · rw [if_pos hat] at hL
     obtain ⟨z, s1', e1, e2⟩ := bind_out hL
     have hsk := fun F w q => seek_any h s1 root (at_ - 1) F w q (by rw [e1]; simp)
     rw [e1] at hsk
     obtain ⟨b1, b2, b3, b4⟩ := seek_bound (by omega) e1
     have b5 := mayE_iff.1 b1
     obtain ⟨⟨z1, z2, z3, z4⟩, za⟩ := z
     simp only at b1 b2 b3 b4 b5 e2
     have hpt := fun F w q => part_any ⟨z1, z2, z3, z4⟩ 0 (at_ - za) F w q (by simp only; omega) (by omega) (by omega)
     have HP : Aside (L = (Go.Tr.part ⟨z1, z2, z3, z4⟩ 0 (at_ - za), za) ∧ s1' = s2) := by
      cases e2
      exact ⟨rfl, rfl⟩
     have hv1 : IntKind.i64.wrap (at_ - 1) = at_ - 1 := IntWalk.i64_in _ (by omega)
     have hv2 : IntKind.i64.wrap (at_ - za) = at_ - za := IntWalk.i64_in _ (by omega)
     unfold entV at hpt
     simp only at hpt
     clear e1 e2 b1 b5 hL
     go_wp2_with fail
     with_reducible refine Calls.mono (hsk _ _ (takeI (treeP h s1))) ?_
     rintro e w6 ⟨v6, G6, rfl, ⟨rfl, rfl⟩, q7⟩
     rw [one_sep] at q7
     haveI := q7.i
     clear hsk q6
     go_wp2_with fail
     with_reducible refine Calls.mono (hpt _ _ satI) ?_
     rintro e w7 ⟨v7, G7, rfl, hv7, q8⟩
     obtain ⟨al, cl, rfl, _, _⟩ := hv7.v
     haveI := q8.i
     obtain ⟨e3, e4⟩ := HP.out
     subst e3
     subst e4
     go_wp2
     go_meet
     exact ⟨al, _, cl, G7, rfl, rfl, rfl, hv7, keep6 _ _ _ _ _ _⟩
   · rw [if_neg hat] at hL
     have HP : Aside (L = ([], at_) ∧ s1 = s2) := by
      cases hL
      exact ⟨rfl, rfl⟩
     clear hL
     go_wp2
     go_meet
     obtain ⟨e3, e4⟩ := HP.out
     subst e3
     subst e4
     exact ⟨none, 0, 0, 1, rfl, rfl, rfl, ReadsR.nil 4 _, by rw [one_sep]; exact keep5 _ _ _ _ _⟩
  case rest =>
   obtain ⟨al, nl, cl, GL, rfl, rfl, hnl, HGL, q7⟩ := hcut
   subst hnl
   haveI := q7.i
   clear q6
   go_upto_if 108 with (fail)
   go_cut [14, 16] from 28 to 185 (fun t14 t16 wx => ∃ (ar : Option Addr) (nr cr : Nat) (GR : Assn), t14 = .int .i64 R.2 ∧ t16 = .slice ar nr cr ∧ nr = R.1.length ∧ Aside (ReadsE GR (.slice ar nr cr) R.1) ∧ Sat (treeP h s3 * (GR * (GL * (B * (Sl.block (N + 1) TEr [.int .i64 0] * (Sl.block N TIt [.int .i64 0] * F)))))) wx)
   case first =>
    have hR := HR
    unfold Go.Tr.rightOf at hR
    by_cases hat : at_ + n < all
    · rw [if_pos hat] at hR
      obtain ⟨z, s1', e1, e2⟩ := bind_out hR
      have hsk := fun F w q => seek_any h s2 root (at_ + n) F w q (by rw [e1]; simp)
      rw [e1] at hsk
      obtain ⟨b1, b2, b3, b4⟩ := seek_bound (by omega) e1
      have b5 := mayE_iff.1 b1
      obtain ⟨⟨z1, z2, z3, z4⟩, za⟩ := z
      simp only at b1 b2 b3 b4 b5 e2
      have hpt := fun F w q => part_any ⟨z1, z2, z3, z4⟩ (at_ + n - za) z3 F w q (by simp only; omega) (by omega) (by omega)
      have HP : Aside (R = (Go.Tr.part ⟨z1, z2, z3, z4⟩ (at_ + n - za) z3, za + z3) ∧ s1' = s3) := by
       cases e2
       exact ⟨rfl, rfl⟩
      have hv1 : IntKind.i64.wrap (at_ + n - za) = at_ + n - za := IntWalk.i64_in _ (by omega)
      have hv2 : IntKind.i64.wrap (za + z3) = za + z3 := IntWalk.i64_in _ (by omega)
      unfold entV at hpt
      simp only at hpt
      clear e1 e2 b1 b5 hR
      go_wp2_with fail
      with_reducible refine Calls.mono (hsk _ _ (takeI (treeP h s2))) ?_
      rintro e w6 ⟨v6, G6, rfl, ⟨rfl, rfl⟩, q8⟩
      rw [one_sep] at q8
      haveI := q8.i
      obtain ⟨N19, hN19⟩ : ∃ M, w6.heap.size = M := ⟨_, rfl⟩
      clear hsk q7
      go_upto_region 21 with (fail)
      try rw [hN19]
      have q9 : Sat (Sl.block N19 TEn [.int .i64 z1, .int .i64 z2, .int .i64 z3, .int .i64 z4] * (treeP h s1' * (GL * (B * (Sl.block (N + 1) TEr [.int .i64 0] * (Sl.block N TIt [.int .i64 0] * F)))))) (w6.alloc (.cells #[.int .i64 z1, .int .i64 z2, .int .i64 z3, .int .i64 z4] TEn)) := by
       rw [← hN19]
       exact satI_eq (by ac_rfl)
      clear hN19 q8
      generalize w6.alloc (.cells #[.int .i64 z1, .int .i64 z2, .int .i64 z3, .int .i64 z4] TEn) = w66 at q9 ⊢
      haveI := q9.i
      go_region_held3 (fun w' => w'.cell? ⟨N19, 0, none⟩ = some (.int .i64 z1) ∧ w'.cell? ⟨N19, 1, none⟩ = some (.int .i64 z2) ∧ w'.cell? ⟨N19, 2, none⟩ = some (.int .i64 z3) ∧ w'.cell? ⟨N19, 3, none⟩ = some (.int .i64 z4)) (first | exact ⟨cell_sat _ _ _, cell_sat _ _ _, cell_sat _ _ _, cell_sat _ _ _⟩) (first
       | (go_at_call 95
          with_reducible refine Calls.mono (hpt _ _ satI) ?_
          rintro e w7 ⟨v7, G7, rfl, hv7, q10⟩
          obtain ⟨ar, cr, rfl, _, _⟩ := hv7.v
          haveI := q10.i))
      all_goals
       obtain ⟨e3, e4⟩ := HP.out
       subst e3
       subst e4
       go_wp2
       go_meet
       exact ⟨ar, _, cr, G7, rfl, rfl, rfl, hv7, keep7 _ _ _ _ _ _ _⟩
    · rw [if_neg hat] at hR
      have HP : Aside (R = ([], at_ + n) ∧ s2 = s3) := by
       cases hR
       exact ⟨rfl, rfl⟩
      clear hR
      go_wp2
      go_meet
      obtain ⟨e3, e4⟩ := HP.out
      subst e3
      subst e4
      exact ⟨none, 0, 0, 1, rfl, rfl, rfl, ReadsR.nil 4 _, by rw [one_sep]; exact keep6 _ _ _ _ _ _⟩
   case rest =>
    obtain ⟨ar, nr, cr, GR, rfl, rfl, hnr, HGR, q8⟩ := hcut
    haveI := q8.i
    subst hnr
    clear q7
    obtain ⟨lB1, lB2⟩ := eB_short lb1 lb2
    obtain ⟨rB1, rB2⟩ := eB_short rb1 rb2
    have hfl : ([L.1, put, R.1] : List (List Ent)).flatten = L.1 ++ put ++ R.1 := by simp
    have hEP : ReadsE B (.slice a0 np c0) put := by have := HEP.out; rw [HNP.out.1] at this; exact this
    have hjo := fun b F w q => join_any [L.1, put, R.1] (.slice (some ⟨b, 0, none⟩) 3 3) (Sl.block b TEs [.slice al L.1.length cl, .slice a0 np c0, .slice ar R.1.length cr] * (GL * (B * GR))) F w (readsLL_three b HGL.out hEP HGR.out) q (by simp)
     (by rw [hfl]; simp only [List.length_append]; rw [HNP.out.1]; omega)
     (by
       rw [hfl]
       intro x hx
       rcases List.mem_append.1 hx with hx | hx
       · rcases List.mem_append.1 hx with hx | hx
         · exact lb2 x hx
         · exact HMP.out.1 x hx
       · exact rb2 x hx)
     (by rw [hfl, Go.Tr.eBytes_append, Go.Tr.eBytes_append]; have := HMP.out.2; omega)
    rw [hfl] at hjo
    have hjl := join_short (L.1 ++ put ++ R.1)
    simp only [List.length_append] at hjl
    rw [HNP.out.1] at hjl
    obtain ⟨js, hjs⟩ : ∃ js, join (L.1 ++ put ++ R.1) = js := ⟨_, rfl⟩
    have HJS : Aside (join (L.1 ++ put ++ R.1) = js) := hjs
    rw [hjs] at hjo hjl
    obtain ⟨nj, hnj⟩ : ∃ nj, js.length = nj := ⟨_, rfl⟩
    have HNJ : Aside (js.length = nj) := hnj
    rw [hnj] at hjl
    have hjl2 : nj ≤ 1002 := by omega
    rw [hnj] at hjo
    have c3 := fun F w q => rooted_any h s3 root F w q (by rw [HW]; simp)
    rw [HW] at c3
    have c4 := fun F w q => rank_any 30 h s4 whole R.2 F w q wb1 (by omega) wb3 (by omega) (by omega) (by omega) (by rw [HK1]; simp)
    rw [HK1] at c4
    have c5 := fun F w q => rank_any 30 h s5 whole L.2 F w q wb1 (by omega) wb3 (by omega) (by omega) (by omega) (by rw [HK0]; simp)
    rw [HK0] at c5
    have c6 := fun F w q nb => parted_any 30 h s6 whole L.2 F w q (by omega) (by omega) (by omega) (by omega) nb
    obtain ⟨⟨x1, x2, x3, x4⟩, xh⟩ := whole
    unfold tallV at c4 c5 c6
    simp only at c4 c5 c6 wb1 wb2 wb3 wb4 kb1 kb0
    have hv1 : IntKind.i64.wrap (x4 - r1) = x4 - r1 := IntWalk.i64_in _ (by omega)
    have hv2 : IntKind.i64.wrap (x4 - r1 + r0) = x4 - r1 + r0 := IntWalk.i64_in _ (by omega)
    have hv3 : IntKind.i64.wrap (x4 - r1 + r0 + (nj : Int)) = x4 - r1 + r0 + nj := IntWalk.i64_in _ (by omega)
    have hv4 : IntKind.i64.wrap (R.2 - L.2) = R.2 - L.2 := IntWalk.i64_in _ (by omega)
    have HB1 : Aside (-1 ≤ xh ∧ xh ≤ 20 ∧ R.2 - L.2 ≤ 1099511627776) := ⟨wb1, wb2, by omega⟩
    have HGR2 : Aside (s1.sp.taken.length ≤ s6.sp.taken.length) := hgrow
    clear lB1 lB2 rB1 rB2 hfl hEP hjs hjl hnj kb1 kb0 wb1 wb2 wb3 wb4 hgrow lb1 lb2 rb1 rb2 HGL HGR HEP HMP hzb
    go_wp2_with fail
    with_reducible refine Calls.mono (hjo _ _ _ (takeP4 _ _ _ _)) ?_
    rintro e w7 ⟨aj, cj, rfl, q9⟩
    haveI := q9.i
    clear hjo
    have q10 : Sat (treeP h s3 * (rw TEn 4 (.slice aj nj cj) (ecs js) * (Sl.block (N + 1) TEr [.int .i64 0] * (Sl.block N TIt [.int .i64 0] * (B * F))))) w7 := keep6 _ _ _ _ _ _
    haveI := q10.i
    have hJ : ReadsE (rw TEn 4 (.slice aj nj cj) (ecs js)) (.slice aj nj cj) js := by
     have := ReadsR.rw (F := treeP h s3 * (Sl.block (N + 1) TEr [.int .i64 0] * (Sl.block N TIt [.int .i64 0] * (B * F)))) (q10.eq (by ac_rfl)) ⟨aj, cj, rfl⟩ (n := nj)
     rw [← HNJ.out] at this ⊢
     exact this
    have HJ : Aside (ReadsE (rw TEn 4 (.slice aj nj cj) (ecs js)) (.slice aj nj cj) js) := hJ
    clear hJ q8 q9
    go_wp2_with fail
    with_reducible refine Calls.mono (c3 _ _ (takeI (treeP h s3))) ?_
    rintro e w8 ⟨v8, G8, rfl, ⟨rfl, rfl⟩, q11⟩
    rw [one_sep] at q11
    haveI := q11.i
    obtain ⟨N22, hN22⟩ : ∃ M, w8.heap.size = M := ⟨_, rfl⟩
    unfold tallV
    clear q10 c3
    go_upto_region 24 with (fail)
    try rw [hN22]
    have q12 : Sat (Sl.block N22 TTl [.int .i64 x1, .int .i64 x2, .int .i64 x3, .int .i64 x4, .int .i64 xh] * (treeP h s4 * (rw TEn 4 (.slice aj nj cj) (ecs js) * (Sl.block (N + 1) TEr [.int .i64 0] * (Sl.block N TIt [.int .i64 0] * (B * F)))))) (w8.alloc (.cells #[.int .i64 x1, .int .i64 x2, .int .i64 x3, .int .i64 x4, .int .i64 xh] TTl)) := by
     rw [← hN22]
     exact satI_eq (by ac_rfl)
    clear hN22 q11
    generalize w8.alloc (.cells #[.int .i64 x1, .int .i64 x2, .int .i64 x3, .int .i64 x4, .int .i64 xh] TTl) = w88 at q12 ⊢
    haveI := q12.i
    go_cut [157] from 28 to 185 (fun t157 wx => t157 = .bool (decide (1024 < x4 - r1 + r0 + (nj : Int))) ∧ Sat (Sl.block N22 TTl [.int .i64 x1, .int .i64 x2, .int .i64 x3, .int .i64 x4, .int .i64 xh] * (treeP h s6 * (rw TEn 4 (.slice aj nj cj) (ecs js) * (Sl.block (N + 1) TEr [.int .i64 0] * (Sl.block N TIt [.int .i64 0] * (B * F)))))) wx)
    case first =>
     go_region_held3 (fun w' => w'.cell? ⟨N22, 0, none⟩ = some (.int .i64 x1) ∧ w'.cell? ⟨N22, 1, none⟩ = some (.int .i64 x2) ∧ w'.cell? ⟨N22, 2, none⟩ = some (.int .i64 x3) ∧ w'.cell? ⟨N22, 3, none⟩ = some (.int .i64 x4) ∧ w'.cell? ⟨N22, 4, none⟩ = some (.int .i64 xh)) (first | exact ⟨cell_sat _ _ _, cell_sat _ _ _, cell_sat _ _ _, cell_sat _ _ _, cell_sat _ _ _⟩) (first
      | (go_at_call 97
         with_reducible refine Calls.mono (c4 _ _ (takeI (treeP h s4))) ?_
         rintro e w9 ⟨v9, G9, rfl, ⟨rfl, rfl⟩, q13⟩
         rw [one_sep] at q13
         haveI := q13.i)
      | (go_at_call 97
         with_reducible refine Calls.mono (c5 _ _ (takeI (treeP h s5))) ?_
         rintro e w10 ⟨v10, G10, rfl, ⟨rfl, rfl⟩, q14⟩
         rw [one_sep] at q14
         haveI := q14.i))
     all_goals
      go_wp2
      go_meet
      exact ⟨rfl, keep6 _ _ _ _ _ _⟩
    case rest =>
     obtain ⟨rfl, q13⟩ := hcut
     haveI := q13.i
     clear q12 c4 c5
     by_cases hb : 1024 < x4 - r1 + r0 + (nj : Int)
     · have hQ := HBG.out (by rw [HJS.out, HNJ.out]; omega)
       subst hQ
       have hd : decide (1024 < x4 - r1 + r0 + (nj : Int)) = true := decide_eq_true hb
       rw [hd]
       go_wp2
       refine leaves_cons (f := 93) (args := #[.pointer (some ⟨N, 0, none⟩), .pointer (some ⟨N + 1, 0, none⟩)]) (by simp) (by simp [go_sem]) ?_
       refine (spliceC_idle _ _ _).mono ?_
       rintro e u' w14 ⟨rfl, rfl, rfl⟩
       show Leaves _ _ _ _ _ .returning _
       refine leaves_cons (f := 81) (args := #[.pointer (some ⟨h.t, 0, none⟩), .int .i64 s1.sp.taken.length, .pointer (some ⟨N + 1, 0, none⟩)]) (by simp) (by simp [go_sem]) ?_
       refine (undoD_er h s6 s1.sp.taken.length (N + 1) 11 _ _ _ (by omega) HGR2.out (takeI2 (treeP h s6) (Sl.block (N + 1) TEr [.int .i64 11]))).mono ?_
       rintro e u' w15 ⟨rfl, rfl, q14⟩
       haveI := q14.i
       simp [Leaves, settle, results, Tryz.results33, go_sem]
       exact ⟨rfl, keep3 _ _ _⟩
     · obtain ⟨p, q, m, x, y, s7, s8, s9, s10, s11, ⟨hp, hq, hm, hx, hy⟩, hQ⟩ := HGO.out (by rw [HJS.out, HNJ.out]; omega)
       have hd : decide (1024 < x4 - r1 + r0 + (nj : Int)) = false := decide_eq_false hb
       rw [HJS.out] at hm
       obtain ⟨w1, w2', w3⟩ := HB1.out
       have hp1 := tParted_height (fun p s n s' h => tRead_may h) 30 _ _ _ _ _ hp (-31) 20 (by omega) (by omega) (by simp only; omega) (by simp only; omega)
       have hq1 := tParted_height (fun p s n s' h => tRead_may h) 30 _ _ _ _ _ hq (-62) 454 (by omega) (by omega) (by omega) (by omega)
       have hm1 := tLeaves_height hm
       rw [HNJ.out] at hm1
       have hx1 := tPut_height (fun p s n s' h => tRead_many h) hx (-31) 454 (by omega) (by omega) (by omega) (by omega) (by omega) (by omega)
       have d6 := fun F w q => c6 F w q (by rw [hp]; simp)
       rw [hp] at d6
       have d7 := fun F w q => parted_any 30 h s7 p.2 (R.2 - L.2) F w q (by omega) (by omega) (by omega) w3 (by rw [hq]; simp)
       rw [hq] at d7
       have d8 := fun F w q => leaves_any h s8 js _ _ F w HJ.out q (by rw [HNJ.out]; omega) (by rw [hm]; simp)
       rw [hm] at d8
       have d9 := fun F w q => put_tany h s9 p.1 m F w q (by omega) (by omega) (by omega) (by omega) (by rw [hx]; simp)
       rw [hx] at d9
       have d10 := fun F w q' => put_tany h s10 x q.2 F w q' (by omega) (by omega) (by omega) (by omega) (by rw [hy]; simp)
       rw [hy] at d10
       obtain ⟨⟨⟨p1, p2, p3, p4⟩, ph⟩, ⟨⟨o1, o2, o3, o4⟩, oh⟩⟩ := p
       obtain ⟨⟨⟨g1, g2, g3, g4⟩, gh⟩, ⟨⟨l1, l2, l3, l4⟩, lh⟩⟩ := q
       obtain ⟨⟨m1, m2, m3, m4⟩, mh⟩ := m
       obtain ⟨⟨u1, u2, u3, u4⟩, uh⟩ := x
       obtain ⟨⟨y1, y2, y3, y4⟩, yh⟩ := y
       unfold PairR at d6 d7
       unfold TallR at d8 d9 d10
       unfold tallV at d6 d7 d8 d9 d10
       simp only at d6 d7 d8 d9 d10 hQ
       subst hQ
       rw [hd]
       clear hp hq hm hx hy hp1 hq1 hm1 hx1 c6
       go_wp2_with fail
       with_reducible refine Calls.mono (d6 _ _ (takeI (treeP h s6))) ?_
       rintro e w14 ⟨v14, G14, rfl, ⟨rfl, rfl⟩, q14⟩
       rw [one_sep] at q14
       haveI := q14.i
       obtain ⟨N23, hN23⟩ : ∃ M, w14.heap.size = M := ⟨_, rfl⟩
       clear q13
       go_wp2_with fail
       with_reducible refine Calls.mono (d7 _ _ (takeI (treeP h s7))) ?_
       rintro e w15 ⟨v15, G15, rfl, ⟨rfl, rfl⟩, q15⟩
       rw [one_sep] at q15
       haveI := q15.i
       have q16 : Sat (treeP h s8 * (rw TEn 4 (.slice aj nj cj) (ecs js) * (Sl.block N23 TTl [.int .i64 p1, .int .i64 p2, .int .i64 p3, .int .i64 p4, .int .i64 ph] * (Sl.block (N + 1) TEr [.int .i64 0] * (Sl.block N TIt [.int .i64 0] * (B * F)))))) w15 := by
        rw [← hN23]
        exact keep6 _ _ _ _ _ _
       obtain ⟨N25, hN25⟩ : ∃ M, w15.heap.size = M := ⟨_, rfl⟩
       haveI := q16.i
       clear q14 q15 d6 d7
       try rw [hN23]
       clear hN23
       go_upto_region 28 with (fail)
       try rw [hN25]
       have q17 : Sat (Sl.block (N25 + 1) TTl [.int .i64 l1, .int .i64 l2, .int .i64 l3, .int .i64 l4, .int .i64 lh] * (treeP h s8 * (rw TEn 4 (.slice aj nj cj) (ecs js) * (Sl.block N23 TTl [.int .i64 p1, .int .i64 p2, .int .i64 p3, .int .i64 p4, .int .i64 ph] * (Sl.block (N + 1) TEr [.int .i64 0] * (Sl.block N TIt [.int .i64 0] * (B * F))))))) ((w15.alloc (.cells #[.int .i64 g1, .int .i64 g2, .int .i64 g3, .int .i64 g4, .int .i64 gh] TTl)).alloc (.cells #[.int .i64 l1, .int .i64 l2, .int .i64 l3, .int .i64 l4, .int .i64 lh] TTl)) := by
        rw [← hN25]
        exact satI_weak (C := Sl.block w15.heap.size TTl [.int .i64 g1, .int .i64 g2, .int .i64 g3, .int .i64 g4, .int .i64 gh]) (by ac_rfl)
       clear hN25 q16
       generalize (w15.alloc (.cells #[.int .i64 g1, .int .i64 g2, .int .i64 g3, .int .i64 g4, .int .i64 gh] TTl)).alloc (.cells #[.int .i64 l1, .int .i64 l2, .int .i64 l3, .int .i64 l4, .int .i64 lh] TTl) = w55 at q17 ⊢
       haveI := q17.i
       go_cut [27] from 28 to 185 (fun t27 wx => ∃ M : Nat, t27 = .pointer (some ⟨M, 0, none⟩) ∧ Sat (Sl.block M TTl [.int .i64 y1, .int .i64 y2, .int .i64 y3, .int .i64 y4, .int .i64 yh] * (treeP h s11 * (Sl.block (N + 1) TEr [.int .i64 0] * (Sl.block N TIt [.int .i64 0] * (B * F))))) wx)
       case first =>
        go_region_held3 (fun w' => w'.cell? ⟨N23, 0, none⟩ = some (.int .i64 p1) ∧ w'.cell? ⟨N23, 1, none⟩ = some (.int .i64 p2) ∧ w'.cell? ⟨N23, 2, none⟩ = some (.int .i64 p3) ∧ w'.cell? ⟨N23, 3, none⟩ = some (.int .i64 p4) ∧ w'.cell? ⟨N23, 4, none⟩ = some (.int .i64 ph) ∧ w'.cell? ⟨N25 + 1, 0, none⟩ = some (.int .i64 l1) ∧ w'.cell? ⟨N25 + 1, 1, none⟩ = some (.int .i64 l2) ∧ w'.cell? ⟨N25 + 1, 2, none⟩ = some (.int .i64 l3) ∧ w'.cell? ⟨N25 + 1, 3, none⟩ = some (.int .i64 l4) ∧ w'.cell? ⟨N25 + 1, 4, none⟩ = some (.int .i64 lh)) (first | exact ⟨cell_sat _ _ _, cell_sat _ _ _, cell_sat _ _ _, cell_sat _ _ _, cell_sat _ _ _, cell_sat _ _ _, cell_sat _ _ _, cell_sat _ _ _, cell_sat _ _ _, cell_sat _ _ _⟩) (first
         | (go_at_call 84
            with_reducible refine Calls.mono (d8 _ _ (takeI2 (treeP h s8) (rw TEn 4 (.slice aj nj cj) (ecs js)))) ?_
            rintro e w16 ⟨v16, G16, rfl, ⟨rfl, rfl⟩, q18⟩
            rw [one_sep] at q18
            haveI := q18.i)
         | (go_at_call 99
            with_reducible refine Calls.mono (d9 _ _ (takeI (treeP h s9))) ?_
            rintro e w17 ⟨v17, G17, rfl, ⟨rfl, rfl⟩, q19⟩
            rw [one_sep] at q19
            haveI := q19.i)
         | (go_at_call 99
            with_reducible refine Calls.mono (d10 _ _ (takeI (treeP h s10))) ?_
            rintro e w18 ⟨v18, G18, rfl, ⟨rfl, rfl⟩, q20⟩
            rw [one_sep] at q20
            haveI := q20.i))
        all_goals
         go_wp2
         go_meet
         exact ⟨_, rfl, keep6 _ _ _ _ _ _⟩
       case rest =>
        obtain ⟨M, rfl, q18⟩ := hcut
        haveI := q18.i
        clear q17
        go_wp2
        refine leaves_cons (f := 93) (args := #[.pointer (some ⟨N, 0, none⟩), .pointer (some ⟨N + 1, 0, none⟩)]) (by simp) (by simp [go_sem]) ?_
        refine (spliceC_idle _ _ _).mono ?_
        rintro e u' w19 ⟨rfl, rfl, rfl⟩
        show Leaves _ _ _ _ _ .returning _
        refine leaves_cons (f := 81) (args := #[.pointer (some ⟨h.t, 0, none⟩), .int .i64 s1.sp.taken.length, .pointer (some ⟨N + 1, 0, none⟩)]) (by simp) (by simp [go_sem]) ?_
        refine (undoD_ok _ _ (N + 1) _ _ _ (takeI (Sl.block (N + 1) TEr [.int .i64 0]))).mono ?_
        rintro e u' w20 ⟨rfl, rfl, q21⟩
        haveI := q21.i
        simp [Leaves, settle, results, Tryz.results33, go_sem]
        exact ⟨rfl, keep3 _ _ _⟩
end Go.Proofs.YtfhbmblbidcmmaaGreat
namespace Go.Tr
section
variable {σ : Type}
def tPre (rd : Int → M σ Nd) (root at_ n all : Int) : M σ ((List Ent × Int) × (List Ent × Int) × Tall × Int × Int) :=
 M.bind (leftOf rd root at_) fun L => M.bind (rightOf rd root (at_ + n) all) fun R =>
 M.bind (tRooted rd root) fun whole => M.bind (tRank rd 30 whole R.2) fun r1 => M.bind (tRank rd 30 whole L.2) fun r0 => M.pure (L, R, whole, r1, r0)
variable {X : Env σ} (hX : X.Ok)
include hX in
theorem pre_ok {root : Int} {l put : List Ent} {s : σ} (hI : X.inv s) (hr : Rt (X.V s) root l) (hj : Joined l) (L : Nat) (hL4 : L ≤ 4) (hL : ∀ h : Nat, 2 * 4 ^ h ≤ l.length → h ≤ L) {at_ n : Int} (h0 : 0 ≤ at_) (hn : 0 ≤ n) (h1 : at_ + n ≤ eBytes l) :
 Step X s (5 * L + 5) 0 (tPre X.rd root at_ n (eBytes l)) (fun q s' => q.2.2.1.kid.scraps - q.2.2.2.1 + q.2.2.2.2 + ((join (q.1.1 ++ put ++ q.2.1.1)).length : Int) = ((spliceL l at_ n put).length : Int)) := by
 have hm := hr.fit.1
 unfold tPre
 refine (Step.bind (R2 := L + 1 + (L + 1 + (L + 1 + (L + 1 + 0)))) (W2 := 0)
  (leftOf_ok hX hI hr hj L hL h0 (by omega)) ?_).mono (by omega) (by omega) fun _ _ _ _ x => x
 rintro p s1 hI1 hle1 ⟨A, hA⟩
 refine Step.bind (W1 := 0) (W2 := 0) (rightOf_ok hX hI1 (hr.le hle1) hj L hL («to» := at_ + n) (by omega) h1) ?_
 rintro q s2 hI2 hle2 ⟨C, B, hC⟩
 obtain ⟨hp1, D, hp2, hp3⟩ := splice_parts (put := put) hm hj h0 hn hA hC
 have hr2 := (hr.le hle1).le hle2
 refine Step.bind (W1 := 0) (W2 := 0) (rooted_ok hX hI2 hr2 L hL) ?_
 rintro whole s3 hI3 hle3 ⟨t1, t2⟩
 have eC : l = C ++ B := hC.1
 have e2 : q.2 = eBytes C := hC.2.1
 have eA : p.2 = eBytes A := hA.2.1
 rw [e2, eA]
 have hw1 : Tl (X.V s3) whole (C ++ B) := by rw [← eC]; exact t1
 refine Step.bind (W1 := 0) (W2 := 0) ((rank_ok hX 30 (h := L) (by omega) hI3 hw1 t2)) ?_
 rintro r1 s4 hI4 hle4 rfl
 have hw2 : Tl (X.V s4) whole (A ++ (D ++ B)) := by rw [← hp3]; exact t1.le hle4
 refine Step.bind (W1 := 0) (W2 := 0) (R2 := 0) ((rank_ok hX 30 (h := L) (by omega) hI4 hw2 t2)) ?_
 rintro r0 s5 hI5 hle5 rfl
 refine Step.ret hI5 ?_
 simp only
 rw [t1.scraps, hp1, eC, hp2]
 simp only [List.length_append]
 omega
end
end Go.Tr
namespace Go.Proofs.YtfhbmblbidcmmaaGreat
set_option linter.unusedSimpArgs false
set_option linter.unusedVariables false
set_option linter.unusedSectionVars false
open Go.RowKit Go.Sl Go.Dk Go.Tr
variable [TopN]
theorem step_get {α : Type} {s : TS} {R W : Nat} {m : M TS α} {Q : α → TS → Prop} (h : Step (envT true) s R W m Q) (hw : W ≤ roomOf s.sp) (hl : R + W ≤ leftOps s) :
 ∃ a s', m s = .ok a s' ∧ TInv true s' ∧ Le (nodeAt s) (nodeAt s') ∧ s'.ck.reads.toNat ≤ s.ck.reads.toNat + R ∧ roomOf s.sp ≤ roomOf s'.sp + W ∧ leftOps s ≤ leftOps s' + (R + W) ∧ Q a s' := by
 unfold Step at h
 rcases h with h | h
 · have : roomOf s.sp < W := h
   omega
 cases hm : m s with
 | ok a s' =>
   rw [hm] at h
   obtain ⟨h1, h2, h3, h4, h5, h6⟩ := h
   exact ⟨a, s', rfl, h1, h2, h3, h4, h5, h6⟩
 | fault e s' =>
   rw [hm] at h
   obtain ⟨h1, _⟩ := h
   rcases h1 with ⟨h1, _⟩ | h1
   · cases h1
   · have : roomOf s.sp < W := h1
     omega
 | bad =>
   rw [hm] at h
   have : leftOps s < R + W := h
   omega
structure SameDk (a b : Ck) : Prop where
 cap : b.cap = a.cap
 nm : b.nm = a.nm
 oth : ∀ n, n ≠ a.nm → b.d.get n = a.d.get n
theorem SameDk.same (a : Ck) : SameDk a a := ⟨rfl, rfl, fun _ _ => rfl⟩
theorem SameDk.next {a b c : Ck} (h : SameDk a b) (k : SameDk b c) : SameDk a c := ⟨k.cap.trans h.cap, k.nm.trans h.nm, fun n hn => (k.oth n (by rw [h.nm]; exact hn)).trans (h.oth n hn)⟩
theorem dk_write_oth (d : Dk) (nm : ByteArray) (k : Int) (b : List UInt8) (n : ByteArray) (h : n ≠ nm) : (d.write nm k b).2.get n = d.get n := by
 unfold Dk.write
 split
 · rfl
 split
 · rfl
 split
 · rfl
 split
 · rfl
 split
 · rfl
 · unfold Dk.get Dk.written Dk.put
   simp only
   rw [fget_fput, if_neg h]
   rfl
theorem write2_dk (s : Ck) (no : Int) : SameDk s (s.write2 no).2 := by
 unfold Ck.write2
 split <;> exact ⟨rfl, rfl, fun n hn => dk_write_oth _ _ _ _ _ hn⟩
theorem write_dk (s : Ck) (no : Int) : SameDk s (s.write no).2 := by
 unfold Ck.write
 split
 · exact SameDk.same s
 split
 · have h1 : SameDk s { s with d := (s.pad no).2 } := ⟨rfl, rfl, fun n hn => dk_write_oth _ _ _ _ _ hn⟩
   split
   · exact h1.next (write2_dk _ no)
   · exact h1
 · exact write2_dk s no
theorem release_dk (s : Ck) (no : Int) : SameDk s (s.release no).2 := by
 have h := write_dk s no
 unfold Ck.release
 split
 · exact ⟨h.cap, h.nm, h.oth⟩
 · exact h
theorem room_dk (s : Ck) : SameDk s s.room.2 := by
 unfold Ck.room
 split
 · exact SameDk.same s
 · split
   · exact SameDk.same s
   · exact release_dk s _
theorem take_dk (s : Ck) (no : Int) (b : List UInt8) : SameDk s (s.take no b).2 := by
 have h := room_dk s
 unfold Ck.take
 split
 · exact ⟨h.cap, h.nm, h.oth⟩
 · exact h
theorem get_dk (s : Ck) (no : Int) : SameDk s (s.get no).2.2 := by
 unfold Ck.get
 split
 · exact SameDk.same s
 · split
   · exact ⟨rfl, rfl, fun _ _ => rfl⟩
   · simp only
     split
     · have h := take_dk s no (s.d.read s.nm (no * 256) 256).2
       split
       · exact ⟨h.cap, h.nm, h.oth⟩
       · exact h
     · exact SameDk.same s
theorem put_dk (s : Ck) (no : Int) (b : List UInt8) : SameDk s (s.put no b).2 := by
 unfold Ck.put
 split
 · exact SameDk.same s
 · split
   · exact ⟨rfl, rfl, fun _ _ => rfl⟩
   · have h := take_dk s no b
     split
     · exact ⟨h.cap, h.nm, h.oth⟩
     · exact h
def SameSp (s s' : TS) : Prop := s'.sp = s.sp ∧ SameDk s.ck s'.ck
theorem sameSp_goes : Goes SameSp where
 same s := ⟨rfl, SameDk.same _⟩
 next a b c h1 h2 := ⟨h2.1.trans h1.1, h1.2.next h2.2⟩
def SameCap (s s' : TS) : Prop := SameDk s.ck s'.ck
theorem sameCap_goes : Goes SameCap where
 same s := SameDk.same _
 next a b c h1 h2 := SameDk.next h1 h2
theorem mFail_sp (P : TS → TS → Prop) (h : Goes P) (e : Int) : Keeps P (mFail e) := by
 unfold mFail
 split
 · exact Keeps.pure h _
 · exact Keeps.fail h _
theorem tRead_sp (p : Int) : Keeps SameSp (tRead p) := by
 refine Keeps.bind sameSp_goes (fun s => ?_) fun r => Keeps.bind sameSp_goes (mFail_sp _ sameSp_goes _) fun _ => ?_
 · unfold mGet
   by_cases h : s.ops < opsMax
   · rw [if_pos h]; exact ⟨rfl, get_dk _ _⟩
   · rw [if_neg h]; trivial
 · cases openNd p r.2 with
   | none => exact Keeps.fail sameSp_goes _
   | some n => exact Keeps.pure sameSp_goes _
theorem tRead_cap (p : Int) : Keeps SameCap (tRead p) := fun s => by
 have := tRead_sp p s
 cases h : tRead p s with
 | ok a s' => rw [h] at this; exact this.2
 | fault e s' => rw [h] at this; exact this.2
 | bad => trivial
theorem tWrite_cap (n : Nd) : Keeps SameCap (tWrite n) := by
 refine Keeps.ite (Keeps.fail sameCap_goes _) ?_
 refine Keeps.bind sameCap_goes (fun s => ?_) fun t => Keeps.bind sameCap_goes (mFail_sp _ sameCap_goes _) fun _ => Keeps.bind sameCap_goes (mFail_sp _ sameCap_goes _) fun _ => Keeps.bind sameCap_goes (fun s => put_dk _ _ _) fun e => Keeps.bind sameCap_goes (mFail_sp _ sameCap_goes _) fun _ => Keeps.pure sameCap_goes _
 unfold mTake
 by_cases h : s.ops < opsMax
 · rw [if_pos h]; exact SameDk.same _
 · rw [if_neg h]; trivial
theorem undone_same {s : TS} {m : Nat} (h : s.sp.taken.length = m) : s.undone m = s := by
 subst h
 unfold TS.undone spBack
 simp only [List.drop_length, List.take_length]
 show (⟨forgets (sortI (backGo [] s.sp.used []).2) s.ck, ⟨s.sp.reserved, (backGo [] s.sp.used []).1, s.sp.waiting, s.sp.taken⟩, s.ops⟩ : TS) = s
 have e : (backGo [] s.sp.used []) = (s.sp.used, []) := rfl
 rw [e]
 have e2 : sortI ([] : List Int) = [] := by simp [sortI]
 rw [e2]
 rfl
end Go.Proofs.YtfhbmblbidcmmaaGreat
namespace Go.Proofs.YtfhbmblbidcmmaaGreat
set_option linter.unusedSimpArgs false
set_option linter.unusedVariables false
set_option linter.unusedSectionVars false
open Go.RowKit Go.Sl Go.Dk Go.Tr
variable [TopN]
def buildR (l : List Ent) : Int × List Ent := if mayList l = false then (1, []) else if 1024 < (join l).length then (11, []) else (0, join l)
def spliceR (l : List Ent) (at_ n : Int) (put : List Ent) : Int × List Ent :=
 if mayList put = false then (1, []) else
 if at_ < 0 ∨ n < 0 ∨ eBytes l < at_ ∨ eBytes l - at_ < n then (2, []) else
 if 1048576 < eBytes l - n + eBytes put then (10, []) else
 if n = 0 ∧ put = [] then (0, l) else
 if 1024 < (spliceL l at_ n put).length then (11, []) else (0, spliceL l at_ n put)
structure Nxt (s s' : TS) (R W : Nat) : Prop where
 inv : TInv true s'
 le : Le (nodeAt s) (nodeAt s')
 reads : s'.ck.reads.toNat ≤ s.ck.reads.toNat + R
 room : roomOf s.sp ≤ roomOf s'.sp + W
 left : leftOps s ≤ leftOps s' + (R + W)
 cap : SameCap s s'
theorem Nxt.refl {s : TS} (h : TInv true s) : Nxt s s 0 0 := ⟨h, Le.rfl' _, Nat.le_refl _, Nat.le_refl _, Nat.le_refl _, sameCap_goes.same s⟩
theorem Nxt.more {s s' : TS} {R W R' W' : Nat} (h : Nxt s s' R W) (h1 : R ≤ R') (h2 : W ≤ W') : Nxt s s' R' W' := ⟨h.inv, h.le, by have := h.reads; omega, by have := h.room; omega, by have := h.left; omega, h.cap⟩
theorem Nxt.trans {s s1 s2 : TS} {R1 W1 R2 W2 : Nat} (h : Nxt s s1 R1 W1) (k : Nxt s1 s2 R2 W2) : Nxt s s2 (R1 + R2) (W1 + W2) :=
 ⟨k.inv, h.le.trans k.le, by have := h.reads; have := k.reads; omega, by have := h.room; have := k.room; omega, by have := h.left; have := k.left; omega, sameCap_goes.next _ _ _ h.cap k.cap⟩
theorem fit_join {l : List Ent} (hm : mayList l = true) (h : ¬ 1024 < (join l).length) : Fit (join l) := by
 obtain ⟨h1, h2⟩ := mayList_parts hm
 exact ⟨join_may h1 h2, by rw [eBytes_join]; exact h2, by omega⟩
theorem bld_any (h : Th) (s : TS) (l : List Ent) (v : Value) (B F : Assn) (w : World) (hE : ReadsE B v l) (hs : Sat (treeP h s * (B * F)) w) (hI : TInv true s) (hl : l.length ≤ 65536) (hr : 2048 ≤ roomOf s.sp) (hf : 2048 ≤ leftOps s) :
 Calls Tryz.prog 23 #[.pointer (some ⟨h.t, 0, none⟩), v] w fun e w' => ∃ (r : Int) (s' : TS), e = .returned (vi2 r (buildR l).1) ∧ Sat (treeP h s' * (B * F)) w' ∧ Nxt s s' 0 2048 ∧ ((buildR l).1 = 0 → Rt (nodeAt s') r (buildR l).2) ∧ ((buildR l).1 ≠ 0 → r = 0) := by
 unfold buildR
 by_cases hm : mayList l = false
 · rw [if_pos hm]
   refine (build_no h s l v B F w hE hs hl hm).mono fun e w' hx => ?_
   unfold mBuild at hx
   rw [if_pos hm] at hx
   exact ⟨0, s, hx.1, hx.2, (Nxt.refl hI).more (by omega) (by omega), fun e => absurd e (by decide), fun _ => rfl⟩
 · rw [if_neg hm]
   have hm' : mayList l = true := by simpa using hm
   by_cases hj : 1024 < (join l).length
   · rw [if_pos hj]
     refine (build_go h s l v B F w hE hs hl hm' (by unfold mBuild; rw [if_neg hm, if_pos hj]; simp)).mono fun e w' hx => ?_
     unfold mBuild at hx
     rw [if_neg hm, if_pos hj] at hx
     exact ⟨0, s, hx.1, hx.2, (Nxt.refl hI).more (by omega) (by omega), fun e => absurd e (by decide), fun _ => rfl⟩
   · rw [if_neg hj]
     obtain ⟨r, s', hx, h1, h2, h3, h4, h5, h6⟩ := step_get (build_ok (envT_ok true) (s := s) hI (fit_join hm' hj)) hr (by omega)
     have hx' : tBuild tWrite (join l) s = .ok r s' := hx
     have hM : mBuild l s = .ok r s' := by unfold mBuild; rw [if_neg hm, if_neg hj, hx']; rfl
     have hcap := Keeps.ok (tBuild_keeps sameCap_goes tWrite_cap (join l)) hx'
     refine (build_go h s l v B F w hE hs hl hm' (by rw [hM]; simp)).mono fun e w' hy => ?_
     rw [hM] at hy
     exact ⟨r, s', hy.1, hy.2, ⟨h1, h2, h3, h4, h5, hcap⟩, fun _ => h6, fun e => absurd rfl e⟩
theorem siz_any (h : Th) (s : TS) (root : Int) (l : List Ent) (F : Assn) (w : World) (hs : Sat (treeP h s * F) w) (hI : TInv true s) (hR : Rt (nodeAt s) root l) (hf : 1 ≤ leftOps s) :
 ∃ s', tSize tRead root s = .ok (eBytes l) s' ∧ Nxt s s' 1 0 := by
 obtain ⟨r, s', hx, h1, h2, h3, h4, h5, rfl⟩ := step_get (size_ok (envT_ok true) (s := s) hI hR) (Nat.zero_le _) (by omega)
 have hx' : tSize tRead root s = .ok _ s' := hx
 exact ⟨s', hx', h1, h2, h3, h4, h5, (show SameCap s s' from Keeps.ok (tSize_keeps sameCap_goes tRead_cap root) hx')⟩
theorem splice_call (h : Th) (s : TS) (root at_ n : Int) (l put : List Ent) (v : Value) (B F : Assn) (w : World) (hE : ReadsE B v put) (hs : Sat (treeP h s * (B * F)) w) (hl : put.length ≤ 1000) (hI : TInv true s) (hR : Rt (nodeAt s) root l) (hj : Joined l)
 (L : Nat) (hL4 : L ≤ 4) (hL : ∀ h : Nat, 2 * 4 ^ h ≤ l.length → h ≤ L) (hr : 2600 ≤ roomOf s.sp) (hf : 2800 ≤ leftOps s) :
 Calls Tryz.prog 33 #[.pointer (some ⟨h.t, 0, none⟩), .int .i64 root, .int .i64 at_, .int .i64 n, v] w fun e w' => ∃ (r : Int) (s' : TS), e = .returned (vi2 r (spliceR l at_ n put).1) ∧ Sat (treeP h s' * (B * F)) w' ∧ Nxt s s' (2 * (L * L) + 17 * L + 20) 2600 ∧
  ((spliceR l at_ n put).1 = 0 → Rt (nodeAt s') r (spliceR l at_ n put).2) ∧ ((spliceR l at_ n put).1 ≠ 0 → r = 0) ∧ ((spliceR l at_ n put).1 = 0 → n = 0 → put = [] → r = root) := by
 have hLL : L * L ≤ 16 := by have := Nat.mul_le_mul hL4 hL4; omega
 unfold spliceR
 by_cases hm : mayList put = false
 · rw [if_pos hm]
   refine (splice_may h s root at_ n put v B F w hE hs (by omega) hm).mono fun e w' hx => ?_
   exact ⟨0, s, hx.1, hx.2, (Nxt.refl hI).more (by omega) (by omega), fun e => absurd e (by decide), fun _ => rfl, fun e => absurd e (by decide)⟩
 rw [if_neg hm]
 have hm' : mayList put = true := by simpa using hm
 obtain ⟨s1, hz, hn⟩ := siz_any h s root l (B * F) w hs hI hR (by omega)
 by_cases hc : at_ < 0 ∨ n < 0 ∨ eBytes l < at_ ∨ eBytes l - at_ < n
 · rw [if_pos hc]
   refine (splice_range h s root at_ n put v B F w hE hs (by omega) hm' _ s1 hz hc).mono fun e w' hx => ?_
   exact ⟨0, s1, hx.1, hx.2, hn.more (by omega) (by omega), fun e => absurd e (by decide), fun _ => rfl, fun e => absurd e (by decide)⟩
 rw [if_neg hc]
 by_cases hbg : 1048576 < eBytes l - n + eBytes put
 · rw [if_pos hbg]
   refine (splice_big h s root at_ n put v B F w hE hs (by omega) hm' _ s1 hz (by omega) (by omega) (by omega) (by omega) hbg).mono fun e w' hx => ?_
   exact ⟨0, s1, hx.1, hx.2, hn.more (by omega) (by omega), fun e => absurd e (by decide), fun _ => rfl, fun e => absurd e (by decide)⟩
 rw [if_neg hbg]
 by_cases hno : n = 0 ∧ put = []
 · rw [if_pos hno]
   refine (splice_none h s root at_ n put v B F w hE hs (by omega) hm' _ s1 hz (by omega) (by omega) (by omega) (by omega) hbg hno.1 hno.2).mono fun e w' hx => ?_
   exact ⟨root, s1, hx.1, hx.2, hn.more (by omega) (by omega), fun _ => hR.le hn.le, fun e => absurd rfl e, fun _ _ _ => rfl⟩
 rw [if_neg hno]
 have hput := (mayList_parts hm').1
 have hl1 := hn.left
 have hr1 := hn.room
 obtain ⟨⟨PL, PR, whole, r1, r0⟩, s6, hpre, p1, p2, p3, p4, p5, p6⟩ := step_get (pre_ok (put := put) (envT_ok true) hn.inv (hR.le hn.le) hj L hL4 hL (at_ := at_) (n := n) (by omega) (by omega) (by omega)) (Nat.zero_le _) (by omega)
 simp only at p6
 have hpre' : tPre tRead root at_ n (eBytes l) s1 = .ok (PL, PR, whole, r1, r0) s6 := hpre
 unfold tPre at hpre'
 obtain ⟨a1, s2, e1, g1⟩ := bind_out hpre'
 obtain ⟨a2, s3, e2, g2⟩ := bind_out g1
 obtain ⟨a3, s4, e3, g3⟩ := bind_out g2
 obtain ⟨a4, s5, e4, g4⟩ := bind_out g3
 obtain ⟨a5, s6', e5, g5⟩ := bind_out g4
 cases g5
 have HA : SpA s1 root at_ n (eBytes l) PL PR whole r1 r0 s2 s3 s4 s5 s6 := ⟨e1, e2, e3, e4, e5⟩
 have hsp : SameSp s1 s6 := by
  have q1 := Keeps.ok (leftOf_keeps sameSp_goes tRead_sp root at_) e1
  have q2 := Keeps.ok (rightOf_keeps sameSp_goes tRead_sp root (at_ + n) (eBytes l)) e2
  have q3 := Keeps.ok (tRooted_keeps sameSp_goes tRead_sp root) e3
  have q4 := Keeps.ok (tRank_keeps sameSp_goes tRead_sp 30 whole PR.2) e4
  have q5 := Keeps.ok (tRank_keeps sameSp_goes tRead_sp 30 whole PL.2) e5
  exact sameSp_goes.next _ _ _ q1 (sameSp_goes.next _ _ _ q2 (sameSp_goes.next _ _ _ q3 (sameSp_goes.next _ _ _ q4 q5)))
 by_cases hmany : 1024 < (spliceL l at_ n put).length
 · rw [if_pos hmany]
   have hu : s6.undone s1.sp.taken.length = s6 := undone_same (by rw [hsp.1])
   refine (splice_main h s root at_ n put v B F w hE hs hl hm' _ s1 hz (by omega) (by omega) (by omega) (by omega) hbg (fun e1 e2 => hno ⟨e1, e2⟩) PL PR whole r1 r0 s2 s3 s4 s5 s6 HA (.fault 11 s6) (fun _ => by rw [hu]) (fun hq => absurd (by rw [p6]; omega) hq)).mono fun e w' hx => ?_
   exact ⟨0, s6, hx.1, hx.2, (hn.trans ⟨p1, p2, p3, p4, p5, hsp.2⟩).more (by omega) (by omega), fun e => absurd e (by decide), fun _ => rfl, fun e => absurd e (by decide)⟩
 · rw [if_neg hmany]
   obtain ⟨r, s11, hsr, b1, b2, b3, b4, b5, b6⟩ := step_get ((splice_ok (envT_ok true) hn.inv (hR.le hn.le) hj L hL4 hL (at_ := at_) (n := n) (by omega) (by omega) (by omega) hput (by omega)).1 (by omega)) (by omega) (by omega)
   have hsr' : tSplice tRead tWrite root at_ n (eBytes l) put s1 = .ok r s11 := hsr
   have hcap := Keeps.ok (tSplice_keeps sameCap_goes tRead_cap tWrite_cap root at_ n (eBytes l) put) hsr'
   have hrest : M.bind (tParted tRead tWrite 30 whole PL.2) (fun p => M.bind (tParted tRead tWrite 30 p.2 (PR.2 - PL.2)) fun q => M.bind (tLeaves tWrite (join (PL.1 ++ put ++ PR.1))) fun m => M.bind (tPut tRead tWrite p.1 m) fun x => M.bind (tPut tRead tWrite x q.2) fun y => M.pure y.kid.page) s6 = .ok r s11 := by
    have hh := hsr'
    unfold tSplice at hh
    have i1 := bind_go hh e1
    have i2 := bind_go i1 e2
    have i3 := bind_go i2 e3
    have i4 := bind_go i3 e4
    have i5 := bind_go i4 e5
    rw [if_neg (by rw [p6]; omega)] at i5
    exact i5
   obtain ⟨p, s7, f1, j1⟩ := bind_out hrest
   obtain ⟨q, s8, f2, j2⟩ := bind_out j1
   obtain ⟨m, s9, f3, j3⟩ := bind_out j2
   obtain ⟨x, s10, f4, j4⟩ := bind_out j3
   obtain ⟨y, s11', f5, j5⟩ := bind_out j4
   cases j5
   refine (splice_main h s root at_ n put v B F w hE hs hl hm' _ s1 hz (by omega) (by omega) (by omega) (by omega) hbg (fun e1 e2 => hno ⟨e1, e2⟩) PL PR whole r1 r0 s2 s3 s4 s5 s6 HA (.ok y.kid.page s11) (fun hq => absurd hq (by rw [p6]; omega)) (fun _ => ⟨p, q, m, x, y, s7, s8, s9, s10, s11, ⟨f1, f2, f3, f4, f5⟩, rfl⟩)).mono fun e w' hx => ?_
   exact ⟨_, s11, hx.1, hx.2, (hn.trans ⟨b1, b2, b3, b4, b5, hcap⟩).more (by omega) (by omega), fun _ => b6, fun e => absurd rfl e, fun _ e1 e2 => absurd ⟨e1, e2⟩ hno⟩
end Go.Proofs.YtfhbmblbidcmmaaGreat
