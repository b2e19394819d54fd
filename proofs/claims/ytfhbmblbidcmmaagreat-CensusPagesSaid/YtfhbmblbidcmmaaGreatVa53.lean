/-
  Of all versions the pages that are told are just those of their trees in the file in the form of the document, and a root that is none is refused. No condition. (part 53)
-/
import Derived.Test.YtfhbmblbidcmmaaGreatVa52
import Derived.Test.YtfhbmblbidcmmaaGreatVa37
set_option linter.unusedSimpArgs false
set_option linter.unusedVariables false
namespace Go.Tr
theorem cutE_may {x : Ent} (h : mayEnt x = true) {a n : Int} (h0 : 0 ≤ a) (h1 : 1 ≤ n) (h2 : a + n ≤ x.len) : mayEnt (cutE x a n) = true := by
 rw [mayE_iff] at h ⊢
 unfold cutE
 simp only
 refine ⟨h.1, by omega, by omega, by omega, by omega, by omega, ?_, ?_⟩
 · split <;> omega
 · rcases h.2.2.2.2.2.2.2 with h3 | h3
   · exact .inl h3
   · right
     rw [if_neg (by omega)]
theorem first_may : ∀ (l : List Ent) (n : Int), (∀ x ∈ l, mayEnt x = true) → (∀ x ∈ (first l n).1, mayEnt x = true) ∧ (∀ x ∈ (first l n).2, mayEnt x = true)
 | [], n, _ => by simp [first]
 | x :: l, n, hm => by
   have ih := first_may l (n - x.len) fun y hy => hm y (List.mem_cons_of_mem _ hy)
   have hx := hm x List.mem_cons_self
   rw [first_cons]
   split
   · exact ⟨fun y hy => by rcases List.mem_cons.1 hy with rfl | hy; exact hx; exact ih.1 y hy, ih.2⟩
   split
   · exact ⟨ih.1, fun y hy => by rcases List.mem_cons.1 hy with rfl | hy; exact hx; exact ih.2 y hy⟩
   · exact ⟨fun y hy => by rcases List.mem_cons.1 hy with rfl | hy; exact cutE_may hx (by omega) (by omega) (by omega); exact ih.1 y hy, fun y hy => by rcases List.mem_cons.1 hy with rfl | hy; exact cutE_may hx (by omega) (by omega) (by omega); exact ih.2 y hy⟩
theorem first_sum : ∀ (l : List Ent) (n : Int), eBytes (first l n).1 + eBytes (first l n).2 = eBytes l
 | [], n => by simp [first, eBytes]
 | x :: l, n => by
   have ih := first_sum l (n - x.len)
   rw [first_cons, eBytes_cons]
   split
   · simp only [eBytes_cons]; omega
   split
   · simp only [eBytes_cons]; omega
   · simp only [eBytes_cons]; unfold cutE; simp only; omega
theorem first_bytes (l : List Ent) (n : Int) (hm : ∀ x ∈ l, mayEnt x = true) (h0 : 0 ≤ n) (h1 : n ≤ eBytes l) : eBytes (first l n).1 = n := by
 induction l generalizing n with
 | nil => simp [eBytes] at h1; simp [first, eBytes]; omega
 | cons x l ih =>
   have hx := mayE_iff.1 (hm x List.mem_cons_self)
   rw [eBytes_cons] at h1
   rw [first_cons]
   split
   · rename_i h2
     rw [eBytes_cons, ih (n - x.len) (fun y hy => hm y (List.mem_cons_of_mem _ hy)) (by omega) (by omega)]
     omega
   · rename_i h2
     have hno := first_none l (n - x.len) (by omega) fun y hy => hm y (List.mem_cons_of_mem _ hy)
     split
     · simp only [hno]
       simp [eBytes]
       omega
     · simp only [hno]
       unfold cutE
       simp [eBytes]
theorem splice_out {l put : List Ent} {at_ n : Int} (hm : ∀ x ∈ l, mayEnt x = true) (hp : ∀ x ∈ put, mayEnt x = true) (h0 : 0 ≤ at_) (hn : 0 ≤ n) (h1 : at_ + n ≤ eBytes l) :
 (∀ x ∈ (first l at_).1 ++ put ++ (first (first l at_).2 n).2, mayEnt x = true) ∧ eBytes ((first l at_).1 ++ put ++ (first (first l at_).2 n).2) = eBytes l - n + eBytes put := by
 have m1 := first_may l at_ hm
 have m2 := first_may (first l at_).2 n m1.2
 have s1 := first_sum l at_
 have s2 := first_sum (first l at_).2 n
 have b1 := first_bytes l at_ hm h0 (by omega)
 have b2 := first_bytes (first l at_).2 n m1.2 hn (by omega)
 refine ⟨fun x hx => ?_, ?_⟩
 · rcases List.mem_append.1 hx with hx | hx
   · rcases List.mem_append.1 hx with hx | hx
     · exact m1.1 x hx
     · exact hp x hx
   · exact m2.2 x hx
 · rw [eBytes_append, eBytes_append]
   omega
end Go.Tr
namespace Go.Proofs.YtfhbmblbidcmmaaGreat
open Go.Tr
def GoodL (l : List Ent) : Prop := Fit l ∧ Joined l
theorem good_join {l : List Ent} (h : ∀ x ∈ l, mayEnt x = true) (hb : eBytes l ≤ 1048576) (hl : ¬ 1024 < (join l).length) : GoodL (join l) := ⟨⟨join_may h hb, by rw [eBytes_join]; exact hb, by omega⟩, joined_join l⟩
theorem buildR_good {l : List Ent} (h : (buildR l).1 = 0) : GoodL (buildR l).2 := by
 unfold buildR at h ⊢
 by_cases hm : mayList l = false
 · rw [if_pos hm] at h; cases h
 · rw [if_neg hm] at h ⊢
   by_cases hj : 1024 < (join l).length
   · rw [if_pos hj] at h; cases h
   · rw [if_neg hj]
     obtain ⟨h1, h2⟩ := mayList_parts (by simpa using hm)
     exact good_join h1 h2 hj
theorem spliceR_good {l put : List Ent} {at_ n : Int} (hl : GoodL l) (h : (spliceR l at_ n put).1 = 0) : GoodL (spliceR l at_ n put).2 := by
 unfold spliceR at h ⊢
 by_cases hm : mayList put = false
 · rw [if_pos hm] at h; cases h
 rw [if_neg hm] at h ⊢
 by_cases hc : at_ < 0 ∨ n < 0 ∨ eBytes l < at_ ∨ eBytes l - at_ < n
 · rw [if_pos hc] at h; cases h
 rw [if_neg hc] at h ⊢
 by_cases hb : 1048576 < eBytes l - n + eBytes put
 · rw [if_pos hb] at h; cases h
 rw [if_neg hb] at h ⊢
 by_cases hz : n = 0 ∧ put = []
 · rw [if_pos hz]; exact hl
 rw [if_neg hz] at h ⊢
 by_cases hj : 1024 < (spliceL l at_ n put).length
 · rw [if_pos hj] at h; cases h
 rw [if_neg hj]
 obtain ⟨h1, h2⟩ := mayList_parts (by simpa using hm : mayList put = true)
 obtain ⟨o1, o2⟩ := splice_out (n := n) (at_ := at_) hl.1.1 h1 (by omega) (by omega) (by omega)
 exact good_join o1 (by omega) hj
end Go.Proofs.YtfhbmblbidcmmaaGreat
namespace Go.Proofs.YtfhbmblbidcmmaaGreat
set_option linter.unusedSimpArgs false
set_option linter.unusedVariables false
open Go.RowKit Go.Sl Go.Dk Go.Tr
attribute [local go_sem ↓] Go.wp_at_zero Go.wp_at_succ
attribute [local go_sem] Go.Sl.cell_sat Go.Sl.frozen_sat
end Go.Proofs.YtfhbmblbidcmmaaGreat
namespace Go.Proofs.YtfhbmblbidcmmaaGreat
set_option linter.unusedSimpArgs false
set_option linter.unusedVariables false
open Go.RowKit Go.Sl Go.Dk Go.Tr
attribute [local go_sem ↓] Go.wp_at_zero Go.wp_at_succ
attribute [local go_sem] Go.Sl.cell_sat Go.Sl.frozen_sat
end Go.Proofs.YtfhbmblbidcmmaaGreat
namespace Go.Proofs.YtfhbmblbidcmmaaGreat
set_option linter.unusedSimpArgs false
set_option linter.unusedVariables false
open Go.RowKit Go.Sl Go.Dk Go.Tr
attribute [local go_sem ↓] Go.wp_at_zero Go.wp_at_succ
attribute [local go_sem] Go.Sl.cell_sat Go.Sl.frozen_sat
def ListCode (B0 B F : Assn) (r : Int × List Ent) (e : Ending) (w' : World) : Prop := ∃ (a : Option Addr) (c : Nat) (G : Assn), e = .returned (.tuple #[.slice a r.2.length c, .int .i64 r.1]) ∧ ReadsE (G * B0) (.slice a r.2.length c) r.2 ∧ Sat (G * (B * F)) w'
theorem listCode_nil {B0 B F : Assn} {n : Int} {w : World} (hs : Sat (B * F) w) : ListCode B0 B F (n, []) (.returned (.tuple #[.slice none 0 0, .int .i64 n])) w := ⟨none, 0, 1, rfl, ReadsR.nil 4 _, by rw [one_sep]; exact hs⟩
set_option maxRecDepth 100000 in
set_option maxHeartbeats 1600000 in
theorem rbuild_any (l : List Ent) (v : Value) (B F : Assn) (w : World) (hE : ReadsE B v l) (hs : Sat (B * F) w) (hl : l.length ≤ 65536) :
 Calls Tryz.prog 114 #[v] w (ListCode B B F (buildR l)) := by
 have hmy := fun F w h => rmay_any l v B F w hE h hl
 unfold buildR
 by_cases hm : mayList l = false
 · rw [if_pos hm]
   rw [hm] at hmy
   go_enter Tryz.func114, Tryz.ntmps114
   go_wp2_with fail
   refine (hmy _ _ hs).mono ?_
   rintro e w1 ⟨rfl, q1⟩
   go_wp2
   go_ret2
   exact listCode_nil q1
 · rw [if_neg hm]
   have hm' : mayList l = true := by simpa using hm
   rw [hm'] at hmy
   obtain ⟨h1, h2⟩ := mayList_parts hm'
   have hjn := fun F w h => rjoin_any l v B F w hE h (by omega) h1 (by omega)
   by_cases hj : 1024 < (join l).length
   · rw [if_pos hj]
     obtain ⟨n, hn⟩ : ∃ n, (join l).length = n := ⟨_, rfl⟩
     rw [hn] at hj hjn
     have hj2 : (1024 : Int) < n := by omega
     clear h1 h2 hn
     go_enter Tryz.func114, Tryz.ntmps114
     go_wp2_with fail
     refine (hmy _ _ hs).mono ?_
     rintro e w1 ⟨rfl, q1⟩
     clear hs
     go_wp2_with fail
     refine (hjn _ _ q1).mono ?_
     rintro e w2 ⟨a, c, rfl, q2⟩
     clear q1
     go_wp2
     go_ret2
     exact listCode_nil q2.right
   · rw [if_neg hj]
     obtain ⟨R, hR⟩ : ∃ R, join l = R := ⟨_, rfl⟩
     rw [hR] at hj hjn ⊢
     obtain ⟨n, hn⟩ : ∃ n, R.length = n := ⟨_, rfl⟩
     have HN : Aside (R.length = n) := hn
     rw [hn] at hj hjn
     have hj2 : ¬ (1024 : Int) < n := by omega
     clear h1 h2 hn hR
     go_enter Tryz.func114, Tryz.ntmps114
     go_wp2_with fail
     refine (hmy _ _ hs).mono ?_
     rintro e w1 ⟨rfl, q1⟩
     clear hs
     go_wp2_with fail
     refine (hjn _ _ q1).mono ?_
     rintro e w2 ⟨a, c, rfl, q2⟩
     clear q1
     go_wp2
     go_ret2
     refine ⟨a, c, _, by rw [HN.out]; rfl, ReadsR.left (readsE_rw (by simp only; rw [HN.out]; exact q2) rfl), ?_⟩
     simp only
     rw [HN.out]
     exact q2
theorem src_rw {a : Option Addr} {c : Nat} (l : List Ent) (n : Nat) (hn : l.length = n) : ∀ (F : Assn) (w : World), Sat (rw TEn 4 (.slice a n c) (ecs l) * F) w → Src Tryz.prog 4 w (.slice a n c) n (ecs l) := fun F w h => by
 subst hn
 exact ReadsR.src (readsE_rw h rfl) (ecs_one l) h
set_option maxRecDepth 100000 in
set_option maxHeartbeats 3200000 in
theorem rsplice_any (l put : List Ent) (at_ n : Int) (v vp : Value) (B0 B F : Assn) (w : World) (hE0 : ReadsE B0 v l) (hE : ReadsE B v l) (hP : ReadsE B vp put) (hs : Sat (B * F) w) (hg : GoodL l) (hpl : put.length ≤ 1000) :
 Calls Tryz.prog 40 #[v, .int .i64 at_, .int .i64 n, vp] w (ListCode B0 B F (spliceR l at_ n put)) := by
 obtain ⟨⟨hgm, hgb, hgl⟩, hgj⟩ := hg
 have hmy := fun F w h => rmay_any put vp B F w hP h (by omega)
 have hsz := fun F w h => rsize_any l v B F w hE h (by omega) fun x hx => by have := mayE_bounds (hgm x hx); omega
 unfold spliceR
 by_cases hm : mayList put = false
 · rw [if_pos hm]
   rw [hm] at hmy
   go_enter Tryz.func40, Tryz.ntmps40
   go_wp2_with fail
   refine (hmy _ _ hs).mono ?_
   rintro e w1 ⟨rfl, q1⟩
   go_wp2
   go_ret2
   exact listCode_nil q1
 rw [if_neg hm]
 have hm' : mayList put = true := by simpa using hm
 rw [hm'] at hmy
 obtain ⟨hpm, hpb⟩ := mayList_parts hm'
 have hsp := fun F w h => rsize_any put vp B F w hP h (by omega) fun x hx => by have := mayE_bounds (hpm x hx); omega
 have hp0 := (okE_len (o := put) fun y hy => (OkE.of (hpm y hy)).1).1
 have hz0 := (okE_len (o := l) fun y hy => (OkE.of (hgm y hy)).1).1
 by_cases hc : at_ < 0 ∨ n < 0 ∨ eBytes l < at_ ∨ eBytes l - at_ < n
 · rw [if_pos hc]
   obtain ⟨z, hz⟩ : ∃ z, eBytes l = z := ⟨_, rfl⟩
   rw [hz] at hc hsz hz0 hgb
   by_cases c1 : at_ < 0
   · go_enter Tryz.func40, Tryz.ntmps40
     go_wp2_with fail
     refine (hmy _ _ hs).mono ?_
     rintro e w1 ⟨rfl, q1⟩
     go_wp2_with fail
     refine (hsz _ _ q1).mono ?_
     rintro e w2 ⟨rfl, q2⟩
     go_wp2
     go_ret2
     exact listCode_nil q2
   by_cases c2 : n < 0
   · go_enter Tryz.func40, Tryz.ntmps40
     go_wp2_with fail
     refine (hmy _ _ hs).mono ?_
     rintro e w1 ⟨rfl, q1⟩
     go_wp2_with fail
     refine (hsz _ _ q1).mono ?_
     rintro e w2 ⟨rfl, q2⟩
     go_wp2
     go_ret2
     exact listCode_nil q2
   by_cases c3 : z < at_
   · go_enter Tryz.func40, Tryz.ntmps40
     go_wp2_with fail
     refine (hmy _ _ hs).mono ?_
     rintro e w1 ⟨rfl, q1⟩
     go_wp2_with fail
     refine (hsz _ _ q1).mono ?_
     rintro e w2 ⟨rfl, q2⟩
     go_wp2
     go_ret2
     exact listCode_nil q2
   have c4 : z - at_ < n := by omega
   have hw : IntKind.i64.wrap (z - at_) = z - at_ := IntWalk.i64_in _ (by omega)
   go_enter Tryz.func40, Tryz.ntmps40
   go_wp2_with fail
   refine (hmy _ _ hs).mono ?_
   rintro e w1 ⟨rfl, q1⟩
   go_wp2_with fail
   refine (hsz _ _ q1).mono ?_
   rintro e w2 ⟨rfl, q2⟩
   go_wp2
   go_ret2
   exact listCode_nil q2
 rw [if_neg hc]
 have c1 : 0 ≤ at_ := by omega
 have c2 : 0 ≤ n := by omega
 have c3 : at_ ≤ eBytes l := by omega
 have c4 : n ≤ eBytes l - at_ := by omega
 obtain ⟨hO1, hO2⟩ := splice_out (n := n) (at_ := at_) hgm hpm c1 c2 (by omega)
 have HO : Aside ((∀ x ∈ (first l at_).1 ++ put ++ (first (first l at_).2 n).2, mayEnt x = true) ∧ eBytes ((first l at_).1 ++ put ++ (first (first l at_).2 n).2) ≤ 1099511627776) := ⟨hO1, by rw [hO2]; omega⟩
 have HM : Aside ((∀ x ∈ l, mayEnt x = true) ∧ (∀ x ∈ (first l at_).2, mayEnt x = true)) := ⟨hgm, (first_may l at_ hgm).2⟩
 have HFL : Aside ((first l at_).1.length ≤ 1024 ∧ (first l at_).2.length ≤ 1024 ∧ (first (first l at_).2 n).1.length ≤ 1024 ∧ (first (first l at_).2 n).2.length ≤ 1024) := by
  have h1 := first_len l at_
  have h2 := first_len (first l at_).2 n
  exact ⟨by omega, by omega, by omega, by omega⟩
 unfold spliceL
 obtain ⟨z, hz⟩ : ∃ z, eBytes l = z := ⟨_, rfl⟩
 obtain ⟨pz, hpz⟩ : ∃ z, eBytes put = z := ⟨_, rfl⟩
 rw [hz] at hsz hz0 hgb c3 c4 ⊢
 rw [hpz] at hsp hp0 hpb ⊢
 have hw1 : IntKind.i64.wrap (z - at_) = z - at_ := IntWalk.i64_in _ (by omega)
 have hw2 : IntKind.i64.wrap (z - n) = z - n := IntWalk.i64_in _ (by omega)
 have hw3 : IntKind.i64.wrap (z - n + pz) = z - n + pz := IntWalk.i64_in _ (by omega)
 have d1 : ¬ at_ < 0 := by omega
 have d2 : ¬ n < 0 := by omega
 have d3 : ¬ z < at_ := by omega
 have d4 : ¬ z - at_ < n := by omega
 clear hc hO1 hO2 hz hpz hgj hm hm' hgm hpm
 by_cases hb : 1048576 < z - n + pz
 · rw [if_pos hb]
   go_enter Tryz.func40, Tryz.ntmps40
   go_wp2_with fail
   refine (hmy _ _ hs).mono ?_
   rintro e w1 ⟨rfl, q1⟩
   go_wp2_with fail
   refine (hsz _ _ q1).mono ?_
   rintro e w2 ⟨rfl, q2⟩
   go_wp2_with fail
   refine (hsp _ _ q2).mono ?_
   rintro e w3 ⟨rfl, q3⟩
   go_wp2
   go_ret2
   exact listCode_nil q3
 rw [if_neg hb]
 obtain ⟨ap, cp, rfl, hp1, hp2⟩ := hP.v
 obtain ⟨np, hnp⟩ : ∃ k, put.length = k := ⟨_, rfl⟩
 by_cases hzz : n = 0 ∧ put = []
 · rw [if_pos hzz]
   obtain ⟨rfl, hpe⟩ := hzz
   obtain rfl : np = 0 := by rw [← hnp, hpe]; rfl
   rw [hnp] at hmy hsp ⊢
   obtain ⟨al, cl, rfl, hl1, hl2⟩ := hE.v
   have HE : Aside (ReadsE B0 (.slice al l.length cl) l) := hE0
   clear hE0 hE hP HO HM HFL
   go_enter Tryz.func40, Tryz.ntmps40
   go_wp2_with fail
   refine (hmy _ _ hs).mono ?_
   rintro e w1 ⟨rfl, q1⟩
   go_wp2_with fail
   refine (hsz _ _ q1).mono ?_
   rintro e w2 ⟨rfl, q2⟩
   go_wp2_with fail
   refine (hsp _ _ q2).mono ?_
   rintro e w3 ⟨rfl, q3⟩
   go_wp2
   go_ret2
   exact ⟨al, cl, 1, rfl, ReadsR.right HE.out, by rw [one_sep]; exact q3⟩
 rw [if_neg hzz]
 obtain ⟨i0, E⟩ := elemEn
 have SP : Aside (∀ (F : Assn) (w : World), Sat (B * F) w → Src Tryz.prog 4 w (.slice ap np cp) np (ecs put)) := fun F w h => by
  rw [← hnp]
  exact ReadsR.src hP (ecs_one put) h
 obtain ⟨L, hL⟩ : ∃ x, (first l at_).1 = x := ⟨_, rfl⟩
 obtain ⟨R, hR⟩ : ∃ x, (first l at_).2 = x := ⟨_, rfl⟩
 obtain ⟨M, hM⟩ : ∃ x, (first R n).1 = x := ⟨_, rfl⟩
 obtain ⟨K, hK⟩ : ∃ x, (first R n).2 = x := ⟨_, rfl⟩
 have hf1 := fun F w h => rfirst_any l at_ v B F w hE h (by omega) HM.out.1 (by omega) (by omega)
 have hf2 := fun a c F w (h : Sat (rw TEn 4 (.slice a R.length c) (ecs R) * F) w) => rfirst_any R n _ _ F w (readsE_rw h rfl) h (by have := HFL.out.2.1; rw [hR] at this; omega) (by have := HM.out.2; rw [hR] at this; exact this) (by omega) (by omega)
 rw [hL, hR] at hf1
 rw [hM, hK] at hf2
 rw [hL, hR, hK] at HO
 rw [hL, hR, hM, hK] at HFL
 rw [hL, hR, hK]
 obtain ⟨nL, hnL⟩ : ∃ k, L.length = k := ⟨_, rfl⟩
 obtain ⟨nR, hnR⟩ : ∃ k, R.length = k := ⟨_, rfl⟩
 obtain ⟨nM, hnM⟩ : ∃ k, M.length = k := ⟨_, rfl⟩
 obtain ⟨nK, hnK⟩ : ∃ k, K.length = k := ⟨_, rfl⟩
 have SL : Aside (∀ (a : Option Addr) (c : Nat) (F : Assn) (w : World), Sat (rw TEn 4 (.slice a nL c) (ecs L) * F) w → Src Tryz.prog 4 w (.slice a nL c) nL (ecs L)) := fun a c => src_rw L nL hnL
 have SK : Aside (∀ (a : Option Addr) (c : Nat) (F : Assn) (w : World), Sat (rw TEn 4 (.slice a nK c) (ecs K) * F) w → Src Tryz.prog 4 w (.slice a nK c) nK (ecs K)) := fun a c => src_rw K nK hnK
 have hjn := fun a c F w (h : Sat (rw TEn 4 (.slice a (nL + np + nK) c) (ecs L ++ ecs put ++ ecs K) * F) w) => rjoin_any (L ++ put ++ K) (.slice a (nL + np + nK) c) (rw TEn 4 (.slice a (nL + np + nK) c) (ecs L ++ ecs put ++ ecs K)) F w
  (by
    have e1 : ecs (L ++ put ++ K) = ecs L ++ ecs put ++ ecs K := by simp [ecs]
    have e2 : (L ++ put ++ K).length = nL + np + nK := by rw [List.length_append, List.length_append, hnL, hnp, hnK]
    rw [← e1] at h ⊢
    exact readsE_rw h e2.symm) h (by have := HFL.out; rw [List.length_append, List.length_append]; omega) HO.out.1 HO.out.2
 rw [hnL, hnR] at hf1
 rw [hnR] at hf2
 rw [hnM, hnK] at hf2
 have hFL := HFL.out
 rw [hnL, hnR, hnM, hnK] at hFL
 have hnpl : np ≤ 1000 := by omega
 obtain ⟨J, hJ⟩ : ∃ x, join (L ++ put ++ K) = x := ⟨_, rfl⟩
 rw [hJ] at hjn ⊢
 obtain ⟨nJ, hnJ⟩ : ∃ k, J.length = k := ⟨_, rfl⟩
 have HNJ : Aside (J.length = nJ) := hnJ
 obtain ⟨RR, hRR⟩ : ∃ r : Int × List Ent, (if 1024 < J.length then (11, []) else (0, J)) = r := ⟨_, rfl⟩
 rw [hRR]
 have HRR : Aside ((if 1024 < J.length then ((11 : Int), ([] : List Ent)) else (0, J)) = RR) := hRR
 clear hRR
 rw [hnJ] at hjn
 rw [hnp] at hmy hsp hp1 ⊢
 have HOR : Aside (n ≠ 0 ∨ np ≠ 0) := by
  rcases Classical.em (n = 0) with h1 | h1
  · right
    intro h2
    exact hzz ⟨h1, List.length_eq_zero_iff.1 (by rw [hnp, h2])⟩
  · exact .inl h1
 clear hzz hL hR hM hK hnL hnR hnM hnK hnp hnJ hJ HFL HO HM hE0 hE hP hpl hgl
 obtain ⟨xL, hxL⟩ : ∃ x, ecs L = x := ⟨_, rfl⟩
 obtain ⟨xP, hxP⟩ : ∃ x, ecs put = x := ⟨_, rfl⟩
 obtain ⟨xK, hxK⟩ : ∃ x, ecs K = x := ⟨_, rfl⟩
 rw [hxL] at hf1 SL hjn
 rw [hxP] at SP hjn
 rw [hxK] at hf2 SK hjn
 clear hxL hxP hxK
 go_enter Tryz.func40, Tryz.ntmps40
 go_wp2_with fail
 refine (hmy _ _ hs).mono ?_
 rintro e w1 ⟨rfl, q1⟩
 go_wp2_with fail
 refine (hsz _ _ q1).mono ?_
 rintro e w2 ⟨rfl, q2⟩
 go_wp2_with fail
 refine (hsp _ _ q2).mono ?_
 rintro e w3 ⟨rfl, q3⟩
 clear hs q1 q2
 rcases HOR.out with hz | hz
 · have hz1 : (n == 0) = false := by simp [hz]
   go_wp2_with fail
   refine (hf1 _ _ q3).mono ?_
   rintro e w4 ⟨a1, c1', a2, c2', rfl, q4⟩
   haveI := q4.i
   clear q3 hf1 hmy hsz hsp
   go_wp2_with fail
   refine (hf2 a2 c2' _ _ (takeI (rw TEn 4 (.slice a2 nR c2') (ecs R)))).mono ?_
   rintro e w5 ⟨a3, c3', a4, c4', rfl, q5⟩
   haveI := q5.i
   clear q4 hf2
   go_wp2_with (first
    | (at_builtin; refine wpl_append_same E rfl (.tmp 66) (.tmp 67) rfl rfl rfl (Sat.rw_nil (e := TEn) (s := 4) satI) (SL.out _ _ _ _ (takeI (rw TEn 4 (.slice a1 nL c1') xL))) (by unfold maxLen; omega) (by omega) ?_; intro a6 c6 w6 q6 z6; clear z6; rw [List.nil_append] at q6; rw [Nat.zero_add] at q6 ⊢; haveI := q6.i)
    | (at_builtin; refine wpl_append_same E rfl (.tmp 69) (.tmp 70) rfl rfl rfl (takeI (rw TEn 4 (.slice a6 nL c6) xL)) (SP.out _ _ (takeI B)) (by unfold maxLen; omega) (by omega) ?_; intro a7 c7 w7 q7 z7; clear z7; haveI := q7.i)
    | (at_builtin; refine wpl_append_same E rfl (.tmp 72) (.tmp 73) rfl rfl rfl (takeI (rw TEn 4 (.slice a7 (nL + np) c7) (xL ++ xP))) (SK.out _ _ _ _ (takeI (rw TEn 4 (.slice a4 nK c4') xK))) (by unfold maxLen; omega) (by omega) ?_; intro a8 c8 w8 q8 z8; clear z8; haveI := q8.i))
   refine (hjn a8 c8 _ _ q8).mono ?_
   rintro e w9 ⟨a9, c9, rfl, q9⟩
   haveI := q9.i
   clear q8
   by_cases hj : 1024 < nJ
   · have hj2 : (1024 : Int) < nJ := by omega
     have hj3 : 1024 < J.length := by rw [HNJ.out]; exact hj
     go_wp2
     go_ret2
     rw [← HRR.out, if_pos hj3]
     exact listCode_nil (keep2 B F)
   · have hj2 : ¬ (1024 : Int) < nJ := by omega
     have hj3 : ¬ 1024 < J.length := by rw [HNJ.out]; exact hj
     go_wp2
     go_ret2
     rw [← HRR.out, if_neg hj3]
     have q10 : Sat (rw TEn 4 (.slice a9 nJ c9) (ecs J) * (B * F)) w9 := keep3 _ B F
     refine ⟨a9, c9, rw TEn 4 (.slice a9 nJ c9) (ecs J), by simp only; rw [HNJ.out]; rfl, ReadsR.left ?_, q10⟩
     have := readsE_rw q10 HNJ.out.symm
     unfold ReadsE at this
     rw [HNJ.out] at this
     simp only
     rw [HNJ.out]
     exact this
 · have hz1 : (np == 0) = false := by simp [hz]
   have hz2 : ((np : Int) == 0) = false := by simp [hz]
   by_cases hn0 : n = 0
   · subst hn0
     go_wp2_with fail
     refine (hf1 _ _ q3).mono ?_
     rintro e w4 ⟨a1, c1', a2, c2', rfl, q4⟩
     haveI := q4.i
     clear q3 hf1 hmy hsz hsp
     go_wp2_with fail
     refine (hf2 a2 c2' _ _ (takeI (rw TEn 4 (.slice a2 nR c2') (ecs R)))).mono ?_
     rintro e w5 ⟨a3, c3', a4, c4', rfl, q5⟩
     haveI := q5.i
     clear q4 hf2
     go_wp2_with (first
      | (at_builtin; refine wpl_append_same E rfl (.tmp 66) (.tmp 67) rfl rfl rfl (Sat.rw_nil (e := TEn) (s := 4) satI) (SL.out _ _ _ _ (takeI (rw TEn 4 (.slice a1 nL c1') xL))) (by unfold maxLen; omega) (by omega) ?_; intro a6 c6 w6 q6 z6; clear z6; rw [List.nil_append] at q6; rw [Nat.zero_add] at q6 ⊢; haveI := q6.i)
      | (at_builtin; refine wpl_append_same E rfl (.tmp 69) (.tmp 70) rfl rfl rfl (takeI (rw TEn 4 (.slice a6 nL c6) xL)) (SP.out _ _ (takeI B)) (by unfold maxLen; omega) (by omega) ?_; intro a7 c7 w7 q7 z7; clear z7; haveI := q7.i)
      | (at_builtin; refine wpl_append_same E rfl (.tmp 72) (.tmp 73) rfl rfl rfl (takeI (rw TEn 4 (.slice a7 (nL + np) c7) (xL ++ xP))) (SK.out _ _ _ _ (takeI (rw TEn 4 (.slice a4 nK c4') xK))) (by unfold maxLen; omega) (by omega) ?_; intro a8 c8 w8 q8 z8; clear z8; haveI := q8.i))
     refine (hjn a8 c8 _ _ q8).mono ?_
     rintro e w9 ⟨a9, c9, rfl, q9⟩
     haveI := q9.i
     clear q8
     by_cases hj : 1024 < nJ
     · have hj2 : (1024 : Int) < nJ := by omega
       have hj3 : 1024 < J.length := by rw [HNJ.out]; exact hj
       go_wp2
       go_ret2
       rw [← HRR.out, if_pos hj3]
       exact listCode_nil (keep2 B F)
     · have hj2 : ¬ (1024 : Int) < nJ := by omega
       have hj3 : ¬ 1024 < J.length := by rw [HNJ.out]; exact hj
       go_wp2
       go_ret2
       rw [← HRR.out, if_neg hj3]
       have q10 : Sat (rw TEn 4 (.slice a9 nJ c9) (ecs J) * (B * F)) w9 := keep3 _ B F
       refine ⟨a9, c9, rw TEn 4 (.slice a9 nJ c9) (ecs J), by simp only; rw [HNJ.out]; rfl, ReadsR.left ?_, q10⟩
       have := readsE_rw q10 HNJ.out.symm
       unfold ReadsE at this
       rw [HNJ.out] at this
       simp only
       rw [HNJ.out]
       exact this
   · have hz3 : (n == 0) = false := by simp [hn0]
     go_wp2_with fail
     refine (hf1 _ _ q3).mono ?_
     rintro e w4 ⟨a1, c1', a2, c2', rfl, q4⟩
     haveI := q4.i
     clear q3 hf1 hmy hsz hsp
     go_wp2_with fail
     refine (hf2 a2 c2' _ _ (takeI (rw TEn 4 (.slice a2 nR c2') (ecs R)))).mono ?_
     rintro e w5 ⟨a3, c3', a4, c4', rfl, q5⟩
     haveI := q5.i
     clear q4 hf2
     go_wp2_with (first
      | (at_builtin; refine wpl_append_same E rfl (.tmp 66) (.tmp 67) rfl rfl rfl (Sat.rw_nil (e := TEn) (s := 4) satI) (SL.out _ _ _ _ (takeI (rw TEn 4 (.slice a1 nL c1') xL))) (by unfold maxLen; omega) (by omega) ?_; intro a6 c6 w6 q6 z6; clear z6; rw [List.nil_append] at q6; rw [Nat.zero_add] at q6 ⊢; haveI := q6.i)
      | (at_builtin; refine wpl_append_same E rfl (.tmp 69) (.tmp 70) rfl rfl rfl (takeI (rw TEn 4 (.slice a6 nL c6) xL)) (SP.out _ _ (takeI B)) (by unfold maxLen; omega) (by omega) ?_; intro a7 c7 w7 q7 z7; clear z7; haveI := q7.i)
      | (at_builtin; refine wpl_append_same E rfl (.tmp 72) (.tmp 73) rfl rfl rfl (takeI (rw TEn 4 (.slice a7 (nL + np) c7) (xL ++ xP))) (SK.out _ _ _ _ (takeI (rw TEn 4 (.slice a4 nK c4') xK))) (by unfold maxLen; omega) (by omega) ?_; intro a8 c8 w8 q8 z8; clear z8; haveI := q8.i))
     refine (hjn a8 c8 _ _ q8).mono ?_
     rintro e w9 ⟨a9, c9, rfl, q9⟩
     haveI := q9.i
     clear q8
     by_cases hj : 1024 < nJ
     · have hj2 : (1024 : Int) < nJ := by omega
       have hj3 : 1024 < J.length := by rw [HNJ.out]; exact hj
       go_wp2
       go_ret2
       rw [← HRR.out, if_pos hj3]
       exact listCode_nil (keep2 B F)
     · have hj2 : ¬ (1024 : Int) < nJ := by omega
       have hj3 : ¬ 1024 < J.length := by rw [HNJ.out]; exact hj
       go_wp2
       go_ret2
       rw [← HRR.out, if_neg hj3]
       have q10 : Sat (rw TEn 4 (.slice a9 nJ c9) (ecs J) * (B * F)) w9 := keep3 _ B F
       refine ⟨a9, c9, rw TEn 4 (.slice a9 nJ c9) (ecs J), by simp only; rw [HNJ.out]; rfl, ReadsR.left ?_, q10⟩
       have := readsE_rw q10 HNJ.out.symm
       unfold ReadsE at this
       rw [HNJ.out] at this
       simp only
       rw [HNJ.out]
       exact this
end Go.Proofs.YtfhbmblbidcmmaaGreat

