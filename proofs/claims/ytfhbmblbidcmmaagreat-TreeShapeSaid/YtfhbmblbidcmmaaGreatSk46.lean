/-
  Of all roots that are made the pages are a tree in the form of the document, and just these are told, and each is in use. No condition. (part 46)
-/
import Derived.Test.YtfhbmblbidcmmaaGreatSk45
import Derived.Test.YtfhbmblbidcmmaaGreatSk44
import Derived.Test.YtfhbmblbidcmmaaGreatSk19
import Derived.Test.YtfhbmblbidcmmaaGreatSk36
import Derived.Test.YtfhbmblbidcmmaaGreatSk11
import Derived.Deep.RegionHeld3
set_option linter.unusedSimpArgs false
set_option linter.unusedVariables false
namespace Go.Tr
theorem cutE_may {x : Ent} (h : mayEnt x = true) {a n : Int} (h0 : 0 ≤ a) (h1 : 1 ≤ n) (h2 : a + n ≤ x.len) : mayEnt (cutE x a n) = true := by
 rw [mayE_iff] at h ⊢
 unfold cutE
 simp only
 refine ⟨h.1, by omega, by omega, by omega, by omega, by omega, ?_, ?_⟩
 · split <;> omega
 · rcases h.2.2.2.2.2.2.2 with h3 | h3
   · exact .inl h3
   · right
     rw [if_neg (by omega)]
theorem first_may : ∀ (l : List Ent) (n : Int), (∀ x ∈ l, mayEnt x = true) → (∀ x ∈ (first l n).1, mayEnt x = true) ∧ (∀ x ∈ (first l n).2, mayEnt x = true)
 | [], n, _ => by simp [first]
 | x :: l, n, hm => by
   have ih := first_may l (n - x.len) fun y hy => hm y (List.mem_cons_of_mem _ hy)
   have hx := hm x List.mem_cons_self
   rw [first_cons]
   split
   · exact ⟨fun y hy => by rcases List.mem_cons.1 hy with rfl | hy; exact hx; exact ih.1 y hy, ih.2⟩
   split
   · exact ⟨ih.1, fun y hy => by rcases List.mem_cons.1 hy with rfl | hy; exact hx; exact ih.2 y hy⟩
   · exact ⟨fun y hy => by rcases List.mem_cons.1 hy with rfl | hy; exact cutE_may hx (by omega) (by omega) (by omega); exact ih.1 y hy, fun y hy => by rcases List.mem_cons.1 hy with rfl | hy; exact cutE_may hx (by omega) (by omega) (by omega); exact ih.2 y hy⟩
theorem first_sum : ∀ (l : List Ent) (n : Int), eBytes (first l n).1 + eBytes (first l n).2 = eBytes l
 | [], n => by simp [first, eBytes]
 | x :: l, n => by
   have ih := first_sum l (n - x.len)
   rw [first_cons, eBytes_cons]
   split
   · simp only [eBytes_cons]; omega
   split
   · simp only [eBytes_cons]; omega
   · simp only [eBytes_cons]; unfold cutE; simp only; omega
theorem first_bytes (l : List Ent) (n : Int) (hm : ∀ x ∈ l, mayEnt x = true) (h0 : 0 ≤ n) (h1 : n ≤ eBytes l) : eBytes (first l n).1 = n := by
 induction l generalizing n with
 | nil => simp [eBytes] at h1; simp [first, eBytes]; omega
 | cons x l ih =>
   have hx := mayE_iff.1 (hm x List.mem_cons_self)
   rw [eBytes_cons] at h1
   rw [first_cons]
   split
   · rename_i h2
     rw [eBytes_cons, ih (n - x.len) (fun y hy => hm y (List.mem_cons_of_mem _ hy)) (by omega) (by omega)]
     omega
   · rename_i h2
     have hno := first_none l (n - x.len) (by omega) fun y hy => hm y (List.mem_cons_of_mem _ hy)
     split
     · simp only [hno]
       simp [eBytes]
       omega
     · simp only [hno]
       unfold cutE
       simp [eBytes]
theorem splice_out {l put : List Ent} {at_ n : Int} (hm : ∀ x ∈ l, mayEnt x = true) (hp : ∀ x ∈ put, mayEnt x = true) (h0 : 0 ≤ at_) (hn : 0 ≤ n) (h1 : at_ + n ≤ eBytes l) :
 (∀ x ∈ (first l at_).1 ++ put ++ (first (first l at_).2 n).2, mayEnt x = true) ∧ eBytes ((first l at_).1 ++ put ++ (first (first l at_).2 n).2) = eBytes l - n + eBytes put := by
 have m1 := first_may l at_ hm
 have m2 := first_may (first l at_).2 n m1.2
 have s1 := first_sum l at_
 have s2 := first_sum (first l at_).2 n
 have b1 := first_bytes l at_ hm h0 (by omega)
 have b2 := first_bytes (first l at_).2 n m1.2 hn (by omega)
 refine ⟨fun x hx => ?_, ?_⟩
 · rcases List.mem_append.1 hx with hx | hx
   · rcases List.mem_append.1 hx with hx | hx
     · exact m1.1 x hx
     · exact hp x hx
   · exact m2.2 x hx
 · rw [eBytes_append, eBytes_append]
   omega
end Go.Tr
namespace Go.Proofs.YtfhbmblbidcmmaaGreat
open Go.Tr
def GoodL (l : List Ent) : Prop := Fit l ∧ Joined l
theorem good_nil : GoodL [] := ⟨⟨by simp, by simp [eBytes], by simp⟩, trivial⟩
theorem good_join {l : List Ent} (h : ∀ x ∈ l, mayEnt x = true) (hb : eBytes l ≤ 1048576) (hl : ¬ 1024 < (join l).length) : GoodL (join l) := ⟨⟨join_may h hb, by rw [eBytes_join]; exact hb, by omega⟩, joined_join l⟩
theorem buildR_good {l : List Ent} (h : (buildR l).1 = 0) : GoodL (buildR l).2 := by
 unfold buildR at h ⊢
 by_cases hm : mayList l = false
 · rw [if_pos hm] at h; cases h
 · rw [if_neg hm] at h ⊢
   by_cases hj : 1024 < (join l).length
   · rw [if_pos hj] at h; cases h
   · rw [if_neg hj]
     obtain ⟨h1, h2⟩ := mayList_parts (by simpa using hm)
     exact good_join h1 h2 hj
theorem spliceR_good {l put : List Ent} {at_ n : Int} (hl : GoodL l) (h : (spliceR l at_ n put).1 = 0) : GoodL (spliceR l at_ n put).2 := by
 unfold spliceR at h ⊢
 by_cases hm : mayList put = false
 · rw [if_pos hm] at h; cases h
 rw [if_neg hm] at h ⊢
 by_cases hc : at_ < 0 ∨ n < 0 ∨ eBytes l < at_ ∨ eBytes l - at_ < n
 · rw [if_pos hc] at h; cases h
 rw [if_neg hc] at h ⊢
 by_cases hb : 1048576 < eBytes l - n + eBytes put
 · rw [if_pos hb] at h; cases h
 rw [if_neg hb] at h ⊢
 by_cases hz : n = 0 ∧ put = []
 · rw [if_pos hz]; exact hl
 rw [if_neg hz] at h ⊢
 by_cases hj : 1024 < (spliceL l at_ n put).length
 · rw [if_pos hj] at h; cases h
 rw [if_neg hj]
 obtain ⟨h1, h2⟩ := mayList_parts (by simpa using hm : mayList put = true)
 obtain ⟨o1, o2⟩ := splice_out (n := n) (at_ := at_) hl.1.1 h1 (by omega) (by omega) (by omega)
 exact good_join o1 (by omega) hj
end Go.Proofs.YtfhbmblbidcmmaaGreat
namespace Go.Proofs.YtfhbmblbidcmmaaGreat
set_option linter.unusedSimpArgs false
set_option linter.unusedVariables false
open Go.RowKit Go.Sl Go.Dk Go.Tr
attribute [local go_sem ↓] Go.wp_at_zero Go.wp_at_succ
attribute [local go_sem] Go.Sl.cell_sat Go.Sl.frozen_sat
set_option maxRecDepth 100000 in
set_option maxHeartbeats 3200000 in
theorem rsame_any (la lb : List Ent) (va vb : Value) (B F : Assn) (w : World) (hA : ReadsE B va la) (hB : ReadsE B vb lb) (hs : Sat (B * F) w) (hl : la.length ≤ 65536) (hl' : lb.length ≤ 65536) :
 Calls Tryz.prog 45 #[va, vb] w fun e w' => e = .returned (.bool (decide (la = lb))) ∧ Sat (B * F) w' := by
 obtain ⟨a0, c0, rfl, hA1, hA2⟩ := hA.v
 obtain ⟨a1, c1, rfl, hB1, hB2⟩ := hB.v
 have HA : Aside (ReadsE B (.slice a0 la.length c0) la) := hA
 have HB : Aside (ReadsE B (.slice a1 lb.length c1) lb) := hB
 obtain ⟨na, hna⟩ : ∃ nl, la.length = nl := ⟨_, rfl⟩
 obtain ⟨nb, hnb⟩ : ∃ nl, lb.length = nl := ⟨_, rfl⟩
 have HN : Aside (la.length = na ∧ lb.length = nb) := ⟨hna, hnb⟩
 obtain ⟨r, hr⟩ : ∃ r, decide (la = lb) = r := ⟨_, rfl⟩
 have HR : Aside (decide (la = lb) = r) := hr
 rw [hna] at hl hA1
 rw [hnb] at hl' hB1
 rw [hna, hnb, hr]
 haveI := hs.i
 clear hA hB hna hnb hr
 by_cases hne : na = nb
 · subst hne
   have b1 : ((na : Int) != (na : Int)) = false := by simp
   go_enter Tryz.func45, Tryz.ntmps45
   go_wp2
   go_loopg [5] na (fun g t5 wr => ∃ (j : Nat), t5 = .int .i64 j ∧ j ≤ na ∧ Aside (g = na - j ∧ la.take j = lb.take j) ∧ Sat (B * F) wr)
   case atStart => exact ⟨0, rfl, by omega, ⟨rfl, by simp⟩, hs⟩
   case round =>
    obtain ⟨j, rfl, hj, J, hsr⟩ := hrel
    clear hs this
    haveI := hsr.i
    by_cases hlj : j < na
    · have hlj' : (j : Int) < na := by omega
      obtain ⟨y, hy⟩ : ∃ y, la[j]? = some y := ⟨_, List.getElem?_eq_getElem (by have := HN.out; omega)⟩
      obtain ⟨z, hz⟩ : ∃ y, lb[j]? = some y := ⟨_, List.getElem?_eq_getElem (by have := HN.out; omega)⟩
      obtain ⟨b, q, rfl, r1, r2, r3, r4⟩ := readsE_at HA.out hy
      obtain ⟨b', q', rfl, s1, s2, s3, s4⟩ := readsE_at HB.out hz
      have HY : Aside (la[j]? = some y ∧ lb[j]? = some z) := ⟨hy, hz⟩
      clear hy hz
      by_cases hyz : y = z
      · have HE : Aside (la.take (j + 1) = lb.take (j + 1)) := (by rw [take_snoc' HY.out.1, take_snoc' HY.out.2, J.out.2, hyz] : _ = _)
        subst hyz
        obtain ⟨y1, y2, y3, y4⟩ := y
        simp only at r1 r2 r3 r4 s1 s2 s3 s4
        go_wp2_with fail
        go_region
        go_wp2
        go_roundg (na - (j + 1))
        case measure => have := J.out.1; omega
        case rel => exact ⟨j + 1, by go_num, by omega, ⟨rfl, HE.out⟩, keep2 _ _⟩
      · have HF : Aside (r = false) := by
         rw [← HR.out]
         apply decide_eq_false
         intro e
         rw [e, HY.out.2] at HY
         exact hyz (Option.some.inj HY.out.1).symm
        obtain ⟨y1, y2, y3, y4⟩ := y
        obtain ⟨z1, z2, z3, z4⟩ := z
        simp only at r1 r2 r3 r4 s1 s2 s3 s4
        have hd : ¬ (y1 = z1 ∧ y2 = z2 ∧ y3 = z3 ∧ y4 = z4) := by simpa using hyz
        clear hyz HR HY
        by_cases e1 : ¬ y1 = z1
        · clear hd
          go_wp2_with fail
          go_region
          go_wp2
          go_ret
          exact ⟨by rw [HF.out]; rfl, keep2 B F⟩
        have e1 := Classical.not_not.1 e1
        subst e1
        by_cases e2 : ¬ y2 = z2
        · clear hd
          go_wp2_with fail
          go_region
          go_wp2
          go_ret
          exact ⟨by rw [HF.out]; rfl, keep2 B F⟩
        have e2 := Classical.not_not.1 e2
        subst e2
        by_cases e3 : ¬ y3 = z3
        · clear hd
          go_wp2_with fail
          go_region
          go_wp2
          go_ret
          exact ⟨by rw [HF.out]; rfl, keep2 B F⟩
        have e3 := Classical.not_not.1 e3
        subst e3
        by_cases e4 : y4 = z4
        · exact absurd ⟨rfl, rfl, rfl, e4⟩ hd
        · clear hd
          go_wp2_with fail
          go_region
          go_wp2
          go_ret
          exact ⟨by rw [HF.out]; rfl, keep2 B F⟩
    · have hlj' : ¬ (j : Int) < na := by omega
      have HF : Aside (r = true) := by
       rw [← HR.out]
       apply decide_eq_true
       have h := J.out.2
       rwa [List.take_of_length_le (by rw [HN.out.1]; omega), List.take_of_length_le (by rw [HN.out.2]; omega)] at h
      go_wp2
      go_ret
      exact ⟨by rw [HF.out]; rfl, keep2 B F⟩
 · have HF : Aside (r = false) := by
    rw [← HR.out]
    apply decide_eq_false
    intro e
    apply hne
    rw [← HN.out.1, ← HN.out.2, e]
   have b1 : ((na : Int) != (nb : Int)) = true := by simp; omega
   have b2 : ((na : Int) == (nb : Int)) = false := by simp; omega
   go_enter Tryz.func45, Tryz.ntmps45
   go_wp2
   go_ret
   exact ⟨by rw [HF.out]; rfl, keep2 B F⟩
end Go.Proofs.YtfhbmblbidcmmaaGreat
namespace Go.Proofs.YtfhbmblbidcmmaaGreat
set_option linter.unusedSimpArgs false
set_option linter.unusedVariables false
open Go.RowKit Go.Sl Go.Dk Go.Tr
attribute [local go_sem ↓] Go.wp_at_zero Go.wp_at_succ
attribute [local go_sem] Go.Sl.cell_sat Go.Sl.frozen_sat
def lentA (g c : Nat) (l : List Ent) : Assn := rw TEn 4 (.slice (some ⟨g, 0, none⟩) (l.length + 1) c) (ecs (l ++ [⟨0, 0, 0, 77⟩]))
theorem ReadsR.front {s : Nat} {B : Assn} {a : Option Addr} {n m c : Nat} {cs ds : List Value} (h : ReadsR s B (.slice a m c) m (cs ++ ds)) (hn : cs.length = n * s) (hm : n ≤ m) : ReadsR s B (.slice a n c) n cs := by
 obtain ⟨_, a', c', e, h2, h3, h4⟩ := h
 cases e
 exact ⟨hn, a, c, rfl, by omega, h3, fun j u hj => h4 j u (by rw [List.getElem?_append_left (List.getElem?_eq_some_iff.1 hj).1]; exact hj)⟩
theorem lent_reads {g c : Nat} {l : List Ent} {F : Assn} {w : World} (hs : Sat (lentA g c l * F) w) : ReadsE (lentA g c l) (.slice (some ⟨g, 0, none⟩) l.length c) l ∧ l.length + 1 ≤ c := by
 unfold lentA at hs ⊢
 have h := readsE_rw hs (by simp)
 have e3 : (l ++ [(⟨0, 0, 0, 77⟩ : Ent)]).length = l.length + 1 := by simp
 unfold ReadsE at h
 rw [e3] at h
 obtain ⟨a', c', e, h2, h3⟩ := h.v
 cases e
 have e2 : ecs (l ++ [⟨0, 0, 0, 77⟩]) = ecs l ++ erow ⟨0, 0, 0, 77⟩ := ecs_last _ _
 refine ⟨?_, by simpa using h2⟩
 have h5 : ReadsR 4 (rw TEn 4 (.slice (some ⟨g, 0, none⟩) (l.length + 1) c) (ecs (l ++ [⟨0, 0, 0, 77⟩]))) (.slice (some ⟨g, 0, none⟩) (l.length + 1) c) (l.length + 1) (ecs l ++ erow ⟨0, 0, 0, 77⟩) := by
  rw [← e2]
  exact h
 exact ReadsR.front h5 (ecs_len l) (by omega)
set_option maxRecDepth 100000 in
set_option maxHeartbeats 1600000 in
theorem lent_any (l : List Ent) (v : Value) (B F : Assn) (w : World) (hE : ReadsE B v l) (hs : Sat (B * F) w) (hl : l.length ≤ 65536) :
 Calls Tryz.prog 113 #[v] w fun e w' => ∃ g c, e = .returned (.slice (some ⟨g, 0, none⟩) l.length c) ∧ Sat (lentA g c l * (B * F)) w' := by
 obtain ⟨i0, E⟩ := elemEn
 have SE : Aside (∀ (F : Assn) (w : World), Sat (B * F) w → Src Tryz.prog 4 w v l.length (ecs l)) := fun F w h => ReadsR.src hE (ecs_one l) h
 obtain ⟨a0, c0, rfl, hE1, hE2⟩ := hE.v
 unfold lentA
 rw [ecs_last]
 unfold erow
 obtain ⟨n, hn⟩ : ∃ n, l.length = n := ⟨_, rfl⟩
 obtain ⟨xs, hxs⟩ : ∃ xs, ecs l = xs := ⟨_, rfl⟩
 rw [hn] at hl hE1 SE ⊢
 rw [hxs] at SE ⊢
 haveI := hs.i
 clear hE hn hxs
 go_enter Tryz.func113, Tryz.ntmps113
 go_wp2_with (first
  | (at_builtin; refine wpl_append_same E rfl (.tmp 4) (.tmp 5) rfl rfl rfl (Sat.rw_nil (e := TEn) (s := 4) satI) (SE.out _ _ (takeI B)) (by unfold maxLen; omega) (by omega) ?_; intro a1 c1 w1 q1 z1; clear z1; rw [List.nil_append] at q1; rw [Nat.zero_add] at q1 ⊢; haveI := q1.i)
  | (at_builtin; refine wpl_append_same E rfl (.tmp 7) (.tmp 9) rfl rfl rfl (takeI (rw TEn 4 (.slice a1 n c1) xs)) (Src.new (b := w1.heap.size) (e := TEn) (s := 4) (vs := [.int .i64 0, .int .i64 0, .int .i64 0, .int .i64 77]) (takeI _) rfl (by intro u hu; simp at hu; rcases hu with rfl | rfl | rfl | rfl <;> rfl)) (by unfold maxLen; omega) (by omega) ?_; intro a2 c2 w2 q2 z2; clear z2; obtain ⟨g, rfl⟩ := row_some q2 (by omega); have hc := rw_max q2; haveI := q2.i))
 go_ret
 exact ⟨g, c2, rfl, keep3 _ B F⟩
set_option maxRecDepth 100000 in
set_option maxHeartbeats 1600000 in
theorem kept_any (l : List Ent) (g c : Nat) (v : Value) (B F : Assn) (w : World) (hE : ReadsE B v l) (hs : Sat (lentA g c l * (B * F)) w) (hl : l.length ≤ 65536) :
 Calls Tryz.prog 115 #[.slice (some ⟨g, 0, none⟩) l.length c, v] w fun e w' => e = .returned (.bool true) ∧ Sat (lentA g c l * (B * F)) w' := by
 obtain ⟨hg, hc⟩ := lent_reads hs
 have hsm := fun F w h => rsame_any l l _ _ (lentA g c l * B) F w (ReadsR.left hg) (ReadsR.right hE) h hl hl
 rw [decide_eq_true rfl] at hsm
 obtain ⟨a0, c0, rfl, hE1, hE2⟩ := hE.v
 have hs2 : Sat ((lentA g c l * B) * F) w := hs.eq (by ac_rfl)
 have hu : ∀ w1 : World, Sat ((lentA g c l * B) * F) w1 → w1.cell? ⟨g, l.length * 4 + 3, none⟩ = some (.int .i64 77) ∧ Sat (lentA g c l * (B * F)) w1 := fun w1 h => by
  have h2 : Sat (lentA g c l * (B * F)) w1 := h.eq (by ac_rfl)
  refine ⟨?_, h2⟩
  unfold lentA at h2
  haveI := h2.i
  have t3 := ecs_at l ⟨0, 0, 0, 77⟩ l.length rfl 3 _ rfl
  haveI : At (ecs (l ++ [⟨0, 0, 0, 77⟩])) (l.length * 4 + 3) (.int .i64 77) := ⟨t3⟩
  exact cell_sat _ _ _
 have HU : Aside (∀ w1 : World, Sat ((lentA g c l * B) * F) w1 → w1.cell? ⟨g, l.length * 4 + 3, none⟩ = some (.int .i64 77) ∧ Sat (lentA g c l * (B * F)) w1) := hu
 obtain ⟨n, hn⟩ : ∃ n, l.length = n := ⟨_, rfl⟩
 rw [hn] at hsm hc hl HU ⊢
 have hc2 : (n : Int) < c := by omega
 have hc3 : n + 1 ≤ c := by omega
 have hc4 : (n : Int) + 1 ≤ c := by omega
 have hw : IntKind.i64.wrap ((n : Int) + 1) = (n : Int) + 1 := IntWalk.i64_in _ (by omega)
 have hn1 : (n : Int) < (n : Int) + 1 := by omega
 have hn2 : (0 : Int) ≤ (n : Int) := by omega
 clear hE hg hu hn
 go_enter Tryz.func115, Tryz.ntmps115
 go_wp2_with fail
 refine (hsm _ _ hs2).mono ?_
 rintro e w1 ⟨rfl, q1⟩
 obtain ⟨h77, q2⟩ := HU.out _ q1
 clear hsm hs hs2 q1
 go_wp2
 go_ret
 exact ⟨rfl, q2⟩
end Go.Proofs.YtfhbmblbidcmmaaGreat
namespace Go.Proofs.YtfhbmblbidcmmaaGreat
set_option linter.unusedSimpArgs false
set_option linter.unusedVariables false
open Go.RowKit Go.Sl Go.Dk Go.Tr
attribute [local go_sem ↓] Go.wp_at_zero Go.wp_at_succ
attribute [local go_sem] Go.Sl.cell_sat Go.Sl.frozen_sat
def ListCode (B0 B F : Assn) (r : Int × List Ent) (e : Ending) (w' : World) : Prop := ∃ (a : Option Addr) (c : Nat) (G : Assn), e = .returned (.tuple #[.slice a r.2.length c, .int .i64 r.1]) ∧ ReadsE (G * B0) (.slice a r.2.length c) r.2 ∧ Sat (G * (B * F)) w'
theorem listCode_nil {B0 B F : Assn} {n : Int} {w : World} (hs : Sat (B * F) w) : ListCode B0 B F (n, []) (.returned (.tuple #[.slice none 0 0, .int .i64 n])) w := ⟨none, 0, 1, rfl, ReadsR.nil 4 _, by rw [one_sep]; exact hs⟩
set_option maxRecDepth 100000 in
set_option maxHeartbeats 1600000 in
theorem rbuild_any (l : List Ent) (v : Value) (B F : Assn) (w : World) (hE : ReadsE B v l) (hs : Sat (B * F) w) (hl : l.length ≤ 65536) :
 Calls Tryz.prog 114 #[v] w (ListCode B B F (buildR l)) := by
 have hmy := fun F w h => rmay_any l v B F w hE h hl
 unfold buildR
 by_cases hm : mayList l = false
 · rw [if_pos hm]
   rw [hm] at hmy
   go_enter Tryz.func114, Tryz.ntmps114
   go_wp2_with fail
   refine (hmy _ _ hs).mono ?_
   rintro e w1 ⟨rfl, q1⟩
   go_wp2
   go_ret2
   exact listCode_nil q1
 · rw [if_neg hm]
   have hm' : mayList l = true := by simpa using hm
   rw [hm'] at hmy
   obtain ⟨h1, h2⟩ := mayList_parts hm'
   have hjn := fun F w h => rjoin_any l v B F w hE h (by omega) h1 (by omega)
   by_cases hj : 1024 < (join l).length
   · rw [if_pos hj]
     obtain ⟨n, hn⟩ : ∃ n, (join l).length = n := ⟨_, rfl⟩
     rw [hn] at hj hjn
     have hj2 : (1024 : Int) < n := by omega
     clear h1 h2 hn
     go_enter Tryz.func114, Tryz.ntmps114
     go_wp2_with fail
     refine (hmy _ _ hs).mono ?_
     rintro e w1 ⟨rfl, q1⟩
     clear hs
     go_wp2_with fail
     refine (hjn _ _ q1).mono ?_
     rintro e w2 ⟨a, c, rfl, q2⟩
     clear q1
     go_wp2
     go_ret2
     exact listCode_nil q2.right
   · rw [if_neg hj]
     obtain ⟨R, hR⟩ : ∃ R, join l = R := ⟨_, rfl⟩
     rw [hR] at hj hjn ⊢
     obtain ⟨n, hn⟩ : ∃ n, R.length = n := ⟨_, rfl⟩
     have HN : Aside (R.length = n) := hn
     rw [hn] at hj hjn
     have hj2 : ¬ (1024 : Int) < n := by omega
     clear h1 h2 hn hR
     go_enter Tryz.func114, Tryz.ntmps114
     go_wp2_with fail
     refine (hmy _ _ hs).mono ?_
     rintro e w1 ⟨rfl, q1⟩
     clear hs
     go_wp2_with fail
     refine (hjn _ _ q1).mono ?_
     rintro e w2 ⟨a, c, rfl, q2⟩
     clear q1
     go_wp2
     go_ret2
     refine ⟨a, c, _, by rw [HN.out]; rfl, ReadsR.left (readsE_rw (by simp only; rw [HN.out]; exact q2) rfl), ?_⟩
     simp only
     rw [HN.out]
     exact q2
theorem src_rw {a : Option Addr} {c : Nat} (l : List Ent) (n : Nat) (hn : l.length = n) : ∀ (F : Assn) (w : World), Sat (rw TEn 4 (.slice a n c) (ecs l) * F) w → Src Tryz.prog 4 w (.slice a n c) n (ecs l) := fun F w h => by
 subst hn
 exact ReadsR.src (readsE_rw h rfl) (ecs_one l) h
set_option maxRecDepth 100000 in
set_option maxHeartbeats 3200000 in
theorem rsplice_any (l put : List Ent) (at_ n : Int) (v vp : Value) (B0 B F : Assn) (w : World) (hE0 : ReadsE B0 v l) (hE : ReadsE B v l) (hP : ReadsE B vp put) (hs : Sat (B * F) w) (hg : GoodL l) (hpl : put.length ≤ 1000) :
 Calls Tryz.prog 40 #[v, .int .i64 at_, .int .i64 n, vp] w (ListCode B0 B F (spliceR l at_ n put)) := by
 obtain ⟨⟨hgm, hgb, hgl⟩, hgj⟩ := hg
 have hmy := fun F w h => rmay_any put vp B F w hP h (by omega)
 have hsz := fun F w h => rsize_any l v B F w hE h (by omega) fun x hx => by have := mayE_bounds (hgm x hx); omega
 unfold spliceR
 by_cases hm : mayList put = false
 · rw [if_pos hm]
   rw [hm] at hmy
   go_enter Tryz.func40, Tryz.ntmps40
   go_wp2_with fail
   refine (hmy _ _ hs).mono ?_
   rintro e w1 ⟨rfl, q1⟩
   go_wp2
   go_ret2
   exact listCode_nil q1
 rw [if_neg hm]
 have hm' : mayList put = true := by simpa using hm
 rw [hm'] at hmy
 obtain ⟨hpm, hpb⟩ := mayList_parts hm'
 have hsp := fun F w h => rsize_any put vp B F w hP h (by omega) fun x hx => by have := mayE_bounds (hpm x hx); omega
 have hp0 := (okE_len (o := put) fun y hy => (OkE.of (hpm y hy)).1).1
 have hz0 := (okE_len (o := l) fun y hy => (OkE.of (hgm y hy)).1).1
 by_cases hc : at_ < 0 ∨ n < 0 ∨ eBytes l < at_ ∨ eBytes l - at_ < n
 · rw [if_pos hc]
   obtain ⟨z, hz⟩ : ∃ z, eBytes l = z := ⟨_, rfl⟩
   rw [hz] at hc hsz hz0 hgb
   by_cases c1 : at_ < 0
   · go_enter Tryz.func40, Tryz.ntmps40
     go_wp2_with fail
     refine (hmy _ _ hs).mono ?_
     rintro e w1 ⟨rfl, q1⟩
     go_wp2_with fail
     refine (hsz _ _ q1).mono ?_
     rintro e w2 ⟨rfl, q2⟩
     go_wp2
     go_ret2
     exact listCode_nil q2
   by_cases c2 : n < 0
   · go_enter Tryz.func40, Tryz.ntmps40
     go_wp2_with fail
     refine (hmy _ _ hs).mono ?_
     rintro e w1 ⟨rfl, q1⟩
     go_wp2_with fail
     refine (hsz _ _ q1).mono ?_
     rintro e w2 ⟨rfl, q2⟩
     go_wp2
     go_ret2
     exact listCode_nil q2
   by_cases c3 : z < at_
   · go_enter Tryz.func40, Tryz.ntmps40
     go_wp2_with fail
     refine (hmy _ _ hs).mono ?_
     rintro e w1 ⟨rfl, q1⟩
     go_wp2_with fail
     refine (hsz _ _ q1).mono ?_
     rintro e w2 ⟨rfl, q2⟩
     go_wp2
     go_ret2
     exact listCode_nil q2
   have c4 : z - at_ < n := by omega
   have hw : IntKind.i64.wrap (z - at_) = z - at_ := IntWalk.i64_in _ (by omega)
   go_enter Tryz.func40, Tryz.ntmps40
   go_wp2_with fail
   refine (hmy _ _ hs).mono ?_
   rintro e w1 ⟨rfl, q1⟩
   go_wp2_with fail
   refine (hsz _ _ q1).mono ?_
   rintro e w2 ⟨rfl, q2⟩
   go_wp2
   go_ret2
   exact listCode_nil q2
 rw [if_neg hc]
 have c1 : 0 ≤ at_ := by omega
 have c2 : 0 ≤ n := by omega
 have c3 : at_ ≤ eBytes l := by omega
 have c4 : n ≤ eBytes l - at_ := by omega
 obtain ⟨hO1, hO2⟩ := splice_out (n := n) (at_ := at_) hgm hpm c1 c2 (by omega)
 have HO : Aside ((∀ x ∈ (first l at_).1 ++ put ++ (first (first l at_).2 n).2, mayEnt x = true) ∧ eBytes ((first l at_).1 ++ put ++ (first (first l at_).2 n).2) ≤ 1099511627776) := ⟨hO1, by rw [hO2]; omega⟩
 have HM : Aside ((∀ x ∈ l, mayEnt x = true) ∧ (∀ x ∈ (first l at_).2, mayEnt x = true)) := ⟨hgm, (first_may l at_ hgm).2⟩
 have HFL : Aside ((first l at_).1.length ≤ 1024 ∧ (first l at_).2.length ≤ 1024 ∧ (first (first l at_).2 n).1.length ≤ 1024 ∧ (first (first l at_).2 n).2.length ≤ 1024) := by
  have h1 := first_len l at_
  have h2 := first_len (first l at_).2 n
  exact ⟨by omega, by omega, by omega, by omega⟩
 unfold spliceL
 obtain ⟨z, hz⟩ : ∃ z, eBytes l = z := ⟨_, rfl⟩
 obtain ⟨pz, hpz⟩ : ∃ z, eBytes put = z := ⟨_, rfl⟩
 rw [hz] at hsz hz0 hgb c3 c4 ⊢
 rw [hpz] at hsp hp0 hpb ⊢
 have hw1 : IntKind.i64.wrap (z - at_) = z - at_ := IntWalk.i64_in _ (by omega)
 have hw2 : IntKind.i64.wrap (z - n) = z - n := IntWalk.i64_in _ (by omega)
 have hw3 : IntKind.i64.wrap (z - n + pz) = z - n + pz := IntWalk.i64_in _ (by omega)
 have d1 : ¬ at_ < 0 := by omega
 have d2 : ¬ n < 0 := by omega
 have d3 : ¬ z < at_ := by omega
 have d4 : ¬ z - at_ < n := by omega
 clear hc hO1 hO2 hz hpz hgj hm hm' hgm hpm
 by_cases hb : 1048576 < z - n + pz
 · rw [if_pos hb]
   go_enter Tryz.func40, Tryz.ntmps40
   go_wp2_with fail
   refine (hmy _ _ hs).mono ?_
   rintro e w1 ⟨rfl, q1⟩
   go_wp2_with fail
   refine (hsz _ _ q1).mono ?_
   rintro e w2 ⟨rfl, q2⟩
   go_wp2_with fail
   refine (hsp _ _ q2).mono ?_
   rintro e w3 ⟨rfl, q3⟩
   go_wp2
   go_ret2
   exact listCode_nil q3
 rw [if_neg hb]
 obtain ⟨ap, cp, rfl, hp1, hp2⟩ := hP.v
 obtain ⟨np, hnp⟩ : ∃ k, put.length = k := ⟨_, rfl⟩
 by_cases hzz : n = 0 ∧ put = []
 · rw [if_pos hzz]
   obtain ⟨rfl, hpe⟩ := hzz
   obtain rfl : np = 0 := by rw [← hnp, hpe]; rfl
   rw [hnp] at hmy hsp ⊢
   obtain ⟨al, cl, rfl, hl1, hl2⟩ := hE.v
   have HE : Aside (ReadsE B0 (.slice al l.length cl) l) := hE0
   clear hE0 hE hP HO HM HFL
   go_enter Tryz.func40, Tryz.ntmps40
   go_wp2_with fail
   refine (hmy _ _ hs).mono ?_
   rintro e w1 ⟨rfl, q1⟩
   go_wp2_with fail
   refine (hsz _ _ q1).mono ?_
   rintro e w2 ⟨rfl, q2⟩
   go_wp2_with fail
   refine (hsp _ _ q2).mono ?_
   rintro e w3 ⟨rfl, q3⟩
   go_wp2
   go_ret2
   exact ⟨al, cl, 1, rfl, ReadsR.right HE.out, by rw [one_sep]; exact q3⟩
 rw [if_neg hzz]
 obtain ⟨i0, E⟩ := elemEn
 have SP : Aside (∀ (F : Assn) (w : World), Sat (B * F) w → Src Tryz.prog 4 w (.slice ap np cp) np (ecs put)) := fun F w h => by
  rw [← hnp]
  exact ReadsR.src hP (ecs_one put) h
 obtain ⟨L, hL⟩ : ∃ x, (first l at_).1 = x := ⟨_, rfl⟩
 obtain ⟨R, hR⟩ : ∃ x, (first l at_).2 = x := ⟨_, rfl⟩
 obtain ⟨M, hM⟩ : ∃ x, (first R n).1 = x := ⟨_, rfl⟩
 obtain ⟨K, hK⟩ : ∃ x, (first R n).2 = x := ⟨_, rfl⟩
 have hf1 := fun F w h => rfirst_any l at_ v B F w hE h (by omega) HM.out.1 (by omega) (by omega)
 have hf2 := fun a c F w (h : Sat (rw TEn 4 (.slice a R.length c) (ecs R) * F) w) => rfirst_any R n _ _ F w (readsE_rw h rfl) h (by have := HFL.out.2.1; rw [hR] at this; omega) (by have := HM.out.2; rw [hR] at this; exact this) (by omega) (by omega)
 rw [hL, hR] at hf1
 rw [hM, hK] at hf2
 rw [hL, hR, hK] at HO
 rw [hL, hR, hM, hK] at HFL
 rw [hL, hR, hK]
 obtain ⟨nL, hnL⟩ : ∃ k, L.length = k := ⟨_, rfl⟩
 obtain ⟨nR, hnR⟩ : ∃ k, R.length = k := ⟨_, rfl⟩
 obtain ⟨nM, hnM⟩ : ∃ k, M.length = k := ⟨_, rfl⟩
 obtain ⟨nK, hnK⟩ : ∃ k, K.length = k := ⟨_, rfl⟩
 have SL : Aside (∀ (a : Option Addr) (c : Nat) (F : Assn) (w : World), Sat (rw TEn 4 (.slice a nL c) (ecs L) * F) w → Src Tryz.prog 4 w (.slice a nL c) nL (ecs L)) := fun a c => src_rw L nL hnL
 have SK : Aside (∀ (a : Option Addr) (c : Nat) (F : Assn) (w : World), Sat (rw TEn 4 (.slice a nK c) (ecs K) * F) w → Src Tryz.prog 4 w (.slice a nK c) nK (ecs K)) := fun a c => src_rw K nK hnK
 have hjn := fun a c F w (h : Sat (rw TEn 4 (.slice a (nL + np + nK) c) (ecs L ++ ecs put ++ ecs K) * F) w) => rjoin_any (L ++ put ++ K) (.slice a (nL + np + nK) c) (rw TEn 4 (.slice a (nL + np + nK) c) (ecs L ++ ecs put ++ ecs K)) F w
  (by
    have e1 : ecs (L ++ put ++ K) = ecs L ++ ecs put ++ ecs K := by simp [ecs]
    have e2 : (L ++ put ++ K).length = nL + np + nK := by rw [List.length_append, List.length_append, hnL, hnp, hnK]
    rw [← e1] at h ⊢
    exact readsE_rw h e2.symm) h (by have := HFL.out; rw [List.length_append, List.length_append]; omega) HO.out.1 HO.out.2
 rw [hnL, hnR] at hf1
 rw [hnR] at hf2
 rw [hnM, hnK] at hf2
 have hFL := HFL.out
 rw [hnL, hnR, hnM, hnK] at hFL
 have hnpl : np ≤ 1000 := by omega
 obtain ⟨J, hJ⟩ : ∃ x, join (L ++ put ++ K) = x := ⟨_, rfl⟩
 rw [hJ] at hjn ⊢
 obtain ⟨nJ, hnJ⟩ : ∃ k, J.length = k := ⟨_, rfl⟩
 have HNJ : Aside (J.length = nJ) := hnJ
 obtain ⟨RR, hRR⟩ : ∃ r : Int × List Ent, (if 1024 < J.length then (11, []) else (0, J)) = r := ⟨_, rfl⟩
 rw [hRR]
 have HRR : Aside ((if 1024 < J.length then ((11 : Int), ([] : List Ent)) else (0, J)) = RR) := hRR
 clear hRR
 rw [hnJ] at hjn
 rw [hnp] at hmy hsp hp1 ⊢
 have HOR : Aside (n ≠ 0 ∨ np ≠ 0) := by
  rcases Classical.em (n = 0) with h1 | h1
  · right
    intro h2
    exact hzz ⟨h1, List.length_eq_zero_iff.1 (by rw [hnp, h2])⟩
  · exact .inl h1
 clear hzz hL hR hM hK hnL hnR hnM hnK hnp hnJ hJ HFL HO HM hE0 hE hP hpl hgl
 obtain ⟨xL, hxL⟩ : ∃ x, ecs L = x := ⟨_, rfl⟩
 obtain ⟨xP, hxP⟩ : ∃ x, ecs put = x := ⟨_, rfl⟩
 obtain ⟨xK, hxK⟩ : ∃ x, ecs K = x := ⟨_, rfl⟩
 rw [hxL] at hf1 SL hjn
 rw [hxP] at SP hjn
 rw [hxK] at hf2 SK hjn
 clear hxL hxP hxK
 go_enter Tryz.func40, Tryz.ntmps40
 go_wp2_with fail
 refine (hmy _ _ hs).mono ?_
 rintro e w1 ⟨rfl, q1⟩
 go_wp2_with fail
 refine (hsz _ _ q1).mono ?_
 rintro e w2 ⟨rfl, q2⟩
 go_wp2_with fail
 refine (hsp _ _ q2).mono ?_
 rintro e w3 ⟨rfl, q3⟩
 clear hs q1 q2
 rcases HOR.out with hz | hz
 · have hz1 : (n == 0) = false := by simp [hz]
   go_wp2_with fail
   refine (hf1 _ _ q3).mono ?_
   rintro e w4 ⟨a1, c1', a2, c2', rfl, q4⟩
   haveI := q4.i
   clear q3 hf1 hmy hsz hsp
   go_wp2_with fail
   refine (hf2 a2 c2' _ _ (takeI (rw TEn 4 (.slice a2 nR c2') (ecs R)))).mono ?_
   rintro e w5 ⟨a3, c3', a4, c4', rfl, q5⟩
   haveI := q5.i
   clear q4 hf2
   go_wp2_with (first
    | (at_builtin; refine wpl_append_same E rfl (.tmp 66) (.tmp 67) rfl rfl rfl (Sat.rw_nil (e := TEn) (s := 4) satI) (SL.out _ _ _ _ (takeI (rw TEn 4 (.slice a1 nL c1') xL))) (by unfold maxLen; omega) (by omega) ?_; intro a6 c6 w6 q6 z6; clear z6; rw [List.nil_append] at q6; rw [Nat.zero_add] at q6 ⊢; haveI := q6.i)
    | (at_builtin; refine wpl_append_same E rfl (.tmp 69) (.tmp 70) rfl rfl rfl (takeI (rw TEn 4 (.slice a6 nL c6) xL)) (SP.out _ _ (takeI B)) (by unfold maxLen; omega) (by omega) ?_; intro a7 c7 w7 q7 z7; clear z7; haveI := q7.i)
    | (at_builtin; refine wpl_append_same E rfl (.tmp 72) (.tmp 73) rfl rfl rfl (takeI (rw TEn 4 (.slice a7 (nL + np) c7) (xL ++ xP))) (SK.out _ _ _ _ (takeI (rw TEn 4 (.slice a4 nK c4') xK))) (by unfold maxLen; omega) (by omega) ?_; intro a8 c8 w8 q8 z8; clear z8; haveI := q8.i))
   refine (hjn a8 c8 _ _ q8).mono ?_
   rintro e w9 ⟨a9, c9, rfl, q9⟩
   haveI := q9.i
   clear q8
   by_cases hj : 1024 < nJ
   · have hj2 : (1024 : Int) < nJ := by omega
     have hj3 : 1024 < J.length := by rw [HNJ.out]; exact hj
     go_wp2
     go_ret2
     rw [← HRR.out, if_pos hj3]
     exact listCode_nil (keep2 B F)
   · have hj2 : ¬ (1024 : Int) < nJ := by omega
     have hj3 : ¬ 1024 < J.length := by rw [HNJ.out]; exact hj
     go_wp2
     go_ret2
     rw [← HRR.out, if_neg hj3]
     have q10 : Sat (rw TEn 4 (.slice a9 nJ c9) (ecs J) * (B * F)) w9 := keep3 _ B F
     refine ⟨a9, c9, rw TEn 4 (.slice a9 nJ c9) (ecs J), by simp only; rw [HNJ.out]; rfl, ReadsR.left ?_, q10⟩
     have := readsE_rw q10 HNJ.out.symm
     unfold ReadsE at this
     rw [HNJ.out] at this
     simp only
     rw [HNJ.out]
     exact this
 · have hz1 : (np == 0) = false := by simp [hz]
   have hz2 : ((np : Int) == 0) = false := by simp [hz]
   by_cases hn0 : n = 0
   · subst hn0
     go_wp2_with fail
     refine (hf1 _ _ q3).mono ?_
     rintro e w4 ⟨a1, c1', a2, c2', rfl, q4⟩
     haveI := q4.i
     clear q3 hf1 hmy hsz hsp
     go_wp2_with fail
     refine (hf2 a2 c2' _ _ (takeI (rw TEn 4 (.slice a2 nR c2') (ecs R)))).mono ?_
     rintro e w5 ⟨a3, c3', a4, c4', rfl, q5⟩
     haveI := q5.i
     clear q4 hf2
     go_wp2_with (first
      | (at_builtin; refine wpl_append_same E rfl (.tmp 66) (.tmp 67) rfl rfl rfl (Sat.rw_nil (e := TEn) (s := 4) satI) (SL.out _ _ _ _ (takeI (rw TEn 4 (.slice a1 nL c1') xL))) (by unfold maxLen; omega) (by omega) ?_; intro a6 c6 w6 q6 z6; clear z6; rw [List.nil_append] at q6; rw [Nat.zero_add] at q6 ⊢; haveI := q6.i)
      | (at_builtin; refine wpl_append_same E rfl (.tmp 69) (.tmp 70) rfl rfl rfl (takeI (rw TEn 4 (.slice a6 nL c6) xL)) (SP.out _ _ (takeI B)) (by unfold maxLen; omega) (by omega) ?_; intro a7 c7 w7 q7 z7; clear z7; haveI := q7.i)
      | (at_builtin; refine wpl_append_same E rfl (.tmp 72) (.tmp 73) rfl rfl rfl (takeI (rw TEn 4 (.slice a7 (nL + np) c7) (xL ++ xP))) (SK.out _ _ _ _ (takeI (rw TEn 4 (.slice a4 nK c4') xK))) (by unfold maxLen; omega) (by omega) ?_; intro a8 c8 w8 q8 z8; clear z8; haveI := q8.i))
     refine (hjn a8 c8 _ _ q8).mono ?_
     rintro e w9 ⟨a9, c9, rfl, q9⟩
     haveI := q9.i
     clear q8
     by_cases hj : 1024 < nJ
     · have hj2 : (1024 : Int) < nJ := by omega
       have hj3 : 1024 < J.length := by rw [HNJ.out]; exact hj
       go_wp2
       go_ret2
       rw [← HRR.out, if_pos hj3]
       exact listCode_nil (keep2 B F)
     · have hj2 : ¬ (1024 : Int) < nJ := by omega
       have hj3 : ¬ 1024 < J.length := by rw [HNJ.out]; exact hj
       go_wp2
       go_ret2
       rw [← HRR.out, if_neg hj3]
       have q10 : Sat (rw TEn 4 (.slice a9 nJ c9) (ecs J) * (B * F)) w9 := keep3 _ B F
       refine ⟨a9, c9, rw TEn 4 (.slice a9 nJ c9) (ecs J), by simp only; rw [HNJ.out]; rfl, ReadsR.left ?_, q10⟩
       have := readsE_rw q10 HNJ.out.symm
       unfold ReadsE at this
       rw [HNJ.out] at this
       simp only
       rw [HNJ.out]
       exact this
   · have hz3 : (n == 0) = false := by simp [hn0]
     go_wp2_with fail
     refine (hf1 _ _ q3).mono ?_
     rintro e w4 ⟨a1, c1', a2, c2', rfl, q4⟩
     haveI := q4.i
     clear q3 hf1 hmy hsz hsp
     go_wp2_with fail
     refine (hf2 a2 c2' _ _ (takeI (rw TEn 4 (.slice a2 nR c2') (ecs R)))).mono ?_
     rintro e w5 ⟨a3, c3', a4, c4', rfl, q5⟩
     haveI := q5.i
     clear q4 hf2
     go_wp2_with (first
      | (at_builtin; refine wpl_append_same E rfl (.tmp 66) (.tmp 67) rfl rfl rfl (Sat.rw_nil (e := TEn) (s := 4) satI) (SL.out _ _ _ _ (takeI (rw TEn 4 (.slice a1 nL c1') xL))) (by unfold maxLen; omega) (by omega) ?_; intro a6 c6 w6 q6 z6; clear z6; rw [List.nil_append] at q6; rw [Nat.zero_add] at q6 ⊢; haveI := q6.i)
      | (at_builtin; refine wpl_append_same E rfl (.tmp 69) (.tmp 70) rfl rfl rfl (takeI (rw TEn 4 (.slice a6 nL c6) xL)) (SP.out _ _ (takeI B)) (by unfold maxLen; omega) (by omega) ?_; intro a7 c7 w7 q7 z7; clear z7; haveI := q7.i)
      | (at_builtin; refine wpl_append_same E rfl (.tmp 72) (.tmp 73) rfl rfl rfl (takeI (rw TEn 4 (.slice a7 (nL + np) c7) (xL ++ xP))) (SK.out _ _ _ _ (takeI (rw TEn 4 (.slice a4 nK c4') xK))) (by unfold maxLen; omega) (by omega) ?_; intro a8 c8 w8 q8 z8; clear z8; haveI := q8.i))
     refine (hjn a8 c8 _ _ q8).mono ?_
     rintro e w9 ⟨a9, c9, rfl, q9⟩
     haveI := q9.i
     clear q8
     by_cases hj : 1024 < nJ
     · have hj2 : (1024 : Int) < nJ := by omega
       have hj3 : 1024 < J.length := by rw [HNJ.out]; exact hj
       go_wp2
       go_ret2
       rw [← HRR.out, if_pos hj3]
       exact listCode_nil (keep2 B F)
     · have hj2 : ¬ (1024 : Int) < nJ := by omega
       have hj3 : ¬ 1024 < J.length := by rw [HNJ.out]; exact hj
       go_wp2
       go_ret2
       rw [← HRR.out, if_neg hj3]
       have q10 : Sat (rw TEn 4 (.slice a9 nJ c9) (ecs J) * (B * F)) w9 := keep3 _ B F
       refine ⟨a9, c9, rw TEn 4 (.slice a9 nJ c9) (ecs J), by simp only; rw [HNJ.out]; rfl, ReadsR.left ?_, q10⟩
       have := readsE_rw q10 HNJ.out.symm
       unfold ReadsE at this
       rw [HNJ.out] at this
       simp only
       rw [HNJ.out]
       exact this
end Go.Proofs.YtfhbmblbidcmmaaGreat

namespace Go.Proofs.YtfhbmblbidcmmaaGreat
set_option linter.unusedSimpArgs false
set_option linter.unusedVariables false
open Go.RowKit Go.Sl Go.Dk Go.Tr Go.ChangeShapes Go.WideShapes
theorem rowsE_map {α : Type} {f : α → List Value} : ∀ l : List (List Value), (∀ r ∈ l, ∃ c, r = f c) → ∃ cs : List α, l = cs.map f
 | [], _ => ⟨[], rfl⟩
 | r :: l, hl => by
   obtain ⟨c, rfl⟩ := hl r (by simp)
   obtain ⟨cs, rfl⟩ := rowsE_map l fun r' hr' => hl r' (by simp [hr'])
   exact ⟨c :: cs, rfl⟩
theorem four_of {r : List Value} (h : r.length = 4) : ∃ a b c d, r = [a, b, c, d] := by
 match r, h with
 | [a, b, c, d], _ => exact ⟨a, b, c, d, rfl⟩
theorem readsE_old {w : World} {a : Option Addr} {cap : Nat} {l : List Ent} (h : Rws w (.slice a l.length cap) 4 (l.map erow)) (h1 : l.length ≤ cap) (h2 : cap ≤ 9223372036854775807) : ReadsE (old w) (.slice a l.length cap) l := by
 have hl4 : (ecs l).length = l.length * 4 := flatV_len (f := erow) (fun _ => rfl) l
 refine ⟨hl4, a, cap, rfl, h1, h2, fun j u hj => ?_⟩
 have hjl : j < l.length * 4 := by
  rw [← hl4]
  exact (List.getElem?_eq_some_iff.1 hj).1
 obtain ⟨x, hx⟩ : ∃ x, l[j / 4]? = some x := ⟨_, List.getElem?_eq_getElem (by omega)⟩
 have hf := flat_at (f := erow) (s := 4) (fun _ => rfl) l (j / 4) (j % 4) x hx (by omega)
 have ej : j / 4 * 4 + j % 4 = j := by omega
 rw [ej] at hf
 obtain ⟨b, o, rfl, h6⟩ := h.at (i := j / 4) (r := erow x) (by simp [hx])
 refine ⟨b, o, rfl, ?_⟩
 have h7 := h6 (j % 4) u (hf.symm.trans hj)
 rw [Nat.add_assoc, ej] at h7
 haveI : OldAt w b (o + j) u := ⟨h7⟩
 exact inferInstance
theorem fieldE_at {H : Type} {enc : TypeId × Value → H} {w : World} {base : Nat} {spare : Nat → Bool} {held : Bool} {t fuel : Nat} {r : List Value} {x : DataW H × List MemPlace} {fs : Array Field}
 (ht : Tryz.prog.underlying t = some (.struct fs)) (h : DataW.trod enc Tryz.prog w base spare held fuel t r = some x) (i ty off c : Nat) (hf : (fs[i]?).map (fun f => (f.type, f.offset)) = some (ty, off)) (hc : Tryz.prog.cellsOf ty = c) :
 ∃ n y, DataW.trod enc Tryz.prog w base spare held n ty ((r.drop off).take c) = some y := by
 obtain ⟨_, n, h2⟩ := field_of_trod ht h
 obtain ⟨f, h3, h4⟩ := Option.map_eq_some_iff.1 hf
 obtain ⟨y, h5⟩ := h2 i f h3
 cases h4
 rw [hc] at h5
 exact ⟨n, y, h5⟩
theorem entries_in {H : Type} {enc : TypeId × Value → H} {w : World} {base : Nat} {spare : Nat → Bool} {held : Bool} {a : Option Addr} {len cap : Nat}
 (h : ∃ fuel x, DataW.trod enc Tryz.prog w base spare held fuel 29 [.slice a len cap] = some x) :
 ∃ l : List Ent, l.length = len ∧ ReadsE (old w) (.slice a len cap) l := by
 obtain ⟨fuel, x, hx⟩ := h
 have hcap : len ≤ cap ∧ cap ≤ maxLen := by
  rcases DataW.trod_slice Tryz.underlying29 hx with ⟨h0, _⟩ | ⟨a', len', cap', elems, rest, n, _, h1, _, _, h2, h3, _⟩
  · simp only [List.cons.injEq, Value.slice.injEq, and_true] at h0
    obtain ⟨_, rfl, rfl⟩ := h0
    exact ⟨Nat.le_refl _, by unfold maxLen; decide⟩
  · simp only [List.cons.injEq, Value.slice.injEq, and_true] at h1
    obtain ⟨_, rfl, rfl⟩ := h1
    exact ⟨h2, h3⟩
 have e4 : Tryz.prog.cellsOf TEn = 4 := by kernel_rfl
 have e3 : Tryz.prog.cellsOf 75 = 3 := by kernel_rfl
 have e1 : Tryz.prog.cellsOf 3 = 1 := by kernel_rfl
 obtain ⟨rs, h1, h2, h3, h4⟩ := rows_of_trod (s := 4) Tryz.underlying29 e4 (by omega) hx
 obtain ⟨l, rfl⟩ := rowsE_map (f := erow) rs (by
  intro r hr
  obtain ⟨n, y, hy⟩ := h4 r hr
  obtain ⟨hl, n', hf⟩ := field_of_trod Tryz.underlying77 hy
  obtain ⟨v0, v1, v2, v3, rfl⟩ := four_of (hl.trans e4)
  obtain ⟨_, y0, f0⟩ := fieldE_at Tryz.underlying77 hy 0 75 0 3 rfl e3
  obtain ⟨_, y1, f1⟩ := fieldE_at Tryz.underlying77 hy 1 3 3 1 rfl e1
  obtain ⟨_, y2, g0⟩ := fieldE_at Tryz.underlying75 f0 0 3 0 1 rfl e1
  obtain ⟨_, y3, g1⟩ := fieldE_at Tryz.underlying75 f0 1 3 1 1 rfl e1
  obtain ⟨_, y4, g2⟩ := fieldE_at Tryz.underlying75 f0 2 3 2 1 rfl e1
  obtain ⟨z0, rfl, _⟩ := int_of_trod Tryz.underlying3 g0
  obtain ⟨z1, rfl, _⟩ := int_of_trod Tryz.underlying3 g1
  obtain ⟨z2, rfl, _⟩ := int_of_trod Tryz.underlying3 g2
  obtain ⟨z3, rfl, _⟩ := int_of_trod Tryz.underlying3 f1
  exact ⟨⟨z0, z1, z2, z3⟩, rfl⟩)
 have hlen : l.length = len := by simpa using h2
 subst hlen
 exact ⟨l, rfl, readsE_old h1 hcap.1 hcap.2⟩
end Go.Proofs.YtfhbmblbidcmmaaGreat
namespace Go.Proofs.YtfhbmblbidcmmaaGreat
set_option linter.unusedSimpArgs false
set_option linter.unusedVariables false
open Go.RowKit Go.Sl Go.Dk Go.Tr
attribute [local go_sem ↓] Go.wp_at_zero Go.wp_at_succ
attribute [local go_sem] Go.Sl.cell_sat Go.Sl.frozen_sat
variable [TopN]
abbrev TMd : TypeId := 105
abbrev TOp : TypeId := 107
abbrev TLe : TypeId := 29
theorem elemEs : ∃ i, ElemOk Tryz.prog 103 TLe 1 24 i (.slice none 0 0) := elemOk Tryz.underlying103 (by kernel_rfl) rfl (by omega)
structure Played (s : TS) (ms : List (Int × List Ent)) (vs : List Value) (G : Assn) : Prop where
 len : vs.length = ms.length
 each : ∀ (i : Nat) (v : Value) (p : Int × List Ent), vs[i]? = some v → ms[i]? = some p → ReadsE G v p.2 ∧ Rt (nodeAt s) p.1 p.2 ∧ GoodL p.2
def rootC (ms : List (Int × List Ent)) : List Value := ms.map fun p => .int .i64 p.1
def madeA (mb : Nat) (a1 : Option Addr) (c1 : Nat) (a2 : Option Addr) (c2 n : Nat) (rs vs : List Value) : Assn :=
 Sl.block mb TMd [.slice a1 n c1, .slice a2 n c2] * (rw TIn 1 (.slice a1 n c1) rs * rw TLe 1 (.slice a2 n c2) vs)
def benchA (b : Nat) (h : Th) : Assn := Sl.block b TBe [.pointer (some ⟨h.D, 0, none⟩), .pointer (some ⟨h.C, 0, none⟩), .pointer (some ⟨h.S, 0, none⟩), .pointer (some ⟨h.t, 0, none⟩)]
theorem Played.same {s s' : TS} {ms : List (Int × List Ent)} {vs : List Value} {G : Assn} (h : Played s ms vs G) (hle : Le (nodeAt s) (nodeAt s')) : Played s' ms vs G :=
 ⟨h.len, fun i v p h1 h2 => by
   obtain ⟨k1, k2, k3⟩ := h.each i v p h1 h2
   exact ⟨k1, k2.le hle, k3⟩⟩
theorem Played.more {s s' : TS} {ms : List (Int × List Ent)} {vs : List Value} {G G' : Assn} (h : Played s ms vs G) (hle : Le (nodeAt s) (nodeAt s')) {r : Int} {l : List Ent} {v : Value} (h1 : ReadsE (G' * G) v l) (h2 : Rt (nodeAt s') r l) (h3 : GoodL l) :
 Played s' (ms ++ [(r, l)]) (vs ++ [v]) (G' * G) :=
 ⟨by rw [List.length_append, List.length_append, h.len]; rfl, fun i u p k1 k2 => by
   by_cases hi : i < ms.length
   · rw [List.getElem?_append_left (by rw [h.len]; exact hi)] at k1
     rw [List.getElem?_append_left hi] at k2
     obtain ⟨m1, m2, m3⟩ := h.each i u p k1 k2
     exact ⟨ReadsR.right m1, m2.le hle, m3⟩
   · rw [List.getElem?_append_right (by rw [h.len]; omega), h.len] at k1
     rw [List.getElem?_append_right (by omega)] at k2
     by_cases hz : i - ms.length = 0
     · rw [hz] at k1 k2
       cases k1
       cases k2
       exact ⟨h1, h2, h3⟩
     · rw [List.getElem?_eq_none (by simp; omega)] at k2
       cases k2⟩
theorem Played.at {s : TS} {ms : List (Int × List Ent)} {vs : List Value} {G : Assn} (h : Played s ms vs G) {i : Nat} (hi : i < ms.length) : ∃ v r l, vs[i]? = some v ∧ (rootC ms)[i]? = some (.int .i64 r) ∧ ReadsE G v l ∧ Rt (nodeAt s) r l ∧ GoodL l ∧ ms[i]? = some (r, l) := by
 obtain ⟨v, hv⟩ : ∃ v, vs[i]? = some v := ⟨_, List.getElem?_eq_getElem (by rw [h.len]; exact hi)⟩
 obtain ⟨⟨r, l⟩, hp⟩ : ∃ p, ms[i]? = some p := ⟨_, List.getElem?_eq_getElem hi⟩
 obtain ⟨k1, k2, k3⟩ := h.each i v _ hv hp
 exact ⟨v, r, l, hv, by unfold rootC; rw [List.getElem?_map, hp]; rfl, k1, k2, k3, hp⟩
end Go.Proofs.YtfhbmblbidcmmaaGreat
namespace Go.Proofs.YtfhbmblbidcmmaaGreat
set_option linter.unusedSimpArgs false
set_option linter.unusedVariables false
open Go.RowKit Go.Sl Go.Dk Go.Tr
attribute [local go_sem ↓] Go.wp_at_zero Go.wp_at_succ
attribute [local go_sem] Go.Sl.cell_sat Go.Sl.frozen_sat
variable [TopN]
def DoesOut (h : Th) (s : TS) (mb b m : Nat) (Bp F : Assn) (e : Ending) (w' : World) : Prop :=
 ∃ (s' : TS) (a1 : Option Addr) (c1 : Nat) (a2 : Option Addr) (c2 : Nat) (ms : List (Int × List Ent)) (vs : List Value) (G : Assn), e = .returned (.bool true) ∧
  Sat (treeP h s' * (G * (madeA mb a1 c1 a2 c2 ms.length (rootC ms) vs * (benchA b h * (Bp * F))))) w' ∧ Played s' ms vs G ∧ m ≤ ms.length ∧ ms.length ≤ m + 1 ∧ Nxt s s' 3000 2600
theorem seek_low {l l1 l2 : List Ent} {x : Ent} (hl : l = l1 ++ x :: l2) (hm : ∀ y ∈ l, mayEnt y = true) {i : Nat} (hi : i < l1.length) : eBytes (l.take (i + 1)) ≤ eBytes l1 := by
 have e : l.take (i + 1) = l1.take (i + 1) := by rw [hl, List.take_append_of_le_length (by omega)]
 rw [e]
 have h1 : eBytes l1 = eBytes (l1.take (i + 1)) + eBytes (l1.drop (i + 1)) := by rw [← eBytes_append, List.take_append_drop]
 have h2 := (okE_len (o := l1.drop (i + 1)) (fun y hy => (OkE.of (hm y (by rw [hl]; exact List.mem_append_left _ (List.mem_of_mem_drop hy)))).1)).1
 omega
set_option maxRecDepth 100000 in
set_option maxHeartbeats 6400000 in
theorem does_ask (h : Th) (s : TS) (mb b : Nat) (a1 : Option Addr) (c1 : Nat) (a2 : Option Addr) (c2 : Nat) (ms : List (Int × List Ent)) (vs : List Value) (G : Assn) (k f at_ n : Int) (put : List Ent) (v : Value) (Bp F : Assn) (w : World)
 (hk1 : k ≠ 1) (hk2 : k ≠ 2) (hk3 : k ≠ 3) (hP : Played s ms vs G) (hn0 : 0 < ms.length) (hn1 : ms.length ≤ 64) (hI : TInv true s) (hf : 10000 ≤ leftOps s) (hE : ReadsE Bp v put) (hpl : put.length ≤ 60)
 (hs : Sat (treeP h s * (G * (madeA mb a1 c1 a2 c2 ms.length (rootC ms) vs * (benchA b h * (Bp * F))))) w) :
 Calls Tryz.prog 48 #[.pointer (some ⟨mb, 0, none⟩), .pointer (some ⟨b, 0, none⟩), .agg #[.int .i64 k, .int .i64 f, .int .i64 at_, .int .i64 n, v]] w (DoesOut h s mb b ms.length Bp F) := by
 obtain ⟨nm, hnm⟩ : ∃ m, ms.length = m := ⟨_, rfl⟩
 have HNM : Aside (ms.length = nm) := hnm
 obtain ⟨j, hj, hjn⟩ : ∃ j : Nat, f % (ms.length : Int) = (j : Int) ∧ j < ms.length := ⟨(f % (ms.length : Int)).toNat, by have := Int.emod_nonneg f (show (ms.length : Int) ≠ 0 by omega); omega, by have := Int.emod_lt_of_pos f (show 0 < (ms.length : Int) by omega); omega⟩
 obtain ⟨vj, r, l, hv, hr, hle, hrt, hg, -⟩ := hP.at hjn
 obtain ⟨al, cl, rfl, hl1, hl2⟩ := hle.v
 obtain ⟨rs, hrs⟩ : ∃ x, rootC ms = x := ⟨_, rfl⟩
 have HPL : Aside (Played s ms vs G) := hP
 have HL : Aside (ReadsE G (.slice al l.length cl) l ∧ Rt (nodeAt s) r l ∧ GoodL l) := ⟨hle, hrt, hg⟩
 have HRS : Aside (rootC ms = rs) := hrs
 have HLT : Aside (∀ (F : Assn) (w : World), Sat (Bp * F) w → Calls Tryz.prog 113 #[v] w fun e w' => ∃ g c, e = .returned (.slice (some ⟨g, 0, none⟩) put.length c) ∧ Sat (lentA g c put * (Bp * F)) w') := fun F w h => lent_any put v Bp F w hE h (by omega)
 rw [hrs, hnm] at hs
 rw [hrs] at hr
 rw [hnm] at hj hjn hn0 hn1 ⊢
 haveI : At rs j (.int .i64 r) := ⟨hr⟩
 haveI : At vs j (.slice al l.length cl) := ⟨hv⟩
 have hgl := hg.1.2.2
 have hgb := hg.1.2.1
 obtain ⟨z, hz⟩ : ∃ z, eBytes l = z := ⟨_, rfl⟩
 obtain ⟨nl, hnl⟩ : ∃ z, l.length = z := ⟨_, rfl⟩
 have HZ : Aside (eBytes l = z ∧ l.length = nl) := ⟨hz, hnl⟩
 rw [hnl] at hl1 hgl
 rw [hz] at hgb
 unfold madeA benchA at hs
 have q0 : Sat (treeP h s * (G * (Sl.block mb TMd [.slice a1 nm c1, .slice a2 nm c2] * (rw TIn 1 (.slice a1 nm c1) rs * (rw TLe 1 (.slice a2 nm c2) vs * (Sl.block b TBe [.pointer (some ⟨h.D, 0, none⟩), .pointer (some ⟨h.C, 0, none⟩), .pointer (some ⟨h.S, 0, none⟩), .pointer (some ⟨h.t, 0, none⟩)] * (Bp * F))))))) w := hs.eq (by ac_rfl)
 have hjlt : (j : Int) < nm := by omega
 have hj0 : (0 : Int) ≤ j := by omega
 have e1 : (k == 1) = false := by simp [hk1]
 have e2 : (k == 2) = false := by simp [hk2]
 have e3 : (k == 3) = false := by simp [hk3]
 have hqr : ∀ g w, (Sem.run Tryz.prog (Instr.indexAt 45 (Value.slice (some ⟨g, 0, none⟩) nm c1) (Value.int IntKind.i64 j)) w) = .ok (.pointer (some ⟨g, j, none⟩)) w := by
  intro g w
  simp [go_sem, *]
 obtain ⟨g1, rfl⟩ := row_some (hs := q0.take (rw TIn 1 (.slice a1 nm c1) rs)) (by omega)
 obtain ⟨g2, rfl⟩ := row_some (hs := q0.take (rw TLe 1 (.slice a2 nm c2) vs)) (by omega)
 have HFIN : Aside (∀ (w' : World) (s' : TS), Nxt s s' 3000 2600 → Sat (treeP h s' * (G * (Sl.block mb TMd [.slice (some ⟨g1, 0, none⟩) nm c1, .slice (some ⟨g2, 0, none⟩) nm c2] * (rw TIn 1 (.slice (some ⟨g1, 0, none⟩) nm c1) rs * (rw TLe 1 (.slice (some ⟨g2, 0, none⟩) nm c2) vs * (Sl.block b TBe [.pointer (some ⟨h.D, 0, none⟩), .pointer (some ⟨h.C, 0, none⟩), .pointer (some ⟨h.S, 0, none⟩), .pointer (some ⟨h.t, 0, none⟩)] * (Bp * F))))))) w' → DoesOut h s mb b nm Bp F (.returned (.bool true)) w') := fun w' s' nx q => by
  refine ⟨s', some ⟨g1, 0, none⟩, c1, some ⟨g2, 0, none⟩, c2, ms, vs, G, rfl, ?_, HPL.out.same nx.le, by rw [HNM.out]; exact Nat.le_refl _, by rw [HNM.out]; omega, nx⟩
  rw [HNM.out, HRS.out]
  unfold madeA benchA
  exact q.eq (by ac_rfl)
 clear hle hrt hg hP hs hrs hnm hr hv hE hz hnl
 go_enter Tryz.func48, Tryz.ntmps48
 haveI := q0.i
 go_wp2_with fail
 obtain ⟨N, hN⟩ : ∃ N, w.heap.size = N := ⟨_, rfl⟩
 have q1 : Sat (treeP h s * (G * (Sl.block N TOp [.int .i64 k, .int .i64 f, .int .i64 at_, .int .i64 n, v] * (Sl.block mb TMd [.slice (some ⟨g1, 0, none⟩) nm c1, .slice (some ⟨g2, 0, none⟩) nm c2] * (rw TIn 1 (.slice (some ⟨g1, 0, none⟩) nm c1) rs * (rw TLe 1 (.slice (some ⟨g2, 0, none⟩) nm c2) vs * (Sl.block b TBe [.pointer (some ⟨h.D, 0, none⟩), .pointer (some ⟨h.C, 0, none⟩), .pointer (some ⟨h.S, 0, none⟩), .pointer (some ⟨h.t, 0, none⟩)] * (Bp * F)))))))) (w.alloc (.cells #[.int .i64 k, .int .i64 f, .int .i64 at_, .int .i64 n, v] TOp)) := by
  rw [← hN]
  show Sat (_ * (_ * (Sl.block w.heap.size TOp [.int .i64 k, .int .i64 f, .int .i64 at_, .int .i64 n, v] * _))) _
  exact satI_eq (by ac_rfl)
 try rw [hN]
 generalize w.alloc (.cells #[.int .i64 k, .int .i64 f, .int .i64 at_, .int .i64 n, v] TOp) = w0 at q1 ⊢
 clear hN q0 this
 haveI := q1.i
 go_region_held3 (fun w' => w'.cell? ⟨N, 1, none⟩ = some (.int .i64 f) ∧ w'.cell? ⟨mb, 0, none⟩ = some (.slice (some ⟨g1, 0, none⟩) nm c1)) (first | exact ⟨cell_sat _ _ _, cell_sat _ _ _⟩) (first | (go_at_call 21; refine (pick_any f nm _ (by omega) (by omega)).mono ?_; rintro e w9 ⟨rfl, rfl⟩))
 go_wp2_with fail
 go_region
 go_wp2_with fail
 with_reducible refine Calls.mono (HLT.out _ _ (takeI Bp)) ?_
 rintro e w2 ⟨gp, cp, rfl, q2⟩
 haveI := q2.i
 clear q1
 go_wp2_with fail
 have hsz := fun F w q => size_call h s r l F w q hI HL.out.2.1 (by omega)
 rw [HZ.out.1] at hsz
 with_reducible refine Calls.mono (hsz _ _ (takeI (treeP h s))) ?_
 rintro e w3 ⟨s1, rfl, q3, nx1⟩
 unfold vi2
 haveI := q3.i
 clear q2 hsz
 go_wp2_with fail
 have hL4 : ∀ h : Nat, 2 * 4 ^ h ≤ l.length → h ≤ 4 := fun q hq => by
  rcases Nat.lt_or_ge 4 q with h1 | h1
  · have : 4 ^ 5 ≤ 4 ^ q := Nat.pow_le_pow_right (by omega) h1
    have := HZ.out.2
    omega
  · exact h1
 have hsk := fun F w q => seek_call h s1 r at_ l F w q nx1.inv (HL.out.2.1.le nx1.le) 4 hL4 (by have := nx1.left; omega)
 clear hL4
 go_cut [21, 22, 23] (fun t21 t22 t23 wx => ∃ (M : Nat) (x1 x2 x3 x4 xa xe : Int) (s2 : TS), t21 = .pointer (some ⟨M, 0, none⟩) ∧ t22 = .int .i64 xa ∧ t23 = .int .i64 xe ∧ Aside (Nxt s1 s2 6 0 ∧ SeekOk l at_ ⟨x1, x2, x3, x4⟩ xa xe) ∧
  Sat (treeP h s2 * (G * (Sl.block M TEn [.int .i64 x1, .int .i64 x2, .int .i64 x3, .int .i64 x4] * (Sl.block N TOp [.int .i64 k, .int .i64 f, .int .i64 at_, .int .i64 n, v] * (Sl.block mb TMd [.slice (some ⟨g1, 0, none⟩) nm c1, .slice (some ⟨g2, 0, none⟩) nm c2] * (rw TIn 1 (.slice (some ⟨g1, 0, none⟩) nm c1) rs * (rw TLe 1 (.slice (some ⟨g2, 0, none⟩) nm c2) vs * (Sl.block b TBe [.pointer (some ⟨h.D, 0, none⟩), .pointer (some ⟨h.C, 0, none⟩), .pointer (some ⟨h.S, 0, none⟩), .pointer (some ⟨h.t, 0, none⟩)] * (Bp * F))))))))) wx)
 case first =>
  go_region_held3 (fun w' => w'.cell? ⟨b, 3, none⟩ = some (.pointer (some ⟨h.t, 0, none⟩)) ∧ w'.cell? ⟨N, 2, none⟩ = some (.int .i64 at_)) (first | exact ⟨cell_sat _ _ _, cell_sat _ _ _⟩) (first | (go_at_call 116; with_reducible refine Calls.mono (hsk _ _ (takeI (treeP h s1))) ?_; rintro e w4 ⟨⟨x1, x2, x3, x4⟩, xa, xe, s2, rfl, q4, nx2, hso⟩; unfold seekV; haveI := q4.i))
  all_goals
   go_wp2_with fail
   go_meet
   exact ⟨_, x1, x2, x3, x4, xa, xe, s2, rfl, rfl, rfl, ⟨nx2, hso⟩, keep9 _ _ _ _ _ _ _ _ _⟩
 case rest =>
  obtain ⟨M, x1, x2, x3, x4, xa, xe, s2, rfl, rfl, rfl, HX, q5⟩ := hcut
  clear q3 hsk
  haveI := q5.i
  have hsm := fun F w q => rsize_any l _ G F w HL.out.1 q (by have := HZ.out.2; omega) (fun x hx => by have := mayE_bounds (HL.out.2.2.1.1 x hx); omega)
  rw [HZ.out.1, HZ.out.2] at hsm
  have HSM : Aside (∀ (F : Assn) (w : World), Sat (G * F) w → Calls Tryz.prog 31 #[.slice al nl cl] w fun e w' => e = .returned (.int .i64 z) ∧ Sat (G * F) w') := hsm
  rw [HZ.out.2]
  clear hsm
  go_wp2_with fail
  with_reducible refine Calls.mono (HSM.out _ _ (takeI G)) ?_
  rintro e w6 ⟨rfl, q6⟩
  haveI := q6.i
  clear q5
  by_cases hout : at_ < 0 ∨ z ≤ at_
  · obtain ⟨hx, hx2, hx3⟩ : (⟨x1, x2, x3, x4⟩ : Ent) = ⟨0, 0, 0, 0⟩ ∧ xa = 0 ∧ xe = 2 := by
     have h3 := HX.out.2
     unfold SeekOk at h3
     rwa [HZ.out.1, if_pos hout] at h3
    cases hx
    subst hx2 hx3
    rcases hout with ho | ho
    · go_wp2
      go_ret
      exact HFIN.out _ s2 ((nx1.trans HX.out.1).more (by omega) (by omega)) (keep8 _ _ _ _ _ _ _ _)
    · have ho2 : ¬ at_ < 0 ∨ at_ < 0 := by omega
      clear ho2
      go_wp2
      all_goals go_ret
      all_goals exact HFIN.out _ s2 ((nx1.trans HX.out.1).more (by omega) (by omega)) (keep8 _ _ _ _ _ _ _ _)
  · have h3 := HX.out.2
    unfold SeekOk at h3
    rw [HZ.out.1, if_neg hout] at h3
    obtain ⟨rfl, l1, l2, hl, rfl, h5, h6⟩ := h3
    have HS : Aside (l = l1 ++ ⟨x1, x2, x3, x4⟩ :: l2) := hl
    have HLO : Aside (∀ i : Nat, i < l1.length → eBytes (l.take (i + 1)) ≤ eBytes l1) := fun i hi => seek_low hl HL.out.2.2.1.1 hi
    obtain ⟨n1, hn1'⟩ : ∃ x, l1.length = x := ⟨_, rfl⟩
    have hn2 : n1 < nl := by
     rw [← HZ.out.2, hl, ← hn1', List.length_append, List.length_cons]
     omega
    have hb0 : Aside (∀ i : Nat, 0 ≤ eBytes (l.take i) ∧ eBytes (l.take i) ≤ i * 1048576) := eBytes_take_bound fun x hx => by have := mayE_bounds (HL.out.2.2.1.1 x hx); omega
    have HAT : Aside (l[n1]? = some ⟨x1, x2, x3, x4⟩ ∧ l.take n1 = l1) := by
     rw [hl, ← hn1']
     exact ⟨by simp, by simp⟩
    have HMY : Aside (∀ (i : Nat) (y : Ent), l[i]? = some y → 1 ≤ y.len ∧ y.len ≤ 1048576) := fun i y hy => mayE_bounds (HL.out.2.2.1.1 y (List.mem_of_getElem? hy))
    rw [hn1'] at HLO
    obtain ⟨z1, hz1⟩ : ∃ x, eBytes l1 = x := ⟨_, rfl⟩
    rw [hz1] at HLO h5 h6 ⊢
    have HZ1 : Aside (eBytes l1 = z1) := hz1
    simp only at h6
    clear hl hn1' hz1
    have ho1 : ¬ at_ < 0 := by omega
    have ho2 : ¬ z ≤ at_ := by omega
    have HNX : Aside (Nxt s s2 3000 2600) := (nx1.trans HX.out.1).more (by omega) (by omega)
    clear hout HX
    go_wp2
    go_loopg [24, 25] nl (fun g t24 t25 wr => ∃ (i : Nat), t25 = .int .i64 i ∧ t24 = .int .i64 (eBytes (l.take i)) ∧ i ≤ n1 ∧ Aside (g = nl - i) ∧
     Sat (treeP h s2 * (G * (Sl.block M TEn [.int .i64 x1, .int .i64 x2, .int .i64 x3, .int .i64 x4] * (Sl.block N TOp [.int .i64 k, .int .i64 f, .int .i64 at_, .int .i64 n, v] * (Sl.block mb TMd [.slice (some ⟨g1, 0, none⟩) nm c1, .slice (some ⟨g2, 0, none⟩) nm c2] * (rw TIn 1 (.slice (some ⟨g1, 0, none⟩) nm c1) rs * (rw TLe 1 (.slice (some ⟨g2, 0, none⟩) nm c2) vs * (Sl.block b TBe [.pointer (some ⟨h.D, 0, none⟩), .pointer (some ⟨h.C, 0, none⟩), .pointer (some ⟨h.S, 0, none⟩), .pointer (some ⟨h.t, 0, none⟩)] * (Bp * F))))))))) wr)
    case atStart => exact ⟨0, rfl, by simp [eBytes], by omega, rfl, keep9 _ _ _ _ _ _ _ _ _⟩
    case round =>
     obtain ⟨i, rfl, rfl, hi, A, q7⟩ := hrel
     clear q6
     haveI := q7.i
     have hi1 : (i : Int) < nl := by omega
     obtain ⟨y, hy⟩ : ∃ y, l[i]? = some y := ⟨_, List.getElem?_eq_getElem (by rw [HZ.out.2]; omega)⟩
     have hle := HL.out.1
     obtain ⟨bl, ol, hal, r1, r2, r3, r4⟩ := readsE_at hle hy
     subst hal
     have hyb := HMY.out i y hy
     have hsn := eBytes_snoc hy
     have hbi := hb0.out i
     obtain ⟨zi, hzi⟩ : ∃ x, eBytes (l.take i) = x := ⟨_, rfl⟩
     rw [hzi] at hsn hbi ⊢
     have hw1 : IntKind.i64.wrap (zi + y.len) = zi + y.len := IntWalk.i64_in _ (by omega)
     by_cases hin : i < n1
     · have h7 := HLO.out i hin
       rw [hsn] at h7
       have HSN : Aside (eBytes (l.take (i + 1)) = zi + y.len) := hsn
       have hno : ¬ at_ < zi + y.len := by omega
       obtain ⟨y1, y2, y3, y4⟩ := y
       simp only at r1 r2 r3 r4 hyb hw1 HSN hno
       clear hy hzi hsn hle h7
       go_wp2_with fail
       go_region
       go_wp2_with fail
       go_roundg (nl - (i + 1))
       case measure => have := A.out; omega
       case rel => exact ⟨i + 1, by go_num, by rw [HSN.out], by omega, rfl, keep9 _ _ _ _ _ _ _ _ _⟩
     · obtain rfl : i = n1 := by omega
       rw [HAT.out.1] at hy
       cases hy
       have hze : zi = z1 := by rw [← hzi, HAT.out.2, HZ1.out]
       subst hze
       simp only at r1 r2 r3 r4 hyb hw1
       clear hzi hsn hle
       go_wp2_with fail
       go_region
       go_wp2_with fail
       go_region
       go_wp2_with fail
       go_ret
       exact HFIN.out _ s2 HNX.out (keep8 _ _ _ _ _ _ _ _)
end Go.Proofs.YtfhbmblbidcmmaaGreat
