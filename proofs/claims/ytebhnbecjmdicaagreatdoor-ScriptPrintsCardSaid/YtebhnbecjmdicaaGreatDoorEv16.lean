/-
  A run reckoned out: what the reckoning of a call says is so.
-/
import Derived.Test.YtebhnbecjmdicaaGreatDoorEv15
namespace Go.Ev
set_option linter.unusedVariables false
set_option linter.unusedSimpArgs false
set_option linter.unusedSectionVars false
variable {X : Type} [ExtA X]

section
variable {c : (Cx X)} {m : Mp} {a : Act} {w : World}

theorem ready_nil {L : List Oper} {ms : List Nat} (sta : Sta L ms) {listed : Array Bool} (hl : listed.size = L.length) (h : Region.ready .any L.toArray listed = []) : ∀ i, i < L.length → listed.getD i false = true := by
  intro i
  induction i using Nat.strongRecOn with
  | ind i ih =>
    intro hi
    cases hb : listed.getD i false with
    | true => rfl
    | false =>
      exfalso
      obtain ⟨o, ho⟩ : ∃ o, L[i]? = some o := ⟨_, List.getElem?_eq_getElem hi⟩
      have : i ∈ Region.ready .any L.toArray listed := by
        rw [mem_ready]
        refine ⟨?_, o, by rw [List.getElem?_toArray]; exact ho, fun e he hbd => ?_⟩
        · rw [Array.getD_eq_getD_getElem?] at hb ⊢
          rw [Array.getElem?_eq_getElem (by omega)] at hb ⊢
          exact hb
        · have hlt := sta.edges i o ho e (by simpa using he) hbd
          exact ih e.on hlt (by omega)
      rw [h] at this
      cases this

theorem any_ok (ok : c.Ok) {Q : Exit → Act → World → Prop} (hQn : ∀ D j m a w, Iv c D j m a w → (∀ i, i < c.L.length → D i = true) → Q .normal a w) (hQp : ∀ D j m a w, Iv c D j m a w → PanQ c Q D m a) :
    ∀ (fuel : Nat) (listed : Array Bool) (j : Nat) (m : Mp) (a : Act) (w : World), listed.size = c.L.length → Iv c (fun i => listed.getD i false) j m a w → (List.range c.L.length).countP (fun i => !listed.getD i true) ≤ fuel → wpAny c.P .any c.L.toArray Q fuel listed a w := by
  intro fuel
  induction fuel with
  | zero =>
    intro listed j m a w hl I hcnt
    have hall : ∀ i, i < c.L.length → listed.getD i false = true := by
      intro i hi
      cases hb : listed.getD i false with
      | true => rfl
      | false =>
        exfalso
        have h1 : listed.getD i true = false := by
          rw [Array.getD_eq_getD_getElem?] at hb ⊢
          rw [Array.getElem?_eq_getElem (by omega)] at hb ⊢
          exact hb
        have := List.countP_pos_iff (p := fun i => !listed.getD i true) (l := List.range c.L.length) |>.2 ⟨i, List.mem_range.2 hi, by simp [h1]⟩
        omega
    refine ⟨?_, hQn _ _ _ _ _ I hall⟩
    rw [List.eq_nil_iff_forall_not_mem]
    intro i hi
    obtain ⟨h1, o, ho, _⟩ := mem_ready.1 hi
    rw [List.getElem?_toArray] at ho
    have hlt := (List.getElem?_eq_some_iff.1 ho).1
    have := hall i hlt
    rw [Array.getD_eq_getD_getElem?] at h1 this
    rw [Array.getElem?_eq_getElem (by omega)] at h1 this
    simp at h1 this
    rw [h1] at this; cases this
  | succ fuel ih =>
    intro listed j m a w hl I hcnt
    refine ⟨fun h => hQn _ _ _ _ _ I (ready_nil ok.sta hl h), fun i hi => ?_⟩
    obtain ⟨h1, o, ho, hall⟩ := mem_ready.1 hi
    rw [List.getElem?_toArray] at ho
    have hlt := (List.getElem?_eq_some_iff.1 ho).1
    have hD : listed.getD i false = false := by
      rw [Array.getD_eq_getD_getElem?] at h1 ⊢
      rw [Array.getElem?_eq_getElem (by omega)] at h1 ⊢
      exact h1
    have hm : ∀ i', (c.ms.getD i 0).testBit i' = true → listed.getD i' false = true := by
      intro i' hb
      obtain ⟨e, he, hbd, h3⟩ := ok.sta.mask i o ho i' hb
      have hon := hall e (by simpa using he) hbd
      rcases h3 with rfl | h3
      · exact hon
      · exact (I.cl e.on hon).2 i' h3
    have hstep := I.step ok ho hD hm (hQp _ _ _ _ _ I)
    refine wpOp_mono ?_ hstep
    rintro a' w' ⟨j', m', I'⟩
    have hset : ∀ k d, (listed.setIfInBounds i true).getD k d = if k = i then true else listed.getD k d := fun k d => by
      simp only [Array.getD_eq_getD_getElem?, Array.getElem?_setIfInBounds]
      by_cases hk : i = k
      · subst hk; simp [show i < listed.size by omega]
      · rw [if_neg hk, if_neg (fun c => hk c.symm)]
    refine ih _ j' m' a' w' (by simpa using hl) ?_ ?_
    · have : (fun k => (listed.setIfInBounds i true).getD k false) = upd (fun i => listed.getD i false) i := by
        funext k
        rw [hset]
        unfold upd
        by_cases hk : k = i <;> simp [hk]
      rw [this]
      exact I'
    · have := countP_lt (l := List.range c.L.length) (p := fun k => !listed.getD k true) (q := fun k => !(listed.setIfInBounds i true).getD k true) (fun x _ hx => by
        simp only [hset] at hx
        by_cases hk : x = i
        · simp [hk] at hx
        · simpa [hk] using hx) i (List.mem_range.2 hlt) (by simp only [h1]; rfl) (by simp only [hset]; simp)
      omega
end

section
variable {P : Program} {T : Tb} {F : Fb} {cal : (Cal X)} {b : (Bs X)} {s s' : (St X)} {m : Mp} {a : Act} {w : World}

theorem drawn_ok (hT : TbOk P T) (hc : CalOk P cal) (hmx : P.follows .mixedOrders = true) {ops : Array Oper} {ex : Ex} (h : At P b s m a w) (e : drawn T cal ops.toList s = some (ex, s')) {id : Nat} :
    (Code.region id ops true).wp P (fun e a' w' => ∃ m', ExR m' ex e ∧ At P b s' m' a' w') a w := by
  rw [drawn_eq] at e
  cases hcond : (pairsOk ops.toList (masks ops.toList []).reverse && dstsOk s.n ops.toList && Nat.blt (s.hp.nx + ops.toList.length) 1000000) with
  | false => simp only [hcond] at e; cases e
  | true =>
    simp only [hcond, cond_true] at e
    simp only [Bool.and_eq_true, Nat.blt_eq] at hcond
    obtain ⟨⟨c1, c2⟩, c3⟩ := hcond
    have hdst : ∀ (i : Nat) (o : Oper) (d : Nat), ops.toList[i]? = some o → o.dst = some d → d < s.n ∧ d < 1000000 := by
      intro i o d ho hd
      unfold dstsOk at c2
      rw [List.all_eq_true] at c2
      have := c2 o (List.mem_of_getElem? ho)
      rw [hd] at this
      simpa [Nat.blt_eq] using this
    -- the frame of the reckoning
    have build : ∀ R pan, goR T cal s.hp.nx ops.toList (masks ops.toList []).reverse ⟨s.hp.t, s.hp.nx + ops.toList.length⟩ s.env ops.toList [] none = some (R, pan) →
        Cx.Ok ⟨P, T, cal, ops.toList, (masks ops.toList []).reverse, s, m, { w with drawn := w.drawn + 1 }, R, pan⟩ := by
      intro R pan hgo
      obtain ⟨R1, h1, h2, _, _, h5⟩ := goR_spec hgo (fun i ch h c => by cases c)
      rw [List.nil_append] at h1
      subst h1
      refine ⟨hT, hc, stat_of c1, fun i o d ho hd => (hdst i o d ho hd).2, fun i o d ho hd => (hdst i o d ho hd).1, c3, h.top, h2, fun j o ho => ?_⟩
      obtain ⟨r, g1, g2⟩ := h5 j o ho
      simp only [List.length_nil, Nat.zero_add] at g1 g2
      exact ⟨r, g1, g2⟩
    have hrun : ∀ R pan (hgo : goR T cal s.hp.nx ops.toList (masks ops.toList []).reverse ⟨s.hp.t, s.hp.nx + ops.toList.length⟩ s.env ops.toList [] none = some (R, pan)) (Q : Exit → Act → World → Prop),
        (∀ D j m1 a1 w1, Iv ⟨P, T, cal, ops.toList, (masks ops.toList []).reverse, s, m, { w with drawn := w.drawn + 1 }, R, pan⟩ D j m1 a1 w1 → (∀ i, i < ops.toList.length → D i = true) → Q .normal a1 w1) →
        (∀ D j m1 a1 w1, Iv ⟨P, T, cal, ops.toList, (masks ops.toList []).reverse, s, m, { w with drawn := w.drawn + 1 }, R, pan⟩ D j m1 a1 w1 → PanQ ⟨P, T, cal, ops.toList, (masks ops.toList []).reverse, s, m, { w with drawn := w.drawn + 1 }, R, pan⟩ Q D m1 a1) →
        (Code.region id ops true).wp P Q a w := by
      intro R pan hgo Q hn hp
      have ok := build R pan hgo
      refine wp_region_any hmx ?_
      have hlisted : ∀ (i : Nat), (Array.replicate ops.size false).getD i false = false := fun i => by
        rw [Array.getD_eq_getD_getElem?]
        rcases Nat.lt_or_ge i ops.size with g | g
        · simp [g]
        · simp [Nat.not_lt.2 g]
      have key := any_ok ok hn hp ops.size (Array.replicate ops.size false) 0 m a { w with drawn := w.drawn + 1 } (by simp) ?_ ?_
      · simpa using key
      · have hS : Cx.S ⟨P, T, cal, ops.toList, (masks ops.toList []).reverse, s, m, { w with drawn := w.drawn + 1 }, R, pan⟩ (fun i => (Array.replicate ops.size false).getD i false) 0 = s.hp.at := by
          funext k
          unfold Cx.S SD
          rw [if_neg (fun x => by have := x.2.1; simp only [hlisted] at this; cases this)]
          unfold HJ
          rw [List.take_zero]
          rfl
        have hH : Cx.H ⟨P, T, cal, ops.toList, (masks ops.toList []).reverse, s, m, { w with drawn := w.drawn + 1 }, R, pan⟩ 0 = ⟨s.hp.t, s.hp.nx + ops.toList.length⟩ := by
          unfold Cx.H HJ
          rw [List.take_zero]
          rfl
        have hrep0 : Rep P m s.hp.at { w with drawn := w.drawn + 1 } := h.rep.drew rfl
        refine ⟨fun i hi => ?_, Nat.zero_le _, fun k e h2 he => ?_, fun i ch h2 hp2 => hlisted i, h.ag.size, h.ag.ds, fun i o r t h1 h2 h3 => ?_, fun t v _ h2 => h.ag.val t v h2, ?_, fun i hi hne => ?_, fun k hk => ?_, fun i hi _ => ?_, ?_, ?_⟩
        · rw [hlisted] at hi; cases hi
        · rw [hlisted]; simp
        · rw [hlisted] at h3; cases h3
        · rw [hS]; exact hrep0
        · exfalso
          rw [hH] at hne
          exact hne (h.top (s.hp.nx + i) (Nat.le_add_right _ _))
        · rw [hH] at hk
          simp only at hk
          exact h.fresh k (by omega)
        · exact h.fresh _ (Nat.le_add_right _ _)
        · rw [hH]; exact Nat.le_refl _
        · rw [hS, hH]; exact Stp.refl _ _ _ _ _
      · refine Nat.le_trans List.countP_le_length ?_
        simp
    -- the world behind the draw
    have hpre : ∀ {g' : (G X)} {m' : Mp} {w' : World} {hi : Nat}, s.hp.nx ≤ hi → Stp s.hp.at m { w with drawn := w.drawn + 1 } g' m' w' s.hp.nx hi → Stp b.h.at b.m b.w g' m' w' b.h.nx hi := by
      intro g' m' w' hi hle hs
      exact h.stp.trans (hs.pre rfl rfl rfl rfl) h.nx hle
    split at e
    · rename_i R hgo
      cases e
      refine hrun R none hgo _ (fun D j m1 a1 w1 I hall => ?_) (fun D j m1 a1 w1 I i ch h2 hp => by cases hp)
      refine ⟨m1, trivial, ?_⟩
      have ok := build R none hgo
      have hj : j = (Cx.es ⟨P, T, cal, ops.toList, (masks ops.toList []).reverse, s, m, { w with drawn := w.drawn + 1 }, R, none⟩).length := by
        rcases Nat.lt_or_ge j (Cx.es ⟨P, T, cal, ops.toList, (masks ops.toList []).reverse, s, m, { w with drawn := w.drawn + 1 }, R, none⟩).length with g | g
        · obtain ⟨⟨e1, h1⟩, he⟩ : ∃ x, (Cx.es ⟨P, T, cal, ops.toList, (masks ops.toList []).reverse, s, m, { w with drawn := w.drawn + 1 }, R, none⟩)[j]? = some x := ⟨_, List.getElem?_eq_getElem g⟩
          obtain ⟨p, v1, g1, g2⟩ := effL_mem.1 (List.mem_of_getElem? he)
          have hlt := (List.getElem?_eq_some_iff.1 g2).1
          have hlen := ok.len
          simp only at hlen hlt
          have := (I.pr j e1 h1 he).1 (hall e1 (by omega))
          omega
        · have := I.je; omega
      have htk : (Cx.es ⟨P, T, cal, ops.toList, (masks ops.toList []).reverse, s, m, { w with drawn := w.drawn + 1 }, R, none⟩).take j = effL 0 R := by rw [hj, List.take_length]; rfl
      have hHj : Cx.H ⟨P, T, cal, ops.toList, (masks ops.toList []).reverse, s, m, { w with drawn := w.drawn + 1 }, R, none⟩ j = curH ⟨s.hp.t, s.hp.nx + ops.toList.length⟩ (effL 0 R) := by
        unfold Cx.H HJ
        rw [htk]
        rfl
      obtain ⟨q1, q2⟩ := mergeAll_at (masks ops.toList []).reverse s.hp.nx (effL 0 R) (newL 0 R) (curH ⟨s.hp.t, s.hp.nx + ops.toList.length⟩ (effL 0 R)) (fun i u hu => by
        obtain ⟨p, v1, g1, g2⟩ := newL_mem.1 hu
        have hlt := (List.getElem?_eq_some_iff.1 g2).1
        have hlen := ok.len
        simp only at hlen hlt
        omega)
      have hsub : ∀ x u, (mergeAll (masks ops.toList []).reverse s.hp.nx (effL 0 R) (newL 0 R) (curH ⟨s.hp.t, s.hp.nx + ops.toList.length⟩ (effL 0 R))).at x = some u → Cx.S ⟨P, T, cal, ops.toList, (masks ops.toList []).reverse, s, m, { w with drawn := w.drawn + 1 }, R, none⟩ D j x = some u := by
        intro x u hx
        rcases q1 x u hx with g | ⟨i, g1, g2, g3⟩
        · exact I.sub (by rw [hHj]; exact g)
        · obtain ⟨p, v1, g4, g5⟩ := newL_mem.1 g1
          have hlt := (List.getElem?_eq_some_iff.1 g5).1
          have hlen := ok.len
          simp only at hlen hlt
          rw [Nat.zero_add] at g4
          subst g4
          subst g2
          unfold Cx.S SD
          rw [if_pos ⟨Nat.le_add_right _ _, by
            show D (s.hp.nx + i - s.hp.nx) = true
            rw [Nat.add_sub_cancel_left]; exact hall i (by omega), by
            show mgd _ _ (s.hp.nx + i - s.hp.nx) = false
            rw [Nat.add_sub_cancel_left, htk]; exact g3⟩]
          show (match newAt R (s.hp.nx + i - s.hp.nx) with | some o => some o | none => _) = some u
          rw [Nat.add_sub_cancel_left]
          unfold newAt
          rw [g5]
      have hnx := I.nx
      have hnxe : (mergeAll (masks ops.toList []).reverse s.hp.nx (effL 0 R) (newL 0 R) (curH ⟨s.hp.t, s.hp.nx + ops.toList.length⟩ (effL 0 R))).nx = (Cx.H ⟨P, T, cal, ops.toList, (masks ops.toList []).reverse, s, m, { w with drawn := w.drawn + 1 }, R, none⟩ j).nx := by
        rw [q2, hHj]
      have hle : s.hp.nx ≤ (Cx.H ⟨P, T, cal, ops.toList, (masks ops.toList []).reverse, s, m, { w with drawn := w.drawn + 1 }, R, none⟩ j).nx := by
        have : s.hp.nx + ops.toList.length ≤ _ := hnx
        omega
      refine ⟨I.rep.less hsub, ⟨I.sz, fun t v ht => ?_, I.ds⟩, fun k hk => I.fr1 k (by rw [← hnxe]; exact hk), ?_, ?_, ?_⟩
      · rcases envR_get ok.dok ht with ⟨i1, o1, r1, h1, h2, h3, rfl⟩ | ⟨h1, h2⟩
        · exact I.ev1 i1 o1 r1 t h1 h2 (hall i1 (List.getElem?_eq_some_iff.1 h1).1) h3
        · refine I.ev2 t v (fun i1 o1 g1 g2 g3 => ?_) h2
          have hi1 := (List.getElem?_eq_some_iff.1 g1).1
          have hlen := ok.len
          simp only at hlen
          obtain ⟨r1, hr1⟩ : ∃ x, R[i1]? = some x := ⟨_, List.getElem?_eq_getElem (by simp only at hi1; omega)⟩
          exact h1 i1 o1 r1 g1 hr1 g3
      · rw [hnxe]
        exact hpre hle (I.stp.less hsub)
      · rw [hnxe]
        exact Nat.le_trans h.nx hle
      · intro k hk
        refine (I.stp.less hsub).top h.top hle k ?_
        rw [← hnxe]
        exact hk
    · rename_i R i ch h' hgo
      cases e
      have ok := build R _ hgo
      refine hrun R _ hgo _ (fun D j m1 a1 w1 I hall => ?_) (fun D j m1 a1 w1 I i1 ch1 h1 hp => ?_)
      · exfalso
        obtain ⟨_, _, _, _, hlt, _⟩ := goR_spec hgo (fun i ch h c => by cases c)
        have hn := I.np i ch h' rfl
        have hi : i < ops.toList.length := by
          have : ∀ {rest : List Oper} {R0 : List (Rc X)} {p : (Pan X)} {R : List (Rc X)} {i : Nat} {ch : Ch} {h' : (Hp X)}, goR T cal s.hp.nx ops.toList (masks ops.toList []).reverse ⟨s.hp.t, s.hp.nx + ops.toList.length⟩ s.env rest R0 p = some (R, some (i, ch, h')) → (∀ i ch h, p = some (i, ch, h) → i < R0.length) → i < R0.length + rest.length := by
            intro rest
            induction rest with
            | nil => intro R0 p R i ch h' e hp; cases p <;> simp [goR] at e; obtain ⟨_, rfl⟩ := e; exact hp _ _ _ rfl
            | cons o rest ih =>
              intro R0 p R i ch h' e hp
              cases p with
              | none =>
                unfold goR at e
                split at e
                · have := ih e (fun i ch h c => by cases c); simp at this ⊢; omega
                · have := ih e (fun i ch h c => by cases c; simp); simp at this ⊢; omega
                · cases e
              | some q =>
                obtain ⟨i2, ch2, h2⟩ := q
                have hi2 := hp _ _ _ rfl
                unfold goR at e
                revert e
                cases ((masks ops.toList []).reverse.getD R0.length 0).testBit i2 with
                | true =>
                  intro e
                  rw [cond_true] at e
                  have := ih e (fun i ch h c => by cases c; simp; omega)
                  simp at this ⊢; omega
                | false =>
                  intro e
                  rw [cond_false] at e
                  split at e
                  · rename_i r hs
                    revert e
                    cases notEff r with
                    | true =>
                      intro e
                      rw [cond_true] at e
                      have := ih e (fun i ch h c => by cases c; simp; omega)
                      simp at this ⊢; omega
                    | false => intro e; cases e
                  · cases e
          have := this hgo (fun i ch h c => by cases c)
          simpa using this
        rw [hall i hi] at hn
        cases hn
      · cases hp
        intro m' c' w' r1 r2 r3 r4 r4' r5 r6
        refine ⟨m', r1, r2, ⟨I.sz, fun t v ht => ?_, I.ds.mono r6⟩, r4, hpre r5 r3, Nat.le_trans h.nx r5, r4'⟩
        obtain ⟨g1, g2⟩ := dropD_get ok.dok ht
        exact (I.ev2 t v (fun i1 o1 e1 _ => g1 i1 o1 e1) g2).mono r6
    · cases e
end
end Go.Ev
