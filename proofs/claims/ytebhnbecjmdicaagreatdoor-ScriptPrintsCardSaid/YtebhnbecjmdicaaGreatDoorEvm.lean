/-
  A run reckoned out in parts: a call that was reckoned before, with just the memory that it sees, is told where it comes again with more memory about it.
-/
import Derived.Test.YtebhnbecjmdicaaGreatDoorEvx
namespace Go.Ev
set_option linter.unusedVariables false
set_option linter.unusedSimpArgs false
set_option linter.unusedSectionVars false
variable {X : Type} [ExtA X]

/-- a call, the objects that it sees, what it answers, and the objects that are not as before behind it -/
structure Mm (X : Type) where
  f : Nat
  args : List Value
  nx : Nat
  pre : List (Nat × Ob X)
  v : Value
  nx' : Nat
  chg : List (Nat × Option (Ob X))

/-- bytes -/
noncomputable def u8s (l : List Nat) : List Value := l.map fun n => .int .u8 (.ofNat n)
noncomputable def u8z (n : Nat) : List Value := List.replicate n (.int .u8 (.ofNat 0))
noncomputable def chgT : List (Nat × Option (Ob X)) → Hp X → Hp X
  | [], h => h
  | (k, o) :: l, h => chgT l (h.set k o)
noncomputable def preT : List (Nat × Ob X) → Hp X → Hp X
  | [], h => h
  | (k, o) :: l, h => preT l (h.set k (some o))
noncomputable def Mm.preH (x : Mm X) : Hp X := preT x.pre ⟨.nil, x.nx⟩
noncomputable def qv (a b : Value) : Bool := match a, b with
  | .int .u8 (.ofNat n), .int .u8 (.ofNat n') => Nat.beq n n'
  | a, b => alike 50 a b
noncomputable def sameQ (a b : List Value) : Bool :=
  List.rec (motive := fun _ => List Value → Bool) (fun b => List.rec (motive := fun _ => Bool) true (fun _ _ _ => false) b)
    (fun x _ ih b => List.rec (motive := fun _ => Bool) false (fun y t _ => Bool.rec (motive := fun _ => Bool) false (ih t) (qv x y)) b) a b
noncomputable def hasO (o o' : Ob X) : Bool := match o, o' with
  | .cells c t x, .cells d u y => sameQ c d && (Nat.beq t u && (x == y))
  | o, o' => alikeO o o'
noncomputable def has (h : Hp X) (k : Nat) (o : Ob X) : Bool := match h.at k with
  | some o' => hasO o o'
  | none => false
noncomputable def subH (h : Hp X) : List (Nat × Ob X) → Bool
  | [] => true
  | (k, o) :: l => has h k o && subH h l
noncomputable def keyIn (k : Nat) : List (Nat × Ob X) → Bool
  | [] => false
  | (j, _) :: l => Nat.beq j k || keyIn k l
noncomputable def keyInC (k : Nat) : List (Nat × Option (Ob X)) → Bool
  | [] => false
  | (j, _) :: l => Nat.beq j k || keyInC k l
noncomputable def chgOk (x : Mm X) (h : Hp X) : List (Nat × Option (Ob X)) → Bool
  | [] => true
  | (k, o) :: l => Nat.blt k 1000000 && (match o with
    | none => true
    | some o => has h k o && (Nat.ble x.nx k || keyIn k x.pre)) && chgOk x h l
noncomputable def sameOk (x : Mm X) (h : Hp X) : List (Nat × Ob X) → Bool
  | [] => true
  | (k, o) :: l => Nat.blt k 1000000 && (keyInC k x.chg || has h k o) && sameOk x h l
noncomputable def Mm.ok (x : Mm X) : Option (En X) → Bool
  | some (.ret v h) => alike 50 x.v v && (Nat.beq h.nx x.nx' && (chgOk x h x.chg && sameOk x h x.pre))
  | _ => false
noncomputable def Mm.over (x : Mm X) (h : Hp X) : Hp X := match chgT x.chg h with
  | ⟨t, _⟩ => ⟨t, x.nx'⟩
noncomputable def hkMemo (x : Mm X) : Hk X := fun f args h => bif Nat.beq f x.f && (Nat.beq h.nx x.nx && (alikeL 50 x.args args && subH h x.pre)) then some (.ret x.v (x.over h)) else none

theorem qv_ok {a b : Value} (h : qv a b = true) : a = b := by
  unfold qv at h
  split at h
  · rw [Nat.eq_of_beq_eq_true h]
  · exact alike_eq 50 h
theorem sameQ_ok : ∀ {a b : List Value}, sameQ a b = true → a = b
  | [], [], h => rfl
  | [], _ :: _, h => by cases h
  | _ :: _, [], h => by cases h
  | x :: a, y :: b, h => by
    have h' : Bool.rec (motive := fun _ => Bool) false (sameQ a b) (qv x y) = true := h
    cases hq : qv x y with
    | false => rw [hq] at h'; cases h'
    | true =>
      rw [hq] at h'
      rw [qv_ok hq, sameQ_ok h']
theorem hasO_ok {o o' : Ob X} (h : hasO o o' = true) : o = o' := by
  unfold hasO at h
  split at h
  · simp only [Bool.and_eq_true] at h
    rw [sameQ_ok h.1, Nat.eq_of_beq_eq_true h.2.1, eq_of_beq h.2.2]
  · exact alikeO_eq h
theorem has_ok {h : Hp X} {k : Nat} {o : Ob X} (e : has h k o = true) : h.at k = some o := by
  unfold has at e
  split at e
  · rename_i o' ho
    rw [ho, hasO_ok e]
  · cases e
theorem subH_ok {h : Hp X} : ∀ {l : List (Nat × Ob X)}, subH h l = true → ∀ k o, (k, o) ∈ l → h.at k = some o
  | [], e, k, o, hm => by cases hm
  | (j, u) :: l, e, k, o, hm => by
    simp only [subH, Bool.and_eq_true] at e
    rcases List.mem_cons.1 hm with c | c
    · cases c; exact has_ok e.1
    · exact subH_ok e.2 k o c
theorem keyIn_ok {k : Nat} : ∀ {l : List (Nat × Ob X)}, keyIn k l = true → ∃ o, (k, o) ∈ l
  | [], e => by cases e
  | (j, u) :: l, e => by
    simp only [keyIn, Bool.or_eq_true] at e
    rcases e with e | e
    · obtain rfl := Nat.eq_of_beq_eq_true e; exact ⟨u, List.mem_cons_self⟩
    · obtain ⟨o, ho⟩ := keyIn_ok e; exact ⟨o, List.mem_cons_of_mem _ ho⟩
theorem keyInC_ok {k : Nat} : ∀ {l : List (Nat × Option (Ob X))}, keyInC k l = true → ∃ o, (k, o) ∈ l
  | [], e => by cases e
  | (j, u) :: l, e => by
    simp only [keyInC, Bool.or_eq_true] at e
    rcases e with e | e
    · obtain rfl := Nat.eq_of_beq_eq_true e; exact ⟨u, List.mem_cons_self⟩
    · obtain ⟨o, ho⟩ := keyInC_ok e; exact ⟨o, List.mem_cons_of_mem _ ho⟩
theorem chgOk_ok {x : Mm X} {h : Hp X} : ∀ {l : List (Nat × Option (Ob X))}, chgOk x h l = true → ∀ k o, (k, o) ∈ l → k < 1000000 ∧ ∀ u, o = some u → h.at k = some u ∧ (x.nx ≤ k ∨ ∃ o', (k, o') ∈ x.pre)
  | [], e, k, o, hm => by cases hm
  | (j, u) :: l, e, k, o, hm => by
    simp only [chgOk, Bool.and_eq_true, Nat.blt_eq] at e
    rcases List.mem_cons.1 hm with c | c
    · cases c
      refine ⟨e.1.1, fun u hu => ?_⟩
      subst hu
      have e2 := e.1.2
      simp only [Bool.and_eq_true, Bool.or_eq_true] at e2
      exact ⟨has_ok e2.1, e2.2.imp Nat.le_of_ble_eq_true keyIn_ok⟩
    · exact chgOk_ok e.2 k o c
theorem sameOk_ok {x : Mm X} {h : Hp X} : ∀ {l : List (Nat × Ob X)}, sameOk x h l = true → ∀ k o, (k, o) ∈ l → k < 1000000 ∧ ((∃ o', (k, o') ∈ x.chg) ∨ h.at k = some o)
  | [], e, k, o, hm => by cases hm
  | (j, u) :: l, e, k, o, hm => by
    simp only [sameOk, Bool.and_eq_true, Nat.blt_eq, Bool.or_eq_true] at e
    rcases List.mem_cons.1 hm with c | c
    · cases c
      exact ⟨e.1.1, e.1.2.imp keyInC_ok has_ok⟩
    · exact sameOk_ok e.2 k o c
theorem chgT_at : ∀ (l : List (Nat × Option (Ob X))) (h : Hp X), (∀ k o, (k, o) ∈ l → k < 1000000) → ∀ k, (∃ o, (k, o) ∈ l ∧ (chgT l h).at k = o) ∨ ((∀ o, (k, o) ∉ l) ∧ (chgT l h).at k = h.at k)
  | [], h, hl, k => .inr ⟨fun o c => (by cases c), rfl⟩
  | (j, u) :: l, h, hl, k => by
    rcases chgT_at l (h.set j u) (fun k o hm => hl k o (List.mem_cons_of_mem _ hm)) k with ⟨o, h1, h2⟩ | ⟨h1, h2⟩
    · exact .inl ⟨o, List.mem_cons_of_mem _ h1, h2⟩
    · have := Hp.at_set (h := h) (o := u) (hl j u List.mem_cons_self) k
      by_cases hk : k = j
      · subst hk
        rw [if_pos rfl] at this
        exact .inl ⟨u, List.mem_cons_self, by show (chgT l _).at _ = _; rw [h2, this]⟩
      · rw [if_neg hk] at this
        refine .inr ⟨fun o c => ?_, by show (chgT l _).at _ = _; rw [h2, this]⟩
        rcases List.mem_cons.1 c with c | c
        · cases c; exact hk rfl
        · exact h1 o c
theorem preT_at : ∀ (l : List (Nat × Ob X)) (h : Hp X), (∀ k o, (k, o) ∈ l → k < 1000000) → ∀ k, (∃ o, (k, o) ∈ l ∧ (preT l h).at k = some o) ∨ ((∀ o, (k, o) ∉ l) ∧ (preT l h).at k = h.at k)
  | [], h, hl, k => .inr ⟨fun o c => (by cases c), rfl⟩
  | (j, u) :: l, h, hl, k => by
    rcases preT_at l (h.set j (some u)) (fun k o hm => hl k o (List.mem_cons_of_mem _ hm)) k with ⟨o, h1, h2⟩ | ⟨h1, h2⟩
    · exact .inl ⟨o, List.mem_cons_of_mem _ h1, h2⟩
    · have := Hp.at_set (h := h) (o := some u) (hl j u List.mem_cons_self) k
      by_cases hk : k = j
      · subst hk
        rw [if_pos rfl] at this
        exact .inl ⟨u, List.mem_cons_self, by show (preT l _).at _ = _; rw [h2, this]⟩
      · rw [if_neg hk] at this
        refine .inr ⟨fun o c => ?_, by show (preT l _).at _ = _; rw [h2, this]⟩
        rcases List.mem_cons.1 c with c | c
        · cases c; exact hk rfl
        · exact h1 o c
theorem preT_nx : ∀ (l : List (Nat × Ob X)) (h : Hp X), (preT l h).nx = h.nx
  | [], h => rfl
  | (j, u) :: l, h => preT_nx l (h.set j (some u))

theorem hkMemo_ok {P : Program} {T : Tb} {F : Fb} {K : Hk X} {n : Nat} (hT : TbOk P T) (hF : FbOk P F) (hK : HkOk P K) (hmx : P.follows .mixedOrders = true) {x : Mm X} (hx : x.ok (call T F K n x.f x.args x.preH) = true) : HkOk P (hkMemo x) := by
  intro f args h r e m w args' hr hf htp ha
  unfold hkMemo at e
  cases hc : (Nat.beq f x.f && (Nat.beq h.nx x.nx && (alikeL 50 x.args args && subH h x.pre))) with
  | false => rw [hc] at e; cases e
  | true =>
    rw [hc, cond_true] at e
    cases e
    simp only [Bool.and_eq_true] at hc
    obtain ⟨c1, c2, c3, c4⟩ := hc
    obtain rfl := Nat.eq_of_beq_eq_true c1
    have hnx := Nat.eq_of_beq_eq_true c2
    have hargs := alikeL_eq 50 c3
    subst hargs
    unfold Mm.ok at hx
    split at hx
    · rename_i v h1 hcall
      simp only [Bool.and_eq_true] at hx
      obtain ⟨d1, d2, d3, d4⟩ := hx
      have hv := alike_eq 50 d1
      subst hv
      have hnx1 := Nat.eq_of_beq_eq_true d2
      have hchg := chgOk_ok d3
      have hsame := sameOk_ok d4
      have hpk : ∀ k o, (k, o) ∈ x.pre → k < 1000000 := fun k o hm => (hsame k o hm).1
      have hpre := fun k => preT_at x.pre ⟨.nil, x.nx⟩ hpk k
      have hpnil : ∀ k, (⟨.nil, x.nx⟩ : Hp X).at k = none := fun k => rfl
      have hpnx : x.preH.nx = x.nx := preT_nx _ _
      have psub : ∀ k o, x.preH.at k = some o → (k, o) ∈ x.pre ∧ h.at k = some o := fun k o e => by
        rcases hpre k with ⟨u, g1, g2⟩ | ⟨g1, g2⟩
        · have : x.preH.at k = some u := g2
          rw [e] at this
          cases this
          exact ⟨g1, subH_ok c4 k o g1⟩
        · have : x.preH.at k = none := g2
          rw [e] at this; cases this
      have pin : ∀ k o, (k, o) ∈ x.pre → x.preH.at k ≠ none := fun k o hm => by
        rcases hpre k with ⟨u, g1, g2⟩ | ⟨g1, g2⟩
        · have : x.preH.at k = some u := g2
          rw [this]; simp
        · exact absurd hm (g1 o)
      have hlt : ∀ k, h.at k ≠ none → k < x.nx := fun k e => by
        rcases Nat.lt_or_ge k x.nx with c | c
        · exact c
        · exact absurd (htp k (by omega)) e
      have hpn : ∀ k, x.preH.at k ≠ none → h.at k ≠ none := fun k e => by
        obtain ⟨o, ho⟩ := Option.ne_none_iff_exists'.1 e
        rw [(psub k o ho).2]; simp
      have key := (exec_ok hT hF hK hmx n).2 x.f x.args x.preH _ hcall m w args' (hr.less fun k o e => (psub k o e).2) (fun k hk => hf k (by rw [hpnx] at hk; omega)) (fun k hk => by
        cases hq : x.preH.at k with
        | none => rfl
        | some o =>
          have := hlt k (hpn k (by rw [hq]; simp))
          rw [hpnx] at hk
          omega) ha
      refine ⟨key.1, key.2.mono ?_⟩
      rintro en w' ⟨m', v', rfl, hv, mo⟩
      refine ⟨m', v', rfl, hv, ?_⟩
      let r : G X := fun k => match x.preH.at k with
        | some _ => none
        | none => h.at k
      have hr1 : ∀ k o, r k = some o → x.preH.at k = none ∧ h.at k = some o := fun k o e => by
        simp only [r] at e
        split at e
        · cases e
        · rename_i hn; exact ⟨hn, e⟩
      have hrn : ∀ k, r k ≠ none → x.preH.at k = none ∧ h.at k ≠ none := fun k e => by
        obtain ⟨o, ho⟩ := Option.ne_none_iff_exists'.1 e
        obtain ⟨q1, q2⟩ := hr1 k o ho
        exact ⟨q1, by rw [q2]; simp⟩
      have st := mo.stp
      have hframe := Rep.frame (r := r) (R := h.at) st mo.rep hr (fun k u e => (hr1 k u e).2) (fun k o e => (psub k o e).2) (fun k e => (hrn k e).1) (fun k e => .inl (by
        have := hlt k (hrn k e).2
        show k < x.preH.nx
        omega))
      have hover : (x.over h).at = (chgT x.chg h).at := rfl
      have hovn : (x.over h).nx = x.nx' := rfl
      have hsub : ∀ k o, (x.over h).at k = some o → (match r k with | some o => some o | none => h1.at k) = some o := fun k o e => by
        rw [hover] at e
        rcases chgT_at x.chg h (fun k o hm => (hchg k o hm).1) k with ⟨u, g1, g2⟩ | ⟨g1, g2⟩
        · rw [e] at g2
          subst g2
          obtain ⟨_, q⟩ := hchg k _ g1
          obtain ⟨q1, q2⟩ := q o rfl
          have : r k = none := by
            cases hrk : r k with
            | none => rfl
            | some u =>
              exfalso
              obtain ⟨z1, z2⟩ := hr1 k u hrk
              rcases q2 with q2 | ⟨o', q2⟩
              · have := hlt k (by rw [z2]; simp)
                omega
              · exact pin k o' q2 z1
          rw [this]
          exact q1
        · rw [e] at g2
          cases hp : x.preH.at k with
          | none =>
            have : r k = some o := by
              simp only [r, hp]
              exact g2.symm
            rw [this]
          | some u =>
            have : r k = none := by simp only [r, hp]
            rw [this]
            obtain ⟨z1, z2⟩ := psub k u hp
            rw [← g2] at z2
            cases z2
            rcases (hsame k _ z1).2 with ⟨o', q⟩ | q
            · exact absurd q (g1 o')
            · exact q
      have hsp : ∀ k o, (x.over h).at k = some o → r k = some o ∨ h1.at k = some o := fun k o e => by
        have := hsub k o e
        cases hrk : r k with
        | some u => rw [hrk] at this; exact .inl this
        | none => rw [hrk] at this; exact .inr this
      have hsplit : ∀ k, (x.over h).at k ≠ none → r k ≠ none ∨ h1.at k ≠ none := fun k e => by
        obtain ⟨o, ho⟩ := Option.ne_none_iff_exists'.1 e
        rcases hsp k o ho with c | c
        · exact .inl (by rw [c]; simp)
        · exact .inr (by rw [c]; simp)
      have hmo := mo.nx
      have hmo' : x.preH.nx ≤ h1.nx := hmo
      refine ⟨hframe.less hsub, fun k hk => mo.fresh k (by rw [hovn] at hk; omega), ⟨st.le, fun k e => ?_, fun k b y e e1 => ?_, fun k e => ?_, fun b hb hk hk2 => st.keep b hb (fun k y e => hk k y (hpn k e)) (fun k y e => hk2 k y (psub k _ e).2), fun k y b e e1 => ?_, fun k e hk => ?_, st.size, st.os, st.tape, st.out⟩, ?_, fun k hk => ?_⟩
      · have := st.new k e
        rw [hpnx] at this
        show h.nx ≤ k ∧ k < (x.over h).nx
        rw [hovn]
        omega
      · rcases hsplit k e with c | c
        · obtain ⟨_, c2⟩ := hrn k c
          have hk := hlt k c2
          have hmm : m' k = m k := by
            rcases Decidable.em (m' k = m k) with q | q
            · exact q
            · have := st.new k q
              rw [hpnx] at this
              omega
          rw [hmm] at e1
          exact .inl ⟨k, y, c2, e1⟩
        · rcases st.own k b y c e1 with ⟨k0, x0, q1, q2⟩ | q
          · exact .inl ⟨k0, x0, hpn k0 q1, q2⟩
          · exact .inr q
      · show h.at k ≠ none ∨ (h.nx ≤ k ∧ k < (x.over h).nx)
        rcases hsplit k e with c | c
        · exact .inl (hrn k c).2
        · rcases st.dom k c with q | q
          · exact .inl (hpn k q)
          · rw [hpnx] at q
            rw [hovn]
            exact .inr (by omega)
      · rcases hsp k _ e with c | c
        · obtain ⟨z1, z2⟩ := hr1 k _ c
          have hk := hlt k (by rw [z2]; simp)
          have := st.nter k z1 (.inl (show k < x.preH.nx by omega))
          rw [this] at e1
          exact .inl ⟨k, y, z2, e1⟩
        · rcases st.ter k y b c e1 with ⟨k0, x0, q1, q2⟩ | q
          · exact .inl ⟨k0, x0, (psub k0 _ q1).2, q2⟩
          · exact .inr q
      · refine st.nter k ?_ (hk.imp (fun c => ?_) (fun c => ?_))
        · cases hq : x.preH.at k with
          | none => rfl
          | some o => exact absurd e (hpn k (by rw [hq]; simp))
        · show k < x.preH.nx
          have : k < h.nx := c
          omega
        · have : (x.over h).nx ≤ k := c
          rw [hovn] at this
          show h1.nx ≤ k
          omega
      · show h.nx ≤ (x.over h).nx
        rw [hovn]
        omega
      · rw [hovn] at hk
        cases hq : (x.over h).at k with
        | none => rfl
        | some o =>
          rcases hsp k o hq with c | c
          · have := hlt k (by rw [(hr1 k o c).2]; simp)
            omega
          · have := mo.top k (by omega)
            rw [c] at this
            cases this
    · cases hx
end Go.Ev
