/-
  A run reckoned out: what the reckoning of a call says is so, of every world.
-/
import Derived.Test.YteecnkneceemjaaGreatEv16
namespace Go.Ev
set_option linter.unusedVariables false
set_option linter.unusedSimpArgs false

section
variable {P : Program} {T : Tb} {F : Fb} {K : Hk} {b : Bs} {s s' : St} {m : Mp} {a : Act} {w : World}

def CPost (P : Program) (b : Bs) (r : Ex) (s' : St) : Exit → Act → World → Prop := fun e a' w' => ∃ m', ExR m' r e ∧ At P b s' m' a' w'

theorem loop_rounds {c : Code} : ∀ (n : Nat), (∀ k, k < n → RunOk P (exec T F K k)) → ∀ {s s' : St} {m : Mp} {a : Act} {w : World} {r : Ex}, exec T F K n (.loop c) s = some (r, s') → At P b s m a w → Code.rounds P c (CPost P b r s') n a w
  | 0, hk, s, s', m, a, w, r, e, h => by simp [exec] at e
  | n + 1, hk, s, s', m, a, w, r, e, h => by
    simp only [exec] at e
    rw [rounds_succ]
    split at e
    · rename_i s1 h1
      refine wp_mono (hk n (by omega) _ _ _ _ h1 _ _ _ _ h) ?_
      rintro e1 a' w' ⟨m', q1, q2⟩
      cases e1 with
      | normal => exact loop_rounds n (fun k hk' => hk k (by omega)) e q2
      | _ => exact q1.elim
    · rename_i hne
      refine wp_mono (hk n (by omega) _ _ _ _ e _ _ _ _ h) ?_
      rintro e1 a' w' ⟨m', q1, q2⟩
      cases e1 with
      | normal =>
        cases r with
        | normal => exact absurd e (hne _)
        | _ => exact q1.elim
      | _ => exact ⟨m', q1, q2⟩

theorem exec_ok (hT : TbOk P T) (hF : FbOk P F) (hK : HkOk P K) (hmx : P.follows .mixedOrders = true) : ∀ n, RunOk P (exec T F K n) ∧ CalOk P (call T F K n)
  | 0 => ⟨fun c s r s' e => by simp [exec] at e, fun f args h r e => by simp [call] at e⟩
  | n + 1 => by
    have all : ∀ k, k ≤ n → RunOk P (exec T F K k) := fun k hk => (exec_ok hT hF hK hmx k).1
    have ihx := all n (Nat.le_refl _)
    have ihc := (exec_ok hT hF hK hmx n).2
    refine ⟨?_, ?_⟩
    · intro c s r s' e b m a w h
      cases c with
      | skip => simp only [exec] at e; cases e; exact wp_skip ⟨m, trivial, h⟩
      | label l => simp only [exec] at e; cases e; exact wp_label ⟨m, trivial, h⟩
      | exit id => simp only [exec] at e; cases e; exact wp_exit ⟨m, rfl, h⟩
      | ret => simp only [exec] at e; cases e; exact wp_ret ⟨m, trivial, h⟩
      | seq x y =>
        simp only [exec] at e
        refine wp_seq ?_
        split at e
        · rename_i s1 h1
          refine wp_mono (ihx _ _ _ _ h1 _ _ _ _ h) ?_
          rintro e1 a' w' ⟨m', q1, q2⟩
          cases e1 with
          | normal => exact ihx _ _ _ _ e _ _ _ _ q2
          | _ => exact q1.elim
        · rename_i hne
          refine wp_mono (ihx _ _ _ _ e _ _ _ _ h) ?_
          rintro e1 a' w' ⟨m', q1, q2⟩
          cases e1 with
          | normal =>
            cases r with
            | normal => exact absurd e (hne _)
            | _ => exact q1.elim
          | _ => exact ⟨m', q1, q2⟩
      | cond x y z =>
        simp only [exec] at e
        split at e
        · rename_i hv
          exact wp_cond_split (h.ag.evs _ _ hv).bool_inv (fun _ => ihx _ _ _ _ e _ _ _ _ h) (fun c => by cases c)
        · rename_i hv
          exact wp_cond_split (h.ag.evs _ _ hv).bool_inv (fun c => by cases c) (fun _ => ihx _ _ _ _ e _ _ _ _ h)
        · cases e
      | block id x =>
        simp only [exec] at e
        refine wp_block ?_
        split at e
        · rename_i i s1 h1
          refine wp_mono (ihx _ _ _ _ h1 _ _ _ _ h) ?_
          rintro e1 a' w' ⟨m', q1, q2⟩
          cases e1 with
          | exit i' =>
            have hi : i' = i := q1
            subst hi
            show if i' = id then _ else _
            cases hb : Nat.beq i' id with
            | true =>
              rw [hb] at e
              cases e
              rw [if_pos (Nat.eq_of_beq_eq_true hb)]
              exact ⟨m', trivial, q2⟩
            | false =>
              rw [hb] at e
              cases e
              rw [if_neg (fun c => by rw [c] at hb; simp at hb)]
              exact ⟨m', rfl, q2⟩
          | _ => exact q1.elim
        · rename_i hne
          refine wp_mono (ihx _ _ _ _ e _ _ _ _ h) ?_
          rintro e1 a' w' ⟨m', q1, q2⟩
          cases e1 with
          | exit i' =>
            cases r with
            | exit i => exact absurd e (hne _ _)
            | _ => exact q1.elim
          | _ => exact ⟨m', q1, q2⟩
      | scope x =>
        simp only [exec] at e
        refine wp_scope_straight (wp_mono (ihx _ _ _ _ e _ _ _ _ h) ?_)
        rintro e1 a' w' ⟨m', q1, q2⟩
        cases e1 with
        | goto l => cases r <;> exact q1.elim
        | _ => exact ⟨m', q1, q2⟩
      | loop x => exact wp_loop_rounds (n + 1) (loop_rounds (n + 1) (fun k hk => all k (by omega)) e h)
      | region id ops draw =>
        cases draw with
        | false =>
          simp only [exec] at e
          have := seqOps_ok hT ihc (Q := CPost P b r s') h e (fun c m' a' w' h' => ⟨m', by rw [c]; trivial, h'⟩) (fun ch m' c a' w' c1 c2 h' => ⟨m', by rw [c1]; exact c2, h'⟩)
          refine wp_region_list (Q := CPost P b r s') ?_
          rw [Array.toArray_toList] at this
          exact this
        | true =>
          simp only [exec] at e
          exact drawn_ok hT ihc hmx h e
      | rangeFunc f p x y => simp [exec] at e
      | goto l => simp [exec] at e
      | refuse y => simp [exec] at e
    · intro f args h r e
      simp only [call] at e
      exact callF_ok hT hF hK ihc ihx f args h r e
end
end Go.Ev
