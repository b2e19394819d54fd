/-
  A run reckoned out: what the reckoning of a call says is so, of every world.
-/
import Derived.Test.YtebhnbecjmdicaaGreatDoorEv16
namespace Go.Ev
set_option linter.unusedVariables false
set_option linter.unusedSimpArgs false
set_option linter.unusedSectionVars false
variable {X : Type} [ExtA X]

section
variable {P : Program} {T : Tb} {F : Fb} {K : (Hk X)} {b : (Bs X)} {s s' : (St X)} {m : Mp} {a : Act} {w : World}

theorem LPost.of {L : List (Ex × (St X))} {m' : Mp} {r : Ex} {s1 : (St X)} {e : Exit} {a' : Act} {w' : World} (h1 : (r, s1) ∈ L) (h2 : ExR m' r e) (h3 : At P b s1 m' a' w') : LPost P b L e a' w' := ⟨(r, s1), m', h1, h2, h3⟩

theorem rounds_mono {c : Code} {Q Q' : Exit → Act → World → Prop} (h : ∀ e a w, Q e a w → Q' e a w) : ∀ {n : Nat} {a : Act} {w : World}, Code.rounds P c Q n a w → Code.rounds P c Q' n a w
  | 0, _, _, q => q
  | n + 1, a, w, q => by
    rw [rounds_succ] at q ⊢
    refine wp_mono q ?_
    intro e a' w' q1
    cases e with
    | normal => exact rounds_mono h (n := n) q1
    | _ => exact h _ _ _ q1

theorem loop_rounds {c : Code} : ∀ (n : Nat), (∀ k, k < n → RunOk P (exec T F K k)) → ∀ {s : (St X)} {m : Mp} {a : Act} {w : World} {L : List (Ex × (St X))}, exec T F K n (.loop c) s = some L → At P b s m a w → Code.rounds P c (LPost P b L) n a w
  | 0, hk, s, m, a, w, L, e, h => by simp [exec] at e
  | n + 1, hk, s, m, a, w, L, e, h => by
    simp only [exec] at e
    rw [rounds_succ]
    split at e
    · rename_i L1 h1
      refine wp_mono (hk n (by omega) _ _ _ h1 _ _ _ _ h) ?_
      rintro e1 a' w' ⟨⟨r1, s1⟩, m', q0, q1, q2⟩
      obtain ⟨L2, g1, g2⟩ := each_mem e _ q0
      simp only at q1 q2
      cases r1 with
      | normal =>
        cases e1 with
        | normal => exact rounds_mono (fun e a w q => LPost.sub g2 q) (loop_rounds n (fun k hk' => hk k (by omega)) (by simpa only [thenB] using g1) q2)
        | _ => exact q1.elim
      | _ =>
        simp only [thenB] at g1
        cases g1
        have q3 := g2 _ (List.mem_singleton.2 rfl)
        cases e1 with
        | normal => exact q1.elim
        | _ => exact LPost.of q3 q1 q2
    · cases e

theorem exec_ok (hT : TbOk P T) (hF : FbOk P F) (hK : HkOk P K) (hmx : P.follows .mixedOrders = true) : ∀ n, RunOk P (exec T F K n) ∧ CalOk P (call T F K n)
  | 0 => ⟨fun c s L e => by simp [exec] at e, fun f args h r e => by simp [call] at e⟩
  | n + 1 => by
    have all : ∀ k, k ≤ n → RunOk P (exec T F K k) := fun k hk => (exec_ok hT hF hK hmx k).1
    have ihx := all n (Nat.le_refl _)
    have ihc := (exec_ok hT hF hK hmx n).2
    refine ⟨?_, ?_⟩
    · intro c s L e b m a w h
      cases c with
      | skip => simp only [exec] at e; cases e; exact wp_skip (LPost.of (List.mem_singleton.2 rfl) trivial h)
      | label l => simp only [exec] at e; cases e; exact wp_label (LPost.of (List.mem_singleton.2 rfl) trivial h)
      | exit id => simp only [exec] at e; cases e; exact wp_exit (LPost.of (List.mem_singleton.2 rfl) rfl h)
      | ret => simp only [exec] at e; cases e; exact wp_ret (LPost.of (List.mem_singleton.2 rfl) trivial h)
      | seq x y =>
        simp only [exec] at e
        refine wp_seq ?_
        split at e
        · rename_i L1 h1
          refine wp_mono (ihx _ _ _ h1 _ _ _ _ h) ?_
          rintro e1 a' w' ⟨⟨r1, s1⟩, m', q0, q1, q2⟩
          obtain ⟨L2, g1, g2⟩ := each_mem e _ q0
          simp only at q1 q2
          cases r1 with
          | normal =>
            cases e1 with
            | normal => exact wp_mono (ihx _ _ _ (by simpa only [thenB] using g1) _ _ _ _ q2) (fun e a w q => LPost.sub g2 q)
            | _ => exact q1.elim
          | _ =>
            simp only [thenB] at g1
            cases g1
            have q3 := g2 _ (List.mem_singleton.2 rfl)
            cases e1 with
            | normal => exact q1.elim
            | _ => exact LPost.of q3 q1 q2
        · cases e
      | cond x y z =>
        simp only [exec] at e
        split at e
        · rename_i hv
          exact wp_cond_split (h.ag.evs _ _ hv).bool_inv (fun _ => ihx _ _ _ e _ _ _ _ h) (fun c => by cases c)
        · rename_i hv
          exact wp_cond_split (h.ag.evs _ _ hv).bool_inv (fun c => by cases c) (fun _ => ihx _ _ _ e _ _ _ _ h)
        · cases e
      | block id x =>
        simp only [exec] at e
        refine wp_block ?_
        split at e
        · rename_i L1 h1
          cases e
          refine wp_mono (ihx _ _ _ h1 _ _ _ _ h) ?_
          rintro e1 a' w' ⟨⟨r1, s1⟩, m', q0, q1, q2⟩
          have g := List.mem_map_of_mem (f := outB id) q0
          simp only at q1 q2
          cases r1 with
          | exit i =>
            cases e1 with
            | exit i' =>
              have hi : i' = i := q1
              subst hi
              show if i' = id then _ else _
              cases hb : Nat.beq i' id with
              | true =>
                rw [if_pos (Nat.eq_of_beq_eq_true hb)]
                exact LPost.of (r := .normal) (by simpa only [outB, hb, cond_true] using g) trivial q2
              | false =>
                rw [if_neg (fun c => by rw [c] at hb; simp at hb)]
                exact LPost.of (r := .exit i') (by simpa only [outB, hb, cond_false] using g) rfl q2
            | _ => exact q1.elim
          | _ =>
            simp only [outB] at g
            cases e1 with
            | exit i' => exact q1.elim
            | _ => exact LPost.of g q1 q2
        · cases e
      | scope x =>
        simp only [exec] at e
        refine wp_scope_straight (wp_mono (ihx _ _ _ e _ _ _ _ h) ?_)
        rintro e1 a' w' ⟨⟨r1, s1⟩, m', q0, q1, q2⟩
        simp only at q1 q2
        cases e1 with
        | goto l => cases r1 <;> exact q1.elim
        | _ => exact LPost.of q0 q1 q2
      | loop x => exact wp_loop_rounds (n + 1) (loop_rounds (n + 1) (fun k hk => all k (by omega)) e h)
      | region id ops draw =>
        cases draw with
        | false =>
          simp only [exec] at e
          have := seqOps_ok hT ihc (Q := LPost P b L) h e (fun e a' w' q => q)
          refine wp_region_list (Q := LPost P b L) ?_
          rw [Array.toArray_toList] at this
          exact this
        | true =>
          simp only [exec] at e
          split at e
          · rename_i r1 h1
            obtain ⟨r, s1⟩ := r1
            cases e
            refine wp_mono (drawn_ok hT ihc hmx h h1) ?_
            rintro e1 a' w' ⟨m', q1, q2⟩
            exact LPost.of (List.mem_singleton.2 rfl) q1 q2
          · cases e
      | rangeFunc f p x y => simp [exec] at e
      | goto l => simp [exec] at e
      | refuse y => simp [exec] at e
    · intro f args h r e
      simp only [call] at e
      exact callF_ok hT hF hK ihc ihx f args h r e
end
end Go.Ev
