/-
  A run reckoned out: a function that makes rows of a map's keys, told by its contract (a premise); and one that makes a sorted list of the keys that are marked.
-/
import Derived.Test.YtjclpdlijblpjaaGreatEvn
import Derived.Test.YtjclpdlijblpjaaGreatSlb
namespace Go.Ev
set_option linter.unusedVariables false
set_option linter.unusedSimpArgs false

/-- the keys of a map: whole numbers from 0 on; born apart, before the clock -/
noncomputable def keysM (ck : Nat) : List MapEntry → Option (List Int)
  | [] => some []
  | e :: l => match e.key with
    | .int .i64 k => bif decide (0 ≤ k) && decide (k < 1099511627776) && Nat.blt e.born ck && l.all (fun x => !(Nat.beq x.born e.born)) then (match keysM ck l with
      | some r => some (k :: r)
      | none => none) else none
    | _ => none
noncomputable def pageK (ks : List Int) : List (Int × Int) := ks.map fun k => (k, k + 1)
noncomputable def hkList (f t : Nat) : Hk := fun g args h => bif Nat.beq g f then (match args with
  | [.map (some r)] => match h.at r with
    | some (.map es ck) => match keysM ck es with
      | some ks => bif isLen ks 0 || !(Nat.ble ks.length 12) || !(roomy h) then none else (match normR (pageK ks) with
        | [] => none
        | p :: q => some (.ret (.slice (some ⟨h.nx, 0, none⟩) (p :: q).length (p :: q).length) (h.add (.cells (flatP (p :: q)) t false))))
      | none => none
    | _ => none
  | _ => none) else none

theorem keysM_ok {m : Mp} {ck : Nat} : ∀ {es es' : List MapEntry} {ks : List Int}, keysM ck es = some ks → REs m es es' →
    ∃ ms : List (Int × Value), ms.map (·.1) = ks ∧ (es'.map fun e => (e.key, e.val)) = ms.map (fun p => (Value.int .i64 p.1, p.2)) ∧ (es'.map (·.born)).Nodup ∧ (∀ e ∈ es', e.born < ck) ∧ (∀ e' ∈ es', ∃ e ∈ es, e'.born = e.born) ∧ (∀ p ∈ ms, 0 ≤ p.1 ∧ p.1 < 1099511627776)
  | [], _, _, e, .nil => by
    cases e
    exact ⟨[], rfl, rfl, .nil, (fun _ h => by cases h), (fun _ h => by cases h), (fun _ h => by cases h)⟩
  | x :: l, _, _, e, .cons (e' := x') (l' := l') r rs => by
    unfold keysM at e
    split at e
    · rename_i k hkey
      cases hb : (decide (0 ≤ k) && decide (k < 1099511627776) && Nat.blt x.born ck && l.all (fun y => !(Nat.beq y.born x.born))) with
      | false => rw [hb] at e; cases e
      | true =>
        rw [hb, cond_true] at e
        simp only [Bool.and_eq_true, decide_eq_true_eq, List.all_eq_true, Bool.not_eq_true'] at hb
        obtain ⟨⟨⟨b1, b2⟩, b3⟩, b4⟩ := hb
        split at e
        · rename_i ks hks
          cases e
          obtain ⟨ms, m1, m2, m3, m4, m5, m6⟩ := keysM_ok hks rs
          have hk := r.key
          rw [hkey] at hk
          have hk' : x'.key = .int .i64 k := by
            revert hk
            generalize x'.key = kk
            intro hk
            cases hk
            rfl
          have hlt : x.born < ck := by simpa [Nat.blt_eq] using b3
          refine ⟨(k, x'.val) :: ms, by simp [m1], by simp [m2, hk'], ?_, ?_, ?_, ?_⟩
          · simp only [List.map_cons, List.nodup_cons]
            refine ⟨fun hm => ?_, m3⟩
            obtain ⟨y', hy', hyb⟩ := List.mem_map.1 hm
            obtain ⟨y, hy, hyb'⟩ := m5 y' hy'
            have := b4 y hy
            rw [← hyb', hyb, r.born] at this
            simp at this
          · intro y hy
            rcases List.mem_cons.1 hy with rfl | hy
            · rw [r.born]; exact hlt
            · exact m4 y hy
          · intro y hy
            rcases List.mem_cons.1 hy with rfl | hy
            · exact ⟨x, by simp, r.born⟩
            · obtain ⟨z, hz, hb⟩ := m5 y hy
              exact ⟨z, by simp [hz], hb⟩
          · intro p hp
            rcases List.mem_cons.1 hp with rfl | hp
            · exact ⟨b1, b2⟩
            · exact m6 p hp
        · cases e
    · cases e

theorem hkList_ok {P : Program} {f t : Nat} (hc : ∀ args w, (callFunc f args).run P w = .ok (.enter f args) w) (hsz : esz P t = 2)
    (h1 : ∀ (M : Nat) (o : Obj) (ms : List (Int × Value)) (w : World), w.heap[M]? = some o → Sl.MapIs (fun n => Value.int .i64 n) o ms → (∀ p ∈ ms, 0 ≤ p.1 ∧ p.1 < 1099511627776) → 0 < ms.length → ms.length ≤ 12 →
      Calls P f #[.map (some M)] w fun e w' => ∃ v', e = .returned v' ∧ RowsNew t w w' v' (normR (pageK (ms.map (·.1))))) : HkOk P (hkList f t) := by
  intro g args h r e m w args' hr hf ha
  unfold hkList at e
  cases hb : Nat.beq g f with
  | false => rw [hb] at e; cases e
  | true =>
    rw [hb, cond_true] at e
    obtain rfl := Nat.eq_of_beq_eq_true hb
    refine ⟨hc _ _, ?_⟩
    split at e
    · rename_i k
      split at e
      · rename_i es ck hat
        split at e
        · rename_i ks hks
          cases hb2 : (isLen ks 0 || !(Nat.ble ks.length 12) || !(roomy h)) with
          | true => rw [hb2] at e; cases e
          | false =>
            rw [hb2, cond_false] at e
            simp only [Bool.or_eq_false_iff, Bool.not_eq_false'] at hb2
            obtain ⟨⟨c1, c2⟩, hroom⟩ := hb2
            have hn12 := Nat.le_of_ble_eq_true c2
            have hn0 : 0 < ks.length := by
              rcases Nat.eq_zero_or_pos ks.length with h0 | h0
              · rw [isLen_eq, h0] at c1; cases c1
              · exact h0
            cases ha with
            | cons r1 r2 =>
              cases r2
              cases r1 with
              | scal hx => cases hx
              | map hm =>
                rename_i b x
                obtain ⟨b2, x2, f1, es', f2, f3⟩ := hr.obj k _ hat
                rw [hm] at f1
                cases f1
                obtain ⟨ms, m1, m2, m3, m4, _, m6⟩ := keysM_ok hks f3
                have hlen : ms.length = ks.length := by rw [← m1]; simp
                refine (h1 b _ ms w f2 ⟨es', ck, rfl, m2, m3, m4⟩ m6 (by omega) (by omega)).mono ?_
                rintro en w' ⟨v', rfl, z1, z2, z3, z4, z5, z6⟩
                rw [m1] at z6
                split at e
                · cases e
                · rename_i p ps hcons
                  cases e
                  rw [hcons] at z6
                  rcases z6 with ⟨hno, _⟩ | ⟨_, b', x', c', y1, rfl, y3, y4, y5⟩
                  · cases hno
                  · have hfl : (flatP (p :: ps)).length = (p :: ps).length * 2 := flatP_len _
                    obtain ⟨s1, s2⟩ := add_at hr hf hroom (o := .cells (flatP (p :: ps)) t false) (b := b') (x := x') (w' := w') y1 z1 z2
                      ⟨c', (0, 0), y3, .inl rfl, by rw [y4, hfl, hsz], ⟨_, by rw [hfl, y5]; exact RVs.scal (flatP_scal _), rfl⟩, fun c => by cases c⟩ z3 z4 z5
                    exact ⟨_, _, rfl, .slice ext1_self, s1, ext1_fresh hf _, s2, Nat.le_succ _⟩
        · cases e
      · cases e
    · cases e

noncomputable def insK (k : Int) : List Int → List Int
  | [] => [k]
  | x :: l => match decide (k ≤ x) with
    | true => k :: x :: l
    | false => x :: insK k l
noncomputable def sortK : List Int → List Int
  | [] => []
  | k :: l => insK k (sortK l)
theorem insK_perm (k : Int) : ∀ l : List Int, (insK k l).Perm (k :: l)
  | [] => .refl _
  | x :: l => by
    show (match decide (k ≤ x) with | true => k :: x :: l | false => x :: insK k l).Perm (k :: x :: l)
    split
    · exact .refl _
    · exact ((insK_perm k l).cons x).trans (.swap _ _ _)
theorem insK_sorted (k : Int) : ∀ l : List Int, l.Pairwise (· ≤ ·) → (insK k l).Pairwise (· ≤ ·)
  | [], _ => by simp [insK]
  | x :: l, h => by
    rw [List.pairwise_cons] at h
    show (match decide (k ≤ x) with | true => k :: x :: l | false => x :: insK k l).Pairwise (· ≤ ·)
    split
    · rename_i hd
      have hd := of_decide_eq_true hd
      rw [List.pairwise_cons, List.pairwise_cons]
      refine ⟨fun y hy => ?_, h⟩
      rcases List.mem_cons.1 hy with rfl | hy
      · exact hd
      · have := h.1 y hy; omega
    · rename_i hd
      have hd := of_decide_eq_false hd
      rw [List.pairwise_cons]
      refine ⟨fun y hy => ?_, insK_sorted k l h.2⟩
      rcases List.mem_cons.1 ((insK_perm k l).mem_iff.1 hy) with rfl | hy
      · omega
      · exact h.1 y hy
theorem sortK_perm : ∀ l : List Int, (sortK l).Perm l
  | [] => .refl _
  | k :: l => (insK_perm k _).trans ((sortK_perm l).cons k)
theorem sortK_sorted : ∀ l : List Int, (sortK l).Pairwise (· ≤ ·)
  | [] => .nil
  | k :: l => insK_sorted k _ (sortK_sorted l)

/-- new whole numbers in the world behind a call: nil where there are none -/
def IntsNew (t : TypeId) (w w' : World) (v : Value) (ks : List Int) : Prop :=
  (∀ b, b < w.heap.size → w'.heap[b]? = w.heap[b]?) ∧ w.heap.size ≤ w'.heap.size ∧ w'.os = w.os ∧ w'.tape = w.tape ∧ w'.output = w.output ∧
  ((ks = [] ∧ v = .slice none 0 0) ∨
   (ks ≠ [] ∧ ∃ b x c', w.heap.size ≤ b ∧ v = .slice (some ⟨b, 0, none⟩) ks.length (ks.length + x) ∧ w'.heap[b]? = some (.cells c' t (0, 0)) ∧ c'.size = ks.length + x ∧ c'.toList.take ks.length = ks.map (Value.int .i64)))

noncomputable def cellO (h : Hp) (k i : Nat) : Option Value := match h.at k with
  | some (.cells c _ _) => nthR c i
  | _ => none
noncomputable def marksM (h : Hp) : List MapEntry → Option (List Bool)
  | [] => some []
  | e :: l => match e.val with
    | .pointer (some a) => match cellO h a.block (a.off + 2) with
      | some (.bool b) => match marksM h l with
        | some r => some (b :: r)
        | none => none
      | _ => none
    | _ => none
noncomputable def pickK : List Int → List Bool → List Int
  | k :: ks, b :: bs => match b with
    | true => k :: pickK ks bs
    | false => pickK ks bs
  | _, _ => []
noncomputable def intV : List Int → List Value
  | [] => []
  | k :: l => .int .i64 k :: intV l
theorem intV_eq : ∀ l : List Int, intV l = l.map (Value.int .i64)
  | [] => rfl
  | k :: l => by rw [List.map_cons, ← intV_eq l]; rfl
theorem intV_scal : ∀ l : List Int, (intV l).all Ev.scal = true
  | [] => rfl
  | k :: l => by show (true && (intV l).all Ev.scal) = true; rw [intV_scal l]; rfl
noncomputable def hkMark (f t : Nat) : Hk := fun g args h => bif Nat.beq g f then (match args with
  | [.pointer (some a)] => match cellO h a.block (a.off + 6) with
    | some (.map (some r)) => match h.at r with
      | some (.map es ck) => match keysM ck es, marksM h es with
        | some ks, some bs => bif !(Nat.ble ks.length 100) || !(roomy h) then none else (match sortK (pickK ks bs) with
          | [] => some (.ret (.slice none 0 0) h)
          | p :: q => some (.ret (.slice (some ⟨h.nx, 0, none⟩) (p :: q).length (p :: q).length) (h.add (.cells (intV (p :: q)) t false))))
        | _, _ => none
      | _ => none
    | _ => none
  | _ => none) else none

/-- the entries with their marks -/
def MksT (w : World) (T : List (Int × Value × Bool)) : Prop := ∀ x ∈ T, ∃ b o, x.2.1 = .pointer (some ⟨b, o, none⟩) ∧ w.cell? ⟨b, o + 2, none⟩ = some (.bool x.2.2)
def markT (T : List (Int × Value × Bool)) : List Int := (T.filter (·.2.2)).map (·.1)

section
variable {P : Program} {m : Mp} {h : Hp} {w : World}
theorem cellO_ok (hr : Rep P m h.at w) {k i b x : Nat} {v : Value} (e : cellO h k i = some v) (hm : m k = some (b, x)) : ∃ v', RV m v v' ∧ w.cell? ⟨b, i, none⟩ = some v' := by
  unfold cellO at e
  split at e
  · rename_i c t ex hat
    rw [nthR_eq] at e
    obtain ⟨l3, g1, g2, g3, _⟩ := rd_ok hr (k := k) (off := i) (n := 1) (l := [v]) (by
      rw [rd_eq, hat]
      have hlt := (List.getElem?_eq_some_iff.1 e).1
      have : Nat.ble (i + 1) c.length = true := Nat.ble_eq_true_of_le hlt
      simp only [this, cond_true]
      congr 1
      rw [List.take_one, List.head?_drop, e]
      rfl) hm
    cases g1 with
    | cons r rs =>
      cases rs
      exact ⟨_, r, by have := g3 0 _ rfl; rw [Addr.add_none] at this; simpa using this⟩
  · cases e
theorem marksM_ok (hr : Rep P m h.at w) : ∀ {es es' : List MapEntry} {bs : List Bool} {ms : List (Int × Value)}, marksM h es = some bs → REs m es es' → (es'.map fun e => (e.key, e.val)) = ms.map (fun p => (Value.int .i64 p.1, p.2)) →
    ∃ T : List (Int × Value × Bool), T.map (fun x => (x.1, x.2.1)) = ms ∧ T.map (·.2.2) = bs ∧ MksT w T
  | [], _, _, ms, e, .nil, e2 => by
    cases e
    have : ms = [] := by simpa using e2.symm
    subst this
    exact ⟨[], rfl, rfl, fun _ h => by cases h⟩
  | x :: l, _, _, ms, e, .cons (e' := x') (l' := l') r rs, e2 => by
    unfold marksM at e
    split at e
    · rename_i a hval
      split at e
      · rename_i b hcell
        split at e
        · rename_i q hq
          cases e
          cases ms with
          | nil => cases e2
          | cons p ms =>
            simp only [List.map_cons, List.cons.injEq, Prod.mk.injEq] at e2
            obtain ⟨⟨e3, e4⟩, e5⟩ := e2
            obtain ⟨T, t1, t2, t3⟩ := marksM_ok hr hq rs e5
            have hv := r.val
            rw [hval, e4] at hv
            have hp : ∃ b2 x2, p.2 = .pointer (some ⟨b2, a.off, none⟩) ∧ m a.block = some (b2, x2) := by
              revert hv
              generalize p.2 = pv
              intro hv
              cases hv with
              | scal hx => cases hx
              | ptr hm => exact ⟨_, _, rfl, hm⟩
            obtain ⟨b2, x2, hp1, hp2⟩ := hp
            obtain ⟨v', c1, c2⟩ := cellO_ok hr hcell hp2
            cases c1
            refine ⟨(p.1, p.2, b) :: T, by simp [t1], by simp [t2], fun y hy => ?_⟩
            rcases List.mem_cons.1 hy with rfl | hy
            · exact ⟨b2, a.off, hp1, c2⟩
            · exact t3 y hy
        · cases e
      · cases e
    · cases e
theorem pick_mark : ∀ T : List (Int × Value × Bool), pickK (T.map (·.1)) (T.map (·.2.2)) = markT T
  | [] => rfl
  | (k, v, b) :: T => by
    have ih := pick_mark T
    cases b
    · show pickK (T.map (·.1)) (T.map (·.2.2)) = _
      rw [ih]; rfl
    · show k :: pickK (T.map (·.1)) (T.map (·.2.2)) = _
      rw [ih]; rfl
end

theorem hkMark_ok {P : Program} {f t : Nat} (hc : ∀ args w, (callFunc f args).run P w = .ok (.enter f args) w) (hsz : esz P t = 1)
    (h1 : ∀ (L lo M : Nat) (o : Obj) (T : List (Int × Value × Bool)) (w : World), w.cell? ⟨L, lo + 6, none⟩ = some (.map (some M)) → w.heap[M]? = some o → Sl.MapIs (fun n => Value.int .i64 n) o (T.map fun x => (x.1, x.2.1)) → MksT w T → T.length ≤ 100 →
      Calls P f #[.pointer (some ⟨L, lo, none⟩)] w fun e w' => ∃ v', e = .returned v' ∧ IntsNew t w w' v' (sortK (markT T))) : HkOk P (hkMark f t) := by
  intro g args h r e m w args' hr hf ha
  unfold hkMark at e
  cases hb : Nat.beq g f with
  | false => rw [hb] at e; cases e
  | true =>
    rw [hb, cond_true] at e
    obtain rfl := Nat.eq_of_beq_eq_true hb
    refine ⟨hc _ _, ?_⟩
    split at e
    · rename_i a
      split at e
      · rename_i k hcell
        split at e
        · rename_i es ck hat
          split at e
          · rename_i ks bs hks hbs
            cases hb2 : (!(Nat.ble ks.length 100) || !(roomy h)) with
            | true => rw [hb2] at e; cases e
            | false =>
              rw [hb2, cond_false] at e
              simp only [Bool.or_eq_false_iff, Bool.not_eq_false'] at hb2
              obtain ⟨c2, hroom⟩ := hb2
              have hn12 := Nat.le_of_ble_eq_true c2
              cases ha with
              | cons r1 r2 =>
                cases r2
                cases r1 with
                | scal hx => cases hx
                | ptr hmL =>
                  rename_i b0 x0 kL oL
                  obtain ⟨vM, d1, d2⟩ := cellO_ok hr hcell hmL
                  cases d1 with
                  | scal hx => cases hx
                  | map hm =>
                    rename_i b x
                    obtain ⟨b2, x2, f1, es', f2, f3⟩ := hr.obj k _ hat
                    rw [hm] at f1
                    cases f1
                    obtain ⟨ms, m1, m2, m3, m4, _, m6⟩ := keysM_ok hks f3
                    obtain ⟨T, t1, t2, t3⟩ := marksM_ok hr hbs f3 m2
                    have hlen : T.length = ks.length := by rw [← m1, ← t1]; simp
                    have hpk : pickK ks bs = markT T := by
                      rw [← pick_mark, t2, ← m1, ← t1, List.map_map]
                      rfl
                    rw [hpk] at e
                    refine (h1 _ _ b _ T w d2 f2 (by rw [t1]; exact ⟨es', ck, rfl, m2, m3, m4⟩) t3 (by omega)).mono ?_
                    rintro en w' ⟨v', rfl, z1, z2, z3, z4, z5, z6⟩
                    have st0 : Rep P m h.at w' ∧ Stp h.at m w h.at m w' h.nx h.nx := by
                      refine ⟨⟨fun k o e => ?_, hr.inj⟩, ⟨m.le_refl, fun k e => absurd rfl e, fun k b x e e1 => .inl ⟨k, x, e, e1⟩, fun k e => .inl e, fun b hb _ => z1 b hb, z2, z3, z4, z5⟩⟩
                      obtain ⟨b, x, f1, f2⟩ := hr.obj k o e
                      exact ⟨b, x, f1, by rw [z1 b (hr.lt (by rw [e]; simp) f1)]; exact f2⟩
                    split at e
                    · rename_i hnil
                      cases e
                      rcases z6 with ⟨_, rfl⟩ | ⟨hne, _⟩
                      · exact ⟨m, _, rfl, .scal rfl, st0.1, hf, st0.2, Nat.le_refl _⟩
                      · exact absurd hnil hne
                    · rename_i p ps hcons
                      cases e
                      rw [hcons] at z6
                      rcases z6 with ⟨hno, _⟩ | ⟨_, b', x', c', y1, rfl, y3, y4, y5⟩
                      · cases hno
                      · have hfl : (intV (p :: ps)).length = (p :: ps).length := by rw [intV_eq]; simp
                        obtain ⟨s1, s2⟩ := add_at hr hf hroom (o := .cells (intV (p :: ps)) t false) (b := b') (x := x') (w' := w') y1 z1 z2
                          ⟨c', (0, 0), y3, .inl rfl, by rw [y4, hfl, hsz]; omega, ⟨_, by rw [hfl, y5, ← intV_eq]; exact RVs.scal (intV_scal _), rfl⟩, fun c => by cases c⟩ z3 z4 z5
                        exact ⟨_, _, rfl, .slice ext1_self, s1, ext1_fresh hf _, s2, Nat.le_succ _⟩
          · cases e
        · cases e
      · cases e
    · cases e
end Go.Ev
