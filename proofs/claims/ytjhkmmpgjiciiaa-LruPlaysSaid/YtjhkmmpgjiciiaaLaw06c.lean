/-
  LruPinned: the walk.
-/
import Derived.Test.YtjhkmmpgjiciiaaLaw06a
import Derived.Test.YtjhkmmpgjiciiaaSlr
namespace Go.Proofs.Ytjhkmmpgjiciiaa
set_option linter.unusedSimpArgs false
set_option linter.unusedVariables false
open Go.RowKit Go.Sl Go.Lru

abbrev crow (c : Int × Int) : List Value := [.int .i64 c.1, .int .i64 c.2]

/-- what holds of the list behind j calls -/
def PinRel (p : Int) (j cap : Nat) (ns : List Nd) : Prop :=
  Keyd ns ∧ (∀ n ∈ ns, 0 ≤ n.pins ∧ n.pins ≤ 1 + j) ∧ ns.length ≤ cap ∧ ∃ n ∈ ns, n.key = p ∧ 1 ≤ n.pins

theorem PinRel.has {p : Int} {j cap : Nat} {ns : List Nd} (h : PinRel p j cap ns) : hasB ns p = true := by
  obtain ⟨_, _, _, n, hn, hk, _⟩ := h
  simp only [hasB, List.any_eq_true]
  exact ⟨n, hn, by simpa using hk⟩

theorem PinRel.up {p : Int} {j cap : Nat} {ns : List Nd} (h : PinRel p j cap ns) : PinRel p (j + 1) cap ns := by
  obtain ⟨h1, h2, h3, h4⟩ := h
  exact ⟨h1, fun n hn => by have := h2 n hn; omega, h3, h4⟩

theorem keyd_inj {ns : List Nd} (h : Keyd ns) {a b : Nd} (ha : a ∈ ns) (hb : b ∈ ns) (e : a.key = b.key) : a = b := by
  obtain ⟨l1, l2, rfl⟩ := List.append_of_mem ha
  obtain ⟨h1, h2⟩ := keyd_ne h
  rcases List.mem_append.1 hb with hb | hb
  · exact absurd e.symm (h1 b hb)
  · rcases List.mem_cons.1 hb with rfl | hb
    · rfl
    · exact absurd e.symm (h2 b hb)

theorem PinRel.use {p : Int} {j cap : Nat} {ns : List Nd} (h : PinRel p j cap ns) (k : Int) : PinRel p (j + 1) cap (useL ns k) := by
  obtain ⟨h1, h2, h3, n, h4, h5⟩ := h.up
  have hp := use_perm ns k
  exact ⟨keyd_use h1 k, fun m hm => h2 m (hp.mem_iff.1 hm), by rw [hp.length_eq]; exact h3, n, hp.mem_iff.2 h4, h5⟩

theorem keyd_pin {ns : List Nd} (h : Keyd ns) (k : Int) : Keyd (atL (fun n => { n with pins := n.pins + 1 }) ns k) := keyd_at (f := fun n => { n with pins := n.pins + 1 }) (fun _ => rfl) h k
theorem keyd_unpin {ns : List Nd} (h : Keyd ns) (k : Int) : Keyd (atL (fun n => { n with pins := if n.pins = 0 then 0 else n.pins - 1 }) ns k) := keyd_at (f := fun n => { n with pins := if n.pins = 0 then 0 else n.pins - 1 }) (fun _ => rfl) h k

theorem PinRel.pin {p : Int} {j cap : Nat} {ns : List Nd} (h : PinRel p j cap ns) (k : Int) : PinRel p (j + 1) cap (atL (fun n => { n with pins := n.pins + 1 }) ns k) := by
  obtain ⟨h1, h2, h3, n, h4, h5, h6⟩ := h
  refine ⟨keyd_pin h1 k, ?_, by simp [atL]; exact h3, ?_⟩
  · intro m hm
    obtain ⟨m0, hm0, rfl⟩ := List.mem_map.1 hm
    have := h2 m0 hm0
    split
    · simp only; omega
    · omega
  · refine ⟨_, List.mem_map.2 ⟨n, h4, rfl⟩, ?_⟩
    split
    · exact ⟨h5, by simp only; omega⟩
    · exact ⟨h5, h6⟩

theorem PinRel.unpin {p : Int} {j cap : Nat} {ns : List Nd} (h : PinRel p j cap ns) (k : Int) (hk : k ≠ p) : PinRel p (j + 1) cap (atL (fun n => { n with pins := if n.pins = 0 then 0 else n.pins - 1 }) ns k) := by
  obtain ⟨h1, h2, h3, n, h4, h5, h6⟩ := h
  refine ⟨keyd_unpin h1 k, ?_, by simp [atL]; exact h3, ?_⟩
  · intro m hm
    obtain ⟨m0, hm0, rfl⟩ := List.mem_map.1 hm
    have := h2 m0 hm0
    split
    · simp only
      split <;> omega
    · omega
  · refine ⟨_, List.mem_map.2 ⟨n, h4, rfl⟩, ?_⟩
    rw [if_neg (by rw [h5]; exact fun e => hk e.symm)]
    exact ⟨h5, h6⟩

/-- a key that is taken out is not the pinned one -/
theorem PinRel.out {p : Int} {j cap : Nat} {ns : List Nd} (h : PinRel p j cap ns) {n : Nd} (hn : n ∈ ns) (h0 : n.pins = 0) : n.key ≠ p ∧ PinRel p (j + 1) cap (outL ns n.key) ∧ (outL ns n.key).length + 1 ≤ ns.length := by
  have h' := h
  obtain ⟨h1, h2, h3, m, h4, h5, h6⟩ := h.up
  have hne : n.key ≠ p := by
    intro e
    have := keyd_inj h1 hn h4 (e.trans h5.symm)
    subst this
    omega
  have hlt : (outL ns n.key).length + 1 ≤ ns.length := by
    obtain ⟨l1, l2, rfl⟩ := List.append_of_mem hn
    rw [outL_found h1]
    simp; omega
  refine ⟨hne, ⟨keyd_out h1 _, fun x hx => h2 x ((List.mem_filter.1 hx).1), by omega, m, ?_, h5, h6⟩, hlt⟩
  unfold outL
  rw [List.mem_filter]
  exact ⟨h4, by simp; rw [h5]; exact fun e => hne e.symm⟩

theorem PinRel.drop {p : Int} {j cap : Nat} {ns : List Nd} (h : PinRel p j cap ns) (k : Int) :
    PinRel p (j + 1) cap (if (ns.any fun n => n.key == k && n.pins == 0) then outL ns k else ns) ∧ ((ns.any fun n => n.key == k && n.pins == 0) = true → k ≠ p) := by
  cases hb : (ns.any fun n => n.key == k && n.pins == 0) with
  | false => exact ⟨by simpa using h.up, fun h => by cases h⟩
  | true =>
    obtain ⟨n, hn, hk⟩ := List.any_eq_true.1 hb
    simp only [Bool.and_eq_true, beq_iff_eq] at hk
    obtain ⟨rfl, h0⟩ := hk
    obtain ⟨h1, h2, _⟩ := h.out hn h0
    exact ⟨by simpa using h2, fun _ => h1⟩

theorem PinRel.snoc {p : Int} {j cap b : Nat} {ns : List Nd} {k : Int} (h : PinRel p j cap ns) (hl : ns.length + 1 ≤ cap) (hk : hasB ns k = false) : PinRel p j cap (ns ++ [⟨b, k, 0, false⟩]) := by
  obtain ⟨h1, h2, h3, n, h4, h5⟩ := h
  refine ⟨?_, ?_, by simp; exact hl, n, List.mem_append_left _ h4, h5⟩
  · unfold Keyd at *
    rw [List.map_append, List.nodup_append]
    refine ⟨h1, by simp, ?_⟩
    intro x hx y hy e
    simp at hy
    subst hy e
    obtain ⟨m, hm, e⟩ := List.mem_map.1 hx
    simp only [hasB, List.any_eq_false] at hk
    exact absurd e (by simpa using hk m hm)
  · intro m hm
    rcases List.mem_append.1 hm with hm | hm
    · exact h2 m hm
    · simp at hm; subst hm; simp; omega

theorem hasB_out {ns : List Nd} {k x : Int} (h : hasB ns k = false) : hasB (outL ns x) k = false := by
  simp only [hasB, List.any_eq_false] at h ⊢
  intro n hn
  exact h n ((List.mem_filter.1 hn).1)

theorem oldL_mem {ns : List Nd} {n : Nd} (h : oldL ns = some n) : n ∈ ns ∧ n.pins = 0 := by
  refine ⟨List.mem_of_find?_eq_some h, ?_⟩
  have := List.find?_some h
  simpa using this

theorem PinRel.add {p : Int} {j cap : Nat} {ns : List Nd} (h : PinRel p j cap ns) (k : Int) {g : Int} {hh : Bool} {c : Int} {ns' : List Nd} (hA : AddIs cap ns k g hh c ns') :
    PinRel p (j + 1) cap ns' ∧ ((c = 1) ∨ (c = 0 ∧ hh = decide (ns.length = cap) ∧ (hh = true → g ≠ p)) ∨ (c = 9 ∧ ns.length = cap ∧ oldB ns = false)) := by
  have hle := h.2.2.1
  rcases hA with ⟨_, _, _, h5, rfl⟩ | ⟨h1, h2, _, h4, h5, b, rfl⟩ | ⟨_, h2, h3, _, _, h5, rfl⟩ | ⟨h1, h2, n, h3, h4, h5, h6, b, rfl⟩
  · exact ⟨h.up, .inl h5⟩
  · have hne : ns.length ≠ cap := fun e => h2 (by rw [e])
    exact ⟨h.up.snoc (by omega) h1, .inr (.inl ⟨h5, by simp [h4, hne], fun e => by rw [h4] at e; cases e⟩)⟩
  · refine ⟨h.up, .inr (.inr ⟨h5, by exact_mod_cast h2, by unfold oldB; rw [h3]; rfl⟩)⟩
  · obtain ⟨hm, h0⟩ := oldL_mem h3
    obtain ⟨a1, a2, a3⟩ := h.out hm h0
    have he : ns.length = cap := by exact_mod_cast h2
    exact ⟨a2.snoc (by omega) (hasB_out h1), .inr (.inl ⟨h6, by simp [h5, he], fun _ => by rw [h4]; exact a1⟩)⟩

set_option maxRecDepth 100000 in
set_option maxHeartbeats 1000000 in
theorem lruPinned_walk (c0 p : Int) (v : Value) (cs : List (Int × Int)) (w : World) (hv : Rws w v 2 (cs.map crow)) (hm : cs.length ≤ 9223372036854775807) :
    Calls Try.prog 4 #[.int .i64 c0, .int .i64 p, v] w fun e w' => e = .returned (.bool true) ∧ Below w.heap.size w w' := by
  obtain ⟨va, vc, hvv⟩ := hv.len
  rw [List.length_map] at hvv
  obtain ⟨m, hm1, hm2⟩ : ∃ m : Nat, c0 % 9 = (m : Int) ∧ m < 9 := ⟨(c0 % 9).toNat, by omega, by omega⟩
  have hp := pick_any c0 9 w (by omega) (by omega)
  rw [hm1] at hp
  clear hm1
  subst hvv
  go_enter Try.func4, Try.ntmps4
  go_wp2_with (go_at_call 17; refine hp.mono ?_; rintro e w' ⟨rfl, rfl⟩)
  refine (new_yes (1 + m) (old w) w (Sat.old_self w) (by omega) (by omega)).mono ?_
  rintro e w1 ⟨L, M, rfl, hs1⟩
  clear hp
  go_wp2_with fail
  refine (awake06 _ w1 hs1).mono ?_
  rintro e w2 ⟨rfl, hs2⟩
  clear hs1
  go_wp2_with fail
  refine (add_any L M (1 + m) [] p _ w2 hs2 .nil).mono ?_
  rintro e w3 ⟨g3, h3, c3, ns3, rfl, hA, hs3⟩
  obtain ⟨rfl, rfl, rfl, b1, rfl⟩ := add_none_room hA rfl (by simp; omega)
  simp only [List.nil_append] at hs3
  clear hA hs2
  go_wp2_with fail
  have hpin := pin_any L M (1 + m) [⟨b1, p, 0, false⟩] p _ w3 hs3 (by simp [Keyd]) (by simp)
  have e1 : hasB [⟨b1, p, 0, false⟩] p = true := by simp [hasB]
  have e2 : atL (fun n => { n with pins := n.pins + 1 }) [⟨b1, p, 0, false⟩] p = [⟨b1, p, 1, false⟩] := by simp [atL]
  rw [e1, e2] at hpin
  clear e1 e2
  refine hpin.mono ?_
  rintro e w4 ⟨rfl, hs4⟩
  clear hpin hs3
  go_wp2_with fail
  go_loopg [12] cs.length (fun k i wr => ∃ (j : Nat) (ns : List Nd), i = .int .i64 j ∧ j ≤ cs.length ∧ j ≤ 150 ∧ Aside (k = cs.length - j ∧ PinRel p j (1 + m) ns) ∧ Sat (lruP TL TI L M (1 + m) ns * old w) wr)
  case atStart => exact ⟨0, _, rfl, by omega, by omega, ⟨rfl, by simp [Keyd], by simp, by simp, by simp⟩, hs4⟩
  case round =>
    obtain ⟨j, ns, rfl, hj, hj150, A, hs⟩ := hrel
    clear hs4
    by_cases hjl : j < cs.length
    · have hj3 : (j : Int) < cs.length := by omega
      by_cases hj2 : j < 150
      · have hj4 : (j : Int) < 150 := by omega
        obtain ⟨⟨kd, ky⟩, hx⟩ : ∃ x, cs[j]? = some x := ⟨cs[j], by simp [hjl]⟩
        obtain ⟨kb, ko, e1, hcell⟩ := (hv.old (hs.take (old w))).at (show (cs.map crow)[j]? = some (crow (kd, ky)) by simp [hx])
        subst e1
        have x0 := hcell 0 _ rfl
        have x1 := hcell 1 _ rfl
        simp only [Nat.add_zero] at x0
        clear hcell
        have hR := A.out.2
        have hd := hR.1
        have hlen := hR.2.2.1
        have hpb : ∀ n ∈ ns, 0 ≤ n.pins ∧ n.pins < 4611686018427387904 := fun n hn => by have := hR.2.1 n hn; omega
        have hs1 := hs.alloc #[.int .i64 kd, .int .i64 ky] 35
        simp only [block, cells, sep_one, List.length_cons, List.length_nil, Nat.zero_add] at hs1
        have hlen2 : (ns.length : Int) ≤ 1 + m := by omega
        obtain ⟨fl, hfl⟩ : ∃ b, ((ns.length : Int) == 1 + m) = b := ⟨_, rfl⟩
        obtain ⟨bk, hkp⟩ : ∃ b, (ky == p) = b := ⟨_, rfl⟩
        have HR : Aside (PinRel p j (1 + m) ns) := hR
        clear hs hR
        by_cases h5 : kd = 5
        · have h5b : (kd == 5) = true := by simpa using h5
          have h2b : (kd == 2) = false := by rw [h5]; rfl
          have h3b : (kd == 3) = false := by rw [h5]; rfl
          have h4b : (kd == 4) = false := by rw [h5]; rfl
          clear h5
          cases bk with
          | true =>
            go_wp2
            go_roundg (cs.length - (j + 1))
            case measure => have := A.out.1; omega
            case rel => exact ⟨j + 1, ns, by go_num, by omega, by omega, ⟨rfl, HR.out.up⟩, hs1.keep2 (lruP TL TI L M (1 + m) ns) (old w)⟩
          | false =>
            have hkp' : ky ≠ p := by simpa using hkp
            have HKP : Aside (ky ≠ p) := hkp'
            clear hkp'
            go_wp2_with fail
            refine (keys_any L M (1 + m) ns _ _ (hs1.take (lruP TL TI L M (1 + m) ns)) (by omega)).mono ?_
            rintro e w5 ⟨a5, c5, rfl, hs5⟩
            clear hs1 x0 x1
            have y0 := hs5.c wr.heap.size 0
            have y1 := hs5.c wr.heap.size 1
            have hs6 := hs5.take (lruP TL TI L M (1 + m) ns)
            clear hs5
            go_wp2_with fail
            refine (unpin_any L M (1 + m) ns ky _ _ hs6 hd hpb).mono ?_
            rintro e w7 ⟨rfl, hs7⟩
            obtain ⟨ns', hns'⟩ : ∃ l, atL (fun n => { n with pins := if n.pins = 0 then 0 else n.pins - 1 }) ns ky = l := ⟨_, rfl⟩
            have HR' : Aside (PinRel p (j + 1) (1 + m) ns') := by rw [← hns']; exact HR.out.unpin ky HKP.out
            rw [hns'] at hs7
            clear hns' hs6
            have hd' : Keyd ns' := HR'.out.1
            have hlen' := HR'.out.2.2.1
            have hhas := has_any L M (1 + m) ns' p _ _ hs7 hd'
            rw [HR'.out.has] at hhas
            have hkeys := keys_any L M (1 + m) ns' _ _ hs7 (by omega)
            have hlen3 : ¬ (1 + (m : Int) < ns'.length) := by omega
            go_wp2_with (go_at_call 20; refine hhas.mono ?_; rintro e w' ⟨rfl, rfl⟩)
            refine hkeys.mono ?_
            rintro e w8 ⟨a8, c8, rfl, hs8⟩
            clear hs7 hhas hkeys y0 y1
            go_wp2
            go_roundg (cs.length - (j + 1))
            case measure => have := A.out.1; omega
            case rel => exact ⟨j + 1, ns', by go_num, by omega, by omega, ⟨rfl, HR'.out⟩, hs8.keep2 (lruP TL TI L M (1 + m) ns') (old w)⟩
        · have h5b : (kd == 5) = false := by simpa using h5
          clear h5
          by_cases h2 : kd = 2
          · have h2b : (kd == 2) = true := by simpa using h2
            clear h2
            cases bk
            all_goals
              go_wp2_with fail
              refine (keys_any L M (1 + m) ns _ _ (hs1.take (lruP TL TI L M (1 + m) ns)) (by omega)).mono ?_
              rintro e w5 ⟨a5, c5, rfl, hs5⟩
              clear hs1 x0 x1
              have y0 := hs5.c wr.heap.size 0
              have y1 := hs5.c wr.heap.size 1
              have hs6 := hs5.take (lruP TL TI L M (1 + m) ns)
              clear hs5
              go_wp2_with fail
              refine (oldest_any L M (1 + m) ns _ _ hs6).mono ?_
              rintro e w' ⟨rfl, rfl⟩
              go_wp2_with fail
              refine (add_any L M (1 + m) ns ky _ _ hs6 hd).mono ?_
              rintro e w7 ⟨g7, h7, c7, ns', rfl, hA, hs7⟩
              obtain ⟨hR', hres⟩ := HR.out.add ky (by exact_mod_cast hA)
              have HR' : Aside (PinRel p (j + 1) (1 + m) ns') := hR'
              clear hA hR' hs6
              have y0 := hs7.c wr.heap.size 0
              have y1 := hs7.c wr.heap.size 1
              have hfl2 : decide (ns.length = 1 + m) = fl := by rw [← hfl]; by_cases h : ns.length = 1 + m <;> simp [h] <;> omega
              rcases hres with rfl | ⟨rfl, h7e, hg⟩ | ⟨rfl, hl9, ho⟩
              · clear hfl2
                have hd' : Keyd ns' := HR'.out.1
                have hlen' := HR'.out.2.2.1
                have hhas := has_any L M (1 + m) ns' p _ _ hs7 hd'
                rw [HR'.out.has] at hhas
                have hkeys := keys_any L M (1 + m) ns' _ _ hs7 (by omega)
                have hlen3 : ¬ (1 + (m : Int) < ns'.length) := by omega
                go_wp2_with (go_at_call 20; refine hhas.mono ?_; rintro e w' ⟨rfl, rfl⟩)
                refine hkeys.mono ?_
                rintro e w8 ⟨a8, c8, rfl, hs8⟩
                clear hs7 hhas hkeys y0 y1
                go_wp2
                go_roundg (cs.length - (j + 1))
                case measure => have := A.out.1; omega
                case rel => exact ⟨j + 1, ns', by go_num, by omega, by omega, ⟨rfl, HR'.out⟩, hs8.keep2 (lruP TL TI L M (1 + m) ns') (old w)⟩
              · rw [hfl2] at h7e
                clear hfl2
                subst h7e
                cases h7 with
                | false =>
                  have hd' : Keyd ns' := HR'.out.1
                  have hlen' := HR'.out.2.2.1
                  have hhas := has_any L M (1 + m) ns' p _ _ hs7 hd'
                  rw [HR'.out.has] at hhas
                  have hkeys := keys_any L M (1 + m) ns' _ _ hs7 (by omega)
                  have hlen3 : ¬ (1 + (m : Int) < ns'.length) := by omega
                  go_wp2_with (go_at_call 20; refine hhas.mono ?_; rintro e w' ⟨rfl, rfl⟩)
                  refine hkeys.mono ?_
                  rintro e w8 ⟨a8, c8, rfl, hs8⟩
                  clear hs7 hhas hkeys y0 y1
                  go_wp2
                  go_roundg (cs.length - (j + 1))
                  case measure => have := A.out.1; omega
                  case rel => exact ⟨j + 1, ns', by go_num, by omega, by omega, ⟨rfl, HR'.out⟩, hs8.keep2 (lruP TL TI L M (1 + m) ns') (old w)⟩
                | true =>
                  have hg' : (g7 == p) = false := by simpa using hg rfl
                  clear hg
                  have hd' : Keyd ns' := HR'.out.1
                  have hlen' := HR'.out.2.2.1
                  have hhas := has_any L M (1 + m) ns' p _ _ hs7 hd'
                  rw [HR'.out.has] at hhas
                  have hkeys := keys_any L M (1 + m) ns' _ _ hs7 (by omega)
                  have hlen3 : ¬ (1 + (m : Int) < ns'.length) := by omega
                  go_wp2_with (go_at_call 20; refine hhas.mono ?_; rintro e w' ⟨rfl, rfl⟩)
                  refine hkeys.mono ?_
                  rintro e w8 ⟨a8, c8, rfl, hs8⟩
                  clear hs7 hhas hkeys y0 y1
                  go_wp2
                  go_roundg (cs.length - (j + 1))
                  case measure => have := A.out.1; omega
                  case rel => exact ⟨j + 1, ns', by go_num, by omega, by omega, ⟨rfl, HR'.out⟩, hs8.keep2 (lruP TL TI L M (1 + m) ns') (old w)⟩
              · have hfl3 : fl = true := by rw [← hfl2]; simpa using hl9
                rw [ho]
                clear hfl2 hl9 ho
                subst hfl3
                have hd' : Keyd ns' := HR'.out.1
                have hlen' := HR'.out.2.2.1
                have hhas := has_any L M (1 + m) ns' p _ _ hs7 hd'
                rw [HR'.out.has] at hhas
                have hkeys := keys_any L M (1 + m) ns' _ _ hs7 (by omega)
                have hlen3 : ¬ (1 + (m : Int) < ns'.length) := by omega
                go_wp2_with (go_at_call 20; refine hhas.mono ?_; rintro e w' ⟨rfl, rfl⟩)
                refine hkeys.mono ?_
                rintro e w8 ⟨a8, c8, rfl, hs8⟩
                clear hs7 hhas hkeys y0 y1
                go_wp2
                go_roundg (cs.length - (j + 1))
                case measure => have := A.out.1; omega
                case rel => exact ⟨j + 1, ns', by go_num, by omega, by omega, ⟨rfl, HR'.out⟩, hs8.keep2 (lruP TL TI L M (1 + m) ns') (old w)⟩
          · have h2b : (kd == 2) = false := by simpa using h2
            clear h2
            by_cases h3 : kd = 3
            · have h3b : (kd == 3) = true := by simpa using h3
              clear h3
              obtain ⟨hdr1, hdr2⟩ := HR.out.drop ky
              have hdrop := fun F w hs => drop_any L M (1 + m) ns ky F w hs hd (fun n hn => (hpb n hn).1)
              obtain ⟨ns', hns'⟩ : ∃ l, (if (ns.any fun n => n.key == ky && n.pins == 0) then outL ns ky else ns) = l := ⟨_, rfl⟩
              obtain ⟨db, hdb⟩ : ∃ b, (ns.any fun n => n.key == ky && n.pins == 0) = b := ⟨_, rfl⟩
              rw [hns'] at hdr1
              simp only [hns'] at hdrop
              simp only [hdb] at hdrop hdr2
              have HR' : Aside (PinRel p (j + 1) (1 + m) ns') := hdr1
              have HD : Aside (db = true → ky ≠ p) := hdr2
              clear hns' hdb hdr1 hdr2
              cases bk
              all_goals
                go_wp2_with fail
                refine (keys_any L M (1 + m) ns _ _ (hs1.take (lruP TL TI L M (1 + m) ns)) (by omega)).mono ?_
                rintro e w5 ⟨a5, c5, rfl, hs5⟩
                clear hs1 x0 x1
                have y0 := hs5.c wr.heap.size 0
                have y1 := hs5.c wr.heap.size 1
                have hs6 := hs5.take (lruP TL TI L M (1 + m) ns)
                clear hs5
                go_wp2_with fail
                refine (hdrop _ _ hs6).mono ?_
                rintro e w7 ⟨rfl, hs7⟩
                clear hs6 hdrop
                have y1 := hs7.c wr.heap.size 1
                cases db
                all_goals try (exact absurd (by simpa using hkp) (HD.out rfl))
                all_goals
                  have hd' : Keyd ns' := HR'.out.1
                  have hlen' := HR'.out.2.2.1
                  have hhas := has_any L M (1 + m) ns' p _ _ hs7 hd'
                  rw [HR'.out.has] at hhas
                  have hkeys := keys_any L M (1 + m) ns' _ _ hs7 (by omega)
                  have hlen3 : ¬ (1 + (m : Int) < ns'.length) := by omega
                  go_wp2_with (go_at_call 20; refine hhas.mono ?_; rintro e w' ⟨rfl, rfl⟩)
                  refine hkeys.mono ?_
                  rintro e w8 ⟨a8, c8, rfl, hs8⟩
                  clear hs7 hhas hkeys y0 y1
                  go_wp2
                  go_roundg (cs.length - (j + 1))
                  case measure => have := A.out.1; omega
                  case rel => exact ⟨j + 1, ns', by go_num, by omega, by omega, ⟨rfl, HR'.out⟩, hs8.keep2 (lruP TL TI L M (1 + m) ns') (old w)⟩
            · have h3b : (kd == 3) = false := by simpa using h3
              clear h3
              by_cases h4 : kd = 4
              · have h4b : (kd == 4) = true := by simpa using h4
                clear h4
                cases bk
                all_goals
                  go_wp2_with fail
                  refine (keys_any L M (1 + m) ns _ _ (hs1.take (lruP TL TI L M (1 + m) ns)) (by omega)).mono ?_
                  rintro e w5 ⟨a5, c5, rfl, hs5⟩
                  clear hs1 x0 x1
                  have y0 := hs5.c wr.heap.size 0
                  have y1 := hs5.c wr.heap.size 1
                  have hs6 := hs5.take (lruP TL TI L M (1 + m) ns)
                  clear hs5
                  go_wp2_with fail
                  refine (pin_any L M (1 + m) ns ky _ _ hs6 hd hpb).mono ?_
                  rintro e w7 ⟨rfl, hs7⟩
                  obtain ⟨ns', hns'⟩ : ∃ l, atL (fun n => { n with pins := n.pins + 1 }) ns ky = l := ⟨_, rfl⟩
                  have HR' : Aside (PinRel p (j + 1) (1 + m) ns') := by rw [← hns']; exact HR.out.pin ky
                  rw [hns'] at hs7
                  clear hns' hs6
                  have hd' : Keyd ns' := HR'.out.1
                  have hlen' := HR'.out.2.2.1
                  have hhas := has_any L M (1 + m) ns' p _ _ hs7 hd'
                  rw [HR'.out.has] at hhas
                  have hkeys := keys_any L M (1 + m) ns' _ _ hs7 (by omega)
                  have hlen3 : ¬ (1 + (m : Int) < ns'.length) := by omega
                  go_wp2_with (go_at_call 20; refine hhas.mono ?_; rintro e w' ⟨rfl, rfl⟩)
                  refine hkeys.mono ?_
                  rintro e w8 ⟨a8, c8, rfl, hs8⟩
                  clear hs7 hhas hkeys y0 y1
                  go_wp2
                  go_roundg (cs.length - (j + 1))
                  case measure => have := A.out.1; omega
                  case rel => exact ⟨j + 1, ns', by go_num, by omega, by omega, ⟨rfl, HR'.out⟩, hs8.keep2 (lruP TL TI L M (1 + m) ns') (old w)⟩
              · have h4b : (kd == 4) = false := by simpa using h4
                clear h4
                cases bk
                all_goals
                  go_wp2_with fail
                  refine (keys_any L M (1 + m) ns _ _ (hs1.take (lruP TL TI L M (1 + m) ns)) (by omega)).mono ?_
                  rintro e w5 ⟨a5, c5, rfl, hs5⟩
                  clear hs1 x0 x1
                  have y0 := hs5.c wr.heap.size 0
                  have y1 := hs5.c wr.heap.size 1
                  have hs6 := hs5.take (lruP TL TI L M (1 + m) ns)
                  clear hs5
                  go_wp2_with fail
                  refine (use_any L M (1 + m) ns ky _ _ hs6 hd).mono ?_
                  rintro e w7 ⟨rfl, hs7⟩
                  obtain ⟨ns', hns'⟩ : ∃ l, useL ns ky = l := ⟨_, rfl⟩
                  have HR' : Aside (PinRel p (j + 1) (1 + m) ns') := by rw [← hns']; exact HR.out.use ky
                  rw [hns'] at hs7
                  clear hns' hs6
                  have hd' : Keyd ns' := HR'.out.1
                  have hlen' := HR'.out.2.2.1
                  have hhas := has_any L M (1 + m) ns' p _ _ hs7 hd'
                  rw [HR'.out.has] at hhas
                  have hkeys := keys_any L M (1 + m) ns' _ _ hs7 (by omega)
                  have hlen3 : ¬ (1 + (m : Int) < ns'.length) := by omega
                  go_wp2_with (go_at_call 20; refine hhas.mono ?_; rintro e w' ⟨rfl, rfl⟩)
                  refine hkeys.mono ?_
                  rintro e w8 ⟨a8, c8, rfl, hs8⟩
                  clear hs7 hhas hkeys y0 y1
                  go_wp2
                  go_roundg (cs.length - (j + 1))
                  case measure => have := A.out.1; omega
                  case rel => exact ⟨j + 1, ns', by go_num, by omega, by omega, ⟨rfl, HR'.out⟩, hs8.keep2 (lruP TL TI L M (1 + m) ns') (old w)⟩
      · have hj4 : ¬ (j : Int) < 150 := by omega
        go_wp2
        go_ret
        exact ⟨rfl, (hs.take (old w)).old_below⟩
    · have hj3 : ¬ (j : Int) < cs.length := by omega
      go_wp2
      go_ret
      exact ⟨rfl, (hs.take (old w)).old_below⟩

end Go.Proofs.Ytjhkmmpgjiciiaa
