/-
  LruMarks: the walk.
-/
import Derived.Test.YtjhkmmpgjiciiaaLaw06a
import Derived.Test.YtjhkmmpgjiciiaaLaw06c
import Derived.Test.YtjhkmmpgjiciiaaLru5
import Derived.Deep.DeepCutAuto
import Derived.Deep.RegionWith
namespace Go.Proofs.Ytjhkmmpgjiciiaa
set_option linter.unusedSimpArgs false
set_option linter.unusedVariables false
open Go.RowKit Go.Sl Go.Lru

def mkB (ns : List Nd) (k : Int) : Bool := ns.any fun n => n.key == k && n.mkd

/-- what holds of the list and the two rows of bools -/
def MkRel (ns : List Nd) (T K : List Bool) : Prop :=
  Keyd ns ∧ (∀ n ∈ ns, 0 ≤ n.key ∧ n.key < 30 ∧ n.pins = 0) ∧ T.length = 30 ∧ K.length = 30 ∧ (∀ k : Nat, k < 30 → T[k]? = some (hasB ns k)) ∧ (∀ k : Nat, k < 30 → K[k]? = some (mkB ns k))

theorem getB_set {T : List Bool} {i k : Nat} {b : Bool} (hi : i < T.length) : (T.set i b)[k]? = if k = i then some b else T[k]? := by
  rw [List.getElem?_set]
  by_cases h : i = k
  · subst h; simp [hi]
  · rw [if_neg h, if_neg (fun e => h e.symm)]

theorem mkB_has {ns : List Nd} {k : Int} (h : hasB ns k = false) : mkB ns k = false := by
  simp only [hasB, mkB, List.any_eq_false] at *
  intro n hn
  have := h n hn
  simp_all

theorem hasB_snoc (ns : List Nd) (b : Nat) (x k : Int) : hasB (ns ++ [⟨b, x, 0, false⟩]) k = (hasB ns k || x == k) := by simp [hasB]
theorem mkB_snoc (ns : List Nd) (b : Nat) (x k : Int) : mkB (ns ++ [⟨b, x, 0, false⟩]) k = mkB ns k := by simp [mkB]

theorem hasB_outL (ns : List Nd) (x k : Int) : hasB (outL ns x) k = (hasB ns k && k != x) := by
  rw [Bool.eq_iff_iff]
  simp only [hasB, outL, List.any_eq_true, List.mem_filter, Bool.and_eq_true, beq_iff_eq, bne_iff_ne, ne_eq]
  constructor
  · rintro ⟨n, ⟨hn, h1⟩, rfl⟩; exact ⟨⟨n, hn, rfl⟩, h1⟩
  · rintro ⟨⟨n, hn, rfl⟩, h1⟩; exact ⟨n, ⟨hn, h1⟩, rfl⟩
theorem mkB_outL (ns : List Nd) (x k : Int) : mkB (outL ns x) k = (mkB ns k && k != x) := by
  rw [Bool.eq_iff_iff]
  simp only [mkB, outL, List.any_eq_true, List.mem_filter, Bool.and_eq_true, beq_iff_eq, bne_iff_ne, ne_eq]
  constructor
  · rintro ⟨n, ⟨hn, h1⟩, rfl, h2⟩; exact ⟨⟨n, hn, rfl, h2⟩, h1⟩
  · rintro ⟨⟨n, hn, rfl, h2⟩, h1⟩; exact ⟨n, ⟨hn, h1⟩, rfl, h2⟩

theorem hasB_perm {ns ns' : List Nd} (h : ns.Perm ns') (k : Int) : hasB ns k = hasB ns' k := by
  unfold hasB; rw [Bool.eq_iff_iff]; simp only [List.any_eq_true]; exact ⟨fun ⟨n, a, b⟩ => ⟨n, h.mem_iff.1 a, b⟩, fun ⟨n, a, b⟩ => ⟨n, h.mem_iff.2 a, b⟩⟩
theorem mkB_perm {ns ns' : List Nd} (h : ns.Perm ns') (k : Int) : mkB ns k = mkB ns' k := by
  unfold mkB; rw [Bool.eq_iff_iff]; simp only [List.any_eq_true]; exact ⟨fun ⟨n, a, b⟩ => ⟨n, h.mem_iff.1 a, b⟩, fun ⟨n, a, b⟩ => ⟨n, h.mem_iff.2 a, b⟩⟩

abbrev setMk (on : Bool) (n : Nd) : Nd := { n with mkd := on }

theorem hasB_at (ns : List Nd) (on : Bool) (x k : Int) : hasB (atL (setMk on) ns x) k = hasB ns k := by
  unfold hasB atL
  rw [List.any_map]
  congr 1
  funext n
  simp only [Function.comp]
  split <;> rfl
theorem mkB_at (ns : List Nd) (on : Bool) (x k : Int) : mkB (atL (setMk on) ns x) k = if k = x then (hasB ns x && on) else mkB ns k := by
  unfold mkB atL hasB
  rw [List.any_map]
  by_cases hk : k = x
  · subst hk
    rw [if_pos rfl, Bool.eq_iff_iff]
    simp only [List.any_eq_true, Function.comp, Bool.and_eq_true, beq_iff_eq]
    constructor
    · rintro ⟨n, hn, h1, h2⟩
      by_cases e : n.key = k
      · rw [if_pos e] at h2; exact ⟨⟨n, hn, e⟩, h2⟩
      · rw [if_neg e] at h1; exact absurd h1 e
    · rintro ⟨⟨n, hn, e⟩, h2⟩
      refine ⟨n, hn, ?_⟩
      rw [if_pos e]
      exact ⟨e, h2⟩
  · rw [if_neg hk, Bool.eq_iff_iff]
    simp only [List.any_eq_true, Function.comp, Bool.and_eq_true, beq_iff_eq]
    constructor
    · rintro ⟨n, hn, h1, h2⟩
      by_cases e : n.key = x
      · rw [if_pos e] at h1; exact absurd (h1.symm.trans e) hk
      · rw [if_neg e] at h1 h2; exact ⟨n, hn, h1, h2⟩
    · rintro ⟨n, hn, h1, h2⟩
      refine ⟨n, hn, ?_⟩
      rw [if_neg (by rw [h1]; exact hk)]
      exact ⟨h1, h2⟩

theorem nodup_lt : ∀ (n : Nat) (l : List Nat), l.Nodup → (∀ x ∈ l, x < n) → l.length ≤ n
  | 0, l, _, h => by
    cases l with
    | nil => simp
    | cons x l => exact absurd (h x (by simp)) (by omega)
  | n + 1, l, hn, h => by
    have h1 := nodup_lt n (l.erase n) (hn.erase n) (fun x hx => by
      have := (hn.mem_erase_iff).1 hx
      have := h x this.2
      omega)
    have h2 := List.length_erase (a := n) (l := l)
    split at h2 <;> omega

theorem MkRel.len {ns : List Nd} {T K : List Bool} (h : MkRel ns T K) : ns.length ≤ 30 := by
  have h1 : (ns.map fun n => n.key.toNat).Nodup := by
    have := h.1
    unfold Keyd at this
    have e : (ns.map fun n => n.key.toNat) = (ns.map (·.key)).map Int.toNat := by simp
    rw [e]
    refine List.pairwise_map.2 (List.Pairwise.imp_of_mem ?_ this)
    intro a b ha hb hne e
    obtain ⟨n, hn, rfl⟩ := List.mem_map.1 ha
    obtain ⟨m, hm, rfl⟩ := List.mem_map.1 hb
    have := h.2.1 n hn
    have := h.2.1 m hm
    exact hne (by omega)
  have := nodup_lt 30 _ h1 (fun x hx => by
    obtain ⟨n, hn, rfl⟩ := List.mem_map.1 hx
    have := h.2.1 n hn
    omega)
  simpa using this

theorem MkRel.use {ns : List Nd} {T K : List Bool} (h : MkRel ns T K) (k : Int) : MkRel (useL ns k) T K := by
  obtain ⟨h1, h2, h3, h4, h5, h6⟩ := h
  have hp := use_perm ns k
  exact ⟨keyd_use h1 k, fun n hn => h2 n (hp.mem_iff.1 hn), h3, h4, fun q hq => by rw [h5 q hq, hasB_perm hp], fun q hq => by rw [h6 q hq, mkB_perm hp]⟩

theorem MkRel.mark {ns : List Nd} {T K : List Bool} (h : MkRel ns T K) {kk : Nat} (hk : kk < 30) (on : Bool) : MkRel (atL (setMk on) ns kk) T (K.set kk (hasB ns kk && on)) := by
  obtain ⟨h1, h2, h3, h4, h5, h6⟩ := h
  refine ⟨keyd_at (f := setMk on) (fun _ => rfl) h1 _, ?_, h3, by simpa using h4, fun q hq => by rw [h5 q hq, hasB_at], fun q hq => ?_⟩
  · intro n hn
    obtain ⟨m, hm, rfl⟩ := List.mem_map.1 hn
    have := h2 m hm
    split <;> exact this
  · rw [getB_set (by omega), mkB_at]
    by_cases e : q = kk
    · subst e; simp
    · have : (q : Int) ≠ kk := by omega
      rw [if_neg e, if_neg this, h6 q hq]

theorem MkRel.drop {ns : List Nd} {T K : List Bool} (h : MkRel ns T K) {kk : Nat} (hk : kk < 30) :
    (ns.any fun n => n.key == (kk : Int) && n.pins == 0) = hasB ns kk ∧ MkRel (if (ns.any fun n => n.key == (kk : Int) && n.pins == 0) then outL ns kk else ns) (T.set kk false) (K.set kk false) := by
  obtain ⟨h1, h2, h3, h4, h5, h6⟩ := h
  have e1 : (ns.any fun n => n.key == (kk : Int) && n.pins == 0) = hasB ns kk := by
    unfold hasB
    rw [Bool.eq_iff_iff]
    simp only [List.any_eq_true, Bool.and_eq_true, beq_iff_eq]
    exact ⟨fun ⟨n, a, b, _⟩ => ⟨n, a, b⟩, fun ⟨n, a, b⟩ => ⟨n, a, b, (h2 n a).2.2⟩⟩
  refine ⟨e1, ?_⟩
  rw [e1]
  have e2 : (if hasB ns kk then outL ns kk else ns) = outL ns kk := by
    cases hb : hasB ns kk with
    | true => rfl
    | false =>
      rw [outL_none]
      · rfl
      · simp only [hasB, List.any_eq_false] at hb; intro n hn; simpa using hb n hn
  rw [e2]
  refine ⟨keyd_out h1 _, fun n hn => h2 n (List.mem_filter.1 hn).1, by simpa using h3, by simpa using h4, fun q hq => ?_, fun q hq => ?_⟩
  · rw [getB_set (by omega), hasB_outL]
    by_cases e : q = kk
    · subst e; simp
    · have : (q : Int) ≠ kk := by omega
      rw [if_neg e, h5 q hq]; simp [this]
  · rw [getB_set (by omega), mkB_outL]
    by_cases e : q = kk
    · subst e; simp
    · have : (q : Int) ≠ kk := by omega
      rw [if_neg e, h6 q hq]; simp [this]

theorem MkRel.add {ns : List Nd} {T K : List Bool} (h : MkRel ns T K) {kk : Nat} (hk : kk < 30) {g : Int} {hh : Bool} {c : Int} {ns' : List Nd} (hA : AddIs 4096 ns kk g hh c ns') :
    (c == 0) = !(hasB ns kk) ∧ MkRel ns' (T.set kk true) (K.set kk (mkB ns kk && hasB ns kk)) := by
  have hl := h.len
  obtain ⟨h1, h2, h3, h4, h5, h6⟩ := h
  have hmm : (mkB ns kk && hasB ns kk) = mkB ns kk := by
    cases hb : hasB ns kk with
    | true => simp
    | false => rw [mkB_has hb]; rfl
  rw [hmm]
  rcases hA with ⟨a1, _, _, a4, rfl⟩ | ⟨a1, _, _, _, a5, b, rfl⟩ | ⟨_, a2, _⟩ | ⟨_, a2, _⟩
  · refine ⟨by rw [a4, a1]; rfl, h1, h2, by simpa using h3, by simpa using h4, fun q hq => ?_, fun q hq => ?_⟩
    · rw [getB_set (by omega)]
      by_cases e : q = kk
      · subst e; rw [if_pos rfl, a1]
      · rw [if_neg e, h5 q hq]
    · rw [getB_set (by omega)]
      by_cases e : q = kk
      · subst e; rw [if_pos rfl]
      · rw [if_neg e, h6 q hq]
  · refine ⟨by rw [a5, a1]; rfl, ?_, ?_, by simpa using h3, by simpa using h4, fun q hq => ?_, fun q hq => ?_⟩
    · unfold Keyd at *
      rw [List.map_append, List.nodup_append]
      refine ⟨h1, by simp, ?_⟩
      intro x hx y hy e
      simp at hy
      subst hy e
      obtain ⟨m, hm, e⟩ := List.mem_map.1 hx
      simp only [hasB, List.any_eq_false] at a1
      exact absurd e (by simpa using a1 m hm)
    · intro n hn
      rcases List.mem_append.1 hn with hn | hn
      · exact h2 n hn
      · simp at hn; subst hn; simp; omega
    · rw [getB_set (by omega), hasB_snoc]
      by_cases e : q = kk
      · subst e; simp
      · have : ((kk : Int) == q) = false := by simp; omega
        rw [if_neg e, h5 q hq, this]; simp
    · rw [getB_set (by omega), mkB_snoc]
      by_cases e : q = kk
      · subst e; rw [if_pos rfl]
      · rw [if_neg e, h6 q hq]
  · omega
  · omega

def wantL (K : List Bool) (q : Nat) : List Int := ((List.range q).filter fun k => K[k]? == some true).map fun k : Nat => (k : Int)

theorem wantL_succ (K : List Bool) (q : Nat) (b : Bool) (h : K[q]? = some b) : wantL K (q + 1) = if b then wantL K q ++ [(q : Int)] else wantL K q := by
  unfold wantL
  rw [List.range_succ, List.filter_append]
  cases b <;> simp [h]

theorem wantL_len (K : List Bool) (q : Nat) : (wantL K q).length ≤ q := by
  unfold wantL
  rw [List.length_map]
  have := List.length_filter_le (fun k => K[k]? == some true) (List.range q)
  simpa using this

theorem MkRel.want {ns : List Nd} {T K : List Bool} (h : MkRel ns T K) : sortI (markedK ns) = wantL K 30 := by
  obtain ⟨h1, h2, h3, h4, h5, h6⟩ := h
  have hs : (wantL K 30).Pairwise (fun a b => decide (a ≤ b) = true) := by
    unfold wantL
    rw [List.pairwise_map]
    refine List.Pairwise.filter _ ?_
    refine List.Pairwise.imp ?_ List.pairwise_lt_range
    intro a b hab
    simp; omega
  have hn1 : (markedK ns).Nodup := h1.sublist (List.Sublist.map _ List.filter_sublist)
  have hn2 : (wantL K 30).Nodup := by
    unfold wantL
    refine List.pairwise_map.2 (List.Pairwise.filter _ ?_)
    refine List.Pairwise.imp ?_ List.pairwise_lt_range
    intro a b hab
    omega
  have hp : (markedK ns).Perm (wantL K 30) := by
    refine (List.perm_ext_iff_of_nodup hn1 hn2).2 fun x => ?_
    unfold markedK wantL
    simp only [List.mem_map, List.mem_filter, List.mem_range, beq_iff_eq]
    constructor
    · rintro ⟨n, ⟨hn, hm⟩, rfl⟩
      have := h2 n hn
      refine ⟨n.key.toNat, ⟨by omega, ?_⟩, by omega⟩
      rw [h6 _ (by omega)]
      congr 1
      simp only [mkB, List.any_eq_true, Bool.and_eq_true, beq_iff_eq]
      exact ⟨n, hn, (by omega), hm⟩
    · rintro ⟨k, ⟨hk, hk2⟩, rfl⟩
      rw [h6 k hk] at hk2
      simp only [Option.some.injEq, mkB, List.any_eq_true, Bool.and_eq_true, beq_iff_eq] at hk2
      obtain ⟨n, hn, e, hm⟩ := hk2
      exact ⟨n, ⟨hn, hm⟩, e⟩
  rw [sortI_perm hp]
  exact List.mergeSort_of_pairwise hs

theorem makeB (w : World) : (Instr.makeSlice 68 (.int .i64 30) (.int .i64 30)).run Try.prog w = .ok (.slice (some ⟨w.heap.size, 0, none⟩) 30 30) (w.alloc (.cells (List.replicate 30 (Value.bool false)).toArray 4)) := by kernel_rfl

set_option maxRecDepth 100000 in
set_option maxHeartbeats 4000000 in
theorem lruMarks_walk (v : Value) (cs : List (Int × Int)) (w : World) (hv : Rws w v 2 (cs.map crow)) (hm : cs.length ≤ 9223372036854775807) :
    Calls Try.prog 7 #[v] w fun e w' => e = .returned (.bool true) ∧ Below w.heap.size w w' := by
  obtain ⟨va, vc, hvv⟩ := hv.len
  rw [List.length_map] at hvv
  have hmk := makeB
  subst hvv
  go_enter Try.func7, Try.ntmps7
  go_wp2_with fail
  refine (new_yes 4096 (old w) w (Sat.old_self w) (by omega) (by omega)).mono ?_
  rintro e w1 ⟨L, M, rfl, hs1⟩
  go_wp2_with fail
  refine (awake06 _ w1 hs1).mono ?_
  rintro e w2 ⟨rfl, hs2⟩
  clear hs1
  go_upto_region 4 with (fail)
  go_cut [5, 6] (fun t5 t6 wx => ∃ tb kb, t5 = .slice (some ⟨tb, 0, none⟩) 30 30 ∧ t6 = .slice (some ⟨kb, 0, none⟩) 30 30 ∧ Sat (block tb 4 ((List.replicate 30 false).map Value.bool) * (block kb 4 ((List.replicate 30 false).map Value.bool) * (lruP TL TI L M 4096 [] * old w))) wx)
  case first =>
    have a1 := hs2.alloc (List.replicate 30 (Value.bool false)).toArray 4
    have a2 := a1.alloc (List.replicate 30 (Value.bool false)).toArray 4
    have e0 : (w2.alloc (.cells (List.replicate 30 (Value.bool false)).toArray 4)).heap.size = w2.heap.size + 1 := by simp
    rw [e0] at a2
    have e1 : (List.replicate 30 (Value.bool false)).toArray.toList = (List.replicate 30 false).map Value.bool := by simp
    rw [e1] at a2
    clear a1 e0 e1
    go_region
    all_goals
      go_wp2_with fail
      go_meet
      first
        | exact ⟨w2.heap.size, w2.heap.size + 1, rfl, rfl, Sat.drew (a2.eq (by ac_rfl))⟩
        | exact ⟨w2.heap.size + 1, w2.heap.size, rfl, rfl, Sat.drew (a2.eq (by ac_rfl))⟩
  case rest =>
    obtain ⟨tb, kb, rfl, rfl, hs3⟩ := hcut
    clear hs2 hmk
    go_wp2_with fail
    go_loopg [7] cs.length (fun k i wr => ∃ (j : Nat) (ns : List Nd) (T K : List Bool), i = .int .i64 j ∧ j ≤ cs.length ∧ Aside (k = cs.length - j ∧ MkRel ns T K) ∧ Sat (block tb 4 (T.map Value.bool) * (block kb 4 (K.map Value.bool) * (lruP TL TI L M 4096 ns * old w))) wr)
    case atStart => exact ⟨0, [], List.replicate 30 false, List.replicate 30 false, rfl, by omega, ⟨rfl, .nil, by simp, by simp, by simp, fun k hk => by rw [List.getElem?_replicate, if_pos hk]; rfl, fun k hk => by rw [List.getElem?_replicate, if_pos hk]; rfl⟩, hs3⟩
    case round =>
      obtain ⟨j, ns, T, K, rfl, hj, A, hs⟩ := hrel
      clear hs3
      by_cases hjl : j < cs.length
      · have hj3 : (j : Int) < cs.length := by omega
        by_cases hj2 : j < 200
        · have hj4 : (j : Int) < 200 := by omega
          obtain ⟨⟨kd, ky⟩, hx⟩ : ∃ x, cs[j]? = some x := ⟨cs[j], by simp [hjl]⟩
          obtain ⟨rb, ro, e1, hcell⟩ := (hv.old (hs.take (old w))).at (show (cs.map crow)[j]? = some (crow (kd, ky)) by simp [hx])
          subst e1
          have x0 := hcell 0 _ rfl
          have x1 := hcell 1 _ rfl
          simp only [Nat.add_zero] at x0
          clear hcell
          obtain ⟨kk, hkk, hk30⟩ : ∃ m : Nat, ky % 30 = (m : Int) ∧ m < 30 := ⟨(ky % 30).toNat, by omega, by omega⟩
          have hp := pick_any ky 30 wr (by omega) (by omega)
          rw [hkk] at hp
          clear hkk
          have hR := A.out.2
          have hd := hR.1
          obtain ⟨b, hb⟩ : ∃ b, hasB ns kk = b := ⟨_, rfl⟩
          obtain ⟨mb, hmb⟩ : ∃ b, mkB ns kk = b := ⟨_, rfl⟩
          have hT : (T.map Value.bool)[kk]? = some (.bool b) := by rw [List.getElem?_map, hR.2.2.2.2.1 kk hk30, hb]; rfl
          have hK : (K.map Value.bool)[kk]? = some (.bool mb) := by rw [List.getElem?_map, hR.2.2.2.2.2 kk hk30, hmb]; rfl
          have hTl : kk < (T.map Value.bool).length := by rw [List.length_map, hR.2.2.1]; exact hk30
          have hKl : kk < (K.map Value.bool).length := by rw [List.length_map, hR.2.2.2.1]; exact hk30
          have hk31 : (kk : Int) < 30 := by omega
          have HR : Aside (MkRel ns T K) := hR
          have HB : Aside (hasB ns kk = b ∧ mkB ns kk = mb ∧ (T.map Value.bool)[kk]? = some (.bool b) ∧ (K.map Value.bool)[kk]? = some (.bool mb)) := ⟨hb, hmb, hT, hK⟩
          have HX : Aside ((cs.map crow)[j]? = some (crow (kd, ky))) := by rw [List.getElem?_map, hx]; rfl
          clear hR hb hmb hT hK hx
          by_cases h2 : kd = 2
          · have h2b : (kd == 2) = true := by simpa using h2
            clear h2
            go_wp2_with (go_at_call 17; refine hp.mono ?_; rintro e w' ⟨rfl, rfl⟩)
            refine (add_any L M 4096 ns kk _ wr (hs.take (lruP TL TI L M 4096 ns)) hd).mono ?_
            rintro e w5 ⟨g5, h5, c5, ns', rfl, hA, hs5⟩
            obtain ⟨hc0, hR'⟩ := HR.out.add hk30 hA
            rw [HB.out.1] at hc0 hR'
            rw [HB.out.2.1] at hR'
            have HR' : Aside (MkRel ns' (T.set kk true) (K.set kk (mb && b))) := hR'
            obtain ⟨t0, t1⟩ := (hs5.take (block tb 4 (T.map Value.bool))).at_get HB.out.2.2.1
            obtain ⟨m0, m1⟩ := (hs5.take (block kb 4 (K.map Value.bool))).at_get HB.out.2.2.2
            have hs6 := (hs5.take (block kb 4 (K.map Value.bool))).at_set hKl (.bool (mb && b))
            obtain ⟨t2, t3⟩ := (hs6.take (block tb 4 (T.map Value.bool))).at_get HB.out.2.2.1
            have hs7 := (hs6.take (block tb 4 (T.map Value.bool))).at_set hTl (.bool true)
            clear hA hR' hs5 hs6 hs hp x0 x1
            cases b <;> cases mb
            all_goals
              simp only [Bool.and_true, Bool.and_false, Bool.false_and, Bool.true_and, Bool.not_true, Bool.not_false] at *
              go_wp2
              go_roundg (cs.length - (j + 1))
              case measure => have := A.out.1; omega
              case rel =>
                refine ⟨j + 1, ns', T.set kk true, K.set kk _, by go_num, by omega, ⟨rfl, HR'.out⟩, ?_⟩
                simp only [List.map_set]
                exact hs7.eq (by ac_rfl)
          · have h2b : (kd == 2) = false := by simpa using h2
            clear h2
            by_cases h3 : kd = 3
            · have h3b : (kd == 3) = true := by simpa using h3
              clear h3
              obtain ⟨hany, hR'⟩ := HR.out.drop hk30
              rw [HB.out.1] at hany
              rw [hany] at hR'
              have hdrop := drop_any L M 4096 ns kk _ wr.drew (hs.take (lruP TL TI L M 4096 ns)).drew hd (fun n hn => by have := HR.out.2.1 n hn; omega)
              rw [hany] at hdrop
              obtain ⟨ns', hns'⟩ : ∃ l, (if b = true then outL ns kk else ns) = l := ⟨_, rfl⟩
              rw [hns'] at hdrop hR'
              have HR' : Aside (MkRel ns' (T.set kk false) (K.set kk false)) := hR'
              obtain ⟨t0, t1⟩ := (hs.take (block tb 4 (T.map Value.bool))).at_get HB.out.2.2.1
              clear hany hR' hns'
              go_wp2_with (go_at_call 17; refine hp.mono ?_; rintro e w' ⟨rfl, rfl⟩)
              clear hp
              go_region_with (go_at_call 26; refine hdrop.mono ?_; rintro e w5 ⟨rfl, hs5⟩; have t5 := ((hs5.take (block tb 4 (T.map Value.bool))).at_get HB.out.2.2.1).1)
              all_goals
                clear hdrop t0 t1
                obtain ⟨t2, t3⟩ := (hs5.take (block tb 4 (T.map Value.bool))).at_get HB.out.2.2.1
                have hs6 := (hs5.take (block tb 4 (T.map Value.bool))).at_set hTl (.bool false)
                obtain ⟨m2, m3⟩ := (hs6.take (block kb 4 (K.map Value.bool))).at_get HB.out.2.2.2
                have hs7 := (hs6.take (block kb 4 (K.map Value.bool))).at_set hKl (.bool false)
                clear hs5 hs6 hs x0 x1
                go_wp2
                go_roundg (cs.length - (j + 1))
                case measure => have := A.out.1; omega
                case rel =>
                  refine ⟨j + 1, ns', T.set kk false, K.set kk false, by go_num, by omega, ⟨rfl, HR'.out⟩, ?_⟩
                  simp only [List.map_set]
                  exact hs7.eq (by ac_rfl)
            · have h3b : (kd == 3) = false := by simpa using h3
              clear h3
              by_cases h67 : kd = 6 ∨ kd = 7
              · by_cases h6 : kd = 6
                · have h6b : (kd == 6) = true := by simpa using h6
                  clear h6 h67
                  have hmark := mark_any L M 4096 ns kk true _ wr.drew (hs.take (lruP TL TI L M 4096 ns)).drew hd
                  rw [HB.out.1] at hmark
                  have hR' := HR.out.mark hk30 true
                  rw [HB.out.1] at hR'
                  have HR' : Aside (MkRel (atL (setMk true) ns kk) T (K.set kk (b && true))) := hR'
                  clear hR'
                  obtain ⟨t0, t1⟩ := (hs.take (block tb 4 (T.map Value.bool))).at_get HB.out.2.2.1
                  go_wp2_with (go_at_call 17; refine hp.mono ?_; rintro e w' ⟨rfl, rfl⟩)
                  clear hp
                  go_region_with (go_at_call 39; refine hmark.mono ?_; rintro e w5 ⟨rfl, hs5⟩; have t5 := ((hs5.take (block tb 4 (T.map Value.bool))).at_get HB.out.2.2.1).1)
                  all_goals
                    clear hmark t0 t1 x0 x1
                    obtain ⟨t2, t3⟩ := (hs5.take (block tb 4 (T.map Value.bool))).at_get HB.out.2.2.1
                    obtain ⟨m2, m3⟩ := (hs5.take (block kb 4 (K.map Value.bool))).at_get HB.out.2.2.2
                    obtain ⟨_, _, e1, hcell⟩ := (hv.old (hs5.take (old w))).at HX.out
                    cases e1
                    have x0 := hcell 0 _ rfl
                    simp only [Nat.add_zero] at x0
                    have hs7 := (hs5.take (block kb 4 (K.map Value.bool))).at_set hKl (.bool (b && true))
                    clear hs5 hs hcell
                    cases b
                    all_goals
                      simp only [Bool.false_and, Bool.true_and] at *
                      go_wp2
                      go_roundg (cs.length - (j + 1))
                      case measure => have := A.out.1; omega
                      case rel =>
                        refine ⟨j + 1, atL (setMk true) ns kk, T, K.set kk _, by go_num, by omega, ⟨rfl, HR'.out⟩, ?_⟩
                        simp only [List.map_set]
                        exact hs7.eq (by ac_rfl)
                · have h6b : (kd == 6) = false := by simpa using h6
                  have h7b : (kd == 7) = true := by simp; omega
                  clear h6 h67
                  have hmark := mark_any L M 4096 ns kk false _ wr.drew (hs.take (lruP TL TI L M 4096 ns)).drew hd
                  rw [HB.out.1] at hmark
                  have hR' := HR.out.mark hk30 false
                  rw [HB.out.1] at hR'
                  have HR' : Aside (MkRel (atL (setMk false) ns kk) T (K.set kk (b && false))) := hR'
                  clear hR'
                  obtain ⟨t0, t1⟩ := (hs.take (block tb 4 (T.map Value.bool))).at_get HB.out.2.2.1
                  go_wp2_with (go_at_call 17; refine hp.mono ?_; rintro e w' ⟨rfl, rfl⟩)
                  clear hp
                  go_region_with (go_at_call 39; refine hmark.mono ?_; rintro e w5 ⟨rfl, hs5⟩; have t5 := ((hs5.take (block tb 4 (T.map Value.bool))).at_get HB.out.2.2.1).1)
                  all_goals
                    clear hmark t0 t1 x0 x1
                    obtain ⟨t2, t3⟩ := (hs5.take (block tb 4 (T.map Value.bool))).at_get HB.out.2.2.1
                    obtain ⟨m2, m3⟩ := (hs5.take (block kb 4 (K.map Value.bool))).at_get HB.out.2.2.2
                    obtain ⟨_, _, e1, hcell⟩ := (hv.old (hs5.take (old w))).at HX.out
                    cases e1
                    have x0 := hcell 0 _ rfl
                    simp only [Nat.add_zero] at x0
                    have hs7 := (hs5.take (block kb 4 (K.map Value.bool))).at_set hKl (.bool (b && false))
                    clear hs5 hs hcell
                    cases b
                    all_goals
                      simp only [Bool.false_and, Bool.true_and] at *
                      go_wp2
                      go_roundg (cs.length - (j + 1))
                      case measure => have := A.out.1; omega
                      case rel =>
                        refine ⟨j + 1, atL (setMk false) ns kk, T, K.set kk _, by go_num, by omega, ⟨rfl, HR'.out⟩, ?_⟩
                        simp only [List.map_set]
                        exact hs7.eq (by ac_rfl)
              · have h6b : (kd == 6) = false := by simp; omega
                have h7b : (kd == 7) = false := by simp; omega
                clear h67
                have huse := use_any L M 4096 ns kk _ wr.drew (hs.take (lruP TL TI L M 4096 ns)).drew hd
                rw [HB.out.1] at huse
                have HR' : Aside (MkRel (useL ns kk) T K) := HR.out.use kk
                obtain ⟨t0, t1⟩ := (hs.take (block tb 4 (T.map Value.bool))).at_get HB.out.2.2.1
                go_wp2_with (go_at_call 17; refine hp.mono ?_; rintro e w' ⟨rfl, rfl⟩)
                clear hp
                go_region_with (go_at_call 21; refine huse.mono ?_; rintro e w5 ⟨rfl, hs5⟩; have t5 := ((hs5.take (block tb 4 (T.map Value.bool))).at_get HB.out.2.2.1).1)
                all_goals
                  clear huse t0 t1 hs x0 x1
                  go_wp2
                  go_roundg (cs.length - (j + 1))
                  case measure => have := A.out.1; omega
                  case rel =>
                    refine ⟨j + 1, useL ns kk, T, K, by go_num, by omega, ⟨rfl, HR'.out⟩, ?_⟩
                    exact hs5.eq (by ac_rfl)
        · have hj4 : ¬ (j : Int) < 200 := by omega
          have hR := A.out.2
          obtain ⟨i0, E⟩ := elemInt
          go_wp2
          go_loopg [12, 13] 30 (fun k2 want kk wr2 => ∃ (q : Nat) (a : Option Addr) (c : Nat), q ≤ 30 ∧ kk = .int .i64 q ∧ Aside (k2 = 30 - q) ∧ want = .slice a (wantL K q).length c ∧
            Sat (rw 3 1 (.slice a (wantL K q).length c) ((wantL K q).map (Value.int .i64)) * (block tb 4 (T.map Value.bool) * (block kb 4 (K.map Value.bool) * (lruP TL TI L M 4096 ns * old w)))) wr2)
          case atStart => exact ⟨0, none, 0, by omega, rfl, rfl, rfl, hs.rw_nil⟩
          case round =>
            obtain ⟨q, a, c, hq, rfl, A2, rfl, hs2⟩ := hrel
            clear hs
            by_cases hq30 : q < 30
            · have hq31 : (q : Int) < 30 := by omega
              have hKq := hR.2.2.2.2.2 q hq30
              obtain ⟨mb, hmb⟩ : ∃ b, mkB ns q = b := ⟨_, rfl⟩
              rw [hmb] at hKq
              obtain ⟨m0, _⟩ := (hs2.take (block kb 4 (K.map Value.bool))).at_get (show (K.map Value.bool)[q]? = some (.bool mb) by rw [List.getElem?_map, hKq]; rfl)
              have hw := wantL_succ K q mb hKq
              have hwl := wantL_len K q
              have HW : Aside (wantL K (q + 1) = if mb then wantL K q ++ [(q : Int)] else wantL K q) := hw
              clear hw hmb hKq
              cases mb with
              | false =>
                have HW2 : Aside (wantL K (q + 1) = wantL K q) := HW.out
                go_wp2
                go_roundg (30 - (q + 1))
                case measure => have := A2.out; omega
                case rel => exact ⟨q + 1, a, c, by omega, by go_num, rfl, by rw [HW2.out], by rw [HW2.out]; exact hs2⟩
              | true =>
                have HW2 : Aside (wantL K (q + 1) = wantL K q ++ [(q : Int)]) := HW.out
                have hs4 := hs2.alloc #[.int .i64 q] 3
                have hs5 := hs4.take (rw 3 1 (.slice a (wantL K q).length c) ((wantL K q).map (Value.int .i64)))
                have hx := Src.one_new (P := Try.prog) hs4 rfl
                clear hs4 hs2
                go_wp2_with (at_builtin; refine wpl_append_same E rfl (.tmp 143) (.tmp 145) rfl rfl rfl hs5 hx (by unfold maxLen; omega) (by omega) ?_; intro a' c' w' hs6 hnil; clear hnil hs5 hx m0)
                go_roundg (30 - (q + 1))
                case measure => have := A2.out; omega
                case rel =>
                  refine ⟨q + 1, a', c', by omega, by go_num, rfl, by rw [HW2.out]; simp, ?_⟩
                  rw [HW2.out]
                  simp only [List.length_append, List.length_cons, List.length_nil, List.map_append, List.map_cons, List.map_nil, Nat.zero_add]
                  refine Sat.weak (B := block wr.heap.size 3 [.int .i64 q]) (hs6.eq ?_)
                  ac_rfl
            · have hqe : q = 30 := by omega
              subst hqe
              clear hq30 A2
              have hlen := hR.len
              have hwl := wantL_len K 30
              have hmk := marked_any L M 4096 ns _ wr (hs2.take (lruP TL TI L M 4096 ns)) (by omega)
              rw [hR.want] at hmk
              go_wp2_with fail
              refine hmk.mono ?_
              rintro e w5 ⟨a5, n5, c5, rfl, hs5⟩
              have hi := ints_any _ _ (wantL K 30) (wantL K 30) w5 (Ints.of_rw hs5) (Ints.of_rw (hs5.take (rw 3 1 (.slice a (wantL K 30).length c) ((wantL K 30).map (Value.int .i64))))) (by omega) (by omega)
              simp only [decide_true] at hi
              clear hmk hs2
              go_wp2_with fail
              refine hi.mono ?_
              rintro e w6 ⟨rfl, nn, rfl⟩
              go_wp2
              go_ret
              exact ⟨rfl, ((hs5.drewN nn).take (old w)).old_below⟩
      · have hj3 : ¬ (j : Int) < cs.length := by omega
        have hR := A.out.2
        obtain ⟨i0, E⟩ := elemInt
        go_wp2
        go_loopg [12, 13] 30 (fun k2 want kk wr2 => ∃ (q : Nat) (a : Option Addr) (c : Nat), q ≤ 30 ∧ kk = .int .i64 q ∧ Aside (k2 = 30 - q) ∧ want = .slice a (wantL K q).length c ∧
          Sat (rw 3 1 (.slice a (wantL K q).length c) ((wantL K q).map (Value.int .i64)) * (block tb 4 (T.map Value.bool) * (block kb 4 (K.map Value.bool) * (lruP TL TI L M 4096 ns * old w)))) wr2)
        case atStart => exact ⟨0, none, 0, by omega, rfl, rfl, rfl, hs.rw_nil⟩
        case round =>
          obtain ⟨q, a, c, hq, rfl, A2, rfl, hs2⟩ := hrel
          clear hs
          by_cases hq30 : q < 30
          · have hq31 : (q : Int) < 30 := by omega
            have hKq := hR.2.2.2.2.2 q hq30
            obtain ⟨mb, hmb⟩ : ∃ b, mkB ns q = b := ⟨_, rfl⟩
            rw [hmb] at hKq
            obtain ⟨m0, _⟩ := (hs2.take (block kb 4 (K.map Value.bool))).at_get (show (K.map Value.bool)[q]? = some (.bool mb) by rw [List.getElem?_map, hKq]; rfl)
            have hw := wantL_succ K q mb hKq
            have hwl := wantL_len K q
            have HW : Aside (wantL K (q + 1) = if mb then wantL K q ++ [(q : Int)] else wantL K q) := hw
            clear hw hmb hKq
            cases mb with
            | false =>
              have HW2 : Aside (wantL K (q + 1) = wantL K q) := HW.out
              go_wp2
              go_roundg (30 - (q + 1))
              case measure => have := A2.out; omega
              case rel => exact ⟨q + 1, a, c, by omega, by go_num, rfl, by rw [HW2.out], by rw [HW2.out]; exact hs2⟩
            | true =>
              have HW2 : Aside (wantL K (q + 1) = wantL K q ++ [(q : Int)]) := HW.out
              have hs4 := hs2.alloc #[.int .i64 q] 3
              have hs5 := hs4.take (rw 3 1 (.slice a (wantL K q).length c) ((wantL K q).map (Value.int .i64)))
              have hx := Src.one_new (P := Try.prog) hs4 rfl
              clear hs4 hs2
              go_wp2_with (at_builtin; refine wpl_append_same E rfl (.tmp 143) (.tmp 145) rfl rfl rfl hs5 hx (by unfold maxLen; omega) (by omega) ?_; intro a' c' w' hs6 hnil; clear hnil hs5 hx m0)
              go_roundg (30 - (q + 1))
              case measure => have := A2.out; omega
              case rel =>
                refine ⟨q + 1, a', c', by omega, by go_num, rfl, by rw [HW2.out]; simp, ?_⟩
                rw [HW2.out]
                simp only [List.length_append, List.length_cons, List.length_nil, List.map_append, List.map_cons, List.map_nil, Nat.zero_add]
                refine Sat.weak (B := block wr.heap.size 3 [.int .i64 q]) (hs6.eq ?_)
                ac_rfl
          · have hqe : q = 30 := by omega
            subst hqe
            clear hq30 A2
            have hlen := hR.len
            have hwl := wantL_len K 30
            have hmk := marked_any L M 4096 ns _ wr (hs2.take (lruP TL TI L M 4096 ns)) (by omega)
            rw [hR.want] at hmk
            go_wp2_with fail
            refine hmk.mono ?_
            rintro e w5 ⟨a5, n5, c5, rfl, hs5⟩
            have hi := ints_any _ _ (wantL K 30) (wantL K 30) w5 (Ints.of_rw hs5) (Ints.of_rw (hs5.take (rw 3 1 (.slice a (wantL K 30).length c) ((wantL K 30).map (Value.int .i64))))) (by omega) (by omega)
            simp only [decide_true] at hi
            clear hmk hs2
            go_wp2_with fail
            refine hi.mono ?_
            rintro e w6 ⟨rfl, nn, rfl⟩
            go_wp2
            go_ret
            exact ⟨rfl, ((hs5.drewN nn).take (old w)).old_below⟩

end Go.Proofs.Ytjhkmmpgjiciiaa
