/-
  Crash: what the plain disk says of it, in the shape of the walk; then the walk.
-/
import Derived.Test.YtjhkmmpgjiciiaaDk9
import Derived.Test.YtjhkmmpgjiciiaaSlb
import Derived.Test.YtjhkmmpgjiciiaaRef1
namespace Go.Proofs.Ytjhkmmpgjiciiaa
set_option linter.unusedSimpArgs false
set_option linter.unusedVariables false
open Go.RowKit Go.Sl Go.Dk
attribute [local go_sem ↓] Go.wp_at_zero Go.wp_at_succ

/-! The first loop: each file is as it was safe. -/
def inL (todo : List ByteArray) (s : ByteArray) : Bool := todo.any fun x => decide (x = s)
theorem inL_iff {todo : List ByteArray} {s : ByteArray} : inL todo s = true ↔ s ∈ todo := by
  unfold inL
  simp only [List.any_eq_true, decide_eq_true_eq]
  exact ⟨fun ⟨x, h, e⟩ => e ▸ h, fun h => ⟨s, h, rfl⟩⟩
theorem inL_same {todo todo' : List ByteArray} {k s : ByteArray} (ht : ∀ s, s ≠ k → (s ∈ todo ↔ s ∈ todo')) (hs : s ≠ k) : inL todo s = inL todo' s := by
  rw [Bool.eq_iff_iff, inL_iff, inL_iff]; exact ht s hs
def st1 (todo : List ByteArray) (φ : ByteArray → Value) (n : Nf) : Nf := if inL todo n.nm then n else { n with f := ⟨n.f.safe, n.f.safe, n.f.sure⟩, nv := φ n.nm }
def upd (φ : ByteArray → Value) (k : ByteArray) (v : Value) : ByteArray → Value := fun s => if s = k then v else φ s

theorem st1_b (todo : List ByteArray) (φ : ByteArray → Value) (n : Nf) : (st1 todo φ n).b = n.b ∧ (st1 todo φ n).nm = n.nm := by unfold st1; split <;> exact ⟨rfl, rfl⟩
theorem st1_kv (todo : List ByteArray) (φ : ByteArray → Value) (ns : List Nf) : (ns.map (st1 todo φ)).map kvF = ns.map kvF := by
  rw [List.map_map]
  apply List.map_congr_left
  intro n _
  obtain ⟨h1, h2⟩ := st1_b todo φ n
  simp [kvF, h1, h2]
theorem st1_other {todo todo' : List ByteArray} {φ : ByteArray → Value} {k : ByteArray} {v : Value} {l : List Nf} (h : ∀ n ∈ l, n.nm ≠ k) (ht : ∀ s, s ≠ k → (s ∈ todo ↔ s ∈ todo')) : l.map (st1 todo φ) = l.map (st1 todo' (upd φ k v)) := by
  apply List.map_congr_left
  intro n hn
  have hk := h n hn
  unfold st1
  rw [inL_same ht hk]
  simp [upd, hk]
theorem st1_all {φ : ByteArray → Value} {ns : List Nf} : ns.map (st1 (ns.map (·.nm)) φ) = ns := by
  conv => rhs; rw [← List.map_id ns]
  apply List.map_congr_left
  intro n hn
  unfold st1
  rw [if_pos (inL_iff.2 (List.mem_map.2 ⟨n, hn, rfl⟩))]; rfl

theorem nodup_split {l1 : List Nf} {n : Nf} {l2 : List Nf} (h : ((l1 ++ n :: l2).map (·.nm)).Nodup) : (∀ m ∈ l1, m.nm ≠ n.nm) ∧ (∀ m ∈ l2, m.nm ≠ n.nm) := by
  simp only [List.map_append, List.map_cons, List.nodup_append, List.nodup_cons, List.mem_cons, List.mem_map] at h
  obtain ⟨_, ⟨h2, _⟩, h3⟩ := h
  exact ⟨fun m hm e => h3 m.nm ⟨m, hm, rfl⟩ n.nm (.inl rfl) e, fun m hm e => h2 ⟨m, hm, e⟩⟩

theorem kvF_keys (ns : List Nf) : (ns.map kvF).map (·.1) = ns.map (·.nm) := by simp [kvF, Function.comp_def]

/-! The second loop: the pieces that are kept are laid, one behind the other. -/
def st2 (L : List Pc) (ψ : ByteArray → Value) (n : Nf) : Nf := { n with f := ⟨(ofName n.nm L).foldl lain n.f.safe, n.f.safe, n.f.sure⟩, nv := ψ n.nm }
theorem st12 (φ : ByteArray → Value) : st1 [] φ = st2 [] φ := by funext n; simp [st1, st2, ofName, inL]
theorem st2_kv (L : List Pc) (ψ : ByteArray → Value) (ns : List Nf) : (ns.map (st2 L ψ)).map kvF = ns.map kvF := by
  rw [List.map_map]
  apply List.map_congr_left
  intro n _
  simp [kvF, st2]
theorem ofName_snoc (nm : ByteArray) (L : List Pc) (p : Pc) : ofName nm (L ++ [p]) = if p.nm = nm then ofName nm L ++ [p] else ofName nm L := by
  unfold ofName
  rw [List.filter_append]
  have e : (p.nm == nm) = decide (p.nm = nm) := bytes_beq _ _
  by_cases h : p.nm = nm
  · have e' : (p.nm == nm) = true := by rw [e]; simpa using h
    rw [if_pos h]
    simp [List.filter_cons, e']
  · have e' : (p.nm == nm) = false := by rw [e]; simpa using h
    rw [if_neg h]
    simp [List.filter_cons, e']
theorem st2_other {L : List Pc} {p : Pc} {ψ : ByteArray → Value} {v : Value} {l : List Nf} (h : ∀ n ∈ l, n.nm ≠ p.nm) : l.map (st2 L ψ) = l.map (st2 (L ++ [p]) (upd ψ p.nm v)) := by
  apply List.map_congr_left
  intro n hn
  have hk := h n hn
  unfold st2
  rw [ofName_snoc, if_neg (fun e => hk e.symm)]
  simp [upd, hk]
theorem keep_snoc (picks : List Int) : ∀ (l : List Pc) (i : Nat) (p : Pc), keep picks i (l ++ [p]) = keep picks i l ++ if picked picks (i + l.length) then [p] else []
  | [], i, p => by simp [keep]
  | x :: l, i, p => by
    have := keep_snoc picks l (i + 1) p
    have e : i + 1 + l.length = i + (x :: l).length := by simp; omega
    rw [e] at this
    simp only [List.cons_append, keep, this]
    split <;> simp
def keptB (L : List Pc) (s : ByteArray) : Bool := (ofName s L).any fun p => p.b.isSome
def KeptIs (L : List Pc) (kl : List (ByteArray × Value)) : Prop := ∀ s, mget s kl = if keptB L s then some (.bool true) else none
theorem mget_mput [DecidableEq ByteArray] (k s : ByteArray) (v : Value) (l : List (ByteArray × Value)) : mget s (mput k v l) = if s = k then some v else mget s l := by
  induction l with
  | nil => simp only [mput, mget]
  | cons p l ih =>
    unfold mput
    by_cases hk : k = p.1
    · rw [if_pos hk]
      simp only [mget]
      by_cases hs : s = k
      · simp [hs]
      · have : ¬ s = p.1 := fun e => hs (e.trans hk.symm)
        simp [hs, this]
    · rw [if_neg hk]
      simp only [mget, ih]
      by_cases hs : s = p.1
      · have : ¬ s = k := fun e => hk (e.symm.trans hs)
        simp [hs, this]
        intro e; exact absurd e.symm hk
      · simp [hs]
theorem KeptIs.cut {L : List Pc} {kl : List (ByteArray × Value)} (h : KeptIs L kl) {p : Pc} (hp : p.b = none) : KeptIs (L ++ [p]) kl := by
  intro s
  rw [h s]
  have : keptB (L ++ [p]) s = keptB L s := by
    unfold keptB
    rw [ofName_snoc]
    split <;> simp [hp]
  rw [this]
theorem KeptIs.put {L : List Pc} {kl : List (ByteArray × Value)} (h : KeptIs L kl) {p : Pc} (hp : p.b.isSome = true) : KeptIs (L ++ [p]) (mput p.nm (.bool true) kl) := by
  intro s
  rw [mget_mput, h s]
  have : keptB (L ++ [p]) s = if s = p.nm then true else keptB L s := by
    unfold keptB
    rw [ofName_snoc]
    by_cases e : s = p.nm
    · simp [e, hp]
    · rw [if_neg (fun h : p.nm = s => e h.symm), if_neg e]
  rw [this]
  by_cases e : s = p.nm <;> simp [e]

/-! The third loop: what was kept is safe. -/
def st3 (L : List Pc) (todo : List ByteArray) (φ : ByteArray → Value) (n : Nf) : Option Nf :=
  if inL todo n.nm then some n else if n.f.sure || keptB L n.nm then some { n with f := ⟨n.f.now, n.f.now, true⟩, sv := φ n.nm } else none
theorem st3_other {L : List Pc} {todo todo' : List ByteArray} {φ : ByteArray → Value} {k : ByteArray} {v : Value} {l : List Nf} (h : ∀ n ∈ l, n.nm ≠ k) (ht : ∀ s, s ≠ k → (s ∈ todo ↔ s ∈ todo')) : l.filterMap (st3 L todo φ) = l.filterMap (st3 L todo' (upd φ k v)) := by
  induction l with
  | nil => rfl
  | cons n l ih =>
    have hk := h n (by simp)
    have e : st3 L todo φ n = st3 L todo' (upd φ k v) n := by
      unfold st3
      rw [inL_same ht hk]
      simp [upd, hk]
    rw [List.filterMap_cons, List.filterMap_cons, e, ih fun m hm => h m (by simp [hm])]
theorem st3_nm {L : List Pc} {todo : List ByteArray} {φ : ByteArray → Value} {n n' : Nf} (h : st3 L todo φ n = some n') : n'.nm = n.nm ∧ n'.b = n.b := by
  unfold st3 at h
  split at h
  · cases h; exact ⟨rfl, rfl⟩
  · split at h
    · cases h; exact ⟨rfl, rfl⟩
    · cases h
theorem st3_all {L : List Pc} {φ : ByteArray → Value} {ns : List Nf} : ns.filterMap (st3 L (ns.map (·.nm)) φ) = ns := by
  have : ∀ l : List Nf, (∀ n ∈ l, n ∈ ns) → l.filterMap (st3 L (ns.map (·.nm)) φ) = l := by
    intro l
    induction l with
    | nil => intro _; rfl
    | cons n l ih =>
      intro h
      have e : st3 L (ns.map (·.nm)) φ n = some n := by unfold st3; rw [if_pos (inL_iff.2 (List.mem_map.2 ⟨n, h n (by simp), rfl⟩))]
      rw [List.filterMap_cons, e, ih fun m hm => h m (by simp [hm])]
  exact this ns fun _ h => h
theorem mdel_foundF {l1 : List Nf} {n : Nf} {l2 : List Nf} (h : ∀ m ∈ l1, m.nm ≠ n.nm) : mdel n.nm ((l1 ++ n :: l2).map kvF) = (l1 ++ l2).map kvF := by
  induction l1 with
  | nil => simp [kvF, mdel]
  | cons m l ih =>
    show (if n.nm = m.nm then _ else _) = _
    rw [if_neg (fun e => h m (by simp) e.symm)]
    have := ih fun m hm => h m (by simp [hm])
    simp only [List.map_cons, List.cons_append]
    exact congrArg _ this

/-- in the end -/
theorem crash_files (ns : List Nf) (L : List Pc) (ψ φ : ByteArray → Value) : fents ((ns.map (st2 L ψ)).filterMap (st3 L [] φ)) = (fents ns).filterMap (crashed L) := by
  induction ns with
  | nil => rfl
  | cons n l ih =>
    simp only [List.map_cons, fents, List.filterMap_cons] at ih ⊢
    have e1 : (st3 L [] φ (st2 L ψ n)) = if n.f.sure || keptB L n.nm then some { st2 L ψ n with f := ⟨(st2 L ψ n).f.now, (st2 L ψ n).f.now, true⟩, sv := φ n.nm } else none := by
      unfold st3; simp [st2, inL]
    have e2 : crashed L (n.nm, n.f) = if n.f.sure || keptB L n.nm then some (n.nm, ⟨(ofName n.nm L).foldl lain n.f.safe, (ofName n.nm L).foldl lain n.f.safe, true⟩) else none := rfl
    rw [e1, e2]
    cases hb : (n.f.sure || keptB L n.nm)
    · simp only [Bool.false_eq_true, if_false]; exact ih
    · simp only [if_true, List.map_cons]
      rw [← ih]; rfl

theorem bits_and_one (z : Int) : bits .and .i64 z 1 = z % 2 := by
  show IntKind.i64.wrap (((BitVec.ofInt 64 z &&& BitVec.ofInt 64 1).toNat : Nat) : Int) = _
  have h1 : (BitVec.ofInt 64 z &&& BitVec.ofInt 64 1).toNat = (z % 2).toNat := by
    rw [BitVec.toNat_and]
    have e1 : (BitVec.ofInt 64 1).toNat = 1 := by decide
    rw [e1, Nat.and_one_is_mod, BitVec.toNat_ofInt]
    omega
  rw [h1, IntKind.wrap_i64]
  omega

theorem lain_len (b : List UInt8) (p : Pc) (n : Nat) (hb : b.length ≤ n) (hp : p.pos + (p.b.getD []).length ≤ n) : (lain b p).length ≤ n := by
  unfold lain
  cases hpb : p.b with
  | none => simp; omega
  | some x => rw [hpb] at hp; simp only [Option.getD_some] at hp; rw [laid_len]; omega
theorem lains_len (n : Nat) : ∀ (L : List Pc) (b : List UInt8), b.length ≤ n → (∀ p ∈ L, p.pos + (p.b.getD []).length ≤ n) → (L.foldl lain b).length ≤ n
  | [], b, hb, _ => hb
  | p :: L, b, hb, h => by
    rw [List.foldl_cons]
    exact lains_len n L _ (lain_len b p n hb (h p (by simp))) fun q hq => h q (by simp [hq])
theorem keep_sub (picks : List Int) : ∀ (l : List Pc) (i : Nat), ∀ p ∈ keep picks i l, p ∈ l
  | [], _, p, h => by simp [keep] at h
  | x :: l, i, p, h => by
    unfold keep at h
    split at h
    · rcases List.mem_cons.1 h with rfl | h
      · simp
      · exact List.mem_cons_of_mem _ (keep_sub picks l _ p h)
    · exact List.mem_cons_of_mem _ (keep_sub picks l _ p h)

theorem pieceA_some {x : Np} {l : List UInt8} (h : x.p.b = some l) (hv : notNil x.v) : pieceA x = rw TB 1 x.v (bys l) := by
  obtain ⟨v, ⟨nm, k, b⟩⟩ := x
  dsimp only at h hv ⊢
  subst h
  exact pieceA_new v nm k l hv

end Go.Proofs.Ytjhkmmpgjiciiaa
