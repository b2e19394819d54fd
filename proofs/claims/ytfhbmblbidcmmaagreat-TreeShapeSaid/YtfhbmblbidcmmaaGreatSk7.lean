/-
  Of all roots that are made the pages are a tree in the form of the document, and just these are told, and each is in use. No condition. (part 7)
-/
import Derived.Test.YtfhbmblbidcmmaaGreatSk1
set_option linter.unusedSimpArgs false
set_option linter.unusedVariables false
namespace Go.Lru
set_option linter.unusedSimpArgs false
set_option linter.unusedVariables false
open Go.Sl
def pt (a : Nat × Nat) : Value := .pointer (some ⟨a.1, a.2, none⟩)
def edge (u v : Nat × Nat) : Assn := Sl.cell u.1 (u.2 + 4) (pt v) * Sl.cell v.1 (v.2 + 3) (pt u)
def chain : List (Nat × Nat) → Assn
 | u :: v :: l => edge u v * chain (v :: l)
 | _ => 1
structure Nd where
 b : Nat
 key : Int
 pins : Int
 mkd : Bool
abbrev ikey : Int → Value := fun n => Value.int .i64 n
def item (ti : TypeId) (n : Nd) : Assn := hdr n.b ti 5 * (Sl.cell n.b 0 (.int .i64 n.key) * (Sl.cell n.b 1 (.int .i64 n.pins) * Sl.cell n.b 2 (.bool n.mkd)))
def items (ti : TypeId) : List Nd → Assn
 | [] => 1
 | n :: l => item ti n * items ti l
def kv (n : Nd) : Int × Value := (n.key, .pointer (some ⟨n.b, 0, none⟩))
def pmp (M : Nat) (ns : List Nd) : Assn := fun h => ∃ ms, ms.Perm (ns.map kv) ∧ mp ikey M ms h
def ring (L : Nat) (ns : List Nd) : List (Nat × Nat) := (L, 1) :: (ns.map (fun n => (n.b, 0)) ++ [(L, 1)])
abbrev core (tl : TypeId) (L M : Nat) (cap : Int) : Assn :=
 hdr L tl 7 * (Sl.cell L 0 (.int .i64 cap) * (Sl.cell L 1 (.int .i64 0) * (Sl.cell L 2 (.int .i64 0) * (Sl.cell L 3 (.bool false) * Sl.cell L 6 (.map (some M))))))
def lruP (tl ti : TypeId) (L M : Nat) (cap : Int) (ns : List Nd) : Assn :=
 core tl L M cap * (pmp M ns * (chain (ring L ns) * items ti ns))
theorem pmp_perm {M : Nat} {ns ns' : List Nd} (h : ns.Perm ns') : pmp M ns = pmp M ns' := by
 funext h'
 apply propext
 constructor
 · rintro ⟨ms, a, b⟩; exact ⟨ms, a.trans (h.map kv), b⟩
 · rintro ⟨ms, a, b⟩; exact ⟨ms, a.trans (h.map kv).symm, b⟩
theorem items_perm {ti : TypeId} {ns ns' : List Nd} (h : ns.Perm ns') : items ti ns = items ti ns' := by
 induction h with
 | nil => rfl
 | cons x _ ih => simp [items, ih]
 | swap x y l => simp only [items]; rw [sep_left]
 | trans _ _ h1 h2 => rw [h1, h2]
theorem items_append (ti : TypeId) (l1 l2 : List Nd) : items ti (l1 ++ l2) = items ti l1 * items ti l2 := by
 induction l1 with
 | nil => simp [items, one_sep]
 | cons n l ih => simp [items, ih, sep_assoc]
theorem chain_append (l1 : List (Nat × Nat)) (u : Nat × Nat) (l2 : List (Nat × Nat)) : chain (l1 ++ u :: l2) = chain (l1 ++ [u]) * chain (u :: l2) := by
 induction l1 with
 | nil => simp [chain, one_sep]
 | cons v l ih =>
   cases l with
   | nil => simp [chain, sep_one]
   | cons x l =>
     simp only [List.cons_append] at ih ⊢
     simp only [chain, sep_assoc, ih]
def before (L : Nat) (l1 : List Nd) : Nat × Nat := match l1.getLast? with
 | some n => (n.b, 0)
 | none => (L, 1)
def behind (L : Nat) (l2 : List Nd) : Nat × Nat := match l2 with
 | n :: _ => (n.b, 0)
 | [] => (L, 1)
theorem ring_split (L : Nat) (l1 l2 : List Nd) : ∃ p q : List (Nat × Nat), (∀ mid : List Nd, ring L (l1 ++ mid ++ l2) = p ++ before L l1 :: (mid.map (fun n => (n.b, 0)) ++ behind L l2 :: q)) := by
 have h1 : ∃ p, (L, 1) :: l1.map (fun n => (n.b, 0)) = p ++ [before L l1] := by
  unfold before
  rcases List.eq_nil_or_concat l1 with rfl | ⟨l, n, rfl⟩
  · exact ⟨[], rfl⟩
  · exact ⟨(L, 1) :: l.map (fun n => (n.b, 0)), by simp⟩
 have h2 : ∃ q, l2.map (fun n => (n.b, 0)) ++ [(L, 1)] = behind L l2 :: q := by
  unfold behind
  cases l2 with
  | nil => exact ⟨[], rfl⟩
  | cons n l => exact ⟨l.map (fun n => (n.b, 0)) ++ [(L, 1)], by simp⟩
 obtain ⟨p, hp⟩ := h1
 obtain ⟨q, hq⟩ := h2
 refine ⟨p, q, fun mid => ?_⟩
 have : ring L (l1 ++ mid ++ l2) = ((L, 1) :: l1.map (fun n => (n.b, 0))) ++ (mid.map (fun n => (n.b, 0)) ++ (l2.map (fun n => (n.b, 0)) ++ [(L, 1)])) := by simp [ring]
 rw [this, hp, hq]
 simp
theorem ring_cut (L : Nat) (l1 : List Nd) (n : Nd) (l2 : List Nd) : ∃ R : Assn,
 chain (ring L (l1 ++ n :: l2)) = edge (before L l1) (n.b, 0) * edge (n.b, 0) (behind L l2) * R ∧
 chain (ring L (l1 ++ l2)) = edge (before L l1) (behind L l2) * R := by
 obtain ⟨p, q, h⟩ := ring_split L l1 l2
 refine ⟨chain (p ++ [before L l1]) * chain (behind L l2 :: q), ?_, ?_⟩
 · have := h [n]
   simp only [List.map_cons, List.map_nil, List.cons_append, List.nil_append, List.append_assoc] at this
   rw [this, chain_append]
   simp only [chain]
   ac_rfl
 · have := h []
   simp only [List.map_nil, List.nil_append, List.append_nil] at this
   rw [this, chain_append]
   simp only [chain]
   ac_rfl
theorem ring_last (L : Nat) (ns : List Nd) : ∃ R : Assn, chain (ring L ns) = edge (before L ns) (L, 1) * R ∧
 ∀ n : Nd, chain (ring L (ns ++ [n])) = edge (before L ns) (n.b, 0) * edge (n.b, 0) (L, 1) * R := by
 have h1 : ∃ p, (L, 1) :: ns.map (fun n => (n.b, 0)) = p ++ [before L ns] := by
  unfold before
  rcases List.eq_nil_or_concat ns with rfl | ⟨l, n, rfl⟩
  · exact ⟨[], rfl⟩
  · exact ⟨(L, 1) :: l.map (fun n => (n.b, 0)), by simp⟩
 obtain ⟨p, hp⟩ := h1
 refine ⟨chain (p ++ [before L ns]), ?_, ?_⟩
 · have : ring L ns = p ++ before L ns :: [(L, 1)] := by
    have : ring L ns = ((L, 1) :: ns.map (fun n => (n.b, 0))) ++ [(L, 1)] := by simp [ring]
    rw [this, hp]; simp
   rw [this, chain_append]
   simp only [chain, sep_one]
   ac_rfl
 · intro n
   have : ring L (ns ++ [n]) = p ++ before L ns :: [(n.b, 0), (L, 1)] := by
    have : ring L (ns ++ [n]) = ((L, 1) :: ns.map (fun n => (n.b, 0))) ++ [(n.b, 0), (L, 1)] := by simp [ring]
    rw [this, hp]; simp
   rw [this, chain_append]
   simp only [chain, sep_one]
   ac_rfl
theorem ring_first (L : Nat) (ns : List Nd) : ∃ R : Assn, chain (ring L ns) = edge (L, 1) (behind L ns) * R := by
 cases ns with
 | nil => exact ⟨1, by simp [ring, chain, behind]⟩
 | cons n l => exact ⟨chain ((n.b, 0) :: (l.map (fun n => (n.b, 0)) ++ [(L, 1)])), by simp [ring, chain, behind]⟩
theorem mget_perm {κ : Type} [DecidableEq κ] {ms : List (κ × Value)} : ∀ {ns : List (κ × Value)}, ms.Perm ns → (ns.map (·.1)).Nodup → ∀ k, mget k ms = mget k ns := by
 intro ns hp
 induction hp with
 | nil => intro _ _; rfl
 | cons x _ ih =>
   intro hn k
   simp only [List.map_cons, List.nodup_cons] at hn
   simp only [mget]
   split
   · rfl
   · exact ih hn.2 k
 | swap x y l =>
   intro hn k
   simp only [List.map_cons, List.nodup_cons, List.mem_cons, not_or] at hn
   simp only [mget]
   split <;> split <;> simp_all
 | trans h1 h2 ih1 ih2 =>
   intro hn k
   have hn' := (h2.map (·.1)).nodup_iff.2 hn
   rw [ih1 hn' k, ih2 hn k]
theorem mget_found {k : Int} {l1 : List Nd} {n : Nd} {l2 : List Nd} (hk : n.key = k) (hn : ((l1 ++ n :: l2).map (·.key)).Nodup) : mget k ((l1 ++ n :: l2).map kv) = some (.pointer (some ⟨n.b, 0, none⟩)) := by
 induction l1 with
 | nil => simp [mget, kv, hk]
 | cons m l ih =>
   simp only [List.cons_append, List.map_cons, List.nodup_cons] at hn
   simp only [List.cons_append, List.map_cons, mget]
   rw [if_neg, ih hn.2]
   intro e
   apply hn.1
   simp [kv] at e
   simp [← e, hk]
theorem mget_none {k : Int} {ns : List Nd} (h : ∀ n ∈ ns, n.key ≠ k) : mget k (ns.map kv) = none := by
 induction ns with
 | nil => rfl
 | cons m l ih =>
   simp only [List.map_cons, mget]
   rw [if_neg, ih fun n hn => h n (List.mem_cons_of_mem _ hn)]
   intro e
   exact h m (List.mem_cons_self) e.symm
theorem mput_perm {ms : List (Int × Value)} {ns : List Nd} (hp : ms.Perm (ns.map kv)) (hd : (ns.map (·.key)).Nodup) {n : Nd} (h : ∀ m ∈ ns, m.key ≠ n.key) : (mput n.key (.pointer (some ⟨n.b, 0, none⟩)) ms).Perm ((ns ++ [n]).map kv) := by
 have hk : ((ns.map kv).map (·.1)).Nodup := by simpa [List.map_map, Function.comp_def, kv] using hd
 rw [mput_new (by rw [mget_perm hp hk]; exact mget_none h)]
 simp only [List.map_append, List.map_cons, List.map_nil]
 exact hp.append_right _
theorem mdel_perm {κ : Type} [DecidableEq κ] {ms ns : List (κ × Value)} (hp : ms.Perm ns) : (ns.map (·.1)).Nodup → ∀ k, (mdel k ms).Perm (mdel k ns) := by
 induction hp with
 | nil => intro _ _; exact .nil
 | cons x h ih =>
   intro hn k
   simp only [List.map_cons, List.nodup_cons] at hn
   simp only [mdel]
   split
   · exact h
   · exact (ih hn.2 k).cons x
 | swap x y l =>
   intro hn k
   simp only [List.map_cons, List.nodup_cons, List.mem_cons, not_or] at hn
   simp only [mdel]
   split <;> split
   · rename_i h1 h2; exact absurd (h1.symm.trans h2) (fun e => hn.1.1 e.symm)
   · exact .refl _
   · exact .refl _
   · exact .swap _ _ _
 | trans h1 h2 ih1 ih2 =>
   intro hn k
   have hn' := (h2.map (·.1)).nodup_iff.2 hn
   exact (ih1 hn' k).trans (ih2 hn k)
theorem mdel_found {k : Int} {l1 : List Nd} {n : Nd} {l2 : List Nd} (hk : n.key = k) (hn : ((l1 ++ n :: l2).map (·.key)).Nodup) : mdel k ((l1 ++ n :: l2).map kv) = (l1 ++ l2).map kv := by
 induction l1 with
 | nil => simp [mdel, kv, hk]
 | cons m l ih =>
   simp only [List.cons_append, List.map_cons, List.nodup_cons] at hn
   simp only [List.cons_append, List.map_cons, mdel]
   rw [if_neg, ih hn.2]
   intro e
   apply hn.1
   simp [kv] at e
   simp [← e, hk]
theorem Sat.pmp_open {M : Nat} {ns : List Nd} {F : Assn} {w : World} (hs : Sat (pmp M ns * F) w) : ∃ ms o, ms.Perm (ns.map kv) ∧ MapIs ikey o ms ∧ Sat (raw M o * F) w := by
 obtain ⟨_, ⟨g, k, d, rfl, ⟨ms, hp, hr⟩, hF⟩, H⟩ := hs
 obtain ⟨o, h1, h2⟩ := Sat.mp_open (kf := ikey) (b := M) (ms := ms) (F := F) ⟨_, ⟨g, k, d, rfl, hr, hF⟩, H⟩
 exact ⟨ms, o, hp, h1, h2⟩
theorem Sat.pmp_shut {M : Nat} {ns : List Nd} {F : Assn} {w : World} {ms : List (Int × Value)} {o : Obj} (hp : ms.Perm (ns.map kv)) (ho : MapIs ikey o ms) (hs : Sat (raw M o * F) w) : Sat (pmp M ns * F) w := by
 obtain ⟨_, ⟨g, k, d, rfl, hr, hF⟩, H⟩ := Sat.mp_shut ho hs
 exact ⟨_, ⟨g, k, d, rfl, ⟨ms, hp, hr⟩, hF⟩, H⟩
theorem keys_nodup {ns : List Nd} (hd : (ns.map (·.key)).Nodup) : ((ns.map kv).map (·.1)).Nodup := by simpa [List.map_map, Function.comp_def, kv] using hd
theorem find_cases (ns : List Nd) (k : Int) : (∃ l1 n l2, ns = l1 ++ n :: l2 ∧ n.key = k) ∨ (∀ n ∈ ns, n.key ≠ k) := by
 by_cases h : ∃ n ∈ ns, n.key = k
 · obtain ⟨n, hn, hk⟩ := h
   obtain ⟨l1, l2, e⟩ := List.append_of_mem hn
   exact .inl ⟨l1, n, l2, e, hk⟩
 · exact .inr fun n hn hk => h ⟨n, hn, hk⟩
end Go.Lru
