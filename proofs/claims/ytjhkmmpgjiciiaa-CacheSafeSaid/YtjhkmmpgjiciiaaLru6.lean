/-
  Package lru without its addresses: the keys by their use, how often each is pinned, whether it is marked.
-/
import Derived.Test.YtjhkmmpgjiciiaaLru5
import Derived.Test.YtjhkmmpgjiciiaaSlb
namespace Go.Proofs.Ytjhkmmpgjiciiaa
set_option linter.unusedSimpArgs false
set_option linter.unusedVariables false
open Go.RowKit Go.Sl Go.Lru

structure It where
  key : Int
  pins : Int
  mkd : Bool

def toIt (n : Nd) : It := ⟨n.key, n.pins, n.mkd⟩
def hasI (its : List It) (k : Int) : Bool := its.any fun n => n.key == k
def outI (its : List It) (k : Int) : List It := its.filter fun n => n.key != k
def useI (its : List It) (k : Int) : List It := outI its k ++ its.filter fun n => n.key == k
def atI (f : It → It) (its : List It) (k : Int) : List It := its.map fun n => if n.key = k then f n else n
def oldI (its : List It) : Option It := its.find? fun n => n.pins == 0
def dropB (its : List It) (k : Int) : Bool := its.any fun n => n.key == k && n.pins == 0
def markedI (its : List It) : List Int := sortI ((its.filter (·.mkd)).map (·.key))
def keysI (its : List It) : List Int := its.map (·.key)
def markI (its : List It) (k : Int) (on : Bool) : List It := atI (fun n => { n with mkd := on }) its k

def lruI (L : Nat) (cap : Int) (its : List It) : Assn := ex fun x : Nat × List Nd => pur (x.2.map toIt = its) * lruP TL TI L x.1 cap x.2

theorem Sat.lru_open {L : Nat} {cap : Int} {its : List It} {F : Assn} {w : World} (hs : Sat (lruI L cap its * F) w) : ∃ M ns, ns.map toIt = its ∧ Sat (lruP TL TI L M cap ns * F) w := by
  obtain ⟨⟨M, ns⟩, h⟩ := hs.ex_open
  rw [sep_assoc] at h
  obtain ⟨h1, h3⟩ := h.pur_open
  exact ⟨M, ns, h1, h3⟩
theorem Sat.lru_shut {L M : Nat} {cap : Int} {ns : List Nd} {its : List It} {F : Assn} {w : World} (h1 : ns.map toIt = its) (hs : Sat (lruP TL TI L M cap ns * F) w) : Sat (lruI L cap its * F) w := by
  refine Sat.ex_shut (M, ns) ?_
  rw [sep_assoc]
  exact Sat.pur_shut h1 hs

theorem keys_it (ns : List Nd) : (ns.map toIt).map (·.key) = ns.map (·.key) := by simp [toIt, Function.comp_def]
theorem has_it (ns : List Nd) (k : Int) : hasI (ns.map toIt) k = hasB ns k := by simp [hasI, hasB, toIt, List.any_map, Function.comp_def]
theorem out_it (ns : List Nd) (k : Int) : (outL ns k).map toIt = outI (ns.map toIt) k := by simp [outI, outL, toIt, List.filter_map, Function.comp_def]
theorem use_it (ns : List Nd) (k : Int) : (useL ns k).map toIt = useI (ns.map toIt) k := by
  unfold useL useI
  rw [List.map_append, out_it]
  congr 1
  simp [toIt, List.filter_map, Function.comp_def]
theorem mark_it (ns : List Nd) (k : Int) (on : Bool) : (atL (fun n => { n with mkd := on }) ns k).map toIt = markI (ns.map toIt) k on := by
  unfold atL markI atI
  rw [List.map_map, List.map_map]
  apply List.map_congr_left
  intro n _
  by_cases h : n.key = k <;> simp [Function.comp, toIt, h]
theorem old_it (ns : List Nd) : oldI (ns.map toIt) = (oldL ns).map toIt := by
  unfold oldI oldL
  rw [List.find?_map]; rfl
theorem drop_it (ns : List Nd) (k : Int) : dropB (ns.map toIt) k = ns.any fun n => n.key == k && n.pins == 0 := by simp [dropB, toIt, List.any_map, Function.comp_def]
theorem marked_it (ns : List Nd) : markedI (ns.map toIt) = sortI (markedK ns) := by
  unfold markedI markedK
  congr 1
  simp [toIt, List.filter_map, Function.comp_def]

structure LruOk (its : List It) : Prop where
  nd : (keysI its).Nodup
  pins : ∀ n ∈ its, 0 ≤ n.pins
  len : its.length ≤ 4096

theorem LruOk.keyd {ns : List Nd} (h : LruOk (ns.map toIt)) : Keyd ns := by
  have := h.nd
  unfold keysI at this
  rw [keys_it] at this
  exact this
theorem LruOk.pinsN {ns : List Nd} (h : LruOk (ns.map toIt)) : ∀ n ∈ ns, 0 ≤ n.pins := fun n hn => h.pins (toIt n) (List.mem_map.2 ⟨n, hn, rfl⟩)

theorem useH (L : Nat) (cap : Int) (its : List It) (k : Int) (F : Assn) (w : World) (hs : Sat (lruI L cap its * F) w) (ok : LruOk its) :
    Calls Try.prog 21 #[.pointer (some ⟨L, 0, none⟩), .int .i64 k] w fun e w' => e = .returned (.bool (hasI its k)) ∧ Sat (lruI L cap (useI its k) * F) w' := by
  obtain ⟨M, ns, rfl, h⟩ := Sat.lru_open hs
  rw [has_it]
  exact (use_any L M cap ns k F w h ok.keyd).mono fun e w' ⟨h1, h2⟩ => ⟨h1, Sat.lru_shut (use_it ns k) h2⟩
theorem markH (L : Nat) (cap : Int) (its : List It) (k : Int) (on : Bool) (F : Assn) (w : World) (hs : Sat (lruI L cap its * F) w) (ok : LruOk its) :
    Calls Try.prog 39 #[.pointer (some ⟨L, 0, none⟩), .int .i64 k, .bool on] w fun e w' => e = .returned (.bool (hasI its k)) ∧ Sat (lruI L cap (markI its k on) * F) w' := by
  obtain ⟨M, ns, rfl, h⟩ := Sat.lru_open hs
  rw [has_it]
  exact (mark_any L M cap ns k on F w h ok.keyd).mono fun e w' ⟨h1, h2⟩ => ⟨h1, Sat.lru_shut (mark_it ns k on) h2⟩
theorem dropH (L : Nat) (cap : Int) (its : List It) (k : Int) (F : Assn) (w : World) (hs : Sat (lruI L cap its * F) w) (ok : LruOk its) :
    Calls Try.prog 26 #[.pointer (some ⟨L, 0, none⟩), .int .i64 k] w fun e w' => e = .returned (.bool (dropB its k)) ∧ Sat (lruI L cap (if dropB its k then outI its k else its) * F) w' := by
  obtain ⟨M, ns, rfl, h⟩ := Sat.lru_open hs
  rw [drop_it]
  refine (drop_any L M cap ns k F w h ok.keyd ok.pinsN).mono fun e w' ⟨h1, h2⟩ => ⟨h1, Sat.lru_shut ?_ h2⟩
  split
  · exact out_it ns k
  · rfl
theorem oldestH (L : Nat) (cap : Int) (its : List It) (F : Assn) (w : World) (hs : Sat (lruI L cap its * F) w) :
    Calls Try.prog 25 #[.pointer (some ⟨L, 0, none⟩)] w fun e w' => e = .returned (.tuple #[.int .i64 (((oldI its).map (·.key)).getD 0), .bool (oldI its).isSome]) ∧ w = w' := by
  obtain ⟨M, ns, rfl, h⟩ := Sat.lru_open hs
  have := oldest_any L M cap ns F w h
  unfold oldK oldB at this
  rw [old_it]
  simpa [toIt, Function.comp_def] using this
theorem markedH (L : Nat) (cap : Int) (its : List It) (F : Assn) (w : World) (hs : Sat (lruI L cap its * F) w) (ok : LruOk its) :
    Calls Try.prog 41 #[.pointer (some ⟨L, 0, none⟩)] w fun e w' => ∃ a n c, e = .returned (.slice a n c) ∧ Sat (rw 3 1 (.slice a n c) ((markedI its).map (Value.int .i64)) * (lruI L cap its * F)) w' := by
  obtain ⟨M, ns, rfl, h⟩ := Sat.lru_open hs
  rw [marked_it]
  refine (marked_any L M cap ns F w h (by have := ok.len; simpa using this)).mono ?_
  rintro e w' ⟨a, n, c, rfl, h2⟩
  refine ⟨a, n, c, rfl, ?_⟩
  have h3 := Sat.lru_shut (its := ns.map toIt) rfl (h2.eq (sep_left _ _ _))
  exact h3.eq (sep_left _ _ _)
theorem addH (L : Nat) (cap : Int) (its : List It) (k : Int) (F : Assn) (w : World) (hs : Sat (lruI L cap its * F) w) (ok : LruOk its) (hk : hasI its k = false) (hc : (its.length : Int) ≠ cap) :
    Calls Try.prog 22 #[.pointer (some ⟨L, 0, none⟩), .int .i64 k] w fun e w' => e = .returned (.tuple #[.int .i64 0, .bool false, .int .i64 0]) ∧ Sat (lruI L cap (its ++ [⟨k, 0, false⟩]) * F) w' := by
  obtain ⟨M, ns, rfl, h⟩ := Sat.lru_open hs
  rw [has_it] at hk
  rw [List.length_map] at hc
  refine (add_any L M cap ns k F w h ok.keyd).mono ?_
  rintro e w' ⟨g, hh, c, ns', rfl, h1, h2⟩
  rcases h1 with ⟨a1, _⟩ | ⟨_, _, rfl, rfl, rfl, b, rfl⟩ | ⟨_, a2, _⟩ | ⟨_, a2, _⟩
  · rw [hk] at a1; cases a1
  · exact ⟨rfl, Sat.lru_shut (by simp [toIt]) h2⟩
  · exact absurd a2 hc
  · exact absurd a2 hc

end Go.Proofs.Ytjhkmmpgjiciiaa
