/-
  Versions are found sound just if they are in the words of the document. No condition. (part 14)
-/
import Derived.Test.YtfhbmblbidcmmaaGreatWa1
import Derived.Test.YtfhbmblbidcmmaaGreatWa7
set_option linter.unusedSimpArgs false
set_option linter.unusedVariables false
namespace Go.Proofs.YtfhbmblbidcmmaaGreat
set_option linter.unusedSimpArgs false
set_option linter.unusedVariables false
open Go.RowKit Go.Sl
theorem rw_ex (e s n c g : Nat) (xs : List Value) (L : Nat) (hL : xs.length = L) : rw e s (.slice (some ⟨g, 0, none⟩) n c) xs = ex fun sp : {sp : List Value // L = n * s ∧ L + sp.length = c * s ∧ n ≤ c ∧ c ≤ maxLen} => block g e (xs ++ sp.1) := by
 subst hL
 funext h
 apply propext
 constructor
 · rintro (⟨h1, _⟩ | ⟨g', n', c', sp, h1, h2, h3, h4, h5, h6⟩)
   · cases h1
   · cases h1
     exact ⟨⟨sp, h2, by simpa using h3, h4, h5⟩, h6⟩
 · rintro ⟨⟨sp, h2, h3, h4, h5⟩, h6⟩
   exact .inr ⟨g, n, c, sp, rfl, h2, by simpa using h3, h4, h5, h6⟩
theorem rw_split {e s n c g k : Nat} {xs : List Value} {v : Value} (h : xs[k]? = some v) : ∃ R, rw e s (.slice (some ⟨g, 0, none⟩) n c) xs = Sl.cell g k v * R ∧ ∀ v', rw e s (.slice (some ⟨g, 0, none⟩) n c) (xs.set k v') = Sl.cell g k v' * R := by
 have hk := (List.getElem?_eq_some_iff.1 h).1
 have hc : ∀ sp : List Value, ∃ F, cells g 0 (xs ++ sp) = Sl.cell g k v * F ∧ ∀ v', cells g 0 (xs.set k v' ++ sp) = Sl.cell g k v' * F := by
  intro sp
  obtain ⟨F, h1, h2⟩ := cells_at_split g (xs ++ sp) 0 k v (by rw [List.getElem?_append_left hk]; exact h)
  rw [Nat.zero_add] at h1
  refine ⟨F, h1, fun v' => ?_⟩
  have h3 := h2 v'
  rw [List.set_append_left _ _ hk, Nat.zero_add] at h3
  exact h3
 let F : List Value → Assn := fun sp => Classical.choose (hc sp)
 have hF : ∀ sp, cells g 0 (xs ++ sp) = Sl.cell g k v * F sp ∧ ∀ v', cells g 0 (xs.set k v' ++ sp) = Sl.cell g k v' * F sp := fun sp => Classical.choose_spec (hc sp)
 refine ⟨ex fun sp : {sp : List Value // xs.length = n * s ∧ xs.length + sp.length = c * s ∧ n ≤ c ∧ c ≤ maxLen} => hdr g e (xs.length + sp.1.length) * F sp.1, ?_, fun v' => ?_⟩
 · rw [rw_ex _ _ _ _ _ _ xs.length rfl, sep_comm, ex_sep]
   congr 1
   funext sp
   unfold block
   rw [(hF sp.1).1, List.length_append]
   ac_rfl
 · rw [rw_ex _ _ _ _ _ _ xs.length List.length_set, sep_comm, ex_sep]
   congr 1
   funext sp
   unfold block
   rw [(hF sp.1).2 v', List.length_append, List.length_set]
   ac_rfl
instance rws_has (e s n c g k : Nat) (xs : List Value) (v : Value) [h : At xs k v] : HasC (rw e s (.slice (some ⟨g, 0, none⟩) n c) xs) g k v :=
 let ⟨R, h1, _⟩ := rw_split (e := e) (s := s) (n := n) (c := c) (g := g) h.out; ⟨R, h1⟩
instance rws_upd (e s n c g k : Nat) (xs : List Value) (v v' : Value) [h : At xs k v] : Upd (rw e s (.slice (some ⟨g, 0, none⟩) n c) xs) g k v' (rw e s (.slice (some ⟨g, 0, none⟩) n c) (xs.set k v')) :=
 let ⟨R, h1, h2⟩ := rw_split (e := e) (s := s) (n := n) (c := c) (g := g) h.out; ⟨v, R, h1, h2 v'⟩
theorem row_some {e s : Nat} {a : Option Addr} {n c : Nat} {xs : List Value} {F : Assn} {w : World} (hs : Sat (rw e s (.slice a n c) xs * F) w) (hn : 0 < n) : ∃ g, a = some ⟨g, 0, none⟩ := by
 rcases hs.rw_open with ⟨h1, _⟩ | ⟨g', n', cap, sp, h1, _⟩
 · cases h1; omega
 · cases h1; exact ⟨_, rfl⟩
theorem rw_max {e s : Nat} {a : Option Addr} {n c : Nat} {xs : List Value} {F : Assn} {w : World} (hs : Sat (rw e s (.slice a n c) xs * F) w) : xs.length = n * s ∧ n ≤ c ∧ c ≤ 9223372036854775807 := by
 rcases hs.rw_open with ⟨h1, h2, _⟩ | ⟨g', n', cap, sp, h1, h2, h3, h4, h5, _⟩
 · cases h1; subst h2; simp
 · cases h1; exact ⟨h2, h4, by simpa [maxLen] using h5⟩
end Go.Proofs.YtfhbmblbidcmmaaGreat
namespace Go.Proofs.YtfhbmblbidcmmaaGreat
set_option linter.unusedSimpArgs false
set_option linter.unusedVariables false
open Go.RowKit Go.Sl Go.Dk
theorem bys_set (l : List UInt8) (k : Nat) (y : UInt8) : (bys l).set k (.int .u8 y.toNat) = bys (l.set k y) := by
 unfold bys; rw [List.map_set]; rfl
theorem row_made {n : Nat} {F : Assn} {w : World} (l : List UInt8) (hl : l.length = n) (hn : n ≤ 1099511627776) (hs : Sat F w) : Sat (rw TB 1 (.slice (some ⟨w.heap.size, 0, none⟩) n n) (bys l) * F) (w.alloc (.cells (bys l).toArray TB)) := by
 have h := hs.alloc (bys l).toArray TB
 refine Sat.rw_shut (sp := []) (n := n) (cap := n) (by simp [bys, hl]) (by simp [bys, hl]) (Nat.le_refl _) (by unfold maxLen; omega) ?_
 simpa using h
end Go.Proofs.YtfhbmblbidcmmaaGreat
namespace Go.Sl
set_option linter.unusedSimpArgs false
set_option linter.unusedVariables false
def ReadsR (s : Nat) (B : Assn) (v : Value) (n : Nat) (cs : List Value) : Prop :=
 cs.length = n * s ∧ ∃ a c, v = .slice a n c ∧ n ≤ c ∧ c ≤ 9223372036854775807 ∧ ∀ j u, cs[j]? = some u → ∃ b o, a = some ⟨b, o, none⟩ ∧ RdC B b (o + j) u
theorem ReadsR.left {s : Nat} {A B : Assn} {v : Value} {n : Nat} {cs : List Value} (h : ReadsR s A v n cs) : ReadsR s (A * B) v n cs := by
 obtain ⟨h1, a, c, h2, h3, h4, h5⟩ := h
 refine ⟨h1, a, c, h2, h3, h4, fun j u hj => ?_⟩
 obtain ⟨b, o, e, r⟩ := h5 j u hj
 exact ⟨b, o, e, inferInstance⟩
theorem ReadsR.right {s : Nat} {A B : Assn} {v : Value} {n : Nat} {cs : List Value} (h : ReadsR s B v n cs) : ReadsR s (A * B) v n cs := by
 obtain ⟨h1, a, c, h2, h3, h4, h5⟩ := h
 refine ⟨h1, a, c, h2, h3, h4, fun j u hj => ?_⟩
 obtain ⟨b, o, e, r⟩ := h5 j u hj
 exact ⟨b, o, e, inferInstance⟩
theorem ReadsR.eq {s : Nat} {A B : Assn} {v : Value} {n : Nat} {cs : List Value} (h : ReadsR s A v n cs) (e : A = B) : ReadsR s B v n cs := e ▸ h
theorem ReadsR.v {s : Nat} {B : Assn} {v : Value} {n : Nat} {cs : List Value} (h : ReadsR s B v n cs) : ∃ a c, v = .slice a n c ∧ n ≤ c ∧ c ≤ 9223372036854775807 := by
 obtain ⟨_, a, c, h2, h3, h4, _⟩ := h
 exact ⟨a, c, h2, h3, h4⟩
theorem ReadsR.nil (s : Nat) (B : Assn) : ReadsR s B (.slice none 0 0) 0 [] := ⟨by simp, none, 0, rfl, by omega, by omega, fun j u h => by simp at h⟩
theorem ReadsR.rw {e s : Nat} {v : Value} {n : Nat} {cs : List Value} {F : Assn} {w : World} (hs : Sat (rw e s v cs * F) w) (hv : ∃ a c, v = .slice a n c) : ReadsR s (rw e s v cs) v n cs := by
 obtain ⟨a, c, rfl⟩ := hv
 rcases hs.rw_open with ⟨h1, h2, _⟩ | ⟨g, n', cap, sp, h1, h2, h3, h4, h5, _⟩
 · cases h1; subst h2
   exact ReadsR.nil s _
 · cases h1
   refine ⟨h2, _, _, rfl, h4, by simpa [maxLen] using h5, fun j u hj => ⟨g, 0, rfl, ?_⟩⟩
   rw [Nat.zero_add]
   exact ⟨fun F w hs => by
    rcases hs.rw_open with ⟨h1, h2, _⟩ | ⟨g', n', cap, sp, h1, h2, h3, h4, h5, h6⟩
    · cases h1
    · cases h1
      have h7 : Sat (Sl.cells g 0 (cs ++ sp) * (Sl.hdr g e (cs ++ sp).length * F)) w := h6.eq (by unfold Sl.block; ac_rfl)
      simpa using h7.cells_at j u (by rw [List.getElem?_append_left (List.getElem?_eq_some_iff.1 hj).1]; exact hj)⟩
theorem ReadsR.at {s : Nat} {B : Assn} {a : Option Addr} {n c : Nat} {cs : List Value} (h : ReadsR s B (.slice a n c) n cs) (j : Nat) (u : Value) (hj : cs[j]? = some u) : ∃ b o, a = some ⟨b, o, none⟩ ∧ RdC B b (o + j) u := by
 obtain ⟨h1, a', c', e, h3, h4, h5⟩ := h
 cases e
 exact h5 j u hj
theorem ReadsR.cut {s : Nat} {B : Assn} {a : Option Addr} {n c : Nat} {cs : List Value} (h : ReadsR s B (.slice a n c) n cs) (lo hi : Nat) (h1 : lo ≤ hi) (h2 : hi ≤ n) :
 ReadsR s B (.slice (cutA a c lo s) (hi - lo) (c - lo)) (hi - lo) ((cs.drop (lo * s)).take ((hi - lo) * s)) := by
 obtain ⟨g1, a', c', e, g3, g4, g5⟩ := h
 cases e
 refine ⟨?_, _, _, rfl, by omega, by omega, fun j u hj => ?_⟩
 · rw [List.length_take, List.length_drop, g1, Nat.min_eq_left]
   rw [← Nat.sub_mul]
   exact Nat.mul_le_mul_right _ (by omega)
 · have hj2 := (List.getElem?_eq_some_iff.1 hj).1
   rw [List.getElem?_take] at hj
   split at hj
   · rw [List.getElem?_drop] at hj
     obtain ⟨b, o, rfl, r⟩ := g5 _ u hj
     have hlt : lo < hi := by
      rcases Nat.lt_or_ge lo hi with h | h
      · exact h
      · have : hi - lo = 0 := by omega
        rw [this] at hj2; simp at hj2
     refine ⟨b, o + lo * s, ?_, ?_⟩
     · unfold cutA
       rw [if_neg (by omega)]
       simp [Addr.add]
     · rw [Nat.add_assoc]; exact r
   · cases hj
theorem ReadsR.src {P : Program} {s : Nat} {B : Assn} {v : Value} {n : Nat} {cs : List Value} (h : ReadsR s B v n cs) (h1 : ∀ u ∈ cs, u.oneCell' = true) {F : Assn} {w : World} (hs : Sat (B * F) w) : Src P s w v n cs := by
 obtain ⟨g1, a, c, rfl, g3, g4, g5⟩ := h
 rcases Nat.eq_zero_or_pos cs.length with h0 | h0
 · have : cs = [] := List.length_eq_zero_iff.1 h0
   subst this
   refine ⟨fun _ => rfl, fun k => ?_, g1, by simp⟩
   rw [h0] at g1
   cases a with
   | none => rfl
   | some ad =>
     show (loadCells ad (n * s)).run P (w.drewN k) = _
     rw [← g1]
     rfl
 · obtain ⟨b, o, rfl, _⟩ := g5 0 _ (List.getElem?_eq_getElem h0)
   refine Src.slice g1 (fun j u hj => ?_) h1
   obtain ⟨b', o', e, r⟩ := g5 j u hj
   cases e
   exact r.out F w hs
theorem keep1 {A R : Assn} {w : World} [h : SatI A w] (X : Assn) [t : Take A X R] : Sat X w := Sat.weak (h.out.take X)
theorem keep2 {A R R' : Assn} {w : World} [h : SatI A w] (X Y : Assn) [t : Take A X R] [t' : Take R Y R'] : Sat (X * Y) w := Sat.weak (B := R') ((h.out.take2 X Y).eq (by ac_rfl))
theorem keep3 {A R R' R'' : Assn} {w : World} [h : SatI A w] (X Y Z : Assn) [t : Take A X R] [t' : Take R Y R'] [t'' : Take R' Z R''] : Sat (X * (Y * Z)) w := Sat.weak (B := R'') ((h.out.take3 X Y Z).eq (by ac_rfl))
theorem keep4 {A R R' R'' R3 : Assn} {w : World} [h : SatI A w] (X Y Z V : Assn) [t : Take A X R] [t' : Take R Y R'] [t'' : Take R' Z R''] [t3 : Take R'' V R3] : Sat (X * (Y * (Z * V))) w := Sat.weak (B := R3) ((h.out.take3 X Y Z).eq (by rw [t3.out]; ac_rfl))
theorem keep5 {A R R' R'' R3 R4 : Assn} {w : World} [h : SatI A w] (X Y Z V U : Assn) [t : Take A X R] [t' : Take R Y R'] [t'' : Take R' Z R''] [t3 : Take R'' V R3] [t4 : Take R3 U R4] : Sat (X * (Y * (Z * (V * U)))) w := Sat.weak (B := R4) ((h.out.take3 X Y Z).eq (by rw [t3.out, t4.out]; ac_rfl))
theorem keep6 {A R R' R'' R3 R4 R5 : Assn} {w : World} [h : SatI A w] (X Y Z V U T : Assn) [t : Take A X R] [t' : Take R Y R'] [t'' : Take R' Z R''] [t3 : Take R'' V R3] [t4 : Take R3 U R4] [t5 : Take R4 T R5] : Sat (X * (Y * (Z * (V * (U * T))))) w := Sat.weak (B := R5) ((h.out.take3 X Y Z).eq (by rw [t3.out, t4.out, t5.out]; ac_rfl))
theorem takeI3 {A R R' R'' : Assn} {w : World} [h : SatI A w] (X Y Z : Assn) [t : Take A X R] [t' : Take R Y R'] [t'' : Take R' Z R''] : Sat (X * (Y * (Z * R''))) w := h.out.take3 X Y Z
theorem takeI2 {A R R' : Assn} {w : World} [h : SatI A w] (X Y : Assn) [t : Take A X R] [t' : Take R Y R'] : Sat (X * (Y * R')) w := h.out.take2 X Y
theorem flat_at {α : Type} {f : α → List Value} {s : Nat} (hf : ∀ x, (f x).length = s) : ∀ (l : List α) (i k : Nat) (x : α), l[i]? = some x → k < s → (l.flatMap f)[i * s + k]? = (f x)[k]?
 | [], i, k, x, h, _ => by simp at h
 | y :: l, 0, k, x, h, hk => by
   simp at h; subst h
   rw [List.flatMap_cons, Nat.zero_mul, Nat.zero_add, List.getElem?_append_left (by rw [hf]; exact hk)]
 | y :: l, i + 1, k, x, h, hk => by
   simp at h
   rw [List.flatMap_cons, List.getElem?_append_right (by rw [hf, Nat.add_mul]; omega), hf, show (i + 1) * s + k - s = i * s + k by rw [Nat.add_mul]; omega]
   exact flat_at hf l i k x h hk
theorem flatV_len {α : Type} {f : α → List Value} {s : Nat} (hf : ∀ x, (f x).length = s) (l : List α) : (l.flatMap f).length = l.length * s := by
 induction l with
 | nil => simp
 | cons x l ih => rw [List.flatMap_cons, List.length_append, hf, ih, List.length_cons, Nat.add_mul]; omega
theorem ReadsR.row {α : Type} {f : α → List Value} {s : Nat} (hf : ∀ x, (f x).length = s) (hp : 0 < s) {B : Assn} {a : Option Addr} {n c : Nat} {l : List α} (h : ReadsR s B (.slice a n c) n (l.flatMap f)) {i : Nat} {x : α} (hi : l[i]? = some x) :
 ∃ b o, a = some ⟨b, o, none⟩ ∧ ∀ k u, (f x)[k]? = some u → RdC B b (o + i * s + k) u := by
 obtain ⟨g1, a', c', e, g3, g4, g5⟩ := h
 cases e
 obtain ⟨u, hu⟩ : ∃ u, (f x)[0]? = some u := ⟨_, List.getElem?_eq_getElem (by rw [hf]; exact hp)⟩
 obtain ⟨b, o, rfl, _⟩ := g5 (i * s + 0) u (by rw [flat_at hf l i 0 x hi hp]; exact hu)
 refine ⟨b, o, rfl, fun k u hk => ?_⟩
 have hk2 : k < s := by rw [← hf x]; exact (List.getElem?_eq_some_iff.1 hk).1
 obtain ⟨b', o', e, r⟩ := g5 (i * s + k) u (by rw [flat_at hf l i k x hi hk2]; exact hk)
 cases e
 rw [Nat.add_assoc]; exact r
end Go.Sl
