/-
  Walks and plain laws that the lines of texts lean on. No condition (part 43)
-/
import Derived.Test.YtfhbmblbidcmmaaGreatRl42
import Derived.Test.YtfhbmblbidcmmaaGreatRl1
import Derived.IntWalk
set_option linter.unusedSimpArgs false
set_option linter.unusedVariables false
namespace Go.Tr
open Go.Sl
set_option linter.unusedSimpArgs false
set_option linter.unusedVariables false
structure Ix where
 rd : Int
 cs : List (Int × Int)
def kvI (cs : List (Int × Int)) : List (Int × Value) := cs.map fun p => (p.1, .int .i64 p.2)
def iget (k : Int) : List (Int × Int) → Option Int
 | [] => none
 | p :: l => if k = p.1 then some p.2 else iget k l
def iput (k v : Int) : List (Int × Int) → List (Int × Int)
 | [] => [(k, v)]
 | p :: l => if k = p.1 then (k, v) :: l else p :: iput k v l
theorem mget_kvI (k : Int) : ∀ l, mget k (kvI l) = (iget k l).map (Value.int .i64)
 | [] => rfl
 | p :: l => by
   show (if k = p.1 then some (Value.int .i64 p.2) else mget k (kvI l)) = ((if k = p.1 then some p.2 else iget k l).map _)
   by_cases h : k = p.1
   · rw [if_pos h, if_pos h]; rfl
   · rw [if_neg h, if_neg h, mget_kvI k l]
theorem mput_kvI (k v : Int) : ∀ l, mput k (.int .i64 v) (kvI l) = kvI (iput k v l)
 | [] => rfl
 | p :: l => by
   show (if k = p.1 then (k, Value.int .i64 v) :: kvI l else (p.1, Value.int .i64 p.2) :: mput k (.int .i64 v) (kvI l)) = kvI (if k = p.1 then (k, v) :: l else p :: iput k v l)
   by_cases h : k = p.1
   · rw [if_pos h, if_pos h]; rfl
   · rw [if_neg h, if_neg h, mput_kvI k v l]; rfl
theorem iget_iput (k v j : Int) : ∀ l, iget j (iput k v l) = if j = k then some v else iget j l
 | [] => by
  show (if j = k then some v else none) = _
  split <;> rfl
 | p :: l => by
   unfold iput
   by_cases h : k = p.1
   · rw [if_pos h]
     show (if j = k then some v else iget j l) = _
     by_cases h2 : j = k
     · rw [if_pos h2, if_pos h2]
     · rw [if_neg h2, if_neg h2]
       show _ = (if j = p.1 then _ else _)
       rw [if_neg (by omega)]
   · rw [if_neg h]
     show (if j = p.1 then some p.2 else iget j (iput k v l)) = if j = k then some v else (if j = p.1 then some p.2 else iget j l)
     rw [iget_iput k v j l]
     by_cases h2 : j = p.1
     · rw [if_pos h2, if_pos h2, if_neg (by omega)]
     · rw [if_neg h2, if_neg h2]
def cutB (O : List UInt8) (a b : Nat) : List UInt8 := (O.drop a).take (b - a)
theorem cutB_app (O : List UInt8) {a b c : Nat} (h1 : a ≤ b) (h2 : b ≤ c) : cutB O a c = cutB O a b ++ cutB O b c := by
 unfold cutB
 rw [show c - a = (b - a) + (c - b) by omega, List.take_add, List.drop_drop, show a + (b - a) = b by omega]
theorem cutB_len {O : List UInt8} {a b : Nat} (h : b ≤ O.length) : (cutB O a b).length = b - a := by
 unfold cutB
 rw [List.length_take, List.length_drop]
 omega
def chEnd (O : List UInt8) (a : Nat) : Nat := min ((a / 64 + 1) * 64) O.length
def chWhole (O : List UInt8) (a b : Nat) : Bool := decide (a = a / 64 * 64 ∧ chEnd O a ≤ b)
def wrI (n : Int) : Int := IntKind.i64.wrap n
def ixStep (O : List UInt8) (x : Ix) (a b : Nat) : Int × Nat × Ix :=
 match chWhole O a b, iget (a / 64 : Nat) x.cs with
 | true, some k => (k, chEnd O a, x)
 | true, none => (endsC (cutB O a (min (chEnd O a) b)), min (chEnd O a) b, ⟨wrI (x.rd + ((min (chEnd O a) b : Nat) - (a : Nat) : Int)), iput (a / 64 : Nat) (endsC (cutB O a (min (chEnd O a) b))) x.cs⟩)
 | false, _ => (endsC (cutB O a (min (chEnd O a) b)), min (chEnd O a) b, ⟨wrI (x.rd + ((min (chEnd O a) b : Nat) - (a : Nat) : Int)), x.cs⟩)
structure IxOk (O : List UInt8) (x : Ix) : Prop where
 cs : ∀ (c : Nat) (k : Int), iget c x.cs = some k → k = endsC (cutB O (c * 64) (min ((c + 1) * 64) O.length))
theorem ixStep_ok {O : List UInt8} {x : Ix} {a b : Nat} (h : IxOk O x) (hab : a < b) (hb : b ≤ O.length) :
 a < (ixStep O x a b).2.1 ∧ (ixStep O x a b).2.1 ≤ b ∧ (ixStep O x a b).1 = endsC (cutB O a (ixStep O x a b).2.1) ∧ IxOk O (ixStep O x a b).2.2 := by
 have he : a < chEnd O a := by unfold chEnd; omega
 have h64 : a / 64 * 64 ≤ a := Nat.div_mul_le_self _ _
 unfold ixStep
 cases hw : chWhole O a b with
 | false =>
   exact ⟨by show a < min (chEnd O a) b; omega, by show min (chEnd O a) b ≤ b; omega, rfl, ⟨h.cs⟩⟩
 | true =>
   unfold chWhole at hw
   simp only [decide_eq_true_eq] at hw
   obtain ⟨w1, w2⟩ := hw
   cases hg : iget ((a / 64 : Nat) : Int) x.cs with
   | some k =>
     refine ⟨he, w2, ?_, h⟩
     show k = _
     rw [h.cs _ _ hg, ← w1]
     rfl
   | none =>
     have hm : min (chEnd O a) b = chEnd O a := by omega
     simp only [hm]
     refine ⟨he, w2, (by first | rfl | trivial), ⟨fun c k hk => ?_⟩⟩
     have hk' : iget c (iput ((a / 64 : Nat) : Int) (endsC (cutB O a (chEnd O a))) x.cs) = some k := hk
     rw [iget_iput] at hk'
     by_cases hc : (c : Int) = ((a / 64 : Nat) : Int)
     · rw [if_pos hc] at hk'
       obtain rfl : c = a / 64 := by omega
       cases hk'
       rw [← w1]
       rfl
     · rw [if_neg hc] at hk'
       exact h.cs c k hk'
def ixCount (O : List UInt8) : Nat → Ix → Nat → Nat → Int × Ix
 | 0, x, _, _ => (0, x)
 | f + 1, x, a, b => if a < b then ((ixStep O x a b).1 + (ixCount O f (ixStep O x a b).2.2 (ixStep O x a b).2.1 b).1, (ixCount O f (ixStep O x a b).2.2 (ixStep O x a b).2.1 b).2) else (0, x)
theorem ixCount_ok {O : List UInt8} : ∀ (f : Nat) {x : Ix} {a b : Nat}, IxOk O x → a ≤ b → b ≤ O.length → b - a ≤ f → (ixCount O f x a b).1 = endsC (cutB O a b) ∧ IxOk O (ixCount O f x a b).2
 | 0, x, a, b, h, h1, h2, h3 => by
   obtain rfl : a = b := by omega
   refine ⟨?_, h⟩
   unfold ixCount cutB
   simp [endsC]
 | f + 1, x, a, b, h, h1, h2, h3 => by
   unfold ixCount
   by_cases hab : a < b
   · obtain ⟨s1, s2, s3, s4⟩ := ixStep_ok h hab h2
     obtain ⟨r1, r2⟩ := ixCount_ok f s4 (a := (ixStep O x a b).2.1) (b := b) s2 h2 (by omega)
     rw [if_pos hab]
     simp only
     refine ⟨?_, r2⟩
     rw [r1, s3, cutB_app O (Nat.le_of_lt s1) s2, endsC_app]
     omega
   · rw [if_neg hab]
     obtain rfl : a = b := by omega
     refine ⟨?_, h⟩
     unfold cutB
     simp [endsC]
theorem ixCount_fuel {O : List UInt8} : ∀ (f g : Nat) {x : Ix} {a b : Nat}, IxOk O x → a ≤ b → b ≤ O.length → b - a ≤ f → b - a ≤ g → ixCount O f x a b = ixCount O g x a b
 | 0, 0, _, _, _, _, _, _, _, _ => rfl
 | 0, g + 1, x, a, b, h, h1, h2, h3, h4 => by
   unfold ixCount
   rw [if_neg (by omega)]
 | f + 1, 0, x, a, b, h, h1, h2, h3, h4 => by
   unfold ixCount
   rw [if_neg (by omega)]
 | f + 1, g + 1, x, a, b, h, h1, h2, h3, h4 => by
   unfold ixCount
   by_cases hab : a < b
   · obtain ⟨s1, s2, s3, s4⟩ := ixStep_ok h hab h2
     rw [if_pos hab, if_pos hab, ixCount_fuel f g s4 s2 h2 (by omega) (by omega)]
   · rw [if_neg hab, if_neg hab]
end Go.Tr
namespace Go.Tr
open Go.Sl
set_option linter.unusedSimpArgs false
set_option linter.unusedVariables false
theorem chWhole_all {O : List UInt8} {a : Nat} (ha : a % 64 = 0) : chWhole O a O.length = true := by
 unfold chWhole chEnd
 rw [decide_eq_true_eq]
 omega
theorem chEnd_next {O : List UInt8} {a : Nat} (h : a < O.length) : (chEnd O a % 64 = 0 ∨ chEnd O a = O.length) ∧ a < chEnd O a ∧ ∀ c : Nat, chEnd O a ≤ 64 * c → 64 * c < O.length → a / 64 < c := by
 unfold chEnd
 refine ⟨?_, ?_, fun c h1 h2 => ?_⟩ <;> omega
theorem ixCount_again {O : List UInt8} : ∀ (f : Nat) {x : Ix} {a : Nat}, (a % 64 = 0 ∨ a = O.length) → (∀ c : Nat, a ≤ 64 * c → 64 * c < O.length → (iget c x.cs).isSome = true) → (ixCount O f x a O.length).2 = x
 | 0, x, a, _, _ => rfl
 | f + 1, x, a, ha, hk => by
   unfold ixCount
   by_cases hab : a < O.length
   · have h64 : a % 64 = 0 := by omega
     obtain ⟨n1, n2, n3⟩ := chEnd_next hab
     obtain ⟨k, hg⟩ := Option.isSome_iff_exists.1 (hk (a / 64) (by omega) (by omega))
     have e : ixStep O x a O.length = (k, chEnd O a, x) := by
      unfold ixStep
      rw [chWhole_all h64, hg]
     rw [if_pos hab, e]
     exact ixCount_again f n1 fun c h1 h2 => hk c (by have h1 : chEnd O a ≤ 64 * c := h1; omega) h2
   · rw [if_neg hab]
theorem ixCount_first {O : List UInt8} (hO : O.length ≤ 1048576) : ∀ (f : Nat) {x : Ix} {a : Nat}, (a % 64 = 0 ∨ a = O.length) → a ≤ O.length → O.length - a ≤ f → 0 ≤ x.rd → x.rd ≤ a → (∀ c : Nat, a ≤ 64 * c → iget c x.cs = none) →
 (ixCount O f x a O.length).2.rd = x.rd + (O.length - a : Int) ∧ (∀ c : Nat, a ≤ 64 * c → 64 * c < O.length → (iget c (ixCount O f x a O.length).2.cs).isSome = true) ∧ (∀ c : Nat, (iget c x.cs).isSome = true → (iget c (ixCount O f x a O.length).2.cs).isSome = true)
 | 0, x, a, ha, hl, hf, q1, q2, hn => by
   obtain rfl : a = O.length := by omega
   refine ⟨by show x.rd = _; omega, fun c h1 h2 => by omega, fun c h => h⟩
 | f + 1, x, a, ha, hl, hf, q1, q2, hn => by
   unfold ixCount
   by_cases hab : a < O.length
   · have h64 : a % 64 = 0 := by omega
     obtain ⟨n1, n2, n3⟩ := chEnd_next hab
     have hle : chEnd O a ≤ O.length := by unfold chEnd; omega
     have hwr : wrI (x.rd + ((chEnd O a : Nat) - (a : Nat) : Int)) = x.rd + ((chEnd O a : Nat) - (a : Nat) : Int) := by
      unfold wrI
      refine IntWalk.i64_in _ ?_
      omega
     have e : ixStep O x a O.length = ((endsC (cutB O a (chEnd O a)) : Int), chEnd O a, ⟨x.rd + ((chEnd O a : Nat) - (a : Nat) : Int), iput ((a / 64 : Nat) : Int) (endsC (cutB O a (chEnd O a)) : Int) x.cs⟩) := by
      unfold ixStep
      rw [chWhole_all h64, hn (a / 64) (by omega)]
      simp only [show min (chEnd O a) O.length = chEnd O a by omega, hwr]
     have hn2 : ∀ c : Nat, chEnd O a ≤ 64 * c → iget c (iput ((a / 64 : Nat) : Int) (endsC (cutB O a (chEnd O a))) x.cs) = none := fun c h1 => by
      rw [iget_iput, if_neg, hn c (by omega)]
      unfold chEnd at h1 hle
      rcases Nat.lt_or_ge (64 * c) O.length with h2 | h2
      · have := n3 c h1 h2
        omega
      · omega
     obtain ⟨r1, r2, r3⟩ := ixCount_first hO f (x := ⟨x.rd + ((chEnd O a : Nat) - (a : Nat) : Int), iput ((a / 64 : Nat) : Int) (endsC (cutB O a (chEnd O a)) : Int) x.cs⟩) n1 hle (by omega) (by show 0 ≤ x.rd + ((chEnd O a : Nat) - (a : Nat) : Int); omega) (by show x.rd + ((chEnd O a : Nat) - (a : Nat) : Int) ≤ _; omega) hn2
     rw [if_pos hab, e]
     refine ⟨?_, fun c h1 h2 => ?_, fun c h => ?_⟩
     · simp only
       rw [r1]
       show x.rd + ((chEnd O a : Nat) - (a : Nat) : Int) + _ = _
       omega
     · by_cases hc : chEnd O a ≤ 64 * c
       · exact r2 c hc h2
       · refine r3 c ?_
         simp only
         rw [iget_iput, if_pos (by unfold chEnd at hc; omega)]
         rfl
     · refine r3 c ?_
       simp only
       rw [iget_iput]
       split
       · rfl
       · exact h
   · rw [if_neg hab]
     refine ⟨by show x.rd = _; omega, fun c h1 h2 => by omega, fun c h => h⟩
end Go.Tr
namespace Go.Tr
set_option linter.unusedSimpArgs false
set_option linter.unusedVariables false
structure Itm where
 bytes : Int
 lines : Int
 ent : Ent
 page : Int
def ent0 : Ent := ⟨0, 0, 0, 0⟩
def itE (x : Ent) : Itm := ⟨x.len, x.lines, x, 0⟩
def itK (k : Kd) : Itm := ⟨k.bytes, k.lines, ent0, k.page⟩
def itemsN (n : Nd) : List Itm := n.ents.map itE ++ n.kids.map itK
theorem itemsN_len (n : Nd) : (itemsN n).length = many n := by simp [itemsN, many]
def ItR (v : Int → Option Nd) : Nat → Itm → List Ent → Prop
 | 0 => fun it l => ∃ x, it = itE x ∧ l = [x] ∧ mayEnt x = true
 | h + 1 => fun it l => ∃ k, it = itK k ∧ Sub v h 4 12 k l
theorem ItR.le {v v' : Int → Option Nd} (hv : Le v v') : ∀ {h : Nat} {it : Itm} {l : List Ent}, ItR v h it l → ItR v' h it l
 | 0, _, _, h => h
 | h + 1, _, _, ⟨k, e, hs⟩ => ⟨k, e, hs.le hv⟩
theorem its_items {v : Int → Option Nd} {h : Nat} {n : Nd} {ls : List (List Ent)} (hn : Its v h n ls) (hm : may n = true) : F2 (ItR v h) (itemsN n) ls := by
 cases h with
 | zero =>
   obtain ⟨e, rfl⟩ := hn
   have hl : n.leaf = true := by rw [e]
   obtain ⟨_, h2, _⟩ := may_leaf hm hl
   have hk : n.kids = [] := by rw [e]
   unfold itemsN
   rw [hk, List.map_nil, List.append_nil]
   clear e hk hl hm
   generalize n.ents = es at h2
   induction es with
   | nil => exact trivial
   | cons x l ih => exact ⟨⟨x, rfl, rfl, h2 x (by simp)⟩, ih fun y hy => h2 y (by simp [hy])⟩
 | succ h =>
   obtain ⟨e, h8⟩ := hn
   have he : n.ents = [] := by rw [e]
   unfold itemsN
   rw [he, List.map_nil, List.nil_append]
   clear e he hm
   generalize n.kids = ks at h8
   induction ks generalizing ls with
   | nil =>
     cases ls with
     | nil => exact trivial
     | cons _ _ => exact h8.elim
   | cons k ks ih =>
     cases ls with
     | nil => exact h8.elim
     | cons l ls => exact ⟨⟨k, rfl, h8.1⟩, ih h8.2⟩
variable {O T : List UInt8}
theorem kd_lines {v : Int → Option Nd} {h lo hi : Nat} {k : Kd} {l : List Ent} (hs : Sub v h lo hi k l) : -1 ≤ k.lines := (mayK_facts hs.fine.may).2.2.2.2.1
structure ItOk (O T : List UInt8) (h : Nat) (it : Itm) (l : List Ent) : Prop where
 bytes : it.bytes = ((textE O T l).length : Int)
 eb : it.bytes = eBytes l
 pos : 1 ≤ it.bytes
 big : it.bytes ≤ 1048576
 lines : it.lines = -1 ∨ it.lines = endsC (textE O T l)
 ne : 1 ≤ l.length
 page : (h = 0 ∧ it.page = 0) ∨ (0 < h ∧ 1 ≤ it.page ∧ it.page < 1048576)
theorem ItR.ok {v : Int → Option Nd} : ∀ {h : Nat} {it : Itm} {l : List Ent}, ItR v h it l → (∀ y ∈ l, RtE O T y) → ItOk O T h it l
 | 0, it, l, ⟨x, e1, e2, hm⟩, hr => by
   subst e1
   subst e2
   have h1 := hr x (by simp)
   have h2 := pieceE_len h1
   have h3 := h1.len
   rw [mayE_iff] at hm
   have e : textE O T [x] = pieceE O T x := by simp [textE]
   refine ⟨?_, by simp [itE, eBytes], hm.2.2.2.1, hm.2.2.2.2.2.1, ?_, by simp, .inl ⟨rfl, rfl⟩⟩
   · rw [e]; show x.len = _; omega
   · rw [e]; exact h1.lines
 | h + 1, it, l, ⟨k, e1, hs⟩, hr => by
   subst e1
   have f := hs.fine
   have f2 := mayK_facts f.may
   refine ⟨?_, f.bytes, f2.2.2.1, f2.2.2.2.1, sub_lines hs hr, ?_, .inr ⟨by omega, f2.1, f2.2.1⟩⟩
   · rw [textE_len hr]; exact f.bytes
   · have := f.ne
     cases l with
     | nil => exact absurd rfl this
     | cons a l => simp
def ixEnt (O : List UInt8) (x : Ix) (e : Ent) : Ix := if e.lines < 0 ∧ e.src = 0 then (ixCount O e.len.toNat x e.pos.toNat (e.pos.toNat + e.len.toNat)).2 else x
def ixList (O : List UInt8) (x : Ix) (l : List Ent) : Ix := l.foldl (ixEnt O) x
theorem ixList_app (x : Ix) (a b : List Ent) : ixList O x (a ++ b) = ixList O (ixList O x a) b := List.foldl_append ..
theorem ixEnt_ok {x : Ix} {e : Ent} (h : IxOk O x) (hr : RtE O T e) : IxOk O (ixEnt O x e) := by
 unfold ixEnt
 split
 · rename_i hc
   have h1 := hr.pos
   have h2 := hr.len
   have h3 := hr.inF
   rw [hc.2] at h3
   have h4 : e.pos + e.len ≤ (O.length : Int) := h3
   exact (ixCount_ok _ h (by omega) (by omega) (by omega)).2
 · exact h
theorem ixList_ok : ∀ {l : List Ent} {x : Ix}, IxOk O x → (∀ y ∈ l, RtE O T y) → IxOk O (ixList O x l)
 | [], _, h, _ => h
 | e :: l, x, h, hr => ixList_ok (l := l) (ixEnt_ok h (hr e (by simp))) fun y hy => hr y (by simp [hy])
theorem ixList_none : ∀ {l : List Ent} {x : Ix}, (∀ y ∈ l, 0 ≤ y.lines) → ixList O x l = x
 | [], _, _ => rfl
 | e :: l, x, h => by
   have h1 := h e (by simp)
   have e1 : ixEnt O x e = x := by unfold ixEnt; rw [if_neg (by omega)]
   show ixList O (ixEnt O x e) l = x
   rw [e1]
   exact ixList_none fun y hy => h y (by simp [hy])
theorem addL_neg {a : Int} (h : a < 0) : ∀ l : List Int, l.foldl addL a < 0
 | [] => h
 | x :: l => by
   rw [List.foldl_cons]
   refine addL_neg ?_ l
   unfold addL
   rw [if_pos (.inr h)]
   omega
theorem addL_all : ∀ (l : List Int) (a : Int), 0 ≤ l.foldl addL a → 0 ≤ a ∧ ∀ x ∈ l, 0 ≤ x
 | [], a, h => ⟨h, fun x hx => (by cases hx)⟩
 | x :: l, a, h => by
   rw [List.foldl_cons] at h
   obtain ⟨h1, h2⟩ := addL_all l _ h
   unfold addL at h1
   by_cases hc : x < 0 ∨ a < 0
   · rw [if_pos hc] at h1; omega
   · refine ⟨by omega, fun y hy => ?_⟩
     rcases List.mem_cons.1 hy with rfl | hy
     · omega
     · exact h2 y hy
theorem sub_counted {v : Int → Option Nd} : ∀ {h lo hi : Nat} {k : Kd} {l : List Ent}, Sub v h lo hi k l → 0 ≤ k.lines → ∀ y ∈ l, 0 ≤ y.lines
 | 0, lo, hi, k, l, hs, hk => by
   obtain ⟨h1, h2, h3, h4, h5, _⟩ := hs
   rw [h5] at hk
   unfold kdOf ndSum at hk
   rw [if_pos h2] at hk
   simp only [List.map_nil, List.foldl_nil] at hk
   intro y hy
   exact (addL_all _ _ hk).2 y.lines (List.mem_map.2 ⟨y, hy, rfl⟩)
 | h + 1, lo, hi, k, l, hs, hk => by
   obtain ⟨ks, ls, h1, h2, h3, h4, h5, h6, h7, h8, rfl⟩ := hs
   rw [h5] at hk
   unfold kdOf ndSum at hk
   rw [if_pos h2] at hk
   simp only [List.map_nil, List.foldl_nil] at hk
   have hall := (addL_all _ _ hk).2
   have key : ∀ {ks : List Kd} {ls : List (List Ent)}, F2 (Sub v h 4 12) ks ls → (∀ k ∈ ks, 0 ≤ k.lines) → ∀ y ∈ ls.flatten, 0 ≤ y.lines := by
    intro ks
    induction ks with
    | nil =>
      intro ls hf _
      cases ls with
      | nil => intro y hy; simp at hy
      | cons _ _ => exact hf.elim
    | cons k ks ih =>
      intro ls hf hr
      cases ls with
      | nil => exact hf.elim
      | cons l ls =>
        intro y hy
        rw [List.flatten_cons] at hy
        rcases List.mem_append.1 hy with hy | hy
        · exact sub_counted hf.1 (hr k (by simp)) y hy
        · exact ih hf.2 (fun k hk => hr k (by simp [hk])) y hy
   exact key h8 fun k hk => hall k.lines (List.mem_map.2 ⟨k, hk, rfl⟩)
theorem ItR.none {v : Int → Option Nd} : ∀ {h : Nat} {it : Itm} {l : List Ent}, ItR v h it l → 0 ≤ it.lines → ∀ y ∈ l, 0 ≤ y.lines
 | 0, it, l, ⟨x, e1, e2, _⟩, hk => by
   subst e1
   subst e2
   intro y hy
   simp at hy
   subst hy
   exact hk
 | h + 1, it, l, ⟨k, e1, hs⟩, hk => by
   subst e1
   exact sub_counted hs hk
theorem join_counted {l : List Ent} (h : ∀ y ∈ l, 0 ≤ y.lines) : ∀ y ∈ join l, 0 ≤ y.lines := by
 have key : ∀ (l o : List Ent), (∀ y ∈ o, 0 ≤ y.lines) → (∀ y ∈ l, 0 ≤ y.lines) → ∀ y ∈ l.foldl joinTo o, 0 ≤ y.lines := by
  intro l
  induction l with
  | nil => exact fun o ho _ => ho
  | cons x l ih =>
    intro o ho hl
    rw [List.foldl_cons]
    refine ih _ ?_ fun y hy => hl y (by simp [hy])
    have hx := hl x (by simp)
    unfold joinTo
    split
    · intro y hy
      simp at hy
      subst hy
      exact hx
    · rename_i a ha
      obtain ⟨ys, rfl⟩ := List.getLast?_eq_some_iff.1 ha
      have hA := ho a (by simp)
      split
      · intro y hy
        rw [List.dropLast_concat] at hy
        rcases List.mem_append.1 hy with hy | hy
        · exact ho y (List.mem_append_left _ hy)
        · simp at hy
          subst hy
          unfold glue
          simp only
          rw [if_neg (by omega)]
          omega
      · intro y hy
        rcases List.mem_append.1 hy with hy | hy
        · exact ho y hy
        · simp at hy
          subst hy
          exact hx
 exact key l [] (fun y hy => by cases hy) h
end Go.Tr
