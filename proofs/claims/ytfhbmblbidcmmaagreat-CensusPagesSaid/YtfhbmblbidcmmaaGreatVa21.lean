/-
  Of all versions the pages that are told are just those of their trees in the file in the form of the document, and a root that is none is refused. No condition. (part 21)
-/
import Derived.Test.YtfhbmblbidcmmaaGreatVa15
set_option linter.unusedSimpArgs false
set_option linter.unusedVariables false
namespace Go.Tr
set_option linter.unusedSimpArgs false
set_option linter.unusedVariables false
inductive Res (σ α : Type) where
 | ok (a : α) (s : σ)
 | fault (e : Int) (s : σ)
 | bad
abbrev M (σ α : Type) := σ → Res σ α
section
variable {σ α β : Type}
def Res.bind (r : Res σ α) (f : α → M σ β) : Res σ β := match r with
 | .ok a s => f a s
 | .fault e s => .fault e s
 | .bad => .bad
def M.pure (a : α) : M σ α := fun s => .ok a s
def M.fail (e : Int) : M σ α := fun s => .fault e s
def M.bad : M σ α := fun _ => .bad
def M.bind (x : M σ α) (f : α → M σ β) : M σ β := fun s => (x s).bind f
end
def many (n : Nd) : Nat := n.ents.length + n.kids.length
def both (a b : Nd) : Nd := ⟨a.leaf, a.ents ++ b.ents, a.kids ++ b.kids⟩
def sub {α : Type} (l : List α) (i j : Nat) : List α := (l.drop i).take (j - i)
def cutN (n : Nd) (i j : Nat) : Nd := if n.leaf then ⟨true, sub n.ents i j, []⟩ else ⟨false, [], sub n.kids i j⟩
def kd0 : Kd := ⟨0, 0, 0, 0⟩
structure Tall where
 kid : Kd
 height : Int
def noTall : Tall := ⟨kd0, -1⟩
section
variable {σ : Type} (rd : Int → M σ Nd) (wt : Nd → M σ Kd)
def spreadFrom (n : Nd) (pages : Nat) : Nat → Nat → Nat → List Kd → M σ (List Kd)
 | 0, _, _, out => M.pure out
 | c + 1, i, at_, out => M.bind (wt (cutN n at_ (at_ + (many n / pages + (if i < many n % pages then 1 else 0))))) fun k =>
   spreadFrom n pages c (i + 1) (at_ + (many n / pages + (if i < many n % pages then 1 else 0))) (out ++ [k])
def pagesOf (n : Nd) : Nat := (many n + 11) / 12
def tSpread (n : Nd) : M σ (List Kd) := spreadFrom wt n (pagesOf n) (pagesOf n) 0 0 []
def tGrown : Nat → List Kd → Int → M σ Tall
 | _, [], _ => M.pure noTall
 | _, [k], h => M.pure ⟨k, h⟩
 | 0, _, _ => M.bad
 | f + 1, ks, h => M.bind (tSpread wt ⟨false, [], ks⟩) fun ks' => tGrown f ks' (h + 1)
def grown (ks : List Kd) (h : Int) : M σ Tall := tGrown wt ks.length ks h
def tLeaves (l : List Ent) : M σ Tall := M.bind (tSpread wt ⟨true, l, []⟩) fun ks => grown wt ks 0
def tMeet : Nat → Tall → Tall → M σ (List Kd × Int)
 | 0, _, _ => M.bad
 | f + 1, a, b =>
   if b.height < a.height then M.bind (rd a.kid.page) fun x =>
    match x.kids.getLast? with
    | none => M.bad
    | some z =>
      if x.leaf then M.bad else M.bind (tMeet f ⟨z, a.height - 1⟩ b) fun r =>
       M.bind (tSpread wt (both (cutN x 0 (x.kids.length - 1)) ⟨false, [], r.1⟩)) fun out => M.pure (out, a.height)
   else if a.height < b.height then M.bind (rd b.kid.page) fun y =>
    match y.kids with
    | [] => M.bad
    | z :: _ =>
      if y.leaf then M.bad else M.bind (tMeet f a ⟨z, b.height - 1⟩) fun r =>
       M.bind (tSpread wt (both ⟨false, [], r.1⟩ (cutN y 1 y.kids.length))) fun out => M.pure (out, b.height)
   else M.bind (rd a.kid.page) fun x => M.bind (rd b.kid.page) fun y => if x.leaf = y.leaf then M.bind (tSpread wt (both x y)) fun out => M.pure (out, a.height) else M.bad
def deepOf (a b : Tall) : Nat := (max a.height b.height).toNat + 1
def tPut (a b : Tall) : M σ Tall :=
 if a.height < 0 then M.pure b else
 if b.height < 0 then M.pure a else M.bind (tMeet rd wt (deepOf a b) a b) fun r => grown wt r.1 r.2
def tOver (ks : List Kd) (h : Int) : M σ Tall := grown wt ks (h - 1)
def passE : List Ent → Int → Nat → Option Nat
 | l, n, k => match l with
   | [] => if 0 < n then none else some k
   | x :: l => if 0 < n then passE l (n - x.len) (k + 1) else some k
def passK : List Kd → Int → Nat → Option (Nat × Int)
 | [], _, _ => none
 | x :: l, n, k => if x.bytes ≤ n then passK l (n - x.bytes) (k + 1) else some (k, n)
def tParted : Nat → Tall → Int → M σ (Tall × Tall)
 | f, x, n =>
   if n ≤ 0 then M.pure (noTall, x) else
   if x.kid.bytes ≤ n then M.pure (x, noTall) else
   match f with
   | 0 => M.bad
   | f + 1 => M.bind (rd x.kid.page) fun y =>
     if y.leaf then
      match passE y.ents n 0 with
      | none => M.bad
      | some k => M.bind (tLeaves wt (y.ents.take k)) fun a => M.bind (tLeaves wt (y.ents.drop k)) fun b => M.pure (a, b)
     else
      match passK y.kids n 0 with
      | none => M.bad
      | some (k, r) =>
        if r = 0 then M.bind (tOver wt (y.kids.take k) x.height) fun a => M.bind (tOver wt (y.kids.drop k) x.height) fun b => M.pure (a, b)
        else
         match y.kids[k]? with
         | none => M.bad
         | some z => M.bind (tParted f ⟨z, x.height - 1⟩ r) fun p =>
           M.bind (tOver wt (y.kids.take k) x.height) fun a => M.bind (tPut rd wt a p.1) fun a =>
           M.bind (tOver wt (y.kids.drop (k + 1)) x.height) fun b => M.bind (tPut rd wt p.2 b) fun b => M.pure (a, b)
def rootedTo : Nat → Nd → Int → M σ Int
 | f, n, h =>
   if n.leaf then M.pure h else
   match f with
   | 0 => M.fail 13
   | f + 1 => match n.kids with
     | [] => M.bad
     | k :: _ => M.bind (rd k.page) fun m => rootedTo f m (h + 1)
def kdOf (no : Int) (n : Nd) : Kd := ⟨no, (ndSum n).1, (ndSum n).2.1, (ndSum n).2.2⟩
def tRooted (root : Int) : M σ Tall :=
 if root = 0 then M.pure noTall else M.bind (rd root) fun n => M.bind (rootedTo rd 20 n 0) fun h => M.pure ⟨kdOf root n, h⟩
inductive Hit where
 | here (x : Ent) (ahead : Int)
 | below (page : Int) (ahead : Int)
 | past
def hitE : List Ent → Int → Int → Hit ⊕ Int
 | [], _, ahead => .inr ahead
 | x :: l, n, ahead => if n < ahead + x.len then .inl (.here x ahead) else hitE l n (ahead + x.len)
def hitK : List Kd → Int → Int → Hit
 | [], _, _ => .past
 | k :: l, n, ahead => if n < ahead + k.bytes then .below k.page ahead else hitK l n (ahead + k.bytes)
def hitN (n : Nd) (at_ ahead : Int) : Hit := match hitE n.ents at_ ahead with
 | .inl h => h
 | .inr a => hitK n.kids at_ a
def seekTo : Nat → Nd → Int → Int → M σ (Ent × Int)
 | 0, _, _, _ => M.fail 13
 | f + 1, n, at_, ahead => match hitN n at_ ahead with
   | .here x a => M.pure (x, a)
   | .past => M.fail 13
   | .below p a => M.bind (rd p) fun m => seekTo f m at_ a
def tSeek (root at_ : Int) : M σ (Ent × Int) := M.bind (rd root) fun n => seekTo rd 22 n at_ 0
def rankE : List Ent → Int → Int → Int × Int
 | [], n, r => (n, r)
 | y :: l, n, r => rankE l (n - y.len) (if 0 < n then r + 1 else r)
def rankK : List Kd → Int → Int → (Kd × Int × Int) ⊕ Int
 | [], _, r => .inr r
 | k :: l, n, r => if n < k.bytes then .inl (k, n, r) else rankK l (n - k.bytes) (r + k.scraps)
def tRank : Nat → Tall → Int → M σ Int
 | f, x, n =>
   if n ≤ 0 ∨ x.height < 0 then M.pure 0 else
   if x.kid.bytes ≤ n then M.pure x.kid.scraps else
   match f with
   | 0 => M.bad
   | f + 1 => M.bind (rd x.kid.page) fun y => match rankK y.kids (rankE y.ents n 0).1 (rankE y.ents n 0).2 with
     | .inr r => M.pure r
     | .inl (k, m, r) => M.bind (tRank f ⟨k, x.height - 1⟩ m) fun z => M.pure (r + z)
def tSize (root : Int) : M σ Int := if root = 0 then M.pure 0 else M.bind (rd root) fun n => M.pure (ndSum n).1
def tBuild (l : List Ent) : M σ Int := M.bind (tLeaves wt l) fun t => M.pure t.kid.page
def leftOf (root at_ : Int) : M σ (List Ent × Int) :=
 if 0 < at_ then M.bind (tSeek rd root (at_ - 1)) fun p => M.pure (part p.1 0 (at_ - p.2), p.2) else M.pure ([], at_)
def rightOf (root to all : Int) : M σ (List Ent × Int) :=
 if to < all then M.bind (tSeek rd root to) fun p => M.pure (part p.1 (to - p.2) p.1.len, p.2 + p.1.len) else M.pure ([], to)
def tSplice (root at_ n all : Int) (put : List Ent) : M σ Int :=
 M.bind (leftOf rd root at_) fun L => M.bind (rightOf rd root (at_ + n) all) fun R =>
 M.bind (tRooted rd root) fun whole => M.bind (tRank rd 30 whole R.2) fun r1 => M.bind (tRank rd 30 whole L.2) fun r0 =>
 if 1024 < whole.kid.scraps - r1 + r0 + (join (L.1 ++ put ++ R.1)).length then M.fail 11 else
 M.bind (tParted rd wt 30 whole L.2) fun p => M.bind (tParted rd wt 30 p.2 (R.2 - L.2)) fun q =>
 M.bind (tLeaves wt (join (L.1 ++ put ++ R.1))) fun m => M.bind (tPut rd wt p.1 m) fun x => M.bind (tPut rd wt x q.2) fun y => M.pure y.kid.page
end
end Go.Tr
namespace Go.Tr
set_option linter.unusedSimpArgs false
set_option linter.unusedVariables false
/-! two lists, part by part -/
def F2 {α β : Type} (R : α → β → Prop) : List α → List β → Prop
 | [], [] => True
 | a :: l, b :: m => R a b ∧ F2 R l m
 | _, _ => False
section
variable {α β : Type} {R R' : α → β → Prop}
theorem F2.len : ∀ {l : List α} {m : List β}, F2 R l m → l.length = m.length
 | [], [], _ => rfl
 | a :: l, b :: m, h => by simp [F2.len h.2]
 | [], _ :: _, h => h.elim
 | _ :: _, [], h => h.elim
theorem F2.mono (f : ∀ a b, R a b → R' a b) : ∀ {l : List α} {m : List β}, F2 R l m → F2 R' l m
 | [], [], _ => trivial
 | a :: l, b :: m, h => ⟨f _ _ h.1, F2.mono f h.2⟩
 | [], _ :: _, h => h.elim
 | _ :: _, [], h => h.elim
theorem F2.append : ∀ {l l' : List α} {m m' : List β}, F2 R l m → F2 R l' m' → F2 R (l ++ l') (m ++ m')
 | [], _, [], _, _, h => h
 | a :: l, _, b :: m, _, h, h' => ⟨h.1, F2.append h.2 h'⟩
 | [], _, _ :: _, _, h, _ => h.elim
 | _ :: _, _, [], _, h, _ => h.elim
theorem F2.split : ∀ {l l' : List α} {m : List β}, F2 R (l ++ l') m → F2 R l (m.take l.length) ∧ F2 R l' (m.drop l.length)
 | [], _, _, h => ⟨trivial, h⟩
 | a :: l, l', b :: m, h => ⟨⟨h.1, (F2.split h.2).1⟩, (F2.split h.2).2⟩
 | _ :: _, _, [], h => h.elim
theorem F2.take {l : List α} {m : List β} (h : F2 R l m) (i : Nat) : F2 R (l.take i) (m.take i) := by
 induction i generalizing l m with
 | zero => exact trivial
 | succ i ih =>
   cases l <;> cases m <;> first | exact trivial | exact h.elim | exact ⟨h.1, ih h.2⟩
theorem F2.drop {l : List α} {m : List β} (h : F2 R l m) (i : Nat) : F2 R (l.drop i) (m.drop i) := by
 induction i generalizing l m with
 | zero => exact h
 | succ i ih =>
   cases l <;> cases m <;> first | exact trivial | exact h.elim | exact ih h.2
theorem F2.at {l : List α} {m : List β} (h : F2 R l m) {i : Nat} {a : α} (ha : l[i]? = some a) : ∃ b, m[i]? = some b ∧ R a b := by
 induction i generalizing l m with
 | zero =>
   cases l <;> cases m <;> first | (cases ha; done) | exact h.elim | skip
   · cases ha
     exact ⟨_, rfl, h.1⟩
 | succ i ih =>
   cases l <;> cases m <;> first | (cases ha; done) | exact h.elim | skip
   · exact ih h.2 (by simpa using ha)
end
/-! what reads and writes nodes -/
structure Env (σ : Type) where
 rd : Int → M σ Nd
 wt : Nd → M σ Kd
 V : σ → Int → Option Nd
 inv : σ → Prop
 reads : σ → Nat
 room : σ → Nat
 left : σ → Nat
 bad : Int → Prop
def Le (v v' : Int → Option Nd) : Prop := ∀ p n, v p = some n → v' p = some n
theorem Le.rfl' (v : Int → Option Nd) : Le v v := fun _ _ h => h
theorem Le.trans {a b c : Int → Option Nd} (h : Le a b) (k : Le b c) : Le a c := fun p n e => k p n (h p n e)
section
variable {σ α β : Type} (X : Env σ)
def Step (s : σ) (R W : Nat) (m : M σ α) (Q : α → σ → Prop) : Prop := X.room s < W ∨ match m s with
 | .ok a s' => X.inv s' ∧ Le (X.V s) (X.V s') ∧ X.reads s' ≤ X.reads s + R ∧ X.room s ≤ X.room s' + W ∧ X.left s ≤ X.left s' + (R + W) ∧ Q a s'
 | .fault e s' => (X.bad e ∨ X.room s < W) ∧ X.inv s' ∧ Le (X.V s) (X.V s') ∧ X.reads s' ≤ X.reads s + R ∧ X.left s ≤ X.left s' + (R + W)
 | .bad => X.left s < R + W
variable {X}
theorem Step.bind {s : σ} {R1 R2 W1 W2 : Nat} {m : M σ α} {f : α → M σ β} {Q1 : α → σ → Prop} {Q : β → σ → Prop} (h : Step X s R1 W1 m Q1)
 (hf : ∀ a s', X.inv s' → Le (X.V s) (X.V s') → Q1 a s' → Step X s' R2 W2 (f a) Q) : Step X s (R1 + R2) (W1 + W2) (M.bind m f) Q := by
 unfold Step at h ⊢
 rcases h with h | h
 · exact .inl (by omega)
 unfold M.bind Res.bind
 cases hm : m s with
 | ok a s' =>
   rw [hm] at h
   obtain ⟨h1, h2, h3, h4, h7, h5⟩ := h
   have h6 := hf a s' h1 h2 h5
   unfold Step at h6
   rcases h6 with h6 | h6
   · exact .inl (by omega)
   right
   simp only
   cases hf : f a s' with
   | ok b s2 =>
     rw [hf] at h6
     obtain ⟨k1, k2, k3, k4, k6, k5⟩ := h6
     exact ⟨k1, h2.trans k2, by omega, by omega, by omega, k5⟩
   | fault e s2 =>
     rw [hf] at h6
     obtain ⟨k1, k2, k3, k4, k5⟩ := h6
     refine ⟨?_, k2, h2.trans k3, by omega, by omega⟩
     rcases k1 with k | k
     · exact .inl k
     · exact .inr (by omega)
   | bad =>
     rw [hf] at h6
     simp only at h6 ⊢
     omega
 | fault e s' =>
   rw [hm] at h
   obtain ⟨h1, h2, h3, h4, h5⟩ := h
   refine .inr ⟨?_, h2, h3, by omega, by omega⟩
   rcases h1 with k | k
   · exact .inl k
   · exact .inr (by omega)
 | bad =>
   rw [hm] at h
   right
   simp only at h ⊢
   omega
theorem Step.mono {s : σ} {R R' W W' : Nat} {m : M σ α} {Q Q' : α → σ → Prop} (h : Step X s R W m Q) (hR : R ≤ R') (hW : W ≤ W')
 (hQ : ∀ a s', X.inv s' → Le (X.V s) (X.V s') → Q a s' → Q' a s') : Step X s R' W' m Q' := by
 unfold Step at h ⊢
 rcases h with h | h
 · exact .inl (by omega)
 cases hm : m s with
 | ok a s' =>
   rw [hm] at h
   obtain ⟨h1, h2, h3, h4, h7, h5⟩ := h
   exact .inr ⟨h1, h2, by omega, by omega, by omega, hQ a s' h1 h2 h5⟩
 | fault e s' =>
   rw [hm] at h
   obtain ⟨h1, h2, h3, h4, h5⟩ := h
   refine .inr ⟨?_, h2, h3, by omega, by omega⟩
   rcases h1 with k | k
   · exact .inl k
   · exact .inr (by omega)
 | bad =>
   rw [hm] at h
   right
   simp only at h ⊢
   omega
theorem Step.pure {s : σ} {a : α} {Q : α → σ → Prop} (hI : X.inv s) (h : Q a s) : Step X s 0 0 (M.pure a) Q := .inr ⟨hI, Le.rfl' _, by omega, by omega, by omega, h⟩
theorem Step.ret {s : σ} {R W : Nat} {a : α} {Q : α → σ → Prop} (hI : X.inv s) (h : Q a s) : Step X s R W (M.pure a) Q := (Step.pure hI h).mono (by omega) (by omega) fun _ _ _ _ h => h
structure Env.Ok (X : Env σ) : Prop where
 rd : ∀ s p n, X.inv s → X.V s p = some n → Step X s 1 0 (X.rd p) (fun m s' => m = n)
 wt : ∀ s n, X.inv s → may n = true → Step X s 0 1 (X.wt n) (fun k s' => k = kdOf k.page n ∧ 1 ≤ k.page ∧ k.page < 1048576 ∧ X.V s' k.page = some n)
end
/-! trees -/
def Sub (v : Int → Option Nd) : Nat → Nat → Nat → Kd → List Ent → Prop
 | 0 => fun lo hi k l => v k.page = some ⟨true, l, []⟩ ∧ may ⟨true, l, []⟩ = true ∧ lo ≤ l.length ∧ l.length ≤ hi ∧ k = kdOf k.page ⟨true, l, []⟩ ∧ 1 ≤ k.page ∧ k.page < 1048576
 | h + 1 => fun lo hi k l => ∃ (ks : List Kd) (ls : List (List Ent)), v k.page = some ⟨false, [], ks⟩ ∧ may ⟨false, [], ks⟩ = true ∧ lo ≤ ks.length ∧ ks.length ≤ hi ∧ k = kdOf k.page ⟨false, [], ks⟩ ∧ 1 ≤ k.page ∧ k.page < 1048576 ∧
    F2 (Sub v h 4 12) ks ls ∧ l = ls.flatten
def Its (v : Int → Option Nd) : Nat → Nd → List (List Ent) → Prop
 | 0 => fun n ls => n = ⟨true, n.ents, []⟩ ∧ ls = n.ents.map fun e => [e]
 | h + 1 => fun n ls => n = ⟨false, [], n.kids⟩ ∧ F2 (Sub v h 4 12) n.kids ls
def Fit (l : List Ent) : Prop := (∀ x ∈ l, mayEnt x = true) ∧ eBytes l ≤ 1048576 ∧ l.length ≤ 1024
theorem flat_one (l : List Ent) : (l.map fun e => [e]).flatten = l := by
 induction l with
 | nil => rfl
 | cons a l ih => simp only [List.map_cons, List.flatten_cons, ih, List.singleton_append]
theorem its_len {v : Int → Option Nd} {h : Nat} {n : Nd} {ls : List (List Ent)} (hn : Its v h n ls) : many n = ls.length := by
 cases h with
 | zero =>
   obtain ⟨h1, rfl⟩ := hn
   rw [h1]
   simp [many]
 | succ h =>
   obtain ⟨h1, h2⟩ := hn
   rw [h1]
   simp [many, h2.len]
theorem sub_its {v : Int → Option Nd} {h lo hi : Nat} {k : Kd} {l : List Ent} : Sub v h lo hi k l ↔ ∃ n ls, v k.page = some n ∧ Its v h n ls ∧ may n = true ∧ lo ≤ many n ∧ many n ≤ hi ∧ k = kdOf k.page n ∧ 1 ≤ k.page ∧ k.page < 1048576 ∧ l = ls.flatten := by
 cases h with
 | zero =>
   constructor
   · rintro ⟨h1, h2, h3, h4, h5, h6, h7⟩
     exact ⟨_, l.map fun e => [e], h1, ⟨rfl, rfl⟩, h2, by simpa [many] using h3, by simpa [many] using h4, h5, h6, h7, (flat_one l).symm⟩
   · rintro ⟨n, ls, h1, ⟨h2, rfl⟩, h3, h4, h5, h6, h7, h8, rfl⟩
     rw [flat_one]
     obtain ⟨lf, es, ks⟩ := n
     simp only at h2
     cases h2
     exact ⟨h1, h3, by simpa [many] using h4, by simpa [many] using h5, h6, h7, h8⟩
 | succ h =>
   constructor
   · rintro ⟨ks, ls, h1, h2, h3, h4, h5, h6, h7, h8, rfl⟩
     exact ⟨_, ls, h1, ⟨rfl, h8⟩, h2, by simpa [many] using h3, by simpa [many] using h4, h5, h6, h7, rfl⟩
   · rintro ⟨n, ls, h1, ⟨h2, h9⟩, h3, h4, h5, h6, h7, h8, rfl⟩
     obtain ⟨lf, es, ks⟩ := n
     simp only at h2
     cases h2
     exact ⟨ks, ls, h1, h3, by simpa [many] using h4, by simpa [many] using h5, h6, h7, h8, h9, rfl⟩
theorem Sub.le {v v' : Int → Option Nd} (hv : Le v v') : ∀ {h lo hi : Nat} {k : Kd} {l : List Ent}, Sub v h lo hi k l → Sub v' h lo hi k l
 | 0, lo, hi, k, l, ⟨h1, h2⟩ => ⟨hv _ _ h1, h2⟩
 | h + 1, lo, hi, k, l, ⟨ks, ls, h1, h2, h3, h4, h5, h6, h7, h8, h9⟩ => ⟨ks, ls, hv _ _ h1, h2, h3, h4, h5, h6, h7, h8.mono fun a b x => Sub.le hv x, h9⟩
theorem Sub.wide {v : Int → Option Nd} {h lo hi lo' hi' : Nat} {k : Kd} {l : List Ent} (hs : Sub v h lo hi k l) (h1 : lo' ≤ lo) (h2 : hi ≤ hi') : Sub v h lo' hi' k l := by
 rw [sub_its] at hs ⊢
 obtain ⟨n, ls, a1, a2, a3, a4, a5, a6⟩ := hs
 exact ⟨n, ls, a1, a2, a3, by omega, by omega, a6⟩
theorem Its.le {v v' : Int → Option Nd} (hv : Le v v') {h : Nat} {n : Nd} {ls : List (List Ent)} (hn : Its v h n ls) : Its v' h n ls := by
 cases h with
 | zero => exact hn
 | succ h => exact ⟨hn.1, hn.2.mono fun a b x => x.le hv⟩
theorem mayE_len {x : Ent} (h : mayEnt x = true) : 1 ≤ x.len ∧ -1 ≤ x.lines ∧ x.lines ≤ x.len := by
 unfold mayEnt at h
 simp only [decide_eq_true_eq] at h
 omega
theorem eBytes_cons (x : Ent) (l : List Ent) : eBytes (x :: l) = x.len + eBytes l := by simp [eBytes]
theorem eBytes_ge {l : List Ent} (h : ∀ x ∈ l, mayEnt x = true) : (l.length : Int) ≤ eBytes l := by
 induction l with
 | nil => simp [eBytes]
 | cons a l ih =>
   rw [eBytes_cons]
   have h1 := ih fun x hx => h x (List.mem_cons_of_mem _ hx)
   have h2 := mayE_len (h a List.mem_cons_self)
   simp only [List.length_cons]
   omega
theorem Fit.nil : Fit [] := ⟨fun x h => (List.not_mem_nil h).elim, by simp [eBytes], by simp⟩
theorem Fit.left {a b : List Ent} (h : Fit (a ++ b)) : Fit a := by
 obtain ⟨h1, h2, h3⟩ := h
 have hb := eBytes_ge (l := b) fun x hx => h1 x (List.mem_append_right _ hx)
 rw [eBytes_append] at h2
 rw [List.length_append] at h3
 exact ⟨fun x hx => h1 x (List.mem_append_left _ hx), by omega, by omega⟩
theorem Fit.right {a b : List Ent} (h : Fit (a ++ b)) : Fit b := by
 obtain ⟨h1, h2, h3⟩ := h
 have hb := eBytes_ge (l := a) fun x hx => h1 x (List.mem_append_left _ hx)
 rw [eBytes_append] at h2
 rw [List.length_append] at h3
 exact ⟨fun x hx => h1 x (List.mem_append_right _ hx), by omega, by omega⟩
theorem Fit.mid {a b c : List Ent} (h : Fit (a ++ (b ++ c))) : Fit b := h.right.left
theorem addL_bound {a b x y : Int} (h1 : -1 ≤ a) (h2 : a ≤ x) (h3 : -1 ≤ b) (h4 : b ≤ y) (h5 : 0 ≤ x) (h6 : 0 ≤ y) : -1 ≤ addL a b ∧ addL a b ≤ x + y := by
 unfold addL
 split <;> omega
theorem lines_bound {α : Type} (ln by_ : α → Int) : ∀ (l : List α) (a x : Int), (∀ e ∈ l, -1 ≤ ln e ∧ ln e ≤ by_ e ∧ 0 ≤ by_ e) → -1 ≤ a → a ≤ x → 0 ≤ x →
 -1 ≤ (l.map ln).foldl addL a ∧ (l.map ln).foldl addL a ≤ x + (l.map by_).sum
 | [], a, x, _, h1, h2, _ => by simp; omega
 | e :: l, a, x, h, h1, h2, h3 => by
   obtain ⟨e1, e2, e3⟩ := h e List.mem_cons_self
   obtain ⟨b1, b2⟩ := addL_bound h1 h2 e1 e2 h3 e3
   obtain ⟨c1, c2⟩ := lines_bound ln by_ l (addL a (ln e)) (x + by_ e) (fun z hz => h z (List.mem_cons_of_mem _ hz)) b1 b2 (by omega)
   simp only [List.map_cons, List.foldl_cons, List.sum_cons]
   omega
theorem mayK_facts {k : Kd} (h : mayKid k = true) : 1 ≤ k.page ∧ k.page < 1048576 ∧ 1 ≤ k.bytes ∧ k.bytes ≤ 1048576 ∧ -1 ≤ k.lines ∧ k.lines ≤ k.bytes ∧ 1 ≤ k.scraps ∧ k.scraps ≤ k.bytes := by
 unfold mayKid at h
 simp only [decide_eq_true_eq] at h
 omega
structure Fine (k : Kd) (l : List Ent) : Prop where
 may : mayKid k = true
 bytes : k.bytes = eBytes l
 scraps : k.scraps = l.length
 fit : Fit l
 ne : l ≠ []
theorem sums_of {R : Kd → List Ent → Prop} (hR : ∀ k l, R k l → Fine k l) : ∀ {ks : List Kd} {ls : List (List Ent)}, F2 R ks ls →
 kBytes ks = eBytes ls.flatten ∧ kScraps ks = ls.flatten.length ∧ (∀ x ∈ ls.flatten, mayEnt x = true) ∧ (∀ k ∈ ks, mayKid k = true) ∧ (ks.length ≤ ls.flatten.length)
 | [], [], _ => ⟨rfl, rfl, fun x h => (List.not_mem_nil h).elim, fun x h => (List.not_mem_nil h).elim, Nat.le_refl _⟩
 | k :: ks, l :: ls, h => by
   have f := hR _ _ h.1
   obtain ⟨h1, h2, h3, h4, h5⟩ := sums_of hR h.2
   have hl : 1 ≤ l.length := by
    have := f.ne
    cases l with
    | nil => exact absurd rfl this
    | cons a l => simp
   refine ⟨?_, ?_, ?_, ?_, ?_⟩
   · rw [List.flatten_cons, eBytes_append, ← h1, ← f.bytes]; simp [kBytes]
   · rw [List.flatten_cons, List.length_append]
     have e : kScraps (k :: ks) = k.scraps + kScraps ks := by simp [kScraps]
     rw [e, f.scraps, h2]
     simp
   · intro x hx
     rw [List.flatten_cons] at hx
     rcases List.mem_append.1 hx with hx | hx
     · exact f.fit.1 x hx
     · exact h3 x hx
   · intro x hx
     rcases List.mem_cons.1 hx with rfl | hx
     · exact f.may
     · exact h4 x hx
   · rw [List.flatten_cons, List.length_append, List.length_cons]; omega
 | [], _ :: _, h => h.elim
 | _ :: _, [], h => h.elim
theorem may_leaf_of {l : List Ent} (h1 : ∀ x ∈ l, mayEnt x = true) (h2 : 1 ≤ l.length) (h3 : l.length ≤ 12) (h4 : eBytes l ≤ 1048576) : may ⟨true, l, []⟩ = true := by
 unfold may
 have e : (l.any fun x => !true || !mayEnt x) = false := by
  rw [List.any_eq_false]
  intro x hx
  rw [h1 x hx]
  simp
 simp only [e]
 simp [kBytes, kScraps, h3, h4]
 omega
theorem may_inner_of {ks : List Kd} (h1 : ∀ x ∈ ks, mayKid x = true) (h2 : 2 ≤ ks.length) (h3 : ks.length ≤ 12) (h4 : kBytes ks ≤ 1048576) (h5 : kScraps ks ≤ 1024) : may ⟨false, [], ks⟩ = true := by
 unfold may
 have e : (ks.any fun x => false || !mayKid x) = false := by
  rw [List.any_eq_false]
  intro x hx
  rw [h1 x hx]
  simp
 simp only [e]
 simp [eBytes, h2, h3, h4, h5]
theorem Sub.fine {v : Int → Option Nd} : ∀ {h lo hi : Nat} {k : Kd} {l : List Ent}, Sub v h lo hi k l → Fine k l
 | 0, lo, hi, k, l, ⟨h1, h2, h3, h4, h5, h6, h7⟩ => by
   obtain ⟨m1, m2, m3, m4, m5⟩ := may_leaf h2 rfl
   simp only at m2 m3 m4 m5
   have hge := eBytes_ge m2
   have hlb := lines_bound (fun x : Ent => x.lines) (fun x : Ent => x.len) l 0 0 (fun e he => by have := mayE_len (m2 e he); omega) (by omega) (by omega) (by omega)
   have e1 : k.bytes = eBytes l := by rw [h5]; simp [kdOf, ndSum, h2, kBytes]
   have e2 : k.scraps = l.length := by rw [h5]; simp [kdOf, ndSum, h2, kScraps]
   have e3 : k.lines = (l.map (·.lines)).foldl addL 0 := by rw [h5]; simp [kdOf, ndSum, h2]
   refine ⟨?_, e1, e2, ⟨m2, m5, by omega⟩, fun c => by subst c; simp at m3⟩
   unfold mayKid
   simp only [decide_eq_true_eq]
   rw [e1, e2, e3]
   have e4 : (l.map fun x : Ent => x.len).sum = eBytes l := rfl
   rw [e4] at hlb
   refine ⟨h6, h7, by omega, by omega, by omega, by omega, by omega⟩
 | h + 1, lo, hi, k, l, ⟨ks, ls, h1, h2, h3, h4, h5, h6, h7, h8, h9⟩ => by
   obtain ⟨m1, m2, m3, m4, m5, m6⟩ := may_inner h2 rfl
   simp only at m2 m3 m4 m5 m6
   obtain ⟨s1, s2, s3, s4, s5⟩ := sums_of (fun k l x => Sub.fine x) h8
   have hlb := lines_bound (fun x : Kd => x.lines) (fun x : Kd => x.bytes) ks 0 0 (fun e he => by have := mayK_facts (m2 e he); omega) (by omega) (by omega) (by omega)
   have e1 : k.bytes = eBytes l := by rw [h5, h9, ← s1]; simp [kdOf, ndSum, h2, eBytes]
   have e2 : k.scraps = l.length := by rw [h5, h9, ← s2]; simp [kdOf, ndSum, h2]
   have e3 : k.lines = (ks.map (·.lines)).foldl addL 0 := by rw [h5]; simp [kdOf, ndSum, h2]
   subst h9
   have hge := eBytes_ge s3
   have hb : eBytes ls.flatten ≤ 1048576 := by rw [← s1]; exact m5
   have hc : ls.flatten.length ≤ 1024 := by have := m6; rw [s2] at this; omega
   refine ⟨?_, e1, e2, ⟨s3, hb, hc⟩, fun c => by rw [c] at s5; have := Nat.le_trans m3 s5; simp at this⟩
   unfold mayKid
   simp only [decide_eq_true_eq]
   rw [e1, e2, e3]
   have e4 : (ks.map fun x : Kd => x.bytes).sum = kBytes ks := rfl
   rw [e4, s1] at hlb
   refine ⟨h6, h7, by omega, by omega, by omega, by omega, by omega⟩
theorem Sub.many {v : Int → Option Nd} : ∀ {h lo hi : Nat} {k : Kd} {l : List Ent}, Sub v h lo hi k l → lo * 4 ^ h ≤ l.length
 | 0, lo, hi, k, l, ⟨h1, h2, h3, _⟩ => by simpa using h3
 | h + 1, lo, hi, k, l, ⟨ks, ls, h1, h2, h3, h4, h5, h6, h7, h8, h9⟩ => by
   have key : ∀ {ks : List Kd} {ls : List (List Ent)}, F2 (Sub v h 4 12) ks ls → ks.length * 4 ^ (h + 1) ≤ ls.flatten.length := by
    intro ks
    induction ks with
    | nil => intro ls x; simp
    | cons k ks ih =>
      intro ls x
      cases ls with
      | nil => exact x.elim
      | cons l ls =>
        have a := Sub.many x.1
        have b := ih x.2
        rw [List.flatten_cons, List.length_append, List.length_cons, Nat.add_mul, Nat.one_mul, Nat.pow_succ] at *
        omega
   rw [h9]
   exact Nat.le_trans (Nat.mul_le_mul_right _ h3) (key h8)
theorem Sub.two {v : Int → Option Nd} {h lo hi : Nat} {k : Kd} {l : List Ent} (hs : Sub v h lo hi k l) (h0 : 0 < h) : 2 * 4 ^ h ≤ l.length := by
 cases h with
 | zero => omega
 | succ h =>
   obtain ⟨ks, ls, h1, h2, h3, h4, h5, h6, h7, h8, h9⟩ := hs
   obtain ⟨m1, m2, m3, m4, m5, m6⟩ := may_inner h2 rfl
   exact Sub.many (v := v) (h := h + 1) (lo := 2) (hi := hi) (k := k) ⟨ks, ls, h1, h2, m3, h4, h5, h6, h7, h8, h9⟩
theorem Sub.low {v : Int → Option Nd} {h lo hi : Nat} {k : Kd} {l : List Ent} (hs : Sub v h lo hi k l) : h ≤ 4 := by
 have hf := hs.fine.fit.2.2
 by_cases h0 : 0 < h
 · have := hs.two h0
   have h5 : 4 ^ h < 4 ^ 5 := by omega
   have := (Nat.pow_lt_pow_iff_right (by omega : 1 < 4)).1 h5
   omega
 · omega
theorem its_may {v : Int → Option Nd} {h : Nat} {n : Nd} {ls : List (List Ent)} (hn : Its v h n ls) (hf : Fit ls.flatten) (h1 : 1 ≤ many n) (h2 : 0 < h → 2 ≤ many n) (h3 : many n ≤ 12) : may n = true := by
 cases h with
 | zero =>
   obtain ⟨e, rfl⟩ := hn
   rw [flat_one] at hf
   rw [e] at h1 h3 ⊢
   simp only [many, List.length_nil, Nat.add_zero] at h1 h3
   exact may_leaf_of hf.1 h1 h3 hf.2.1
 | succ h =>
   obtain ⟨e, h8⟩ := hn
   obtain ⟨s1, s2, s3, s4, s5⟩ := sums_of (fun k l x => Sub.fine x) h8
   have h2 := h2 (by omega)
   rw [e] at h2 h3 ⊢
   simp only [many, List.length_nil, Nat.zero_add] at h2 h3
   exact may_inner_of s4 h2 h3 (by rw [s1]; exact hf.2.1) (by rw [s2]; have := hf.2.2; omega)
theorem its_cut {v : Int → Option Nd} {h : Nat} {n : Nd} {ls : List (List Ent)} (hn : Its v h n ls) (i j : Nat) : Its v h (cutN n i j) (sub ls i j) := by
 cases h with
 | zero =>
   obtain ⟨e, rfl⟩ := hn
   rw [e]
   refine ⟨by simp [cutN], ?_⟩
   simp [cutN, sub]
 | succ h =>
   obtain ⟨e, h8⟩ := hn
   rw [e]
   refine ⟨by simp [cutN], ?_⟩
   simp only [cutN, Bool.false_eq_true, if_false, sub]
   exact (h8.drop i).take (j - i)
theorem its_both {v : Int → Option Nd} {h : Nat} {a b : Nd} {la lb : List (List Ent)} (ha : Its v h a la) (hb : Its v h b lb) : Its v h (both a b) (la ++ lb) := by
 cases h with
 | zero =>
   obtain ⟨e, rfl⟩ := ha
   obtain ⟨e', rfl⟩ := hb
   rw [e, e']
   exact ⟨rfl, by simp [both]⟩
 | succ h =>
   obtain ⟨e, h8⟩ := ha
   obtain ⟨e', h8'⟩ := hb
   rw [e, e']
   exact ⟨rfl, h8.append h8'⟩
def Tl (v : Int → Option Nd) (x : Tall) (l : List Ent) : Prop := (x = noTall ∧ l = []) ∨ ∃ h : Nat, x.height = h ∧ Sub v h 1 12 x.kid l
theorem Tl.le {v v' : Int → Option Nd} (hv : Le v v') {x : Tall} {l : List Ent} (h : Tl v x l) : Tl v' x l := by
 rcases h with h | ⟨h, h1, h2⟩
 · exact .inl h
 · exact .inr ⟨h, h1, h2.le hv⟩
end Go.Tr
namespace Go.Tr
set_option linter.unusedSimpArgs false
set_option linter.unusedVariables false
section
variable {σ : Type} {X : Env σ} (hX : X.Ok)
theorem take_sub {α : Type} (l : List α) (i j : Nat) (h : i ≤ j) : l.take i ++ sub l i j = l.take j := by
 unfold sub
 have e : l.take j = (l.take j).take i ++ (l.take j).drop i := (List.take_append_drop i _).symm
 rw [List.take_take, Nat.min_eq_left h, List.drop_take] at e
 exact e.symm
theorem len_sub {α : Type} (l : List α) (i j : Nat) (h : j ≤ l.length) : (sub l i j).length = j - i := by
 unfold sub
 rw [List.length_take, List.length_drop]
 omega
theorem flat_mid {l : List (List Ent)} (i j : Nat) (hf : Fit l.flatten) : Fit (sub l i j).flatten := by
 have e : l = l.take i ++ (sub l i j ++ (l.drop i).drop (j - i)) := by
  unfold sub
  rw [List.take_append_drop, List.take_append_drop]
 rw [e, List.flatten_append, List.flatten_append] at hf
 exact hf.mid
def posAt (n pages i : Nat) : Nat := i * (n / pages) + min i (n % pages)
theorem posAt_succ (n pages i : Nat) : posAt n pages (i + 1) = posAt n pages i + (n / pages + (if i < n % pages then 1 else 0)) := by
 unfold posAt
 rw [Nat.add_mul, Nat.one_mul]
 split <;> omega
theorem posAt_end (n pages : Nat) (h : 0 < pages) : posAt n pages pages = n := by
 unfold posAt
 have := Nat.mod_lt n h
 have := Nat.div_add_mod n pages
 rw [Nat.min_eq_right (by omega)]
 omega
include hX in
theorem spreadFrom_ok {n : Nd} {h : Nat} {ls : List (List Ent)} (hf : Fit ls.flatten) (lo hi : Nat) (hhi : hi ≤ 12) (hlo : 1 ≤ lo) (hlo2 : 0 < h → 2 ≤ lo) (pages : Nat) (hp : 0 < pages)
 (hq : ∀ i, i < pages → lo ≤ many n / pages + (if i < many n % pages then 1 else 0) ∧ many n / pages + (if i < many n % pages then 1 else 0) ≤ hi) :
 ∀ (c i : Nat) (s : σ) (out : List Kd) (lo' : List (List Ent)), i + c = pages → X.inv s → Its (X.V s) h n ls → F2 (Sub (X.V s) h lo hi) out lo' → lo'.flatten = (ls.take (posAt (many n) pages i)).flatten → out.length = i →
  Step X s 0 c (spreadFrom X.wt n pages c i (posAt (many n) pages i) out) (fun ks s' => ∃ lss, F2 (Sub (X.V s') h lo hi) ks lss ∧ lss.flatten = ls.flatten ∧ ks.length = pages)
 | 0, i, s, out, lo', hc, hI, hn, ho, he, hl => by
   refine Step.pure hI ⟨lo', ho, ?_, by omega⟩
   obtain rfl : i = pages := by omega
   rw [he, posAt_end _ _ hp, its_len hn, List.take_length]
 | c + 1, i, s, out, lo', hc, hI, hn, ho, he, hl => by
   unfold spreadFrom
   rw [← posAt_succ]
   obtain ⟨q1, q2⟩ := hq i (by omega)
   have hple : posAt (many n) pages (i + 1) ≤ ls.length := by
    rw [← its_len hn]
    have h1 := posAt_end (many n) pages hp
    have mono : ∀ d, i + 1 + d ≤ pages → posAt (many n) pages (i + 1) ≤ posAt (many n) pages (i + 1 + d) := by
     intro d
     induction d with
     | zero => intro _; exact Nat.le_refl _
     | succ d ih =>
       intro hd
       have := ih (by omega)
       have e : posAt (many n) pages (i + 1 + d) ≤ posAt (many n) pages (i + 1 + (d + 1)) := by
        rw [show i + 1 + (d + 1) = i + 1 + d + 1 by omega, posAt_succ]
        exact Nat.le_add_right _ _
       omega
    have := mono (pages - (i + 1)) (by omega)
    rw [show i + 1 + (pages - (i + 1)) = pages by omega, h1] at this
    exact this
   have hcut := its_cut hn (posAt (many n) pages i) (posAt (many n) pages (i + 1))
   have hpe := posAt_succ (many n) pages i
   have hm : many (cutN n (posAt (many n) pages i) (posAt (many n) pages (i + 1))) = many n / pages + (if i < many n % pages then 1 else 0) := by
    rw [its_len hcut, len_sub _ _ _ hple]
    omega
   have hff := flat_mid (posAt (many n) pages i) (posAt (many n) pages (i + 1)) hf
   have hmay := its_may hcut hff (by rw [hm]; omega) (fun h0 => by rw [hm]; have := hlo2 h0; omega) (by rw [hm]; omega)
   have hw := hX.wt s _ hI hmay
   refine (Step.bind (R2 := 0) (W2 := c) hw ?_).mono (by omega) (by omega) fun _ _ _ _ x => x
   rintro k s1 hI1 hle ⟨k1, k2, k3, k4⟩
   refine spreadFrom_ok hf lo hi hhi hlo hlo2 pages hp hq c (i + 1) s1 (out ++ [k]) (lo' ++ [(sub ls (posAt (many n) pages i) (posAt (many n) pages (i + 1))).flatten]) (by omega) hI1 (hn.le hle) ?_ ?_ (by simp [hl])
   · refine F2.append (ho.mono fun a b x => x.le hle) ⟨?_, trivial⟩
     rw [sub_its]
     exact ⟨_, _, k4, hcut.le hle, hmay, by rw [hm]; exact q1, by rw [hm]; exact q2, k1, k2, k3, rfl⟩
   · rw [List.flatten_append, he, ← take_sub ls (posAt (many n) pages i) (posAt (many n) pages (i + 1)) (by omega), List.flatten_append]
     simp
include hX in
theorem spread_ok {n : Nd} {h : Nat} {ls : List (List Ent)} {s : σ} (hI : X.inv s) (hn : Its (X.V s) h n ls) (hf : Fit ls.flatten) (h1 : 0 < h → many n ≠ 1) :
 Step X s 0 (pagesOf n) (tSpread X.wt n) (fun ks s' => ∃ lss, F2 (Sub (X.V s') h (if pagesOf n ≤ 1 then many n else 4) (if pagesOf n ≤ 1 then many n else 12)) ks lss ∧ lss.flatten = ls.flatten ∧ ks.length = pagesOf n) := by
 unfold tSpread
 by_cases h0 : many n = 0
 · have e : pagesOf n = 0 := by unfold pagesOf; omega
   rw [e]
   have hl : ls = [] := List.eq_nil_of_length_eq_zero (by rw [← its_len hn]; exact h0)
   subst hl
   exact Step.pure hI ⟨[], trivial, rfl, rfl⟩
 · have hp : 0 < pagesOf n := by unfold pagesOf; omega
   have e0 : posAt (many n) (pagesOf n) 0 = 0 := by simp [posAt]
   by_cases hone : pagesOf n = 1
   · have hle : many n ≤ 12 := by unfold pagesOf at hone; omega
     have := spreadFrom_ok hX hf (many n) (many n) hle (by omega) (fun hh => by have := h1 hh; omega) 1 (by omega) (n := n) (h := h) (fun i hi => by
      have : i = 0 := by omega
      subst this
      rw [Nat.div_one, Nat.mod_one]
      simp) 1 0 s [] [] rfl hI hn trivial (by simp [posAt]) rfl
     rw [hone]
     simpa [posAt] using this
   · have hk : 12 * (pagesOf n - 1) + 1 ≤ many n ∧ many n ≤ 12 * pagesOf n := by unfold pagesOf at *; omega
     have := spreadFrom_ok hX hf 4 12 (by omega) (by omega) (fun _ => by omega) (pagesOf n) hp (n := n) (h := h) (fun i hi => by
      have a1 : 4 ≤ many n / pagesOf n := by
       rw [Nat.le_div_iff_mul_le hp]
       omega
      have a2 := Nat.div_add_mod (many n) (pagesOf n)
      have a3 := Nat.mod_lt (many n) hp
      refine ⟨by omega, ?_⟩
      by_cases hq : many n / pagesOf n ≤ 11
      · split <;> omega
      · have hq2 : many n / pagesOf n ≤ 12 := by
         have := Nat.div_le_div_right (c := pagesOf n) hk.2
         rw [Nat.mul_div_cancel _ hp] at this
         exact this
        have e12 : many n / pagesOf n = 12 := by omega
        rw [e12] at a2 ⊢
        have : many n % pagesOf n = 0 := by
         have := Nat.mul_comm (pagesOf n) 12
         omega
        rw [this]
        simp) (pagesOf n) 0 s [] [] (by omega) hI hn trivial (by rw [e0]; rfl) rfl
     rw [e0] at this
     rw [if_neg (by omega), if_neg (by omega)]
     exact this
include hX in
theorem grown_ok : ∀ (f : Nat) {ks : List Kd} {ls : List (List Ent)} {h : Nat} {s : σ}, ks.length ≤ f + 1 → X.inv s → F2 (Sub (X.V s) h (if ks.length ≤ 1 then 1 else 4) 12) ks ls → Fit ls.flatten →
 Step X s 0 ks.length (tGrown X.wt f ks h) (fun x s' => Tl (X.V s') x ls.flatten ∧ (ks.length ≤ 1 → x.height ≤ h) ∧ (2 ≤ ks.length → ks.length ≤ 12 → x.height = h + 1 ∧ Sub (X.V s') (h + 1) 1 ks.length x.kid ls.flatten))
 | f, [], [], h, s, hl, hI, hks, hf => by
   unfold tGrown
   exact Step.pure hI ⟨.inl ⟨rfl, rfl⟩, fun _ => by simp [noTall], fun c => by simp at c⟩
 | f, [k], [l], h, s, hl, hI, hks, hf => by
   unfold tGrown
   refine Step.ret hI ⟨.inr ⟨h, rfl, ?_⟩, fun _ => Int.le_refl _, fun c => by simp at c⟩
   have := hks.1
   simpa using this
 | 0, k :: k2 :: ks, _, h, s, hl, hI, hks, hf => by simp at hl
 | f + 1, k :: k2 :: ks, ls, h, s, hl, hI, hks, hf => by
   unfold tGrown
   have hlen : 2 ≤ (k :: k2 :: ks).length := by simp
   generalize k :: k2 :: ks = kk at hl hks hlen
   rw [if_neg (by omega)] at hks
   have hn : Its (X.V s) (h + 1) ⟨false, [], kk⟩ ls := ⟨rfl, hks⟩
   have hm : many ⟨false, [], kk⟩ = kk.length := by simp [many]
   have hp : pagesOf ⟨false, [], kk⟩ = (kk.length + 11) / 12 := by unfold pagesOf; rw [hm]
   have hsp := spread_ok hX hI hn hf (fun _ => by rw [hm]; omega)
   rw [hp, hm] at hsp
   have hp2 : (kk.length + 11) / 12 + (kk.length + 11) / 12 ≤ kk.length := by omega
   by_cases h12 : kk.length ≤ 12
   · have e1 : (kk.length + 11) / 12 = 1 := by omega
     rw [e1] at hsp
     refine (Step.bind (W2 := 0) (R2 := 0) hsp ?_).mono (by omega) (by omega) fun _ _ _ _ x => x
     rintro ks' s1 hI1 hle ⟨lss, g1, g2, g3⟩
     simp only [Nat.le_refl, if_true] at g1
     have : ∃ k', ks' = [k'] := by
      cases ks' with
      | nil => simp at g3
      | cons a l =>
        cases l with
        | nil => exact ⟨a, rfl⟩
        | cons b l => simp at g3
     obtain ⟨k', rfl⟩ := this
     have : ∃ l', lss = [l'] := by
      have := g1.len
      cases lss with
      | nil => simp at this
      | cons a l =>
        cases l with
        | nil => exact ⟨a, rfl⟩
        | cons b l => simp at this
     obtain ⟨l', rfl⟩ := this
     have g4 := g1.1
     simp only [List.flatten_cons, List.flatten_nil, List.append_nil] at g2
     subst g2
     unfold tGrown
     refine Step.ret hI1 ⟨.inr ⟨h + 1, by simp, g4.wide (by omega) (by omega)⟩, fun c => by omega, fun _ _ => ⟨by simp, g4.wide (by omega) (by omega)⟩⟩
   · refine (Step.bind (W2 := (kk.length + 11) / 12) (R2 := 0) hsp ?_).mono (by omega) (by omega) fun _ _ _ _ x => x
     rintro ks' s1 hI1 hle ⟨lss, g1, g2, g3⟩
     rw [if_neg (by omega), if_neg (by omega)] at g1
     have := grown_ok f (ks := ks') (ls := lss) (h := h + 1) (s := s1) (by omega) hI1 (by rw [if_neg (by omega)]; exact g1) (by rw [g2]; exact hf)
     rw [g3, g2] at this
     refine this.mono (by omega) (by omega) ?_
     rintro x s2 hI2 hle2 ⟨q1, q2, q3⟩
     exact ⟨q1, fun c => by omega, fun _ c => absurd c h12⟩
end
end Go.Tr
namespace Go.Tr
set_option linter.unusedSimpArgs false
set_option linter.unusedVariables false
section
variable {σ : Type} {X : Env σ} (hX : X.Ok)
theorem F2.one {α β : Type} {R : α → β → Prop} {a : α} {m : List β} (h : F2 R [a] m) : ∃ b, m = [b] ∧ R a b := by
 cases m with
 | nil => exact h.elim
 | cons b m =>
   cases m with
   | nil => exact ⟨b, rfl, h.1⟩
   | cons c m => exact h.2.elim
theorem sub_last {α : Type} {l : List α} {z : α} (h : l.getLast? = some z) : l = sub l 0 (l.length - 1) ++ [z] := by
 obtain ⟨ys, rfl⟩ := List.getLast?_eq_some_iff.1 h
 simp [sub]
include hX in
theorem meet_ok : ∀ (f : Nat) {a b : Tall} {ha hb loa lob hia hib M : Nat} {la lb : List Ent} {s : σ}, max ha hb < f → a.height = ha → b.height = hb → X.inv s →
 Sub (X.V s) ha loa hia a.kid la → Sub (X.V s) hb lob hib b.kid lb → Fit (la ++ lb) → M ≤ 4 → (hb < ha → M ≤ loa) → (ha < hb → M ≤ lob) → (ha = hb → M ≤ loa + lob) →
 Step X s (max ha hb - min ha hb + 2) (2 * (max ha hb - min ha hb) + 2) (tMeet X.rd X.wt f a b) (fun r s' => r.2 = ((max ha hb : Nat) : Int) ∧ ∃ ls, F2 (Sub (X.V s') (max ha hb) (if r.1.length ≤ 1 then M else 4) 12) r.1 ls ∧ 1 ≤ r.1.length ∧ r.1.length ≤ 2 ∧ ls.flatten = la ++ lb ∧
  (hb < ha → hia ≤ 11 → r.1.length = 1) ∧ (ha < hb → hib ≤ 11 → r.1.length = 1))
 | 0, _, _, _, _, _, _, _, _, _, _, _, _, hf, _, _, _, _, _, _, _, _, _, _ => absurd hf (by omega)
 | f + 1, a, b, ha, hb, loa, lob, hia, hib, M, la, lb, s, hf, ea, eb, hI, sa, sb, fit, hM, h1, h2, h3 => by
   unfold tMeet
   rw [ea, eb]
   rcases Nat.lt_trichotomy hb ha with hlt | heq | hgt
   · rw [if_pos (by omega)]
     obtain ⟨ha, rfl⟩ : ∃ k, ha = k + 1 := ⟨ha - 1, by omega⟩
     obtain ⟨ks, ls, c1, c2, c3, c4, c5, c6, c7, c8, c9⟩ := sa
     obtain ⟨m1, m2, m3, m4, m5, m6⟩ := may_inner c2 rfl
     simp only at m1 m2 m3 m4 m5 m6
     refine (Step.bind (R2 := max ha hb - min ha hb + 2 + 0) (W2 := 2 * (max ha hb - min ha hb) + 2 + (2 + 0)) (hX.rd s _ _ hI c1) ?_).mono (by omega) (by omega) fun _ _ _ _ x => x
     rintro x s1 hI1 hle rfl
     simp only
     obtain ⟨z, hz⟩ : ∃ z, ks.getLast? = some z := by
      cases h : ks.getLast? with
      | none => rw [List.getLast?_eq_none_iff.1 h] at m3; simp at m3
      | some z => exact ⟨z, rfl⟩
     rw [hz]
     simp only [Bool.false_eq_true, if_false]
     have hks := sub_last hz
     have hp := c8
     rw [hks] at hp
     have hls : ls = ls.take (ks.length - 1) ++ ls.drop (ks.length - 1) := (List.take_append_drop _ _).symm
     have hsl : (sub ks 0 (ks.length - 1)).length = ks.length - 1 := by rw [len_sub _ _ _ (by omega)]; omega
     obtain ⟨p1, p2⟩ := hp.split
     rw [hsl] at p1 p2
     obtain ⟨lz, e1, p3⟩ := p2.one
     rw [e1] at hls
     have hfl : la = (ls.take (ks.length - 1)).flatten ++ lz := by rw [c9]; conv => lhs; rw [hls]
                                                                   simp
     have fit2 : Fit (lz ++ lb) := by rw [hfl, List.append_assoc] at fit; exact fit.right
     have ih := meet_ok f (a := ⟨z, ((ha + 1 : Nat) : Int) - 1⟩) (b := b) (ha := ha) (hb := hb) (M := 4) (by omega) (by simp) eb hI1 (p3.le hle) (sb.le hle) fit2 (by omega) (by omega) (by omega) (by omega)
     refine Step.bind (R1 := max ha hb - min ha hb + 2) (W1 := 2 * (max ha hb - min ha hb) + 2) ih ?_
     rintro ⟨rk, rh⟩ s2 hI2 hle2 ⟨q1, ls2, q2, q3, q4, q5, q6, q7⟩
     simp only at q1 q2 q3 q4 q5 q6 q7
     have emax : max ha hb = ha := by omega
     rw [emax] at q2 q1
     have q2' : F2 (Sub (X.V s2) ha 4 12) rk ls2 := by
      by_cases hh : rk.length ≤ 1
      · rw [if_pos hh] at q2; exact q2
      · rw [if_neg hh] at q2; exact q2
     have n1 : Its (X.V s2) (ha + 1) ⟨false, [], sub ks 0 (ks.length - 1)⟩ (ls.take (ks.length - 1)) := ⟨rfl, (p1.mono fun _ _ x => (x.le hle).le hle2)⟩
     have n2 : Its (X.V s2) (ha + 1) ⟨false, [], rk⟩ ls2 := ⟨rfl, q2'⟩
     have n3 := its_both n1 n2
     have hmany : many (both ⟨false, [], sub ks 0 (ks.length - 1)⟩ ⟨false, [], rk⟩) = ks.length - 1 + rk.length := by simp [many, both, hsl]
     have efl : (ls.take (ks.length - 1) ++ ls2).flatten = la ++ lb := by rw [List.flatten_append, q5, hfl, List.append_assoc]
     have hsp := spread_ok hX hI2 n3 (by rw [efl]; exact fit) (fun _ => by rw [hmany]; omega)
     have hpg : pagesOf (both ⟨false, [], sub ks 0 (ks.length - 1)⟩ ⟨false, [], rk⟩) = (ks.length - 1 + rk.length + 11) / 12 := by unfold pagesOf; rw [hmany]
     rw [hpg, hmany] at hsp
     have e12 : cutN ⟨false, [], ks⟩ 0 (ks.length - 1) = ⟨false, [], sub ks 0 (ks.length - 1)⟩ := by simp [cutN]
     rw [e12]
     refine (Step.bind (R1 := 0) (R2 := 0) (W1 := 2) (W2 := 0) (hsp.mono (by omega) (by omega) fun _ _ _ _ x => x) ?_)
     rintro out s3 hI3 hle3 ⟨lss, g1, g2, g3⟩
     refine Step.ret hI3 ⟨by simp only; omega, lss, ?_, by simp only; omega, by simp only; omega, by rw [g2, efl], ?_, fun c => by omega⟩
     · simp only
       have em : max (ha + 1) hb = ha + 1 := by omega
       rw [em, g3]
       by_cases h5 : (ks.length - 1 + rk.length + 11) / 12 ≤ 1
       · rw [if_pos h5, if_pos h5] at g1
         rw [if_pos h5]
         exact g1.mono fun _ _ x => x.wide (by have := h1 (by omega); omega) (by omega)
       · rw [if_neg h5, if_neg h5] at g1
         rw [if_neg h5]
         exact g1
     · intro _ h11
       simp only
       rw [g3]
       omega
   · subst heq
     rw [if_neg (by omega), if_neg (by omega)]
     rw [sub_its] at sa sb
     obtain ⟨na, lsa, a1, a2, a3, a4, a5, a6, a7, a8, a9⟩ := sa
     obtain ⟨nb, lsb, b1, b2, b3, b4, b5, b6, b7, b8, b9⟩ := sb
     have ma : 1 ≤ many na ∧ many na ≤ 12 := by
      cases hb with
      | zero =>
        obtain ⟨e, -⟩ := a2
        rw [e] at a3 ⊢
        have := may_leaf a3 rfl
        simp only at this
        simp [many]
        omega
      | succ h =>
        obtain ⟨e, -⟩ := a2
        rw [e] at a3 ⊢
        have := may_inner a3 rfl
        simp only at this
        simp [many]
        omega
     have mb : 1 ≤ many nb ∧ many nb ≤ 12 := by
      cases hb with
      | zero =>
        obtain ⟨e, -⟩ := b2
        rw [e] at b3 ⊢
        have := may_leaf b3 rfl
        simp only at this
        simp [many]
        omega
      | succ h =>
        obtain ⟨e, -⟩ := b2
        rw [e] at b3 ⊢
        have := may_inner b3 rfl
        simp only at this
        simp [many]
        omega
     refine (Step.bind (R2 := 1 + 0) (W2 := 0 + 2) (hX.rd s _ _ hI a1) ?_).mono (by omega) (by omega) fun _ _ _ _ x => x
     rintro x s1 hI1 hle rfl
     refine (Step.bind (R2 := 0) (W2 := 2) (hX.rd s1 _ _ hI1 (hle _ _ b1)) ?_)
     rintro y s2 hI2 hle2 rfl
     have hlf : x.leaf = y.leaf := by
      cases hb with
      | zero => obtain ⟨e, _⟩ := a2; obtain ⟨e', _⟩ := b2; rw [e, e']
      | succ k => obtain ⟨e, _⟩ := a2; obtain ⟨e', _⟩ := b2; rw [e, e']
     rw [if_pos hlf]
     have n3 := its_both ((a2.le hle).le hle2) ((b2.le hle).le hle2)
     have hmany : many (both x y) = many x + many y := by simp [many, both]; omega
     have efl : (lsa ++ lsb).flatten = la ++ lb := by rw [List.flatten_append, a9, b9]
     have hsp := spread_ok hX hI2 n3 (by rw [efl]; exact fit) (fun _ => by rw [hmany]; omega)
     have hpg : pagesOf (both x y) = (many x + many y + 11) / 12 := by unfold pagesOf; rw [hmany]
     rw [hpg, hmany] at hsp
     refine (Step.bind (R1 := 0) (R2 := 0) (W1 := 2) (W2 := 0) (hsp.mono (by omega) (by omega) fun _ _ _ _ x => x) ?_)
     rintro out s3 hI3 hle3 ⟨lss, g1, g2, g3⟩
     refine Step.ret hI3 ⟨by simp only; omega, lss, ?_, by simp only; omega, by simp only; omega, by rw [g2, efl], fun c => by omega, fun c => by omega⟩
     simp only
     have em : max hb hb = hb := by omega
     rw [em, g3]
     by_cases h5 : (many x + many y + 11) / 12 ≤ 1
     · rw [if_pos h5, if_pos h5] at g1
       rw [if_pos h5]
       exact g1.mono fun _ _ z => z.wide (by have := h3 rfl; omega) (by omega)
     · rw [if_neg h5, if_neg h5] at g1
       rw [if_neg h5]
       exact g1
   · rw [if_neg (by omega), if_pos (by omega)]
     obtain ⟨hb, rfl⟩ : ∃ k, hb = k + 1 := ⟨hb - 1, by omega⟩
     obtain ⟨ks, ls, c1, c2, c3, c4, c5, c6, c7, c8, c9⟩ := sb
     obtain ⟨m1, m2, m3, m4, m5, m6⟩ := may_inner c2 rfl
     simp only at m1 m2 m3 m4 m5 m6
     refine (Step.bind (R2 := max ha hb - min ha hb + 2 + 0) (W2 := 2 * (max ha hb - min ha hb) + 2 + (2 + 0)) (hX.rd s _ _ hI c1) ?_).mono (by omega) (by omega) fun _ _ _ _ x => x
     rintro x s1 hI1 hle rfl
     simp only
     cases ks with
     | nil => simp at m3
     | cons z ks =>
     simp only [Bool.false_eq_true, if_false]
     cases ls with
     | nil => exact c8.elim
     | cons lz ls =>
     obtain ⟨p3, p1⟩ := c8
     have hfl : lb = lz ++ ls.flatten := by rw [c9]; simp
     have fit2 : Fit (la ++ lz) := by rw [hfl, ← List.append_assoc] at fit; exact fit.left
     have ih := meet_ok f (a := a) (b := ⟨z, ((hb + 1 : Nat) : Int) - 1⟩) (ha := ha) (hb := hb) (M := 4) (by omega) ea (by simp) hI1 (sa.le hle) (p3.le hle) fit2 (by omega) (by omega) (by omega) (by omega)
     refine Step.bind (R1 := max ha hb - min ha hb + 2) (W1 := 2 * (max ha hb - min ha hb) + 2) ih ?_
     rintro ⟨rk, rh⟩ s2 hI2 hle2 ⟨q1, ls2, q2, q3, q4, q5, q6, q7⟩
     simp only at q1 q2 q3 q4 q5 q6 q7
     have emax : max ha hb = hb := by omega
     rw [emax] at q2 q1
     have q2' : F2 (Sub (X.V s2) hb 4 12) rk ls2 := by
      by_cases hh : rk.length ≤ 1
      · rw [if_pos hh] at q2; exact q2
      · rw [if_neg hh] at q2; exact q2
     have n1 : Its (X.V s2) (hb + 1) ⟨false, [], ks⟩ ls := ⟨rfl, (p1.mono fun _ _ x => (x.le hle).le hle2)⟩
     have n2 : Its (X.V s2) (hb + 1) ⟨false, [], rk⟩ ls2 := ⟨rfl, q2'⟩
     have n3 := its_both n2 n1
     simp only [List.length_cons] at c3 c4 m3 m4
     have hmany : many (both ⟨false, [], rk⟩ ⟨false, [], ks⟩) = rk.length + ks.length := by simp [many, both]
     have efl : (ls2 ++ ls).flatten = la ++ lb := by rw [List.flatten_append, q5, hfl, List.append_assoc]
     have hsp := spread_ok hX hI2 n3 (by rw [efl]; exact fit) (fun _ => by rw [hmany]; omega)
     have hpg : pagesOf (both ⟨false, [], rk⟩ ⟨false, [], ks⟩) = (rk.length + ks.length + 11) / 12 := by unfold pagesOf; rw [hmany]
     rw [hpg, hmany] at hsp
     have e12 : cutN ⟨false, [], z :: ks⟩ 1 (z :: ks).length = ⟨false, [], ks⟩ := by simp [cutN, sub]
     rw [e12]
     refine (Step.bind (R1 := 0) (R2 := 0) (W1 := 2) (W2 := 0) (hsp.mono (by omega) (by omega) fun _ _ _ _ x => x) ?_)
     rintro out s3 hI3 hle3 ⟨lss, g1, g2, g3⟩
     refine Step.ret hI3 ⟨by simp only; omega, lss, ?_, by simp only; omega, by simp only; omega, by rw [g2, efl], fun c => by omega, ?_⟩
     · simp only
       have em : max ha (hb + 1) = hb + 1 := by omega
       rw [em, g3]
       by_cases h5 : (rk.length + ks.length + 11) / 12 ≤ 1
       · rw [if_pos h5, if_pos h5] at g1
         rw [if_pos h5]
         exact g1.mono fun _ _ x => x.wide (by have := h2 (by omega); omega) (by omega)
       · rw [if_neg h5, if_neg h5] at g1
         rw [if_neg h5]
         exact g1
     · intro _ h11
       simp only
       rw [g3]
       omega
def hOf (x : Tall) : Nat := x.height.toNat
theorem Tl.low {v : Int → Option Nd} {x : Tall} {l : List Ent} (h : Tl v x l) : hOf x ≤ 4 := by
 rcases h with ⟨rfl, -⟩ | ⟨k, h1, h2⟩
 · simp [hOf, noTall]
 · have := h2.low
   simp [hOf, h1]
   omega
include hX in
theorem put_ok {a b : Tall} {la lb : List Ent} {s : σ} (hI : X.inv s) (ta : Tl (X.V s) a la) (tb : Tl (X.V s) b lb) (fit : Fit (la ++ lb)) :
 Step X s (max (hOf a) (hOf b) + 2) 12 (tPut X.rd X.wt a b) (fun x s' => Tl (X.V s') x (la ++ lb) ∧ x.height ≤ max a.height b.height + 1 ∧
  (∀ h : Nat, (a.height ≤ h ∧ b.height < h ∧ (a.height = h → Sub (X.V s) h 1 11 a.kid la) ∨ b.height ≤ h ∧ a.height < h ∧ (b.height = h → Sub (X.V s) h 1 11 b.kid lb)) → x.height ≤ h)) := by
 unfold tPut
 rcases ta with ⟨rfl, rfl⟩ | ⟨ha, ea, sa⟩
 · rw [if_pos (by simp [noTall])]
   refine Step.ret hI ⟨by simpa using tb, by simp only [noTall]; omega, ?_⟩
   rintro h (⟨c1, c2, c3⟩ | ⟨c1, c2, c3⟩) <;> omega
 rw [if_neg (by omega)]
 rcases tb with ⟨rfl, rfl⟩ | ⟨hb, eb, sb⟩
 · rw [if_pos (by simp [noTall])]
   refine Step.ret hI ⟨.inr ⟨ha, ea, by simpa using sa⟩, by simp only [noTall]; omega, ?_⟩
   rintro h (⟨c1, c2, c3⟩ | ⟨c1, c2, c3⟩) <;> omega
 rw [if_neg (by omega)]
 have la4 := sa.low
 have lb4 := sb.low
 have eda : hOf a = ha := by simp [hOf, ea]
 have edb : hOf b = hb := by simp [hOf, eb]
 have hd : deepOf a b = max ha hb + 1 := by
  unfold deepOf
  rw [ea, eb]
  omega
 rw [hd, eda, edb]
 -- the narrower bounds of the counts, where they are known
 by_cases hcase : (hb < ha ∧ Sub (X.V s) ha 1 11 a.kid la) ∨ (ha < hb ∧ Sub (X.V s) hb 1 11 b.kid lb)
 · have hmt : Step X s (max ha hb + 2) 10 (tMeet X.rd X.wt (max ha hb + 1) a b) (fun r s' => r.2 = ((max ha hb : Nat) : Int) ∧ ∃ ls, F2 (Sub (X.V s') (max ha hb) 1 12) r.1 ls ∧ r.1.length = 1 ∧ ls.flatten = la ++ lb) := by
    rcases hcase with ⟨c1, c2⟩ | ⟨c1, c2⟩
    · refine (meet_ok hX (max ha hb + 1) (M := 1) (by omega) ea eb hI c2 sb fit (by omega) (by omega) (by omega) (by omega)).mono (by omega) (by omega) ?_
      rintro r s' _ _ ⟨q1, ls, q2, q3, q4, q5, q6, q7⟩
      have q6 := q6 c1 (by omega)
      rw [if_pos (by omega)] at q2
      exact ⟨q1, ls, q2, q6, q5⟩
    · refine (meet_ok hX (max ha hb + 1) (M := 1) (by omega) ea eb hI sa c2 fit (by omega) (by omega) (by omega) (by omega)).mono (by omega) (by omega) ?_
      rintro r s' _ _ ⟨q1, ls, q2, q3, q4, q5, q6, q7⟩
      have q7 := q7 c1 (by omega)
      rw [if_pos (by omega)] at q2
      exact ⟨q1, ls, q2, q7, q5⟩
   refine Step.bind (R2 := 0) (W2 := 2) hmt ?_
   rintro ⟨rk, rh⟩ s1 hI1 hle ⟨q1, ls, q2, q3, q5⟩
   simp only at q1 q2 q3
   subst q1
   have := grown_ok hX rk.length (ks := rk) (ls := ls) (h := max ha hb) (s := s1) (by omega) hI1 (by rw [if_pos (by omega)]; exact q2) (by rw [q5]; exact fit)
   refine (this.mono (by omega) (by omega) ?_)
   rintro x s2 hI2 hle2 ⟨g1, g2, g3⟩
   have g2 := g2 (by omega)
   rw [q5] at g1
   refine ⟨g1, by rw [ea, eb]; omega, ?_⟩
   rintro h (⟨k1, k2, k3⟩ | ⟨k1, k2, k3⟩) <;> omega
 · refine (Step.bind (R2 := 0) (W2 := 2) (W1 := 10) (R1 := max ha hb + 2) ((meet_ok hX (max ha hb + 1) (M := 1) (by omega) ea eb hI sa sb fit (by omega) (by omega) (by omega) (by omega)).mono (by omega) (by omega) fun _ _ _ _ x => x) ?_)
   rintro ⟨rk, rh⟩ s1 hI1 hle ⟨q1, ls, q2, q3, q4, q5, q6, q7⟩
   simp only at q1 q2 q3 q4
   subst q1
   have := grown_ok hX rk.length (ks := rk) (ls := ls) (h := max ha hb) (s := s1) (by omega) hI1 (by exact q2) (by rw [q5]; exact fit)
   refine (this.mono (by omega) (by omega) ?_)
   rintro x s2 hI2 hle2 ⟨g1, g2, g3⟩
   rw [q5] at g1
   have hx : x.height ≤ max ha hb + 1 := by
    by_cases h1 : rk.length ≤ 1
    · have := g2 h1
      omega
    · have := (g3 (by omega) (by omega)).1
      omega
   refine ⟨g1, by rw [ea, eb]; omega, ?_⟩
   rintro h (⟨k1, k2, k3⟩ | ⟨k1, k2, k3⟩)
   · rw [ea] at k1 k3
     rw [eb] at k2
     by_cases e : ha = h
     · subst e
       exact absurd (.inl ⟨by omega, k3 rfl⟩) hcase
     · omega
   · rw [eb] at k1 k3
     rw [ea] at k2
     by_cases e : hb = h
     · subst e
       exact absurd (.inr ⟨by omega, k3 rfl⟩) hcase
     · omega
end
end Go.Tr
namespace Go.Tr
set_option linter.unusedSimpArgs false
set_option linter.unusedVariables false
section
variable {σ : Type} {X : Env σ} (hX : X.Ok)
theorem prefix_of {a b c d : List Ent} (h : a ++ b = c ++ d) (hm : ∀ x ∈ a ++ b, mayEnt x = true) (hle : eBytes a ≤ eBytes c) : ∃ e, c = a ++ e ∧ b = e ++ d := by
 rcases List.append_eq_append_iff.1 h with ⟨e, h1, h2⟩ | ⟨e, h1, h2⟩
 · exact ⟨e, h1, h2⟩
 · rw [h1, eBytes_append] at hle
   have hg := eBytes_ge (l := e) fun x hx => hm x (by rw [h1]; simp [hx])
   have : e = [] := List.eq_nil_of_length_eq_zero (by omega)
   subst this
   exact ⟨[], by simpa using h1.symm, by simpa using h2.symm⟩
theorem passE_ok : ∀ (l1 l2 : List Ent) (k : Nat), (∀ x ∈ l1, mayEnt x = true) → passE (l1 ++ l2) (eBytes l1) k = some (k + l1.length)
 | [], l2, k, _ => by
  cases l2 <;> simp [passE, eBytes]
 | x :: l1, l2, k, h => by
   have hx := mayE_len (h x List.mem_cons_self)
   have hg := eBytes_ge (l := l1) fun y hy => h y (List.mem_cons_of_mem _ hy)
   rw [List.cons_append]
   unfold passE
   rw [eBytes_cons]
   simp only
   rw [if_pos (by omega), show x.len + eBytes l1 - x.len = eBytes l1 by omega, passE_ok l1 l2 (k + 1) fun y hy => h y (List.mem_cons_of_mem _ hy)]
   simp
   omega
theorem passK_ok {v : Int → Option Nd} {h lo hi : Nat} : ∀ {ks : List Kd} {ls : List (List Ent)} (l1 l2 : List Ent) (k0 : Nat), F2 (Sub v h lo hi) ks ls → ls.flatten = l1 ++ l2 → eBytes l1 < eBytes ls.flatten →
 ∃ (k : Nat) (r : Int) (z : Kd) (m1 m2 : List Ent), passK ks (eBytes l1) k0 = some (k0 + k, r) ∧ ks[k]? = some z ∧ ls[k]? = some (m1 ++ m2) ∧ Sub v h lo hi z (m1 ++ m2) ∧ r = eBytes m1 ∧ l1 = (ls.take k).flatten ++ m1 ∧ l2 = m2 ++ (ls.drop (k + 1)).flatten ∧ m2 ≠ [] ∧ k < ks.length
 | [], [], l1, l2, k0, _, e, hlt => by
  have := List.append_eq_nil_iff.1 e.symm
  rw [this.1] at hlt
  simp [eBytes] at hlt
 | k :: ks, l :: ls, l1, l2, k0, hf, e, hlt => by
   have hfine := hf.1.fine
   have hall : ∀ x ∈ l ++ ls.flatten, mayEnt x = true := by
    have := (sums_of (fun k l x => Sub.fine x) hf).2.2.1
    simpa using this
   rw [List.flatten_cons] at e hlt
   unfold passK
   rw [hfine.bytes]
   by_cases hc : eBytes l ≤ eBytes l1
   · obtain ⟨l1', e1, e2⟩ := prefix_of e hall hc
     rw [if_pos hc]
     subst e1
     rw [eBytes_append, show eBytes l + eBytes l1' - eBytes l = eBytes l1' by omega]
     rw [eBytes_append, eBytes_append] at hlt
     obtain ⟨k', r, z, m1, m2, a1, a2, a3, a4, a5, a6, a7, a8, a9⟩ := passK_ok l1' l2 (k0 + 1) hf.2 e2 (by omega)
     refine ⟨k' + 1, r, z, m1, m2, by rw [a1]; congr 2; omega, by simpa using a2, by simpa using a3, a4, a5, by simp [a6], by simpa using a7, a8, by simp; omega⟩
   · rw [if_neg hc]
     obtain ⟨m2, e1, e2⟩ := prefix_of e.symm (by rw [← e]; exact hall) (by omega)
     refine ⟨0, eBytes l1, k, l1, m2, rfl, rfl, by simp [e1], by rw [← e1]; exact hf.1, rfl, by simp, by simpa using e2, ?_, by simp⟩
     rintro rfl
     rw [e1, List.append_nil] at hc
     omega
 | [], _ :: _, _, _, _, h, _, _ => h.elim
 | _ :: _, [], _, _, _, h, _, _ => h.elim
include hX in
theorem leaves_ok {l : List Ent} {s : σ} (hI : X.inv s) (hf : Fit l) : Step X s 0 (2 * l.length) (tLeaves X.wt l) (fun x s' => Tl (X.V s') x l ∧ (l.length ≤ 12 → x.height ≤ 0)) := by
 unfold tLeaves
 have hn : Its (X.V s) 0 ⟨true, l, []⟩ (l.map fun e => [e]) := ⟨rfl, rfl⟩
 have hsp := spread_ok hX hI hn (by rw [flat_one]; exact hf) (fun c => by omega)
 have hm : many ⟨true, l, []⟩ = l.length := by simp [many]
 have hp : pagesOf ⟨true, l, []⟩ = (l.length + 11) / 12 := by unfold pagesOf; rw [hm]
 rw [hp, hm] at hsp
 refine (Step.bind (R2 := 0) (W2 := (l.length + 11) / 12) hsp ?_).mono (by omega) (by omega) fun _ _ _ _ x => x
 rintro ks s1 hI1 hle ⟨lss, g1, g2, g3⟩
 rw [flat_one] at g2
 have := grown_ok hX ks.length (ks := ks) (ls := lss) (h := 0) (s := s1) (by omega) hI1 (by
  rw [g3]
  by_cases h1 : (l.length + 11) / 12 ≤ 1
  · rw [if_pos h1, if_pos h1] at g1
    rw [if_pos h1]
    by_cases h0 : l.length = 0
    · have : ks = [] := List.eq_nil_of_length_eq_zero (by omega)
      subst this
      have : lss = [] := List.eq_nil_of_length_eq_zero (by rw [← g1.len]; rfl)
      subst this
      exact trivial
    · exact g1.mono fun _ _ x => x.wide (by omega) (by omega)
  · rw [if_neg h1, if_neg h1] at g1
    rw [if_neg h1]
    exact g1) (by rw [g2]; exact hf)
 rw [g3, g2] at this
 unfold grown
 rw [g3]
 refine this.mono (by omega) (by omega) ?_
 rintro x s2 hI2 hle2 ⟨q1, q2, q3⟩
 exact ⟨q1, fun h12 => by have := q2 (by omega); simpa using this⟩
include hX in
theorem over_ok {ks : List Kd} {ls : List (List Ent)} {h : Nat} {s : σ} (hI : X.inv s) (hks : F2 (Sub (X.V s) h 4 12) ks ls) (hf : Fit ls.flatten) (hl : ks.length ≤ 12) :
 Step X s 0 12 (tOver X.wt ks ((h + 1 : Nat) : Int)) (fun x s' => Tl (X.V s') x ls.flatten ∧ x.height ≤ ((h + 1 : Nat) : Int) ∧ (x.height = ((h + 1 : Nat) : Int) → Sub (X.V s') (h + 1) 1 ks.length x.kid ls.flatten)) := by
 unfold tOver grown
 have e : ((h + 1 : Nat) : Int) - 1 = (h : Int) := by omega
 rw [e]
 have := grown_ok hX ks.length (ks := ks) (ls := ls) (h := h) (s := s) (by omega) hI (by split; · exact hks.mono fun _ _ x => x.wide (by omega) (by omega)
                                                                                         · exact hks) hf
 refine this.mono (by omega) (by omega) ?_
 rintro x s2 hI2 hle2 ⟨q1, q2, q3⟩
 refine ⟨q1, ?_, ?_⟩
 · by_cases h1 : ks.length ≤ 1
   · have := q2 h1; omega
   · have := (q3 (by omega) hl).1; omega
 · intro hx
   by_cases h1 : ks.length ≤ 1
   · have := q2 h1; omega
   · exact (q3 (by omega) hl).2
include hX in
theorem parted_ok : ∀ (f : Nat) {x : Tall} {h : Nat} {l1 l2 : List Ent} {s : σ}, h < f → X.inv s → Tl (X.V s) x (l1 ++ l2) → x.height ≤ h →
 Step X s (1 + h * (h + 6)) (48 * (h + 1)) (tParted X.rd X.wt f x (eBytes l1)) (fun p s' => Tl (X.V s') p.1 l1 ∧ Tl (X.V s') p.2 l2 ∧ p.1.height ≤ h ∧ p.2.height ≤ h)
 | 0, x, h, l1, l2, s, hf, hI, ht, hh => absurd hf (by omega)
 | f + 1, x, h, l1, l2, s, hf, hI, ht, hh => by
   unfold tParted
   have hfit : Fit (l1 ++ l2) := by
    rcases ht with ⟨-, e⟩ | ⟨k, e, sx⟩
    · rw [e]; exact Fit.nil
    · exact sx.fine.fit
   have hg1 := eBytes_ge hfit.left.1
   have hg2 := eBytes_ge hfit.right.1
   have hno : noTall.height ≤ (h : Int) := by simp only [noTall]; omega
   by_cases h1 : eBytes l1 ≤ 0
   · rw [if_pos h1]
     have : l1 = [] := List.eq_nil_of_length_eq_zero (by omega)
     subst this
     exact Step.ret hI ⟨.inl ⟨rfl, rfl⟩, ht, hno, hh⟩
   rw [if_neg h1]
   rcases ht with ⟨e0, e⟩ | ⟨k, ek, sx⟩
   · have : l1 = [] := (List.append_eq_nil_iff.1 e).1
     subst this
     simp [eBytes] at h1
   have hfine := sx.fine
   rw [hfine.bytes, eBytes_append]
   by_cases h2 : eBytes l1 + eBytes l2 ≤ eBytes l1
   · rw [if_pos h2]
     have : l2 = [] := List.eq_nil_of_length_eq_zero (by omega)
     subst this
     exact Step.ret hI ⟨.inr ⟨k, ek, by simpa using sx⟩, .inl ⟨rfl, rfl⟩, hh, hno⟩
   rw [if_neg h2]
   have hkh : k ≤ h := by omega
   cases k with
   | zero =>
     obtain ⟨c1, c2, c3, c4, c5⟩ := sx
     refine (Step.bind (R2 := 0) (W2 := 2 * l1.length + (2 * l2.length + 0)) (hX.rd s _ _ hI c1) ?_).mono (by omega) (by rw [List.length_append] at c4; omega) fun _ _ _ _ x => x
     rintro y s1 hI1 hle rfl
     simp only [if_true]
     rw [passE_ok l1 l2 0 hfit.left.1]
     simp only [Nat.zero_add]
     rw [List.take_left, List.drop_left]
     refine Step.bind (R1 := 0) (R2 := 0) (leaves_ok hX hI1 hfit.left) ?_
     rintro a s2 hI2 hle2 ⟨a1, a2⟩
     refine Step.bind (R1 := 0) (R2 := 0) (leaves_ok hX hI2 hfit.right) ?_
     rintro b s3 hI3 hle3 ⟨b1, b2⟩
     rw [List.length_append] at c4
     have a2 := a2 (by omega)
     have b2 := b2 (by omega)
     exact Step.ret hI3 ⟨a1.le hle3, b1, by simp only; omega, by simp only; omega⟩
   | succ k =>
     obtain ⟨ks, ls, c1, c2, c3, c4, c5, c6, c7, c8, c9⟩ := sx
     have hkl : ks.length ≤ 12 := c4
     obtain ⟨h, rfl⟩ : ∃ h', h = h' + 1 := ⟨h - 1, by omega⟩
     have hR : 1 + (h + 1) * (h + 1 + 6) = 1 + (1 + h * (h + 6) + (0 + (h + 3 + (0 + (h + 3 + 0))))) := by
      rw [Nat.add_mul, Nat.mul_add h, Nat.mul_add h, Nat.one_mul, Nat.mul_add h]
      omega
     rw [hR]
     refine (Step.bind (R2 := 1 + h * (h + 6) + (0 + (h + 3 + (0 + (h + 3 + 0))))) (W2 := 48 * (h + 1) + (12 + (12 + (12 + (12 + 0))))) (hX.rd s _ _ hI c1) ?_).mono (by omega) (by omega) fun _ _ _ _ x => x
     rintro y s1 hI1 hle rfl
     simp only [Bool.false_eq_true, if_false]
     obtain ⟨i, r, z, m1, m2, d1, d2, d3, d4, d5, d6, d7, d8, d9⟩ := passK_ok l1 l2 0 c8 c9.symm (by rw [← c9, eBytes_append]; omega)
     rw [d1]
     simp only [Nat.zero_add]
     have c8' := c8.mono fun _ _ x => x.le hle
     have hfm : Fit (m1 ++ m2) := d4.fine.fit
     have hT : ((k + 1 : Nat) : Int) = x.height := ek.symm
     rw [← hT]
     by_cases hr : r = 0
     · rw [if_pos hr]
       have hgm := eBytes_ge hfm.left.1
       have : m1 = [] := List.eq_nil_of_length_eq_zero (by omega)
       subst this
       have hd : (ls.drop i).flatten = l2 := by
        have : ls.drop i = m2 :: ls.drop (i + 1) := by
         rw [List.drop_eq_getElem_cons (by have := c8.len; omega)]
         have := List.getElem?_eq_some_iff.1 d3
         obtain ⟨_, e⟩ := this
         rw [e]
         simp
        rw [this, d7]
        simp
       rw [List.append_nil] at d6
       refine (Step.bind (R1 := 0) (R2 := 0) (W1 := 12) (W2 := 12 + 0) (over_ok hX hI1 (c8'.take i) (by rw [← d6]; exact hfit.left) (by rw [List.length_take]; omega)) ?_).mono (by omega) (by omega) fun _ _ _ _ x => x
       rintro a s2 hI2 hle2 ⟨a1, a2, a3⟩
       refine Step.bind (R1 := 0) (R2 := 0) (over_ok hX hI2 ((c8'.drop i).mono fun _ _ x => x.le hle2) (by rw [hd]; exact hfit.right) (by rw [List.length_drop]; omega)) ?_
       rintro b s3 hI3 hle3 ⟨b1, b2, b3⟩
       rw [← d6] at a1
       rw [hd] at b1
       exact Step.ret hI3 ⟨a1.le hle3, b1, by simp only; omega, by simp only; omega⟩
     · rw [if_neg hr, d2]
       simp only
       rw [d5]
       have e1 : ((k + 1 : Nat) : Int) - 1 = (k : Int) := by omega
       rw [e1]
       have ih := parted_ok f (x := ⟨z, (k : Int)⟩) (h := h) (l1 := m1) (l2 := m2) (s := s1) (by omega) hI1 (.inr ⟨k, rfl, (d4.le hle).wide (by omega) (by omega)⟩) (by simp only; omega)
       refine Step.bind ih ?_
       rintro ⟨p1, p2⟩ s2 hI2 hle2 ⟨t1, t2, t3, t4⟩
       simp only at t1 t2 t3 t4
       have c8'' := c8'.mono fun _ _ x => x.le hle2
       have hfl1 : Fit (ls.take i).flatten := by have := hfit.left; rw [d6] at this; exact this.left
       have hfr : Fit (ls.drop (i + 1)).flatten := by have := hfit.right; rw [d7] at this; exact this.right
       refine (Step.bind (R1 := 0) (W1 := 12) (R2 := h + 3 + (0 + (h + 3 + 0))) (W2 := 12 + (12 + (12 + 0))) (over_ok hX hI2 (c8''.take i) hfl1 (by rw [List.length_take]; omega)) ?_).mono (by omega) (by omega) fun _ _ _ _ x => x
       rintro a s3 hI3 hle3 ⟨a1, a2, a3⟩
       refine Step.bind (R1 := h + 3) (W1 := 12) (R2 := 0 + (h + 3 + 0)) (W2 := 12 + (12 + 0)) ((put_ok hX hI3 a1 (t1.le hle3) (by rw [← d6]; exact hfit.left)).mono (by unfold hOf; omega) (by omega) fun _ _ _ _ x => x) ?_
       rintro a' s4 hI4 hle4 ⟨u1, u2, u3⟩
       have u4 := u3 (h + 1) (.inl ⟨by omega, by omega, fun e => by
        have : k = h := by omega
        subst this
        exact (a3 e).wide (by omega) (by rw [List.length_take]; omega)⟩)
       have c84 := (c8''.mono fun _ _ x => x.le hle3).mono fun _ _ x => x.le hle4
       refine Step.bind (R1 := 0) (W1 := 12) (R2 := h + 3 + 0) (W2 := 12 + 0) (over_ok hX hI4 (c84.drop (i + 1)) hfr (by rw [List.length_drop]; omega)) ?_
       rintro b s5 hI5 hle5 ⟨b1, b2, b3⟩
       refine Step.bind (R1 := h + 3) (R2 := 0) (W1 := 12) (W2 := 0) ((put_ok hX hI5 (((t2.le hle3).le hle4).le hle5) b1 (by rw [← d7]; exact hfit.right)).mono (by unfold hOf; omega) (by omega) fun _ _ _ _ x => x) ?_
       rintro b' s6 hI6 hle6 ⟨w1, w2, w3⟩
       have w4 := w3 (h + 1) (.inr ⟨by omega, by omega, fun e => by
        have : k = h := by omega
        subst this
        exact (b3 e).wide (by omega) (by rw [List.length_drop]; omega)⟩)
       rw [← d6] at u1
       rw [← d7] at w1
       exact Step.ret hI6 ⟨(u1.le hle5).le hle6, w1, u4, w4⟩
def Rt (v : Int → Option Nd) (root : Int) (l : List Ent) : Prop := (root = 0 ∧ l = []) ∨ ∃ (h : Nat) (k : Kd), k.page = root ∧ Sub v h 1 12 k l
theorem Rt.le {v v' : Int → Option Nd} (hv : Le v v') {r : Int} {l : List Ent} (h : Rt v r l) : Rt v' r l := by
 rcases h with h | ⟨h, k, h1, h2⟩
 · exact .inl h
 · exact .inr ⟨h, k, h1, h2.le hv⟩
theorem Tl.root {v : Int → Option Nd} {x : Tall} {l : List Ent} (h : Tl v x l) : Rt v x.kid.page l := by
 rcases h with ⟨rfl, rfl⟩ | ⟨h, h1, h2⟩
 · exact .inl ⟨rfl, rfl⟩
 · exact .inr ⟨h, _, rfl, h2⟩
theorem Rt.fit {v : Int → Option Nd} {r : Int} {l : List Ent} (h : Rt v r l) : Fit l := by
 rcases h with ⟨_, rfl⟩ | ⟨h, k, h1, h2⟩
 · exact Fit.nil
 · exact h2.fine.fit
theorem its_ne {v : Int → Option Nd} {h : Nat} {n : Nd} {ls : List (List Ent)} (hn : Its v h n ls) : n.leaf = decide (h = 0) := by
 cases h with
 | zero => obtain ⟨e, -⟩ := hn; rw [e]; rfl
 | succ h => obtain ⟨e, -⟩ := hn; rw [e]; rfl
include hX in
theorem rootedTo_ok : ∀ (f : Nat) {h : Nat} {n : Nd} {ls : List (List Ent)} {s : σ} (a : Int), h ≤ f → X.inv s → Its (X.V s) h n ls → may n = true → Step X s h 0 (rootedTo X.rd f n a) (fun r s' => r = a + h)
 | f, 0, n, ls, s, a, hf, hI, hn, hm => by
   unfold rootedTo
   rw [its_ne hn]
   simp only [decide_true, if_true]
   exact Step.ret hI (by omega)
 | 0, h + 1, n, ls, s, a, hf, hI, hn, hm => absurd hf (by omega)
 | f + 1, h + 1, n, ls, s, a, hf, hI, hn, hm => by
   unfold rootedTo
   rw [its_ne hn]
   simp only [Nat.add_one_ne_zero, decide_false, Bool.false_eq_true, if_false]
   obtain ⟨e, h8⟩ := hn
   obtain ⟨lf, es, ks⟩ := n
   simp only at e h8
   cases e
   obtain ⟨m1, m2, m3, m4, m5, m6⟩ := may_inner hm rfl
   simp only at m3
   cases ks with
   | nil => simp at m3
   | cons k ks =>
     cases ls with
     | nil => exact h8.elim
     | cons l ls =>
       obtain ⟨p1, p2⟩ := h8
       rw [sub_its] at p1
       obtain ⟨n2, ls2, a1, a2, a3, a4⟩ := p1
       simp only
       refine (Step.bind (R2 := h) (W2 := 0) (hX.rd s _ _ hI a1) ?_).mono (by omega) (by omega) fun _ _ _ _ x => x
       rintro x s1 hI1 hle rfl
       refine (rootedTo_ok f (h := h) (a + 1) (by omega) hI1 (a2.le hle) a3).mono (by omega) (by omega) ?_
       rintro r s2 hI2 hle2 rfl
       omega
include hX in
theorem rooted_ok {root : Int} {l : List Ent} {s : σ} (hI : X.inv s) (hr : Rt (X.V s) root l) (L : Nat) (hL : ∀ h : Nat, 2 * 4 ^ h ≤ l.length → h ≤ L) : Step X s (L + 1) 0 (tRooted X.rd root) (fun x s' => Tl (X.V s') x l ∧ x.height ≤ L) := by
 unfold tRooted
 rcases hr with ⟨rfl, rfl⟩ | ⟨h, k, rfl, hs⟩
 · rw [if_pos rfl]
   exact Step.ret hI ⟨.inl ⟨rfl, rfl⟩, by simp only [noTall]; omega⟩
 have hlow := hs.low
 have hh : h ≤ L := by
  by_cases h0 : 0 < h
  · exact hL h (hs.two h0)
  · omega
 have hs2 := hs
 rw [sub_its] at hs
 obtain ⟨n, ls, a1, a2, a3, a4, a5, a6, a7, a8, a9⟩ := hs
 rw [if_neg (by omega)]
 refine (Step.bind (R2 := h + 0) (W2 := 0) (hX.rd s _ _ hI a1) ?_).mono (by omega) (by omega) fun _ _ _ _ x => x
 rintro x s1 hI1 hle rfl
 refine Step.bind (R2 := 0) (W2 := 0) (rootedTo_ok hX 20 (h := h) 0 (by omega) hI1 (a2.le hle) a3) ?_
 rintro r s2 hI2 hle2 rfl
 refine Step.ret hI2 ⟨.inr ⟨h, by simp, ?_⟩, by simp only; omega⟩
 simp only
 rw [← a6]
 exact (hs2.le hle).le hle2
theorem hitE_ok : ∀ (l1 : List Ent) (x : Ent) (l2 : List Ent) (p a : Int), (∀ y ∈ l1, mayEnt y = true) → a + eBytes l1 ≤ p → p < a + eBytes l1 + x.len → hitE (l1 ++ x :: l2) p a = .inl (.here x (a + eBytes l1))
 | [], x, l2, p, a, _, h1, h2 => by
  simp only [eBytes, List.map_nil, List.sum_nil, Int.add_zero] at h1 h2
  simp [hitE, h2, eBytes]
 | y :: l1, x, l2, p, a, hm, h1, h2 => by
   rw [eBytes_cons] at h1 h2
   have hg := eBytes_ge (l := l1) fun z hz => hm z (List.mem_cons_of_mem _ hz)
   rw [List.cons_append]
   unfold hitE
   rw [if_neg (by omega), hitE_ok l1 x l2 p (a + y.len) (fun z hz => hm z (List.mem_cons_of_mem _ hz)) (by omega) (by omega), eBytes_cons]
   congr 2
   omega
theorem hitK_ok {v : Int → Option Nd} {h lo hi : Nat} : ∀ {ks : List Kd} {ls : List (List Ent)} (p a : Int), F2 (Sub v h lo hi) ks ls → a ≤ p → p < a + eBytes ls.flatten →
 ∃ (z : Kd) (la lz lb : List Ent), hitK ks p a = .below z.page (a + eBytes la) ∧ Sub v h lo hi z lz ∧ ls.flatten = la ++ (lz ++ lb) ∧ a + eBytes la ≤ p ∧ p < a + eBytes la + eBytes lz
 | [], [], p, a, _, h1, h2 => by
  simp [eBytes] at h2
  omega
 | k :: ks, l :: ls, p, a, hf, h1, h2 => by
   rw [List.flatten_cons, eBytes_append] at h2
   unfold hitK
   rw [hf.1.fine.bytes]
   by_cases hc : p < a + eBytes l
   · rw [if_pos hc]
     exact ⟨k, [], l, ls.flatten, by simp [eBytes], hf.1, by simp, by simp [eBytes]; omega, by simp [eBytes] at hc ⊢; omega⟩
   · rw [if_neg hc]
     obtain ⟨z, la, lz, lb, g1, g2, g3, g4, g5⟩ := hitK_ok p (a + eBytes l) hf.2 (by omega) (by omega)
     exact ⟨z, l ++ la, lz, lb, by rw [g1, eBytes_append]; congr 1; omega, g2, by rw [List.flatten_cons, g3, List.append_assoc], by rw [eBytes_append]; omega, by rw [eBytes_append]; omega⟩
 | [], _ :: _, _, _, h, _, _ => h.elim
 | _ :: _, [], _, _, h, _, _ => h.elim
theorem at_place : ∀ (l : List Ent) (p : Int), (∀ y ∈ l, mayEnt y = true) → 0 ≤ p → p < eBytes l → ∃ l1 x l2, l = l1 ++ x :: l2 ∧ eBytes l1 ≤ p ∧ p < eBytes l1 + x.len
 | [], p, _, h1, h2 => by simp [eBytes] at h2; omega
 | y :: l, p, hm, h1, h2 => by
   rw [eBytes_cons] at h2
   by_cases hc : p < y.len
   · exact ⟨[], y, l, rfl, by simp [eBytes]; omega, by simp [eBytes]; omega⟩
   · obtain ⟨l1, x, l2, e, g1, g2⟩ := at_place l (p - y.len) (fun z hz => hm z (List.mem_cons_of_mem _ hz)) (by omega) (by omega)
     exact ⟨y :: l1, x, l2, by rw [e]; rfl, by rw [eBytes_cons]; omega, by rw [eBytes_cons]; omega⟩
include hX in
theorem seekTo_ok : ∀ (f : Nat) {h : Nat} {n : Nd} {ls : List (List Ent)} {s : σ} (p a : Int), h < f → X.inv s → Its (X.V s) h n ls → Fit ls.flatten → a ≤ p → p < a + eBytes ls.flatten →
 Step X s h 0 (seekTo X.rd f n p a) (fun r s' => ∃ l1 l2, ls.flatten = l1 ++ r.1 :: l2 ∧ r.2 = a + eBytes l1 ∧ a + eBytes l1 ≤ p ∧ p < a + eBytes l1 + r.1.len)
 | 0, h, n, ls, s, p, a, hf, _, _, _, _, _ => absurd hf (by omega)
 | f + 1, 0, n, ls, s, p, a, hf, hI, hn, hfit, h1, h2 => by
   obtain ⟨e, rfl⟩ := hn
   rw [flat_one] at hfit h2 ⊢
   obtain ⟨l1, x, l2, g1, g2, g3⟩ := at_place n.ents (p - a) hfit.1 (by omega) (by omega)
   unfold seekTo hitN
   rw [g1, hitE_ok l1 x l2 p a (fun y hy => hfit.1 y (by rw [g1]; simp [hy])) (by omega) (by omega)]
   exact Step.ret hI ⟨l1, l2, rfl, rfl, by omega, by simp only; omega⟩
 | f + 1, h + 1, n, ls, s, p, a, hf, hI, hn, hfit, h1, h2 => by
   obtain ⟨e, h8⟩ := hn
   obtain ⟨z, la, lz, lb, g1, g2, g3, g4, g5⟩ := hitK_ok p a h8 h1 h2
   have hh : hitN n p a = .below z.page (a + eBytes la) := by
    unfold hitN
    rw [e]
    simp only [hitE]
    exact g1
   unfold seekTo
   rw [hh]
   simp only
   rw [sub_its] at g2
   obtain ⟨n2, ls2, b1, b2, b3, b4, b5, b6, b7, b8, b9⟩ := g2
   refine (Step.bind (R2 := h) (W2 := 0) (hX.rd s _ _ hI b1) ?_).mono (by omega) (by omega) fun _ _ _ _ x => x
   rintro x s1 hI1 hle rfl
   have fl : Fit lz := by rw [g3] at hfit; exact hfit.mid
   rw [b9] at fl g5 g3
   refine (seekTo_ok f (h := h) p (a + eBytes la) (by omega) hI1 (b2.le hle) fl g4 (by omega)).mono (by omega) (by omega) ?_
   rintro ⟨y, q⟩ s2 hI2 hle2 ⟨l1, l2, c1, c2, c3, c4⟩
   simp only at c1 c2 c3 c4 ⊢
   exact ⟨la ++ l1, l2 ++ lb, by rw [g3, c1]; simp, by rw [eBytes_append]; omega, by rw [eBytes_append]; omega, by rw [eBytes_append]; omega⟩
include hX in
theorem seek_ok {root : Int} {l : List Ent} {s : σ} (hI : X.inv s) (hr : Rt (X.V s) root l) (L : Nat) (hL : ∀ h : Nat, 2 * 4 ^ h ≤ l.length → h ≤ L) (p : Int) (h1 : 0 ≤ p) (h2 : p < eBytes l) :
 Step X s (L + 1) 0 (tSeek X.rd root p) (fun r s' => ∃ l1 l2, l = l1 ++ r.1 :: l2 ∧ r.2 = eBytes l1 ∧ eBytes l1 ≤ p ∧ p < eBytes l1 + r.1.len) := by
 unfold tSeek
 rcases hr with ⟨rfl, rfl⟩ | ⟨h, k, rfl, hs⟩
 · simp [eBytes] at h2
   omega
 have hlow := hs.low
 have hh : h ≤ L := by
  by_cases h0 : 0 < h
  · exact hL h (hs.two h0)
  · omega
 have hs2 := hs.fine.fit
 rw [sub_its] at hs
 obtain ⟨n, ls, a1, a2, a3, a4, a5, a6, a7, a8, rfl⟩ := hs
 refine (Step.bind (R2 := h) (W2 := 0) (hX.rd s _ _ hI a1) ?_).mono (by omega) (by omega) fun _ _ _ _ x => x
 rintro x s1 hI1 hle rfl
 refine (seekTo_ok hX 22 (h := h) p 0 (by omega) hI1 (a2.le hle) hs2 h1 (by omega)).mono (by omega) (by omega) ?_
 rintro ⟨y, q⟩ s2 hI2 hle2 ⟨l1, l2, c1, c2, c3, c4⟩
 simp only at c1 c2 c3 c4 ⊢
 exact ⟨l1, l2, c1, by omega, by omega, by omega⟩
theorem rankE_ok : ∀ (l1 l2 : List Ent) (r : Int), (∀ y ∈ l1 ++ l2, mayEnt y = true) → rankE (l1 ++ l2) (eBytes l1) r = (- eBytes l2, r + l1.length)
 | [], l2, r, hm => by
  have key : ∀ (l : List Ent) (n : Int), n ≤ 0 → (∀ y ∈ l, mayEnt y = true) → rankE l n r = (n - eBytes l, r) := by
   intro l
   induction l with
   | nil => intro n _ _; simp [rankE, eBytes]
   | cons y l ih =>
     intro n hn hm
     have := mayE_len (hm y List.mem_cons_self)
     unfold rankE
     rw [if_neg (by omega), ih (n - y.len) (by omega) fun z hz => hm z (List.mem_cons_of_mem _ hz), eBytes_cons]
     congr 1
     omega
  rw [List.nil_append, key l2 _ (by simp [eBytes]) (by simpa using hm)]
  simp [eBytes]
 | y :: l1, l2, r, hm => by
   have h1 := mayE_len (hm y (by simp))
   have h2 := eBytes_ge (l := l1) fun z hz => hm z (by simp [hz])
   rw [List.cons_append]
   unfold rankE
   rw [eBytes_cons, if_pos (by omega), show y.len + eBytes l1 - y.len = eBytes l1 by omega, rankE_ok l1 l2 (r + 1) fun z hz => hm z (by simp at hz ⊢; exact .inr hz)]
   congr 1
   simp
   omega
theorem rankK_ok {v : Int → Option Nd} {h lo hi : Nat} : ∀ {ks : List Kd} {ls : List (List Ent)} (l1 l2 : List Ent) (r0 : Int), F2 (Sub v h lo hi) ks ls → ls.flatten = l1 ++ l2 → eBytes l1 < eBytes ls.flatten →
 ∃ (z : Kd) (la m1 m2 : List Ent), rankK ks (eBytes l1) r0 = .inl (z, eBytes m1, r0 + la.length) ∧ Sub v h lo hi z (m1 ++ m2) ∧ l1 = la ++ m1
 | [], [], l1, l2, r0, _, e, hlt => by
  have := List.append_eq_nil_iff.1 e.symm
  rw [this.1] at hlt
  simp [eBytes] at hlt
 | k :: ks, l :: ls, l1, l2, r0, hf, e, hlt => by
   have hfine := hf.1.fine
   have hall : ∀ x ∈ l ++ ls.flatten, mayEnt x = true := by
    have := (sums_of (fun k l x => Sub.fine x) hf).2.2.1
    simpa using this
   rw [List.flatten_cons] at e hlt
   unfold rankK
   rw [hfine.bytes]
   by_cases hc : eBytes l ≤ eBytes l1
   · obtain ⟨l1', e1, e2⟩ := prefix_of e hall hc
     rw [if_neg (by omega)]
     subst e1
     rw [eBytes_append, show eBytes l + eBytes l1' - eBytes l = eBytes l1' by omega]
     rw [eBytes_append, eBytes_append] at hlt
     obtain ⟨z, la, m1, m2, a1, a2, a3⟩ := rankK_ok l1' l2 (r0 + k.scraps) hf.2 e2 (by omega)
     refine ⟨z, l ++ la, m1, m2, ?_, a2, by rw [a3, List.append_assoc]⟩
     rw [a1, hfine.scraps]
     simp
     omega
   · rw [if_pos (by omega)]
     obtain ⟨m2, e1, e2⟩ := prefix_of e.symm (by rw [← e]; exact hall) (by omega)
     exact ⟨k, [], l1, m2, by simp, by rw [← e1]; exact hf.1, by simp⟩
 | [], _ :: _, _, _, _, h, _, _ => h.elim
 | _ :: _, [], _, _, _, h, _, _ => h.elim
include hX in
theorem rank_ok : ∀ (f : Nat) {x : Tall} {h : Nat} {l1 l2 : List Ent} {s : σ}, h < f → X.inv s → Tl (X.V s) x (l1 ++ l2) → x.height ≤ h → Step X s (h + 1) 0 (tRank X.rd f x (eBytes l1)) (fun r s' => r = l1.length)
 | 0, x, h, l1, l2, s, hf, hI, ht, hh => absurd hf (by omega)
 | f + 1, x, h, l1, l2, s, hf, hI, ht, hh => by
   unfold tRank
   have hfit : Fit (l1 ++ l2) := by
    rcases ht with ⟨-, e⟩ | ⟨k, e, sx⟩
    · rw [e]; exact Fit.nil
    · exact sx.fine.fit
   have hg1 := eBytes_ge hfit.left.1
   have hg2 := eBytes_ge hfit.right.1
   by_cases h1 : eBytes l1 ≤ 0
   · rw [if_pos (.inl h1)]
     have : l1 = [] := List.eq_nil_of_length_eq_zero (by omega)
     subst this
     exact Step.ret hI (by simp)
   rcases ht with ⟨e0, e⟩ | ⟨k, ek, sx⟩
   · have : l1 = [] := (List.append_eq_nil_iff.1 e).1
     subst this
     simp [eBytes] at h1
   rw [if_neg (by omega)]
   have hfine := sx.fine
   rw [hfine.bytes, eBytes_append]
   by_cases h2 : eBytes l1 + eBytes l2 ≤ eBytes l1
   · rw [if_pos h2]
     have : l2 = [] := List.eq_nil_of_length_eq_zero (by omega)
     subst this
     exact Step.ret hI (by rw [hfine.scraps]; simp)
   rw [if_neg h2]
   cases k with
   | zero =>
     obtain ⟨c1, c2, c3, c4, c5⟩ := sx
     refine (Step.bind (R2 := 0) (W2 := 0) (hX.rd s _ _ hI c1) ?_).mono (by omega) (by omega) fun _ _ _ _ x => x
     rintro y s1 hI1 hle rfl
     simp only
     rw [rankE_ok l1 l2 0 hfit.1]
     simp only [rankK]
     exact Step.ret hI1 (by omega)
   | succ k =>
     obtain ⟨ks, ls, c1, c2, c3, c4, c5, c6, c7, c8, c9⟩ := sx
     obtain ⟨h, rfl⟩ : ∃ h', h = h' + 1 := ⟨h - 1, by omega⟩
     refine (Step.bind (R2 := h + 1 + 0) (W2 := 0) (hX.rd s _ _ hI c1) ?_).mono (by omega) (by omega) fun _ _ _ _ x => x
     rintro y s1 hI1 hle rfl
     simp only [rankE]
     obtain ⟨z, la, m1, m2, a1, a2, a3⟩ := rankK_ok l1 l2 0 c8 c9.symm (by rw [← c9, eBytes_append]; omega)
     rw [a1]
     simp only
     refine Step.bind (R2 := 0) (W2 := 0) (rank_ok f (x := ⟨z, x.height - 1⟩) (h := h) (l1 := m1) (l2 := m2) (s := s1) (by omega) hI1 (.inr ⟨k, by simp only; omega, (a2.le hle).wide (by omega) (by omega)⟩) (by simp only; omega)) ?_
     rintro r s2 hI2 hle2 rfl
     exact Step.ret hI2 (by rw [a3]; simp)
include hX in
theorem size_ok {root : Int} {l : List Ent} {s : σ} (hI : X.inv s) (hr : Rt (X.V s) root l) : Step X s 1 0 (tSize X.rd root) (fun r s' => r = eBytes l) := by
 unfold tSize
 rcases hr with ⟨rfl, rfl⟩ | ⟨h, k, rfl, hs⟩
 · rw [if_pos rfl]
   exact Step.ret hI rfl
 have hs2 := hs.fine
 rw [sub_its] at hs
 obtain ⟨n, ls, a1, a2, a3, a4, a5, a6, a7, a8, a9⟩ := hs
 rw [if_neg (by omega)]
 refine (Step.bind (R2 := 0) (W2 := 0) (hX.rd s _ _ hI a1) ?_).mono (by omega) (by omega) fun _ _ _ _ x => x
 rintro x s1 hI1 hle rfl
 refine Step.ret hI1 ?_
 rw [← hs2.bytes, a6]
 rfl
end
end Go.Tr
namespace Go.Tr
set_option linter.unusedSimpArgs false
set_option linter.unusedVariables false
def Joined : List Ent → Prop
 | a :: b :: l => meets a b = false ∧ Joined (b :: l)
 | _ => True
theorem Joined.tail {a : Ent} {l : List Ent} (h : Joined (a :: l)) : Joined l := by
 cases l with
 | nil => trivial
 | cons b l => exact h.2
theorem joinTo_none {o : List Ent} (b : Ent) (h : o.getLast? = none) : joinTo o b = o ++ [b] := by
 unfold joinTo
 rw [h]
 rw [List.getLast?_eq_none_iff.1 h]
 rfl
theorem joinTo_not {o : List Ent} {a b : Ent} (h : o.getLast? = some a) (hm : meets a b = false) : joinTo o b = o ++ [b] := by
 unfold joinTo
 rw [h]
 simp [hm]
theorem joinTo_ne (o : List Ent) (x : Ent) : joinTo o x ≠ [] := by
 unfold joinTo
 cases o.getLast? with
 | none => simp
 | some a => simp only; split <;> simp
theorem joinTo_app (A o : List Ent) (x : Ent) (ho : o ≠ []) : joinTo (A ++ o) x = A ++ joinTo o x := by
 unfold joinTo
 rw [List.getLast?_append]
 cases h : o.getLast? with
 | none => exact absurd (List.getLast?_eq_none_iff.1 h) ho
 | some a =>
   simp only [Option.some_or]
   split
   · rw [List.dropLast_append_of_ne_nil ho, List.append_assoc]
   · rw [List.append_assoc]
theorem fold_app (A : List Ent) : ∀ (l o : List Ent), o ≠ [] → l.foldl joinTo (A ++ o) = A ++ l.foldl joinTo o
 | [], o, _ => rfl
 | x :: l, o, h => by
   rw [List.foldl_cons, List.foldl_cons, joinTo_app A o x h, fold_app A l _ (joinTo_ne o x)]
theorem join_cons (x : Ent) (l : List Ent) : join (x :: l) = l.foldl joinTo [x] := rfl
theorem join_joined : ∀ {l : List Ent}, Joined l → join l = l
 | [], _ => rfl
 | [a], _ => rfl
 | a :: b :: l, h => by
   have ih := join_joined (l := b :: l) h.2
   rw [join_cons] at ih ⊢
   rw [List.foldl_cons]
   have e : joinTo [a] b = [a] ++ [b] := by simp [joinTo, h.1]
   rw [e, fold_app [a] l [b] (by simp), ih]
   rfl
theorem join_two {A M : List Ent} (hA : Joined A) {m : Ent} {M' : List Ent} (hM : M = m :: M') (h : ∀ a, A.getLast? = some a → meets a m = false) : join (A ++ M) = A ++ join M := by
 subst hM
 unfold join
 rw [List.foldl_append]
 have e := join_joined hA
 unfold join at e
 rw [e, List.foldl_cons, List.foldl_cons]
 have e2 : joinTo A m = A ++ [m] := by
  cases hl : A.getLast? with
  | none => exact joinTo_none m hl
  | some a => exact joinTo_not hl (h a hl)
 rw [e2, fold_app A M' [m] (by simp)]
 rfl
theorem join_back {M B : List Ent} (hB : Joined B) (h : ∀ a b B', (join M).getLast? = some a → B = b :: B' → meets a b = false) : join (M ++ B) = join M ++ B := by
 unfold join
 rw [List.foldl_append]
 cases B with
 | nil => simp
 | cons b B =>
   rw [List.foldl_cons]
   have e2 : joinTo (M.foldl joinTo []) b = M.foldl joinTo [] ++ [b] := by
    cases hl : (M.foldl joinTo []).getLast? with
    | none => exact joinTo_none b hl
    | some a => exact joinTo_not hl (h a b B hl rfl)
   rw [e2, fold_app _ B [b] (by simp)]
   have := join_joined hB
   rw [join_cons] at this
   rw [this]
theorem joinTo_last (o : List Ent) (z : Ent) : ∃ e, (joinTo o z).getLast? = some e ∧ e.src = z.src ∧ e.pos + e.len = z.pos + z.len := by
 unfold joinTo
 cases hl : o.getLast? with
 | none => exact ⟨z, by simp, rfl, rfl⟩
 | some a =>
   simp only
   split
   · rename_i hm
     unfold meets at hm
     simp only [decide_eq_true_eq] at hm
     refine ⟨glue a z, by simp, hm.1, ?_⟩
     simp only [glue]
     omega
   · exact ⟨z, by simp, rfl, rfl⟩
theorem join_last (M : List Ent) (z : Ent) : ∃ e, (join (M ++ [z])).getLast? = some e ∧ e.src = z.src ∧ e.pos + e.len = z.pos + z.len := by
 unfold join
 rw [List.foldl_append]
 exact joinTo_last _ z
theorem meets_eq {a a' b b' : Ent} (h1 : a.src = a'.src) (h2 : a.pos + a.len = a'.pos + a'.len) (h3 : b.src = b'.src) (h4 : b.pos = b'.pos) : meets a b = meets a' b' := by
 unfold meets
 rw [h1, h2, h3, h4]
theorem Joined.left : ∀ {a b : List Ent}, Joined (a ++ b) → Joined a
 | [], b, _ => trivial
 | [x], b, _ => trivial
 | x :: y :: a, b, h => ⟨h.1, Joined.left (a := y :: a) (b := b) h.2⟩
theorem Joined.right : ∀ {a b : List Ent}, Joined (a ++ b) → Joined b
 | [], b, h => h
 | x :: a, b, h => Joined.right (a := a) (Joined.tail h)
theorem Joined.meet : ∀ {A : List Ent} {a b : Ent} {B : List Ent}, Joined (A ++ b :: B) → A.getLast? = some a → meets a b = false
 | [], a, b, B, h, e => by cases e
 | [x], a, b, B, h, e => by
  simp at e
  subst e
  exact h.1
 | x :: y :: A, a, b, B, h, e => Joined.meet (A := y :: A) h.2 (by simpa using e)
theorem joined_app : ∀ {A B : List Ent}, Joined A → Joined B → (∀ a b B', A.getLast? = some a → B = b :: B' → meets a b = false) → Joined (A ++ B)
 | [], B, _, hB, _ => hB
 | [x], [], _, _, _ => trivial
 | [x], b :: B, _, hB, h => ⟨h x b B rfl rfl, hB⟩
 | x :: y :: A, B, hA, hB, h => ⟨hA.1, joined_app (A := y :: A) hA.2 hB fun a b B' e1 e2 => h a b B' (by simpa using e1) e2⟩
theorem fold_joined : ∀ (l o : List Ent), Joined o → Joined (l.foldl joinTo o)
 | [], o, h => h
 | x :: l, o, h => by
   rw [List.foldl_cons]
   refine fold_joined l _ ?_
   unfold joinTo
   cases hl : o.getLast? with
   | none => trivial
   | some a =>
     simp only
     obtain ⟨o', rfl⟩ := List.getLast?_eq_some_iff.1 hl
     split
     · rw [List.dropLast_concat]
       refine joined_app h.left trivial fun c b B' e1 e2 => ?_
       cases e2
       exact (meets_eq (a := c) (b := glue a x) (a' := c) (b' := a) rfl rfl rfl rfl).trans (Joined.meet h e1)
     · rename_i hm
       refine joined_app h trivial fun c b B' e1 e2 => ?_
       cases e2
       simp at e1
       subst e1
       simpa using hm
theorem joined_join (l : List Ent) : Joined (join l) := fold_joined l [] trivial
/-! entries that may be -/
theorem mayE_iff {x : Ent} : mayEnt x = true ↔ ((x.src = 0 ∨ x.src = 1) ∧ 0 ≤ x.pos ∧ x.pos ≤ 16777216 ∧ 1 ≤ x.len ∧ x.len ≤ 16777216 - x.pos ∧ x.len ≤ 1048576 ∧ (-1 ≤ x.lines ∧ x.lines ≤ x.len) ∧ (x.src = 1 ∨ x.lines = -1)) := by
 unfold mayEnt
 exact decide_eq_true_iff
theorem glue_may {a x : Ent} (ha : mayEnt a = true) (hx : mayEnt x = true) (hm : meets a x = true) (hl : a.len + x.len ≤ 1048576) : mayEnt (glue a x) = true := by
 rw [mayE_iff] at ha hx ⊢
 unfold meets at hm
 simp only [decide_eq_true_eq] at hm
 obtain ⟨m1, m2⟩ := hm
 unfold glue
 simp only
 refine ⟨ha.1, ha.2.1, ha.2.2.1, by omega, by omega, hl, ?_, ?_⟩
 · split <;> omega
 · rcases ha.2.2.2.2.2.2.2 with h | h
   · exact .inl h
   · exact .inr (by rw [if_pos (.inl (by omega))])
theorem fold_may : ∀ (l o : List Ent), (∀ x ∈ o, mayEnt x = true) → (∀ x ∈ l, mayEnt x = true) → eBytes o + eBytes l ≤ 1048576 → ∀ x ∈ l.foldl joinTo o, mayEnt x = true
 | [], o, h, _, _ => h
 | y :: l, o, h, h2, h3 => by
   rw [List.foldl_cons]
   rw [eBytes_cons] at h3
   refine fold_may l _ ?_ (fun x hx => h2 x (List.mem_cons_of_mem _ hx)) (by rw [eBytes_joinTo]; omega)
   have hy := h2 y List.mem_cons_self
   have hl := eBytes_ge (l := l) fun x hx => h2 x (List.mem_cons_of_mem _ hx)
   unfold joinTo
   cases hlast : o.getLast? with
   | none =>
     intro x hx
     simp at hx
     subst hx
     exact hy
   | some a =>
     simp only
     obtain ⟨o', rfl⟩ := List.getLast?_eq_some_iff.1 hlast
     have ha := h a (by simp)
     have hg := eBytes_ge (l := o') fun x hx => h x (by simp [hx])
     have ea : eBytes (o' ++ [a]) = eBytes o' + a.len := by rw [eBytes_append]; simp [eBytes]
     split
     · rename_i hm
       intro x hx
       rw [List.dropLast_concat] at hx
       rcases List.mem_append.1 hx with hx | hx
       · exact h x (by simp [hx])
       · simp at hx
         subst hx
         exact glue_may ha hy hm (by omega)
     · intro x hx
       rcases List.mem_append.1 hx with hx | hx
       · exact h x hx
       · simp at hx
         subst hx
         exact hy
theorem join_may {l : List Ent} (h : ∀ x ∈ l, mayEnt x = true) (hb : eBytes l ≤ 1048576) : ∀ x ∈ join l, mayEnt x = true := fold_may l [] (fun x hx => (List.not_mem_nil hx).elim) h (by simpa [eBytes] using hb)
theorem part_may {x : Ent} (h : mayEnt x = true) {a b : Int} (ha : 0 ≤ a) (hb : b ≤ x.len) : ∀ y ∈ part x a b, mayEnt y = true := by
 rw [mayE_iff] at h
 intro y hy
 unfold part at hy
 split at hy
 · simp at hy
 · split at hy
   · simp at hy
     subst hy
     rw [mayE_iff]
     simp only
     refine ⟨h.1, by omega, by omega, by omega, by omega, by omega, ?_, ?_⟩
     · split <;> omega
     · rcases h.2.2.2.2.2.2.2 with c | c
       · exact .inl c
       · exact .inr (by split <;> omega)
   · simp at hy
     subst hy
     rw [mayE_iff]
     exact h
theorem part_bytes (x : Ent) {a b : Int} (ha : 0 ≤ a) (h : a ≤ b) (hb : b ≤ x.len) : eBytes (part x a b) = b - a := by
 unfold part
 split
 · simp [eBytes]; omega
 · split
   · simp [eBytes]
   · simp [eBytes]; omega
/-! the first bytes of a list, and the others -/
def cutE (x : Ent) (a n : Int) : Ent := { x with pos := x.pos + a, len := n, lines := if x.lines = 0 then 0 else -1 }
def first : List Ent → Int → List Ent × List Ent
 | [], _ => ([], [])
 | x :: l, n => if x.len ≤ n then (x :: (first l (n - x.len)).1, (first l (n - x.len)).2)
   else if n ≤ 0 then ((first l (n - x.len)).1, x :: (first l (n - x.len)).2)
   else (cutE x 0 n :: (first l (n - x.len)).1, cutE x n (x.len - n) :: (first l (n - x.len)).2)
theorem first_none : ∀ (l : List Ent) (n : Int), n ≤ 0 → (∀ x ∈ l, mayEnt x = true) → first l n = ([], l)
 | [], _, _, _ => rfl
 | x :: l, n, h, hm => by
   have := mayE_len (hm x List.mem_cons_self)
   rw [first, first_none l (n - x.len) (by omega) fun y hy => hm y (List.mem_cons_of_mem _ hy), if_neg (by omega), if_pos h]
theorem first_pass (l : List Ent) : ∀ (A : List Ent) (n : Int), (∀ x ∈ A, mayEnt x = true) → 0 ≤ n → first (A ++ l) (eBytes A + n) = (A ++ (first l n).1, (first l n).2)
 | [], n, _, _ => by simp [eBytes]
 | x :: A, n, hm, hn => by
   have hx := mayE_len (hm x List.mem_cons_self)
   have hg := eBytes_ge (l := A) fun y hy => hm y (List.mem_cons_of_mem _ hy)
   rw [List.cons_append]
   rw [first, eBytes_cons, if_pos (by omega), show x.len + eBytes A + n - x.len = eBytes A + n by omega, first_pass l A n (fun y hy => hm y (List.mem_cons_of_mem _ hy)) hn]
   rfl
theorem first_left {A B : List Ent} {x : Ent} (hm : ∀ y ∈ A ++ x :: B, mayEnt y = true) {n : Int} (h0 : 0 < n) (h1 : n ≤ x.len) : (first (A ++ x :: B) (eBytes A + n)).1 = A ++ part x 0 n := by
 have hB : ∀ y ∈ B, mayEnt y = true := fun y hy => hm y (by simp [hy])
 rw [first_pass _ A n (fun y hy => hm y (by simp [hy])) (by omega)]
 unfold part
 rw [first, first_none B (n - x.len) (by omega) hB, if_neg (show ¬ n ≤ 0 by omega)]
 by_cases hc : x.len ≤ n
 · rw [if_pos hc, if_neg (by omega), if_neg (by omega)]
 · rw [if_neg hc, if_neg (by omega), if_pos (.inr (by omega))]
   simp [cutE]
theorem first_right {A B : List Ent} {x : Ent} (hm : ∀ y ∈ A ++ x :: B, mayEnt y = true) {n : Int} (h0 : 0 ≤ n) (h1 : n < x.len) : (first (A ++ x :: B) (eBytes A + n)).2 = part x n x.len ++ B := by
 have hB : ∀ y ∈ B, mayEnt y = true := fun y hy => hm y (by simp [hy])
 rw [first_pass _ A n (fun y hy => hm y (by simp [hy])) (by omega)]
 unfold part
 rw [first, first_none B (n - x.len) (by omega) hB, if_neg (show ¬ x.len ≤ n by omega), if_neg (show ¬ x.len ≤ n by omega)]
 by_cases hc : n ≤ 0
 · rw [if_pos hc, if_neg (by omega)]
   rfl
 · rw [if_neg hc, if_pos (.inl (by omega))]
   simp [cutE]
theorem first_end {l : List Ent} (hm : ∀ y ∈ l, mayEnt y = true) : first l (eBytes l) = (l, []) := by
 have := first_pass [] l 0 hm (by omega)
 simpa [first] using this
theorem first_first : ∀ (l : List Ent) (a n : Int), (∀ y ∈ l, mayEnt y = true) → 0 ≤ a → 0 ≤ n → (first (first l a).2 n).2 = (first l (a + n)).2
 | [], _, _, _, _, _ => rfl
 | x :: l, a, n, hm, ha, hn => by
   have hx := mayE_len (hm x List.mem_cons_self)
   have hl : ∀ y ∈ l, mayEnt y = true := fun y hy => hm y (List.mem_cons_of_mem _ hy)
   by_cases h1 : x.len ≤ a
   · conv => lhs; rw [first]
     conv => rhs; rw [first]
     rw [if_pos h1, if_pos (by omega)]
     simp only
     rw [first_first l (a - x.len) n hl (by omega) hn]
     congr 2
     omega
   · by_cases h2 : a ≤ 0
     · have : a = 0 := by omega
       subst this
       rw [first_none _ 0 (by omega) hm, Int.zero_add]
     · have e : (first (x :: l) a).2 = cutE x a (x.len - a) :: l := by
        rw [first, if_neg h1, if_neg h2, first_none l _ (by omega) hl]
       rw [e]
       conv => lhs; rw [first]
       conv => rhs; rw [first]
       have e2 : (cutE x a (x.len - a)).len = x.len - a := rfl
       rw [e2, show n - (x.len - a) = a + n - x.len by omega]
       by_cases h3 : x.len ≤ a + n
       · rw [if_pos (by omega), if_pos h3]
       · rw [if_neg (by omega), if_neg h3, if_neg (show ¬ a + n ≤ 0 by omega)]
         by_cases h4 : n ≤ 0
         · have : n = 0 := by omega
           subst this
           rw [if_pos (by omega), Int.add_zero]
         · rw [if_neg h4]
           have e3 : cutE (cutE x a (x.len - a)) n (x.len - a - n) = cutE x (a + n) (x.len - (a + n)) := by
            simp only [cutE]
            congr 1
            · omega
            · omega
            · by_cases h : x.lines = 0 <;> simp [h]
           simp only
           rw [e3]
end Go.Tr
namespace Go.Tr
set_option linter.unusedSimpArgs false
set_option linter.unusedVariables false
def spliceL (l : List Ent) (at_ n : Int) (put : List Ent) : List Ent := join ((first l at_).1 ++ put ++ (first (first l at_).2 n).2)
theorem part_one {x : Ent} {a b : Int} (h : a < b) : ∃ m, part x a b = [m] ∧ m.src = x.src ∧ (0 ≤ a → a ≤ 0 → m.pos = x.pos) ∧ (0 ≤ a → b = x.len → m.pos + m.len = x.pos + x.len) := by
 unfold part
 rw [if_neg (by omega)]
 split
 · exact ⟨_, rfl, rfl, fun _ _ => by simp only; omega, fun _ _ => by simp only; omega⟩
 · exact ⟨x, rfl, rfl, fun _ _ => rfl, fun _ _ => rfl⟩
section
variable {σ : Type} {X : Env σ} (hX : X.Ok)
def Env.or (X : Env σ) (e : Int) : Env σ := { X with bad := fun x => X.bad x ∨ x = e }
theorem Step.more {α : Type} {s : σ} {R W : Nat} {m : M σ α} {Q : α → σ → Prop} (e : Int) (h : Step X s R W m Q) : Step (X.or e) s R W m Q := by
 unfold Step at h ⊢
 rcases h with h | h
 · exact .inl h
 right
 cases hm : m s with
 | ok a s' => rw [hm] at h; exact h
 | fault e' s' =>
   rw [hm] at h
   obtain ⟨h1, h2⟩ := h
   exact ⟨h1.imp .inl id, h2⟩
 | bad => rw [hm] at h; exact h
include hX in
theorem Env.or_ok (e : Int) : (X.or e).Ok where
 rd := fun s p n h1 h2 => (hX.rd s p n h1 h2).more e
 wt := fun s n h1 h2 => (hX.wt s n h1 h2).more e
def LeftOk (l : List Ent) (at_ : Int) (p : List Ent × Int) (A : List Ent) : Prop :=
 (∃ Y, l = A ++ Y) ∧ p.2 = eBytes A ∧ (first l at_).1 = A ++ p.1 ∧ (A = [] ∨ ∃ m, p.1 = [m] ∧ ∀ a, A.getLast? = some a → meets a m = false) ∧ (∀ y ∈ p.1, mayEnt y = true) ∧ eBytes A ≤ at_ ∧ eBytes A + eBytes p.1 = at_
def RightOk (l : List Ent) (to : Int) (q : List Ent × Int) (C B : List Ent) : Prop :=
 l = C ++ B ∧ q.2 = eBytes C ∧ (first l to).2 = q.1 ++ B ∧ (B = [] ∨ ∃ m, q.1 = [m] ∧ ∀ b B' e, B = b :: B' → e.src = m.src → e.pos + e.len = m.pos + m.len → meets e b = false) ∧ (∀ y ∈ q.1, mayEnt y = true) ∧ to ≤ eBytes C ∧ eBytes q.1 + eBytes B = eBytes l - to
include hX in
theorem leftOf_ok {root : Int} {l : List Ent} {s : σ} (hI : X.inv s) (hr : Rt (X.V s) root l) (hj : Joined l) (L : Nat) (hL : ∀ h : Nat, 2 * 4 ^ h ≤ l.length → h ≤ L) {at_ : Int} (h0 : 0 ≤ at_) (h1 : at_ ≤ eBytes l) :
 Step X s (L + 1) 0 (leftOf X.rd root at_) (fun p s' => ∃ A, LeftOk l at_ p A) := by
 unfold leftOf
 have hm := hr.fit.1
 by_cases hc : 0 < at_
 · rw [if_pos hc]
   refine (Step.bind (R2 := 0) (W2 := 0) (seek_ok hX hI hr L hL (at_ - 1) (by omega) (by omega)) ?_).mono (by omega) (by omega) fun _ _ _ _ x => x
   rintro ⟨x, a⟩ s1 hI1 hle ⟨l1, l2, rfl, rfl, c3, c4⟩
   dsimp only at c3 c4 hm hj h1 hc ⊢
   have hx := hm x (by simp)
   refine Step.ret hI1 ⟨l1, ⟨x :: l2, rfl⟩, rfl, ?_, ?_, part_may hx (by omega) (by omega), by omega, by rw [part_bytes x (by omega) (by omega) (by omega)]; omega⟩
   · have := first_left hm (n := at_ - eBytes l1) (by omega) (by omega)
     rw [show eBytes l1 + (at_ - eBytes l1) = at_ by omega] at this
     exact this
   · obtain ⟨m, e1, e2, e3, e4⟩ := part_one (x := x) (a := 0) (b := at_ - eBytes l1) (by omega)
     refine .inr ⟨m, e1, fun a ha => ?_⟩
     rw [meets_eq (a' := a) (b' := x) rfl rfl e2 (e3 (by omega) (by omega))]
     exact hj.meet ha
 · rw [if_neg hc]
   have : at_ = 0 := by omega
   subst this
   exact Step.ret hI ⟨[], ⟨l, rfl⟩, rfl, by rw [first_none l 0 (by omega) hm]; rfl, .inl rfl, fun y hy => (List.not_mem_nil hy).elim, by simp [eBytes], by simp [eBytes]⟩
include hX in
theorem rightOf_ok {root : Int} {l : List Ent} {s : σ} (hI : X.inv s) (hr : Rt (X.V s) root l) (hj : Joined l) (L : Nat) (hL : ∀ h : Nat, 2 * 4 ^ h ≤ l.length → h ≤ L) {to : Int} (h0 : 0 ≤ to) (h1 : to ≤ eBytes l) :
 Step X s (L + 1) 0 (rightOf X.rd root to (eBytes l)) (fun q s' => ∃ C B, RightOk l to q C B) := by
 unfold rightOf
 have hm := hr.fit.1
 by_cases hc : to < eBytes l
 · rw [if_pos hc]
   refine (Step.bind (R2 := 0) (W2 := 0) (seek_ok hX hI hr L hL to (by omega) (by omega)) ?_).mono (by omega) (by omega) fun _ _ _ _ x => x
   rintro ⟨x, a⟩ s1 hI1 hle ⟨l1, l2, rfl, rfl, c3, c4⟩
   dsimp only at c3 c4 hm hj h1 hc ⊢
   have hx := hm x (by simp)
   have ec : eBytes (l1 ++ [x]) = eBytes l1 + x.len := by rw [eBytes_append]; simp [eBytes]
   refine Step.ret hI1 ⟨l1 ++ [x], l2, by simp, ec.symm, ?_, ?_, part_may hx (by omega) (by omega), by rw [ec]; omega, ?_⟩
   · have := first_right hm (n := to - eBytes l1) (by omega) (by omega)
     rw [show eBytes l1 + (to - eBytes l1) = to by omega] at this
     exact this
   · obtain ⟨m, e1, e2, e3, e4⟩ := part_one (x := x) (a := to - eBytes l1) (b := x.len) (by omega)
     refine .inr ⟨m, e1, fun b B' e hb k1 k2 => ?_⟩
     subst hb
     rw [meets_eq (a' := x) (b' := b) (k1.trans e2) (k2.trans (e4 (by omega) rfl)) rfl rfl]
     have hj2 := hj.right
     exact hj2.1
   · rw [part_bytes x (by omega) (by omega) (by omega), eBytes_append, eBytes_cons]
     omega
 · rw [if_neg hc]
   have : to = eBytes l := by omega
   subst this
   exact Step.ret hI ⟨l, [], by simp, rfl, by rw [first_end hm]; rfl, .inl rfl, fun y hy => (List.not_mem_nil hy).elim, by omega, by simp [eBytes]⟩
theorem splice_parts {l put : List Ent} {at_ n : Int} {p q : List Ent × Int} {A C B : List Ent} (hm : ∀ y ∈ l, mayEnt y = true) (hj : Joined l) (h0 : 0 ≤ at_) (hn : 0 ≤ n) (hl : LeftOk l at_ p A) (hr : RightOk l (at_ + n) q C B) :
 spliceL l at_ n put = A ++ (join (p.1 ++ put ++ q.1) ++ B) ∧ (∃ D, C = A ++ D ∧ l = A ++ (D ++ B)) := by
 obtain ⟨⟨Y, l1⟩, l2, l3, l4, l5, l6, l7⟩ := hl
 obtain ⟨r1, r2, r3, r4, r5, r6, r7⟩ := hr
 constructor
 · unfold spliceL
   rw [first_first l at_ n hm h0 hn, l3, r3]
   have hA : Joined A := by rw [l1] at hj; exact hj.left
   have hB : Joined B := by rw [r1] at hj; exact hj.right
   have hAM : join (A ++ (p.1 ++ put ++ q.1)) = A ++ join (p.1 ++ put ++ q.1) := by
    rcases l4 with rfl | ⟨m, e1, e2⟩
    · rfl
    · exact join_two hA (m := m) (M' := put ++ q.1) (by rw [e1]; simp) e2
   have e : A ++ p.1 ++ put ++ (q.1 ++ B) = (A ++ (p.1 ++ put ++ q.1)) ++ B := by simp
   rw [e, join_back hB, hAM, List.append_assoc]
   intro a b B' ha hb
   rcases r4 with rfl | ⟨m, e1, e2⟩
   · cases hb
   · rw [e1, ← List.append_assoc] at ha
     obtain ⟨z, z1, z2, z3⟩ := join_last (A ++ (p.1 ++ put)) m
     rw [z1] at ha
     cases ha
     exact e2 b B' _ hb z2 z3
 · have := prefix_of (a := A) (b := Y) (c := C) (d := B) (by rw [← l1, ← r1]) (by rw [← l1]; exact hm) (by omega)
   obtain ⟨D, d1, d2⟩ := this
   exact ⟨D, d1, by rw [r1, d1, List.append_assoc]⟩
theorem splice_fit {l put : List Ent} {at_ n : Int} {p q : List Ent × Int} {A C B : List Ent} (hm : ∀ y ∈ l, mayEnt y = true) (hput : ∀ y ∈ put, mayEnt y = true) (hl : LeftOk l at_ p A) (hr : RightOk l (at_ + n) q C B)
 (hb : eBytes l - n + eBytes put ≤ 1048576) (hc : (A ++ (join (p.1 ++ put ++ q.1) ++ B)).length ≤ 1024) : Fit (A ++ (join (p.1 ++ put ++ q.1) ++ B)) ∧ eBytes (A ++ (join (p.1 ++ put ++ q.1) ++ B)) = eBytes l - n + eBytes put := by
 obtain ⟨⟨Y, l1⟩, l2, l3, l4, l5, l6, l7⟩ := hl
 obtain ⟨r1, r2, r3, r4, r5, r6, r7⟩ := hr
 have hA : ∀ y ∈ A, mayEnt y = true := fun y hy => hm y (by rw [l1]; simp [hy])
 have hB : ∀ y ∈ B, mayEnt y = true := fun y hy => hm y (by rw [r1]; simp [hy])
 have gA := eBytes_ge hA
 have gB := eBytes_ge hB
 have hM : ∀ y ∈ p.1 ++ put ++ q.1, mayEnt y = true := by
  intro y hy
  rcases List.mem_append.1 hy with hy | hy
  · rcases List.mem_append.1 hy with hy | hy
    · exact l5 y hy
    · exact hput y hy
  · exact r5 y hy
 have eM : eBytes (p.1 ++ put ++ q.1) = eBytes p.1 + eBytes put + eBytes q.1 := by rw [eBytes_append, eBytes_append]
 have hJ := join_may hM (by rw [eM]; omega)
 have eT : eBytes (A ++ (join (p.1 ++ put ++ q.1) ++ B)) = eBytes l - n + eBytes put := by
  rw [eBytes_append, eBytes_append, eBytes_join, eM]
  omega
 refine ⟨⟨?_, by rw [eT]; exact hb, hc⟩, eT⟩
 intro y hy
 rcases List.mem_append.1 hy with hy | hy
 · exact hA y hy
 · rcases List.mem_append.1 hy with hy | hy
   · exact hJ y hy
   · exact hB y hy
theorem Tl.scraps {v : Int → Option Nd} {x : Tall} {l : List Ent} (h : Tl v x l) : x.kid.scraps = l.length := by
 rcases h with ⟨rfl, rfl⟩ | ⟨h, h1, h2⟩
 · rfl
 · exact h2.fine.scraps
include hX in
theorem splice_ok {root : Int} {l put : List Ent} {s : σ} (hI : X.inv s) (hr : Rt (X.V s) root l) (hj : Joined l) (L : Nat) (hL4 : L ≤ 4) (hL : ∀ h : Nat, 2 * 4 ^ h ≤ l.length → h ≤ L) {at_ n : Int} (h0 : 0 ≤ at_) (hn : 0 ≤ n) (h1 : at_ + n ≤ eBytes l)
 (hput : ∀ y ∈ put, mayEnt y = true) (hb : eBytes l - n + eBytes put ≤ 1048576) :
 ((spliceL l at_ n put).length ≤ 1024 → Step X s (2 * (L * L) + 17 * L + 19) 2600 (tSplice X.rd X.wt root at_ n (eBytes l) put) (fun r s' => Rt (X.V s') r (spliceL l at_ n put))) ∧
 (1024 < (spliceL l at_ n put).length → Step (X.or 11) s (2 * (L * L) + 17 * L + 19) 0 (tSplice X.rd X.wt root at_ n (eBytes l) put) (fun r s' => False)) := by
 have hm := hr.fit.1
 constructor
 · intro hlen
   unfold tSplice
   refine (Step.bind (R2 := L + 1 + (L + 1 + (L + 1 + (L + 1 + (1 + L * (L + 6) + (1 + L * (L + 6) + (0 + (6 + (6 + 0))))))))) (W2 := 0 + (0 + (0 + (0 + (48 * (L + 1) + (48 * (L + 1) + (2048 + (12 + (12 + 0)))))))))
    (leftOf_ok hX hI hr hj L hL h0 (by omega)) ?_).mono (by rw [Nat.mul_add]; omega) (by omega) fun _ _ _ _ x => x
   rintro p s1 hI1 hle1 ⟨A, hA⟩
   refine Step.bind (rightOf_ok hX hI1 (hr.le hle1) hj L hL (to := at_ + n) (by omega) h1) ?_
   rintro q s2 hI2 hle2 ⟨C, B, hC⟩
   obtain ⟨hp1, D, hp2, hp3⟩ := splice_parts (put := put) hm hj h0 hn hA hC
   have hr2 := (hr.le hle1).le hle2
   refine Step.bind (rooted_ok hX hI2 hr2 L hL) ?_
   rintro whole s3 hI3 hle3 ⟨t1, t2⟩
   have eC : l = C ++ B := hC.1
   have e2 : q.2 = eBytes C := hC.2.1
   have eA : p.2 = eBytes A := hA.2.1
   rw [e2, eA]
   have hw1 : Tl (X.V s3) whole (C ++ B) := by rw [← eC]; exact t1
   refine Step.bind ((rank_ok hX 30 (h := L) (by omega) hI3 hw1 t2)) ?_
   rintro r1 s4 hI4 hle4 rfl
   have hw2 : Tl (X.V s4) whole (A ++ (D ++ B)) := by rw [← hp3]; exact t1.le hle4
   refine Step.bind ((rank_ok hX 30 (h := L) (by omega) hI4 hw2 t2)) ?_
   rintro r0 s5 hI5 hle5 rfl
   have hcount : whole.kid.scraps - (C.length : Int) + (A.length : Int) + ((join (p.1 ++ put ++ q.1)).length : Int) = ((spliceL l at_ n put).length : Int) := by
    rw [t1.scraps, hp1, eC, hp2]
    simp only [List.length_append]
    omega
   rw [hcount, if_neg (by omega)]
   have hlen' := hlen
   rw [hp1] at hlen'
   obtain ⟨hfit, hbytes⟩ := splice_fit hm hput hA hC hb hlen'
   have hw3 := hw2.le hle5
   refine Step.bind (parted_ok hX 30 (h := L) (by omega) hI5 hw3 t2) ?_
   rintro ⟨x1, x2⟩ s6 hI6 hle6 ⟨g1, g2, g3, g4⟩
   simp only at g1 g2 g3 g4
   have eD : eBytes C - eBytes A = eBytes D := by rw [hp2, eBytes_append]; omega
   simp only
   rw [eD]
   refine Step.bind (parted_ok hX 30 (h := L) (by omega) hI6 g2 g4) ?_
   rintro ⟨y1, y2⟩ s7 hI7 hle7 ⟨k1, k2, k3, k4⟩
   simp only at k1 k2 k3 k4
   simp only
   have hJl : (join (p.1 ++ put ++ q.1)).length ≤ 1024 := by simp only [List.length_append] at hlen'; omega
   refine Step.bind ((leaves_ok hX hI7 hfit.mid).mono (by omega) (show 2 * (join (p.1 ++ put ++ q.1)).length ≤ 2048 by omega) fun _ _ _ _ x => x) ?_
   rintro m s8 hI8 hle8 ⟨m1, -⟩
   have f1 : Fit (A ++ join (p.1 ++ put ++ q.1)) := by rw [← List.append_assoc] at hfit; exact hfit.left
   refine Step.bind ((put_ok hX hI8 ((g1.le hle7).le hle8) m1 f1).mono (by have := g1.low; have := m1.low; omega) (Nat.le_refl 12) fun _ _ _ _ x => x) ?_
   rintro x s9 hI9 hle9 ⟨x1, -, -⟩
   refine Step.bind ((put_ok hX hI9 x1 ((k2.le hle8).le hle9) (by rw [List.append_assoc]; exact hfit)).mono (by have := x1.low; have := k2.low; omega) (Nat.le_refl 12) fun _ _ _ _ x => x) ?_
   rintro y s10 hI10 hle10 ⟨y1, -, -⟩
   refine Step.pure hI10 ?_
   rw [hp1, ← List.append_assoc]
   exact y1.root
 · intro hlen
   have hX' := Env.or_ok hX 11
   unfold tSplice
   refine (Step.bind (X := X.or 11) (R2 := L + 1 + (L + 1 + (L + 1 + (L + 1 + 0)))) (W2 := 0)
    (leftOf_ok hX' hI hr hj L hL h0 (by omega)) ?_).mono (by omega) (by omega) fun _ _ _ _ x => x
   rintro p s1 hI1 hle1 ⟨A, hA⟩
   refine Step.bind (W1 := 0) (W2 := 0) (rightOf_ok hX' hI1 (hr.le hle1) hj L hL (to := at_ + n) (by omega) h1) ?_
   rintro q s2 hI2 hle2 ⟨C, B, hC⟩
   obtain ⟨hp1, D, hp2, hp3⟩ := splice_parts (put := put) hm hj h0 hn hA hC
   have hr2 := (hr.le hle1).le hle2
   refine Step.bind (W1 := 0) (W2 := 0) (rooted_ok hX' hI2 hr2 L hL) ?_
   rintro whole s3 hI3 hle3 ⟨t1, t2⟩
   have eC : l = C ++ B := hC.1
   have e2 : q.2 = eBytes C := hC.2.1
   have eA : p.2 = eBytes A := hA.2.1
   rw [e2, eA]
   have hw1 : Tl (X.V s3) whole (C ++ B) := by rw [← eC]; exact t1
   refine Step.bind (W1 := 0) (W2 := 0) ((rank_ok hX' 30 (h := L) (by omega) hI3 hw1 t2)) ?_
   rintro r1 s4 hI4 hle4 rfl
   have hw2 : Tl (X.V s4) whole (A ++ (D ++ B)) := by rw [← hp3]; exact t1.le hle4
   refine Step.bind (W1 := 0) (W2 := 0) (R2 := 0) ((rank_ok hX' 30 (h := L) (by omega) hI4 hw2 t2)) ?_
   rintro r0 s5 hI5 hle5 rfl
   have hcount : whole.kid.scraps - (C.length : Int) + (A.length : Int) + ((join (p.1 ++ put ++ q.1)).length : Int) = ((spliceL l at_ n put).length : Int) := by
    rw [t1.scraps, hp1, eC, hp2]
    simp only [List.length_append]
    omega
   rw [hcount, if_pos (by omega)]
   exact .inr ⟨.inl (.inr rfl), hI5, Le.rfl' _, by omega, by omega⟩
include hX in
theorem build_ok {l : List Ent} {s : σ} (hI : X.inv s) (hf : Fit l) : Step X s 0 2048 (tBuild X.wt l) (fun r s' => Rt (X.V s') r l) := by
 unfold tBuild
 refine (Step.bind (R2 := 0) (W2 := 0) (leaves_ok hX hI hf) ?_).mono (by omega) (by have := hf.2.2; omega) fun _ _ _ _ x => x
 rintro x s1 hI1 hle ⟨x1, -⟩
 exact Step.pure hI1 x1.root
end
end Go.Tr
namespace Go.Tr
set_option linter.unusedSimpArgs false
set_option linter.unusedVariables false
section
variable {σ : Type}
def kidsTo (g : Int → List Ent → M σ (List Ent)) : List Kd → List Ent → M σ (List Ent)
 | [], out => M.pure out
 | k :: ks, out => M.bind (g k.page out) (kidsTo g ks)
def listTo (rd : Int → M σ Nd) : Nat → Int → List Ent → M σ (List Ent)
 | 0, _, _ => M.fail 13
 | f + 1, no, out => M.bind (rd no) fun n => if 1024 < (out ++ n.ents).length then M.fail 13 else kidsTo (listTo rd f) n.kids (out ++ n.ents)
def tList (rd : Int → M σ Nd) (root : Int) : M σ (List Ent) := if root = 0 then M.pure [] else listTo rd 21 root []
variable {X : Env σ} (hX : X.Ok)
end
end Go.Tr
