/-
  Lemmas for TreeReads. No condition (part 27)
-/
import Derived.Test.YteecnkneceemjaaGreatRa21
set_option linter.unusedSimpArgs false
set_option linter.unusedVariables false
namespace Go.Tr
set_option linter.unusedSimpArgs false
set_option linter.unusedVariables false
inductive Res (σ α : Type) where
 | ok (a : α) (s : σ)
 | fault (e : Int) (s : σ)
 | bad
abbrev M (σ α : Type) := σ → Res σ α
section
variable {σ α β : Type}
def Res.bind (r : Res σ α) (f : α → M σ β) : Res σ β := match r with
 | .ok a s => f a s
 | .fault e s => .fault e s
 | .bad => .bad
def M.pure (a : α) : M σ α := fun s => .ok a s
def M.fail (e : Int) : M σ α := fun s => .fault e s
def M.bad : M σ α := fun _ => .bad
def M.bind (x : M σ α) (f : α → M σ β) : M σ β := fun s => (x s).bind f
end
def many (n : Nd) : Nat := n.ents.length + n.kids.length
def both (a b : Nd) : Nd := ⟨a.leaf, a.ents ++ b.ents, a.kids ++ b.kids⟩
def sub {α : Type} (l : List α) (i j : Nat) : List α := (l.drop i).take (j - i)
def cutN (n : Nd) (i j : Nat) : Nd := if n.leaf then ⟨true, sub n.ents i j, []⟩ else ⟨false, [], sub n.kids i j⟩
def kd0 : Kd := ⟨0, 0, 0, 0⟩
structure Tall where
 kid : Kd
 height : Int
def noTall : Tall := ⟨kd0, -1⟩
section
variable {σ : Type} (rd : Int → M σ Nd) (wt : Nd → M σ Kd)
def spreadFrom (n : Nd) (pages : Nat) : Nat → Nat → Nat → List Kd → M σ (List Kd)
 | 0, _, _, out => M.pure out
 | c + 1, i, at_, out => M.bind (wt (cutN n at_ (at_ + (many n / pages + (if i < many n % pages then 1 else 0))))) fun k =>
   spreadFrom n pages c (i + 1) (at_ + (many n / pages + (if i < many n % pages then 1 else 0))) (out ++ [k])
def pagesOf (n : Nd) : Nat := (many n + 11) / 12
def tSpread (n : Nd) : M σ (List Kd) := spreadFrom wt n (pagesOf n) (pagesOf n) 0 0 []
def tGrown : Nat → List Kd → Int → M σ Tall
 | _, [], _ => M.pure noTall
 | _, [k], h => M.pure ⟨k, h⟩
 | 0, _, _ => M.bad
 | f + 1, ks, h => M.bind (tSpread wt ⟨false, [], ks⟩) fun ks' => tGrown f ks' (h + 1)
def grown (ks : List Kd) (h : Int) : M σ Tall := tGrown wt ks.length ks h
def tLeaves (l : List Ent) : M σ Tall := M.bind (tSpread wt ⟨true, l, []⟩) fun ks => grown wt ks 0
def tMeet : Nat → Tall → Tall → M σ (List Kd × Int)
 | 0, _, _ => M.bad
 | f + 1, a, b =>
   if b.height < a.height then M.bind (rd a.kid.page) fun x =>
    match x.kids.getLast? with
    | none => M.bad
    | some z =>
      if x.leaf then M.bad else M.bind (tMeet f ⟨z, a.height - 1⟩ b) fun r =>
       M.bind (tSpread wt (both (cutN x 0 (x.kids.length - 1)) ⟨false, [], r.1⟩)) fun out => M.pure (out, a.height)
   else if a.height < b.height then M.bind (rd b.kid.page) fun y =>
    match y.kids with
    | [] => M.bad
    | z :: _ =>
      if y.leaf then M.bad else M.bind (tMeet f a ⟨z, b.height - 1⟩) fun r =>
       M.bind (tSpread wt (both ⟨false, [], r.1⟩ (cutN y 1 y.kids.length))) fun out => M.pure (out, b.height)
   else M.bind (rd a.kid.page) fun x => M.bind (rd b.kid.page) fun y => if x.leaf = y.leaf then M.bind (tSpread wt (both x y)) fun out => M.pure (out, a.height) else M.bad
def deepOf (a b : Tall) : Nat := (max a.height b.height).toNat + 1
def tPut (a b : Tall) : M σ Tall :=
 if a.height < 0 then M.pure b else
 if b.height < 0 then M.pure a else M.bind (tMeet rd wt (deepOf a b) a b) fun r => grown wt r.1 r.2
def tOver (ks : List Kd) (h : Int) : M σ Tall := grown wt ks (h - 1)
def passE : List Ent → Int → Nat → Option Nat
 | l, n, k => match l with
   | [] => if 0 < n then none else some k
   | x :: l => if 0 < n then passE l (n - x.len) (k + 1) else some k
def passK : List Kd → Int → Nat → Option (Nat × Int)
 | [], _, _ => none
 | x :: l, n, k => if x.bytes ≤ n then passK l (n - x.bytes) (k + 1) else some (k, n)
def tParted : Nat → Tall → Int → M σ (Tall × Tall)
 | f, x, n =>
   if n ≤ 0 then M.pure (noTall, x) else
   if x.kid.bytes ≤ n then M.pure (x, noTall) else
   match f with
   | 0 => M.bad
   | f + 1 => M.bind (rd x.kid.page) fun y =>
     if y.leaf then
      match passE y.ents n 0 with
      | none => M.bad
      | some k => M.bind (tLeaves wt (y.ents.take k)) fun a => M.bind (tLeaves wt (y.ents.drop k)) fun b => M.pure (a, b)
     else
      match passK y.kids n 0 with
      | none => M.bad
      | some (k, r) =>
        if r = 0 then M.bind (tOver wt (y.kids.take k) x.height) fun a => M.bind (tOver wt (y.kids.drop k) x.height) fun b => M.pure (a, b)
        else
         match y.kids[k]? with
         | none => M.bad
         | some z => M.bind (tParted f ⟨z, x.height - 1⟩ r) fun p =>
           M.bind (tOver wt (y.kids.take k) x.height) fun a => M.bind (tPut rd wt a p.1) fun a =>
           M.bind (tOver wt (y.kids.drop (k + 1)) x.height) fun b => M.bind (tPut rd wt p.2 b) fun b => M.pure (a, b)
def rootedTo : Nat → Nd → Int → M σ Int
 | f, n, h =>
   if n.leaf then M.pure h else
   match f with
   | 0 => M.fail 13
   | f + 1 => match n.kids with
     | [] => M.bad
     | k :: _ => M.bind (rd k.page) fun m => rootedTo f m (h + 1)
def kdOf (no : Int) (n : Nd) : Kd := ⟨no, (ndSum n).1, (ndSum n).2.1, (ndSum n).2.2⟩
def tRooted (root : Int) : M σ Tall :=
 if root = 0 then M.pure noTall else M.bind (rd root) fun n => M.bind (rootedTo rd 20 n 0) fun h => M.pure ⟨kdOf root n, h⟩
inductive Hit where
 | here (x : Ent) (ahead : Int)
 | below (page : Int) (ahead : Int)
 | past
def hitE : List Ent → Int → Int → Hit ⊕ Int
 | [], _, ahead => .inr ahead
 | x :: l, n, ahead => if n < ahead + x.len then .inl (.here x ahead) else hitE l n (ahead + x.len)
def hitK : List Kd → Int → Int → Hit
 | [], _, _ => .past
 | k :: l, n, ahead => if n < ahead + k.bytes then .below k.page ahead else hitK l n (ahead + k.bytes)
def hitN (n : Nd) (at_ ahead : Int) : Hit := match hitE n.ents at_ ahead with
 | .inl h => h
 | .inr a => hitK n.kids at_ a
def seekTo : Nat → Nd → Int → Int → M σ (Ent × Int)
 | 0, _, _, _ => M.fail 13
 | f + 1, n, at_, ahead => match hitN n at_ ahead with
   | .here x a => M.pure (x, a)
   | .past => M.fail 13
   | .below p a => M.bind (rd p) fun m => seekTo f m at_ a
def tSeek (root at_ : Int) : M σ (Ent × Int) := M.bind (rd root) fun n => seekTo rd 22 n at_ 0
def rankE : List Ent → Int → Int → Int × Int
 | [], n, r => (n, r)
 | y :: l, n, r => rankE l (n - y.len) (if 0 < n then r + 1 else r)
def rankK : List Kd → Int → Int → (Kd × Int × Int) ⊕ Int
 | [], _, r => .inr r
 | k :: l, n, r => if n < k.bytes then .inl (k, n, r) else rankK l (n - k.bytes) (r + k.scraps)
def tRank : Nat → Tall → Int → M σ Int
 | f, x, n =>
   if n ≤ 0 ∨ x.height < 0 then M.pure 0 else
   if x.kid.bytes ≤ n then M.pure x.kid.scraps else
   match f with
   | 0 => M.bad
   | f + 1 => M.bind (rd x.kid.page) fun y => match rankK y.kids (rankE y.ents n 0).1 (rankE y.ents n 0).2 with
     | .inr r => M.pure r
     | .inl (k, m, r) => M.bind (tRank f ⟨k, x.height - 1⟩ m) fun z => M.pure (r + z)
def tSize (root : Int) : M σ Int := if root = 0 then M.pure 0 else M.bind (rd root) fun n => M.pure (ndSum n).1
def tBuild (l : List Ent) : M σ Int := M.bind (tLeaves wt l) fun t => M.pure t.kid.page
def leftOf (root at_ : Int) : M σ (List Ent × Int) :=
 if 0 < at_ then M.bind (tSeek rd root (at_ - 1)) fun p => M.pure (part p.1 0 (at_ - p.2), p.2) else M.pure ([], at_)
def rightOf (root to all : Int) : M σ (List Ent × Int) :=
 if to < all then M.bind (tSeek rd root to) fun p => M.pure (part p.1 (to - p.2) p.1.len, p.2 + p.1.len) else M.pure ([], to)
def tSplice (root at_ n all : Int) (put : List Ent) : M σ Int :=
 M.bind (leftOf rd root at_) fun L => M.bind (rightOf rd root (at_ + n) all) fun R =>
 M.bind (tRooted rd root) fun whole => M.bind (tRank rd 30 whole R.2) fun r1 => M.bind (tRank rd 30 whole L.2) fun r0 =>
 if 1024 < whole.kid.scraps - r1 + r0 + (join (L.1 ++ put ++ R.1)).length then M.fail 11 else
 M.bind (tParted rd wt 30 whole L.2) fun p => M.bind (tParted rd wt 30 p.2 (R.2 - L.2)) fun q =>
 M.bind (tLeaves wt (join (L.1 ++ put ++ R.1))) fun m => M.bind (tPut rd wt p.1 m) fun x => M.bind (tPut rd wt x q.2) fun y => M.pure y.kid.page
end
end Go.Tr
namespace Go.Tr
set_option linter.unusedSimpArgs false
set_option linter.unusedVariables false
/-! two lists, part by part -/
def F2 {α β : Type} (R : α → β → Prop) : List α → List β → Prop
 | [], [] => True
 | a :: l, b :: m => R a b ∧ F2 R l m
 | _, _ => False
section
variable {α β : Type} {R R' : α → β → Prop}
theorem F2.len : ∀ {l : List α} {m : List β}, F2 R l m → l.length = m.length
 | [], [], _ => rfl
 | a :: l, b :: m, h => by simp [F2.len h.2]
 | [], _ :: _, h => h.elim
 | _ :: _, [], h => h.elim
theorem F2.mono (f : ∀ a b, R a b → R' a b) : ∀ {l : List α} {m : List β}, F2 R l m → F2 R' l m
 | [], [], _ => trivial
 | a :: l, b :: m, h => ⟨f _ _ h.1, F2.mono f h.2⟩
 | [], _ :: _, h => h.elim
 | _ :: _, [], h => h.elim
theorem F2.append : ∀ {l l' : List α} {m m' : List β}, F2 R l m → F2 R l' m' → F2 R (l ++ l') (m ++ m')
 | [], _, [], _, _, h => h
 | a :: l, _, b :: m, _, h, h' => ⟨h.1, F2.append h.2 h'⟩
 | [], _, _ :: _, _, h, _ => h.elim
 | _ :: _, _, [], _, h, _ => h.elim
theorem F2.split : ∀ {l l' : List α} {m : List β}, F2 R (l ++ l') m → F2 R l (m.take l.length) ∧ F2 R l' (m.drop l.length)
 | [], _, _, h => ⟨trivial, h⟩
 | a :: l, l', b :: m, h => ⟨⟨h.1, (F2.split h.2).1⟩, (F2.split h.2).2⟩
 | _ :: _, _, [], h => h.elim
theorem F2.take {l : List α} {m : List β} (h : F2 R l m) (i : Nat) : F2 R (l.take i) (m.take i) := by
 induction i generalizing l m with
 | zero => exact trivial
 | succ i ih =>
   cases l <;> cases m <;> first | exact trivial | exact h.elim | exact ⟨h.1, ih h.2⟩
theorem F2.drop {l : List α} {m : List β} (h : F2 R l m) (i : Nat) : F2 R (l.drop i) (m.drop i) := by
 induction i generalizing l m with
 | zero => exact h
 | succ i ih =>
   cases l <;> cases m <;> first | exact trivial | exact h.elim | exact ih h.2
theorem F2.at {l : List α} {m : List β} (h : F2 R l m) {i : Nat} {a : α} (ha : l[i]? = some a) : ∃ b, m[i]? = some b ∧ R a b := by
 induction i generalizing l m with
 | zero =>
   cases l <;> cases m <;> first | (cases ha; done) | exact h.elim | skip
   · cases ha
     exact ⟨_, rfl, h.1⟩
 | succ i ih =>
   cases l <;> cases m <;> first | (cases ha; done) | exact h.elim | skip
   · exact ih h.2 (by simpa using ha)
end
/-! what reads and writes nodes -/
structure Env (σ : Type) where
 rd : Int → M σ Nd
 wt : Nd → M σ Kd
 V : σ → Int → Option Nd
 inv : σ → Prop
 reads : σ → Nat
 room : σ → Nat
 left : σ → Nat
 bad : Int → Prop
def Le (v v' : Int → Option Nd) : Prop := ∀ p n, v p = some n → v' p = some n
theorem Le.rfl' (v : Int → Option Nd) : Le v v := fun _ _ h => h
theorem Le.trans {a b c : Int → Option Nd} (h : Le a b) (k : Le b c) : Le a c := fun p n e => k p n (h p n e)
section
variable {σ α β : Type} (X : Env σ)
def Step (s : σ) (R W : Nat) (m : M σ α) (Q : α → σ → Prop) : Prop := match m s with
 | .ok a s' => X.inv s' ∧ Le (X.V s) (X.V s') ∧ X.reads s' ≤ X.reads s + R ∧ X.room s ≤ X.room s' + W ∧ X.left s ≤ X.left s' + (R + W) ∧ Q a s'
 | .fault e s' => (X.bad e ∨ X.room s < W) ∧ X.inv s' ∧ Le (X.V s) (X.V s') ∧ X.reads s' ≤ X.reads s + R ∧ X.left s ≤ X.left s' + (R + W)
 | .bad => X.left s < R + W
variable {X}
theorem Step.bind {s : σ} {R1 R2 W1 W2 : Nat} {m : M σ α} {f : α → M σ β} {Q1 : α → σ → Prop} {Q : β → σ → Prop} (h : Step X s R1 W1 m Q1)
 (hf : ∀ a s', X.inv s' → Le (X.V s) (X.V s') → Q1 a s' → Step X s' R2 W2 (f a) Q) : Step X s (R1 + R2) (W1 + W2) (M.bind m f) Q := by
 unfold Step at h ⊢
 unfold M.bind Res.bind
 cases hm : m s with
 | ok a s' =>
   rw [hm] at h
   obtain ⟨h1, h2, h3, h4, h7, h5⟩ := h
   have h6 := hf a s' h1 h2 h5
   unfold Step at h6
   simp only
   cases hf : f a s' with
   | ok b s2 =>
     rw [hf] at h6
     obtain ⟨k1, k2, k3, k4, k6, k5⟩ := h6
     exact ⟨k1, h2.trans k2, by omega, by omega, by omega, k5⟩
   | fault e s2 =>
     rw [hf] at h6
     obtain ⟨k1, k2, k3, k4, k5⟩ := h6
     refine ⟨?_, k2, h2.trans k3, by omega, by omega⟩
     rcases k1 with k | k
     · exact .inl k
     · exact .inr (by omega)
   | bad =>
     rw [hf] at h6
     simp only at h6 ⊢
     omega
 | fault e s' =>
   rw [hm] at h
   obtain ⟨h1, h2, h3, h4, h5⟩ := h
   refine ⟨?_, h2, h3, by omega, by omega⟩
   rcases h1 with k | k
   · exact .inl k
   · exact .inr (by omega)
 | bad =>
   rw [hm] at h
   simp only at h ⊢
   omega
theorem Step.mono {s : σ} {R R' W W' : Nat} {m : M σ α} {Q Q' : α → σ → Prop} (h : Step X s R W m Q) (hR : R ≤ R') (hW : W ≤ W')
 (hQ : ∀ a s', X.inv s' → Le (X.V s) (X.V s') → Q a s' → Q' a s') : Step X s R' W' m Q' := by
 unfold Step at h ⊢
 cases hm : m s with
 | ok a s' =>
   rw [hm] at h
   obtain ⟨h1, h2, h3, h4, h7, h5⟩ := h
   exact ⟨h1, h2, by omega, by omega, by omega, hQ a s' h1 h2 h5⟩
 | fault e s' =>
   rw [hm] at h
   obtain ⟨h1, h2, h3, h4, h5⟩ := h
   refine ⟨?_, h2, h3, by omega, by omega⟩
   rcases h1 with k | k
   · exact .inl k
   · exact .inr (by omega)
 | bad =>
   rw [hm] at h
   simp only at h ⊢
   omega
theorem Step.pure {s : σ} {a : α} {Q : α → σ → Prop} (hI : X.inv s) (h : Q a s) : Step X s 0 0 (M.pure a) Q := ⟨hI, Le.rfl' _, by omega, by omega, by omega, h⟩
theorem Step.ret {s : σ} {R W : Nat} {a : α} {Q : α → σ → Prop} (hI : X.inv s) (h : Q a s) : Step X s R W (M.pure a) Q := (Step.pure hI h).mono (by omega) (by omega) fun _ _ _ _ h => h
structure Env.Ok (X : Env σ) : Prop where
 rd : ∀ s p n, X.inv s → X.V s p = some n → Step X s 1 0 (X.rd p) (fun m s' => m = n)
 wt : ∀ s n, X.inv s → may n = true → Step X s 0 1 (X.wt n) (fun k s' => k = kdOf k.page n ∧ 1 ≤ k.page ∧ k.page < 1048576 ∧ X.V s' k.page = some n)
end
/-! trees -/
def Sub (v : Int → Option Nd) : Nat → Nat → Nat → Kd → List Ent → Prop
 | 0 => fun lo hi k l => v k.page = some ⟨true, l, []⟩ ∧ may ⟨true, l, []⟩ = true ∧ lo ≤ l.length ∧ l.length ≤ hi ∧ k = kdOf k.page ⟨true, l, []⟩ ∧ 1 ≤ k.page ∧ k.page < 1048576
 | h + 1 => fun lo hi k l => ∃ (ks : List Kd) (ls : List (List Ent)), v k.page = some ⟨false, [], ks⟩ ∧ may ⟨false, [], ks⟩ = true ∧ lo ≤ ks.length ∧ ks.length ≤ hi ∧ k = kdOf k.page ⟨false, [], ks⟩ ∧ 1 ≤ k.page ∧ k.page < 1048576 ∧
    F2 (Sub v h 4 12) ks ls ∧ l = ls.flatten
def Its (v : Int → Option Nd) : Nat → Nd → List (List Ent) → Prop
 | 0 => fun n ls => n = ⟨true, n.ents, []⟩ ∧ ls = n.ents.map fun e => [e]
 | h + 1 => fun n ls => n = ⟨false, [], n.kids⟩ ∧ F2 (Sub v h 4 12) n.kids ls
def Fit (l : List Ent) : Prop := (∀ x ∈ l, mayEnt x = true) ∧ eBytes l ≤ 1048576 ∧ l.length ≤ 1024
theorem flat_one (l : List Ent) : (l.map fun e => [e]).flatten = l := by
 induction l with
 | nil => rfl
 | cons a l ih => simp only [List.map_cons, List.flatten_cons, ih, List.singleton_append]
theorem its_len {v : Int → Option Nd} {h : Nat} {n : Nd} {ls : List (List Ent)} (hn : Its v h n ls) : many n = ls.length := by
 cases h with
 | zero =>
   obtain ⟨h1, rfl⟩ := hn
   rw [h1]
   simp [many]
 | succ h =>
   obtain ⟨h1, h2⟩ := hn
   rw [h1]
   simp [many, h2.len]
theorem sub_its {v : Int → Option Nd} {h lo hi : Nat} {k : Kd} {l : List Ent} : Sub v h lo hi k l ↔ ∃ n ls, v k.page = some n ∧ Its v h n ls ∧ may n = true ∧ lo ≤ many n ∧ many n ≤ hi ∧ k = kdOf k.page n ∧ 1 ≤ k.page ∧ k.page < 1048576 ∧ l = ls.flatten := by
 cases h with
 | zero =>
   constructor
   · rintro ⟨h1, h2, h3, h4, h5, h6, h7⟩
     exact ⟨_, l.map fun e => [e], h1, ⟨rfl, rfl⟩, h2, by simpa [many] using h3, by simpa [many] using h4, h5, h6, h7, (flat_one l).symm⟩
   · rintro ⟨n, ls, h1, ⟨h2, rfl⟩, h3, h4, h5, h6, h7, h8, rfl⟩
     rw [flat_one]
     obtain ⟨lf, es, ks⟩ := n
     simp only at h2
     cases h2
     exact ⟨h1, h3, by simpa [many] using h4, by simpa [many] using h5, h6, h7, h8⟩
 | succ h =>
   constructor
   · rintro ⟨ks, ls, h1, h2, h3, h4, h5, h6, h7, h8, rfl⟩
     exact ⟨_, ls, h1, ⟨rfl, h8⟩, h2, by simpa [many] using h3, by simpa [many] using h4, h5, h6, h7, rfl⟩
   · rintro ⟨n, ls, h1, ⟨h2, h9⟩, h3, h4, h5, h6, h7, h8, rfl⟩
     obtain ⟨lf, es, ks⟩ := n
     simp only at h2
     cases h2
     exact ⟨ks, ls, h1, h3, by simpa [many] using h4, by simpa [many] using h5, h6, h7, h8, h9, rfl⟩
theorem Sub.le {v v' : Int → Option Nd} (hv : Le v v') : ∀ {h lo hi : Nat} {k : Kd} {l : List Ent}, Sub v h lo hi k l → Sub v' h lo hi k l
 | 0, lo, hi, k, l, ⟨h1, h2⟩ => ⟨hv _ _ h1, h2⟩
 | h + 1, lo, hi, k, l, ⟨ks, ls, h1, h2, h3, h4, h5, h6, h7, h8, h9⟩ => ⟨ks, ls, hv _ _ h1, h2, h3, h4, h5, h6, h7, h8.mono fun a b x => Sub.le hv x, h9⟩
theorem Sub.wide {v : Int → Option Nd} {h lo hi lo' hi' : Nat} {k : Kd} {l : List Ent} (hs : Sub v h lo hi k l) (h1 : lo' ≤ lo) (h2 : hi ≤ hi') : Sub v h lo' hi' k l := by
 rw [sub_its] at hs ⊢
 obtain ⟨n, ls, a1, a2, a3, a4, a5, a6⟩ := hs
 exact ⟨n, ls, a1, a2, a3, by omega, by omega, a6⟩
theorem Its.le {v v' : Int → Option Nd} (hv : Le v v') {h : Nat} {n : Nd} {ls : List (List Ent)} (hn : Its v h n ls) : Its v' h n ls := by
 cases h with
 | zero => exact hn
 | succ h => exact ⟨hn.1, hn.2.mono fun a b x => x.le hv⟩
theorem mayE_len {x : Ent} (h : mayEnt x = true) : 1 ≤ x.len ∧ -1 ≤ x.lines ∧ x.lines ≤ x.len := by
 unfold mayEnt at h
 simp only [decide_eq_true_eq] at h
 omega
theorem eBytes_cons (x : Ent) (l : List Ent) : eBytes (x :: l) = x.len + eBytes l := by simp [eBytes]
theorem eBytes_ge {l : List Ent} (h : ∀ x ∈ l, mayEnt x = true) : (l.length : Int) ≤ eBytes l := by
 induction l with
 | nil => simp [eBytes]
 | cons a l ih =>
   rw [eBytes_cons]
   have h1 := ih fun x hx => h x (List.mem_cons_of_mem _ hx)
   have h2 := mayE_len (h a List.mem_cons_self)
   simp only [List.length_cons]
   omega
theorem Fit.nil : Fit [] := ⟨fun x h => (List.not_mem_nil h).elim, by simp [eBytes], by simp⟩
theorem Fit.left {a b : List Ent} (h : Fit (a ++ b)) : Fit a := by
 obtain ⟨h1, h2, h3⟩ := h
 have hb := eBytes_ge (l := b) fun x hx => h1 x (List.mem_append_right _ hx)
 rw [eBytes_append] at h2
 rw [List.length_append] at h3
 exact ⟨fun x hx => h1 x (List.mem_append_left _ hx), by omega, by omega⟩
theorem Fit.right {a b : List Ent} (h : Fit (a ++ b)) : Fit b := by
 obtain ⟨h1, h2, h3⟩ := h
 have hb := eBytes_ge (l := a) fun x hx => h1 x (List.mem_append_left _ hx)
 rw [eBytes_append] at h2
 rw [List.length_append] at h3
 exact ⟨fun x hx => h1 x (List.mem_append_right _ hx), by omega, by omega⟩
theorem Fit.mid {a b c : List Ent} (h : Fit (a ++ (b ++ c))) : Fit b := h.right.left
theorem addL_bound {a b x y : Int} (h1 : -1 ≤ a) (h2 : a ≤ x) (h3 : -1 ≤ b) (h4 : b ≤ y) (h5 : 0 ≤ x) (h6 : 0 ≤ y) : -1 ≤ addL a b ∧ addL a b ≤ x + y := by
 unfold addL
 split <;> omega
theorem lines_bound {α : Type} (ln by_ : α → Int) : ∀ (l : List α) (a x : Int), (∀ e ∈ l, -1 ≤ ln e ∧ ln e ≤ by_ e ∧ 0 ≤ by_ e) → -1 ≤ a → a ≤ x → 0 ≤ x →
 -1 ≤ (l.map ln).foldl addL a ∧ (l.map ln).foldl addL a ≤ x + (l.map by_).sum
 | [], a, x, _, h1, h2, _ => by simp; omega
 | e :: l, a, x, h, h1, h2, h3 => by
   obtain ⟨e1, e2, e3⟩ := h e List.mem_cons_self
   obtain ⟨b1, b2⟩ := addL_bound h1 h2 e1 e2 h3 e3
   obtain ⟨c1, c2⟩ := lines_bound ln by_ l (addL a (ln e)) (x + by_ e) (fun z hz => h z (List.mem_cons_of_mem _ hz)) b1 b2 (by omega)
   simp only [List.map_cons, List.foldl_cons, List.sum_cons]
   omega
theorem mayK_facts {k : Kd} (h : mayKid k = true) : 1 ≤ k.page ∧ k.page < 1048576 ∧ 1 ≤ k.bytes ∧ k.bytes ≤ 1048576 ∧ -1 ≤ k.lines ∧ k.lines ≤ k.bytes ∧ 1 ≤ k.scraps ∧ k.scraps ≤ k.bytes := by
 unfold mayKid at h
 simp only [decide_eq_true_eq] at h
 omega
structure Fine (k : Kd) (l : List Ent) : Prop where
 may : mayKid k = true
 bytes : k.bytes = eBytes l
 scraps : k.scraps = l.length
 fit : Fit l
 ne : l ≠ []
theorem sums_of {R : Kd → List Ent → Prop} (hR : ∀ k l, R k l → Fine k l) : ∀ {ks : List Kd} {ls : List (List Ent)}, F2 R ks ls →
 kBytes ks = eBytes ls.flatten ∧ kScraps ks = ls.flatten.length ∧ (∀ x ∈ ls.flatten, mayEnt x = true) ∧ (∀ k ∈ ks, mayKid k = true) ∧ (ks.length ≤ ls.flatten.length)
 | [], [], _ => ⟨rfl, rfl, fun x h => (List.not_mem_nil h).elim, fun x h => (List.not_mem_nil h).elim, Nat.le_refl _⟩
 | k :: ks, l :: ls, h => by
   have f := hR _ _ h.1
   obtain ⟨h1, h2, h3, h4, h5⟩ := sums_of hR h.2
   have hl : 1 ≤ l.length := by
    have := f.ne
    cases l with
    | nil => exact absurd rfl this
    | cons a l => simp
   refine ⟨?_, ?_, ?_, ?_, ?_⟩
   · rw [List.flatten_cons, eBytes_append, ← h1, ← f.bytes]; simp [kBytes]
   · rw [List.flatten_cons, List.length_append]
     have e : kScraps (k :: ks) = k.scraps + kScraps ks := by simp [kScraps]
     rw [e, f.scraps, h2]
     simp
   · intro x hx
     rw [List.flatten_cons] at hx
     rcases List.mem_append.1 hx with hx | hx
     · exact f.fit.1 x hx
     · exact h3 x hx
   · intro x hx
     rcases List.mem_cons.1 hx with rfl | hx
     · exact f.may
     · exact h4 x hx
   · rw [List.flatten_cons, List.length_append, List.length_cons]; omega
 | [], _ :: _, h => h.elim
 | _ :: _, [], h => h.elim
theorem may_leaf_of {l : List Ent} (h1 : ∀ x ∈ l, mayEnt x = true) (h2 : 1 ≤ l.length) (h3 : l.length ≤ 12) (h4 : eBytes l ≤ 1048576) : may ⟨true, l, []⟩ = true := by
 unfold may
 have e : (l.any fun x => !true || !mayEnt x) = false := by
  rw [List.any_eq_false]
  intro x hx
  rw [h1 x hx]
  simp
 simp only [e]
 simp [kBytes, kScraps, h3, h4]
 omega
theorem may_inner_of {ks : List Kd} (h1 : ∀ x ∈ ks, mayKid x = true) (h2 : 2 ≤ ks.length) (h3 : ks.length ≤ 12) (h4 : kBytes ks ≤ 1048576) (h5 : kScraps ks ≤ 1024) : may ⟨false, [], ks⟩ = true := by
 unfold may
 have e : (ks.any fun x => false || !mayKid x) = false := by
  rw [List.any_eq_false]
  intro x hx
  rw [h1 x hx]
  simp
 simp only [e]
 simp [eBytes, h2, h3, h4, h5]
theorem Sub.fine {v : Int → Option Nd} : ∀ {h lo hi : Nat} {k : Kd} {l : List Ent}, Sub v h lo hi k l → Fine k l
 | 0, lo, hi, k, l, ⟨h1, h2, h3, h4, h5, h6, h7⟩ => by
   obtain ⟨m1, m2, m3, m4, m5⟩ := may_leaf h2 rfl
   simp only at m2 m3 m4 m5
   have hge := eBytes_ge m2
   have hlb := lines_bound (fun x : Ent => x.lines) (fun x : Ent => x.len) l 0 0 (fun e he => by have := mayE_len (m2 e he); omega) (by omega) (by omega) (by omega)
   have e1 : k.bytes = eBytes l := by rw [h5]; simp [kdOf, ndSum, h2, kBytes]
   have e2 : k.scraps = l.length := by rw [h5]; simp [kdOf, ndSum, h2, kScraps]
   have e3 : k.lines = (l.map (·.lines)).foldl addL 0 := by rw [h5]; simp [kdOf, ndSum, h2]
   refine ⟨?_, e1, e2, ⟨m2, m5, by omega⟩, fun c => by subst c; simp at m3⟩
   unfold mayKid
   simp only [decide_eq_true_eq]
   rw [e1, e2, e3]
   have e4 : (l.map fun x : Ent => x.len).sum = eBytes l := rfl
   rw [e4] at hlb
   refine ⟨h6, h7, by omega, by omega, by omega, by omega, by omega⟩
 | h + 1, lo, hi, k, l, ⟨ks, ls, h1, h2, h3, h4, h5, h6, h7, h8, h9⟩ => by
   obtain ⟨m1, m2, m3, m4, m5, m6⟩ := may_inner h2 rfl
   simp only at m2 m3 m4 m5 m6
   obtain ⟨s1, s2, s3, s4, s5⟩ := sums_of (fun k l x => Sub.fine x) h8
   have hlb := lines_bound (fun x : Kd => x.lines) (fun x : Kd => x.bytes) ks 0 0 (fun e he => by have := mayK_facts (m2 e he); omega) (by omega) (by omega) (by omega)
   have e1 : k.bytes = eBytes l := by rw [h5, h9, ← s1]; simp [kdOf, ndSum, h2, eBytes]
   have e2 : k.scraps = l.length := by rw [h5, h9, ← s2]; simp [kdOf, ndSum, h2]
   have e3 : k.lines = (ks.map (·.lines)).foldl addL 0 := by rw [h5]; simp [kdOf, ndSum, h2]
   subst h9
   have hge := eBytes_ge s3
   have hb : eBytes ls.flatten ≤ 1048576 := by rw [← s1]; exact m5
   have hc : ls.flatten.length ≤ 1024 := by have := m6; rw [s2] at this; omega
   refine ⟨?_, e1, e2, ⟨s3, hb, hc⟩, fun c => by rw [c] at s5; have := Nat.le_trans m3 s5; simp at this⟩
   unfold mayKid
   simp only [decide_eq_true_eq]
   rw [e1, e2, e3]
   have e4 : (ks.map fun x : Kd => x.bytes).sum = kBytes ks := rfl
   rw [e4, s1] at hlb
   refine ⟨h6, h7, by omega, by omega, by omega, by omega, by omega⟩
theorem Sub.many {v : Int → Option Nd} : ∀ {h lo hi : Nat} {k : Kd} {l : List Ent}, Sub v h lo hi k l → lo * 4 ^ h ≤ l.length
 | 0, lo, hi, k, l, ⟨h1, h2, h3, _⟩ => by simpa using h3
 | h + 1, lo, hi, k, l, ⟨ks, ls, h1, h2, h3, h4, h5, h6, h7, h8, h9⟩ => by
   have key : ∀ {ks : List Kd} {ls : List (List Ent)}, F2 (Sub v h 4 12) ks ls → ks.length * 4 ^ (h + 1) ≤ ls.flatten.length := by
    intro ks
    induction ks with
    | nil => intro ls x; simp
    | cons k ks ih =>
      intro ls x
      cases ls with
      | nil => exact x.elim
      | cons l ls =>
        have a := Sub.many x.1
        have b := ih x.2
        rw [List.flatten_cons, List.length_append, List.length_cons, Nat.add_mul, Nat.one_mul, Nat.pow_succ] at *
        omega
   rw [h9]
   exact Nat.le_trans (Nat.mul_le_mul_right _ h3) (key h8)
theorem Sub.two {v : Int → Option Nd} {h lo hi : Nat} {k : Kd} {l : List Ent} (hs : Sub v h lo hi k l) (h0 : 0 < h) : 2 * 4 ^ h ≤ l.length := by
 cases h with
 | zero => omega
 | succ h =>
   obtain ⟨ks, ls, h1, h2, h3, h4, h5, h6, h7, h8, h9⟩ := hs
   obtain ⟨m1, m2, m3, m4, m5, m6⟩ := may_inner h2 rfl
   exact Sub.many (v := v) (h := h + 1) (lo := 2) (hi := hi) (k := k) ⟨ks, ls, h1, h2, m3, h4, h5, h6, h7, h8, h9⟩
theorem Sub.low {v : Int → Option Nd} {h lo hi : Nat} {k : Kd} {l : List Ent} (hs : Sub v h lo hi k l) : h ≤ 4 := by
 have hf := hs.fine.fit.2.2
 by_cases h0 : 0 < h
 · have := hs.two h0
   have h5 : 4 ^ h < 4 ^ 5 := by omega
   have := (Nat.pow_lt_pow_iff_right (by omega : 1 < 4)).1 h5
   omega
 · omega
theorem its_may {v : Int → Option Nd} {h : Nat} {n : Nd} {ls : List (List Ent)} (hn : Its v h n ls) (hf : Fit ls.flatten) (h1 : 1 ≤ many n) (h2 : 0 < h → 2 ≤ many n) (h3 : many n ≤ 12) : may n = true := by
 cases h with
 | zero =>
   obtain ⟨e, rfl⟩ := hn
   rw [flat_one] at hf
   rw [e] at h1 h3 ⊢
   simp only [many, List.length_nil, Nat.add_zero] at h1 h3
   exact may_leaf_of hf.1 h1 h3 hf.2.1
 | succ h =>
   obtain ⟨e, h8⟩ := hn
   obtain ⟨s1, s2, s3, s4, s5⟩ := sums_of (fun k l x => Sub.fine x) h8
   have h2 := h2 (by omega)
   rw [e] at h2 h3 ⊢
   simp only [many, List.length_nil, Nat.zero_add] at h2 h3
   exact may_inner_of s4 h2 h3 (by rw [s1]; exact hf.2.1) (by rw [s2]; have := hf.2.2; omega)
theorem its_cut {v : Int → Option Nd} {h : Nat} {n : Nd} {ls : List (List Ent)} (hn : Its v h n ls) (i j : Nat) : Its v h (cutN n i j) (sub ls i j) := by
 cases h with
 | zero =>
   obtain ⟨e, rfl⟩ := hn
   rw [e]
   refine ⟨by simp [cutN], ?_⟩
   simp [cutN, sub]
 | succ h =>
   obtain ⟨e, h8⟩ := hn
   rw [e]
   refine ⟨by simp [cutN], ?_⟩
   simp only [cutN, Bool.false_eq_true, if_false, sub]
   exact (h8.drop i).take (j - i)
theorem its_both {v : Int → Option Nd} {h : Nat} {a b : Nd} {la lb : List (List Ent)} (ha : Its v h a la) (hb : Its v h b lb) : Its v h (both a b) (la ++ lb) := by
 cases h with
 | zero =>
   obtain ⟨e, rfl⟩ := ha
   obtain ⟨e', rfl⟩ := hb
   rw [e, e']
   exact ⟨rfl, by simp [both]⟩
 | succ h =>
   obtain ⟨e, h8⟩ := ha
   obtain ⟨e', h8'⟩ := hb
   rw [e, e']
   exact ⟨rfl, h8.append h8'⟩
def Tl (v : Int → Option Nd) (x : Tall) (l : List Ent) : Prop := (x = noTall ∧ l = []) ∨ ∃ h : Nat, x.height = h ∧ Sub v h 1 12 x.kid l
theorem Tl.le {v v' : Int → Option Nd} (hv : Le v v') {x : Tall} {l : List Ent} (h : Tl v x l) : Tl v' x l := by
 rcases h with h | ⟨h, h1, h2⟩
 · exact .inl h
 · exact .inr ⟨h, h1, h2.le hv⟩
end Go.Tr
