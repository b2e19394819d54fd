/-
  Of any pages in a file a root is found to be a tree just if it is one in the form of the document. No condition. (part 11)
-/
import Derived.Test.YtfhbmblbidcmmaaGreatRk5
set_option linter.unusedSimpArgs false
set_option linter.unusedVariables false
namespace Go.Tr
set_option linter.unusedSimpArgs false
set_option linter.unusedVariables false
inductive Res (σ α : Type) where
 | ok (a : α) (s : σ)
 | fault (e : Int) (s : σ)
 | bad
abbrev M (σ α : Type) := σ → Res σ α
section
variable {σ α β : Type}
def Res.bind (r : Res σ α) (f : α → M σ β) : Res σ β := match r with
 | .ok a s => f a s
 | .fault e s => .fault e s
 | .bad => .bad
def M.pure (a : α) : M σ α := fun s => .ok a s
def M.fail (e : Int) : M σ α := fun s => .fault e s
def M.bad : M σ α := fun _ => .bad
def M.bind (x : M σ α) (f : α → M σ β) : M σ β := fun s => (x s).bind f
end
def many (n : Nd) : Nat := n.ents.length + n.kids.length
def both (a b : Nd) : Nd := ⟨a.leaf, a.ents ++ b.ents, a.kids ++ b.kids⟩
def sub {α : Type} (l : List α) (i j : Nat) : List α := (l.drop i).take (j - i)
def cutN (n : Nd) (i j : Nat) : Nd := if n.leaf then ⟨true, sub n.ents i j, []⟩ else ⟨false, [], sub n.kids i j⟩
def kd0 : Kd := ⟨0, 0, 0, 0⟩
structure Tall where
 kid : Kd
 height : Int
def noTall : Tall := ⟨kd0, -1⟩
section
variable {σ : Type} (rd : Int → M σ Nd) (wt : Nd → M σ Kd)
def spreadFrom (n : Nd) (pages : Nat) : Nat → Nat → Nat → List Kd → M σ (List Kd)
 | 0, _, _, out => M.pure out
 | c + 1, i, at_, out => M.bind (wt (cutN n at_ (at_ + (many n / pages + (if i < many n % pages then 1 else 0))))) fun k =>
   spreadFrom n pages c (i + 1) (at_ + (many n / pages + (if i < many n % pages then 1 else 0))) (out ++ [k])
def pagesOf (n : Nd) : Nat := (many n + 11) / 12
def tSpread (n : Nd) : M σ (List Kd) := spreadFrom wt n (pagesOf n) (pagesOf n) 0 0 []
def tGrown : Nat → List Kd → Int → M σ Tall
 | _, [], _ => M.pure noTall
 | _, [k], h => M.pure ⟨k, h⟩
 | 0, _, _ => M.bad
 | f + 1, ks, h => M.bind (tSpread wt ⟨false, [], ks⟩) fun ks' => tGrown f ks' (h + 1)
def grown (ks : List Kd) (h : Int) : M σ Tall := tGrown wt ks.length ks h
def tLeaves (l : List Ent) : M σ Tall := M.bind (tSpread wt ⟨true, l, []⟩) fun ks => grown wt ks 0
def tMeet : Nat → Tall → Tall → M σ (List Kd × Int)
 | 0, _, _ => M.bad
 | f + 1, a, b =>
   if b.height < a.height then M.bind (rd a.kid.page) fun x =>
    match x.kids.getLast? with
    | none => M.bad
    | some z =>
      if x.leaf then M.bad else M.bind (tMeet f ⟨z, a.height - 1⟩ b) fun r =>
       M.bind (tSpread wt (both (cutN x 0 (x.kids.length - 1)) ⟨false, [], r.1⟩)) fun out => M.pure (out, a.height)
   else if a.height < b.height then M.bind (rd b.kid.page) fun y =>
    match y.kids with
    | [] => M.bad
    | z :: _ =>
      if y.leaf then M.bad else M.bind (tMeet f a ⟨z, b.height - 1⟩) fun r =>
       M.bind (tSpread wt (both ⟨false, [], r.1⟩ (cutN y 1 y.kids.length))) fun out => M.pure (out, b.height)
   else M.bind (rd a.kid.page) fun x => M.bind (rd b.kid.page) fun y => if x.leaf = y.leaf then M.bind (tSpread wt (both x y)) fun out => M.pure (out, a.height) else M.bad
def deepOf (a b : Tall) : Nat := (max a.height b.height).toNat + 1
def tPut (a b : Tall) : M σ Tall :=
 if a.height < 0 then M.pure b else
 if b.height < 0 then M.pure a else M.bind (tMeet rd wt (deepOf a b) a b) fun r => grown wt r.1 r.2
def tOver (ks : List Kd) (h : Int) : M σ Tall := grown wt ks (h - 1)
def passE : List Ent → Int → Nat → Option Nat
 | l, n, k => match l with
   | [] => if 0 < n then none else some k
   | x :: l => if 0 < n then passE l (n - x.len) (k + 1) else some k
def passK : List Kd → Int → Nat → Option (Nat × Int)
 | [], _, _ => none
 | x :: l, n, k => if x.bytes ≤ n then passK l (n - x.bytes) (k + 1) else some (k, n)
def tParted : Nat → Tall → Int → M σ (Tall × Tall)
 | f, x, n =>
   if n ≤ 0 then M.pure (noTall, x) else
   if x.kid.bytes ≤ n then M.pure (x, noTall) else
   match f with
   | 0 => M.bad
   | f + 1 => M.bind (rd x.kid.page) fun y =>
     if y.leaf then
      match passE y.ents n 0 with
      | none => M.bad
      | some k => M.bind (tLeaves wt (y.ents.take k)) fun a => M.bind (tLeaves wt (y.ents.drop k)) fun b => M.pure (a, b)
     else
      match passK y.kids n 0 with
      | none => M.bad
      | some (k, r) =>
        if r = 0 then M.bind (tOver wt (y.kids.take k) x.height) fun a => M.bind (tOver wt (y.kids.drop k) x.height) fun b => M.pure (a, b)
        else
         match y.kids[k]? with
         | none => M.bad
         | some z => M.bind (tParted f ⟨z, x.height - 1⟩ r) fun p =>
           M.bind (tOver wt (y.kids.take k) x.height) fun a => M.bind (tPut rd wt a p.1) fun a =>
           M.bind (tOver wt (y.kids.drop (k + 1)) x.height) fun b => M.bind (tPut rd wt p.2 b) fun b => M.pure (a, b)
def rootedTo : Nat → Nd → Int → M σ Int
 | f, n, h =>
   if n.leaf then M.pure h else
   match f with
   | 0 => M.fail 13
   | f + 1 => match n.kids with
     | [] => M.bad
     | k :: _ => M.bind (rd k.page) fun m => rootedTo f m (h + 1)
def kdOf (no : Int) (n : Nd) : Kd := ⟨no, (ndSum n).1, (ndSum n).2.1, (ndSum n).2.2⟩
def tRooted (root : Int) : M σ Tall :=
 if root = 0 then M.pure noTall else M.bind (rd root) fun n => M.bind (rootedTo rd 20 n 0) fun h => M.pure ⟨kdOf root n, h⟩
inductive Hit where
 | here (x : Ent) (ahead : Int)
 | below (page : Int) (ahead : Int)
 | past
def hitE : List Ent → Int → Int → Hit ⊕ Int
 | [], _, ahead => .inr ahead
 | x :: l, n, ahead => if n < ahead + x.len then .inl (.here x ahead) else hitE l n (ahead + x.len)
def hitK : List Kd → Int → Int → Hit
 | [], _, _ => .past
 | k :: l, n, ahead => if n < ahead + k.bytes then .below k.page ahead else hitK l n (ahead + k.bytes)
def hitN (n : Nd) (at_ ahead : Int) : Hit := match hitE n.ents at_ ahead with
 | .inl h => h
 | .inr a => hitK n.kids at_ a
def seekTo : Nat → Nd → Int → Int → M σ (Ent × Int)
 | 0, _, _, _ => M.fail 13
 | f + 1, n, at_, ahead => match hitN n at_ ahead with
   | .here x a => M.pure (x, a)
   | .past => M.fail 13
   | .below p a => M.bind (rd p) fun m => seekTo f m at_ a
def tSeek (root at_ : Int) : M σ (Ent × Int) := M.bind (rd root) fun n => seekTo rd 22 n at_ 0
def rankE : List Ent → Int → Int → Int × Int
 | [], n, r => (n, r)
 | y :: l, n, r => rankE l (n - y.len) (if 0 < n then r + 1 else r)
def rankK : List Kd → Int → Int → (Kd × Int × Int) ⊕ Int
 | [], _, r => .inr r
 | k :: l, n, r => if n < k.bytes then .inl (k, n, r) else rankK l (n - k.bytes) (r + k.scraps)
def tRank : Nat → Tall → Int → M σ Int
 | f, x, n =>
   if n ≤ 0 ∨ x.height < 0 then M.pure 0 else
   if x.kid.bytes ≤ n then M.pure x.kid.scraps else
   match f with
   | 0 => M.bad
   | f + 1 => M.bind (rd x.kid.page) fun y => match rankK y.kids (rankE y.ents n 0).1 (rankE y.ents n 0).2 with
     | .inr r => M.pure r
     | .inl (k, m, r) => M.bind (tRank f ⟨k, x.height - 1⟩ m) fun z => M.pure (r + z)
def tSize (root : Int) : M σ Int := if root = 0 then M.pure 0 else M.bind (rd root) fun n => M.pure (ndSum n).1
def tBuild (l : List Ent) : M σ Int := M.bind (tLeaves wt l) fun t => M.pure t.kid.page
def leftOf (root at_ : Int) : M σ (List Ent × Int) :=
 if 0 < at_ then M.bind (tSeek rd root (at_ - 1)) fun p => M.pure (part p.1 0 (at_ - p.2), p.2) else M.pure ([], at_)
def rightOf (root to all : Int) : M σ (List Ent × Int) :=
 if to < all then M.bind (tSeek rd root to) fun p => M.pure (part p.1 (to - p.2) p.1.len, p.2 + p.1.len) else M.pure ([], to)
def tSplice (root at_ n all : Int) (put : List Ent) : M σ Int :=
 M.bind (leftOf rd root at_) fun L => M.bind (rightOf rd root (at_ + n) all) fun R =>
 M.bind (tRooted rd root) fun whole => M.bind (tRank rd 30 whole R.2) fun r1 => M.bind (tRank rd 30 whole L.2) fun r0 =>
 if 1024 < whole.kid.scraps - r1 + r0 + (join (L.1 ++ put ++ R.1)).length then M.fail 11 else
 M.bind (tParted rd wt 30 whole L.2) fun p => M.bind (tParted rd wt 30 p.2 (R.2 - L.2)) fun q =>
 M.bind (tLeaves wt (join (L.1 ++ put ++ R.1))) fun m => M.bind (tPut rd wt p.1 m) fun x => M.bind (tPut rd wt x q.2) fun y => M.pure y.kid.page
end
end Go.Tr
namespace Go.Tr
set_option linter.unusedSimpArgs false
set_option linter.unusedVariables false
/-! two lists, part by part -/
def F2 {α β : Type} (R : α → β → Prop) : List α → List β → Prop
 | [], [] => True
 | a :: l, b :: m => R a b ∧ F2 R l m
 | _, _ => False
section
variable {α β : Type} {R R' : α → β → Prop}
theorem F2.len : ∀ {l : List α} {m : List β}, F2 R l m → l.length = m.length
 | [], [], _ => rfl
 | a :: l, b :: m, h => by simp [F2.len h.2]
 | [], _ :: _, h => h.elim
 | _ :: _, [], h => h.elim
theorem F2.mono (f : ∀ a b, R a b → R' a b) : ∀ {l : List α} {m : List β}, F2 R l m → F2 R' l m
 | [], [], _ => trivial
 | a :: l, b :: m, h => ⟨f _ _ h.1, F2.mono f h.2⟩
 | [], _ :: _, h => h.elim
 | _ :: _, [], h => h.elim
theorem F2.split : ∀ {l l' : List α} {m : List β}, F2 R (l ++ l') m → F2 R l (m.take l.length) ∧ F2 R l' (m.drop l.length)
 | [], _, _, h => ⟨trivial, h⟩
 | a :: l, l', b :: m, h => ⟨⟨h.1, (F2.split h.2).1⟩, (F2.split h.2).2⟩
 | _ :: _, _, [], h => h.elim
theorem F2.take {l : List α} {m : List β} (h : F2 R l m) (i : Nat) : F2 R (l.take i) (m.take i) := by
 induction i generalizing l m with
 | zero => exact trivial
 | succ i ih =>
   cases l <;> cases m <;> first | exact trivial | exact h.elim | exact ⟨h.1, ih h.2⟩
theorem F2.drop {l : List α} {m : List β} (h : F2 R l m) (i : Nat) : F2 R (l.drop i) (m.drop i) := by
 induction i generalizing l m with
 | zero => exact h
 | succ i ih =>
   cases l <;> cases m <;> first | exact trivial | exact h.elim | exact ih h.2
theorem F2.at {l : List α} {m : List β} (h : F2 R l m) {i : Nat} {a : α} (ha : l[i]? = some a) : ∃ b, m[i]? = some b ∧ R a b := by
 induction i generalizing l m with
 | zero =>
   cases l <;> cases m <;> first | (cases ha; done) | exact h.elim | skip
   · cases ha
     exact ⟨_, rfl, h.1⟩
 | succ i ih =>
   cases l <;> cases m <;> first | (cases ha; done) | exact h.elim | skip
   · exact ih h.2 (by simpa using ha)
end
/-! what reads and writes nodes -/
structure Env (σ : Type) where
 rd : Int → M σ Nd
 wt : Nd → M σ Kd
 V : σ → Int → Option Nd
 inv : σ → Prop
 reads : σ → Nat
 room : σ → Nat
 left : σ → Nat
 bad : Int → Prop
def Le (v v' : Int → Option Nd) : Prop := ∀ p n, v p = some n → v' p = some n
theorem Le.trans {a b c : Int → Option Nd} (h : Le a b) (k : Le b c) : Le a c := fun p n e => k p n (h p n e)
section
variable {σ α β : Type} (X : Env σ)
def Step (s : σ) (R W : Nat) (m : M σ α) (Q : α → σ → Prop) : Prop := X.room s < W ∨ match m s with
 | .ok a s' => X.inv s' ∧ Le (X.V s) (X.V s') ∧ X.reads s' ≤ X.reads s + R ∧ X.room s ≤ X.room s' + W ∧ X.left s ≤ X.left s' + (R + W) ∧ Q a s'
 | .fault e s' => (X.bad e ∨ X.room s < W) ∧ X.inv s' ∧ Le (X.V s) (X.V s') ∧ X.reads s' ≤ X.reads s + R ∧ X.left s ≤ X.left s' + (R + W)
 | .bad => X.left s < R + W
variable {X}
theorem Step.mono {s : σ} {R R' W W' : Nat} {m : M σ α} {Q Q' : α → σ → Prop} (h : Step X s R W m Q) (hR : R ≤ R') (hW : W ≤ W')
 (hQ : ∀ a s', X.inv s' → Le (X.V s) (X.V s') → Q a s' → Q' a s') : Step X s R' W' m Q' := by
 unfold Step at h ⊢
 rcases h with h | h
 · exact .inl (by omega)
 cases hm : m s with
 | ok a s' =>
   rw [hm] at h
   obtain ⟨h1, h2, h3, h4, h7, h5⟩ := h
   exact .inr ⟨h1, h2, by omega, by omega, by omega, hQ a s' h1 h2 h5⟩
 | fault e s' =>
   rw [hm] at h
   obtain ⟨h1, h2, h3, h4, h5⟩ := h
   refine .inr ⟨?_, h2, h3, by omega, by omega⟩
   rcases h1 with k | k
   · exact .inl k
   · exact .inr (by omega)
 | bad =>
   rw [hm] at h
   right
   simp only at h ⊢
   omega
end
/-! trees -/
def Sub (v : Int → Option Nd) : Nat → Nat → Nat → Kd → List Ent → Prop
 | 0 => fun lo hi k l => v k.page = some ⟨true, l, []⟩ ∧ may ⟨true, l, []⟩ = true ∧ lo ≤ l.length ∧ l.length ≤ hi ∧ k = kdOf k.page ⟨true, l, []⟩ ∧ 1 ≤ k.page ∧ k.page < 1048576
 | h + 1 => fun lo hi k l => ∃ (ks : List Kd) (ls : List (List Ent)), v k.page = some ⟨false, [], ks⟩ ∧ may ⟨false, [], ks⟩ = true ∧ lo ≤ ks.length ∧ ks.length ≤ hi ∧ k = kdOf k.page ⟨false, [], ks⟩ ∧ 1 ≤ k.page ∧ k.page < 1048576 ∧
    F2 (Sub v h 4 12) ks ls ∧ l = ls.flatten
def Its (v : Int → Option Nd) : Nat → Nd → List (List Ent) → Prop
 | 0 => fun n ls => n = ⟨true, n.ents, []⟩ ∧ ls = n.ents.map fun e => [e]
 | h + 1 => fun n ls => n = ⟨false, [], n.kids⟩ ∧ F2 (Sub v h 4 12) n.kids ls
def Fit (l : List Ent) : Prop := (∀ x ∈ l, mayEnt x = true) ∧ eBytes l ≤ 1048576 ∧ l.length ≤ 1024
theorem Sub.le {v v' : Int → Option Nd} (hv : Le v v') : ∀ {h lo hi : Nat} {k : Kd} {l : List Ent}, Sub v h lo hi k l → Sub v' h lo hi k l
 | 0, lo, hi, k, l, ⟨h1, h2⟩ => ⟨hv _ _ h1, h2⟩
 | h + 1, lo, hi, k, l, ⟨ks, ls, h1, h2, h3, h4, h5, h6, h7, h8, h9⟩ => ⟨ks, ls, hv _ _ h1, h2, h3, h4, h5, h6, h7, h8.mono fun a b x => Sub.le hv x, h9⟩
theorem Its.le {v v' : Int → Option Nd} (hv : Le v v') {h : Nat} {n : Nd} {ls : List (List Ent)} (hn : Its v h n ls) : Its v' h n ls := by
 cases h with
 | zero => exact hn
 | succ h => exact ⟨hn.1, hn.2.mono fun a b x => x.le hv⟩
theorem mayE_len {x : Ent} (h : mayEnt x = true) : 1 ≤ x.len ∧ -1 ≤ x.lines ∧ x.lines ≤ x.len := by
 unfold mayEnt at h
 simp only [decide_eq_true_eq] at h
 omega
theorem eBytes_cons (x : Ent) (l : List Ent) : eBytes (x :: l) = x.len + eBytes l := by simp [eBytes]
theorem eBytes_ge {l : List Ent} (h : ∀ x ∈ l, mayEnt x = true) : (l.length : Int) ≤ eBytes l := by
 induction l with
 | nil => simp [eBytes]
 | cons a l ih =>
   rw [eBytes_cons]
   have h1 := ih fun x hx => h x (List.mem_cons_of_mem _ hx)
   have h2 := mayE_len (h a List.mem_cons_self)
   simp only [List.length_cons]
   omega
theorem Fit.nil : Fit [] := ⟨fun x h => (List.not_mem_nil h).elim, by simp [eBytes], by simp⟩
theorem Fit.left {a b : List Ent} (h : Fit (a ++ b)) : Fit a := by
 obtain ⟨h1, h2, h3⟩ := h
 have hb := eBytes_ge (l := b) fun x hx => h1 x (List.mem_append_right _ hx)
 rw [eBytes_append] at h2
 rw [List.length_append] at h3
 exact ⟨fun x hx => h1 x (List.mem_append_left _ hx), by omega, by omega⟩
theorem Fit.right {a b : List Ent} (h : Fit (a ++ b)) : Fit b := by
 obtain ⟨h1, h2, h3⟩ := h
 have hb := eBytes_ge (l := a) fun x hx => h1 x (List.mem_append_left _ hx)
 rw [eBytes_append] at h2
 rw [List.length_append] at h3
 exact ⟨fun x hx => h1 x (List.mem_append_right _ hx), by omega, by omega⟩
theorem addL_bound {a b x y : Int} (h1 : -1 ≤ a) (h2 : a ≤ x) (h3 : -1 ≤ b) (h4 : b ≤ y) (h5 : 0 ≤ x) (h6 : 0 ≤ y) : -1 ≤ addL a b ∧ addL a b ≤ x + y := by
 unfold addL
 split <;> omega
theorem lines_bound {α : Type} (ln by_ : α → Int) : ∀ (l : List α) (a x : Int), (∀ e ∈ l, -1 ≤ ln e ∧ ln e ≤ by_ e ∧ 0 ≤ by_ e) → -1 ≤ a → a ≤ x → 0 ≤ x →
 -1 ≤ (l.map ln).foldl addL a ∧ (l.map ln).foldl addL a ≤ x + (l.map by_).sum
 | [], a, x, _, h1, h2, _ => by simp; omega
 | e :: l, a, x, h, h1, h2, h3 => by
   obtain ⟨e1, e2, e3⟩ := h e List.mem_cons_self
   obtain ⟨b1, b2⟩ := addL_bound h1 h2 e1 e2 h3 e3
   obtain ⟨c1, c2⟩ := lines_bound ln by_ l (addL a (ln e)) (x + by_ e) (fun z hz => h z (List.mem_cons_of_mem _ hz)) b1 b2 (by omega)
   simp only [List.map_cons, List.foldl_cons, List.sum_cons]
   omega
theorem mayK_facts {k : Kd} (h : mayKid k = true) : 1 ≤ k.page ∧ k.page < 1048576 ∧ 1 ≤ k.bytes ∧ k.bytes ≤ 1048576 ∧ -1 ≤ k.lines ∧ k.lines ≤ k.bytes ∧ 1 ≤ k.scraps ∧ k.scraps ≤ k.bytes := by
 unfold mayKid at h
 simp only [decide_eq_true_eq] at h
 omega
structure Fine (k : Kd) (l : List Ent) : Prop where
 may : mayKid k = true
 bytes : k.bytes = eBytes l
 scraps : k.scraps = l.length
 fit : Fit l
 ne : l ≠ []
theorem sums_of {R : Kd → List Ent → Prop} (hR : ∀ k l, R k l → Fine k l) : ∀ {ks : List Kd} {ls : List (List Ent)}, F2 R ks ls →
 kBytes ks = eBytes ls.flatten ∧ kScraps ks = ls.flatten.length ∧ (∀ x ∈ ls.flatten, mayEnt x = true) ∧ (∀ k ∈ ks, mayKid k = true) ∧ (ks.length ≤ ls.flatten.length)
 | [], [], _ => ⟨rfl, rfl, fun x h => (List.not_mem_nil h).elim, fun x h => (List.not_mem_nil h).elim, Nat.le_refl _⟩
 | k :: ks, l :: ls, h => by
   have f := hR _ _ h.1
   obtain ⟨h1, h2, h3, h4, h5⟩ := sums_of hR h.2
   have hl : 1 ≤ l.length := by
    have := f.ne
    cases l with
    | nil => exact absurd rfl this
    | cons a l => simp
   refine ⟨?_, ?_, ?_, ?_, ?_⟩
   · rw [List.flatten_cons, eBytes_append, ← h1, ← f.bytes]; simp [kBytes]
   · rw [List.flatten_cons, List.length_append]
     have e : kScraps (k :: ks) = k.scraps + kScraps ks := by simp [kScraps]
     rw [e, f.scraps, h2]
     simp
   · intro x hx
     rw [List.flatten_cons] at hx
     rcases List.mem_append.1 hx with hx | hx
     · exact f.fit.1 x hx
     · exact h3 x hx
   · intro x hx
     rcases List.mem_cons.1 hx with rfl | hx
     · exact f.may
     · exact h4 x hx
   · rw [List.flatten_cons, List.length_append, List.length_cons]; omega
 | [], _ :: _, h => h.elim
 | _ :: _, [], h => h.elim
theorem Sub.fine {v : Int → Option Nd} : ∀ {h lo hi : Nat} {k : Kd} {l : List Ent}, Sub v h lo hi k l → Fine k l
 | 0, lo, hi, k, l, ⟨h1, h2, h3, h4, h5, h6, h7⟩ => by
   obtain ⟨m1, m2, m3, m4, m5⟩ := may_leaf h2 rfl
   simp only at m2 m3 m4 m5
   have hge := eBytes_ge m2
   have hlb := lines_bound (fun x : Ent => x.lines) (fun x : Ent => x.len) l 0 0 (fun e he => by have := mayE_len (m2 e he); omega) (by omega) (by omega) (by omega)
   have e1 : k.bytes = eBytes l := by rw [h5]; simp [kdOf, ndSum, h2, kBytes]
   have e2 : k.scraps = l.length := by rw [h5]; simp [kdOf, ndSum, h2, kScraps]
   have e3 : k.lines = (l.map (·.lines)).foldl addL 0 := by rw [h5]; simp [kdOf, ndSum, h2]
   refine ⟨?_, e1, e2, ⟨m2, m5, by omega⟩, fun c => by subst c; simp at m3⟩
   unfold mayKid
   simp only [decide_eq_true_eq]
   rw [e1, e2, e3]
   have e4 : (l.map fun x : Ent => x.len).sum = eBytes l := rfl
   rw [e4] at hlb
   refine ⟨h6, h7, by omega, by omega, by omega, by omega, by omega⟩
 | h + 1, lo, hi, k, l, ⟨ks, ls, h1, h2, h3, h4, h5, h6, h7, h8, h9⟩ => by
   obtain ⟨m1, m2, m3, m4, m5, m6⟩ := may_inner h2 rfl
   simp only at m2 m3 m4 m5 m6
   obtain ⟨s1, s2, s3, s4, s5⟩ := sums_of (fun k l x => Sub.fine x) h8
   have hlb := lines_bound (fun x : Kd => x.lines) (fun x : Kd => x.bytes) ks 0 0 (fun e he => by have := mayK_facts (m2 e he); omega) (by omega) (by omega) (by omega)
   have e1 : k.bytes = eBytes l := by rw [h5, h9, ← s1]; simp [kdOf, ndSum, h2, eBytes]
   have e2 : k.scraps = l.length := by rw [h5, h9, ← s2]; simp [kdOf, ndSum, h2]
   have e3 : k.lines = (ks.map (·.lines)).foldl addL 0 := by rw [h5]; simp [kdOf, ndSum, h2]
   subst h9
   have hge := eBytes_ge s3
   have hb : eBytes ls.flatten ≤ 1048576 := by rw [← s1]; exact m5
   have hc : ls.flatten.length ≤ 1024 := by have := m6; rw [s2] at this; omega
   refine ⟨?_, e1, e2, ⟨s3, hb, hc⟩, fun c => by rw [c] at s5; have := Nat.le_trans m3 s5; simp at this⟩
   unfold mayKid
   simp only [decide_eq_true_eq]
   rw [e1, e2, e3]
   have e4 : (ks.map fun x : Kd => x.bytes).sum = kBytes ks := rfl
   rw [e4, s1] at hlb
   refine ⟨h6, h7, by omega, by omega, by omega, by omega, by omega⟩
def Tl (v : Int → Option Nd) (x : Tall) (l : List Ent) : Prop := (x = noTall ∧ l = []) ∨ ∃ h : Nat, x.height = h ∧ Sub v h 1 12 x.kid l
theorem Tl.le {v v' : Int → Option Nd} (hv : Le v v') {x : Tall} {l : List Ent} (h : Tl v x l) : Tl v' x l := by
 rcases h with h | ⟨h, h1, h2⟩
 · exact .inl h
 · exact .inr ⟨h, h1, h2.le hv⟩
end Go.Tr

namespace Go.Tr
set_option linter.unusedSimpArgs false
set_option linter.unusedVariables false
section
variable {σ : Type} {X : Env σ}
theorem F2.one {α β : Type} {R : α → β → Prop} {a : α} {m : List β} (h : F2 R [a] m) : ∃ b, m = [b] ∧ R a b := by
 cases m with
 | nil => exact h.elim
 | cons b m =>
   cases m with
   | nil => exact ⟨b, rfl, h.1⟩
   | cons c m => exact h.2.elim
end
end Go.Tr
namespace Go.Tr
set_option linter.unusedSimpArgs false
set_option linter.unusedVariables false
section
variable {σ : Type} {X : Env σ}
def Rt (v : Int → Option Nd) (root : Int) (l : List Ent) : Prop := (root = 0 ∧ l = []) ∨ ∃ (h : Nat) (k : Kd), k.page = root ∧ Sub v h 1 12 k l
theorem Rt.le {v v' : Int → Option Nd} (hv : Le v v') {r : Int} {l : List Ent} (h : Rt v r l) : Rt v' r l := by
 rcases h with h | ⟨h, k, h1, h2⟩
 · exact .inl h
 · exact .inr ⟨h, k, h1, h2.le hv⟩
theorem Tl.root {v : Int → Option Nd} {x : Tall} {l : List Ent} (h : Tl v x l) : Rt v x.kid.page l := by
 rcases h with ⟨rfl, rfl⟩ | ⟨h, h1, h2⟩
 · exact .inl ⟨rfl, rfl⟩
 · exact .inr ⟨h, _, rfl, h2⟩
theorem Rt.fit {v : Int → Option Nd} {r : Int} {l : List Ent} (h : Rt v r l) : Fit l := by
 rcases h with ⟨_, rfl⟩ | ⟨h, k, h1, h2⟩
 · exact Fit.nil
 · exact h2.fine.fit
end
end Go.Tr
namespace Go.Tr
set_option linter.unusedSimpArgs false
set_option linter.unusedVariables false
def Joined : List Ent → Prop
 | a :: b :: l => meets a b = false ∧ Joined (b :: l)
 | _ => True
theorem Joined.tail {a : Ent} {l : List Ent} (h : Joined (a :: l)) : Joined l := by
 cases l with
 | nil => trivial
 | cons b l => exact h.2
theorem joinTo_ne (o : List Ent) (x : Ent) : joinTo o x ≠ [] := by
 unfold joinTo
 cases o.getLast? with
 | none => simp
 | some a => simp only; split <;> simp
theorem joinTo_app (A o : List Ent) (x : Ent) (ho : o ≠ []) : joinTo (A ++ o) x = A ++ joinTo o x := by
 unfold joinTo
 rw [List.getLast?_append]
 cases h : o.getLast? with
 | none => exact absurd (List.getLast?_eq_none_iff.1 h) ho
 | some a =>
   simp only [Option.some_or]
   split
   · rw [List.dropLast_append_of_ne_nil ho, List.append_assoc]
   · rw [List.append_assoc]
theorem fold_app (A : List Ent) : ∀ (l o : List Ent), o ≠ [] → l.foldl joinTo (A ++ o) = A ++ l.foldl joinTo o
 | [], o, _ => rfl
 | x :: l, o, h => by
   rw [List.foldl_cons, List.foldl_cons, joinTo_app A o x h, fold_app A l _ (joinTo_ne o x)]
theorem join_cons (x : Ent) (l : List Ent) : join (x :: l) = l.foldl joinTo [x] := rfl
theorem join_joined : ∀ {l : List Ent}, Joined l → join l = l
 | [], _ => rfl
 | [a], _ => rfl
 | a :: b :: l, h => by
   have ih := join_joined (l := b :: l) h.2
   rw [join_cons] at ih ⊢
   rw [List.foldl_cons]
   have e : joinTo [a] b = [a] ++ [b] := by simp [joinTo, h.1]
   rw [e, fold_app [a] l [b] (by simp), ih]
   rfl
theorem Joined.left : ∀ {a b : List Ent}, Joined (a ++ b) → Joined a
 | [], b, _ => trivial
 | [x], b, _ => trivial
 | x :: y :: a, b, h => ⟨h.1, Joined.left (a := y :: a) (b := b) h.2⟩
theorem Joined.right : ∀ {a b : List Ent}, Joined (a ++ b) → Joined b
 | [], b, h => h
 | x :: a, b, h => Joined.right (a := a) (Joined.tail h)
theorem Joined.meet : ∀ {A : List Ent} {a b : Ent} {B : List Ent}, Joined (A ++ b :: B) → A.getLast? = some a → meets a b = false
 | [], a, b, B, h, e => by cases e
 | [x], a, b, B, h, e => by
  simp at e
  subst e
  exact h.1
 | x :: y :: A, a, b, B, h, e => Joined.meet (A := y :: A) h.2 (by simpa using e)
theorem joined_app : ∀ {A B : List Ent}, Joined A → Joined B → (∀ a b B', A.getLast? = some a → B = b :: B' → meets a b = false) → Joined (A ++ B)
 | [], B, _, hB, _ => hB
 | [x], [], _, _, _ => trivial
 | [x], b :: B, _, hB, h => ⟨h x b B rfl rfl, hB⟩
 | x :: y :: A, B, hA, hB, h => ⟨hA.1, joined_app (A := y :: A) hA.2 hB fun a b B' e1 e2 => h a b B' (by simpa using e1) e2⟩
/-! entries that may be -/
theorem mayE_iff {x : Ent} : mayEnt x = true ↔ ((x.src = 0 ∨ x.src = 1) ∧ 0 ≤ x.pos ∧ x.pos ≤ 16777216 ∧ 1 ≤ x.len ∧ x.len ≤ 16777216 - x.pos ∧ x.len ≤ 1048576 ∧ (-1 ≤ x.lines ∧ x.lines ≤ x.len) ∧ (x.src = 1 ∨ x.lines = -1)) := by
 unfold mayEnt
 exact decide_eq_true_iff
theorem part_may {x : Ent} (h : mayEnt x = true) {a b : Int} (ha : 0 ≤ a) (hb : b ≤ x.len) : ∀ y ∈ part x a b, mayEnt y = true := by
 rw [mayE_iff] at h
 intro y hy
 unfold part at hy
 split at hy
 · simp at hy
 · split at hy
   · simp at hy
     subst hy
     rw [mayE_iff]
     simp only
     refine ⟨h.1, by omega, by omega, by omega, by omega, by omega, ?_, ?_⟩
     · split <;> omega
     · rcases h.2.2.2.2.2.2.2 with c | c
       · exact .inl c
       · exact .inr (by split <;> omega)
   · simp at hy
     subst hy
     rw [mayE_iff]
     exact h
/-! the first bytes of a list, and the others -/
def cutE (x : Ent) (a n : Int) : Ent := { x with pos := x.pos + a, len := n, lines := if x.lines = 0 then 0 else -1 }
def first : List Ent → Int → List Ent × List Ent
 | [], _ => ([], [])
 | x :: l, n => if x.len ≤ n then (x :: (first l (n - x.len)).1, (first l (n - x.len)).2)
   else if n ≤ 0 then ((first l (n - x.len)).1, x :: (first l (n - x.len)).2)
   else (cutE x 0 n :: (first l (n - x.len)).1, cutE x n (x.len - n) :: (first l (n - x.len)).2)
end Go.Tr
