/-
  Versions are found sound just if they are in the words of the document. No condition. (part 40)
-/
import Derived.Test.YtfhbmblbidcmmaaGreatWa21
import Derived.Test.YtfhbmblbidcmmaaGreatWa27
import Derived.Test.YtfhbmblbidcmmaaGreatWa19
set_option linter.unusedSimpArgs false
set_option linter.unusedVariables false
open Go.Proofs.YtfhbmblbidcmmaaGreat
namespace Go.Tr
def linR (l : List Int) (L : Int) : Int := l.foldl (fun L x => (if x < 0 then -1099511627776 else L) + x) L
def linOk (a L b : Int) : Prop := (0 ≤ a ∧ L = a ∧ a ≤ b) ∨ (a = -1 ∧ -1099511627777 ≤ L ∧ L ≤ -1099511627776 + b)
theorem linR_step {a L b x y : Int} (h : linOk a L b) (h1 : -1 ≤ x) (h2 : x ≤ y) (h3 : 0 ≤ y) : linOk (addL a x) ((if x < 0 then -1099511627776 else L) + x) (b + y) := by
 unfold linOk addL at *
 split <;> split <;> omega
theorem linR_ok {α : Type} (ln by_ : α → Int) : ∀ (l : List α) {a L b : Int}, linOk a L b → (∀ e ∈ l, -1 ≤ ln e ∧ ln e ≤ by_ e ∧ 0 ≤ by_ e) → linOk ((l.map ln).foldl addL a) (linR (l.map ln) L) (b + (l.map by_).sum)
 | [], a, L, b, h, _ => by simpa [linR] using h
 | e :: l, a, L, b, h, hl => by
   have h1 := hl e (List.mem_cons_self ..)
   have h2 := linR_ok ln by_ l (linR_step h h1.1 h1.2.1 h1.2.2) fun e he => hl e (List.mem_cons_of_mem _ he)
   rw [List.map_cons, List.foldl_cons, List.map_cons, List.sum_cons]
   rw [show b + (by_ e + (l.map by_).sum) = b + by_ e + (l.map by_).sum by omega]
   exact h2
theorem linOk_max {a L b : Int} (h : linOk a L b) (hb : b ≤ 1048576) : max L (-1) = a := by
 unfold linOk at h
 omega
theorem linR_snoc (l : List Int) (x L : Int) : linR (l ++ [x]) L = (if x < 0 then -1099511627776 else linR l L) + x := by
 simp [linR, List.foldl_append]
def rSum (n : Nd) : Int × Int × Int := (eBytes n.ents + kBytes n.kids, max (linR (n.kids.map (·.lines)) (linR (n.ents.map (·.lines)) 0)) (-1), n.ents.length + kScraps n.kids)
theorem rSum_may {n : Nd} (h : may n = true) : rSum n = ndSum n := by
 have hs : ndSum n = (eBytes n.ents + kBytes n.kids, (n.kids.map (·.lines)).foldl addL ((n.ents.map (·.lines)).foldl addL 0), n.ents.length + kScraps n.kids) := by
  unfold ndSum; rw [if_pos h]
 rw [hs]
 have h0 : linOk 0 0 0 := .inl ⟨by omega, rfl, by omega⟩
 have hE : ∀ e ∈ n.ents, -1 ≤ e.lines ∧ e.lines ≤ e.len ∧ 0 ≤ e.len := by
  cases hl : n.leaf with
  | true => intro e he; have := mayE_len ((may_leaf h hl).2.1 e he); omega
  | false => rw [(may_inner h hl).1]; intro e he; cases he
 have hK : ∀ k ∈ n.kids, -1 ≤ k.lines ∧ k.lines ≤ k.bytes ∧ 0 ≤ k.bytes := by
  cases hl : n.leaf with
  | true => rw [(may_leaf h hl).1]; intro e he; cases he
  | false => intro e he; have := mayK_facts ((may_inner h hl).2.1 e he); omega
 have hb : eBytes n.ents + kBytes n.kids ≤ 1048576 := by
  cases hl : n.leaf with
  | true => rw [(may_leaf h hl).1]; have := (may_leaf h hl).2.2.2.2; have : kBytes [] = 0 := rfl; omega
  | false => rw [(may_inner h hl).1]; have := (may_inner h hl).2.2.2.2.1; have : eBytes [] = 0 := rfl; omega
 have h1 := linR_ok (fun x : Kd => x.lines) (fun x : Kd => x.bytes) n.kids (linR_ok (fun x : Ent => x.lines) (fun x : Ent => x.len) n.ents h0 hE) hK
 have h2 := linOk_max h1 (by unfold eBytes kBytes at hb; omega)
 unfold rSum
 rw [h2]
structure SumOk (n : Nd) : Prop where
 e : n.ents.length ≤ 12
 k : n.kids.length ≤ 12
 es : ∀ x ∈ n.ents, 0 ≤ x.len ∧ x.len ≤ 1048576 ∧ -1 ≤ x.lines ∧ x.lines ≤ 1048576
 ks : ∀ x ∈ n.kids, 0 ≤ x.bytes ∧ x.bytes ≤ 1048576 ∧ -1 ≤ x.lines ∧ x.lines ≤ 1048576 ∧ 0 ≤ x.scraps ∧ x.scraps ≤ 1048576
theorem SumOk.zero : SumOk nd0 := ⟨by simp [nd0], by simp [nd0], by simp [nd0], by simp [nd0]⟩
theorem SumOk.of {n : Nd} (h : may n = true) : SumOk n := by
 cases hl : n.leaf with
 | true =>
   obtain ⟨h1, h2, h3, h4, h5⟩ := may_leaf h hl
   refine ⟨h4, by rw [h1]; simp, fun x hx => ?_, by rw [h1]; simp⟩
   have h6 := mayE_len (h2 x hx)
   have h7 := mayE_iff.1 (h2 x hx)
   omega
 | false =>
   obtain ⟨h1, h2, h3, h4, h5, h6⟩ := may_inner h hl
   refine ⟨by rw [h1]; simp, h4, by rw [h1]; simp, fun x hx => ?_⟩
   have h7 := mayK_facts (h2 x hx)
   omega
theorem linR_at {α : Type} (ln : α → Int) {l : List α} {i : Nat} {x : α} (h : l[i]? = some x) (L : Int) : linR ((l.take (i + 1)).map ln) L = (if ln x < 0 then -1099511627776 else linR ((l.take i).map ln) L) + ln x := by
 rw [take_snoc' h, List.map_append]
 exact linR_snoc _ _ _
def fileNode (file : List UInt8) (no : Int) : Option Nd :=
 if no < 1 ∨ 1048576 ≤ no ∨ (file.length : Int) < 256 * no + 256 then none else openNd no ((file.drop (256 * no.toNat)).take 256)
structure Lk where
 ok : Bool
 height : Int
 ents : List Ent
 pages : List Int
def lk0 : Lk := ⟨false, 0, [], []⟩
variable (V : Int → Option Nd)
def nodeOr (p : Int) : Nd := (V p).getD nd0
def rKid (x : Lk) (s : Int × Int × Int) (first : Bool) (k : Kd) (o : Lk) : Option Lk :=
 if x.ok = false ∨ s.1 ≠ k.bytes ∨ s.2.1 ≠ k.lines ∨ s.2.2 ≠ k.scraps ∨ (first = false ∧ x.height + 1 ≠ o.height) then none
 else if 1024 < (o.ents ++ x.ents).length then none
 else some ⟨true, x.height + 1, o.ents ++ x.ents, o.pages ++ x.pages⟩
def rKids (bl : Int → Lk) : List Kd → Bool → Lk → Lk
 | [], _, o => o
 | k :: ks, first, o => match rKid (bl k.page) (rSum (nodeOr V k.page)) first k o with
   | none => lk0
   | some o' => rKids bl ks false o'
def rBelow : Nat → Int → Bool → Lk
 | 0, _, _ => lk0
 | f + 1, no, top => match V no with
   | none => lk0
   | some n => if top = false ∧ many n < 4 then lk0 else rKids V (fun p => rBelow f p false) n.kids true ⟨true, 0, n.ents, [no]⟩
def rTree (root : Int) : Lk :=
 if root = 0 then ⟨true, 0, [], []⟩ else
  if (rBelow V 13 root true).ok = false ∨ (join (rBelow V 13 root true).ents).length ≠ (rBelow V 13 root true).ents.length then lk0 else rBelow V 13 root true
variable {V}
theorem rKid_ok {x : Lk} {s : Int × Int × Int} {first : Bool} {k : Kd} {o o' : Lk} (h : rKid x s first k o = some o') : x.ok = true ∧ s = (k.bytes, k.lines, k.scraps) ∧ (first = false → x.height + 1 = o.height) ∧ (o.ents ++ x.ents).length ≤ 1024 ∧ o' = ⟨true, x.height + 1, o.ents ++ x.ents, o.pages ++ x.pages⟩ := by
 unfold rKid at h
 split at h
 · cases h
 · next h1 =>
   split at h
   · cases h
   · next h2 =>
     cases h
     simp only [not_or, Decidable.not_not, not_and] at h1
     obtain ⟨a, b, c, d, e⟩ := h1
     exact ⟨by simpa using a, by ext <;> assumption, e, by omega, rfl⟩
structure LkOk (top : Bool) (f : Nat) (x : Lk) : Prop where
 h0 : 0 ≤ x.height
 h1 : x.height ≤ f
 ents : x.ents.length ≤ 1036
 pages : x.pages.length ≤ 1 + x.ents.length
 low : top = false → x.ok = true → x.pages.length + 1 ≤ x.ents.length
 may : ∀ e ∈ x.ents, mayEnt e = true
theorem lk0_ok (top : Bool) (f : Nat) : LkOk top f lk0 := ⟨by simp [lk0], by simp [lk0], by simp [lk0], by simp [lk0], by simp [lk0], by simp [lk0]⟩
theorem rKids_ok {bl : Int → Lk} {f : Nat} (hb : ∀ p, LkOk false f (bl p)) : ∀ (ks : List Kd) (first : Bool) (o : Lk) (m : Nat), 0 ≤ o.height → o.height ≤ f + 1 → o.ents.length ≤ 1036 → o.pages.length + m ≤ 1 + o.ents.length → (∀ e ∈ o.ents, mayEnt e = true) → o.ok = true → LkOk true (f + 1) (rKids V bl ks first o) ∧ ((rKids V bl ks first o).ok = true → (rKids V bl ks first o).pages.length + (m + ks.length) ≤ 1 + (rKids V bl ks first o).ents.length)
 | [], _, o, m, h1, h2, h3, h4, h5, h6 => ⟨⟨h1, by exact_mod_cast h2, h3, by show o.pages.length ≤ 1 + o.ents.length; omega, by simp, h5⟩, fun _ => by simpa [rKids] using h4⟩
 | k :: ks, first, o, m, h1, h2, h3, h4, h5, h6 => by
   unfold rKids
   cases hr : rKid (bl k.page) (rSum (nodeOr V k.page)) first k o with
   | none => exact ⟨lk0_ok _ _, fun h => by simp [lk0] at h⟩
   | some o' =>
     obtain ⟨a, b, c, d, rfl⟩ := rKid_ok hr
     have hk := hb k.page
     have h7 := hk.low rfl a
     have := rKids_ok hb ks false ⟨true, (bl k.page).height + 1, o.ents ++ (bl k.page).ents, o.pages ++ (bl k.page).pages⟩ (m + 1) (by have := hk.h0; show 0 ≤ (bl k.page).height + 1; omega) (by have := hk.h1; show (bl k.page).height + 1 ≤ _; omega) (by show (o.ents ++ (bl k.page).ents).length ≤ 1036; omega) (by simp only [List.length_append]; omega) (fun e he => (List.mem_append.1 he).elim (h5 e) (hk.may e)) rfl
     exact ⟨this.1, fun h => by have := this.2 h; simp only [List.length_cons] at *; omega⟩
theorem rBelow_ok (hV : ∀ p n, V p = some n → may n = true) : ∀ (f : Nat) (p : Int) (top : Bool), LkOk top f (rBelow V f p top)
 | 0, _, top => lk0_ok top 0
 | f + 1, p, top => by
   unfold rBelow
   cases hn : V p with
   | none => exact lk0_ok _ _
   | some n =>
     simp only
     split
     · exact lk0_ok _ _
     · next h1 =>
       have hm := hV p n hn
       cases hl : n.leaf with
       | true =>
         obtain ⟨g1, g2, g3, g4, g5⟩ := may_leaf hm hl
         rw [g1]
         refine ⟨by simp [rKids], by simp only [rKids]; omega, by simp only [rKids]; omega, by simp [rKids], fun ht _ => ?_, g2⟩
         simp only [rKids, List.length_singleton]
         have : ¬ many n < 4 := fun h => h1 ⟨ht, h⟩
         unfold many at this
         rw [g1] at this
         simp at this
         omega
       | false =>
         obtain ⟨g1, g2, g3, g4, g5, g6⟩ := may_inner hm hl
         rw [g1]
         have := rKids_ok (V := V) (fun q => rBelow_ok hV f q false) n.kids true ⟨true, 0, [], [p]⟩ 0 (by simp) (by simp only; omega) (by simp) (by simp) (by simp) rfl
         refine ⟨this.1.h0, this.1.h1, this.1.ents, this.1.pages, fun _ h => ?_, this.1.may⟩
         have h2 := this.2 h
         omega
theorem fileNode_may {file : List UInt8} {p : Int} {n : Nd} (h : fileNode file p = some n) : may n = true := by
 unfold fileNode at h
 split at h
 · cases h
 · exact openNd_may h
end Go.Tr
open Go.Proofs.YtfhbmblbidcmmaaGreat
namespace Go.Tr
theorem joinTo_grow (o : List Ent) (x : Ent) : (joinTo o x).length ≤ o.length + 1 := by
 unfold joinTo
 split
 · simp
 · split
   · simp only [List.length_append, List.length_dropLast, List.length_singleton]; omega
   · simp
theorem fold_len : ∀ (l o : List Ent), (l.foldl joinTo o).length ≤ o.length + l.length
 | [], o => by simp
 | x :: l, o => by
   have h1 := fold_len l (joinTo o x)
   have h2 := joinTo_grow o x
   simp only [List.foldl_cons, List.length_cons]
   omega
theorem fold_len_joined : ∀ (l o : List Ent), Joined o → (l.foldl joinTo o).length = o.length + l.length → Joined (o ++ l)
 | [], o, ho, _ => by simpa using ho
 | x :: l, o, ho, h => by
   have h1 := fold_len l (joinTo o x)
   simp only [List.foldl_cons, List.length_cons] at h
   have h3 : joinTo o x = o ++ [x] ∧ Joined (o ++ [x]) := by
    unfold joinTo at h h1 ⊢
    cases hg : o.getLast? with
    | none => rw [List.getLast?_eq_none_iff.1 hg]; exact ⟨rfl, trivial⟩
    | some a =>
      rw [hg] at h h1
      simp only at h h1 ⊢
      cases hm : meets a x with
      | true =>
        exfalso
        rw [hm, if_pos rfl] at h h1
        have : o ≠ [] := by intro e; rw [e] at hg; cases hg
        have := List.length_pos_iff.2 this
        simp only [List.length_append, List.length_dropLast, List.length_singleton] at h h1
        omega
      | false =>
        rw [if_neg (by simp)]
        refine ⟨rfl, joined_app ho trivial fun c b B' hc hb => ?_⟩
        rw [hg] at hc
        cases hc
        cases hb
        exact hm
   have h4 := fold_len_joined l (o ++ [x]) h3.2 (by rw [← h3.1, h, h3.1]; simp; omega)
   simpa using h4
theorem join_len {l : List Ent} : (join l).length = l.length ↔ Joined l :=
 ⟨fun h => by have := fold_len_joined l [] trivial (by simpa [join] using h); simpa using this, fun h => by rw [join_joined h]⟩
structure Sn where
 h : Int
 count : Int
 first : Ent
 last : Ent
def e0 : Ent := ⟨0, 0, 0, 0⟩
def sn0 : Sn := ⟨0, 0, e0, e0⟩
def cKid (y : Sn) (s : Int × Int × Int) (first : Bool) (k : Kd) (x : Sn) : Option Sn :=
 if s ≠ (k.bytes, k.lines, k.scraps) ∨ (first = false ∧ (y.h + 1 ≠ x.h ∨ meets x.last y.first = true)) then none
 else if 1024 < x.count + y.count then none
 else some ⟨if first then y.h + 1 else x.h, x.count + y.count, if first then y.first else x.first, y.last⟩
variable (V : Int → Option Nd)
def cKids (ch : Int → Option Sn) : List Kd → Bool → Sn → Option Sn
 | [], _, x => some x
 | k :: ks, first, x => match ch k.page with
   | none => none
   | some y => match cKid y (ndSum (nodeOr V k.page)) first k x with
     | none => none
     | some x' => cKids ch ks false x'
def cNode (ch : Int → Option Sn) (n : Nd) (top : Bool) : Option Sn :=
 if top = false ∧ many n < 4 then none
 else if n.leaf then (if (join n.ents).length ≠ n.ents.length then none else some ⟨0, n.ents.length, n.ents.headD e0, n.ents.getLastD e0⟩)
 else cKids V ch n.kids true sn0
def chk : Nat → Int → Bool → Option Sn
 | 0, _, _ => none
 | f + 1, no, top => match V no with
   | none => none
   | some n => cNode V (fun p => chk f p false) n top
variable {V}
theorem cKid_some {y : Sn} {s : Int × Int × Int} {first : Bool} {k : Kd} {x x' : Sn} (h : cKid y s first k x = some x') : s = (k.bytes, k.lines, k.scraps) ∧ (first = false → y.h + 1 = x.h ∧ meets x.last y.first = false) ∧ x.count + y.count ≤ 1024 ∧ x' = ⟨y.h + 1, x.count + y.count, if first then y.first else x.first, y.last⟩ := by
 unfold cKid at h
 split at h
 · cases h
 · next h1 =>
   split at h
   · cases h
   · next h2 =>
     simp only [not_or, Decidable.not_not, not_and] at h1
     have h3 : first = false → y.h + 1 = x.h ∧ meets x.last y.first = false := fun e => ⟨(h1.2 e).1, by simpa using (h1.2 e).2⟩
     refine ⟨h1.1, h3, by omega, ?_⟩
     cases h
     cases first with
     | true => rfl
     | false => rw [(h3 rfl).1]; rfl
structure SnIs (x : Sn) (l : List Ent) : Prop where
 ne : l ≠ []
 join : Joined l
 count : x.count = l.length
 first : l.head? = some x.first
 last : l.getLast? = some x.last
structure St (first : Bool) (x : Sn) (o : Lk) : Prop where
 ok : o.ok = true
 one : first = true → o.ents = [] ∧ x.count = 0
 more : first = false → SnIs x o.ents ∧ x.h = o.height
theorem rKid_some {x : Lk} {s : Int × Int × Int} {first : Bool} {k : Kd} {o : Lk} (h1 : x.ok = true) (h2 : s = (k.bytes, k.lines, k.scraps)) (h3 : first = false → x.height + 1 = o.height) (h4 : (o.ents ++ x.ents).length ≤ 1024) : rKid x s first k o = some ⟨true, x.height + 1, o.ents ++ x.ents, o.pages ++ x.pages⟩ := by
 unfold rKid
 rw [if_neg (by rw [h1, h2]; simp only [not_or, Decidable.not_not, not_and]; exact ⟨by simp, trivial, trivial, trivial, h3⟩), if_neg (by omega)]
theorem cKid_is {y : Sn} {s : Int × Int × Int} {first : Bool} {k : Kd} {x : Sn} (h1 : s = (k.bytes, k.lines, k.scraps)) (h2 : first = false → y.h + 1 = x.h ∧ meets x.last y.first = false) (h3 : x.count + y.count ≤ 1024) : ∃ x', cKid y s first k x = some x' := by
 unfold cKid
 rw [if_neg (by
  simp only [not_or, Decidable.not_not, not_and]
  exact ⟨h1, fun e => ⟨(h2 e).1, by rw [(h2 e).2]; simp⟩⟩), if_neg (by omega)]
 exact ⟨_, rfl⟩
theorem SnIs.two {x y : Sn} {l m : List Ent} (h : SnIs x l) (g : SnIs y m) (hm : meets x.last y.first = false) : SnIs ⟨y.h + 1, x.count + y.count, x.first, y.last⟩ (l ++ m) := by
 refine ⟨by simp [h.ne], joined_app h.join g.join fun a b B' e1 e2 => ?_, by simp [h.count, g.count], ?_, ?_⟩
 · rw [h.last] at e1
   have := g.first
   rw [e2] at this
   cases e1
   cases this
   exact hm
 · rw [List.head?_append, h.first]; rfl
 · rw [List.getLast?_append, g.last]; rfl
theorem SnIs.len {x : Sn} {l : List Ent} (h : SnIs x l) : 1 ≤ l.length := List.length_pos_iff.2 h.ne
section
variable {ch : Int → Option Sn} {bl : Int → Lk}
structure KidIs (V : Int → Option Nd) (ch : Int → Option Sn) (bl : Int → Lk) (p : Int) : Prop where
 a : ∀ y, ch p = some y → (bl p).ok = true ∧ (bl p).height = y.h ∧ SnIs y (bl p).ents
 b : (bl p).ok = true → Joined (bl p).ents → ∃ y, ch p = some y
 sum : (bl p).ok = true → rSum (nodeOr V p) = ndSum (nodeOr V p)
 ne : (bl p).ok = true → (bl p).ents ≠ []
theorem kid_fwd {first : Bool} {k : Kd} {x x' y : Sn} {o : Lk} (hk : KidIs V ch bl k.page) (hs : St first x o) (h1 : ch k.page = some y) (h2 : cKid y (ndSum (nodeOr V k.page)) first k x = some x') : ∃ o', rKid (bl k.page) (rSum (nodeOr V k.page)) first k o = some o' ∧ St false x' o' := by
 obtain ⟨a1, a2, a3⟩ := hk.a y h1
 obtain ⟨c1, c2, c3, rfl⟩ := cKid_some h2
 have hc : (o.ents ++ (bl k.page).ents).length ≤ 1024 := by
  rw [List.length_append]
  have := a3.count
  cases first with
  | true => rw [(hs.one rfl).1]; have := (hs.one rfl).2; simp; omega
  | false => have := (hs.more rfl).1.count; omega
 refine ⟨_, rKid_some a1 (by rw [hk.sum a1, c1]) (fun e => by rw [a2, (c2 e).1, (hs.more e).2]) hc, rfl, fun e => (Bool.noConfusion e), fun _ => ⟨?_, by rw [a2]⟩⟩
 cases first with
 | true =>
   rw [(hs.one rfl).1, List.nil_append]
   have := (hs.one rfl).2
   exact ⟨a3.ne, a3.join, by simp only; rw [this, a3.count]; omega, a3.first, a3.last⟩
 | false => exact (hs.more rfl).1.two a3 (c2 rfl).2
theorem kid_bwd {first : Bool} {k : Kd} {x : Sn} {o o' : Lk} (hk : KidIs V ch bl k.page) (hs : St first x o) (h1 : rKid (bl k.page) (rSum (nodeOr V k.page)) first k o = some o') (hj : Joined o'.ents) : ∃ y x', ch k.page = some y ∧ cKid y (ndSum (nodeOr V k.page)) first k x = some x' := by
 obtain ⟨c1, c2, c3, c4, rfl⟩ := rKid_ok h1
 obtain ⟨y, hy⟩ := hk.b c1 (Joined.right hj)
 obtain ⟨a1, a2, a3⟩ := hk.a y hy
 rw [List.length_append] at c4
 have hc := a3.count
 have hmt : first = false → meets x.last y.first = false := fun e => by
  obtain ⟨b, B, hB⟩ : ∃ b B, (bl k.page).ents = b :: B := by
   cases hq : (bl k.page).ents with
   | nil => exact absurd hq (hk.ne c1)
   | cons b B => exact ⟨b, B, rfl⟩
  have h7 := a3.first
  rw [hB] at h7 hj
  cases h7
  exact Joined.meet hj (hs.more e).1.last
 obtain ⟨x', hx⟩ := cKid_is (y := y) (s := ndSum (nodeOr V k.page)) (first := first) (k := k) (x := x) (by rw [← hk.sum c1, c2]) (fun e => ⟨by rw [← a2, c3 e, (hs.more e).2], hmt e⟩) (by
  cases first with
  | true => have := (hs.one rfl).2; omega
  | false => have := (hs.more rfl).1.count; omega)
 exact ⟨y, x', hy, hx⟩
theorem rKids_ents : ∀ (ks : List Kd) (first : Bool) (o : Lk), (rKids V bl ks first o).ok = true → ∃ t, (rKids V bl ks first o).ents = o.ents ++ t
 | [], _, o, _ => ⟨[], by simp [rKids]⟩
 | k :: ks, first, o, h => by
   unfold rKids at h ⊢
   cases hr : rKid (bl k.page) (rSum (nodeOr V k.page)) first k o with
   | none => rw [hr] at h; simp [lk0] at h
   | some o' =>
     rw [hr] at h
     simp only at h ⊢
     obtain ⟨_, _, _, _, rfl⟩ := rKid_ok hr
     obtain ⟨t, ht⟩ := rKids_ents ks false _ h
     exact ⟨(bl k.page).ents ++ t, by rw [ht, List.append_assoc]⟩
theorem kids_fwd : ∀ (ks : List Kd) (first : Bool) (x z : Sn) (o : Lk), (∀ k ∈ ks, KidIs V ch bl k.page) → St first x o → (ks ≠ [] ∨ first = false) → cKids V ch ks first x = some z → St false z (rKids V bl ks first o)
 | [], first, x, z, o, _, hs, h, hz => by
  have : first = false := h.elim (fun e => absurd rfl e) id
  subst this
  cases hz
  exact hs
 | k :: ks, first, x, z, o, hk, hs, _, hz => by
   unfold cKids at hz
   cases hc : ch k.page with
   | none => rw [hc] at hz; cases hz
   | some y =>
     rw [hc] at hz
     simp only at hz
     cases hx : cKid y (ndSum (nodeOr V k.page)) first k x with
     | none => rw [hx] at hz; cases hz
     | some x' =>
       rw [hx] at hz
       obtain ⟨o', ho, hs'⟩ := kid_fwd (hk k (List.mem_cons_self ..)) hs hc hx
       unfold rKids
       rw [ho]
       exact kids_fwd ks false x' z o' (fun k h => hk k (List.mem_cons_of_mem _ h)) hs' (.inr rfl) hz
theorem kids_bwd : ∀ (ks : List Kd) (first : Bool) (x : Sn) (o : Lk), (∀ k ∈ ks, KidIs V ch bl k.page) → St first x o → (rKids V bl ks first o).ok = true → Joined (rKids V bl ks first o).ents → ∃ z, cKids V ch ks first x = some z
 | [], first, x, o, _, _, _, _ => ⟨x, rfl⟩
 | k :: ks, first, x, o, hk, hs, h1, h2 => by
   unfold rKids at h1 h2
   cases hr : rKid (bl k.page) (rSum (nodeOr V k.page)) first k o with
   | none => rw [hr] at h1; simp [lk0] at h1
   | some o' =>
     rw [hr] at h1 h2
     simp only at h1 h2
     obtain ⟨t, ht⟩ := rKids_ents ks false o' h1
     have hj : Joined o'.ents := by rw [ht] at h2; exact h2.left
     obtain ⟨y, x', hy, hx⟩ := kid_bwd (hk k (List.mem_cons_self ..)) hs hr hj
     obtain ⟨o2, ho, hs'⟩ := kid_fwd (hk k (List.mem_cons_self ..)) hs hy hx
     rw [hr] at ho
     cases ho
     obtain ⟨z, hz⟩ := kids_bwd ks false x' o' (fun k h => hk k (List.mem_cons_of_mem _ h)) hs' h1 h2
     refine ⟨z, ?_⟩
     unfold cKids
     rw [hy]
     simp only
     rw [hx]
     exact hz
end
theorem snIs_leaf {l : List Ent} (h : l ≠ []) (hj : Joined l) : SnIs ⟨0, l.length, l.headD e0, l.getLastD e0⟩ l := by
 refine ⟨h, hj, rfl, ?_, ?_⟩
 · cases l with
   | nil => exact absurd rfl h
   | cons a l => rfl
 · cases l with
   | nil => exact absurd rfl h
   | cons a l => rw [List.getLastD_eq_getLast?, List.getLast?_cons]; rfl
theorem chk_rel (hV : ∀ p n, V p = some n → may n = true) : ∀ (f : Nat) (p : Int) (top : Bool),
 (∀ y, chk V f p top = some y → (rBelow V f p top).ok = true ∧ (rBelow V f p top).height = y.h ∧ SnIs y (rBelow V f p top).ents) ∧
 ((rBelow V f p top).ok = true → (V p).isSome ∧ (rBelow V f p top).ents ≠ [] ∧ (Joined (rBelow V f p top).ents → ∃ y, chk V f p top = some y))
 | 0, p, top => ⟨fun y h => by simp [chk] at h, fun h => by simp [rBelow, lk0] at h⟩
 | f + 1, p, top => by
   unfold chk rBelow
   cases hn : V p with
   | none => exact ⟨fun y h => by simp at h, fun h => by simp [lk0] at h⟩
   | some n =>
     simp only
     have hm := hV p n hn
     have hk : ∀ q, KidIs V (fun p => chk V f p false) (fun p => rBelow V f p false) q := fun q => by
      obtain ⟨g1, g2⟩ := chk_rel hV f q false
      refine ⟨g1, fun h1 h2 => (g2 h1).2.2 h2, fun h => ?_, fun h => (g2 h).2.1⟩
      obtain ⟨m, hq⟩ := Option.isSome_iff_exists.1 (g2 h).1
      unfold nodeOr
      rw [hq]
      exact rSum_may (hV q m hq)
     unfold cNode
     by_cases h4 : top = false ∧ many n < 4
     · rw [if_pos h4, if_pos h4]
       exact ⟨fun y h => by simp at h, fun h => by simp [lk0] at h⟩
     rw [if_neg h4, if_neg h4]
     cases hl : n.leaf with
     | true =>
       obtain ⟨g1, g2, g3, g4, g5⟩ := may_leaf hm hl
       have hne : n.ents ≠ [] := List.length_pos_iff.1 g3
       rw [g1]
       simp only [if_true, rKids]
       refine ⟨fun y hy => ?_, fun _ => ⟨rfl, hne, fun hj => ?_⟩⟩
       · split at hy
         · cases hy
         · next hj =>
           cases hy
           exact ⟨trivial, rfl, snIs_leaf hne (join_len.1 (by simpa using hj))⟩
       · rw [if_neg (by rw [join_len.2 hj]; simp)]
         exact ⟨_, rfl⟩
     | false =>
       obtain ⟨g1, g2, g3, g4, g5, g6⟩ := may_inner hm hl
       have hne : n.kids ≠ [] := by intro e; rw [e] at g3; simp at g3
       rw [g1]
       simp only [Bool.false_eq_true, if_false]
       have hs : St true sn0 ⟨true, 0, [], [p]⟩ := ⟨rfl, fun _ => ⟨rfl, rfl⟩, fun e => Bool.noConfusion e⟩
       refine ⟨fun y hy => ?_, fun h => ⟨rfl, ?_, fun hj => kids_bwd n.kids true sn0 _ (fun k _ => hk k.page) hs h hj⟩⟩
       · have h9 := kids_fwd n.kids true sn0 y _ (fun k _ => hk k.page) hs (.inl hne) hy
         exact ⟨h9.ok, (h9.more rfl).2.symm, (h9.more rfl).1⟩
       · cases hks : n.kids with
         | nil => exact absurd hks hne
         | cons k ks =>
           rw [hks] at h
           unfold rKids at h ⊢
           cases hr : rKid (rBelow V f k.page false) (rSum (nodeOr V k.page)) true k ⟨true, 0, [], [p]⟩ with
           | none => simp only [hr] at h; simp [lk0] at h
           | some o' =>
             simp only [hr] at h ⊢
             obtain ⟨t, ht⟩ := rKids_ents ks false o' h
             obtain ⟨c1, _, _, _, rfl⟩ := rKid_ok hr
             rw [ht]
             have := (hk k.page).ne c1
             simp [this]
theorem chk_tree (hV : ∀ p n, V p = some n → may n = true) {root : Int} (h0 : root ≠ 0) : (rTree V root).ok = true ↔ ∃ y, chk V 13 root true = some y := by
 obtain ⟨g1, g2⟩ := chk_rel hV 13 root true
 unfold rTree
 rw [if_neg h0]
 constructor
 · intro h
   split at h
   · simp [lk0] at h
   · next h1 =>
     simp only [not_or, Decidable.not_not] at h1
     exact (g2 h).2.2 (join_len.1 h1.2)
 · rintro ⟨y, hy⟩
   obtain ⟨a, b, c⟩ := g1 y hy
   rw [if_neg (by rw [a, join_len.2 c.join]; simp)]
   exact a
end Go.Tr
open Go.Proofs.YtfhbmblbidcmmaaGreat
namespace Go.Tr
variable {V : Int → Option Nd}
theorem cKids_cons (ch : Int → Option Sn) (k : Kd) (ks : List Kd) (first : Bool) (x : Sn) : cKids V ch (k :: ks) first x = match ch k.page with
 | none => none
 | some y => match cKid y (ndSum (nodeOr V k.page)) first k x with
   | none => none
   | some x' => cKids V ch ks false x' := rfl
theorem cKids_more {ch ch' : Int → Option Sn} : ∀ (ks : List Kd) (first : Bool) (x z : Sn), (∀ p y, ch p = some y → y.h + 1 = z.h → ch' p = some y) → cKids V ch ks first x = some z → cKids V ch' ks first x = some z ∧ (first = false → z.h = x.h)
 | [], first, x, z, _, h => by cases h; exact ⟨rfl, fun _ => rfl⟩
 | k :: ks, first, x, z, hc, h => by
   rw [cKids_cons] at h
   cases hy : ch k.page with
   | none => rw [hy] at h; cases h
   | some y =>
     rw [hy] at h
     simp only at h
     cases hx : cKid y (ndSum (nodeOr V k.page)) first k x with
     | none => rw [hx] at h; cases h
     | some x' =>
       rw [hx] at h
       simp only at h
       obtain ⟨h1, h2⟩ := cKids_more ks false x' z hc h
       obtain ⟨c1, c2, c3, rfl⟩ := cKid_some hx
       have h3 : z.h = y.h + 1 := h2 rfl
       refine ⟨?_, fun e => by rw [h3, (c2 e).1]⟩
       rw [cKids_cons, hc k.page y hy h3.symm]
       simp only [hx]
       exact h1
theorem cKids_first {ch : Int → Option Sn} {k : Kd} {ks : List Kd} {first : Bool} {x z : Sn} (h : cKids V ch (k :: ks) first x = some z) : ∃ y, ch k.page = some y ∧ z.h = y.h + 1 := by
 rw [cKids_cons] at h
 cases hy : ch k.page with
 | none => rw [hy] at h; cases h
 | some y =>
   rw [hy] at h
   simp only at h
   cases hx : cKid y (ndSum (nodeOr V k.page)) first k x with
   | none => rw [hx] at h; cases h
   | some x' =>
     rw [hx] at h
     simp only at h
     obtain ⟨c1, c2, c3, rfl⟩ := cKid_some hx
     exact ⟨y, rfl, (cKids_more (ch' := ch) ks false _ z (fun _ _ h _ => h) h).2 rfl⟩
theorem chk_tight (hV : ∀ p n, V p = some n → may n = true) : ∀ (f : Nat) (p : Int) (top : Bool) (y : Sn), chk V f p top = some y → 0 ≤ y.h ∧ y.h < f ∧ ∀ g : Nat, y.h < g → chk V g p top = some y
 | 0, p, top, y, h => by simp [chk] at h
 | f + 1, p, top, y, h => by
   unfold chk at h
   cases hn : V p with
   | none => rw [hn] at h; cases h
   | some n =>
     rw [hn] at h
     simp only at h
     have hm := hV p n hn
     have hrw : ∀ g : Nat, chk V (g + 1) p top = cNode V (fun p => chk V g p false) n top := fun g => by
      show (match V p with | none => none | some n => cNode V (fun p => chk V g p false) n top) = _
      rw [hn]
     unfold cNode at h hrw
     by_cases h4 : top = false ∧ many n < 4
     · rw [if_pos h4] at h; cases h
     rw [if_neg h4] at h
     cases hl : n.leaf with
     | true =>
       rw [hl, if_pos rfl] at h
       split at h
       · cases h
       · next hj =>
         cases h
         refine ⟨by simp, by simp only; omega, fun g hg => ?_⟩
         cases g with
         | zero => simp at hg
         | succ g => rw [hrw, if_neg h4, hl, if_pos rfl, if_neg hj]
     | false =>
       rw [hl, if_neg (by simp)] at h
       obtain ⟨g1, g2, g3, g4, g5, g6⟩ := may_inner hm hl
       cases hks : n.kids with
       | nil => rw [hks] at g3; simp at g3
       | cons k ks =>
         rw [hks] at h
         obtain ⟨y1, hy1, hz⟩ := cKids_first h
         obtain ⟨t1, t2, t3⟩ := chk_tight hV f k.page false y1 hy1
         refine ⟨by omega, by omega, fun g hg => ?_⟩
         cases g with
         | zero => omega
         | succ g =>
           rw [hrw, if_neg h4, hl, if_neg (by simp), hks]
           exact (cKids_more (k :: ks) true sn0 y (fun q z hq hzh => (chk_tight hV f q false z hq).2.2 g (by omega)) h).1
def Chk (V : Int → Option Nd) (p : Int) (top : Bool) (y : Sn) : Prop := ∃ f, chk V f p top = some y
theorem Chk.at (hV : ∀ p n, V p = some n → may n = true) {p : Int} {top : Bool} {y : Sn} (h : Chk V p top y) {f : Nat} (hf : y.h < f) : chk V f p top = some y := by
 obtain ⟨g, hg⟩ := h
 exact (chk_tight hV g p top y hg).2.2 f hf
theorem Chk.of (hV : ∀ p n, V p = some n → may n = true) {p : Int} {top : Bool} {y z : Sn} (h : Chk V p top y) {f : Nat} (hz : chk V f p top = some z) : z = y := by
 obtain ⟨g, hg⟩ := h
 have h1 := (chk_tight hV g p top y hg).2.2 (max f g) (by have := (chk_tight hV g p top y hg).2.1; omega)
 have h2 := (chk_tight hV f p top z hz).2.2 (max f g) (by have := (chk_tight hV f p top z hz).2.1; omega)
 rw [h1] at h2
 cases h2
 rfl
theorem Chk.h0 (hV : ∀ p n, V p = some n → may n = true) {p : Int} {top : Bool} {y : Sn} (h : Chk V p top y) : 0 ≤ y.h := by
 obtain ⟨g, hg⟩ := h
 exact (chk_tight hV g p top y hg).1
theorem Chk.is {p : Int} {top : Bool} {y : Sn} (h : Chk V p top y) : ∃ n, V p = some n := by
 obtain ⟨g, hg⟩ := h
 cases g with
 | zero => simp [chk] at hg
 | succ g =>
   unfold chk at hg
   cases hn : V p with
   | none => rw [hn] at hg; cases hg
   | some n => exact ⟨n, rfl⟩
structure Run (V : Int → Option Nd) (f : Nat) (n : Nd) (j : Nat) (x : Sn) : Prop where
 far : ∃ g0 : Nat, ∀ g : Nat, g0 ≤ g → cKids V (fun p => chk V g p false) n.kids true sn0 = cKids V (fun p => chk V g p false) (n.kids.drop j) (j == 0) x
 near : cKids V (fun p => chk V f p false) n.kids true sn0 = none ∨ cKids V (fun p => chk V f p false) n.kids true sn0 = cKids V (fun p => chk V f p false) (n.kids.drop j) (j == 0) x
theorem Run.zero (f : Nat) (n : Nd) : Run V f n 0 sn0 := ⟨⟨0, fun _ _ => rfl⟩, .inr rfl⟩
theorem Run.nil {f : Nat} {n : Nd} {j : Nat} {x : Sn} (h : Run V f n j x) (e : cKids V (fun p => chk V f p false) (n.kids.drop j) (j == 0) x = none) : cKids V (fun p => chk V f p false) n.kids true sn0 = none := h.near.elim id fun g => g.trans e
theorem drop_kid {α : Type} {l : List α} {j : Nat} {k : α} (hk : l[j]? = some k) : l.drop j = k :: l.drop (j + 1) := by
 obtain ⟨h2, h3⟩ := List.getElem?_eq_some_iff.1 hk
 rw [List.drop_eq_getElem_cons h2, h3]
theorem Run.fall {f : Nat} {n : Nd} {j : Nat} {x : Sn} {k : Kd} (h : Run V f n j x) (hk : n.kids[j]? = some k) (e : chk V f k.page false = none) : cKids V (fun p => chk V f p false) n.kids true sn0 = none := h.nil (by
 rw [drop_kid hk, cKids_cons, e])
theorem Run.unfit (hV : ∀ p n, V p = some n → may n = true) {f : Nat} {n : Nd} {j : Nat} {x y : Sn} {k : Kd} (h : Run V f n j x) (hk : n.kids[j]? = some k) (hy : Chk V k.page false y) (e : cKid y (ndSum (nodeOr V k.page)) (j == 0) k x = Option.none) : cKids V (fun p => chk V f p false) n.kids true sn0 = Option.none := h.nil (by
 rw [drop_kid hk, cKids_cons]
 cases hc : chk V f k.page false with
 | none => rfl
 | some z =>
   obtain rfl := hy.of hV hc
   simp only [e])
theorem Run.next (hV : ∀ p n, V p = some n → may n = true) {f : Nat} {n : Nd} {j : Nat} {x y x' : Sn} {k : Kd} (h : Run V f n j x) (hk : n.kids[j]? = some k) (hy : Chk V k.page false y) (e : cKid y (ndSum (nodeOr V k.page)) (j == 0) k x = some x') : Run V f n (j + 1) x' := by
 have hj : ((j + 1 == 0) = false) := by simp
 refine ⟨?_, ?_⟩
 · obtain ⟨g0, hg⟩ := h.far
   obtain ⟨g1, hg1⟩ := id hy
   refine ⟨max g0 g1, fun g hgg => ?_⟩
   rw [hg g (by omega), drop_kid hk, cKids_cons, hy.at hV (show y.h < (g : Int) by have := (chk_tight hV g1 _ _ _ hg1).2.1; omega)]
   simp only [e, hj]
 · rcases h.near with h1 | h1
   · exact .inl h1
   · rw [h1, drop_kid hk, cKids_cons]
     cases hc : chk V f k.page false with
     | none => exact .inl rfl
     | some z =>
       obtain rfl := hy.of hV hc
       simp only [e, hj]
       exact .inr trivial
theorem Run.done {f : Nat} {n : Nd} {x : Sn} {p : Int} {top : Bool} (h : Run V f n n.kids.length x) (hp : V p = some n) (hl : n.leaf = false) (h4 : ¬ (top = false ∧ many n < 4)) : Chk V p top x := by
 obtain ⟨g0, hg⟩ := h.far
 refine ⟨g0 + 1, ?_⟩
 show (match V p with | none => none | some n => cNode V (fun p => chk V g0 p false) n top) = _
 rw [hp]
 simp only
 unfold cNode
 rw [if_neg h4, hl, if_neg (by simp), hg g0 (Nat.le_refl _), List.drop_length]
 rfl
theorem chk_none {f : Nat} {p : Int} {top : Bool} {n : Nd} (hp : V p = some n) (hl : n.leaf = false) (h : cKids V (fun p => chk V f p false) n.kids true sn0 = Option.none) : chk V (f + 1) p top = Option.none := by
 show (match V p with | none => none | some n => cNode V (fun p => chk V f p false) n top) = _
 rw [hp]
 simp only
 unfold cNode
 rw [hl, if_neg (show ¬ (false = true) by simp), h]
 split <;> rfl
theorem chk_few {f : Nat} {p : Int} {top : Bool} {n : Nd} (hp : V p = some n) (h4 : top = false ∧ many n < 4) : chk V (f + 1) p top = Option.none := by
 show (match V p with | none => none | some n => cNode V (fun p => chk V f p false) n top) = _
 rw [hp]
 simp only
 unfold cNode
 rw [if_pos h4]
theorem chk_leaf {f : Nat} {p : Int} {top : Bool} {n : Nd} (hp : V p = some n) (hl : n.leaf = true) (h4 : ¬ (top = false ∧ many n < 4)) : chk V (f + 1) p top = if (join n.ents).length ≠ n.ents.length then Option.none else some ⟨0, n.ents.length, n.ents.headD e0, n.ents.getLastD e0⟩ := by
 show (match V p with | none => none | some n => cNode V (fun p => chk V f p false) n top) = _
 rw [hp]
 simp only
 unfold cNode
 rw [if_neg h4, hl, if_pos rfl]
theorem chk_gone {f : Nat} {p : Int} {top : Bool} (hp : V p = Option.none) : chk V f p top = Option.none := by
 cases f with
 | zero => rfl
 | succ f =>
   show (match V p with | none => none | some n => cNode V (fun p => chk V f p false) n top) = _
   rw [hp]
end Go.Tr
open Go.Proofs.YtfhbmblbidcmmaaGreat
namespace Go.Tr
set_option linter.unusedSimpArgs false
set_option linter.unusedVariables false
variable {V : Int → Option Nd}
theorem cKids_count {ch : Int → Option Sn} (hc : ∀ p y, ch p = some y → 1 ≤ y.count) : ∀ (ks : List Kd) (first : Bool) (x z : Sn), cKids V ch ks first x = some z → x.count + ks.length ≤ z.count
 | [], first, x, z, h => by cases h; simp
 | k :: ks, first, x, z, h => by
   rw [cKids_cons] at h
   cases hy : ch k.page with
   | none => rw [hy] at h; cases h
   | some y =>
     rw [hy] at h
     simp only at h
     cases hx : cKid y (ndSum (nodeOr V k.page)) first k x with
     | none => rw [hx] at h; cases h
     | some x' =>
       rw [hx] at h
       simp only at h
       have h1 := cKids_count hc ks false x' z h
       obtain ⟨c1, c2, c3, rfl⟩ := cKid_some hx
       have := hc _ _ hy
       simp only [List.length_cons] at h1 ⊢
       omega
theorem chk_low (hV : ∀ p n, V p = some n → may n = true) : ∀ (f : Nat) (p : Int) (top : Bool) (y : Sn), chk V f p top = some y → 1 ≤ y.count ∧ y.h + 1 ≤ y.count
 | 0, p, top, y, h => by simp [chk] at h
 | f + 1, p, top, y, h => by
   unfold chk at h
   cases hn : V p with
   | none => rw [hn] at h; cases h
   | some n =>
     rw [hn] at h
     simp only at h
     have hm := hV p n hn
     unfold cNode at h
     by_cases h4 : top = false ∧ many n < 4
     · rw [if_pos h4] at h; cases h
     rw [if_neg h4] at h
     cases hl : n.leaf with
     | true =>
       rw [hl, if_pos rfl] at h
       obtain ⟨g1, g2, g3, g4, g5⟩ := may_leaf hm hl
       split at h
       · cases h
       · cases h
         simp only
         omega
     | false =>
       rw [hl, if_neg (by simp)] at h
       obtain ⟨g1, g2, g3, g4, g5, g6⟩ := may_inner hm hl
       cases hks : n.kids with
       | nil => rw [hks] at g3; simp at g3
       | cons k ks =>
         rw [hks] at h g3
         obtain ⟨y1, hy1, hz⟩ := cKids_first h
         rw [cKids_cons, hy1] at h
         simp only at h
         cases hx : cKid y1 (ndSum (nodeOr V k.page)) true k sn0 with
         | none => rw [hx] at h; cases h
         | some x' =>
           rw [hx] at h
           simp only at h
           have h1 := cKids_count (fun q z hq => (chk_low hV f q false z hq).1) ks false x' y h
           obtain ⟨c1, c2, c3, rfl⟩ := cKid_some hx
           have h2 := chk_low hV f k.page false y1 hy1
           have e0 : sn0.count = 0 := rfl
           simp only [List.length_cons] at h1 g3
           omega
theorem cKids_most {ch : Int → Option Sn} : ∀ (ks : List Kd) (first : Bool) (x z : Sn), (ks = [] → x.count ≤ 1024) → cKids V ch ks first x = some z → z.count ≤ 1024
 | [], first, x, z, hx, h => by cases h; exact hx rfl
 | k :: ks, first, x, z, _, h => by
   rw [cKids_cons] at h
   cases hy : ch k.page with
   | none => rw [hy] at h; cases h
   | some y =>
     rw [hy] at h
     simp only at h
     cases hx : cKid y (ndSum (nodeOr V k.page)) first k x with
     | none => rw [hx] at h; cases h
     | some x' =>
       rw [hx] at h
       simp only at h
       obtain ⟨c1, c2, c3, rfl⟩ := cKid_some hx
       exact cKids_most ks false _ z (fun _ => c3) h
theorem chk_most (hV : ∀ p n, V p = some n → may n = true) {f : Nat} {p : Int} {top : Bool} {y : Sn} (h : chk V f p top = some y) : y.count ≤ 1024 := by
 cases f with
 | zero => simp [chk] at h
 | succ f =>
   unfold chk at h
   cases hn : V p with
   | none => rw [hn] at h; cases h
   | some n =>
     rw [hn] at h
     simp only at h
     unfold cNode at h
     by_cases h4 : top = false ∧ many n < 4
     · rw [if_pos h4] at h; cases h
     rw [if_neg h4] at h
     cases hl : n.leaf with
     | true =>
       rw [hl, if_pos rfl] at h
       have := (may_leaf (hV p n hn) hl).2.2.2.1
       split at h
       · cases h
       · cases h
         simp only
         omega
     | false =>
       rw [hl, if_neg (by simp)] at h
       exact cKids_most n.kids true sn0 y (fun _ => by simp [sn0]) h
structure Low (y : Sn) : Prop where
 c1 : 1 ≤ y.count
 c2 : y.count ≤ 1036
 h1 : y.h + 1 ≤ y.count
 h0 : 0 ≤ y.h
 first : mayEnt y.first = true
 last : mayEnt y.last = true
theorem Chk.low (hV : ∀ p n, V p = some n → may n = true) {p : Int} {top : Bool} {y : Sn} (h : Chk V p top y) : Low y := by
 obtain ⟨f, hf⟩ := id h
 obtain ⟨a, b⟩ := chk_low hV f p top y hf
 obtain ⟨c, d, e⟩ := (chk_rel hV f p top).1 y hf
 have ho := rBelow_ok hV f p top
 have h1 := e.count
 have h2 := ho.ents
 exact ⟨a, by omega, b, h.h0 hV, ho.may _ (List.mem_of_mem_head? e.first), ho.may _ (List.mem_of_getLast? e.last)⟩
def kget (k : Int) : List (Int × Sn) → Option Sn
 | [] => none
 | p :: l => if k = p.1 then some p.2 else kget k l
def kput (k : Int) (y : Sn) : List (Int × Sn) → List (Int × Sn)
 | [] => [(k, y)]
 | p :: l => if k = p.1 then (k, y) :: l else p :: kput k y l
def KnOk (V : Int → Option Nd) (K : List (Int × Sn)) : Prop := ∀ p ∈ K, Chk V p.1 false p.2
theorem kget_mem {k : Int} {y : Sn} : ∀ {K : List (Int × Sn)}, kget k K = some y → (k, y) ∈ K
 | [], h => by cases h
 | p :: l, h => by
   unfold kget at h
   split at h
   · next e => cases h; rw [e]; exact List.mem_cons_self ..
   · exact List.mem_cons_of_mem _ (kget_mem h)
theorem kput_mem {k : Int} {y : Sn} {q : Int × Sn} : ∀ {K : List (Int × Sn)}, q ∈ kput k y K → q = (k, y) ∨ q ∈ K
 | [], h => by simp [kput] at h; exact .inl h
 | p :: l, h => by
   unfold kput at h
   split at h
   · rcases List.mem_cons.1 h with h | h
     · exact .inl h
     · exact .inr (List.mem_cons_of_mem _ h)
   · rcases List.mem_cons.1 h with h | h
     · exact .inr (by rw [h]; exact List.mem_cons_self ..)
     · exact (kput_mem h).imp id (List.mem_cons_of_mem _)
theorem KnOk.put {K : List (Int × Sn)} (h : KnOk V K) {k : Int} {y : Sn} (hy : Chk V k false y) : KnOk V (kput k y K) := fun p hp => by
 rcases kput_mem hp with e | e
 · rw [e]; exact hy
 · exact h p e
theorem KnOk.get {K : List (Int × Sn)} (h : KnOk V K) {k : Int} {y : Sn} (hy : kget k K = some y) : Chk V k false y := h _ (kget_mem hy)
def hasK (K : List (Int × Sn)) (i : Nat) : Bool := K.any fun p => p.1 == (i : Int)
theorem hasK_put (k : Int) (y : Sn) (i : Nat) : ∀ K, hasK (kput k y K) i = (hasK K i || k == (i : Int))
 | [] => by simp [hasK, kput]
 | p :: l => by
   unfold kput
   split
   · next e =>
     simp only [hasK, List.any_cons, e]
     cases (p.1 == (i : Int)) <;> cases (l.any fun p => p.1 == (i : Int)) <;> rfl
   · have := hasK_put k y i l
     simp only [hasK, List.any_cons] at this ⊢
     rw [this, Bool.or_assoc]
theorem hasK_get {k : Int} : ∀ {K : List (Int × Sn)} {i : Nat}, kget k K = none → (i : Int) = k → hasK K i = false
 | [], i, _, _ => rfl
 | p :: l, i, h, e => by
   unfold kget at h
   split at h
   · cases h
   · next hn =>
     simp only [hasK, List.any_cons, Bool.or_eq_false_iff]
     exact ⟨by rw [beq_eq_false_iff_ne]; intro c; exact hn (by rw [c, e]), hasK_get h e⟩
theorem filter_less {α : Type} {p q : α → Bool} {a : α} : ∀ {l : List α}, (∀ x ∈ l, q x = true → p x = true) → a ∈ l → p a = true → q a = false → (l.filter q).length + 1 ≤ (l.filter p).length
 | [], _, h, _, _ => by cases h
 | x :: l, hq, ha, h1, h2 => by
   have hle : (l.filter q).length ≤ (l.filter p).length := by
    clear ha h1 h2
    have hq2 : ∀ x ∈ l, q x = true → p x = true := fun x hx => hq x (List.mem_cons_of_mem _ hx)
    clear hq
    induction l with
    | nil => simp
    | cons y l ih =>
      have h3 := ih fun x hx => hq2 x (List.mem_cons_of_mem _ hx)
      have h4 := hq2 y (List.mem_cons_self ..)
      simp only [List.filter_cons]
      cases hqy : q y with
      | true => rw [h4 hqy]; simp; exact h3
      | false => cases p y <;> simp <;> omega
   simp only [List.filter_cons]
   rcases List.mem_cons.1 ha with e | e
   · subst e
     rw [h1, h2]
     simp
     exact hle
   · have ih := filter_less (fun x hx => hq x (List.mem_cons_of_mem _ hx)) e h1 h2
     have h4 := hq x (List.mem_cons_self ..)
     cases hqy : q x with
     | true => rw [h4 hqy]; simp; omega
     | false => cases p x <;> simp <;> omega
def fr (N : Nat) (K : List (Int × Sn)) : Nat := ((List.range N).filter fun i => !hasK K i).length
theorem fr_put {N : Nat} {K : List (Int × Sn)} {k : Int} {y : Sn} (h : kget k K = none) (h0 : 0 ≤ k) (h1 : k < N) : fr N (kput k y K) + 1 ≤ fr N K := by
 refine filter_less (a := k.toNat) (fun x _ hx => ?_) (List.mem_range.2 (by omega)) ?_ ?_
 · rw [hasK_put] at hx
   simp at hx ⊢
   exact hx.1
 · rw [hasK_get h (by omega)]; rfl
 · rw [hasK_put]
   simp
   omega
theorem fr_le (N : Nat) (K : List (Int × Sn)) : fr N K ≤ N := by
 unfold fr
 refine Nat.le_trans (List.length_filter_le _ _) ?_
 simp
end Go.Tr
namespace Go.Proofs.YtfhbmblbidcmmaaGreat
open Go.Tr Go.Sl
def snC (y : Sn) : List Value := .int .i64 y.h :: .int .i64 y.count :: (erow y.first ++ erow y.last)
def snV (y : Sn) : Value := .agg #[.int .i64 y.h, .int .i64 y.count, .int .i64 y.first.src, .int .i64 y.first.pos, .int .i64 y.first.len, .int .i64 y.first.lines, .int .i64 y.last.src, .int .i64 y.last.pos, .int .i64 y.last.len, .int .i64 y.last.lines]
def kn (K : List (Int × Sn)) : List (Int × Value) := K.map fun p => (p.1, snV p.2)
theorem mget_kn (k : Int) : ∀ K, mget k (kn K) = (kget k K).map snV
 | [] => rfl
 | p :: l => by
   show (if k = p.1 then some (snV p.2) else mget k (kn l)) = _
   unfold kget
   split
   · rfl
   · exact mget_kn k l
theorem mput_kn (k : Int) (y : Sn) : ∀ K, mput k (snV y) (kn K) = kn (kput k y K)
 | [] => rfl
 | p :: l => by
   show (if k = p.1 then (k, snV y) :: kn l else (p.1, snV p.2) :: mput k (snV y) (kn l)) = _
   unfold kput
   split
   · rfl
   · rw [mput_kn k y l]; rfl
end Go.Proofs.YtfhbmblbidcmmaaGreat
