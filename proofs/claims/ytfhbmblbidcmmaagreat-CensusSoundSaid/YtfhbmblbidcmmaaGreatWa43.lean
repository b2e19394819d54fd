/-
  Versions are found sound just if they are in the words of the document. No condition. (part 43)
-/
import Derived.Test.YtfhbmblbidcmmaaGreatWa39
import Derived.Test.YtfhbmblbidcmmaaGreatWa42
import Derived.Test.YtfhbmblbidcmmaaGreatWa1
import Derived.Test.YtfhbmblbidcmmaaGreatWa19
import Derived.Test.YtfhbmblbidcmmaaGreatWa23
import Derived.Test.YtfhbmblbidcmmaaGreatWa37
import Derived.Test.YtfhbmblbidcmmaaGreatWa38
set_option linter.unusedSimpArgs false
set_option linter.unusedVariables false
namespace Go.Tr
set_option linter.unusedSimpArgs false
set_option linter.unusedVariables false
variable {V : Int → Option Nd}
def Pt (V : Int → Option Nd) : Nat → Int → List Int → Prop
 | 0 => fun no ps => (∃ n, V no = some n ∧ n.kids = []) ∧ ps = [no]
 | h + 1 => fun no ps => ∃ (n : Nd) (pls : List (List Int)), V no = some n ∧ n.kids ≠ [] ∧ F2 (fun (k : Kd) pl => Pt V h k.page pl) n.kids pls ∧ ps = no :: pls.flatten
theorem F2.eq {α β : Type} {R R' : α → β → Prop} (hR : ∀ a b c, R a b → R' a c → b = c) : ∀ {l : List α} {m m' : List β}, F2 R l m → F2 R' l m' → m = m'
 | [], [], [], _, _ => rfl
 | a :: l, b :: m, c :: m', h, h' => by rw [hR a b c h.1 h'.1, F2.eq hR h.2 h'.2]
 | [], _ :: _, _, h, _ => h.elim
 | [], [], _ :: _, _, h => h.elim
 | _ :: _, [], _, h, _ => h.elim
 | _ :: _, _ :: _, [], _, h => h.elim
theorem F2.mem {α β : Type} {R : α → β → Prop} : ∀ {l : List α} {m : List β}, F2 R l m → ∀ b ∈ m, ∃ a ∈ l, R a b
 | [], [], _, b, h => by cases h
 | a :: l, c :: m, h, b, hb => by
   rcases List.mem_cons.1 hb with rfl | hb
   · exact ⟨a, List.mem_cons_self, h.1⟩
   · obtain ⟨x, hx, hr⟩ := F2.mem h.2 b hb
     exact ⟨x, List.mem_cons_of_mem _ hx, hr⟩
 | [], _ :: _, h, _, _ => h.elim
 | _ :: _, [], h, _, _ => h.elim
theorem Pt.uniq : ∀ {h h' : Nat} {no : Int} {ps ps' : List Int}, Pt V h no ps → Pt V h' no ps' → h = h' ∧ ps = ps'
 | 0, 0, _, _, _, ⟨_, e⟩, ⟨_, e'⟩ => ⟨rfl, by rw [e, e']⟩
 | 0, h' + 1, _, _, _, ⟨⟨n, a, b⟩, _⟩, ⟨m, pls, c, d, _⟩ => by
   rw [a] at c; cases c; exact absurd b d
 | h + 1, 0, _, _, _, ⟨m, pls, c, d, _⟩, ⟨⟨n, a, b⟩, _⟩ => by
   rw [a] at c; cases c; exact absurd b d
 | h + 1, h' + 1, _, _, _, ⟨m, pls, c, d, f, e⟩, ⟨m', pls', c', d', f', e'⟩ => by
   rw [c] at c'; cases c'
   have hh : h = h' := by
    cases hk : m.kids with
    | nil => exact absurd hk d
    | cons k ks =>
      rw [hk] at f f'
      cases pls with
      | nil => exact f.elim
      | cons p pls =>
        cases pls' with
        | nil => exact f'.elim
        | cons p' pls' => exact (Pt.uniq f.1 f'.1).1
   subst hh
   have := F2.eq (R := fun (k : Kd) pl => Pt V h k.page pl) (R' := fun (k : Kd) pl => Pt V h k.page pl) (fun a b c h1 h2 => (Pt.uniq h1 h2).2) f f'
   rw [e, e', this]
   exact ⟨rfl, rfl⟩
theorem Pt.self {h : Nat} {no : Int} {ps : List Int} (hp : Pt V h no ps) : no ∈ ps := by
 cases h with
 | zero => rw [hp.2]; exact List.mem_singleton.2 rfl
 | succ h => obtain ⟨_, _, _, _, _, e⟩ := hp; rw [e]; exact List.mem_cons_self
theorem Pt.node {h : Nat} {no : Int} {ps : List Int} (hp : Pt V h no ps) : ∃ n, V no = some n := by
 cases h with
 | zero => exact ⟨_, hp.1.choose_spec.1⟩
 | succ h => obtain ⟨n, _, e, _⟩ := hp; exact ⟨n, e⟩
theorem Pt.mem : ∀ {h : Nat} {no : Int} {ps : List Int}, Pt V h no ps → ∀ x ∈ ps, ∃ h' ps', h' ≤ h ∧ Pt V h' x ps'
 | 0, no, ps, hp, x, hx => by
   have e := hp.2
   rw [e, List.mem_singleton] at hx
   subst hx
   exact ⟨0, ps, Nat.le_refl _, hp⟩
 | h + 1, no, ps, hp, x, hx => by
   obtain ⟨n, pls, a, b, f, e⟩ := id hp
   rw [e] at hx
   rcases List.mem_cons.1 hx with rfl | hx
   · exact ⟨h + 1, ps, Nat.le_refl _, hp⟩
   · obtain ⟨pl, hpl, hx⟩ := List.mem_flatten.1 hx
     obtain ⟨k, _, hk⟩ := f.mem pl hpl
     obtain ⟨h', ps', h1, h2⟩ := Pt.mem hk x hx
     exact ⟨h', ps', by omega, h2⟩
theorem Pt.kid {h : Nat} {no : Int} {n : Nd} {pls : List (List Int)} (f : F2 (fun (k : Kd) pl => Pt V h k.page pl) n.kids pls) : ∀ x ∈ pls.flatten, ∃ h' ps', h' ≤ h ∧ Pt V h' x ps' := fun x hx => by
 obtain ⟨pl, hpl, hx⟩ := List.mem_flatten.1 hx
 obtain ⟨k, _, hk⟩ := f.mem pl hpl
 exact Pt.mem hk x hx
def Whl (V : Int → Option Nd) (h : Nat) (l : List Int) : Prop := ∀ p ∈ l, ∀ h' ps, h' ≤ h → Pt V h' p ps → ∀ x ∈ ps, x ∈ l
theorem Whl.nil (h : Nat) : Whl V h [] := fun p hp => by cases hp
open Go.Proofs.YtfhbmblbidcmmaaGreat
variable [TopN]
structure PgOk (V : Int → Option Nd) (h m : Nat) (ps l : List Int) (s : TS) (l' : List Int) (s' : TS) : Prop where
 rdy : Rdy V m s'
 sp : s'.sp = s.sp
 dk : s'.ck.d = s.ck.d
 more : ∀ x ∈ l, x ∈ l'
 all : ∀ x ∈ ps, x ∈ l'
 just : ∀ x ∈ l', x ∈ l ∨ x ∈ ps
 len : l'.length ≤ l.length + ps.length
 whl : Whl V h l'
theorem kidsP_ok {V : Int → Option Nd} {f h : Nat} (hf : ∀ (no : Int) (ps l : List Int) (m : Nat) (s : TS), Pt V h no ps → Rdy V (m + ps.length) s → Whl V h l → l.length + ps.length ≤ 1048577 → ∃ l' s', pagesTo tRead f no l s = .ok l' s' ∧ PgOk V h m ps l s l' s') :
 ∀ (ks : List Kd) (pls : List (List Int)) (l : List Int) (m : Nat) (s : TS), F2 (fun (k : Kd) pl => Pt V h k.page pl) ks pls → Rdy V (m + pls.flatten.length) s → Whl V h l → l.length + pls.flatten.length ≤ 1048577 →
  ∃ l' s', kidsP (pagesTo tRead f) ks l s = .ok l' s' ∧ PgOk V h m pls.flatten l s l' s'
 | [], [], l, m, s, _, hr, hw, _ => ⟨l, s, rfl, hr.less (by simp), rfl, rfl, fun x h => h, by simp, fun x h => .inl h, by simp, hw⟩
 | k :: ks, p :: pls, l, m, s, hk, hr, hw, hl => by
   rw [List.flatten_cons, List.length_append] at hr hl
   obtain ⟨l1, s1, e1, o1⟩ := hf k.page p l (m + pls.flatten.length) s hk.1 (by rw [show m + pls.flatten.length + p.length = m + (p.length + pls.flatten.length) by omega]; exact hr) hw (by omega)
   obtain ⟨l2, s2, e2, o2⟩ := kidsP_ok hf ks pls l1 m s1 hk.2 o1.rdy o1.whl (by have := o1.len; omega)
   refine ⟨l2, s2, ?_, o2.rdy, o2.sp.trans o1.sp, o2.dk.trans o1.dk, fun x hx => o2.more x (o1.more x hx), fun x hx => ?_, fun x hx => ?_, ?_, o2.whl⟩
   · show M.bind (pagesTo tRead f k.page l) (kidsP (pagesTo tRead f) ks) s = _
     unfold M.bind
     rw [e1]
     exact e2
   · rw [List.flatten_cons] at hx
     rcases List.mem_append.1 hx with hx | hx
     · exact o2.more x (o1.all x hx)
     · exact o2.all x hx
   · rw [List.flatten_cons]
     rcases o2.just x hx with hx | hx
     · rcases o1.just x hx with hx | hx
       · exact .inl hx
       · exact .inr (List.mem_append_left _ hx)
     · exact .inr (List.mem_append_right _ hx)
   · have := o1.len
     have := o2.len
     rw [List.flatten_cons, List.length_append]
     omega
 | [], _ :: _, _, _, _, h, _, _, _ => h.elim
 | _ :: _, [], _, _, _, h, _, _, _ => h.elim
theorem pagesTo_pt {V : Int → Option Nd} (hV : ∀ p n, V p = some n → 1 ≤ p ∧ p < 1048576) : ∀ (f h : Nat) (no : Int) (ps l : List Int) (m : Nat) (s : TS), h < f → Pt V h no ps → Rdy V (m + ps.length) s → Whl V h l → l.length + ps.length ≤ 1048577 →
 ∃ l' s', pagesTo tRead f no l s = .ok l' s' ∧ PgOk V h m ps l s l' s'
 | 0, h, _, _, _, _, _, hf, _, _, _, _ => absurd hf (by omega)
 | f + 1, h, no, ps, l, m, s, hf, hp, hr, hw, hl => by
   have hself := hp.self
   obtain ⟨n, hn⟩ := hp.node
   obtain ⟨b1, b2⟩ := hV no n hn
   have hpos : 1 ≤ ps.length := List.length_pos_of_mem hself
   obtain ⟨s1, r1, sp1, dk1, e1⟩ := (show Rdy V ((m + ps.length - 1) + 1) s by rw [show m + ps.length - 1 + 1 = m + ps.length by omega]; exact hr).read (p := no) (by omega)
   rw [hn] at e1
   have hgo : pagesTo tRead (f + 1) no l s = (if l.contains no = true then M.pure l else if 1048576 < l.length ∨ no < 0 ∨ 1099511627776 ≤ no then (fun _ => .bad) else kidsP (pagesTo tRead f) n.kids (l ++ [no])) s1 := by
    conv => lhs; unfold pagesTo M.bind
    rw [e1]
    rfl
   by_cases hc : l.contains no = true
   · have hc' : no ∈ l := by simpa using hc
     refine ⟨l, s1, by rw [hgo, if_pos hc]; rfl, r1.less (by omega), sp1, dk1, fun x h => h, hw no hc' h ps (Nat.le_refl _) hp, fun x h => .inl h, by omega, hw⟩
   rw [if_neg hc, if_neg (by omega)] at hgo
   cases h with
   | zero =>
     obtain ⟨⟨n', a1, a2⟩, rfl⟩ := hp
     rw [hn] at a1; cases a1
     rw [a2] at hgo
     refine ⟨l ++ [no], s1, hgo, r1.less (by simp), sp1, dk1, fun x h => List.mem_append_left _ h, fun x h => List.mem_append_right _ h, fun x h => List.mem_append.1 h, by simp, fun p hp' h' ps' hle hpt x hx => ?_⟩
     rcases List.mem_append.1 hp' with hp' | hp'
     · exact List.mem_append_left _ (hw p hp' h' ps' hle hpt x hx)
     · obtain rfl : h' = 0 := by omega
       rw [hpt.2, List.mem_singleton] at hx
       rw [hx]
       exact List.mem_append_right _ hp'
   | succ h =>
     obtain ⟨n', pls, a1, a2, a3, rfl⟩ := id hp
     rw [hn] at a1; cases a1
     rw [List.length_cons] at hr hl r1
     have hw1 : Whl V h (l ++ [no]) := fun p hp' h' ps' hle hpt x hx => by
      rcases List.mem_append.1 hp' with hp' | hp'
      · exact List.mem_append_left _ (hw p hp' h' ps' (by omega) hpt x hx)
      · rw [List.mem_singleton.1 hp'] at hpt
        have := (hpt.uniq hp).1
        omega
     obtain ⟨l2, s2, e2, o2⟩ := kidsP_ok (f := f) (h := h) (fun no ps l m s hp hr hw hl => pagesTo_pt hV f h no ps l m s (by omega) hp hr hw hl) n.kids pls (l ++ [no]) m s1 a3 (r1.less (by omega)) hw1 (by rw [List.length_append, List.length_singleton]; omega)
     refine ⟨l2, s2, by rw [hgo]; exact e2, o2.rdy, o2.sp.trans sp1, o2.dk.trans dk1, fun x h => o2.more x (List.mem_append_left _ h), fun x hx => ?_, fun x hx => ?_, ?_, fun p hp' h' ps' hle hpt x hx => ?_⟩
     · rcases List.mem_cons.1 hx with rfl | hx
       · exact o2.more _ (List.mem_append_right _ (List.mem_singleton.2 rfl))
       · exact o2.all x hx
     · rcases o2.just x hx with hx | hx
       · rcases List.mem_append.1 hx with hx | hx
         · exact .inl hx
         · exact .inr (by rw [List.mem_singleton.1 hx]; exact List.mem_cons_self)
       · exact .inr (List.mem_cons_of_mem _ hx)
     · have := o2.len
       rw [List.length_append, List.length_singleton] at this
       rw [List.length_cons]
       omega
     · rcases Nat.lt_or_ge h h' with hlt | hge
       · obtain rfl : h' = h + 1 := by omega
         rcases o2.just p hp' with hp' | hp'
         · rcases List.mem_append.1 hp' with hp' | hp'
           · exact o2.more x (List.mem_append_left _ (hw p hp' _ ps' (Nat.le_refl _) hpt x hx))
           · rw [List.mem_singleton.1 hp'] at hpt
             rw [(hpt.uniq hp).2] at hx
             rcases List.mem_cons.1 hx with rfl | hx
             · exact o2.more _ (List.mem_append_right _ (List.mem_singleton.2 rfl))
             · exact o2.all x hx
         · obtain ⟨h2, ps2, h3, h4⟩ := Pt.kid (no := no) a3 p hp'
           have := (hpt.uniq h4).1
           omega
       · exact o2.whl p hp' h' ps' hge hpt x hx
end Go.Tr
namespace Go.Tr
set_option linter.unusedSimpArgs false
set_option linter.unusedVariables false
variable {V : Int → Option Nd}
theorem rKids_pt {bl : Int → Lk} (hb : ∀ p, (bl p).ok = true → ∃ h : Nat, (bl p).height = h ∧ Pt V h p (bl p).pages) : ∀ (ks : List Kd) (first : Bool) (o : Lk), (rKids V bl ks first o).ok = true →
 (first = false ∨ ks = [] → (rKids V bl ks first o).height = o.height) ∧ ∃ pls, (rKids V bl ks first o).pages = o.pages ++ pls.flatten ∧ F2 (fun (k : Kd) pl => ∃ h : Nat, (h : Int) + 1 = (rKids V bl ks first o).height ∧ (bl k.page).ok = true ∧ (bl k.page).height = h ∧ Pt V h k.page pl) ks pls
 | [], first, o, h => ⟨fun _ => rfl, [], by simp [rKids], trivial⟩
 | k :: ks, first, o, h => by
   unfold rKids at h ⊢
   cases hr : rKid (bl k.page) (rSum (nodeOr V k.page)) first k o with
   | none => rw [hr] at h; simp [lk0] at h
   | some o' =>
     rw [hr] at h
     simp only at h ⊢
     obtain ⟨a, b, c, d, rfl⟩ := rKid_ok hr
     obtain ⟨g1, pls, g2, g3⟩ := rKids_pt hb ks false _ h
     have g4 := g1 (.inl rfl)
     obtain ⟨q, q1, q2⟩ := hb k.page a
     refine ⟨fun hx => ?_, (bl k.page).pages :: pls, by rw [g2, List.flatten_cons, List.append_assoc], ⟨q, by rw [g4, ← q1], a, q1, q2⟩, g3⟩
     rcases hx with hx | hx
     · rw [g4]; exact c hx
     · cases hx
theorem rBelow_pt (hV : ∀ p n, V p = some n → may n = true) : ∀ (f : Nat) (no : Int) (top : Bool), (rBelow V f no top).ok = true → ∃ h : Nat, h < f ∧ (rBelow V f no top).height = h ∧ Pt V h no (rBelow V f no top).pages
 | 0, no, top, h => by simp [rBelow, lk0] at h
 | f + 1, no, top, h => by
   unfold rBelow at h ⊢
   cases hn : V no with
   | none => rw [hn] at h; simp [lk0] at h
   | some n =>
     rw [hn] at h
     simp only at h ⊢
     by_cases h4 : top = false ∧ many n < 4
     · rw [if_pos h4] at h; simp [lk0] at h
     rw [if_neg h4] at h ⊢
     obtain ⟨g1, pls, g2, g3⟩ := rKids_pt (V := V) (bl := fun p => rBelow V f p false) (fun p hp => by obtain ⟨q, q1, q2, q3⟩ := rBelow_pt hV f p false hp; exact ⟨q, q2, q3⟩) n.kids true _ h
     cases hk : n.kids with
     | nil =>
       simp only [rKids]
       exact ⟨0, by omega, rfl, ⟨n, hn, hk⟩, rfl⟩
     | cons k ks =>
       rw [hk] at g2 g3 h
       cases pls with
       | nil => exact g3.elim
       | cons pl pls =>
         obtain ⟨⟨q, q1, q2, q3, q4⟩, _⟩ := id g3
         obtain ⟨q', q5, q6, _⟩ := rBelow_pt hV f k.page false q2
         have hqq : q' = q := by rw [q6] at q3; omega
         refine ⟨q + 1, by omega, by rw [← q1]; omega, n, pl :: pls, hn, by rw [hk]; simp, ?_, ?_⟩
         · rw [hk]
           exact g3.mono fun k pl ⟨j, j1, _, _, j2⟩ => by
            obtain rfl : j = q := by omega
            exact j2
         · rw [g2]; rfl
theorem rTree_ok (hV : ∀ p n, V p = some n → may n = true) (r : Int) : LkOk true 13 (rTree V r) := by
 unfold rTree
 split
 · exact ⟨by simp, by simp, by simp, by simp, by simp, by simp⟩
 · split
   · exact lk0_ok _ _
   · exact rBelow_ok hV 13 r true
theorem tree_pt (hV : ∀ p n, V p = some n → may n = true) {r : Int} (h0 : r ≠ 0) (h : (rTree V r).ok = true) : ∃ hh : Nat, hh < 13 ∧ Pt V hh r (rTree V r).pages ∧ (rTree V r).pages.length ≤ 1037 := by
 unfold rTree at h ⊢
 rw [if_neg h0] at h ⊢
 split at h
 · simp [lk0] at h
 · next h1 =>
   rw [if_neg h1]
   obtain ⟨q, q1, q2, q3⟩ := rBelow_pt hV 13 r true h
   have h2 := rBelow_ok hV 13 r true
   have := h2.pages
   have := h2.ents
   exact ⟨q, q1, q3, by omega⟩
open Go.Proofs.YtfhbmblbidcmmaaGreat
variable [TopN]
def PgAny (V : Int → Option Nd) (U l : List Int) (m : Nat) (s : TS) : Res TS (List Int) → Prop
 | .ok l' s' => (∀ x ∈ l', x ∈ U) ∧ l'.Nodup ∧ l.length ≤ l'.length ∧ Rdy V (m + 13 * (U.length - l'.length)) s' ∧ s'.sp = s.sp ∧ s'.ck.d = s.ck.d
 | .fault e s' => e = 13 ∧ Rdy V 0 s' ∧ s'.sp = s.sp ∧ s'.ck.d = s.ck.d
 | .bad => False
theorem kidsP_safe {V : Int → Option Nd} {U : List Int} {f : Nat} (hf : ∀ (no : Int) (l : List Int) (m : Nat) (s : TS), no ≠ 0 → (∀ x ∈ l, x ∈ U) → l.Nodup → Rdy V (m + 1 + 13 * (U.length - l.length)) s → PgAny V U l m s (pagesTo tRead f no l s)) :
 ∀ (ks : List Kd) (l : List Int) (m : Nat) (s : TS), (∀ k ∈ ks, k.page ≠ 0) → (∀ x ∈ l, x ∈ U) → l.Nodup → Rdy V (m + ks.length + 13 * (U.length - l.length)) s → PgAny V U l m s (kidsP (pagesTo tRead f) ks l s)
 | [], l, m, s, _, h1, h2, hr => ⟨h1, h2, Nat.le_refl _, hr, rfl, rfl⟩
 | k :: ks, l, m, s, hk, h1, h2, hr => by
   have h := hf k.page l (m + ks.length) s (hk k List.mem_cons_self) h1 h2 (hr.less (by rw [List.length_cons]; omega))
   have e : kidsP (pagesTo tRead f) (k :: ks) l s = (pagesTo tRead f k.page l s).bind (kidsP (pagesTo tRead f) ks) := rfl
   rw [e]
   cases hm : pagesTo tRead f k.page l s with
   | bad => rw [hm] at h; exact h.elim
   | fault n s1 => rw [hm] at h; exact h
   | ok l1 s1 =>
     rw [hm] at h
     obtain ⟨a1, a2, a3, a4, a5, a6⟩ := h
     have g := kidsP_safe hf ks l1 m s1 (fun k h => hk k (List.mem_cons_of_mem _ h)) a1 a2 a4
     show PgAny V U l m s (kidsP (pagesTo tRead f) ks l1 s1)
     cases hm2 : kidsP (pagesTo tRead f) ks l1 s1 with
     | bad => rw [hm2] at g; exact g.elim
     | fault n s2 => rw [hm2] at g; exact ⟨g.1, g.2.1, g.2.2.1.trans a5, g.2.2.2.trans a6⟩
     | ok l2 s2 =>
       rw [hm2] at g
       exact ⟨g.1, g.2.1, Nat.le_trans a3 g.2.2.1, g.2.2.2.1, g.2.2.2.2.1.trans a5, g.2.2.2.2.2.trans a6⟩
theorem pagesTo_safe {V : Int → Option Nd} {U : List Int} (hV : ∀ p n, V p = some n → 1 ≤ p ∧ p < 1048576 ∧ may n = true ∧ p ∈ U) (hU : U.length ≤ 1048576) : ∀ (f : Nat) (no : Int) (l : List Int) (m : Nat) (s : TS), no ≠ 0 → (∀ x ∈ l, x ∈ U) → l.Nodup → Rdy V (m + 1 + 13 * (U.length - l.length)) s →
 PgAny V U l m s (pagesTo tRead f no l s)
 | 0, no, l, m, s, _, _, _, hr => ⟨rfl, hr.less (by omega), rfl, rfl⟩
 | f + 1, no, l, m, s, h0, h1, h2, hr => by
   obtain ⟨s1, r1, sp1, dk1, e1⟩ := (show Rdy V ((m + 13 * (U.length - l.length)) + 1) s by rw [show m + 13 * (U.length - l.length) + 1 = m + 1 + 13 * (U.length - l.length) by omega]; exact hr).read h0
   have hgo : pagesTo tRead (f + 1) no l s = (rdOut (V no) s1).bind fun n => if l.contains no = true then M.pure l else if 1048576 < l.length ∨ no < 0 ∨ 1099511627776 ≤ no then (fun _ => .bad) else kidsP (pagesTo tRead f) n.kids (l ++ [no]) := by
    conv => lhs; unfold pagesTo M.bind
    rw [e1]
   rw [hgo]
   cases hn : V no with
   | none => exact ⟨rfl, r1.less (by omega), sp1, dk1⟩
   | some n =>
     obtain ⟨b1, b2, b3, b4⟩ := hV no n hn
     show PgAny V U l m s ((if l.contains no = true then M.pure l else if 1048576 < l.length ∨ no < 0 ∨ 1099511627776 ≤ no then (fun _ => .bad) else kidsP (pagesTo tRead f) n.kids (l ++ [no])) s1)
     by_cases hc : l.contains no = true
     · rw [if_pos hc]
       exact ⟨h1, h2, Nat.le_refl _, r1, sp1, dk1⟩
     have hc' : no ∉ l := by simpa using hc
     have hlen : (l ++ [no]).length ≤ U.length := List.Nodup.length_le_of_subset (by rw [List.nodup_append]; exact ⟨h2, by simp, fun a ha b hb => by rw [List.mem_singleton.1 hb]; intro e; exact hc' (e ▸ ha)⟩) (fun x hx => by
      rcases List.mem_append.1 hx with hx | hx
      · exact h1 x hx
      · rw [List.mem_singleton.1 hx]; exact b4)
     rw [List.length_append, List.length_singleton] at hlen
     rw [if_neg hc, if_neg (by omega)]
     have hkl : n.kids.length ≤ 12 := by
      cases hl : n.leaf with
      | true => rw [(may_leaf b3 hl).1]; simp
      | false => exact (may_inner b3 hl).2.2.2.1
     have hk0 : ∀ k ∈ n.kids, k.page ≠ 0 := by
      cases hl : n.leaf with
      | true => rw [(may_leaf b3 hl).1]; simp
      | false => intro k hk; have := mayK_facts ((may_inner b3 hl).2.1 k hk); omega
     have g := kidsP_safe (fun no l m s a b c d => pagesTo_safe hV hU f no l m s a b c d) n.kids (l ++ [no]) m s1 hk0 (fun x hx => by
      rcases List.mem_append.1 hx with hx | hx
      · exact h1 x hx
      · rw [List.mem_singleton.1 hx]; exact b4) (by rw [List.nodup_append]; exact ⟨h2, by simp, fun a ha b hb => by rw [List.mem_singleton.1 hb]; intro e; exact hc' (e ▸ ha)⟩) (r1.less (by rw [List.length_append, List.length_singleton]; omega))
     cases hm : kidsP (pagesTo tRead f) n.kids (l ++ [no]) s1 with
     | bad => rw [hm] at g; exact g.elim
     | fault e s2 => rw [hm] at g; exact ⟨g.1, g.2.1, g.2.2.1.trans sp1, g.2.2.2.trans dk1⟩
     | ok l2 s2 =>
       rw [hm] at g
       obtain ⟨a1, a2, a3, a4, a5, a6⟩ := g
       exact ⟨a1, a2, by rw [List.length_append] at a3; omega, a4, a5.trans sp1, a6.trans dk1⟩
end Go.Tr
namespace Go.Tr
set_option linter.unusedSimpArgs false
set_option linter.unusedVariables false
variable {V : Int → Option Nd}
theorem rKids_sum {bl : Int → Lk} (hb : ∀ p, (bl p).ok = true → ∃ n, V p = some n ∧ eBytes (bl p).ents = eBytes n.ents + kBytes n.kids) : ∀ (ks : List Kd) (first : Bool) (o : Lk), (rKids V bl ks first o).ok = true → eBytes (rKids V bl ks first o).ents = eBytes o.ents + kBytes ks
 | [], first, o, h => by simp [rKids, kBytes]
 | k :: ks, first, o, h => by
   unfold rKids at h ⊢
   cases hr : rKid (bl k.page) (rSum (nodeOr V k.page)) first k o with
   | none => rw [hr] at h; simp [lk0] at h
   | some o' =>
     rw [hr] at h
     simp only at h ⊢
     obtain ⟨a, b, c, d, rfl⟩ := rKid_ok hr
     obtain ⟨n, n1, n2⟩ := hb k.page a
     rw [rKids_sum hb ks false _ h]
     simp only
     rw [eBytes_append, n2]
     have e : eBytes n.ents + kBytes n.kids = k.bytes := by
      have := congrArg Prod.fst b
      unfold nodeOr at this
      rw [n1] at this
      exact this
     have e2 : kBytes (k :: ks) = k.bytes + kBytes ks := by simp [kBytes]
     rw [e, e2]
     omega
theorem rBelow_sum : ∀ (f : Nat) (no : Int) (top : Bool), (rBelow V f no top).ok = true → ∃ n, V no = some n ∧ eBytes (rBelow V f no top).ents = eBytes n.ents + kBytes n.kids
 | 0, no, top, h => by simp [rBelow, lk0] at h
 | f + 1, no, top, h => by
   unfold rBelow at h ⊢
   cases hn : V no with
   | none => rw [hn] at h; simp [lk0] at h
   | some n =>
     rw [hn] at h
     simp only at h ⊢
     by_cases h4 : top = false ∧ many n < 4
     · rw [if_pos h4] at h; simp [lk0] at h
     rw [if_neg h4] at h ⊢
     exact ⟨n, rfl, rKids_sum (fun p hp => rBelow_sum f p false hp) n.kids true _ h⟩
theorem rTree_below {r : Int} (h0 : r ≠ 0) (h : (rTree V r).ok = true) : rTree V r = rBelow V 13 r true := by
 unfold rTree at h ⊢
 rw [if_neg h0] at h ⊢
 split at h
 · simp [lk0] at h
 · next h1 => rw [if_neg h1]
def Lt (V : Int → Option Nd) : Nat → Int → Nat → List Ent → Prop
 | 0 => fun _ _ _ => False
 | h + 1 => fun no c es => ∃ (n : Nd) (cls : List (Nat × List Ent)), V no = some n ∧ F2 (fun (k : Kd) (cl : Nat × List Ent) => Lt V h k.page cl.1 cl.2) n.kids cls ∧ c = 1 + (cls.map (·.1)).sum ∧ es = n.ents ++ (cls.map (·.2)).flatten
theorem rKids_lt {V : Int → Option Nd} {f : Nat} {bl : Int → Lk} (hb : ∀ p, (bl p).ok = true → Lt V f p (bl p).pages.length (bl p).ents) : ∀ (ks : List Kd) (first : Bool) (o : Lk), (rKids V bl ks first o).ok = true →
 ∃ cls : List (Nat × List Ent), F2 (fun (k : Kd) (cl : Nat × List Ent) => Lt V f k.page cl.1 cl.2) ks cls ∧ (rKids V bl ks first o).ents = o.ents ++ (cls.map (·.2)).flatten ∧ (rKids V bl ks first o).pages.length = o.pages.length + (cls.map (·.1)).sum
 | [], first, o, h => ⟨[], trivial, by simp [rKids], by simp [rKids]⟩
 | k :: ks, first, o, h => by
   unfold rKids at h ⊢
   cases hr : rKid (bl k.page) (rSum (nodeOr V k.page)) first k o with
   | none => rw [hr] at h; simp [lk0] at h
   | some o' =>
     rw [hr] at h
     simp only at h ⊢
     obtain ⟨a, b, c, d, rfl⟩ := rKid_ok hr
     obtain ⟨cls, g1, g2, g3⟩ := rKids_lt hb ks false _ h
     refine ⟨((bl k.page).pages.length, (bl k.page).ents) :: cls, ⟨hb _ a, g1⟩, ?_, ?_⟩
     · rw [g2]; simp
     · rw [g3]; simp; omega
theorem rBelow_lt {V : Int → Option Nd} : ∀ (f : Nat) (no : Int) (top : Bool), (rBelow V f no top).ok = true → Lt V f no (rBelow V f no top).pages.length (rBelow V f no top).ents
 | 0, no, top, h => by simp [rBelow, lk0] at h
 | f + 1, no, top, h => by
   unfold rBelow at h ⊢
   cases hn : V no with
   | none => rw [hn] at h; simp [lk0] at h
   | some n =>
     rw [hn] at h
     simp only at h ⊢
     by_cases h4 : top = false ∧ many n < 4
     · rw [if_pos h4] at h; simp [lk0] at h
     rw [if_neg h4] at h ⊢
     obtain ⟨cls, g1, g2, g3⟩ := rKids_lt (V := V) (f := f) (fun p hp => rBelow_lt f p false hp) n.kids true _ h
     exact ⟨n, cls, hn, g1, by rw [g3]; rfl, g2⟩
open Go.Proofs.YtfhbmblbidcmmaaGreat
variable [TopN]
structure LsOk (V : Int → Option Nd) (m : Nat) (s s' : TS) : Prop where
 rdy : Rdy V m s'
 sp : s'.sp = s.sp
 dk : s'.ck.d = s.ck.d
theorem kidsTo_lt {V : Int → Option Nd} {f F : Nat} (hf : ∀ (no : Int) (c : Nat) (es out : List Ent) (m : Nat) (s : TS), Lt V f no c es → Rdy V (m + c) s → (out ++ es).length ≤ 1024 → ∃ s', listTo tRead F no out s = .ok (out ++ es) s' ∧ LsOk V m s s') :
 ∀ (ks : List Kd) (cls : List (Nat × List Ent)) (out : List Ent) (m : Nat) (s : TS), F2 (fun (k : Kd) (cl : Nat × List Ent) => Lt V f k.page cl.1 cl.2) ks cls → Rdy V (m + (cls.map (·.1)).sum) s → (out ++ (cls.map (·.2)).flatten).length ≤ 1024 →
  ∃ s', kidsTo (listTo tRead F) ks out s = .ok (out ++ (cls.map (·.2)).flatten) s' ∧ LsOk V m s s'
 | [], [], out, m, s, _, hr, _ => ⟨s, by simp [kidsTo, M.pure], hr.less (by simp), rfl, rfl⟩
 | k :: ks, cl :: cls, out, m, s, hk, hr, hl => by
   simp only [List.map_cons, List.sum_cons, List.flatten_cons] at hr hl ⊢
   obtain ⟨s1, e1, o1⟩ := hf k.page cl.1 cl.2 out (m + (cls.map (·.1)).sum) s hk.1 (by rw [show m + (cls.map (·.1)).sum + cl.1 = m + (cl.1 + (cls.map (·.1)).sum) by omega]; exact hr) (by simp only [List.length_append] at hl ⊢; omega)
   obtain ⟨s2, e2, o2⟩ := kidsTo_lt hf ks cls (out ++ cl.2) m s1 hk.2 o1.rdy (by rw [List.append_assoc]; exact hl)
   refine ⟨s2, ?_, o2.rdy, o2.sp.trans o1.sp, o2.dk.trans o1.dk⟩
   show M.bind (listTo tRead F k.page out) (kidsTo (listTo tRead F) ks) s = _
   unfold M.bind
   rw [e1]
   show kidsTo (listTo tRead F) ks (out ++ cl.2) s1 = _
   rw [e2, List.append_assoc]
 | [], _ :: _, _, _, _, h, _, _ => h.elim
 | _ :: _, [], _, _, _, h, _, _ => h.elim
theorem listTo_lt {V : Int → Option Nd} (hV : ∀ p n, V p = some n → 1 ≤ p) : ∀ (f F : Nat) (no : Int) (c : Nat) (es out : List Ent) (m : Nat) (s : TS), f ≤ F → Lt V f no c es → Rdy V (m + c) s → (out ++ es).length ≤ 1024 → ∃ s', listTo tRead F no out s = .ok (out ++ es) s' ∧ LsOk V m s s'
 | 0, F, no, c, es, out, m, s, _, h, _, _ => h.elim
 | f + 1, 0, no, c, es, out, m, s, hF, _, _, _ => absurd hF (by omega)
 | f + 1, F + 1, no, c, es, out, m, s, hF, h, hr, hl => by
   obtain ⟨n, cls, hn, g1, rfl, rfl⟩ := h
   have hp := hV no n hn
   obtain ⟨s1, r1, sp1, dk1, e1⟩ := (show Rdy V ((m + (cls.map (·.1)).sum) + 1) s by rw [show m + (cls.map (·.1)).sum + 1 = m + (1 + (cls.map (·.1)).sum) by omega]; exact hr).read (p := no) (by omega)
   rw [hn] at e1
   obtain ⟨s2, e2, o2⟩ := kidsTo_lt (f := f) (F := F) (fun no c es out m s h hr hl => listTo_lt hV f F no c es out m s (by omega) h hr hl) n.kids cls (out ++ n.ents) m s1 g1 r1 (by rw [List.append_assoc]; exact hl)
   refine ⟨s2, ?_, o2.rdy, o2.sp.trans sp1, o2.dk.trans dk1⟩
   unfold listTo M.bind
   rw [e1]
   show (if 1024 < (out ++ n.ents).length then M.fail 13 else kidsTo (listTo tRead F) n.kids (out ++ n.ents)) s1 = _
   rw [if_neg (by simp only [List.length_append] at hl ⊢; omega), e2, List.append_assoc]
theorem tList_tree {V : Int → Option Nd} (hV : ∀ p n, V p = some n → may n = true ∧ 1 ≤ p) {m : Nat} {s : TS} (hR : Rdy V (m + 1037) s) {r : Int} (hok : (rTree V r).ok = true) (hl : (rTree V r).ents.length ≤ 1024) :
 ∃ s', tList tRead r s = .ok (rTree V r).ents s' ∧ LsOk V m s s' := by
 by_cases h0 : r = 0
 · subst h0
   refine ⟨s, ?_, hR.less (by omega), rfl, rfl⟩
   unfold rTree
   rw [if_pos rfl]
   rfl
 · have e := rTree_below h0 hok
   have hp := (rTree_ok (fun p n h => (hV p n h).1) r).pages
   have he := (rTree_ok (fun p n h => (hV p n h).1) r).ents
   rw [e] at hok hl hp he ⊢
   obtain ⟨s', e1, o⟩ := listTo_lt (fun p n h => (hV p n h).2) 13 21 r _ _ [] m s (by omega) (rBelow_lt 13 r true hok) (hR.less (by omega)) (by rw [List.nil_append]; exact hl)
   refine ⟨s', ?_, o⟩
   unfold tList
   rw [if_neg h0, e1, List.nil_append]
theorem tSize_tree {V : Int → Option Nd} (hV : ∀ p n, V p = some n → may n = true ∧ 1 ≤ p) {m : Nat} {s : TS} (hR : Rdy V (m + 1) s) {r : Int} (hok : (rTree V r).ok = true) :
 ∃ s', tSize tRead r s = .ok (eBytes (rTree V r).ents) s' ∧ LsOk V m s s' := by
 by_cases h0 : r = 0
 · subst h0
   refine ⟨s, ?_, hR.less (by omega), rfl, rfl⟩
   unfold rTree
   rw [if_pos rfl]
   rfl
 · have e := rTree_below h0 hok
   rw [e] at hok ⊢
   obtain ⟨n, hn, h2⟩ := rBelow_sum 13 r true hok
   obtain ⟨s1, r1, sp1, dk1, e1⟩ := hR.read h0
   rw [hn] at e1
   refine ⟨s1, ?_, r1, sp1, dk1⟩
   unfold tSize M.bind
   rw [if_neg h0, e1, h2]
   show (M.pure (ndSum n).1 : M TS Int) s1 = _
   have : (ndSum n).1 = eBytes n.ents + kBytes n.kids := by rw [← rSum_may (hV r n hn).1]; rfl
   rw [this]
   rfl
end Go.Tr
namespace Go.Sl
set_option linter.unusedSimpArgs false
set_option linter.unusedVariables false
open Go.RowKit
variable {κ : Type}
structure KeyS [DecidableEq κ] (P : Program) (kt : TypeId) (kf : κ → Value) : Prop where
 und : ∃ kd, P.underlying kt = some kd ∧ ∀ a b, Instr.sameNow kd (kf a) (kf b) = none
 eq : ∀ a b w, (Op.equal kt (kf a) (kf b)).run P w = .ok (decide (a = b)) w
 chk : ∀ e n a w, (Instr.checkKey e (n + 4) kt (kf a)).run P w = .ok () w
 bits : ∀ n a, Instr.sameBits (n + 2) (kf a) (kf a) = true
def FoundS [DecidableEq κ] (kf : κ → Value) (k : κ) (ms : List (κ × Value)) (es : List MapEntry) (i : Nat) (r : Option (Nat × Value)) : Prop :=
 r.map (·.2) = mget k ms ∧ (∀ j v, r = some (j, v) → i ≤ j ∧ ∃ e, es[j - i]? = some e ∧ e.key = kf k ∧ e.val = v ∧ (∀ v' e', e'.key = kf k → e'.val = v' → ((es.set (j - i) e').map fun e => (e.key, e.val)) = (mput k v' ms).map (fun p => (kf p.1, p.2))))
variable {P : Program} {kt : TypeId} {kf : κ → Value}
theorem findAsking_of [DecidableEq κ] (K : KeyS P kt kf) (k : κ) (w : World) : ∀ (ms : List (κ × Value)) (es : List MapEntry) (i : Nat), (es.map fun e => (e.key, e.val)) = ms.map (fun p => (kf p.1, p.2)) →
 ∃ r, (Instr.findAsking kt (kf k) es i).run P w = .ok r w ∧ FoundS kf k ms es i r
 | [], es, i, h => by
  have : es = [] := by simpa using h
  subst this
  exact ⟨none, rfl, rfl, fun _ _ e => by cases e⟩
 | p :: ms, [], i, h => by simp at h
 | p :: ms, e :: es, i, h => by
   simp only [List.map_cons, List.cons.injEq, Prod.mk.injEq] at h
   obtain ⟨⟨h1, h2⟩, h3⟩ := h
   unfold Instr.findAsking
   simp only [Sem.run_bind, h1, K.eq, Result.andThen_ok]
   by_cases hk : k = p.1
   · subst hk
     simp only [decide_true, if_true, Sem.run_pure]
     refine ⟨_, rfl, by simp [mget, h2], ?_⟩
     intro j v e1
     cases e1
     refine ⟨Nat.le_refl _, e, by simp, h1, rfl, ?_⟩
     intro v' e' a1 a2
     simp [mput, a1, a2, h3]
   · simp only [hk, decide_false, Bool.false_eq_true, if_false]
     obtain ⟨r, r1, r2, r3⟩ := findAsking_of K k w ms es (i + 1) h3
     refine ⟨r, r1, by simp [mget, hk, r2], ?_⟩
     intro j v e1
     obtain ⟨a1, e0, a2, a3, a4, a5⟩ := r3 j v e1
     have hj : j - i = (j - (i + 1)) + 1 := by omega
     refine ⟨by omega, e0, by rw [hj]; simpa using a2, a3, a4, ?_⟩
     intro v' e' b1 b2
     rw [hj]
     simp [mput, hk, a5 v' e' b1 b2, h1, h2]
theorem findKey_of [DecidableEq κ] (K : KeyS P kt kf) (k : κ) (w : World) (ms : List (κ × Value)) (es : List MapEntry) (h : (es.map fun e => (e.key, e.val)) = ms.map (fun p => (kf p.1, p.2))) :
 ∃ r, (Instr.findKey kt (kf k) es).run P w = .ok r w ∧ FoundS kf k ms es 0 r := by
 obtain ⟨kd, hk, hsame⟩ := K.und
 obtain ⟨r, r1, r2⟩ := findAsking_of K k w ms es 0 h
 refine ⟨r, ?_, r2⟩
 unfold Instr.findKey
 simp only [Sem.run_bind, underlying, run_program, Result.andThen_ok, hk, Sem.run_pure]
 cases es with
 | nil =>
   have h0 : (Instr.findAsking kt (kf k) [] 0).run P w = .ok none w := rfl
   rw [h0] at r1
   cases r1
   rfl
 | cons e es =>
   cases ms with
   | nil => simp at h
   | cons p ms =>
     simp only [List.map_cons, List.cons.injEq, Prod.mk.injEq] at h
     simp only [Instr.findNow, h.1.1, hsame]
     exact r1
theorem run_lookup_ms [DecidableEq κ] (K : KeyS P kt kf) {t e : TypeId} {z : Value} (ht : P.underlying t = some (.map kt e)) (hz : ∀ w, (zeroValue e).run P w = .ok z w) {w : World} {b : Nat} {o : Obj} {ms : List (κ × Value)}
 (hb : w.heap[b]? = some o) (ho : MapIs kf o ms) (k : κ) :
 (Instr.lookup t (.map (some b)) (kf k) false).run P w = .ok ((mget k ms).getD z) w := by
 obtain ⟨es, clock, rfl, h1, _, _⟩ := ho
 obtain ⟨r, r1, r2, _⟩ := findKey_of K k w ms es.toList h1
 have hg : (getObj b).run P w = .ok (.map es clock) w := by simp [getObj, Sem.run, hb]
 have hc : (Instr.checkKey es.isEmpty 10000 kt (kf k)).run P w = .ok () w := K.chk es.isEmpty 9996 k w
 unfold Instr.lookup
 simp only [Sem.run_bind, underlying, run_program, Result.andThen_ok, ht, Sem.run_pure, hg, hc, r1]
 cases r with
 | none =>
   simp only [Option.map_none] at r2
   simp only [Sem.run_bind, hz, Result.andThen_ok, Sem.run_pure, ← r2]
   rfl
 | some q =>
   obtain ⟨j, v⟩ := q
   simp only [Option.map_some] at r2
   simp only [← r2]
   rfl
theorem run_mapUpdate_ms [DecidableEq κ] (K : KeyS P kt kf) {t e : TypeId} (ht : P.underlying t = some (.map kt e)) {w : World} {b : Nat} {o : Obj} {ms : List (κ × Value)}
 (hb : w.heap[b]? = some o) (ho : MapIs kf o ms) (k : κ) (v : Value) :
 ∃ o', MapIs kf o' (mput k v ms) ∧ (Instr.mapUpdate t (.map (some b)) (kf k) v).run P w = .ok () { w with heap := w.heap.setIfInBounds b o' } := by
 obtain ⟨es, clock, rfl, h1, h2, h3⟩ := ho
 obtain ⟨r, r1, r2, r3⟩ := findKey_of K k w ms es.toList h1
 have hg : (getObj b).run P w = .ok (.map es clock) w := by simp [getObj, Sem.run, hb]
 have hset : ∀ o' : Obj, (setObj b o').run P w = .ok () { w with heap := w.heap.setIfInBounds b o' } := by intro o'; simp [setObj, Sem.run, hb]
 have hc : (Instr.checkKey false 10000 kt (kf k)).run P w = .ok () w := K.chk false 9996 k w
 cases r with
 | none =>
   have hn : mget k ms = none := by simpa using r2.symm
   refine ⟨.map (es.push { key := kf k, val := v, born := clock }) (clock + 1), ⟨_, _, rfl, ?_, ?_, ?_⟩, ?_⟩
   · rw [mput_new hn]; simp [h1]
   · simp only [Array.toList_push, List.map_append, List.map_cons, List.map_nil]
     rw [List.nodup_append]
     refine ⟨h2, by simp, ?_⟩
     intro a ha c hc'
     simp only [List.mem_singleton] at hc'
     obtain ⟨x, hx, rfl⟩ := List.mem_map.1 ha
     have := h3 x hx
     omega
   · intro x hx
     simp only [Array.toList_push, List.mem_append, List.mem_singleton] at hx
     rcases hx with hx | rfl
     · have := h3 x hx; omega
     · exact Nat.lt_succ_self _
   · unfold Instr.mapUpdate
     simp only [Sem.run_bind, underlying, run_program, Result.andThen_ok, ht, Sem.run_pure, hg, hc, r1, hset]
 | some q =>
   obtain ⟨j, u⟩ := q
   obtain ⟨_, e0, a2, a3, a4, a5⟩ := r3 j u rfl
   simp only [Nat.sub_zero] at a2 a5
   have hkey : ((es[j]?).map (·.key)).getD (kf k) = kf k := by
    have : es[j]? = some e0 := by simpa using a2
    simp [this, a3]
   have hmod : (es.modify j fun e => { e with key := kf k, val := v }).toList = es.toList.set j { e0 with key := kf k, val := v } := by
    have hj : j < es.toList.length := by
     rcases Nat.lt_or_ge j es.toList.length with h | h
     · exact h
     · simp only [List.getElem?_eq_none h] at a2; cases a2
    rw [Array.toList_modify, List.modify_eq_set, a2]
    rfl
   refine ⟨.map (es.modify j fun e => { e with key := kf k, val := v }) clock, ⟨_, _, rfl, ?_, ?_, ?_⟩, ?_⟩
   · rw [hmod]; exact a5 v _ rfl rfl
   · rw [hmod, nodup_set (e := e0) (e' := { e0 with key := kf k, val := v }) a2 rfl]; exact h2
   · intro x hx
     rw [hmod] at hx
     rcases List.mem_or_eq_of_mem_set hx with hx | rfl
     · exact h3 x hx
     · exact h3 e0 (List.mem_of_getElem? a2)
   · have hb : Instr.sameBits 10000 (kf k) (kf k) = true := K.bits 9998 k
     have hkt : (Instr.keyThatStays (kf k) (kf k)).run P w = .ok (kf k) w := by simp [Instr.keyThatStays, hb]
     unfold Instr.mapUpdate
     simp only [Sem.run_bind, underlying, run_program, Result.andThen_ok, ht, Sem.run_pure, hg, hc, r1, hkey, hkt, hset]
class MapS (P : Program) (t : TypeId) (κ : outParam Type) [DecidableEq κ] (kf : outParam (κ → Value)) (z : outParam Value) : Prop where
 out : ∃ kt e, KeyS P kt kf ∧ P.underlying t = some (.map kt e) ∧ ∀ w, (zeroValue e).run P w = .ok z w
section
variable {t : TypeId} [DecidableEq κ] {z : Value}
theorem lookupS_run (T : MapS P t κ kf z) (w : World) (M : Nat) (k : κ) {A : Assn} {ms : List (κ × Value)} [h : SatI A w] [h2 : HasM A M kf ms] :
 (Instr.lookup t (.map (some M)) (kf k) false).run P w = .ok ((mget k ms).getD z) w := by
 obtain ⟨kt, e, K, ht, hz⟩ := T.out
 obtain ⟨F, rfl⟩ := h2.out
 obtain ⟨o, ho, hs⟩ := h.out.mp_open
 exact run_lookup_ms K ht hz hs.obj ho k
theorem putS_run (T : MapS P t κ kf z) (w : World) (M : Nat) (k : κ) (v : Value) {A : Assn} {ms : List (κ × Value)} [h : SatI A w] [h2 : HasM A M kf ms] :
 (Instr.mapUpdate t (.map (some M)) (kf k) v).run P w = .ok () (putW P t M (kf k) v w) := by
 obtain ⟨kt, e, K, ht, hz⟩ := T.out
 obtain ⟨F, rfl⟩ := h2.out
 obtain ⟨o, ho, hs⟩ := h.out.mp_open
 obtain ⟨o', _, hup⟩ := run_mapUpdate_ms K ht hs.obj ho k v
 unfold putW
 rw [hup]; rfl
theorem putS_sat (T : MapS P t κ kf z) {w : World} {M : Nat} {k : κ} {v : Value} {A A' : Assn} {ms : List (κ × Value)} [h : SatI A w] [h2 : HasM A M kf ms] [h3 : UpdM A M kf (mput k v ms) A'] : SatI A' (putW P t M (kf k) v w) := by
 obtain ⟨kt, e, K, ht, hz⟩ := T.out
 obtain ⟨G, e1⟩ := h2.out
 obtain ⟨ms0, F, e2, rfl⟩ := h3.out
 have hs1 : Sat (mp kf M ms * G) w := h.out.eq e1
 have hs2 : Sat (mp kf M ms0 * F) w := h.out.eq e2
 obtain ⟨o, ho, hs1⟩ := hs1.mp_open
 obtain ⟨o2, ho2, hs2⟩ := hs2.mp_open
 have e3 : o2 = o := by have := hs1.obj; rw [hs2.obj] at this; exact Option.some.inj this
 subst e3
 obtain ⟨o', ho', hup⟩ := run_mapUpdate_ms K ht hs1.obj ho k v
 unfold putW
 rw [hup]
 exact ⟨Sat.mp_shut ho' (hs2.setRaw o')⟩
end
end Go.Sl
namespace Go.Proofs.YtfhbmblbidcmmaaGreat
set_option linter.unusedSimpArgs false
set_option linter.unusedVariables false
open Go.RowKit Go.Sl Go.Tr
deriving instance DecidableEq for Ent
abbrev TKm : TypeId := 238
section
variable (w : World) (d : Nat)
theorem int_inK (a0 b0 : Int) : (Op.equalIn (d + 1) 3 (.int .i64 a0) (.int .i64 b0)).run Tryz.prog w = .ok (a0 == b0) w := by
 rw [Op.equalIn]
 simp [run_underlying Tryz.underlying3]
theorem int_partK (cs : Array Value) (i : Nat) (v : Value) (h : cs[i]? = some v) : (part 3 cs i).run Tryz.prog w = .ok v w := by
 simp [part, Tryz.isAgg3, h]
theorem int_checkK (e : Bool) (a : Int) : (Instr.checkKey e (d + 1) 3 (.int .i64 a)).run Tryz.prog w = .ok () w := by rw [Instr.checkKey]; simp [run_underlying Tryz.underlying3]
set_option maxHeartbeats 4000000 in
theorem in_scrapK (a0 a1 a2 b0 b1 b2 : Int) : (Op.equalIn (d + 2) 75 (.agg #[.int .i64 a0, .int .i64 a1, .int .i64 a2]) (.agg #[.int .i64 b0, .int .i64 b1, .int .i64 b2])).run Tryz.prog w = .ok ((a0 == b0 && (a1 == b1 && (a2 == b2 && true)))) w := by
 have h1 : Tryz.prog.stoodInHeld 75 = false := by kernel_rfl
 rw [Op.equalIn]
 simp only [Sem.run_bind, run_underlying Tryz.underlying75, Result.andThen_ok]
 simp [h1, int_partK, int_inK]
 by_cases e0 : a0 = b0 <;> by_cases e1 : a1 = b1 <;> by_cases e2 : a2 = b2 <;> simp [e0, e1, e2]
theorem check_scrapK (e : Bool) (a0 a1 a2 : Int) : (Instr.checkKey e (d + 2) 75 (.agg #[.int .i64 a0, .int .i64 a1, .int .i64 a2])).run Tryz.prog w = .ok () w := by
 rw [Instr.checkKey]
 simp only [Sem.run_bind, run_underlying Tryz.underlying75, Result.andThen_ok]
 simp [int_partK, int_checkK]
set_option maxHeartbeats 4000000 in
theorem in_entryK (a0 a1 a2 a3 b0 b1 b2 b3 : Int) : (Op.equalIn (d + 3) 77 (.agg #[.int .i64 a0, .int .i64 a1, .int .i64 a2, .int .i64 a3]) (.agg #[.int .i64 b0, .int .i64 b1, .int .i64 b2, .int .i64 b3])).run Tryz.prog w = .ok ((a0 == b0 && (a1 == b1 && (a2 == b2 && (a3 == b3 && true))))) w := by
 have h1 : Tryz.prog.stoodInHeld 77 = false := by kernel_rfl
 have hp0 : ∀ c0 c1 c2 c3 : Value, ∀ w, (part 75 #[c0, c1, c2, c3] 0).run Tryz.prog w = .ok (.agg #[c0, c1, c2]) w := fun c0 c1 c2 c3 w => by simp [part, Tryz.isAgg75, Tryz.sizeOf75]
 rw [Op.equalIn]
 simp only [Sem.run_bind, run_underlying Tryz.underlying77, Result.andThen_ok]
 simp [h1, int_partK, int_inK, hp0, in_scrapK]
 by_cases e0 : a0 = b0 <;> by_cases e1 : a1 = b1 <;> by_cases e2 : a2 = b2 <;> by_cases e3 : a3 = b3 <;> simp [e0, e1, e2, e3]
theorem check_entryK (e : Bool) (a0 a1 a2 a3 : Int) : (Instr.checkKey e (d + 3) 77 (.agg #[.int .i64 a0, .int .i64 a1, .int .i64 a2, .int .i64 a3])).run Tryz.prog w = .ok () w := by
 have hp0 : ∀ c0 c1 c2 c3 : Value, ∀ w, (part 75 #[c0, c1, c2, c3] 0).run Tryz.prog w = .ok (.agg #[c0, c1, c2]) w := fun c0 c1 c2 c3 w => by simp [part, Tryz.isAgg75, Tryz.sizeOf75]
 rw [Instr.checkKey]
 simp only [Sem.run_bind, run_underlying Tryz.underlying77, Result.andThen_ok]
 simp [int_partK, int_checkK, hp0, check_scrapK]
end
def eKey (x : Ent) : Value := .agg #[.int .i64 x.src, .int .i64 x.pos, .int .i64 x.len, .int .i64 x.lines]
theorem keyS_En : KeyS Tryz.prog 77 eKey where
 und := ⟨_, Tryz.underlying77, fun a b => rfl⟩
 eq a b w := by
  have e : (a.src == b.src && (a.pos == b.pos && (a.len == b.len && (a.lines == b.lines && true)))) = decide (a = b) := by
   obtain ⟨a0, a1, a2, a3⟩ := a
   obtain ⟨b0, b1, b2, b3⟩ := b
   simp only [Ent.mk.injEq]
   by_cases e0 : a0 = b0 <;> by_cases e1 : a1 = b1 <;> by_cases e2 : a2 = b2 <;> by_cases e3 : a3 = b3 <;> simp [e0, e1, e2, e3]
  rw [← e]
  exact in_entryK w 9997 a.src a.pos a.len a.lines b.src b.pos b.len b.lines
 chk e n a w := check_entryK w (n + 1) e a.src a.pos a.len a.lines
 bits n a := by simp [eKey, Instr.sameBits]
def inKn (l : List Ent) : List (Ent × Value) := l.map fun k => (k, .bool true)
def addK (l : List Ent) (x : Ent) : List Ent := if x ∈ l then l else l ++ [x]
theorem mget_inKn (k : Ent) : ∀ l : List Ent, (mget k (inKn l)).getD (.bool false) = .bool (decide (k ∈ l))
 | [] => rfl
 | x :: l => by
   show ((if k = x then some (Value.bool true) else mget k (inKn l)).getD (.bool false)) = _
   by_cases h : k = x
   · rw [if_pos h]; simp [h]
   · rw [if_neg h, mget_inKn k l]; simp [h]
theorem mput_inKn (x : Ent) : ∀ l : List Ent, mput x (.bool true) (inKn l) = inKn (addK l x)
 | [] => rfl
 | y :: l => by
   have ih := mput_inKn x l
   show (if x = y then (x, Value.bool true) :: inKn l else (y, Value.bool true) :: mput x (.bool true) (inKn l)) = _
   by_cases h : x = y
   · subst h
     rw [if_pos rfl]
     unfold addK
     rw [if_pos (by simp)]
     rfl
   · rw [if_neg h, ih]
     unfold addK
     have e : x ∈ y :: l ↔ x ∈ l := by simp [h]
     by_cases h2 : x ∈ l
     · rw [if_pos h2, if_pos (e.2 h2)]; rfl
     · rw [if_neg h2, if_neg (fun h3 => h2 (e.1 h3))]; rfl
instance mapKE : MapS Tryz.prog TKm Ent eKey (.bool false) := ⟨77, 4, keyS_En, Tryz.underlying238, fun w => by kernel_rfl⟩
theorem look_KE (w : World) (M : Nat) (k : Ent) {A : Assn} {ms : List (Ent × Value)} [h : SatI A w] [h2 : HasM A M eKey ms] : (Instr.lookup TKm (.map (some M)) (eKey k) false).run Tryz.prog w = .ok ((mget k ms).getD (.bool false)) w := lookupS_run mapKE w M k
theorem put_KE (w : World) (M : Nat) (k : Ent) (v : Value) {A : Assn} {ms : List (Ent × Value)} [h : SatI A w] [h2 : HasM A M eKey ms] : (Instr.mapUpdate TKm (.map (some M)) (eKey k) v).run Tryz.prog w = .ok () (putW Tryz.prog TKm M (eKey k) v w) := putS_run mapKE w M k v
instance {w : World} {M : Nat} {k : Ent} {v : Value} {A A' : Assn} {ms : List (Ent × Value)} [h : SatI A w] [h2 : HasM A M eKey ms] [h3 : UpdM A M eKey (mput k v ms) A'] : SatI A' (putW Tryz.prog TKm M (eKey k) v w) := putS_sat mapKE
end Go.Proofs.YtfhbmblbidcmmaaGreat
namespace Go.Proofs.YtfhbmblbidcmmaaGreat
set_option linter.unusedSimpArgs false
set_option linter.unusedVariables false
set_option linter.unusedSectionVars false
open Go.RowKit Go.Sl Go.Dk Go.Tr
variable [TopN]
theorem sync_get (d : Dk) (nm n : ByteArray) (h : n ≠ nm) : (d.sync nm).2.get n = d.get n := by
 unfold Dk.sync
 split
 · rfl
 · split
   · rfl
   · unfold Dk.get Dk.settled Dk.put
     simp only
     rw [fget_fput, if_neg h]
     rfl
theorem sync_bp (d : Dk) (nm : ByteArray) : Bp 1 nm d (d.sync nm).2 := by
 have same : Bp 1 nm d d := (Bp.rfl' nm d).more (by omega)
 unfold Dk.sync
 split
 · exact same
 · split
   · exact ⟨same.changes, same.left, same.pend, same.len, same.cap⟩
   · obtain ⟨f, hf⟩ : ∃ f, (d.get nm).getD Dk.fl0 = f := ⟨_, rfl⟩
     have hget : ((d.ticked.put nm { f with safe := f.now, sure := true }).settled nm).get nm = some { f with safe := f.now, sure := true } := by
      unfold Dk.get Dk.settled Dk.put
      simp only
      rw [fget_fput, if_pos rfl]
     have hnow : fnow ((d.ticked.put nm { f with safe := f.now, sure := true }).settled nm) nm = fnow d nm := by
      unfold fnow; rw [hget, hf]; rfl
     rw [hf]
     refine ⟨by show d.changes + 1 ≤ _; omega, by show d.left ≤ d.left - 1 + _; omega, ?_, by simp only [hnow]; omega, by simp only [hnow]; omega⟩
     simp only [hnow]
     have : ((d.ticked.put nm { f with safe := f.now, sure := true }).settled nm).pend.length ≤ d.pend.length := List.length_filter_le _ _
     omega
theorem writes_bp : ∀ (l : List Int) {m : Nat} {s : Ck}, CkOk m s → (∀ k ∈ l, hasI s.its k = true) → Bp (2 * l.length) s.nm s.d (Ck.writes l s).2.d ∧ (Ck.writes l s).2.reads = s.reads ∧ SameDk s (Ck.writes l s).2
 | [], m, s, ok, _ => ⟨Bp.rfl' _ _, rfl, SameDk.same s⟩
 | k :: l, m, s, ok, h => by
   have hk := h k (by simp)
   obtain ⟨b, _, _, h0, h1⟩ := ok.key hk
   have hb := write_bp ok k h1
   have hs := write_same s k
   unfold Ck.writes
   split
   · obtain ⟨c1, c2, c3⟩ := writes_bp l (write_ok ok hk) fun j hj => by rw [write_has]; exact h j (by simp [hj])
     rw [hs.1] at c1
     exact ⟨(hb.trans c1).more (by rw [List.length_cons]; omega), c2.trans hs.2.2.1, (write_dk s k).next c3⟩
   · exact ⟨hb.more (by rw [List.length_cons]; omega), hs.2.2.1, write_dk s k⟩
theorem flush_bp {m : Nat} {s : Ck} (ok : CkOk m s) : Bp (2 * s.its.length + 1) s.nm s.d s.flush.2.d ∧ s.flush.2.reads = s.reads ∧ SameDk s s.flush.2 := by
 obtain ⟨h1, h2, h3⟩ := writes_bp (markedI s.its) ok fun k hk => marked_has hk
 have hl := marked_len s.its
 have hn := (writes_ok (markedI s.its) ok fun k hk => marked_has hk).2
 unfold Ck.flush
 simp only
 split
 · have := sync_bp (Ck.writes (markedI s.its) s).2.d (Ck.writes (markedI s.its) s).2.nm
   rw [hn] at this ⊢
   exact ⟨(h1.trans this).more (by omega), h2, h3.cap, rfl, fun n hne => (sync_get _ _ _ hne).trans (h3.oth n hne)⟩
 · exact ⟨h1.more (by omega), h2, h3⟩
theorem flush_its {m : Nat} {s : Ck} (ok : CkOk m s) : s.flush.2.nm = s.nm := by
 have hn := (writes_ok (markedI s.its) ok fun k hk => marked_has hk).2
 unfold Ck.flush
 simp only
 split <;> exact hn
theorem flush_clean {m T : Nat} {s : Ck} (ok : CkOk m s) (g : Good T s) (h0 : s.flush.1 = 0) : Clean s.flush.2 := by
 have h := flush_good ok g
 have ok2 := flush_ok ok
 intro n hn
 cases hm : n.mkd with
 | false => rfl
 | true =>
   exfalso
   have hh : hasI s.flush.2.its n.key = true := hasI_iff.2 (List.mem_map.2 ⟨n, hn, rfl⟩)
   obtain ⟨b, hb, _⟩ := ok2.key hh
   exact (h.kept h0).dirty n hn hm b (h.filed h0 _ _ (.inl hb))
def TS.flushed (s : TS) : TS := ⟨s.ck.flush.2, s.sp, s.ops + s.ck.its.length + 1⟩
structure FlushT (s s' : TS) : Prop where
 zero : s.ck.flush.1 = 0
 inv : TInv true s'
 clean : Clean s'.ck
 le : Le (nodeAt s) (nodeAt s')
 cap : SameCap s s'
 sp : s'.sp = s.sp
 left : leftOps s ≤ leftOps s' + 2049
theorem flush_ts {s : TS} (h : TInv true s) (ho : s.ops + 4100 ≤ opsMax) : FlushT s s.flushed := by
 obtain ⟨m, hm⟩ := h.ts.ck
 have hf := flush_good hm h.good
 obtain ⟨b1, b2, b3⟩ := flush_bp hm
 obtain ⟨z, ro⟩ := hf.roomy (h.roomy rfl)
 have hl := hm.lru.len
 have hnm := flush_its hm
 obtain ⟨n1, n2, n3, n4, n5⟩ := h.ts.num
 obtain ⟨c1, c2, c3, c4, c5⟩ := b1
 refine ⟨z, ⟨⟨⟨_, flush_ok hm⟩, ⟨?_, ?_, ?_, ?_, ?_⟩, ?_, h.ts.res, ?_⟩, hf.good, h.res, h.used, fun _ => ro⟩, flush_clean hm h.good z, nodeAt_le fun p n hs => stands_get (no := 0) hs hf.has, b3, rfl, ?_⟩
 · show s.ck.flush.2.d.changes ≤ 2 * (s.ops + s.ck.its.length + 1 : Nat); omega
 · show -(2 * (s.ops + s.ck.its.length + 1 : Nat) : Int) ≤ s.ck.flush.2.d.left; omega
 · show s.ck.flush.2.d.pend.length ≤ 512 * (s.ops + s.ck.its.length + 1) + (fnow s.ck.flush.2.d s.ck.flush.2.nm).length
   rw [hnm]; omega
 · show s.ck.flush.2.reads ≤ ((s.ops + s.ck.its.length + 1 : Nat) : Int); omega
 · show (fnow s.ck.flush.2.d s.ck.flush.2.nm).length ≤ _
   rw [hnm]; omega
 · show s.ops + s.ck.its.length + 1 ≤ _; omega
 · show s.sp.taken.length ≤ s.ops + s.ck.its.length + 1; have := h.ts.taken; omega
 · show (opsMax - s.ops) / 2 ≤ (opsMax - (s.ops + s.ck.its.length + 1)) / 2 + 2049; omega
theorem clean_rdy {s : TS} (h : TInv true s) (hc : Clean s.ck) : Rdy (fileNode (fileOf s)) (leftOps s) s := ⟨h.ts, h.good.pf, h.good.fine.down, .inl ⟨hc, rfl⟩, Nat.le_refl _⟩
theorem fileNode_in {l : List UInt8} {p : Int} {n : Nd} (h : fileNode l p = some n) : 1 ≤ p ∧ p < 1048576 ∧ 256 * p + 256 ≤ l.length := by
 unfold fileNode at h
 split at h
 · cases h
 · omega
theorem flush_tany (h : Th) (s : TS) (F : Assn) (w : World) (hI : TInv true s) (ho : s.ops + 4100 ≤ opsMax) (hc : s.ck.cap ≤ 1000) (hs : Sat (treeP h s * F) w) :
 Calls Tryz.prog 36 #[.pointer (some ⟨h.C, 0, none⟩)] w fun e w' => e = .returned (.int .i64 0) ∧ Sat (treeP h s.flushed * F) w' := by
 have hf := flush_ts hI ho
 obtain ⟨hi, q1⟩ := tree_parts hs
 have hm := hI.ts.ok
 refine (flush_any h.C h.D s.ck 137438953472 _ w q1 hm (by have := hm.most; unfold U; omega)).mono ?_
 rintro e w' ⟨rfl, q2⟩
 rw [hf.zero]
 exact ⟨rfl, tree_join hf.inv.ts q2⟩
end Go.Proofs.YtfhbmblbidcmmaaGreat
namespace Go.Proofs.YtfhbmblbidcmmaaGreat
set_option linter.unusedSimpArgs false
set_option linter.unusedVariables false
set_option linter.unusedSectionVars false
open Go.RowKit Go.Sl Go.Dk Go.Tr
open Go.Lru (ikey)
attribute [local go_sem ↓] Go.wp_at_zero Go.wp_at_succ
attribute [local go_sem] Go.Sl.cell_sat Go.Sl.frozen_sat
variable [TopN]
set_option maxHeartbeats 800000 in
theorem tread_file (h : Th) (s : TS) (F : Assn) (w : World) (hs : Sat (treeP h s * F) w) (hg : Fine s.ck.d nmS) :
 Calls Tryz.prog 49 #[.pointer (some ⟨h.D, 0, none⟩), .string nmS, .int .i64 0, .int .i64 (fnow s.ck.d nmS).length] w fun e w' => ∃ (a : Option Addr) (c : Nat) (er : Int), e = .returned (.tuple #[.slice a (fnow s.ck.d nmS).length c, .int .i64 er]) ∧ Sat (rw TB 1 (.slice a (fnow s.ck.d nmS).length c) (bys (fnow s.ck.d nmS)) * (treeP h s * F)) w' := by
 obtain ⟨hi, q1⟩ := tree_parts hs
 obtain ⟨L, PM, ps, hp, q2⟩ := Sat.cache_open q1
 unfold cacheA at q2
 have q3 : Sat (diskP h.D s.ck.d * (coreC h.C L h.D PM s.ck * (lruI L s.ck.cap s.ck.its * (mp ikey PM (ps.map kvP) * (pagesA ps * (spaceP h.S s.sp * (Sl.block h.t TTr [.pointer (some ⟨h.C, 0, none⟩), .pointer (some ⟨h.S, 0, none⟩)] * F))))))) w := q2.eq (by ac_rfl)
 have hbig : ∀ p ∈ s.ck.d.files, p.2.now.length ≤ big := fun p hp => (hi.ok.dk.sz p hp).1
 have hd : (s.ck.d.read nmS 0 ((fnow s.ck.d nmS).length : Nat)).2 = fnow s.ck.d nmS := by
  unfold Dk.read
  cases hget : s.ck.d.get nmS with
  | none =>
    have h6 := may_six hg.nmd hg.down hget
    rw [if_pos (by rw [h6]; decide)]
    unfold fnow
    rw [hget]
    rfl
  | some f =>
    have hm := may_there (t := true) hg.nmd hg.down hget
    rw [if_neg (by simp [hm])]
    have e : fnow s.ck.d nmS = f.now := by unfold fnow; rw [hget]; rfl
    rw [e]
    simp only
    simp only [Option.getD_some]
    rw [if_neg (by omega)]
    simp
 refine (read_any h.D s.ck.d nmS 0 ((fnow s.ck.d nmS).length : Nat) _ w q3 (by decide) hbig).mono ?_
 rintro e w' ⟨v, rfl, q4⟩
 rw [hd] at q4
 obtain ⟨a, n, c, rfl, h3, _⟩ := rw_v q4
 have hn : (fnow s.ck.d nmS).length = n := by rw [bys_len] at h3; omega
 subst hn
 refine ⟨a, c, _, rfl, ?_⟩
 have q5 : Sat (coreC h.C L h.D PM s.ck * (lruI L s.ck.cap s.ck.its * (diskP h.D s.ck.d * (mp ikey PM (ps.map kvP) * pagesA ps))) * (rw TB 1 (.slice a (fnow s.ck.d nmS).length c) (bys (fnow s.ck.d nmS)) * (spaceP h.S s.sp * (Sl.block h.t TTr [.pointer (some ⟨h.C, 0, none⟩), .pointer (some ⟨h.S, 0, none⟩)] * F)))) w' := q4.eq (by ac_rfl)
 have q6 := Sat.cache_shut (L := L) (PM := PM) (ps := ps) hp q5
 exact (tree_join hi (q6.eq (show _ = cacheP h.C h.D s.ck * (spaceP h.S s.sp * (Sl.block h.t TTr [.pointer (some ⟨h.C, 0, none⟩), .pointer (some ⟨h.S, 0, none⟩)] * (rw TB 1 (.slice a (fnow s.ck.d nmS).length c) (bys (fnow s.ck.d nmS)) * F))) by ac_rfl))).eq (by ac_rfl)
set_option maxHeartbeats 800000 in
theorem tsize_file (h : Th) (s : TS) (nm : ByteArray) (F : Assn) (w : World) (hs : Sat (treeP h s * F) w) (hn : nm.size ≤ 9223372036854775807) :
 Calls Tryz.prog 50 #[.pointer (some ⟨h.D, 0, none⟩), .string nm] w fun e w' => e = .returned (.int .i64 (s.ck.d.size nm)) ∧ w = w' := by
 obtain ⟨hi, q1⟩ := tree_parts hs
 obtain ⟨L, PM, ps, hp, q2⟩ := Sat.cache_open q1
 unfold cacheA at q2
 exact size_any h.D s.ck.d nm _ w (q2.eq (show _ = diskP h.D s.ck.d * (coreC h.C L h.D PM s.ck * (lruI L s.ck.cap s.ck.its * (mp ikey PM (ps.map kvP) * (pagesA ps * (spaceP h.S s.sp * (Sl.block h.t TTr [.pointer (some ⟨h.C, 0, none⟩), .pointer (some ⟨h.S, 0, none⟩)] * F)))))) by ac_rfl)) hn
end Go.Proofs.YtfhbmblbidcmmaaGreat
