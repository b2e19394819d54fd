/-
  Of all roots that are made the pages are a tree in the form of the document, and just these are told, and each is in use. No condition. (part 40)
-/
import Derived.Test.YtfhbmblbidcmmaaGreatSk36
import Derived.Test.YtfhbmblbidcmmaaGreatSk39
set_option linter.unusedSimpArgs false
set_option linter.unusedVariables false
namespace Go.Tr
set_option linter.unusedSimpArgs false
set_option linter.unusedVariables false
variable {V : Int → Option Nd}
def Pt (V : Int → Option Nd) : Nat → Int → List Int → Prop
 | 0 => fun no ps => (∃ n, V no = some n ∧ n.kids = []) ∧ ps = [no]
 | h + 1 => fun no ps => ∃ (n : Nd) (pls : List (List Int)), V no = some n ∧ n.kids ≠ [] ∧ F2 (fun (k : Kd) pl => Pt V h k.page pl) n.kids pls ∧ ps = no :: pls.flatten
theorem F2.eq {α β : Type} {R R' : α → β → Prop} (hR : ∀ a b c, R a b → R' a c → b = c) : ∀ {l : List α} {m m' : List β}, F2 R l m → F2 R' l m' → m = m'
 | [], [], [], _, _ => rfl
 | a :: l, b :: m, c :: m', h, h' => by rw [hR a b c h.1 h'.1, F2.eq hR h.2 h'.2]
 | [], _ :: _, _, h, _ => h.elim
 | [], [], _ :: _, _, h => h.elim
 | _ :: _, [], _, h, _ => h.elim
 | _ :: _, _ :: _, [], _, h => h.elim
theorem F2.mem {α β : Type} {R : α → β → Prop} : ∀ {l : List α} {m : List β}, F2 R l m → ∀ b ∈ m, ∃ a ∈ l, R a b
 | [], [], _, b, h => by cases h
 | a :: l, c :: m, h, b, hb => by
   rcases List.mem_cons.1 hb with rfl | hb
   · exact ⟨a, List.mem_cons_self, h.1⟩
   · obtain ⟨x, hx, hr⟩ := F2.mem h.2 b hb
     exact ⟨x, List.mem_cons_of_mem _ hx, hr⟩
 | [], _ :: _, h, _, _ => h.elim
 | _ :: _, [], h, _, _ => h.elim
theorem Pt.uniq : ∀ {h h' : Nat} {no : Int} {ps ps' : List Int}, Pt V h no ps → Pt V h' no ps' → h = h' ∧ ps = ps'
 | 0, 0, _, _, _, ⟨_, e⟩, ⟨_, e'⟩ => ⟨rfl, by rw [e, e']⟩
 | 0, h' + 1, _, _, _, ⟨⟨n, a, b⟩, _⟩, ⟨m, pls, c, d, _⟩ => by
   rw [a] at c; cases c; exact absurd b d
 | h + 1, 0, _, _, _, ⟨m, pls, c, d, _⟩, ⟨⟨n, a, b⟩, _⟩ => by
   rw [a] at c; cases c; exact absurd b d
 | h + 1, h' + 1, _, _, _, ⟨m, pls, c, d, f, e⟩, ⟨m', pls', c', d', f', e'⟩ => by
   rw [c] at c'; cases c'
   have hh : h = h' := by
    cases hk : m.kids with
    | nil => exact absurd hk d
    | cons k ks =>
      rw [hk] at f f'
      cases pls with
      | nil => exact f.elim
      | cons p pls =>
        cases pls' with
        | nil => exact f'.elim
        | cons p' pls' => exact (Pt.uniq f.1 f'.1).1
   subst hh
   have := F2.eq (R := fun (k : Kd) pl => Pt V h k.page pl) (R' := fun (k : Kd) pl => Pt V h k.page pl) (fun a b c h1 h2 => (Pt.uniq h1 h2).2) f f'
   rw [e, e', this]
   exact ⟨rfl, rfl⟩
theorem Pt.self {h : Nat} {no : Int} {ps : List Int} (hp : Pt V h no ps) : no ∈ ps := by
 cases h with
 | zero => rw [hp.2]; exact List.mem_singleton.2 rfl
 | succ h => obtain ⟨_, _, _, _, _, e⟩ := hp; rw [e]; exact List.mem_cons_self
theorem Pt.node {h : Nat} {no : Int} {ps : List Int} (hp : Pt V h no ps) : ∃ n, V no = some n := by
 cases h with
 | zero => exact ⟨_, hp.1.choose_spec.1⟩
 | succ h => obtain ⟨n, _, e, _⟩ := hp; exact ⟨n, e⟩
theorem Pt.mem : ∀ {h : Nat} {no : Int} {ps : List Int}, Pt V h no ps → ∀ x ∈ ps, ∃ h' ps', h' ≤ h ∧ Pt V h' x ps'
 | 0, no, ps, hp, x, hx => by
   have e := hp.2
   rw [e, List.mem_singleton] at hx
   subst hx
   exact ⟨0, ps, Nat.le_refl _, hp⟩
 | h + 1, no, ps, hp, x, hx => by
   obtain ⟨n, pls, a, b, f, e⟩ := id hp
   rw [e] at hx
   rcases List.mem_cons.1 hx with rfl | hx
   · exact ⟨h + 1, ps, Nat.le_refl _, hp⟩
   · obtain ⟨pl, hpl, hx⟩ := List.mem_flatten.1 hx
     obtain ⟨k, _, hk⟩ := f.mem pl hpl
     obtain ⟨h', ps', h1, h2⟩ := Pt.mem hk x hx
     exact ⟨h', ps', by omega, h2⟩
theorem Pt.kid {h : Nat} {no : Int} {n : Nd} {pls : List (List Int)} (f : F2 (fun (k : Kd) pl => Pt V h k.page pl) n.kids pls) : ∀ x ∈ pls.flatten, ∃ h' ps', h' ≤ h ∧ Pt V h' x ps' := fun x hx => by
 obtain ⟨pl, hpl, hx⟩ := List.mem_flatten.1 hx
 obtain ⟨k, _, hk⟩ := f.mem pl hpl
 exact Pt.mem hk x hx
def Whl (V : Int → Option Nd) (h : Nat) (l : List Int) : Prop := ∀ p ∈ l, ∀ h' ps, h' ≤ h → Pt V h' p ps → ∀ x ∈ ps, x ∈ l
theorem Whl.nil (h : Nat) : Whl V h [] := fun p hp => by cases hp
open Go.Proofs.YtfhbmblbidcmmaaGreat
variable [TopN]
structure PgOk (V : Int → Option Nd) (h m : Nat) (ps l : List Int) (s : TS) (l' : List Int) (s' : TS) : Prop where
 rdy : Rdy V m s'
 sp : s'.sp = s.sp
 dk : s'.ck.d = s.ck.d
 more : ∀ x ∈ l, x ∈ l'
 all : ∀ x ∈ ps, x ∈ l'
 just : ∀ x ∈ l', x ∈ l ∨ x ∈ ps
 len : l'.length ≤ l.length + ps.length
 whl : Whl V h l'
theorem kidsP_ok {V : Int → Option Nd} {f h : Nat} (hf : ∀ (no : Int) (ps l : List Int) (m : Nat) (s : TS), Pt V h no ps → Rdy V (m + ps.length) s → Whl V h l → l.length + ps.length ≤ 1048577 → ∃ l' s', pagesTo tRead f no l s = .ok l' s' ∧ PgOk V h m ps l s l' s') :
 ∀ (ks : List Kd) (pls : List (List Int)) (l : List Int) (m : Nat) (s : TS), F2 (fun (k : Kd) pl => Pt V h k.page pl) ks pls → Rdy V (m + pls.flatten.length) s → Whl V h l → l.length + pls.flatten.length ≤ 1048577 →
  ∃ l' s', kidsP (pagesTo tRead f) ks l s = .ok l' s' ∧ PgOk V h m pls.flatten l s l' s'
 | [], [], l, m, s, _, hr, hw, _ => ⟨l, s, rfl, hr.less (by simp), rfl, rfl, fun x h => h, by simp, fun x h => .inl h, by simp, hw⟩
 | k :: ks, p :: pls, l, m, s, hk, hr, hw, hl => by
   rw [List.flatten_cons, List.length_append] at hr hl
   obtain ⟨l1, s1, e1, o1⟩ := hf k.page p l (m + pls.flatten.length) s hk.1 (by rw [show m + pls.flatten.length + p.length = m + (p.length + pls.flatten.length) by omega]; exact hr) hw (by omega)
   obtain ⟨l2, s2, e2, o2⟩ := kidsP_ok hf ks pls l1 m s1 hk.2 o1.rdy o1.whl (by have := o1.len; omega)
   refine ⟨l2, s2, ?_, o2.rdy, o2.sp.trans o1.sp, o2.dk.trans o1.dk, fun x hx => o2.more x (o1.more x hx), fun x hx => ?_, fun x hx => ?_, ?_, o2.whl⟩
   · show M.bind (pagesTo tRead f k.page l) (kidsP (pagesTo tRead f) ks) s = _
     unfold M.bind
     rw [e1]
     exact e2
   · rw [List.flatten_cons] at hx
     rcases List.mem_append.1 hx with hx | hx
     · exact o2.more x (o1.all x hx)
     · exact o2.all x hx
   · rw [List.flatten_cons]
     rcases o2.just x hx with hx | hx
     · rcases o1.just x hx with hx | hx
       · exact .inl hx
       · exact .inr (List.mem_append_left _ hx)
     · exact .inr (List.mem_append_right _ hx)
   · have := o1.len
     have := o2.len
     rw [List.flatten_cons, List.length_append]
     omega
 | [], _ :: _, _, _, _, h, _, _, _ => h.elim
 | _ :: _, [], _, _, _, h, _, _, _ => h.elim
theorem pagesTo_pt {V : Int → Option Nd} (hV : ∀ p n, V p = some n → 1 ≤ p ∧ p < 1048576) : ∀ (f h : Nat) (no : Int) (ps l : List Int) (m : Nat) (s : TS), h < f → Pt V h no ps → Rdy V (m + ps.length) s → Whl V h l → l.length + ps.length ≤ 1048577 →
 ∃ l' s', pagesTo tRead f no l s = .ok l' s' ∧ PgOk V h m ps l s l' s'
 | 0, h, _, _, _, _, _, hf, _, _, _, _ => absurd hf (by omega)
 | f + 1, h, no, ps, l, m, s, hf, hp, hr, hw, hl => by
   have hself := hp.self
   obtain ⟨n, hn⟩ := hp.node
   obtain ⟨b1, b2⟩ := hV no n hn
   have hpos : 1 ≤ ps.length := List.length_pos_of_mem hself
   obtain ⟨s1, r1, sp1, dk1, e1⟩ := (show Rdy V ((m + ps.length - 1) + 1) s by rw [show m + ps.length - 1 + 1 = m + ps.length by omega]; exact hr).read (p := no) (by omega)
   rw [hn] at e1
   have hgo : pagesTo tRead (f + 1) no l s = (if l.contains no = true then M.pure l else if 1048576 < l.length ∨ no < 0 ∨ 1099511627776 ≤ no then (fun _ => .bad) else kidsP (pagesTo tRead f) n.kids (l ++ [no])) s1 := by
    conv => lhs; unfold pagesTo M.bind
    rw [e1]
    rfl
   by_cases hc : l.contains no = true
   · have hc' : no ∈ l := by simpa using hc
     refine ⟨l, s1, by rw [hgo, if_pos hc]; rfl, r1.less (by omega), sp1, dk1, fun x h => h, hw no hc' h ps (Nat.le_refl _) hp, fun x h => .inl h, by omega, hw⟩
   rw [if_neg hc, if_neg (by omega)] at hgo
   cases h with
   | zero =>
     obtain ⟨⟨n', a1, a2⟩, rfl⟩ := hp
     rw [hn] at a1; cases a1
     rw [a2] at hgo
     refine ⟨l ++ [no], s1, hgo, r1.less (by simp), sp1, dk1, fun x h => List.mem_append_left _ h, fun x h => List.mem_append_right _ h, fun x h => List.mem_append.1 h, by simp, fun p hp' h' ps' hle hpt x hx => ?_⟩
     rcases List.mem_append.1 hp' with hp' | hp'
     · exact List.mem_append_left _ (hw p hp' h' ps' hle hpt x hx)
     · obtain rfl : h' = 0 := by omega
       rw [hpt.2, List.mem_singleton] at hx
       rw [hx]
       exact List.mem_append_right _ hp'
   | succ h =>
     obtain ⟨n', pls, a1, a2, a3, rfl⟩ := id hp
     rw [hn] at a1; cases a1
     rw [List.length_cons] at hr hl r1
     have hw1 : Whl V h (l ++ [no]) := fun p hp' h' ps' hle hpt x hx => by
      rcases List.mem_append.1 hp' with hp' | hp'
      · exact List.mem_append_left _ (hw p hp' h' ps' (by omega) hpt x hx)
      · rw [List.mem_singleton.1 hp'] at hpt
        have := (hpt.uniq hp).1
        omega
     obtain ⟨l2, s2, e2, o2⟩ := kidsP_ok (f := f) (h := h) (fun no ps l m s hp hr hw hl => pagesTo_pt hV f h no ps l m s (by omega) hp hr hw hl) n.kids pls (l ++ [no]) m s1 a3 (r1.less (by omega)) hw1 (by rw [List.length_append, List.length_singleton]; omega)
     refine ⟨l2, s2, by rw [hgo]; exact e2, o2.rdy, o2.sp.trans sp1, o2.dk.trans dk1, fun x h => o2.more x (List.mem_append_left _ h), fun x hx => ?_, fun x hx => ?_, ?_, fun p hp' h' ps' hle hpt x hx => ?_⟩
     · rcases List.mem_cons.1 hx with rfl | hx
       · exact o2.more _ (List.mem_append_right _ (List.mem_singleton.2 rfl))
       · exact o2.all x hx
     · rcases o2.just x hx with hx | hx
       · rcases List.mem_append.1 hx with hx | hx
         · exact .inl hx
         · exact .inr (by rw [List.mem_singleton.1 hx]; exact List.mem_cons_self)
       · exact .inr (List.mem_cons_of_mem _ hx)
     · have := o2.len
       rw [List.length_append, List.length_singleton] at this
       rw [List.length_cons]
       omega
     · rcases Nat.lt_or_ge h h' with hlt | hge
       · obtain rfl : h' = h + 1 := by omega
         rcases o2.just p hp' with hp' | hp'
         · rcases List.mem_append.1 hp' with hp' | hp'
           · exact o2.more x (List.mem_append_left _ (hw p hp' _ ps' (Nat.le_refl _) hpt x hx))
           · rw [List.mem_singleton.1 hp'] at hpt
             rw [(hpt.uniq hp).2] at hx
             rcases List.mem_cons.1 hx with rfl | hx
             · exact o2.more _ (List.mem_append_right _ (List.mem_singleton.2 rfl))
             · exact o2.all x hx
         · obtain ⟨h2, ps2, h3, h4⟩ := Pt.kid (no := no) a3 p hp'
           have := (hpt.uniq h4).1
           omega
       · exact o2.whl p hp' h' ps' hge hpt x hx
end Go.Tr
namespace Go.Tr
set_option linter.unusedSimpArgs false
set_option linter.unusedVariables false
variable {V : Int → Option Nd}
theorem rKids_pt {bl : Int → Lk} (hb : ∀ p, (bl p).ok = true → ∃ h : Nat, (bl p).height = h ∧ Pt V h p (bl p).pages) : ∀ (ks : List Kd) (first : Bool) (o : Lk), (rKids V bl ks first o).ok = true →
 (first = false ∨ ks = [] → (rKids V bl ks first o).height = o.height) ∧ ∃ pls, (rKids V bl ks first o).pages = o.pages ++ pls.flatten ∧ F2 (fun (k : Kd) pl => ∃ h : Nat, (h : Int) + 1 = (rKids V bl ks first o).height ∧ (bl k.page).ok = true ∧ (bl k.page).height = h ∧ Pt V h k.page pl) ks pls
 | [], first, o, h => ⟨fun _ => rfl, [], by simp [rKids], trivial⟩
 | k :: ks, first, o, h => by
   unfold rKids at h ⊢
   cases hr : rKid (bl k.page) (rSum (nodeOr V k.page)) first k o with
   | none => rw [hr] at h; simp [lk0] at h
   | some o' =>
     rw [hr] at h
     simp only at h ⊢
     obtain ⟨a, b, c, d, rfl⟩ := rKid_ok hr
     obtain ⟨g1, pls, g2, g3⟩ := rKids_pt hb ks false _ h
     have g4 := g1 (.inl rfl)
     obtain ⟨q, q1, q2⟩ := hb k.page a
     refine ⟨fun hx => ?_, (bl k.page).pages :: pls, by rw [g2, List.flatten_cons, List.append_assoc], ⟨q, by rw [g4, ← q1], a, q1, q2⟩, g3⟩
     rcases hx with hx | hx
     · rw [g4]; exact c hx
     · cases hx
theorem rBelow_pt (hV : ∀ p n, V p = some n → may n = true) : ∀ (f : Nat) (no : Int) (top : Bool), (rBelow V f no top).ok = true → ∃ h : Nat, h < f ∧ (rBelow V f no top).height = h ∧ Pt V h no (rBelow V f no top).pages
 | 0, no, top, h => by simp [rBelow, lk0] at h
 | f + 1, no, top, h => by
   unfold rBelow at h ⊢
   cases hn : V no with
   | none => rw [hn] at h; simp [lk0] at h
   | some n =>
     rw [hn] at h
     simp only at h ⊢
     by_cases h4 : top = false ∧ many n < 4
     · rw [if_pos h4] at h; simp [lk0] at h
     rw [if_neg h4] at h ⊢
     obtain ⟨g1, pls, g2, g3⟩ := rKids_pt (V := V) (bl := fun p => rBelow V f p false) (fun p hp => by obtain ⟨q, q1, q2, q3⟩ := rBelow_pt hV f p false hp; exact ⟨q, q2, q3⟩) n.kids true _ h
     cases hk : n.kids with
     | nil =>
       simp only [rKids]
       exact ⟨0, by omega, rfl, ⟨n, hn, hk⟩, rfl⟩
     | cons k ks =>
       rw [hk] at g2 g3 h
       cases pls with
       | nil => exact g3.elim
       | cons pl pls =>
         obtain ⟨⟨q, q1, q2, q3, q4⟩, _⟩ := id g3
         obtain ⟨q', q5, q6, _⟩ := rBelow_pt hV f k.page false q2
         have hqq : q' = q := by rw [q6] at q3; omega
         refine ⟨q + 1, by omega, by rw [← q1]; omega, n, pl :: pls, hn, by rw [hk]; simp, ?_, ?_⟩
         · rw [hk]
           exact g3.mono fun k pl ⟨j, j1, _, _, j2⟩ => by
            obtain rfl : j = q := by omega
            exact j2
         · rw [g2]; rfl
theorem rSum_kd {V : Int → Option Nd} {k : Kd} {n : Nd} (h1 : V k.page = some n) (h2 : may n = true) (h3 : k = kdOf k.page n) : rSum (nodeOr V k.page) = (k.bytes, k.lines, k.scraps) := by
 unfold nodeOr
 rw [h1]
 show rSum n = _
 rw [rSum_may h2]
 conv => rhs; rw [h3]
 rfl
theorem Sub.head {v : Int → Option Nd} {h lo hi : Nat} {k : Kd} {l : List Ent} (hs : Sub v h lo hi k l) : ∃ n, v k.page = some n ∧ may n = true ∧ k = kdOf k.page n := by
 cases h with
 | zero => exact ⟨_, hs.1, hs.2.1, hs.2.2.2.2.1⟩
 | succ h => obtain ⟨ks, ls, h1, h2, h3, h4, h5, h6⟩ := hs; exact ⟨_, h1, h2, h5⟩
theorem sub_kids {v V : Int → Option Nd} {h f : Nat} (hb : ∀ (k : Kd) (l : List Ent), Sub v h 4 12 k l → ∃ ps, rBelow V f k.page false = ⟨true, h, l, ps⟩ ∧ ∀ p ∈ ps, (v p).isSome) (hv : Le v V) :
 ∀ (ks : List Kd) (ls : List (List Ent)) (first : Bool) (ht : Int) (es : List Ent) (pp : List Int), F2 (Sub v h 4 12) ks ls → (first = false → ht = h + 1) → (ks = [] → ht = h + 1) → (es ++ ls.flatten).length ≤ 1024 →
  ∃ ps, rKids V (fun p => rBelow V f p false) ks first ⟨true, ht, es, pp⟩ = ⟨true, h + 1, es ++ ls.flatten, pp ++ ps⟩ ∧ ∀ p ∈ ps, (v p).isSome
 | [], [], first, ht, es, pp, _, _, hh, _ => ⟨[], by rw [hh rfl]; simp [rKids], by simp⟩
 | k :: ks, l :: ls, first, ht, es, pp, hs, hh, _, hl => by
   obtain ⟨ps1, e1, p1⟩ := hb k l hs.1
   obtain ⟨n, n1, n2, n3⟩ := hs.1.head
   have hsum := rSum_kd (hv _ _ n1) n2 n3
   rw [List.flatten_cons] at hl ⊢
   obtain ⟨ps2, e2, p2⟩ := sub_kids hb hv ks ls false ((h : Int) + 1) (es ++ l) (pp ++ ps1) hs.2 (fun _ => rfl) (fun _ => rfl) (by rw [List.append_assoc]; exact hl)
   refine ⟨ps1 ++ ps2, ?_, fun p hp => (List.mem_append.1 hp).elim (p1 p) (p2 p)⟩
   unfold rKids
   rw [e1, hsum, rKid_some rfl rfl (fun e => by show (h : Int) + 1 = ht; rw [hh e]) (by show (es ++ l).length ≤ 1024; rw [← List.append_assoc, List.length_append] at hl; omega)]
   simp only
   rw [e2, List.append_assoc, List.append_assoc]
 | [], _ :: _, _, _, _, _, h, _, _, _ => h.elim
 | _ :: _, [], _, _, _, _, h, _, _, _ => h.elim
theorem sub_below {v V : Int → Option Nd} (hv : Le v V) : ∀ (h f : Nat) (top : Bool) (lo hi : Nat) (k : Kd) (l : List Ent), h < f → (top = false → 4 ≤ lo) → Sub v h lo hi k l → ∃ ps, rBelow V f k.page top = ⟨true, h, l, ps⟩ ∧ ∀ p ∈ ps, (v p).isSome
 | _, 0, _, _, _, _, _, hf, _, _ => absurd hf (by omega)
 | 0, f + 1, top, lo, hi, k, l, hf, ht, hs => by
   obtain ⟨h1, h2, h3, h4, h5, h6, h7⟩ := hs
   refine ⟨[k.page], ?_, fun p hp => by rw [List.mem_singleton.1 hp, h1]; rfl⟩
   unfold rBelow
   rw [hv _ _ h1]
   simp only
   rw [if_neg (fun hx => by have := ht hx.1; have := hx.2; unfold many at this; simp at this; omega)]
   simp [rKids]
 | h + 1, f + 1, top, lo, hi, k, l, hf, ht, hs => by
   have hfit := hs.fine.fit.2.2
   obtain ⟨ks, ls, h1, h2, h3, h4, h5, h6, h7, h8, h9⟩ := hs
   obtain ⟨m1, m2, m3, m4, m5, m6⟩ := may_inner h2 rfl
   simp only at m3
   obtain ⟨ps, e, hp⟩ := sub_kids (v := v) (V := V) (f := f) (h := h) (fun k l hs => sub_below hv h f false 4 12 k l (by omega) (fun _ => by omega) hs) hv ks ls true 0 [] [k.page] h8 (fun e => Bool.noConfusion e) (fun e => by rw [e] at m3; simp at m3) (by rw [List.nil_append, ← h9]; exact hfit)
   refine ⟨k.page :: ps, ?_, fun p hp' => ?_⟩
   · unfold rBelow
     rw [hv _ _ h1]
     simp only
     rw [if_neg (fun hx => by have := ht hx.1; have := hx.2; unfold many at this; simp at this; omega), e, h9]
     simp
   · rcases List.mem_cons.1 hp' with rfl | hp'
     · rw [h1]; rfl
     · exact hp p hp'
theorem rt_tree {v V : Int → Option Nd} (hv : Le v V) {r : Int} {l : List Ent} (h : Rt v r l) (hj : Joined l) : (rTree V r).ok = true ∧ (rTree V r).ents = l ∧ ∀ p ∈ (rTree V r).pages, (v p).isSome := by
 by_cases h0 : r = 0
 · unfold rTree
   rw [if_pos h0]
   refine ⟨rfl, ?_, by simp⟩
   rcases h with ⟨_, rfl⟩ | ⟨hh, k, e, hs⟩
   · rfl
   · exfalso
     obtain ⟨n, n1, n2, n3⟩ := hs.head
     have := mayK_facts hs.fine.may
     omega
 · rcases h with ⟨e, _⟩ | ⟨hh, k, e, hs⟩
   · exact absurd e h0
   have := hs.low
   obtain ⟨ps, e1, hp⟩ := sub_below hv hh 13 true 1 12 k l (by omega) (fun e => Bool.noConfusion e) hs
   rw [e] at e1
   unfold rTree
   rw [if_neg h0, e1]
   simp only
   rw [if_neg (by rw [join_len.2 hj]; simp)]
   exact ⟨rfl, rfl, hp⟩
theorem rTree_ok (hV : ∀ p n, V p = some n → may n = true) (r : Int) : LkOk true 13 (rTree V r) := by
 unfold rTree
 split
 · exact ⟨by simp, by simp, by simp, by simp, by simp, by simp⟩
 · split
   · exact lk0_ok _ _
   · exact rBelow_ok hV 13 r true
theorem tree_pt (hV : ∀ p n, V p = some n → may n = true) {r : Int} (h0 : r ≠ 0) (h : (rTree V r).ok = true) : ∃ hh : Nat, hh < 13 ∧ Pt V hh r (rTree V r).pages ∧ (rTree V r).pages.length ≤ 1037 := by
 unfold rTree at h ⊢
 rw [if_neg h0] at h ⊢
 split at h
 · simp [lk0] at h
 · next h1 =>
   rw [if_neg h1]
   obtain ⟨q, q1, q2, q3⟩ := rBelow_pt hV 13 r true h
   have h2 := rBelow_ok hV 13 r true
   have := h2.pages
   have := h2.ents
   exact ⟨q, q1, q3, by omega⟩
open Go.Proofs.YtfhbmblbidcmmaaGreat
variable [TopN]
end Go.Tr
