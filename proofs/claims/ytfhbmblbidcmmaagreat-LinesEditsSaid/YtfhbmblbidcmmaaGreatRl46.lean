/-
  Walks and plain laws that the lines of texts lean on. No condition (part 46)
-/
import Derived.Test.YtfhbmblbidcmmaaGreatRl41
import Derived.Test.YtfhbmblbidcmmaaGreatRl44
import Derived.Test.YtfhbmblbidcmmaaGreatRl45
import Derived.WalkMore
import Derived.ScopeJumps
set_option linter.unusedSimpArgs false
set_option linter.unusedVariables false
namespace Go.Proofs.YtfhbmblbidcmmaaGreat
set_option linter.unusedSimpArgs false
set_option linter.unusedVariables false
set_option linter.unusedSectionVars false
open Go.RowKit Go.Sl Go.Dk Go.Tr
open Go.Lru (ikey)
variable [TopN]
attribute [local go_sem ↓] Go.wp_at_zero Go.wp_at_succ
attribute [local go_sem] Go.Sl.cell_sat Go.Sl.frozen_sat
theorem FileIs.same {a b : Ck} {n : ByteArray} {l : List UInt8} (h : FileIs a.d n l) (k : SameDk a b) (hn : n ≠ a.nm) : FileIs b.d n l := by
 obtain ⟨f, h1, h2⟩ := h
 exact ⟨f, (k.oth n hn).trans h1, h2⟩
theorem LnI.nxt {O T : List UInt8} {s s' : TS} {x : Ix} {R W : Nat} (h : LnI O T s x) (k : Nxt s s' R W) : LnI O T s' x :=
 ⟨k.inv, h.ix, h.fo.same k.cap (h.nm.1), h.ft.same k.cap (h.nm.2), by rw [k.cap.nm]; exact h.nm, h.lo, h.lt⟩
abbrev itemV (i : Itm) : Value := .agg #[.int .i64 i.bytes, .int .i64 i.lines, .int .i64 i.ent.src, .int .i64 i.ent.pos, .int .i64 i.ent.len, .int .i64 i.page]
abbrev endsV (n : Nat) : Value := .tuple #[.int .i64 (n : Int), .int .i64 0]
def AllC (h : Nat) : Prop := ∀ (H : Lh) (O T : List UInt8) (s : TS) (x : Ix) (k : Kd) (lo hi : Nat) (l : List Ent) (deep : Int) (F : Assn) (w : World), Sat (linesP H O T s x * F) w → LnI O T s x → Sub (nodeAt s) h lo hi k l → (∀ y ∈ l, RtE O T y) → 0 ≤ deep → deep + h ≤ 20 → (h + 1) * l.length ≤ leftOps s →
 Calls Tryz.prog 85 #[.pointer (some ⟨H.L, 0, none⟩), .int .i64 k.page, .int .i64 deep] w fun e w' => ∃ s', e = .returned (endsV (endsC (textE O T l))) ∧ Sat (linesP H O T s' (ixList O x l) * F) w' ∧ Nxt s s' ((h + 1) * l.length) 0
def WholeC (h : Nat) : Prop := ∀ (H : Lh) (O T : List UInt8) (s : TS) (x : Ix) (it : Itm) (l : List Ent) (deep : Int) (F : Assn) (w : World), Sat (linesP H O T s x * F) w → LnI O T s x → ItR (nodeAt s) h it l → (∀ y ∈ l, RtE O T y) → 0 ≤ deep → deep + h ≤ 20 → h * l.length ≤ leftOps s →
 Calls Tryz.prog 90 #[.pointer (some ⟨H.L, 0, none⟩), itemV it, .int .i64 deep] w fun e w' => ∃ s', e = .returned (endsV (endsC (textE O T l))) ∧ Sat (linesP H O T s' (ixList O x l) * F) w' ∧ Nxt s s' (h * l.length) 0
set_option maxRecDepth 100000 in
set_option maxHeartbeats 1600000 in
theorem whole_known (h : Nat) (H : Lh) (O T : List UInt8) (s : TS) (x : Ix) (it : Itm) (l : List Ent) (deep : Int) (F : Assn) (w : World) (hs : Sat (linesP H O T s x * F) w) (hI : LnI O T s x) (hi : ItR (nodeAt s) h it l) (hr : ∀ y ∈ l, RtE O T y) (hl : 0 ≤ it.lines) :
 Calls Tryz.prog 90 #[.pointer (some ⟨H.L, 0, none⟩), itemV it, .int .i64 deep] w fun e w' => ∃ s', e = .returned (endsV (endsC (textE O T l))) ∧ Sat (linesP H O T s' (ixList O x l) * F) w' ∧ Nxt s s' (h * l.length) 0 := by
 have e1 : ixList O x l = x := ixList_none (hi.none hl)
 have e2 : it.lines = (endsC (textE O T l) : Nat) := by
  have := (hi.ok hr).lines
  omega
 have HN : Aside (Nxt s s (h * l.length) 0) := (Nxt.refl hI.inv).more (Nat.zero_le _) (Nat.le_refl _)
 rw [e1]
 obtain ⟨R, hR⟩ : ∃ R, endsC (textE O T l) = R := ⟨_, rfl⟩
 rw [hR] at e2 ⊢
 obtain ⟨bytes, lines, ⟨src, pos, len, el⟩, page⟩ := it
 simp only at e2 hl ⊢
 have e3 : lines = (R : Int) := by omega
 subst e3
 haveI := hs.i
 clear hs hI hi hr e1 e2 hl hR
 go_enter Tryz.func90, Tryz.ntmps90
 go_wp2
 go_ret2
 exact ⟨s, rfl, keep2 _ _, HN.out⟩
set_option maxRecDepth 100000 in
set_option maxHeartbeats 1600000 in
theorem whole_zero : WholeC 0 := by
 intro H O T s x it l deep F w hs hI hi hr hd1 hd2 hf
 by_cases hl : 0 ≤ it.lines
 · exact whole_known 0 H O T s x it l deep F w hs hI hi hr hl
 obtain ⟨e, rfl, rfl, hm⟩ := hi
 have hre := hr e (by simp)
 have hlen := hre.len
 have hin := fun F w q => in_any H O T s x e 0 e.len.toNat F w q hI hre (Nat.zero_le _) (by omega)
 have hlt : e.lines < 0 := by
  have : ¬ 0 ≤ e.lines := hl
  omega
 have e1 : ixList O x [e] = ixEnt O x e := rfl
 have e2 : textE O T [e] = pieceE O T e := by simp [textE]
 have e3 : ((pieceE O T e).drop 0).take (e.len.toNat - 0) = pieceE O T e := by
  rw [List.drop_zero, Nat.sub_zero]
  exact List.take_of_length_le (by rw [pieceE_len hre]; exact Nat.le_refl _)
 rw [inIx_all hlt hre, e3, show ((0 : Nat) : Int) = 0 from rfl, Int.toNat_of_nonneg hlen] at hin
 rw [e1, e2]
 obtain ⟨x2, hx2⟩ : ∃ x2, ixEnt O x e = x2 := ⟨_, rfl⟩
 obtain ⟨R, hR⟩ : ∃ R, endsC (pieceE O T e) = R := ⟨_, rfl⟩
 rw [hx2, hR] at hin ⊢
 have HN : Aside (Nxt s s (0 * [e].length) 0) := (Nxt.refl hI.inv).more (Nat.zero_le _) (Nat.le_refl _)
 obtain ⟨src, pos, len, lines⟩ := e
 simp only [itE] at hin hlt ⊢
 haveI := hs.i
 clear hs hI hr hm hl hre hx2 hR e1 e2 e3 hf
 go_enter Tryz.func90, Tryz.ntmps90
 go_wp2_with fail
 refine (hin _ _ (takeI (linesP H O T s x))).mono ?_
 rintro e w1 ⟨rfl, q1⟩
 haveI := q1.i
 go_wp2
 go_ret2
 exact ⟨s, rfl, keep2 _ _, HN.out⟩
set_option maxRecDepth 100000 in
set_option maxHeartbeats 1600000 in
theorem whole_succ (h : Nat) (ih : AllC h) : WholeC (h + 1) := by
 intro H O T s x it l deep F w hs hI hi hr hd1 hd2 hf
 by_cases hl : 0 ≤ it.lines
 · exact whole_known (h + 1) H O T s x it l deep F w hs hI hi hr hl
 have hok := hi.ok hr
 obtain ⟨k, rfl, hsub⟩ := hi
 have hp : 1 ≤ k.page := by
  rcases hok.page with h1 | h1
  · omega
  · exact h1.2.1
 have hc := fun F w q => ih H O T s x k 4 12 l (deep + 1) F w q hI hsub hr (by omega) (by omega) hf
 have hlt : k.lines < 0 := by
  have : ¬ 0 ≤ k.lines := hl
  omega
 obtain ⟨x2, hx2⟩ : ∃ x2, ixList O x l = x2 := ⟨_, rfl⟩
 obtain ⟨R, hR⟩ : ∃ R, endsC (textE O T l) = R := ⟨_, rfl⟩
 rw [hx2, hR] at hc ⊢
 obtain ⟨page, bytes, lines, scraps⟩ := k
 simp only [itK, ent0] at hc hlt hp ⊢
 have hpb : (page == 0) = false := by simp; omega
 have hw1 : IntKind.i64.wrap (deep + 1) = deep + 1 := IntWalk.i64_in _ (by omega)
 haveI := hs.i
 clear hs hI hr hl hok hx2 hR hf hsub ih
 go_enter Tryz.func90, Tryz.ntmps90
 go_wp2_with fail
 refine (hc _ _ (takeI (linesP H O T s x))).mono ?_
 rintro e w1 ⟨s', rfl, q1, hn⟩
 have HN : Aside (Nxt s s' ((h + 1) * l.length) 0) := hn
 haveI := q1.i
 clear hc hn
 go_wp2
 go_ret2
 exact ⟨s', rfl, keep2 _ _, HN.out⟩
theorem many_pos {n : Nd} (h : may n = true) : 1 ≤ many n := by
 unfold many
 cases hl : n.leaf with
 | true => have := (may_leaf h hl).2.2.1; omega
 | false => have := (may_inner h hl).2.2.1; omega
theorem flat_split {ls : List (List Ent)} {i : Nat} {m : List Ent} (h : ls[i]? = some m) : ls.flatten.length = (ls.take i).flatten.length + m.length + (ls.drop (i + 1)).flatten.length := by
 obtain ⟨h1, h2⟩ := List.getElem?_eq_some_iff.1 h
 have e : ls = ls.take i ++ m :: ls.drop (i + 1) := by
  conv => lhs; rw [← List.take_append_drop i ls, List.drop_eq_getElem_cons h1, h2]
 conv => lhs; rw [e]
 rw [List.flatten_append, List.flatten_cons, List.length_append, List.length_append]
 omega
theorem itcs_at {its : List Itm} {i : Nat} {it : Itm} (h : its[i]? = some it) (j : Nat) (u : Value) (hj : (itrow it)[j]? = some u) (h6 : j < 6) : At (itcs its) (i * 6 + j) u := ⟨by unfold itcs; rw [flat_at (f := itrow) (s := 6) (fun _ => rfl) its i j it h h6]; exact hj⟩
theorem flat_take {ls : List (List Ent)} {i : Nat} {m : List Ent} (h : ls[i]? = some m) : (ls.take (i + 1)).flatten = (ls.take i).flatten ++ m := by
 rw [take_snoc' h, List.flatten_append]
 simp
theorem f2_at {α β : Type} {R : α → β → Prop} : ∀ {l : List α} {m : List β} {i : Nat} {a : α}, F2 R l m → l[i]? = some a → ∃ b, m[i]? = some b ∧ R a b
 | [], [], i, a, _, h => by simp at h
 | x :: l, y :: m, 0, a, h, e => by
   simp at e
   subst e
   exact ⟨y, rfl, h.1⟩
 | x :: l, y :: m, i + 1, a, h, e => by
   obtain ⟨b, h1, h2⟩ := f2_at (i := i) h.2 (by simpa using e)
   exact ⟨b, by simpa using h1, h2⟩
 | [], _ :: _, _, _, h, _ => h.elim
 | _ :: _, [], _, _, h, _ => h.elim
set_option maxRecDepth 100000 in
set_option maxHeartbeats 3200000 in
theorem all_of (h : Nat) (ih : WholeC h) : AllC h := by
 intro H O T s x k lo hi l deep F w hs hI hsub hr hd1 hd2 hf
 have HI : Aside (WholeC h) := ih
 rw [sub_its] at hsub
 obtain ⟨y, ls, hv, hits, hma, _, _, hk, hp1, hp2, rfl⟩ := hsub
 obtain ⟨hl1, hl2⟩ := may_len hma
 have hF := its_items hits hma
 obtain ⟨its, hitsE⟩ : ∃ its, itemsN y = its := ⟨_, rfl⟩
 have hL1 : 1 ≤ ls.flatten.length := by
  have h0 := itemsN_len y
  have h1 : 1 ≤ many y := by
   have := many_pos hma
   omega
  have h2 := hF.len
  obtain ⟨it, hit⟩ : ∃ it, (itemsN y)[0]? = some it := ⟨_, List.getElem?_eq_getElem (by omega)⟩
  obtain ⟨m, hm1, hm2⟩ := f2_at hF hit
  have hmem : m ∈ ls := List.mem_of_getElem? hm1
  have h3 := (hm2.ok (O := O) (T := T) fun z hz => hr z (List.mem_flatten.2 ⟨m, hmem, hz⟩)).ne
  obtain ⟨l1, l2, rfl⟩ := List.append_of_mem hmem
  simp only [List.flatten_append, List.flatten_cons, List.length_append]
  omega
 rw [hitsE] at hF
 have HF : Aside (F2 (ItR (nodeAt s) h) its ls ∧ (∀ y ∈ ls.flatten, RtE O T y) ∧ LnI O T s x ∧ ls.length = its.length) := ⟨hF, hr, hI, hF.len.symm⟩
 have hle : (h + 1) * ls.flatten.length = h * ls.flatten.length + ls.flatten.length := by rw [Nat.add_mul]; omega
 have hnode := fun F w q => node_call H.h s k.page y F w q hI.inv hv (by omega)
 have hitems := fun v B F w hN q => items_any y v B F w hN q ⟨hl1, hl2⟩
 have hni : its.length ≤ 24 := by rw [← hitsE, itemsN_len]; unfold many; omega
 rw [hitsE] at hitems
 obtain ⟨ni, hni2⟩ : ∃ ni, its.length = ni := ⟨_, rfl⟩
 have HNI : Aside (its.length = ni) := hni2
 rw [hni2] at hitems hni
 obtain ⟨NT, hNT⟩ : ∃ NT, (h + 1) * ls.flatten.length = NT := ⟨_, rfl⟩
 rw [hNT] at hf ⊢
 have HT : Aside ((h + 1) * ls.flatten.length = NT ∧ NT ≤ leftOps s ∧ (h + 1) * ls.flatten.length = h * ls.flatten.length + ls.flatten.length ∧ 1 ≤ ls.flatten.length) := ⟨hNT, hf, hle, hL1⟩
 obtain ⟨xF, hxF⟩ : ∃ xF, ixList O x ls.flatten = xF := ⟨_, rfl⟩
 obtain ⟨R, hR⟩ : ∃ R, endsC (textE O T ls.flatten) = R := ⟨_, rfl⟩
 rw [hxF, hR]
 have HR : Aside (ixList O x ls.flatten = xF ∧ endsC (textE O T ls.flatten) = R) := ⟨hxF, hR⟩
 obtain ⟨page, hpage⟩ : ∃ p, k.page = p := ⟨_, rfl⟩
 rw [hpage] at hnode ⊢
 have hdl : ¬ (20 : Int) < deep := by omega
 have hs2 := hs
 rw [lines_tr] at hs2
 haveI := hs2.i
 clear hs hI hits hma hk hp1 hp2 hv hF hr hl1 hl2 hitsE hni2 hNT hle hL1 hf hxF hR hpage ih
 go_enter Tryz.func85, Tryz.ntmps85
 go_wp2_with fail
 with_reducible refine Calls.mono (hnode _ _ (takeI (treeP H.h s))) ?_
 rintro e w1 ⟨v, B, s0, rfl, hN, q1, hn1⟩
 have HN : Aside (Nxt s s0 1 0 ∧ ReadsN B v y) := ⟨hn1, hN⟩
 obtain ⟨se, sk, rfl, hE, hK⟩ := hN
 obtain ⟨a1, c1, rfl, hE1, hE2⟩ := hE.v
 obtain ⟨a2, c2, rfl, hK1, hK2⟩ := ReadsR.v hK
 obtain ⟨lf, hlf⟩ : ∃ lf, y.leaf = lf := ⟨_, rfl⟩
 obtain ⟨ne, hne⟩ : ∃ ne, y.ents.length = ne := ⟨_, rfl⟩
 obtain ⟨nk, hnk⟩ : ∃ nk, y.kids.length = nk := ⟨_, rfl⟩
 rw [hlf, hne, hnk] at HN ⊢
 have q1b : Sat (B * (linesP H O T s0 x * F)) w1 := q1.eq (by rw [lines_tr])
 haveI := q1b.i
 clear hn1 hE hK hE1 hE2 hK1 hK2 q1 hnode hs2 hlf hne hnk
 go_wp2_with fail
 refine (hitems _ B _ _ HN.out.2 (takeI B)).mono ?_
 rintro e w2 ⟨ai, ci, rfl, q2⟩
 have q3 : Sat (linesP H O T s0 x * (rw TItm 6 (.slice ai ni ci) (itcs its) * F)) w2 := by
  haveI := q2.i
  exact keep3 _ _ _
 haveI := q3.i
 clear q2 q1b hitems
 obtain ⟨xs, hxs⟩ : ∃ xs, itcs its = xs := ⟨_, rfl⟩
 have HX : Aside (itcs its = xs) := hxs
 rw [hxs] at q3
 haveI := q3.i
 clear hxs
 go_wp2
 go_loopg [10, 36] ni (fun g t10 t36 wr => ∃ (i sm : Nat) (s1 : TS) (x1 : Ix), t36 = .int .i64 i ∧ t10 = .int .i64 sm ∧ i ≤ ni ∧ sm ≤ 1048576 * i ∧ Aside (g = ni - i ∧ x1 = ixList O x (ls.take i).flatten ∧ sm = endsC (textE O T (ls.take i).flatten) ∧ Nxt s s1 (1 + h * (ls.take i).flatten.length) 0 ∧ LnI O T s1 x1) ∧
  Sat (linesP H O T s1 x1 * (rw TItm 6 (.slice ai ni ci) xs * F)) wr)
 case atStart => exact ⟨0, 0, s0, x, rfl, rfl, by omega, by omega, ⟨rfl, rfl, rfl, HN.out.1.more (by omega) (Nat.le_refl _), HF.out.2.2.1.nxt HN.out.1⟩, q3⟩
 case round =>
  obtain ⟨i, sm, s1, x1, rfl, rfl, hi, hsm, J, hsr⟩ := hrel
  clear q3
  haveI := hsr.i
  by_cases hlt : i < ni
  · have hlt' : (i : Int) < ni := by omega
    obtain ⟨it, hit⟩ : ∃ it, its[i]? = some it := ⟨_, List.getElem?_eq_getElem (by rw [HNI.out]; exact hlt)⟩
    obtain ⟨m, hm1, hm2⟩ := f2_at HF.out.1 hit
    obtain ⟨g0, rfl⟩ := row_some (hsr.take (rw TItm 6 (.slice ai ni ci) xs)) (by omega)
    have hmem : ∀ y ∈ m, RtE O T y := fun y hy => HF.out.2.1 y (List.mem_flatten.2 ⟨m, List.mem_of_getElem? hm1, hy⟩)
    have hok := hm2.ok hmem
    have hsp := flat_split hm1
    have hcost : h * m.length ≤ leftOps s1 := by
     have n1 := J.out.2.2.2.1.left
     have n2 := HT.out
     have e : h * ls.flatten.length = h * (ls.take i).flatten.length + h * m.length + h * (ls.drop (i + 1)).flatten.length := by rw [hsp, Nat.mul_add, Nat.mul_add]
     omega
    have hw := fun F w q => HI.out H O T s1 x1 it m deep F w q J.out.2.2.2.2 (hm2.le J.out.2.2.2.1.le) hmem hd1 hd2 hcost
    have HS : Aside (ixList O x (ls.take (i + 1)).flatten = ixList O x1 m ∧ endsC (textE O T (ls.take (i + 1)).flatten) = sm + endsC (textE O T m) ∧ (ls.take (i + 1)).flatten.length = (ls.take i).flatten.length + m.length) := by
     rw [flat_take hm1, ixList_app, textE_app, endsC_app, List.length_append, ← J.out.2.1, ← J.out.2.2.1]
     exact ⟨rfl, rfl, rfl⟩
    have hbd : endsC (textE O T m) ≤ 1048576 := by
     have h1 := endsC_le (textE O T m)
     have h2 := hok.bytes
     have h3 := hok.big
     omega
    obtain ⟨r, hrr⟩ : ∃ r, endsC (textE O T m) = r := ⟨_, rfl⟩
    obtain ⟨x2, hx2⟩ : ∃ x2, ixList O x1 m = x2 := ⟨_, rfl⟩
    rw [hrr, hx2] at hw HS
    rw [hrr] at hbd
    have z0 := itcs_at hit 0 _ rfl (by omega)
    have z1 := itcs_at hit 1 _ rfl (by omega)
    have z2 := itcs_at hit 2 _ rfl (by omega)
    have z3 := itcs_at hit 3 _ rfl (by omega)
    have z4 := itcs_at hit 4 _ rfl (by omega)
    have z5 := itcs_at hit 5 _ rfl (by omega)
    rw [HX.out] at z0 z1 z2 z3 z4 z5
    rw [Nat.add_zero] at z0
    obtain ⟨bytes, lines, ⟨src, pos, len, el⟩, pg⟩ := it
    simp only at z0 z1 z2 z3 z4 z5 hw
    have hsm2 : (sm : Int) + r ≤ 1048576 * ((i : Int) + 1) := by omega
    have hwp : IntKind.i64.wrap ((sm : Int) + r) = (sm : Int) + r := IntWalk.i64_in _ (by omega)
    clear hit hm1 hm2 hmem hok hsp hcost hrr hx2
    go_wp2_with fail
    refine (hw _ _ (takeI (linesP H O T s1 x1))).mono ?_
    rintro e w4 ⟨s2, rfl, q4, hn2⟩
    have HN2 : Aside (Nxt s1 s2 (h * m.length) 0) := hn2
    haveI := q4.i
    clear hn2 hw hsr
    go_wp2
    go_roundg (ni - (i + 1))
    case measure => have := J.out.1; omega
    case rel =>
     refine ⟨i + 1, sm + r, s2, x2, by go_num, by go_num, by omega, by omega, ⟨rfl, HS.out.1.symm, HS.out.2.1.symm, (J.out.2.2.2.1.trans HN2.out).more ?_ (Nat.le_refl _), ?_⟩, keep3 _ _ _⟩
     · rw [HS.out.2.2, Nat.mul_add]; omega
     · have := J.out.2.2.2.2.nxt HN2.out
       have e := J.out.2.1
       have e2 := HS.out.1
       exact this.at (by
        rw [← e2]
        exact ixList_ok HF.out.2.2.1.ix fun y hy => HF.out.2.1 y (by
         obtain ⟨l1, h1, h2⟩ := List.mem_flatten.1 hy
         exact List.mem_flatten.2 ⟨l1, List.mem_of_mem_take h1, h2⟩))
  · have hlt' : ¬ (i : Int) < ni := by omega
    obtain rfl : i = ni := by omega
    have HE : Aside (x1 = xF ∧ sm = R ∧ Nxt s s1 NT 0) := by
     have e := J.out
     rw [List.take_of_length_le (by rw [HF.out.2.2.2, HNI.out]; exact Nat.le_refl _)] at e
     have t := HT.out
     exact ⟨e.2.1.trans HR.out.1, e.2.2.1.trans HR.out.2, e.2.2.2.1.more (by omega) (Nat.le_refl _)⟩
    obtain ⟨rfl, rfl, _⟩ := HE.out
    clear J
    go_wp2
    go_ret2
    exact ⟨rfl, s1, keep2 _ _, HE.out.2.2⟩
theorem whole_any : ∀ h, WholeC h
 | 0 => whole_zero
 | h + 1 => whole_succ h (all_of h (whole_any h))
theorem all_any (h : Nat) : AllC h := all_of h (whole_any h)
end Go.Proofs.YtfhbmblbidcmmaaGreat
namespace Go.Proofs.YtfhbmblbidcmmaaGreat
set_option linter.unusedSimpArgs false
set_option linter.unusedVariables false
set_option linter.unusedSectionVars false
open Go.RowKit Go.Sl Go.Dk Go.Tr
open Go.Lru (ikey)
variable [TopN]
attribute [local go_sem ↓] Go.wp_at_zero Go.wp_at_succ
attribute [local go_sem] Go.Sl.cell_sat Go.Sl.frozen_sat
theorem rt_len {v : Int → Option Nd} {r : Int} {l : List Ent} (h : Rt v r l) : l.length ≤ 1024 := h.fit.2.2
set_option maxRecDepth 100000 in
set_option maxHeartbeats 1600000 in
theorem lcount_any (H : Lh) (O T : List UInt8) (s : TS) (x : Ix) (root : Int) (l : List Ent) (F : Assn) (w : World) (hs : Sat (linesP H O T s x * F) w) (hI : LnI O T s x) (hR : Rt (nodeAt s) root l) (hr : ∀ y ∈ l, RtE O T y) (hf : 6000 ≤ leftOps s) :
 Calls Tryz.prog 24 #[.pointer (some ⟨H.L, 0, none⟩), .int .i64 root] w fun e w' => ∃ s', e = .returned (endsV (endsC (textE O T l))) ∧ Sat (linesP H O T s' (ixList O x l) * F) w' ∧ Nxt s s' 6000 0 := by
 have hlen := rt_len hR
 rcases hR with ⟨rfl, rfl⟩ | ⟨h, k, rfl, hsub⟩
 · have HN : Aside (Nxt s s 6000 0) := (Nxt.refl hI.inv).more (Nat.zero_le _) (Nat.le_refl _)
   clear hI hf
   go_enter Tryz.func24, Tryz.ntmps24
   go_wp2
   go_ret2
   exact ⟨s, rfl, hs, HN.out⟩
 · have hlow := hsub.low
   have hp := (mayK_facts hsub.fine.may).1
   have hcost : (h + 1) * l.length ≤ 6000 := by
    have := Nat.mul_le_mul (show h + 1 ≤ 5 by omega) hlen
    omega
   have hc := fun F w q => all_any h H O T s x k 1 12 l 0 F w q hI hsub hr (by omega) (by omega) (by omega)
   have HC : Aside ((h + 1) * l.length ≤ 6000) := hcost
   obtain ⟨page, hpage⟩ : ∃ p, k.page = p := ⟨_, rfl⟩
   rw [hpage] at hc hp ⊢
   have hpb : (page == 0) = false := by simp; omega
   haveI := hs.i
   clear hs hI hsub hr hcost hpage hlow
   go_enter Tryz.func24, Tryz.ntmps24
   go_wp2_with fail
   refine (hc _ _ (takeI (linesP H O T s x))).mono ?_
   rintro e w1 ⟨s', rfl, q1, hn⟩
   have HN : Aside (Nxt s s' 6000 0) := hn.more HC.out (Nat.le_refl _)
   clear hn hc
   go_wp2
   go_ret2
   exact ⟨s', rfl, q1, HN.out⟩
theorem text_drop {O T : List UInt8} {ls : List (List Ent)} {i : Nat} {m : List Ent} (h : ls[i]? = some m) : textE O T (ls.drop i).flatten = textE O T m ++ textE O T (ls.drop (i + 1)).flatten := by
 obtain ⟨h1, h2⟩ := List.getElem?_eq_some_iff.1 h
 rw [List.drop_eq_getElem_cons h1, h2, List.flatten_cons, textE_app]
def lnTo (b : List UInt8) (p : Nat) : Nat := endsC (b.take p)
theorem lnTo_in {a b : List UInt8} {p : Nat} (h : p ≤ a.length) : lnTo (a ++ b) p = lnTo a p := by
 unfold lnTo
 rw [List.take_append_of_le_length h]
theorem lnTo_past {a b : List UInt8} {p : Nat} (h : a.length ≤ p) : lnTo (a ++ b) p = endsC a + lnTo b (p - a.length) := by
 unfold lnTo
 rw [List.take_append, List.take_of_length_le h, endsC_app]
def LineOk (b : List UInt8) (at_ n er : Int) : Prop := if at_ < 0 ∨ (b.length : Int) < at_ then n = 0 ∧ er = 2 else er = 0 ∧ n = lnTo b at_.toNat
def lineV (n er : Int) : Value := .tuple #[.int .i64 n, .int .i64 er]
set_option maxRecDepth 100000 in
set_option maxHeartbeats 1600000 in
theorem line_out (H : Lh) (O T : List UInt8) (s : TS) (x : Ix) (root at_ : Int) (l : List Ent) (F : Assn) (w : World) (hs : Sat (linesP H O T s x * F) w) (hI : LnI O T s x) (hR : Rt (nodeAt s) root l) (hr : ∀ y ∈ l, RtE O T y) (hf : 30000 ≤ leftOps s) (hc : at_ ≤ 0 ∨ ((textE O T l).length : Int) < at_) :
 Calls Tryz.prog 26 #[.pointer (some ⟨H.L, 0, none⟩), .int .i64 root, .int .i64 at_] w fun e w' => ∃ (n er : Int) (s' : TS) (x' : Ix), e = .returned (lineV n er) ∧ Sat (linesP H O T s' x' * F) w' ∧ LnI O T s' x' ∧ Nxt s s' 30000 0 ∧ LineOk (textE O T l) at_ n er := by
 have hl := textE_len hr
 have hsz := fun F w q => size_call H.h s root l F w q hI.inv hR (by omega)
 have hs2 := hs
 rw [lines_tr] at hs2
 haveI := hs2.i
 have HI : Aside (LnI O T s x) := hI
 have hb1 := hR.fit.2.1
 obtain ⟨sz, hszE⟩ : ∃ sz, eBytes l = sz := ⟨_, rfl⟩
 rw [hszE] at hsz hl hb1
 by_cases h0 : at_ < 0
 · have HO : Aside (LineOk (textE O T l) at_ 0 2) := (by unfold LineOk; rw [if_pos (.inl h0)]; exact ⟨rfl, rfl⟩ : LineOk _ _ _ _)
   clear hs hI hs2 hr hR hf hl hc
   go_enter Tryz.func26, Tryz.ntmps26
   go_wp2_with fail
   go_step3
   go_wp2_with fail
   with_reducible refine Calls.mono (hsz _ _ (takeI (treeP H.h s))) ?_
   rintro e w1 ⟨s', rfl, q1, hn⟩
   have HN : Aside (Nxt s s' 30000 0) := hn.more (by omega) (Nat.le_refl _)
   unfold vi2
   clear hn hsz
   go_wp2
   try rw [Exit.noGoto_ret]
   go_returns
   exact ⟨0, 2, s', x, rfl, q1.eq (by rw [lines_tr]), HI.out.nxt HN.out, HN.out, HO.out⟩
 · have h0' : decide (at_ < 0) = false := decide_eq_false h0
   by_cases h1 : at_ = 0
   · subst h1
     have HO : Aside (LineOk (textE O T l) 0 0 0) := (by unfold LineOk; rw [if_neg (by omega)]; exact ⟨rfl, by unfold lnTo endsC; simp⟩ : LineOk _ _ _ _)
     have hz : ¬ sz < 0 := by omega
     have hz' : decide (sz < 0) = false := decide_eq_false hz
     clear hs hI hs2 hr hR hf hl hc
     go_enter Tryz.func26, Tryz.ntmps26
     go_wp2_with fail
     go_step3
     go_wp2_with fail
     with_reducible refine Calls.mono (hsz _ _ (takeI (treeP H.h s))) ?_
     rintro e w1 ⟨s', rfl, q1, hn⟩
     have HN : Aside (Nxt s s' 30000 0) := hn.more (by omega) (Nat.le_refl _)
     unfold vi2
     clear hn hsz
     go_wp2_with fail
     go_step3
     go_wp2_with fail
     go_loopg [2, 10, 12] 0 (fun g t2 t10 t12 wr => t2 = .int .i64 0 ∧ t10 = .int .i64 0 ∧ t12 = .int .i64 0 ∧ g = 0 ∧ w1 = wr)
     case atStart => exact ⟨rfl, rfl, rfl, rfl, rfl⟩
     case round =>
      obtain ⟨rfl, rfl, rfl, rfl, rfl⟩ := hrel
      go_wp2
      try rw [Exit.noGoto_ret]
      go_returns
      exact ⟨0, 0, s', x, rfl, q1.eq (by rw [lines_tr]), HI.out.nxt HN.out, HN.out, HO.out⟩
   · have h2 : sz < at_ := by omega
     have h2' : decide (sz < at_) = true := decide_eq_true h2
     have HO : Aside (LineOk (textE O T l) at_ 0 2) := (by unfold LineOk; rw [if_pos (.inr (by omega))]; exact ⟨rfl, rfl⟩ : LineOk _ _ _ _)
     clear hs hI hs2 hr hR hf hl hc
     go_enter Tryz.func26, Tryz.ntmps26
     go_wp2_with fail
     go_step3
     go_wp2_with fail
     with_reducible refine Calls.mono (hsz _ _ (takeI (treeP H.h s))) ?_
     rintro e w1 ⟨s', rfl, q1, hn⟩
     have HN : Aside (Nxt s s' 30000 0) := hn.more (by omega) (Nat.le_refl _)
     unfold vi2
     clear hn hsz
     go_wp2
     try rw [Exit.noGoto_ret]
     go_returns
     exact ⟨0, 2, s', x, rfl, q1.eq (by rw [lines_tr]), HI.out.nxt HN.out, HN.out, HO.out⟩
end Go.Proofs.YtfhbmblbidcmmaaGreat
namespace Go.Proofs.YtfhbmblbidcmmaaGreat
set_option linter.unusedSimpArgs false
set_option linter.unusedVariables false
set_option linter.unusedSectionVars false
open Go.RowKit Go.Sl Go.Dk Go.Tr
open Go.Lru (ikey)
variable [TopN]
attribute [local go_sem ↓] Go.wp_at_zero Go.wp_at_succ
attribute [local go_sem] Go.Sl.cell_sat Go.Sl.frozen_sat
structure LineAt (O T : List UInt8) (s0 s1 : TS) (x1 : Ix) (R d h p n : Nat) (k : Kd) (l : List Ent) : Prop where
 I : LnI O T s1 x1
 sub : ∃ lo hi, Sub (nodeAt s1) h lo hi k l
 rt : ∀ y ∈ l, RtE O T y
 at1 : 0 < p
 at2 : p ≤ (textE O T l).length
 ans : n + lnTo (textE O T l) p = R
 deep : d + h ≤ 4
 len : l.length ≤ 1024
 nxt : Nxt s0 s1 (1 + 5000 * d) 0
structure LineIn (O T : List UInt8) (s0 s1 : TS) (x1 : Ix) (R d h p n i : Nat) (its : List Itm) (ls : List (List Ent)) : Prop where
 I : LnI O T s1 x1
 its : F2 (ItR (nodeAt s1) h) its ls
 rt : ∀ y ∈ ls.flatten, RtE O T y
 at1 : 0 < p
 at2 : p ≤ (textE O T (ls.drop i).flatten).length
 ans : n + lnTo (textE O T (ls.drop i).flatten) p = R
 deep : d + h ≤ 4
 len : ls.flatten.length ≤ 1024
 nxt : Nxt s0 s1 (2 + 5000 * d + h * (ls.take i).flatten.length) 0
set_option maxRecDepth 100000 in
set_option maxHeartbeats 6400000 in
theorem line_go (H : Lh) (O T : List UInt8) (s : TS) (x : Ix) (root : Int) (at_ : Nat) (l : List Ent) (F : Assn) (w : World) (hs : Sat (linesP H O T s x * F) w) (hI : LnI O T s x) (hR : Rt (nodeAt s) root l) (hr : ∀ y ∈ l, RtE O T y) (hf : 30000 ≤ leftOps s) (h1 : 0 < at_) (h2 : at_ ≤ (textE O T l).length) :
 Calls Tryz.prog 26 #[.pointer (some ⟨H.L, 0, none⟩), .int .i64 root, .int .i64 (at_ : Int)] w fun e w' => ∃ (s' : TS) (x' : Ix), e = .returned (lineV (lnTo (textE O T l) at_ : Nat) 0) ∧ Sat (linesP H O T s' x' * F) w' ∧ LnI O T s' x' ∧ Nxt s s' 30000 0 := by
 have hl := textE_len hr
 have hsz := fun F w q => size_call H.h s root l F w q hI.inv hR (by omega)
 have hb1 := hR.fit.2.1
 have hlen := rt_len hR
 have hA : ∃ (h : Nat) (k : Kd), k.page = root ∧ ∀ s', Nxt s s' 1 0 → LineAt O T s s' x (lnTo (textE O T l) at_) 0 h at_ 0 k l := by
  rcases hR with ⟨rfl, rfl⟩ | ⟨h, k, e, hsub⟩
  · simp [textE] at h2; omega
  · exact ⟨h, k, e, fun s' hn => ⟨hI.nxt hn, ⟨1, 12, hsub.le hn.le⟩, hr, h1, h2, by omega, by have := hsub.low; omega, hlen, hn⟩⟩
 obtain ⟨h0, k0, hk0, hA⟩ := hA
 have HA : Aside (k0.page = root ∧ ∀ s', Nxt s s' 1 0 → LineAt O T s s' x (lnTo (textE O T l) at_) 0 h0 at_ 0 k0 l) := ⟨hk0, hA⟩
 obtain ⟨sz, hszE⟩ : ∃ sz, eBytes l = sz := ⟨_, rfl⟩
 rw [hszE] at hsz hl hb1
 have g1 : decide (sz < (at_ : Int)) = false := decide_eq_false (by omega)
 have HNT : Aside (textE O T l = textE O T l ∧ 30000 ≤ leftOps s) := ⟨rfl, hf⟩
 obtain ⟨R, hRR⟩ : ∃ R, lnTo (textE O T l) at_ = R := ⟨_, rfl⟩
 rw [hRR] at HA ⊢
 have hRb : R ≤ 1048576 := by
  rw [← hRR]
  unfold lnTo
  have h3 := endsC_le ((textE O T l).take at_)
  rw [List.length_take] at h3
  omega
 have ha20 : at_ ≤ 1048576 := by omega
 have hs2 := hs
 rw [lines_tr] at hs2
 haveI := hs2.i
 clear hs hI hs2 hr hR hf hl h2 hA hk0 hRR
 go_enter Tryz.func26, Tryz.ntmps26
 go_wp2_with fail
 go_step3
 go_wp2_with fail
 with_reducible refine Calls.mono (hsz _ _ (takeI (treeP H.h s))) ?_
 rintro e w1 ⟨sA, rfl, q1, hn⟩
 have HL : Aside (LineAt O T s sA x R 0 h0 at_ 0 k0 l ∧ k0.page = root) := ⟨HA.out.2 sA hn, HA.out.1⟩
 have q2 : Sat (linesP H O T sA x * F) w1 := q1.eq (by rw [lines_tr])
 haveI := q2.i
 unfold vi2
 clear hn hsz q1 HA
 go_wp2_with fail
 go_step3
 go_wp2_with fail
 obtain ⟨P0, hP0⟩ : ∃ P0, k0.page = P0 := ⟨_, rfl⟩
 go_loopg [2, 10, 11, 12] h0 (fun g t2 t10 t11 t12 wr => ∃ (d h p n : Nat) (s1 : TS) (x1 : Ix) (k : Kd) (l1 : List Ent), t2 = .int .i64 p ∧ t10 = .int .i64 n ∧ t11 = .int .i64 k.page ∧ t12 = .int .i64 d ∧ 0 < p ∧ p ≤ 1048576 ∧ n ≤ 1048576 ∧ d ≤ 4 ∧ g = h ∧ Aside (LineAt O T s s1 x1 R d h p n k l1) ∧ Sat (linesP H O T s1 x1 * F) wr)
 case atStart => exact ⟨0, h0, at_, 0, sA, x, k0, l, rfl, rfl, by rw [HL.out.2], rfl, h1, ha20, by omega, by omega, rfl, HL.out.1, q2⟩
 case round =>
  obtain ⟨d, h, p, n, s1, x1, k, l1, rfl, rfl, rfl, rfl, hp, hp2, hn1, hd, hgk, HA, hsr⟩ := hrel
  clear q2 HL this
  obtain ⟨lo, hi, hsub⟩ := HA.out.sub
  have hsub2 := hsub
  rw [sub_its] at hsub2
  obtain ⟨y, ls, hv, hits, hma, _, _, hk, hp1, _, hfl⟩ := hsub2
  have hleft := HA.out.nxt.left
  have hl30 := HNT.out.2
  have hnode := fun F w q => node_call H.h s1 k.page y F w q HA.out.I.inv hv (by omega)
  obtain ⟨hl1, hl2⟩ := may_len hma
  have hitems := fun v B F w hN q => items_any y v B F w hN q ⟨hl1, hl2⟩
  have hF := its_items hits hma
  obtain ⟨its, hitsE⟩ : ∃ its, itemsN y = its := ⟨_, rfl⟩
  have hni : its.length ≤ 24 := by rw [← hitsE, itemsN_len]; unfold many; omega
  rw [hitsE] at hitems hF
  have HB : Aside (∀ s2, Nxt s1 s2 1 0 → LineIn O T s s2 x1 R d h p n 0 its ls) := by
   intro s2 hn2
   subst hfl
   exact ⟨HA.out.I.nxt hn2, hF.mono fun _ _ z => z.le hn2.le, HA.out.rt, HA.out.at1, HA.out.at2, HA.out.ans, HA.out.deep, HA.out.len, (HA.out.nxt.trans hn2).more (by simp; omega) (Nat.le_refl _)⟩
  obtain ⟨ni, hni2⟩ : ∃ ni, its.length = ni := ⟨_, rfl⟩
  have HNI : Aside (its.length = ni) := hni2
  rw [hni2] at hitems hni
  obtain ⟨page, hpage⟩ : ∃ p, k.page = p := ⟨_, rfl⟩
  rw [hpage] at hnode ⊢
  have hs2 := hsr
  rw [lines_tr] at hs2
  haveI := hs2.i
  have hd22 : (d : Int) < 22 := by omega
  have hp0 : (0 : Int) < p := by omega
  clear hsr hs2 hsub hv hits hma hk hp1 hfl hleft hl30 hl1 hl2 hF hitsE hni2 HA hpage
  go_wp2_with fail
  with_reducible refine Calls.mono (hnode _ _ (takeI (treeP H.h s1))) ?_
  rintro e w2 ⟨v, B, s2, rfl, hN, q3, hn2⟩
  have HC : Aside (LineIn O T s s2 x1 R d h p n 0 its ls ∧ ReadsN B v y) := ⟨HB.out s2 hn2, hN⟩
  obtain ⟨se, sk, rfl, hE, hK⟩ := hN
  obtain ⟨a1, c1, rfl, hE1, hE2⟩ := hE.v
  obtain ⟨a2, c2, rfl, hK1, hK2⟩ := ReadsR.v hK
  obtain ⟨lf, hlf⟩ : ∃ lf, y.leaf = lf := ⟨_, rfl⟩
  obtain ⟨ne, hne⟩ : ∃ ne, y.ents.length = ne := ⟨_, rfl⟩
  obtain ⟨nk, hnk⟩ : ∃ nk, y.kids.length = nk := ⟨_, rfl⟩
  rw [hlf, hne, hnk] at HC ⊢
  have q4 : Sat (B * (linesP H O T s2 x1 * F)) w2 := q3.eq (by rw [lines_tr])
  haveI := q4.i
  clear hn2 hE hK hE1 hE2 hK1 hK2 q3 hnode hlf hne hnk HB
  go_wp2_with fail
  refine (hitems _ B _ _ HC.out.2 (takeI B)).mono ?_
  rintro e w3 ⟨ai, ci, rfl, q5⟩
  have q6 : Sat (linesP H O T s2 x1 * (rw TItm 6 (.slice ai ni ci) (itcs its) * F)) w3 := by
   haveI := q5.i
   exact keep3 _ _ _
  clear q5 q4 hitems
  obtain ⟨xs, hxs⟩ : ∃ xs, itcs its = xs := ⟨_, rfl⟩
  have HX : Aside (itcs its = xs) := hxs
  rw [hxs] at q6
  haveI := q6.i
  clear hxs
  go_wp2_with fail
  go_loopg [2, 10, 64] ni (fun g t2 t10 t64 wx => ∃ (i p2 n2 : Nat) (s3 : TS) (x3 : Ix), t2 = .int .i64 p2 ∧ t10 = .int .i64 n2 ∧ t64 = .int .i64 i ∧ i ≤ ni ∧ 0 < p2 ∧ p2 ≤ 1048576 ∧ n2 ≤ 1048576 ∧ g = ni - i ∧ Aside (LineIn O T s s3 x3 R d h p2 n2 i its ls) ∧ Sat (linesP H O T s3 x3 * (rw TItm 6 (.slice ai ni ci) xs * F)) wx)
  case atStart => exact ⟨0, p, n, s2, x1, rfl, rfl, rfl, by omega, hp, hp2, hn1, by omega, HC.out.1, q6⟩
  case round =>
   obtain ⟨i, p2, n2, s3, x3, rfl, rfl, rfl, hi, hp, hp2, hn1, hg, HA, hsr⟩ := hrel
   clear q6 this HC
   haveI := hsr.i
   have hini : i < ni := by
    rcases Nat.lt_or_ge i ni with h3 | h3
    · exact h3
    · exfalso
      have h4 := HA.out.at2
      have h5 := HA.out.its.len
      rw [List.drop_of_length_le (by have := HNI.out; omega)] at h4
      simp [textE] at h4
      omega
   have hlt' : (i : Int) < ni := by omega
   obtain ⟨it, hit⟩ : ∃ it, its[i]? = some it := ⟨_, List.getElem?_eq_getElem (by rw [HNI.out]; exact hini)⟩
   obtain ⟨m, hm1, hm2⟩ := f2_at HA.out.its hit
   obtain ⟨g0, rfl⟩ := row_some (hsr.take (rw TItm 6 (.slice ai ni ci) xs)) (by omega)
   have hmem : ∀ y ∈ m, RtE O T y := fun y hy => HA.out.rt y (List.mem_flatten.2 ⟨m, List.mem_of_getElem? hm1, hy⟩)
   have hok := hm2.ok hmem
   have hsp := flat_split hm1
   have htx := text_drop (O := O) (T := T) hm1
   have hans := HA.out.ans
   have hat2 := HA.out.at2
   rw [htx] at hans hat2
   rw [List.length_append] at hat2
   have hml : m.length ≤ 1024 := by have := HA.out.len; omega
   have hhm : h * m.length ≤ 4096 := by
    have := Nat.mul_le_mul (show h ≤ 4 by have := HA.out.deep; omega) hml
    omega
   have hhA : h * (ls.take i).flatten.length ≤ 4096 := by
    have h3 : (ls.take i).flatten.length ≤ 1024 := by have := HA.out.len; omega
    have := Nat.mul_le_mul (show h ≤ 4 by have := HA.out.deep; omega) h3
    omega
   have hhAm : h * ((ls.take i).flatten.length + m.length) ≤ 4096 := by
    have h3 : (ls.take i).flatten.length + m.length ≤ 1024 := by have := HA.out.len; omega
    have := Nat.mul_le_mul (show h ≤ 4 by have := HA.out.deep; omega) h3
    omega
   have hleft := HA.out.nxt.left
   have hl30 := HNT.out.2
   have hdp := HA.out.deep
   have z0 := itcs_at hit 0 _ rfl (by omega)
   have z1 := itcs_at hit 1 _ rfl (by omega)
   have z2 := itcs_at hit 2 _ rfl (by omega)
   have z3 := itcs_at hit 3 _ rfl (by omega)
   have z4 := itcs_at hit 4 _ rfl (by omega)
   have z5 := itcs_at hit 5 _ rfl (by omega)
   rw [HX.out] at z0 z1 z2 z3 z4 z5
   rw [Nat.add_zero] at z0
   have hbl := hok.bytes
   have hbm := hok.big
   have hbp := hok.pos
   by_cases hlt : p2 < (textE O T m).length
   · rw [lnTo_in (Nat.le_of_lt hlt)] at hans
     cases h with
     | zero =>
       obtain ⟨e, rfl, rfl, hme⟩ := hm2
       have hre := hmem e (by simp)
       have e2 : textE O T [e] = pieceE O T e := by simp [textE]
       rw [e2] at hlt hans
       have hel := pieceE_len hre
       have hin := fun F w q => in_any H O T s3 x3 e 0 p2 F w q HA.out.I hre (Nat.zero_le _) (by omega)
       rw [List.drop_zero, Nat.sub_zero, show ((0 : Nat) : Int) = 0 from rfl] at hin
       have HZ : Aside (LnI O T s3 (inIx O x3 e 0 p2) ∧ Nxt s s3 30000 0 ∧ (n2 + lnTo (pieceE O T e) p2 = R)) := ⟨HA.out.I.at (inIx_ok HA.out.I.ix hre (Nat.zero_le _) (by omega)), HA.out.nxt.more (by omega) (Nat.le_refl _), hans⟩
       obtain ⟨r, hrE⟩ : ∃ r, endsC ((pieceE O T e).take p2) = r := ⟨_, rfl⟩
       have hRR : n2 + r = R := by rw [← hrE]; exact hans
       rw [hrE] at hin
       obtain ⟨x4, hx4⟩ : ∃ x4, inIx O x3 e 0 p2 = x4 := ⟨_, rfl⟩
       rw [hx4] at hin HZ
       have hlen2 : (p2 : Int) < e.len := by omega
       obtain ⟨src, pos, len, el⟩ := e
       simp only [itE] at z0 z1 z2 z3 z4 z5 hin hlen2 hbm
       have hl3 : len ≤ 1048576 := hbm
       have hw1 : IntKind.i64.wrap ((n2 : Int) + r) = (n2 : Int) + r := IntWalk.i64_in _ (by omega)
       have hw2 : IntKind.i64.wrap ((p2 : Int) - len) = (p2 : Int) - len := IntWalk.i64_in _ (by omega)
       have hneg : (p2 : Int) - len ≤ 0 := by omega
       have hRI : (n2 : Int) + r = R := by omega
       have HRI : Aside ((n2 : Int) + r = R) := hRI
       clear hit hm1 hmem hok hsp htx hans hat2 hme hre e2 hlt hel hrE hx4 hleft hl30 hbl hbm hbp hRR hRI HA
       go_wp2_with fail
       refine (hin _ _ (takeI (linesP H O T s3 x3))).mono ?_
       rintro en w4 ⟨rfl, q7⟩
       haveI := q7.i
       clear hin hsr
       go_wp2_with fail
       go_quiet (fail)
       go_wp2
       try rw [Exit.noGoto_ret]
       go_returns
       exact ⟨s3, x4, by rw [← HRI.out]; rfl, Sat.drewN _ (keep2 _ _), HZ.out.1, HZ.out.2.1⟩
     | succ h =>
       obtain ⟨k2, rfl, hsub2⟩ := hm2
       have hpg := (mayK_facts hsub2.fine.may).1
       have HZ : Aside (LineAt O T s s3 x3 R (d + 1) h p2 n2 k2 m) := ⟨HA.out.I, ⟨4, 12, hsub2⟩, hmem, hp, by omega, hans, by omega, hml, HA.out.nxt.more (by omega) (Nat.le_refl _)⟩
       have hlt2 : (p2 : Int) < k2.bytes := by
        have h3 : k2.bytes = ((textE O T m).length : Int) := hbl
        omega
       obtain ⟨pg, by2, ln2, sc2⟩ := k2
       simp only [itK, ent0] at z0 z1 z2 z3 z4 z5 hpg hlt2
       have hpg' : (0 : Int) < pg := by omega
       clear hit hm1 hmem hok hsp htx hans hat2 hleft hl30 hbl hbm hbp HA hsub2
       go_wp2
       go_roundg h
       case measure => omega
       case rel => exact ⟨d + 1, h, p2, n2, s3, x3, ⟨pg, by2, ln2, sc2⟩, m, rfl, rfl, rfl, by go_num, hp, hp2, hn1, by omega, rfl, HZ.out, keep2 _ _⟩
   · rw [lnTo_past (Nat.le_of_not_lt hlt)] at hans
     have hw := fun F w q => whole_any h H O T s3 x3 it m d F w q HA.out.I hm2 hmem (by omega) (by omega) (by omega)
     have hrb : endsC (textE O T m) ≤ 1048576 := by
      have := endsC_le (textE O T m)
      omega
     have HZ : Aside (∀ s4, Nxt s3 s4 (h * m.length) 0 → LnI O T s4 (ixList O x3 m) ∧ Nxt s s4 30000 0 ∧ (p2 - (textE O T m).length ≠ 0 → LineIn O T s s4 (ixList O x3 m) R d h (p2 - (textE O T m).length) (n2 + endsC (textE O T m)) (i + 1) its ls)) := by
      intro s4 hn4
      have hI4 : LnI O T s4 (ixList O x3 m) := (HA.out.I.nxt hn4).at (ixList_ok HA.out.I.ix hmem)
      refine ⟨hI4, (HA.out.nxt.trans hn4).more (by omega) (Nat.le_refl _), fun hne => ⟨hI4, HA.out.its.mono fun _ _ z => z.le hn4.le, HA.out.rt, by omega, by omega, by omega, HA.out.deep, HA.out.len, (HA.out.nxt.trans hn4).more ?_ (Nat.le_refl _)⟩⟩
      rw [flat_take hm1, List.length_append, Nat.mul_add]
      omega
     have HF : Aside (p2 - (textE O T m).length = 0 → n2 + endsC (textE O T m) = R) := fun he => by
      have h3 : lnTo (textE O T (ls.drop (i + 1)).flatten) 0 = 0 := by unfold lnTo endsC; simp
      rw [he, h3] at hans
      omega
     have HRB : Aside (n2 + endsC (textE O T m) ≤ R) := (by omega : _ ≤ _)
     obtain ⟨r, hrE⟩ : ∃ r, endsC (textE O T m) = r := ⟨_, rfl⟩
     obtain ⟨x4, hx4⟩ : ∃ x4, ixList O x3 m = x4 := ⟨_, rfl⟩
     obtain ⟨tl, htl⟩ : ∃ tl, (textE O T m).length = tl := ⟨_, rfl⟩
     rw [hrE, hx4] at hw HZ
     rw [hrE] at HF hrb HRB
     rw [htl] at HZ HF hlt hbl
     have hle : (tl : Int) ≤ p2 := by omega
     obtain ⟨bytes, lines, ⟨src, pos, len, el⟩, pg⟩ := it
     simp only at z0 z1 z2 z3 z4 z5 hw hbl
     subst hbl
     have hw1 : IntKind.i64.wrap ((n2 : Int) + r) = (n2 : Int) + r := IntWalk.i64_in _ (by omega)
     have hw2 : IntKind.i64.wrap ((p2 : Int) - tl) = (p2 : Int) - tl := IntWalk.i64_in _ (by omega)
     have hno : ¬ (p2 : Int) < tl := by omega
     have hnr : n2 + r ≤ 1048576 := by have := HRB.out; omega
     clear hit hm1 hm2 hmem hok hsp htx hans hat2 hleft hl30 hbm hbp HA hrE hx4 htl hlt hml hhm hhA hhAm
     go_wp2_with fail
     refine (hw _ _ (takeI (linesP H O T s3 x3))).mono ?_
     rintro en w4 ⟨s4, rfl, q7, hn4⟩
     obtain ⟨g1, g2, g3⟩ := HZ.out s4 hn4
     have HG : Aside (LnI O T s4 x4 ∧ Nxt s s4 30000 0 ∧ (p2 - tl ≠ 0 → LineIn O T s s4 x4 R d h (p2 - tl) (n2 + r) (i + 1) its ls)) := ⟨g1, g2, g3⟩
     haveI := q7.i
     clear hw hsr hn4 g1 g2 g3 HZ
     by_cases hz : p2 = tl
     · have hRI : (n2 : Int) + r = R := by have := HF.out (by omega); omega
       have HRI : Aside ((n2 : Int) + r = R) := hRI
       have hneg : (p2 : Int) - tl ≤ 0 := by omega
       clear hRI hz
       go_wp2_with fail
       go_quiet (fail)
       go_wp2
       try rw [Exit.noGoto_ret]
       go_returns
       exact ⟨s4, x4, by rw [← HRI.out]; rfl, Sat.drewN _ (keep2 _ _), HG.out.1, HG.out.2.1⟩
     · have hneg : ¬ (p2 : Int) - tl ≤ 0 := by omega
       go_wp2_with fail
       go_quiet (fail)
       go_wp2
       go_roundg (ni - (i + 1))
       case measure => omega
       case rel => exact ⟨i + 1, p2 - tl, n2 + r, s4, x4, by go_num, by go_num, by go_num, by omega, by omega, by omega, hnr, rfl, HG.out.2.2 (by omega), Sat.drewN _ (keep3 _ _ _)⟩
end Go.Proofs.YtfhbmblbidcmmaaGreat
namespace Go.Proofs.YtfhbmblbidcmmaaGreat
set_option linter.unusedSimpArgs false
set_option linter.unusedVariables false
set_option linter.unusedSectionVars false
open Go.RowKit Go.Sl Go.Dk Go.Tr
open Go.Lru (ikey)
variable [TopN]
attribute [local go_sem ↓] Go.wp_at_zero Go.wp_at_succ
attribute [local go_sem] Go.Sl.cell_sat Go.Sl.frozen_sat
set_option maxRecDepth 100000 in
set_option maxHeartbeats 3200000 in
theorem nth_any (H : Lh) (O T : List UInt8) (s : TS) (x : Ix) (e : Ent) (ahead : Int) (k : Nat) (F : Assn) (w : World) (hs : Sat (linesP H O T s x * F) w) (hI : LnI O T s x) (hr : RtE O T e) (hk : k < endsC (pieceE O T e)) (ha : 0 ≤ ahead) (ha2 : ahead ≤ 1048576) (hl : e.len ≤ 1048576) :
 Calls Tryz.prog 91 #[.pointer (some ⟨H.L, 0, none⟩), .int .i64 ahead, scrapV e, .int .i64 (k : Int)] w fun en w' => ∃ (q : Nat) (x' : Ix), startOf (pieceE O T e) (k + 1) = some q ∧ en = .returned (.tuple #[.int .i64 (ahead + q), .int .i64 0]) ∧ Sat (linesP H O T s x' * F) w' ∧ LnI O T s x' := by
 have hel := pieceE_len hr
 have hlen := hr.len
 have hin := fun x1 hI1 (m : Nat) (hm : m ≤ e.len.toNat) F w q => in_any H O T s x1 e 0 m F w q hI1 hr (Nat.zero_le _) (by omega)
 simp only [List.drop_zero, Nat.sub_zero, show ((0 : Nat) : Int) = 0 from rfl] at hin
 have hix : ∀ x1, LnI O T s x1 → ∀ m : Nat, m ≤ e.len.toNat → LnI O T s (inIx O x1 e 0 m) := fun x1 h1 m hm => h1.at (inIx_ok h1.ix hr (Nat.zero_le _) (by omega))
 obtain ⟨b, hb⟩ : ∃ b, pieceE O T e = b := ⟨_, rfl⟩
 rw [hb] at hk hel hin ⊢
 have HK : Aside (k < endsC b ∧ LnI O T s x ∧ b.length = e.len.toNat) := ⟨hk, hI, hel⟩
 have HIX : Aside (∀ x1, LnI O T s x1 → ∀ m : Nat, m ≤ e.len.toNat → LnI O T s (inIx O x1 e 0 m)) := hix
 have hp1 : 1 ≤ b.length := by
  have := endsC_le b
  omega
 obtain ⟨n, hn⟩ : ∃ n : Nat, e.len = n := ⟨e.len.toNat, by omega⟩
 rw [hn, Int.toNat_natCast] at hin HIX HK
 have hnb : n = b.length := by have := HK.out.2.2; omega
 have hn1 : 1 ≤ n := by omega
 have hn2 : n ≤ 1048576 := by omega
 obtain ⟨ei, hei⟩ : ∃ ei : Nat → Ix → Ix, (fun m x1 => inIx O x1 e 0 m) = ei := ⟨_, rfl⟩
 have hin2 : ∀ x1, LnI O T s x1 → ∀ m : Nat, m ≤ n → ∀ F w, Sat (linesP H O T s x1 * F) w → Calls Tryz.prog 89 #[.pointer (some ⟨H.L, 0, none⟩), scrapV e, .int .i64 0, .int .i64 (m : Int)] w fun en w' => en = .returned (.tuple #[.int .i64 (endsC (b.take m) : Nat), .int .i64 0]) ∧ Sat (linesP H O T s (ei m x1) * F) w' := fun x1 h1 m hm F w q => by
  rw [← hei]
  exact hin x1 h1 m hm F w q
 have HIX2 : Aside (∀ x1, LnI O T s x1 → ∀ m : Nat, m ≤ n → LnI O T s (ei m x1)) := (by
  intro x1 h1 m hm
  rw [← hei]
  exact HIX.out x1 h1 m hm : ∀ x1, LnI O T s x1 → ∀ m : Nat, m ≤ n → LnI O T s (ei m x1))
 have HB : Aside (n = b.length) := hnb
 obtain ⟨src, pos, len, el⟩ := e
 simp only at hn hin2 ⊢
 subst hn
 have HIN : Aside (∀ x1, LnI O T s x1 → ∀ m : Nat, m ≤ n → ∀ F w, Sat (linesP H O T s x1 * F) w → Calls Tryz.prog 89 #[.pointer (some ⟨H.L, 0, none⟩), .agg #[.int .i64 src, .int .i64 pos, .int .i64 n], .int .i64 0, .int .i64 (m : Int)] w fun en w' => en = .returned (.tuple #[.int .i64 (endsC (b.take m) : Nat), .int .i64 0]) ∧ Sat (linesP H O T s (ei m x1) * F) w') := hin2
 haveI := hs.i
 clear hs hI hr hb hei hin hix HIX hin2 hk hel hp1 hlen hnb
 go_enter Tryz.func91, Tryz.ntmps91
 go_wp2_with fail
 go_quiet (fail)
 go_wp2_with fail
 have q1 : Sat (linesP H O T s x * (Sl.block w.heap.size 75 [.int .i64 src, .int .i64 pos, .int .i64 n] * F)) ((w.alloc (.cells #[.int .i64 src, .int .i64 pos, .int .i64 n] 75)).drewN nq) := satI_eq (by ac_rfl)
 obtain ⟨N, hN⟩ : ∃ N, w.heap.size = N := ⟨_, rfl⟩
 rw [hN] at q1 ⊢
 go_loopg [10, 11] n (fun g t10 t11 wr => ∃ (lo hi : Nat) (x1 : Ix), t10 = .int .i64 lo ∧ t11 = .int .i64 hi ∧ lo < hi ∧ hi ≤ n ∧ Aside (g = hi - lo ∧ endsC (b.take lo) ≤ k ∧ k < endsC (b.take hi) ∧ LnI O T s x1) ∧ Sat (linesP H O T s x1 * (Sl.block N 75 [.int .i64 src, .int .i64 pos, .int .i64 n] * F)) wr)
 case atStart => exact ⟨0, n, x, rfl, rfl, by omega, by omega, ⟨by omega, by simp [endsC], by rw [HB.out, List.take_length]; exact HK.out.1, HK.out.2.1⟩, q1⟩
 case round =>
  obtain ⟨lo, hi, x1, rfl, rfl, hlo, hhi, J, hsr⟩ := hrel
  clear q1 this hN
  haveI := hsr.i
  have hw0 : IntKind.i64.wrap ((hi : Int) - lo) = (hi : Int) - lo := IntWalk.i64_in _ (by omega)
  by_cases hd : 1 < hi - lo
  · have hd' : (1 : Int) < (hi : Int) - lo := by omega
    obtain ⟨mid, hmid⟩ : ∃ mid, (lo + hi) / 2 = mid := ⟨_, rfl⟩
    have hw1 : IntKind.i64.wrap ((lo : Int) + hi) = (lo : Int) + hi := IntWalk.i64_in _ (by omega)
    have hw2 : ((lo : Int) + hi).tdiv 2 = (mid : Int) := by rw [Int.tdiv_eq_ediv_of_nonneg (by omega)]; omega
    have hw3 : IntKind.i64.wrap (mid : Int) = (mid : Int) := IntWalk.i64_in _ (by omega)
    have hm1 : lo < mid ∧ mid < hi := by omega
    have hc := fun F w q => HIN.out x1 J.out.2.2.2 mid (by omega) F w q
    obtain ⟨r, hr⟩ : ∃ r, endsC (b.take mid) = r := ⟨_, rfl⟩
    obtain ⟨x2, hx2⟩ : ∃ x2, ei mid x1 = x2 := ⟨_, rfl⟩
    have HX : Aside (endsC (b.take mid) = r ∧ LnI O T s x2) := ⟨hr, by rw [← hx2]; exact HIX2.out x1 J.out.2.2.2 mid (by omega)⟩
    rw [hr, hx2] at hc
    clear hr hx2 hmid
    go_wp2_with fail
    refine (hc _ _ (takeI (linesP H O T s x1))).mono ?_
    rintro en w4 ⟨rfl, q4⟩
    haveI := q4.i
    clear hc hsr
    by_cases hk : k < r
    · have hk' : (k : Int) < r := by omega
      go_wp2
      go_roundg (mid - lo)
      case measure => have := J.out.1; omega
      case rel => exact ⟨lo, mid, x2, rfl, rfl, hm1.1, by omega, ⟨rfl, J.out.2.1, by rw [HX.out.1]; exact hk, HX.out.2⟩, keep3 _ _ _⟩
    · have hk' : ¬ (k : Int) < r := by omega
      go_wp2
      go_roundg (hi - mid)
      case measure => have := J.out.1; omega
      case rel => exact ⟨mid, hi, x2, rfl, rfl, hm1.2, by omega, ⟨rfl, by rw [HX.out.1]; omega, J.out.2.2.1, HX.out.2⟩, keep3 _ _ _⟩
  · have hd' : ¬ (1 : Int) < (hi : Int) - lo := by omega
    obtain rfl : hi = lo + 1 := by omega
    have HS : Aside (startOf b (k + 1) = some (lo + 1)) := startOf_end b k lo J.out.2.1 J.out.2.2.1
    have HI : Aside (LnI O T s x1) := J.out.2.2.2
    have hw5 : IntKind.i64.wrap (ahead + ((lo : Int) + 1)) = ahead + ((lo : Int) + 1) := IntWalk.i64_in _ (by omega)
    clear J
    go_wp2
    go_ret2
    exact ⟨lo + 1, HS.out, by rw [Int.natCast_add]; rfl, x1, keep2 _ _, HI.out⟩
end Go.Proofs.YtfhbmblbidcmmaaGreat
