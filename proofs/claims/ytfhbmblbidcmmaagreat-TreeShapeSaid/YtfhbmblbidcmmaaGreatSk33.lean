/-
  Of all roots that are made the pages are a tree in the form of the document, and just these are told, and each is in use. No condition. (part 33)
-/
import Derived.Test.YtfhbmblbidcmmaaGreatSk25
import Derived.BigQuiet
import Derived.IntWalk
set_option linter.unusedSimpArgs false
set_option linter.unusedVariables false
namespace Go.Tr
def OkE (y : Ent) : Prop := 0 ≤ y.pos ∧ y.pos ≤ 16777216 ∧ 1 ≤ y.len ∧ -1 ≤ y.lines ∧ y.lines ≤ y.len
theorem OkE.of {x : Ent} (h : mayEnt x = true) : OkE x ∧ x.len ≤ 1048576 := by
 unfold mayEnt at h
 simp only [decide_eq_true_eq] at h
 unfold OkE
 omega
theorem okE_len {o : List Ent} (h : ∀ y ∈ o, OkE y) : 0 ≤ eBytes o ∧ ∀ y ∈ o, y.len ≤ eBytes o := by
 induction o with
 | nil => simp [eBytes]
 | cons a l ih =>
   obtain ⟨h1, h2⟩ := ih fun y hy => h y (List.mem_cons_of_mem _ hy)
   have ha := h a (List.mem_cons_self ..)
   unfold OkE at ha
   have e : eBytes (a :: l) = a.len + eBytes l := by simp [eBytes]
   rw [e]
   refine ⟨by omega, fun y hy => ?_⟩
   rcases List.mem_cons.1 hy with rfl | hy
   · omega
   · have := h2 y hy; omega
theorem okE_join {o : List Ent} (h : ∀ y ∈ o, OkE y) {x : Ent} (hx : OkE x) : ∀ y ∈ joinTo o x, OkE y := by
 unfold joinTo
 cases hg : o.getLast? with
 | none => intro y hy; simp at hy; subst hy; exact hx
 | some a =>
   have ha := h a (List.mem_of_getLast? hg)
   simp only
   split
   · intro y hy
     rcases List.mem_append.1 hy with hy | hy
     · exact h y (List.dropLast_subset _ hy)
     · simp at hy
       subst hy
       unfold glue OkE at *
       simp only
       split <;> omega
   · intro y hy
     rcases List.mem_append.1 hy with hy | hy
     · exact h y hy
     · simp at hy; subst hy; exact hx
theorem joinTo_stop {p : List Ent} {a x : Ent} (h : meets a x = false) : joinTo (p ++ [a]) x = (p ++ [a]) ++ [x] := by
 unfold joinTo
 simp [h]
theorem joinTo_go {p : List Ent} {a x : Ent} (h : meets a x = true) : joinTo (p ++ [a]) x = p ++ [glue a x] := by
 unfold joinTo
 simp [h]
theorem joinTo_len (o : List Ent) (x : Ent) : (joinTo o x).length ≤ o.length + 1 := by
 unfold joinTo
 split
 · simp
 · split <;> simp
end Go.Tr
namespace Go.Proofs.YtfhbmblbidcmmaaGreat
set_option linter.unusedSimpArgs false
set_option linter.unusedVariables false
open Go.RowKit Go.Sl Go.Dk Go.Tr
attribute [local go_sem ↓] Go.wp_at_zero Go.wp_at_succ
attribute [local go_sem] Go.Sl.cell_sat Go.Sl.frozen_sat
def ReadsLL (B : Assn) (v : Value) (ls : List (List Ent)) : Prop := ∃ vs : List Value, ReadsR 1 B v ls.length vs ∧ vs.length = ls.length ∧ ∀ (i : Nat) (x : Value) (l : List Ent), vs[i]? = some x → ls[i]? = some l → ReadsE B x l
theorem ecs_last (p : List Ent) (a : Ent) : ecs (p ++ [a]) = ecs p ++ erow a := by simp [ecs]
theorem ecs_len (p : List Ent) : (ecs p).length = p.length * 4 := by
 induction p with
 | nil => rfl
 | cons a l ih =>
   have : ecs (a :: l) = erow a ++ ecs l := by simp [ecs]
   rw [this, List.length_append, ih, List.length_cons]
   simp [erow]
   omega
theorem ecs_at (p : List Ent) (a : Ent) (n : Nat) (hn : p.length = n) (j : Nat) (u : Value) (h : (erow a)[j]? = some u) : (ecs (p ++ [a]))[n * 4 + j]? = some u := by
 rw [ecs_last, List.getElem?_append_right (by rw [ecs_len, hn]; omega), ecs_len, hn, Nat.add_sub_cancel_left]
 exact h
theorem ecs_glue (p : List Ent) (a : Ent) (n : Nat) (hn : p.length = n) (l m : Int) : ((ecs (p ++ [a])).set (n * 4 + 2) (.int .i64 l)).set (n * 4 + 3) (.int .i64 m) = ecs (p ++ [⟨a.src, a.pos, l, m⟩]) := by
 rw [ecs_last, ecs_last, List.set_append_right _ _ (by rw [ecs_len, hn]; omega), List.set_append_right _ _ (by rw [ecs_len, hn]; omega), ecs_len, hn, Nat.add_sub_cancel_left, Nat.add_sub_cancel_left]
 rfl
set_option maxRecDepth 100000 in
set_option maxHeartbeats 3200000 in
theorem join_any (ls : List (List Ent)) (v : Value) (B F : Assn) (w : World) (hL : ReadsLL B v ls) (hs : Sat (B * F) w) (hn : ls.length ≤ 1048576) (hl : ls.flatten.length ≤ 1048576) (hm : ∀ x ∈ ls.flatten, mayEnt x = true) (hb : eBytes ls.flatten ≤ 1099511627776) :
 Calls Tryz.prog 80 #[v] w fun e w' => ∃ a c, e = .returned (.slice a (join ls.flatten).length c) ∧ Sat (rw TEn 4 (.slice a (join ls.flatten).length c) (ecs (join ls.flatten)) * (B * F)) w' := by
 obtain ⟨i0, E⟩ := elemEn
 obtain ⟨vs, hv, hvl, hve⟩ := hL
 obtain ⟨a0, c0, rfl, hc1, hc2⟩ := hv.v
 have HV : Aside (ReadsR 1 B (.slice a0 ls.length c0) ls.length vs) := hv
 have HVE : Aside (∀ (i : Nat) (x : Value) (l : List Ent), vs[i]? = some x → ls[i]? = some l → ReadsE B x l) := hve
 have HM : Aside (∀ x ∈ ls.flatten, mayEnt x = true) := hm
 have HBt : Aside (eBytes ls.flatten ≤ 1099511627776 ∧ ls.flatten.length ≤ 1048576 ∧ vs.length = ls.length) := ⟨hb, hl, hvl⟩
 obtain ⟨R, hR⟩ : ∃ R, join ls.flatten = R := ⟨_, rfl⟩
 rw [hR]
 have HR : Aside (join ls.flatten = R) := hR
 have q0 := hs.rw_nil (e := TEn) (s := 4)
 haveI := hs.i
 clear hv hve hm hb hl hvl hR
 go_enter Tryz.func80, Tryz.ntmps80
 go_wp2
 have HBL : Aside (∀ i : Nat, (ls.take i).flatten.length ≤ 1048576 ∧ eBytes (ls.take i).flatten ≤ 1099511627776 ∧ ∀ x ∈ (ls.take i).flatten, mayEnt x = true) := fun i => by
  have hsp : ls.flatten = (ls.take i).flatten ++ (ls.drop i).flatten := by rw [← List.flatten_append, List.take_append_drop]
  have h1 := HBt.out.1
  have h2 := HBt.out.2.1
  have h3 := HM.out
  rw [hsp] at h1 h2 h3
  rw [eBytes_append] at h1
  rw [List.length_append] at h2
  have h4 := (okE_len (o := (ls.drop i).flatten) (fun y hy => (OkE.of (h3 y (List.mem_append_right _ hy))).1)).1
  exact ⟨by omega, by omega, fun x hx => h3 x (List.mem_append_left _ hx)⟩
 obtain ⟨n, hnn⟩ : ∃ n, ls.length = n := ⟨_, rfl⟩
 have HN : Aside (ls.length = n) := hnn
 rw [hnn] at hn ⊢
 clear hnn
 go_loopg [3, 11] n (fun g t3 t11 wr => ∃ (i : Nat) (o : List Ent) (a : Option Addr) (c : Nat), t11 = .int .i64 i ∧ t3 = .slice a o.length c ∧ i ≤ n ∧ o.length ≤ 1048576 ∧ Aside (g = n - i ∧ o = join (ls.take i).flatten) ∧ Aside (o.length ≤ (ls.take i).flatten.length ∧ (∀ y ∈ o, OkE y) ∧ eBytes o = eBytes (ls.take i).flatten) ∧
  Sat (rw TEn 4 (.slice a o.length c) (ecs o) * (B * F)) wr)
 case atStart => exact ⟨0, [], none, 0, rfl, rfl, by omega, by simp, ⟨rfl, rfl⟩, ⟨by simp, by simp, rfl⟩, q0⟩
 case round =>
  obtain ⟨i, o, a, c, rfl, rfl, hi, hol, A, A2, hsr⟩ := hrel
  clear q0 hs this
  haveI := hsr.i
  by_cases hlt : i < n
  · have hlt' : (i : Int) < n := by omega
    obtain ⟨x, hx⟩ : ∃ x, vs[i]? = some x := ⟨_, List.getElem?_eq_getElem (by have := HBt.out.2.2; have := HN.out; omega)⟩
    obtain ⟨l, hl⟩ : ∃ l, ls[i]? = some l := ⟨_, List.getElem?_eq_getElem (by have := HN.out; omega)⟩
    have hv2 := HV.out
    rw [HN.out] at hv2
    obtain ⟨b0, k0, rfl, r0⟩ := ReadsR.at hv2 i x hx
    clear hv2
    have hle := HVE.out i x l hx hl
    obtain ⟨al, cl, rfl, hl1, hl2⟩ := hle.v
    have HL : Aside (ReadsE B (.slice al l.length cl) l) := hle
    have HFl : Aside ((ls.take (i + 1)).flatten = (ls.take i).flatten ++ l) := (by rw [take_snoc' hl]; simp : _ = _)
    have hbl := HBL.out (i + 1)
    rw [HFl.out] at hbl
    have HLB : Aside ((ls.take i).flatten.length + l.length ≤ 1048576 ∧ eBytes (ls.take i).flatten + eBytes l ≤ 1099511627776 ∧ ∀ x ∈ l, mayEnt x = true) := ⟨by have := hbl.1; rwa [List.length_append] at this, by have := hbl.2.1; rwa [eBytes_append] at this, fun x hx => hbl.2.2 x (List.mem_append_right _ hx)⟩
    obtain ⟨nl, hnl⟩ : ∃ nl, l.length = nl := ⟨_, rfl⟩
    have HNL : Aside (l.length = nl) := hnl
    rw [hnl] at HL hl1
    have hnl2 : nl ≤ 1048576 := by have := HLB.out.1; omega
    clear hle hbl hx hl
    rw [hnl] at r0
    clear hnl
    go_wp2_with fail
    go_loopg [3, 17] nl (fun g t3 t17 wr => ∃ (j : Nat) (o2 : List Ent) (a2 : Option Addr) (c2 : Nat), t17 = .int .i64 j ∧ t3 = .slice a2 o2.length c2 ∧ j ≤ nl ∧ o2.length ≤ 1048576 ∧ Aside (g = nl - j ∧ o2 = (l.take j).foldl joinTo o) ∧ Aside (o2.length ≤ o.length + j ∧ (∀ y ∈ o2, OkE y) ∧ eBytes o2 = eBytes o + eBytes (l.take j)) ∧
     Sat (rw TEn 4 (.slice a2 o2.length c2) (ecs o2) * (B * F)) wr)
    case atStart => exact ⟨0, o, a, c, rfl, rfl, by omega, hol, ⟨rfl, rfl⟩, ⟨by omega, A2.out.2.1, by simp [eBytes]⟩, hsr⟩
    case round =>
     obtain ⟨j, o2, a2, c2, rfl, rfl, hj, hol2, J, J2, hsr2⟩ := hrel
     clear hsr this
     haveI := hsr2.i
     by_cases hlj : j < nl
     · have hlj' : (j : Int) < nl := by omega
       obtain ⟨y, hy⟩ : ∃ y, l[j]? = some y := ⟨_, List.getElem?_eq_getElem (by have := HNL.out; omega)⟩
       have hle2 := HL.out
       rw [← HNL.out] at hle2
       obtain ⟨b, q, rfl, r1, r2, r3, r4⟩ := readsE_at hle2 hy
       clear hle2
       have HT : Aside ((l.take (j + 1)).foldl joinTo o = joinTo o2 y ∧ eBytes (l.take (j + 1)) = eBytes (l.take j) + y.len) := ⟨by rw [take_snoc' hy, List.foldl_append, ← J.out.2]; rfl, eBytes_snoc hy⟩
       obtain ⟨hok, hyl⟩ := OkE.of (HLB.out.2.2 y (List.mem_of_getElem? hy))
       have HJ : Aside ((joinTo o2 y).length ≤ o.length + (j + 1) ∧ (∀ z ∈ joinTo o2 y, OkE z) ∧ eBytes (joinTo o2 y) = eBytes o + eBytes (l.take (j + 1)) ∧ (joinTo o2 y).length ≤ 1048576) := by
        have h1 := joinTo_len o2 y
        have h2 := J2.out.1
        have h3 := A2.out.1
        have h4 := HLB.out.1
        have h5 := HNL.out
        refine ⟨by omega, okE_join J2.out.2.1 hok, ?_, by omega⟩
        rw [eBytes_joinTo, HT.out.2, J2.out.2.2]
        omega
       have hyo : OkE y := hok
       obtain ⟨y1, y2, y3, y4⟩ := y
       unfold OkE at hyo
       simp only at hyo hyl r1 r2 r3 r4
       clear hok hy
       have hbe : eBytes o2 ≤ 1099511627776 := by
        have h1 := J2.out.2.2
        have h2 := A2.out.2.2
        have h3 := HLB.out.2.1
        have h4 : eBytes l = eBytes (l.take j) + eBytes (l.drop j) := by rw [← eBytes_append, List.take_append_drop]
        have h5 := (okE_len (o := l.drop j) (fun y hy => (OkE.of (HLB.out.2.2 y (List.mem_of_mem_drop hy))).1)).1
        omega
       have hoa := okE_len J2.out.2.1
       rcases List.eq_nil_or_concat o2 with rfl | ⟨p, a, hcat⟩
       · clear hbe hoa
         simp only [List.length_nil] at hsr2 ⊢
         haveI := hsr2.i
         go_wp2
         go_quiet (fail)
         go_wp2_with (at_builtin; refine wpl_append_same E rfl (.tmp 57) (.tmp 59) rfl rfl rfl (takeI (rw TEn 4 (.slice a2 0 c2) (ecs []))) (Src.new (b := wr.heap.size + 1) (e := TEn) (s := 4) (vs := [.int .i64 y1, .int .i64 y2, .int .i64 y3, .int .i64 y4]) (takeI _) rfl (by intro u hu; simp at hu; rcases hu with rfl | rfl | rfl | rfl <;> rfl)) (by unfold maxLen; omega) (by omega) ?_; intro a9 c9 w9 q9 z9; clear z9; haveI := q9.i)
         go_roundg (nl - (j + 1))
         case measure => have := J.out.1; omega
         case rel =>
          refine ⟨j + 1, [⟨y1, y2, y3, y4⟩], a9, c9, by go_num, rfl, by omega, by simp, ⟨rfl, ?_⟩, ?_, ?_⟩
          · rw [HT.out.1]; rfl
          · have := HJ.out; exact ⟨this.1, this.2.1, this.2.2.1⟩
          · show Sat (rw TEn 4 (.slice a9 (0 + 1) c9) (ecs [] ++ [.int .i64 y1, .int .i64 y2, .int .i64 y3, .int .i64 y4]) * (B * F)) _
            exact keep3 _ _ _
       · clear this
         rw [List.concat_eq_append] at hcat
         subst hcat
         obtain ⟨np, hnp⟩ : ∃ np, p.length = np := ⟨_, rfl⟩
         have HP : Aside (p.length = np) := hnp
         have hlen : (p ++ [a]).length = np + 1 := by rw [List.length_append, hnp]; rfl
         have hav := hoa.2 a (by simp)
         have hao := J2.out.2.1 a (by simp)
         rw [hlen] at hol2 hsr2 ⊢
         obtain ⟨g, rfl⟩ := row_some hsr2 (by omega)
         have t0 := ecs_at p a np hnp 0 _ rfl
         have t1 := ecs_at p a np hnp 1 _ rfl
         have t2 := ecs_at p a np hnp 2 _ rfl
         have t3 := ecs_at p a np hnp 3 _ rfl
         obtain ⟨e1, e2, e3, e4⟩ := a
         unfold OkE at hao
         simp only at hao hav t0 t1 t2 t3
         have hae : e3 ≤ 1099511627776 := by omega
         obtain ⟨xs, hxs⟩ : ∃ xs, ecs (p ++ [⟨e1, e2, e3, e4⟩]) = xs := ⟨_, rfl⟩
         have HX : Aside (ecs (p ++ [⟨e1, e2, e3, e4⟩]) = xs) := hxs
         rw [hxs] at t0 t1 t2 t3 hsr2
         clear hxs
         haveI : At xs (np * 4) (.int .i64 e1) := ⟨t0⟩
         haveI : At xs (np * 4 + 1) (.int .i64 e2) := ⟨t1⟩
         haveI : At xs (np * 4 + 2) (.int .i64 e3) := ⟨t2⟩
         haveI : At xs (np * 4 + 3) (.int .i64 e4) := ⟨t3⟩
         haveI : At (xs.set (np * 4 + 2) (.int .i64 (e3 + y3))) (np * 4 + 3) (.int .i64 e4) := ⟨by rw [List.getElem?_set_ne (by omega)]; exact t3⟩
         haveI := hsr2.i
         have hix : (np : Int) < (np : Int) + 1 := by omega
         have hd : decide ((np : Int) < 0) = false := decide_eq_false (by omega)
         have hnn : (np : Int) ≤ 1048576 := by omega
         have hw1 : IntKind.i64.wrap (e2 + e3) = e2 + e3 := IntWalk.i64_in _ (by omega)
         have hw2 : IntKind.i64.wrap (e3 + y3) = e3 + y3 := IntWalk.i64_in _ (by omega)
         have hw3 : IntKind.i64.wrap (e4 + y4) = e4 + y4 := IntWalk.i64_in _ (by omega)
         clear hbe hoa hav hnp hlen t0 t1 t2 t3
         by_cases h1 : e1 = y1
         · by_cases h2 : e2 + e3 = y2
           · have hm : meets ⟨e1, e2, e3, e4⟩ ⟨y1, y2, y3, y4⟩ = true := by unfold meets; simp [h1, h2]
             subst h1
             have b1 : (e1 != e1) = false := by simp
             have b2 : (e2 + e3 != y2) = false := by simp [h2]
             go_wp2
             go_quiet (fail)
             by_cases h4 : e4 < 0
             · have HE : Aside (joinTo (p ++ [⟨e1, e2, e3, e4⟩]) ⟨e1, y2, y3, y4⟩ = p ++ [⟨e1, e2, e3 + y3, -1⟩]) := by rw [joinTo_go hm]; unfold glue; simp [h4]; exact (trivial : True)
               have d1 : decide (e4 < 0) = true := decide_eq_true h4
               clear hm
               go_wp2_with fail
               go_region
               go_wp2_with fail
               go_roundg (nl - (j + 1))
               case measure => have := J.out.1; omega
               case rel =>
                refine ⟨j + 1, p ++ [⟨e1, e2, e3 + y3, -1⟩], some ⟨g, 0, none⟩, c2, by go_num, ?_, by omega, ?_, ⟨rfl, ?_⟩, ?_, ?_⟩
                · rw [List.length_append, HP.out]; rfl
                · have := HJ.out.2.2.2; rw [HE.out] at this; exact this
                · rw [HT.out.1, HE.out]
                · have := HJ.out; rw [HE.out] at this; exact ⟨this.1, this.2.1, this.2.2.1⟩
                · rw [show ecs (p ++ [⟨e1, e2, e3 + y3, -1⟩]) = _ from (ecs_glue p (Ent.mk e1 e2 e3 e4) np HP.out (e3 + y3) (-1)).symm, HX.out, List.length_append, HP.out]
                  show Sat (rw TEn 4 (.slice (some ⟨g, 0, none⟩) (np + 1) c2) ((xs.set (np * 4 + 2) (Value.int .i64 (e3 + y3))).set (np * 4 + 3) (Value.int .i64 (-1))) * (B * F)) _
                  exact keep3 _ _ _
             · have d1 : decide (e4 < 0) = false := decide_eq_false h4
               by_cases h5 : y4 < 0
               · have HE : Aside (joinTo (p ++ [⟨e1, e2, e3, e4⟩]) ⟨e1, y2, y3, y4⟩ = p ++ [⟨e1, e2, e3 + y3, -1⟩]) := by rw [joinTo_go hm]; unfold glue; simp [h4, h5]; exact (trivial : True)
                 have d2 : decide (y4 < 0) = true := decide_eq_true h5
                 clear hm
                 go_wp2_with fail
                 go_region
                 go_wp2_with fail
                 go_roundg (nl - (j + 1))
                 case measure => have := J.out.1; omega
                 case rel =>
                  refine ⟨j + 1, p ++ [⟨e1, e2, e3 + y3, -1⟩], some ⟨g, 0, none⟩, c2, by go_num, ?_, by omega, ?_, ⟨rfl, ?_⟩, ?_, ?_⟩
                  · rw [List.length_append, HP.out]; rfl
                  · have := HJ.out.2.2.2; rw [HE.out] at this; exact this
                  · rw [HT.out.1, HE.out]
                  · have := HJ.out; rw [HE.out] at this; exact ⟨this.1, this.2.1, this.2.2.1⟩
                  · rw [show ecs (p ++ [⟨e1, e2, e3 + y3, -1⟩]) = _ from (ecs_glue p (Ent.mk e1 e2 e3 e4) np HP.out (e3 + y3) (-1)).symm, HX.out, List.length_append, HP.out]
                    show Sat (rw TEn 4 (.slice (some ⟨g, 0, none⟩) (np + 1) c2) ((xs.set (np * 4 + 2) (Value.int .i64 (e3 + y3))).set (np * 4 + 3) (Value.int .i64 (-1))) * (B * F)) _
                    exact keep3 _ _ _
               · have HE : Aside (joinTo (p ++ [⟨e1, e2, e3, e4⟩]) ⟨e1, y2, y3, y4⟩ = p ++ [⟨e1, e2, e3 + y3, e4 + y4⟩]) := by rw [joinTo_go hm]; unfold glue; simp [h4, h5]; exact (trivial : True)
                 have d2 : decide (y4 < 0) = false := decide_eq_false h5
                 clear hm
                 go_wp2_with fail
                 go_region
                 go_wp2_with fail
                 go_region
                 go_wp2_with fail
                 go_roundg (nl - (j + 1))
                 case measure => have := J.out.1; omega
                 case rel =>
                  refine ⟨j + 1, p ++ [⟨e1, e2, e3 + y3, (e4 + y4)⟩], some ⟨g, 0, none⟩, c2, by go_num, ?_, by omega, ?_, ⟨rfl, ?_⟩, ?_, ?_⟩
                  · rw [List.length_append, HP.out]; rfl
                  · have := HJ.out.2.2.2; rw [HE.out] at this; exact this
                  · rw [HT.out.1, HE.out]
                  · have := HJ.out; rw [HE.out] at this; exact ⟨this.1, this.2.1, this.2.2.1⟩
                  · rw [show ecs (p ++ [⟨e1, e2, e3 + y3, (e4 + y4)⟩]) = _ from (ecs_glue p (Ent.mk e1 e2 e3 e4) np HP.out (e3 + y3) (e4 + y4)).symm, HX.out, List.length_append, HP.out]
                    show Sat (rw TEn 4 (.slice (some ⟨g, 0, none⟩) (np + 1) c2) ((xs.set (np * 4 + 2) (Value.int .i64 (e3 + y3))).set (np * 4 + 3) (Value.int .i64 (e4 + y4))) * (B * F)) _
                    exact Sat.drewN 1 (keep3 _ _ _)
           · have HE : Aside (joinTo (p ++ [⟨e1, e2, e3, e4⟩]) ⟨y1, y2, y3, y4⟩ = (p ++ [⟨e1, e2, e3, e4⟩]) ++ [⟨y1, y2, y3, y4⟩]) := joinTo_stop (by unfold meets; simp [h2])
             subst h1
             have b1 : (e1 != e1) = false := by simp
             have b2 : (e2 + e3 != y2) = true := by simp [h2]
             go_wp2
             go_quiet (fail)
             go_wp2_with (at_builtin; refine wpl_append_same E rfl (.tmp 57) (.tmp 59) rfl rfl rfl (takeI (rw TEn 4 (.slice (some ⟨g, 0, none⟩) (np + 1) c2) xs)) (Src.new (b := wr.heap.size + 1) (e := TEn) (s := 4) (vs := [.int .i64 e1, .int .i64 y2, .int .i64 y3, .int .i64 y4]) (takeI _) rfl (by intro u hu; simp at hu; rcases hu with rfl | rfl | rfl | rfl <;> rfl)) (by unfold maxLen; omega) (by omega) ?_; intro a9 c9 w9 q9 z9; clear z9; haveI := q9.i)
             go_roundg (nl - (j + 1))
             case measure => have := J.out.1; omega
             case rel =>
              refine ⟨j + 1, (p ++ [⟨e1, e2, e3, e4⟩]) ++ [⟨e1, y2, y3, y4⟩], a9, c9, by go_num, ?_, by omega, ?_, ⟨rfl, ?_⟩, ?_, ?_⟩
              · rw [List.length_append, List.length_append, HP.out]; rfl
              · have := HJ.out.2.2.2; rw [HE.out] at this; exact this
              · rw [HT.out.1, HE.out]
              · have := HJ.out; rw [HE.out] at this; exact ⟨this.1, this.2.1, this.2.2.1⟩
              · rw [ecs_last (p ++ [Ent.mk e1 e2 e3 e4]), HX.out, List.length_append, List.length_append, HP.out]
                show Sat (rw TEn 4 (.slice a9 (np + 1 + 1) c9) (xs ++ [.int .i64 e1, .int .i64 y2, .int .i64 y3, .int .i64 y4]) * (B * F)) _
                exact keep3 _ _ _
         · have HE : Aside (joinTo (p ++ [⟨e1, e2, e3, e4⟩]) ⟨y1, y2, y3, y4⟩ = (p ++ [⟨e1, e2, e3, e4⟩]) ++ [⟨y1, y2, y3, y4⟩]) := joinTo_stop (by unfold meets; simp [h1])
           have b1 : (e1 != y1) = true := by simp [h1]
           go_wp2
           go_quiet (fail)
           go_wp2_with (at_builtin; refine wpl_append_same E rfl (.tmp 57) (.tmp 59) rfl rfl rfl (takeI (rw TEn 4 (.slice (some ⟨g, 0, none⟩) (np + 1) c2) xs)) (Src.new (b := wr.heap.size + 1) (e := TEn) (s := 4) (vs := [.int .i64 y1, .int .i64 y2, .int .i64 y3, .int .i64 y4]) (takeI _) rfl (by intro u hu; simp at hu; rcases hu with rfl | rfl | rfl | rfl <;> rfl)) (by unfold maxLen; omega) (by omega) ?_; intro a9 c9 w9 q9 z9; clear z9; haveI := q9.i)
           go_roundg (nl - (j + 1))
           case measure => have := J.out.1; omega
           case rel =>
            refine ⟨j + 1, (p ++ [⟨e1, e2, e3, e4⟩]) ++ [⟨y1, y2, y3, y4⟩], a9, c9, by go_num, ?_, by omega, ?_, ⟨rfl, ?_⟩, ?_, ?_⟩
            · rw [List.length_append, List.length_append, HP.out]; rfl
            · have := HJ.out.2.2.2; rw [HE.out] at this; exact this
            · rw [HT.out.1, HE.out]
            · have := HJ.out; rw [HE.out] at this; exact ⟨this.1, this.2.1, this.2.2.1⟩
            · rw [ecs_last (p ++ [Ent.mk e1 e2 e3 e4]), HX.out, List.length_append, List.length_append, HP.out]
              show Sat (rw TEn 4 (.slice a9 (np + 1 + 1) c9) (xs ++ [.int .i64 y1, .int .i64 y2, .int .i64 y3, .int .i64 y4]) * (B * F)) _
              exact keep3 _ _ _
     · have hlj' : ¬ (j : Int) < nl := by omega
       obtain rfl : j = nl := by omega
       have hJ := J.out.2
       have hJ2 := J2.out
       rw [List.take_of_length_le (by rw [HNL.out]; exact Nat.le_refl _)] at hJ hJ2
       have HF : Aside (o2 = join (ls.take (i + 1)).flatten ∧ o2.length ≤ (ls.take (i + 1)).flatten.length ∧ (∀ y ∈ o2, OkE y) ∧ eBytes o2 = eBytes (ls.take (i + 1)).flatten) := by
        refine ⟨?_, ?_, hJ2.2.1, ?_⟩
        · rw [hJ, A.out.2, HFl.out]
          unfold join
          rw [List.foldl_append]
        · rw [HFl.out, List.length_append]
          have := A2.out.1
          have := HNL.out
          omega
        · rw [HFl.out, eBytes_append, hJ2.2.2, A2.out.2.2]
       clear hJ hJ2
       go_wp2
       go_roundg (n - (i + 1))
       case measure => have := A.out.1; omega
       case rel => exact ⟨i + 1, o2, a2, c2, by go_num, rfl, by omega, hol2, ⟨rfl, HF.out.1⟩, HF.out.2, hsr2⟩
  · have hlt' : ¬ (i : Int) < n := by omega
    obtain rfl : i = n := by omega
    have hRR : o = R := by rw [A.out.2, List.take_of_length_le (by rw [HN.out]; exact Nat.le_refl _)]; exact HR.out
    subst hRR
    go_wp2
    go_ret
    exact ⟨a, c, rfl, hsr⟩
end Go.Proofs.YtfhbmblbidcmmaaGreat
