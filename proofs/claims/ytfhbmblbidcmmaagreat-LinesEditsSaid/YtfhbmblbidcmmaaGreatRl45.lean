/-
  Walks and plain laws that the lines of texts lean on. No condition (part 45)
-/
import Derived.Test.YtfhbmblbidcmmaaGreatRl43
import Derived.Test.YtfhbmblbidcmmaaGreatRl24
import Derived.Test.YtfhbmblbidcmmaaGreatRl28
import Derived.Test.YtfhbmblbidcmmaaGreatRl7
import Derived.Deep.DrawnRows
import Derived.IntWalk
import Derived.BigQuiet
set_option linter.unusedSimpArgs false
set_option linter.unusedVariables false
namespace Go.Proofs.YtfhbmblbidcmmaaGreat
set_option linter.unusedSimpArgs false
set_option linter.unusedVariables false
open Go.RowKit Go.Sl Go.Dk Go.Tr
attribute [local go_sem ↓] Go.wp_at_zero Go.wp_at_succ
attribute [local go_sem] Go.Sl.cell_sat Go.Sl.frozen_sat
abbrev TItm : TypeId := 184
theorem elemItm : ∃ i, ElemOk Tryz.prog 181 TItm 6 48 i (.agg #[.int .i64 0, .int .i64 0, .int .i64 0, .int .i64 0, .int .i64 0, .int .i64 0]) := elemOk Tryz.underlying181 (by kernel_rfl) rfl (by omega)
def itrow (i : Itm) : List Value := [.int .i64 i.bytes, .int .i64 i.lines, .int .i64 i.ent.src, .int .i64 i.ent.pos, .int .i64 i.ent.len, .int .i64 i.page]
def itcs (l : List Itm) : List Value := l.flatMap itrow
theorem itcs_last (p : List Itm) (a : Itm) : itcs (p ++ [a]) = itcs p ++ itrow a := by simp [itcs]
theorem itcs_E {es : List Ent} {j : Nat} {x : Ent} (h : es[j]? = some x) : itcs ((es.take (j + 1)).map itE) = itcs ((es.take j).map itE) ++ itrow (itE x) := by
 rw [take_snoc' h, List.map_append, List.map_cons, List.map_nil, itcs_last]
theorem itcs_K {es : List Ent} {ks : List Kd} {j : Nat} {x : Kd} (h : ks[j]? = some x) : itcs (es.map itE ++ (ks.take (j + 1)).map itK) = itcs (es.map itE ++ (ks.take j).map itK) ++ itrow (itK x) := by
 rw [take_snoc' h, List.map_append, List.map_cons, List.map_nil, ← List.append_assoc, itcs_last]
set_option maxRecDepth 100000 in
set_option maxHeartbeats 3200000 in
theorem items_any (y : Nd) (v : Value) (B F : Assn) (w : World) (hN : ReadsN B v y) (hs : Sat (B * F) w) (hma : y.ents.length ≤ 12 ∧ y.kids.length ≤ 12) :
 Calls Tryz.prog 88 #[v] w fun e w' => ∃ a c, e = .returned (.slice a (itemsN y).length c) ∧ Sat (rw TItm 6 (.slice a (itemsN y).length c) (itcs (itemsN y)) * (B * F)) w' := by
 obtain ⟨i0, E⟩ := elemItm
 obtain ⟨se, sk, rfl, hE, hK⟩ := hN
 obtain ⟨a1, c1, rfl, hE1, hE2⟩ := hE.v
 obtain ⟨a2, c2, rfl, hK1, hK2⟩ := ReadsR.v hK
 obtain ⟨hl1, hl2⟩ := hma
 obtain ⟨lf, es, ks⟩ := y
 simp only at hE hK hl1 hl2 hE1 hK1 ⊢
 obtain ⟨ne, hne⟩ : ∃ ne, es.length = ne := ⟨_, rfl⟩
 obtain ⟨nk, hnk⟩ : ∃ nk, ks.length = nk := ⟨_, rfl⟩
 have HE : Aside (ReadsE B (.slice a1 es.length c1) es ∧ es.length = ne) := ⟨hE, hne⟩
 have HK : Aside (ReadsK B (.slice a2 ks.length c2) ks ∧ ks.length = nk) := ⟨hK, hnk⟩
 have HR : Aside (itemsN ⟨lf, es, ks⟩ = es.map itE ++ ks.map itK ∧ (es.map itE ++ ks.map itK).length = ne + nk) := ⟨rfl, by simp [hne, hnk]⟩
 rw [HR.out.1, HR.out.2]
 rw [hne] at hl1 hE1 ⊢
 rw [hnk] at hl2 hK1 ⊢
 haveI := hs.i
 clear hE hK hne hnk
 go_enter Tryz.func88, Tryz.ntmps88
 go_wp2
 have q4 : Sat (B * (Sl.block w.heap.size TNd [.bool lf, .slice a1 ne c1, .slice a2 nk c2] * F)) (w.alloc (.cells #[.bool lf, .slice a1 ne c1, .slice a2 nk c2] TNd)) := satI_eq (by ac_rfl)
 have q5 := q4.rw_nil (e := TItm) (s := 6)
 obtain ⟨N4, hN4⟩ : ∃ N, w.heap.size = N := ⟨_, rfl⟩
 rw [hN4] at q5 ⊢
 clear hN4 q4 hs this
 go_loopg [3, 11] ne (fun g t3 t11 wr => ∃ (j : Nat) (a' : Option Addr) (c' : Nat), t11 = .int .i64 j ∧ t3 = .slice a' j c' ∧ j ≤ ne ∧ Aside (g = ne - j) ∧
  Sat (rw TItm 6 (.slice a' j c') (itcs ((es.take j).map itE)) * (B * (Sl.block N4 TNd [.bool lf, .slice a1 ne c1, .slice a2 nk c2] * F))) wr)
 case atStart => exact ⟨0, none, 0, rfl, rfl, by omega, (rfl : _ = _), q5⟩
 case round =>
  obtain ⟨j, a', c', rfl, rfl, hj, J, hsr⟩ := hrel
  clear q5
  haveI := hsr.i
  by_cases hlt : j < ne
  · have hlt' : (j : Int) < ne := by omega
    obtain ⟨y, hy⟩ : ∃ y, es[j]? = some y := ⟨_, List.getElem?_eq_getElem (by have := HE.out.2; omega)⟩
    obtain ⟨b, q, rfl, r1, r2, r3, r4⟩ := readsE_at HE.out.1 hy
    have HY : Aside (itcs ((es.take (j + 1)).map itE) = itcs ((es.take j).map itE) ++ itrow (itE y)) := itcs_E hy
    obtain ⟨y1, y2, y3, y4⟩ := y
    simp only at r1 r2 r3 r4
    obtain ⟨xs, hxs⟩ : ∃ xs, itcs ((es.take j).map itE) = xs := ⟨_, rfl⟩
    rw [hxs] at HY this hsr
    clear hy hxs
    haveI := hsr.i
    go_wp2_with (at_builtin; refine wpl_append_same E rfl (.tmp 15) (.tmp 24) rfl rfl rfl (takeI (rw TItm 6 (.slice a' j c') xs)) (Src.new (b := wr.heap.size + 1) (e := TItm) (s := 6) (vs := [.int .i64 y3, .int .i64 y4, .int .i64 y1, .int .i64 y2, .int .i64 y3, .int .i64 0]) (takeI _) rfl (by intro u hu; simp at hu; rcases hu with rfl | rfl | rfl | rfl | rfl | rfl <;> rfl)) (by unfold maxLen; omega) (by omega) ?_; intro a9 c9 w9 q9 z9; clear z9; haveI := q9.i)
    go_roundg (ne - (j + 1))
    case measure => have := J.out; omega
    case rel =>
     refine ⟨j + 1, a9, c9, by go_num, rfl, by omega, (rfl : _ = _), ?_⟩
     rw [HY.out]
     show Sat (rw TItm 6 (.slice a9 (j + 1) c9) (xs ++ [.int .i64 y3, .int .i64 y4, .int .i64 y1, .int .i64 y2, .int .i64 y3, .int .i64 0]) * _) _
     exact keep4 _ _ _ _
  · have hlt' : ¬ (j : Int) < ne := by omega
    obtain rfl : j = ne := by omega
    have q5 : Sat (rw TItm 6 (.slice a' j c') (itcs (es.map itE ++ (ks.take 0).map itK)) * (B * (Sl.block N4 TNd [.bool lf, .slice a1 j c1, .slice a2 nk c2] * F))) wr := by
     rw [List.take_of_length_le (by rw [HE.out.2]; exact Nat.le_refl _)] at hsr
     rw [List.take_zero, List.map_nil, List.append_nil]
     exact hsr
    clear hsr this hlt
    haveI := q5.i
    go_wp2
    go_loopg [3, 30] nk (fun g t3 t30 wr => ∃ (i : Nat) (a' : Option Addr) (c' : Nat), t30 = .int .i64 i ∧ t3 = .slice a' (j + i) c' ∧ i ≤ nk ∧ Aside (g = nk - i) ∧
     Sat (rw TItm 6 (.slice a' (j + i) c') (itcs (es.map itE ++ (ks.take i).map itK)) * (B * (Sl.block N4 TNd [.bool lf, .slice a1 j c1, .slice a2 nk c2] * F))) wr)
    case atStart => exact ⟨0, a', c', rfl, rfl, by omega, (rfl : _ = _), q5⟩
    case round =>
     obtain ⟨i, a'', c'', rfl, rfl, hi, I, hsr⟩ := hrel
     clear q5 this
     haveI := hsr.i
     by_cases hlt : i < nk
     · have hlt' : (i : Int) < nk := by omega
       obtain ⟨y, hy⟩ : ∃ y, ks[i]? = some y := ⟨_, List.getElem?_eq_getElem (by have := HK.out.2; omega)⟩
       obtain ⟨b, q, rfl, r1, r2, r3, r4⟩ := readsK_at HK.out.1 hy
       have HY : Aside (itcs (es.map itE ++ (ks.take (i + 1)).map itK) = itcs (es.map itE ++ (ks.take i).map itK) ++ itrow (itK y)) := itcs_K hy
       obtain ⟨y1, y2, y3, y4⟩ := y
       simp only at r1 r2 r3 r4
       obtain ⟨xs, hxs⟩ : ∃ xs, itcs (es.map itE ++ (ks.take i).map itK) = xs := ⟨_, rfl⟩
       rw [hxs] at HY this hsr
       clear hy hxs
       haveI := hsr.i
       go_wp2_with (at_builtin; refine wpl_append_same E rfl (.tmp 34) (.tmp 43) rfl rfl rfl (takeI (rw TItm 6 (.slice a'' (j + i) c'') xs)) (Src.new (b := wr.heap.size + 1) (e := TItm) (s := 6) (vs := [.int .i64 y2, .int .i64 y3, .int .i64 0, .int .i64 0, .int .i64 0, .int .i64 y1]) (takeI _) rfl (by intro u hu; simp at hu; rcases hu with rfl | rfl | rfl | rfl | rfl | rfl <;> rfl)) (by unfold maxLen; omega) (by omega) ?_; intro a9 c9 w9 q9 z9; clear z9; haveI := q9.i)
       go_roundg (nk - (i + 1))
       case measure => have := I.out; omega
       case rel =>
        refine ⟨i + 1, a9, c9, by go_num, rfl, by omega, (rfl : _ = _), ?_⟩
        rw [HY.out]
        show Sat (rw TItm 6 (.slice a9 (j + i + 1) c9) (xs ++ [.int .i64 y2, .int .i64 y3, .int .i64 0, .int .i64 0, .int .i64 0, .int .i64 y1]) * _) _
        exact keep4 _ _ _ _
     · have hlt' : ¬ (i : Int) < nk := by omega
       obtain rfl : i = nk := by omega
       rw [List.take_of_length_le (by rw [HK.out.2]; exact Nat.le_refl _)] at hsr
       haveI := hsr.i
       go_wp2
       go_ret
       exact ⟨_, _, rfl, keep3 _ _ _⟩
end Go.Proofs.YtfhbmblbidcmmaaGreat
