/-
  Of all versions the pages that are told are just those of their trees in the file in the form of the document, and a root that is none is refused. No condition. (part 39)
-/
import Derived.Test.YtfhbmblbidcmmaaGreatVa33
import Derived.Test.YtfhbmblbidcmmaaGreatVa38
import Derived.IntWalk
import Derived.WalkLawsBesides
import Derived.Test.YtfhbmblbidcmmaaGreatVa35
set_option linter.unusedSimpArgs false
set_option linter.unusedVariables false
namespace Go.Proofs.YtfhbmblbidcmmaaGreat
set_option linter.unusedSimpArgs false
set_option linter.unusedVariables false
open Go.RowKit Go.Sl Go.Dk Go.Tr
attribute [local go_sem ↓] Go.wp_at_zero Go.wp_at_succ
attribute [local go_sem] Go.Sl.cell_sat Go.Sl.frozen_sat
theorem ecs_app (a b : List Ent) : ecs (a ++ b) = ecs a ++ ecs b := by simp [ecs]
def SeeOut (N m : Nat) (cs : List Value) (B F : Assn) (e : Ending) (w' : World) : Prop := ∃ (a' : Option Addr) (c' : Nat),
 (1024 < m ∧ e = .panicked (faultC 13) ∧ Sat (Sl.block N TEs [.slice a' m c'] * (B * F)) w') ∨
 (¬ 1024 < m ∧ e = .returned (.bool true) ∧ Sat (Sl.block N TEs [.slice a' m c'] * (rw TEn 4 (.slice a' m c') cs * (B * F))) w')
set_option maxRecDepth 100000 in
set_option maxHeartbeats 1600000 in
theorem see_any (no : Int) (n : Nd) (v : Value) (N : Nat) (o : List Ent) (a : Option Addr) (c : Nat) (B F : Assn) (w : World) (hN : ReadsN B v n) (hm : may n = true) (ho : o.length ≤ 1024)
 (hs : Sat (Sl.block N TEs [.slice a o.length c] * (rw TEn 4 (.slice a o.length c) (ecs o) * (B * F))) w) :
 Calls Tryz.prog 110 #[.int .i64 no, v, .pointer (some ⟨N, 0, none⟩)] w (SeeOut N (o ++ n.ents).length (ecs (o ++ n.ents)) B F) := by
 obtain ⟨i0, E⟩ := elemEn
 obtain ⟨l1, l2⟩ := may_len hm
 obtain ⟨vE, vK, rfl, hE, hK⟩ := hN
 obtain ⟨aE, cE, rfl, hE1, hE2⟩ := hE.v
 obtain ⟨aK, cK, rfl, hK1, hK2⟩ := ReadsR.v hK
 have sE := fun (F : Assn) (w : World) (h : Sat (B * F) w) => hE.src (P := Tryz.prog) (ecs_one n.ents) h
 rw [List.length_append, ecs_app]
 obtain ⟨ne, hne⟩ : ∃ k, n.ents.length = k := ⟨_, rfl⟩
 obtain ⟨nO, hno⟩ : ∃ k, o.length = k := ⟨_, rfl⟩
 rw [hne] at sE l1 hE1 ⊢
 rw [hno] at hs ho ⊢
 have SE : Aside (∀ (F : Assn) (w : World), Sat (B * F) w → Src Tryz.prog 4 w (.slice aE ne cE) ne (ecs n.ents)) := sE
 obtain ⟨xs, hxs⟩ : ∃ x, ecs o = x := ⟨_, rfl⟩
 rw [hxs] at hs ⊢
 obtain ⟨m, hsum⟩ : ∃ m, nO + ne = m := ⟨_, rfl⟩
 have HSUM : Aside (nO + ne = m) := hsum
 have hmb : m ≤ 1036 := by omega
 rw [hsum]
 haveI := hs.i
 clear hE hK sE hne hno hxs
 clear hsum
 by_cases hc : 1024 < m
 · have HC : Aside (1024 < m) := hc
   have hc' : (1024 : Int) < m := by omega
   clear hc
   go_enter Tryz.func110, Tryz.ntmps110
   go_wp2_with (at_builtin; refine wpl_append_same E rfl (.tmp 6) (.tmp 8) rfl rfl rfl (takeI (rw TEn 4 (.slice a nO c) xs)) (SE.out _ _ (takeI B)) (by unfold maxLen; omega) (by omega) ?_; intro a9 c9 w9 q9 z9; clear z9; rw [HSUM.out] at q9 ⊢; haveI := q9.i)
   exact ⟨rfl, a9, c9, .inl ⟨HC.out, rfl, keep3 _ _ _⟩⟩
 · have HC : Aside (¬ 1024 < m) := hc
   have hc' : ¬ (1024 : Int) < m := by omega
   clear hc
   go_enter Tryz.func110, Tryz.ntmps110
   go_wp2_with (at_builtin; refine wpl_append_same E rfl (.tmp 6) (.tmp 8) rfl rfl rfl (takeI (rw TEn 4 (.slice a nO c) xs)) (SE.out _ _ (takeI B)) (by unfold maxLen; omega) (by omega) ?_; intro a9 c9 w9 q9 z9; clear z9; rw [HSUM.out] at q9 ⊢; haveI := q9.i)
   go_returns
   exact ⟨a9, c9, .inr ⟨HC.out, rfl, keep4 _ _ _ _⟩⟩
set_option maxRecDepth 100000 in
set_option maxHeartbeats 1600000 in
theorem listC_idle (N E : Nat) (w : World) :
 CallsD Tryz.prog 108 #[.pointer (some ⟨N, 0, none⟩), .pointer (some ⟨E, 0, none⟩)] .returning w fun e u' w' => e = .returned (.tuple #[]) ∧ u' = .returning ∧ w' = w := by
 refine callsD_of_wpS Tryz.func108 rfl fun c₀ cs hu => ?_
 apply wpS_seq
 apply wpS_region
 simp [wpOpsS, go_sem, recoverD, hu, Tryz.ntmps108, Exit.thenS]
 apply wpS_seq
 apply wpS_region
 simp [wpOpsS, go_sem, Exit.thenS]
 refine wpS_cond (t := false) (by simp [Act.eval, Array.replicate]) ?_
 simp only [Bool.false_eq_true, if_false]
 refine wpS_of_wp (wp_skip ?_)
 cases c₀
 simp_all [bodyPostS, results, Tryz.results108, Exit.thenS]
set_option maxRecDepth 100000 in
set_option maxHeartbeats 1600000 in
theorem listC_caught (N E : Nat) (er : Int) (a b : Value) (F : Assn) (w : World) (hs : Sat (Sl.block N TEs [a] * (Sl.block E TEr [b] * F)) w) :
 CallsD Tryz.prog 108 #[.pointer (some ⟨N, 0, none⟩), .pointer (some ⟨E, 0, none⟩)] (.panicking (faultC er)) w fun e u' w' => e = .returned (.tuple #[]) ∧ u' = .panicking [{ v := .iface TFa (.agg #[.int .i64 er]), recovered := true }] ∧ Sat (Sl.block N TEs [.slice none 0 0] * (Sl.block E TEr [.int .i64 er] * F)) w' := by
 haveI := hs.i
 refine callsD_of_wpS Tryz.func108 rfl fun c₀ cs hu => ?_
 unfold faultC at hu
 apply wpS_seq
 apply wpS_region
 simp [wpOpsS, go_sem, recoverD, hu, Tryz.ntmps108, Exit.thenS]
 apply wpS_seq
 apply wpS_region
 simp [wpOpsS, go_sem, Exit.thenS]
 refine wpS_cond (t := true) (by simp [Act.eval, Array.replicate]) ?_
 simp only [if_true]
 refine wpS_of_wp ?_
 go_wp2_with fail
 refine Calls.mono (given_any er _ _ hs) ?_
 rintro en w2 ⟨rfl, q2⟩
 haveI := q2.i
 go_wp2
 simp [bodyPostS, results, Tryz.results108]
 exact satI_eq (by ac_rfl)
end Go.Proofs.YtfhbmblbidcmmaaGreat
namespace Go.Proofs.YtfhbmblbidcmmaaGreat
set_option linter.unusedSimpArgs false
set_option linter.unusedVariables false
open Go.RowKit Go.Sl Go.Dk Go.Tr
open Go.Lru (ikey)
attribute [local go_sem ↓] Go.wp_at_zero Go.wp_at_succ
attribute [local go_sem] Go.Sl.cell_sat Go.Sl.frozen_sat
def pgsA (S M N : Nat) (v : Value) (l : List Int) : Assn := Sl.block S TMB [.map (some M)] * (mp ikey M (inU l) * (Sl.block N TRs [v] * rw TRg 2 v (rgs (pageR l))))
set_option maxRecDepth 100000 in
set_option maxHeartbeats 1600000 in
theorem pg2_seen (S M N : Nat) (no : Int) (n : Nd) (vn v : Value) (l : List Int) (B F : Assn) (w : World) (hN : ReadsN B vn n) (hc : l.contains no = true) (hs : Sat (pgsA S M N v l * (B * F)) w) :
 Calls Tryz.prog 119 #[.int .i64 no, vn, .pointer (some ⟨S, 0, none⟩), .pointer (some ⟨N, 0, none⟩)] w fun e w' => e = .returned (.bool false) ∧ Sat (pgsA S M N v l * (B * F)) w' := by
 obtain ⟨vE, vK, rfl, hE, hK⟩ := hN
 have HS : Aside (Sat (pgsA S M N v l * (B * F)) w) := hs
 have h1 : Sat (Sl.block S TMB [.map (some M)] * (mp ikey M (inU l) * (Sl.block N TRs [v] * (rw TRg 2 v (rgs (pageR l)) * (B * F))))) w := hs.eq (by unfold pgsA; ac_rfl)
 have hg := mget_inU no l
 rw [hc] at hg
 have l1 := fun w => @look_MB w M no
 haveI := h1.i
 clear hE hK hs hc
 go_enter Tryz.func119, Tryz.ntmps119
 go_wp2
 go_ret
 refine ⟨rfl, ?_⟩
 exact satI_weak (C := Sl.block w.heap.size TNd [.bool n.leaf, vE, vK]) (by unfold pgsA; ac_rfl)
set_option maxRecDepth 100000 in
set_option maxHeartbeats 1600000 in
theorem pg2_new (S M N : Nat) (no : Int) (n : Nd) (vn v : Value) (l : List Int) (B F : Assn) (w : World) (hN : ReadsN B vn n) (hc : l.contains no = false) (h0 : 0 ≤ no) (h9 : no < 1099511627776) (hl : l.length ≤ 1048576) (hs : Sat (pgsA S M N v l * (B * F)) w) :
 Calls Tryz.prog 119 #[.int .i64 no, vn, .pointer (some ⟨S, 0, none⟩), .pointer (some ⟨N, 0, none⟩)] w fun e w' => e = .returned (.bool true) ∧ ∃ v', Sat (pgsA S M N v' (l ++ [no]) * (B * F)) w' := by
 obtain ⟨vE, vK, rfl, hE, hK⟩ := hN
 obtain ⟨i0, EP⟩ := elemRg
 have h0 : Sat (rw TRg 2 v (rgs (pageR l)) * (Sl.block S TMB [.map (some M)] * (mp ikey M (inU l) * (Sl.block N TRs [v] * (B * F))))) w := hs.eq (by unfold pgsA; ac_rfl)
 obtain ⟨a, m, c, rfl, h3, _⟩ := rw_v h0
 have hm : l.length = m := by rw [rgs_len] at h3; simp [pageR] at h3; omega
 have h1 : Sat (Sl.block S TMB [.map (some M)] * (mp ikey M (inU l) * (Sl.block N TRs [.slice a m c] * (rw TRg 2 (.slice a m c) (rgs (pageR l)) * (B * F))))) w := h0.eq (by ac_rfl)
 have hg := mget_inU no l
 rw [hc] at hg
 have l1 := fun w => @look_MB w M no
 have p1 := fun w => @put_MB w M no (.bool true)
 have mp1 := mput_inU no l hc
 rw [hm] at hl
 haveI := h1.i
 clear hE hK hs hc h3 hm h0
 go_enter Tryz.func119, Tryz.ntmps119
 go_wp2_with (at_builtin; go_loud (refine wpl_append_same EP rfl (.tmp 12) (.tmp 17) rfl rfl rfl (takeI (rw TRg 2 (.slice a m c) (rgs (pageR l)))) (Src.new (e := TRg) (s := 2) (vs := [.int .i64 no, .int .i64 (no + 1)]) (takeI _) rfl (by intro u hu; simp at hu; rcases hu with rfl | rfl <;> rfl)) (by unfold maxLen; omega) (by omega) ?_; intro a' c' w3 hs6 hnil; haveI := hs6.i; clear hnil))
 go_ret
 refine ⟨rfl, .slice a' (m + 1) c', ?_⟩
 have e1 : rgs (pageR (l ++ [no])) = rgs (pageR l) ++ [.int .i64 no, .int .i64 (no + 1)] := by simp [pageR, rgs, rgR]
 unfold pgsA
 rw [e1, ← mp1]
 exact satI_weak (C := Sl.block w.heap.size TNd [.bool n.leaf, vE, vK] * Sl.block (putW Tryz.prog TMB M (ikey no) (Value.bool true) (w.alloc (.cells #[Value.bool n.leaf, vE, vK] TNd))).heap.size TRg [.int .i64 no, .int .i64 (no + 1)]) (by ac_rfl)
end Go.Proofs.YtfhbmblbidcmmaaGreat
namespace Go.Proofs.YtfhbmblbidcmmaaGreat
set_option linter.unusedSimpArgs false
set_option linter.unusedVariables false
open Go.RowKit Go.Sl Go.Dk Go.Tr
attribute [local go_sem ↓] Go.wp_at_zero Go.wp_at_succ
attribute [local go_sem] Go.Sl.cell_sat Go.Sl.frozen_sat
def WalkOut (h : Th) (N : Nat) (F : Assn) (r : Res TS (List Ent)) (e : Ending) (w' : World) : Prop := match r with
 | .ok o s => e = .returned (.tuple #[]) ∧ o.length ≤ 1024 ∧ ∃ (a : Option Addr) (c : Nat), Sat (treeP h s * (Sl.block N TEs [.slice a o.length c] * (rw TEn 4 (.slice a o.length c) (ecs o) * F))) w'
 | .fault n s => e = .panicked (faultC n) ∧ ∃ v, Sat (treeP h s * (Sl.block N TEs [v] * F)) w'
 | .bad => False
def WalkC (f : Nat) : Prop := ∀ (h : Th) (s : TS) (no : Int) (o : List Ent) (N : Nat) (a : Option Addr) (c : Nat) (F : Assn) (w : World), f ≤ 21 → o.length ≤ 1024 → Sat (treeP h s * (Sl.block N TEs [.slice a o.length c] * (rw TEn 4 (.slice a o.length c) (ecs o) * F))) w → listTo tRead f no o s ≠ .bad →
 Calls Tryz.prog 109 #[.pointer (some ⟨h.t, 0, none⟩), .int .i64 no, .int .i64 (21 - (f : Int)), .func (Fn.func 110) #[] #[.pointer (some ⟨N, 0, none⟩)]] w (WalkOut h N F (listTo tRead f no o s))
set_option maxRecDepth 100000 in
set_option maxHeartbeats 1600000 in
theorem walk_zero : WalkC 0 := by
 intro h s no o N a c F w hf ho hs hb
 have hR : listTo tRead 0 no o s = .fault 13 s := rfl
 rw [hR]
 haveI := hs.i
 go_enter Tryz.func109, Tryz.ntmps109
 go_wp2
 exact ⟨rfl, rfl, .slice a o.length c, keep3 _ _ _⟩
set_option maxRecDepth 100000 in
set_option maxHeartbeats 6400000 in
theorem walk_succ (f : Nat) (ih : WalkC f) : WalkC (f + 1) := by
 intro h s no o N a c F w hf ho hs hb
 obtain ⟨R, hR⟩ : ∃ R, listTo tRead (f + 1) no o s = R := ⟨_, rfl⟩
 rw [hR] at hb ⊢
 have HB : Aside (R ≠ .bad) := hb
 have HI : Aside (WalkC f) := ih
 have HR : Aside (M.bind (tRead no) (fun n => if 1024 < (o ++ n.ents).length then M.fail 13 else kidsTo (listTo tRead f) n.kids (o ++ n.ents)) s = R) := hR
 have c1 := fun F w q => tread_any h s no F w q (bind_nb HR.out HB.out)
 have hdeep : ¬ (20 : Int) < 21 - ((f + 1 : Nat) : Int) := by omega
 obtain ⟨dp, hdp⟩ : ∃ d, (21 : Int) - ((f + 1 : Nat) : Int) = d := ⟨_, rfl⟩
 have HDP : Aside (dp + 1 = 21 - (f : Int)) := (by omega : dp + 1 = 21 - (f : Int))
 have hdb : -1 ≤ dp ∧ dp ≤ 20 := by omega
 rw [hdp] at hdeep ⊢
 have HO : Aside (o.length ≤ 1024) := ho
 haveI := hs.i
 clear hR hb ih hdp
 go_enter Tryz.func109, Tryz.ntmps109
 go_wp2_with fail
 with_reducible refine Calls.mono (c1 _ _ (takeI (treeP h s))) ?_
 rintro e w1 hx0
 obtain ⟨r1, hm1⟩ : ∃ r, r = tRead no s := ⟨_, rfl⟩
 rw [← hm1] at hx0
 rcases r1 with ⟨y, s2⟩ | ⟨er, s2⟩ | _
 rotate_left
 · obtain ⟨rfl, q1⟩ := hx0
   haveI := q1.i
   have hRR := bind_up HR.out hm1.symm
   subst hRR
   exact ⟨rfl, rfl, .slice a o.length c, keep3 _ _ _⟩
 · exact absurd (bind_bad HR.out hm1.symm) HB.out
 obtain ⟨v1, B2, rfl, ⟨hx, hma⟩, q1⟩ := hx0
 have hg0 := bind_go HR.out hm1.symm
 have HG : Aside ((if 1024 < (o ++ y.ents).length then M.fail 13 else kidsTo (listTo tRead f) y.kids (o ++ y.ents)) s2 = R) := hg0
 have hsee := fun F w q => see_any no y v1 N o a c B2 F w hx hma HO.out q
 have HMa : Aside (may y = true) := hma
 obtain ⟨se, sk, rfl, hE, hK⟩ := id hx
 obtain ⟨a1, c1', rfl, hE1, hE2⟩ := hE.v
 obtain ⟨a2, c2, rfl, hK1, hK2⟩ := ReadsR.v hK
 obtain ⟨hl1, hl2⟩ := may_len hma
 obtain ⟨ne, hne⟩ : ∃ ne, y.ents.length = ne := ⟨_, rfl⟩
 obtain ⟨nk, hnk⟩ : ∃ nk, y.kids.length = nk := ⟨_, rfl⟩
 have HK : Aside (ReadsK B2 (.slice a2 y.kids.length c2) y.kids ∧ y.kids.length = nk) := ⟨hK, hnk⟩
 rw [hne] at hl1 hE1 hsee ⊢
 rw [hnk] at hl2 hK1 hsee ⊢
 obtain ⟨N8, hN8⟩ : ∃ M, w1.heap.size = M := ⟨_, rfl⟩
 haveI := q1.i
 clear hE hK hma hne hnk hm1 HR c1 hx hg0
 go_wp2_with fail
 have q4 : Sat (Sl.block N TEs [.slice a o.length c] * (rw TEn 4 (.slice a o.length c) (ecs o) * (B2 * (treeP h s2 * (Sl.block N8 TNd [.bool y.leaf, .slice a1 ne c1', .slice a2 nk c2] * F))))) (w1.alloc (.cells #[.bool y.leaf, .slice a1 ne c1', .slice a2 nk c2] TNd)) := by
  rw [← hN8]
  exact satI_eq (by ac_rfl)
 try rw [hN8]
 clear hN8 q1
 with_reducible refine Calls.mono (hsee _ _ q4) ?_
 rintro e w3 ⟨a3, c3, h3⟩
 rcases h3 with ⟨hc, rfl, q5⟩ | ⟨hc, rfl, q5⟩
 · have hRR : R = .fault 13 s2 := by have := HG.out; rw [if_pos hc] at this; exact this.symm
   subst hRR
   haveI := q5.i
   exact ⟨rfl, rfl, .slice a3 (o ++ y.ents).length c3, keep3 _ _ _⟩
 · have hG2 := HG.out
   rw [if_neg hc] at hG2
   have HG2 : Aside (kidsTo (listTo tRead f) y.kids (o ++ y.ents) s2 = R) := hG2
   obtain ⟨o3, ho3⟩ : ∃ x, o ++ y.ents = x := ⟨_, rfl⟩
   rw [ho3] at hc q5 HG2
   haveI := q5.i
   have q6 : Sat (treeP h s2 * (Sl.block N TEs [.slice a3 o3.length c3] * (rw TEn 4 (.slice a3 o3.length c3) (ecs o3) * (B2 * (Sl.block N8 TNd [.bool y.leaf, .slice a1 ne c1', .slice a2 nk c2] * F))))) w3 := satI_eq (by ac_rfl)
   haveI := q6.i
   clear q4 q5 hsee hG2 ho3 HG
   go_wp2_with fail
   go_loopg [26] nk (fun g t26 wr => ∃ (i : Nat) (o4 : List Ent) (a4 : Option Addr) (c4 : Nat) (s4 : TS), t26 = .int .i64 i ∧ i ≤ nk ∧ Aside (g = nk - i ∧ o4.length ≤ 1024 ∧ kidsTo (listTo tRead f) (y.kids.drop i) o4 s4 = R) ∧
    Sat (treeP h s4 * (Sl.block N TEs [.slice a4 o4.length c4] * (rw TEn 4 (.slice a4 o4.length c4) (ecs o4) * (B2 * (Sl.block N8 TNd [.bool y.leaf, .slice a1 ne c1', .slice a2 nk c2] * F))))) wr)
   case atStart => exact ⟨0, o3, a3, c3, s2, rfl, by omega, ⟨rfl, by omega, HG2.out⟩, q6⟩
   case round =>
    obtain ⟨i, o4, a4, c4, s4, rfl, hi, A, q7⟩ := hrel
    clear q6
    haveI := q7.i
    by_cases hlt : i < nk
    · have hlt' : (i : Int) < nk := by omega
      obtain ⟨k, hk⟩ : ∃ k, y.kids[i]? = some k := ⟨_, List.getElem?_eq_getElem (by have := HK.out.2; omega)⟩
      obtain ⟨b, q, rfl, r1, r2, r3, r4⟩ := readsK_at HK.out.1 hk
      have hd : y.kids.drop i = k :: y.kids.drop (i + 1) := by
       obtain ⟨u1, u2⟩ := List.getElem?_eq_some_iff.1 hk
       rw [List.drop_eq_getElem_cons u1, u2]
      have hA := A.out.2.2
      rw [hd] at hA
      have HS : Aside (M.bind (listTo tRead f k.page o4) (kidsTo (listTo tRead f) (y.kids.drop (i + 1))) s4 = R) := hA
      have hrec := fun F w q => HI.out h s4 k.page o4 N a4 c4 F w (by omega) A.out.2.1 q (bind_nb HS.out HB.out)
      obtain ⟨m, hm⟩ : ∃ m, listTo tRead f k.page o4 s4 = m := ⟨_, rfl⟩
      have HM : Aside (listTo tRead f k.page o4 s4 = m) := hm
      rw [hm, ← HDP.out] at hrec
      have hw : IntKind.i64.wrap (dp + 1) = dp + 1 := IntWalk.i64_in _ (by omega)
      have hnb := bind_nb HS.out HB.out
      obtain ⟨k1, k2, k3, k4⟩ := k
      simp only at r1 r2 r3 r4 hrec HS HM
      clear hk hd hA hm
      go_wp2_with fail
      with_reducible refine Calls.mono (hrec _ _ (takeI3 (treeP h s4) (Sl.block N TEs [.slice a4 o4.length c4]) (rw TEn 4 (.slice a4 o4.length c4) (ecs o4)))) ?_
      rintro e w5 h5
      cases m with
      | bad => exact absurd HM.out (bind_nb HS.out HB.out)
      | fault er s5 =>
        obtain ⟨rfl, v5, q8⟩ := h5
        haveI := q8.i
        have hRR := bind_up HS.out HM.out
        subst hRR
        exact ⟨rfl, rfl, v5, keep3 _ _ _⟩
      | ok o5 s5 =>
        obtain ⟨rfl, ho5, a5, c5, q8⟩ := h5
        have hg5 := bind_go HS.out HM.out
        have HO5 : Aside (o5.length ≤ 1024 ∧ kidsTo (listTo tRead f) (y.kids.drop (i + 1)) o5 s5 = R) := ⟨ho5, hg5⟩
        haveI := q8.i
        clear hrec hnb hg5 ho5 HS HM q7
        go_wp2_with fail
        go_roundg (nk - (i + 1))
        case measure => have := A.out.1; omega
        case rel => exact ⟨i + 1, o5, a5, c5, s5, by go_num, by omega, ⟨rfl, HO5.out.1, HO5.out.2⟩, keep6 _ _ _ _ _ _⟩
    · have hlt' : ¬ (i : Int) < nk := by omega
      obtain rfl : i = nk := by omega
      have hA := A.out.2.2
      rw [List.drop_of_length_le (by rw [HK.out.2]; exact Nat.le_refl _)] at hA
      have hRR : R = .ok o4 s4 := hA.symm
      subst hRR
      have HO4 : Aside (o4.length ≤ 1024) := A.out.2.1
      clear hA A
      go_wp2
      go_end0
      exact ⟨rfl, HO4.out, a4, c4, keep4 _ _ _ _⟩
theorem walk_any (f : Nat) : WalkC f := by
 induction f with
 | zero => exact walk_zero
 | succ f ih => exact walk_succ f ih
end Go.Proofs.YtfhbmblbidcmmaaGreat
namespace Go.Tr
def kidsP {σ : Type} (g : Int → List Int → M σ (List Int)) : List Kd → List Int → M σ (List Int)
 | [], out => M.pure out
 | k :: ks, out => M.bind (g k.page out) (kidsP g ks)
def pagesTo {σ : Type} (rd : Int → M σ Nd) : Nat → Int → List Int → M σ (List Int)
 | 0, _, _ => M.fail 13
 | f + 1, no, l => M.bind (rd no) fun n => if l.contains no = true then M.pure l else if 1048576 < l.length ∨ no < 0 ∨ 1099511627776 ≤ no then (fun _ => .bad) else kidsP (pagesTo rd f) n.kids (l ++ [no])
end Go.Tr
namespace Go.Proofs.YtfhbmblbidcmmaaGreat
set_option linter.unusedSimpArgs false
set_option linter.unusedVariables false
open Go.RowKit Go.Sl Go.Dk Go.Tr
attribute [local go_sem ↓] Go.wp_at_zero Go.wp_at_succ
attribute [local go_sem] Go.Sl.cell_sat Go.Sl.frozen_sat
def WalkOutP (h : Th) (S M N : Nat) (F : Assn) (r : Res TS (List Int)) (e : Ending) (w' : World) : Prop := match r with
 | .ok o s => e = .returned (.tuple #[]) ∧ ∃ v, Sat (treeP h s * (pgsA S M N v o * F)) w'
 | .fault n s => e = .panicked (faultC n) ∧ ∃ v o, Sat (treeP h s * (pgsA S M N v o * F)) w'
 | .bad => False
def WalkP (f : Nat) : Prop := ∀ (h : Th) (s : TS) (no : Int) (o : List Int) (S M N : Nat) (v : Value) (F : Assn) (w : World), f ≤ 21 → Sat (treeP h s * (pgsA S M N v o * F)) w → pagesTo tRead f no o s ≠ .bad →
 Calls Tryz.prog 109 #[.pointer (some ⟨h.t, 0, none⟩), .int .i64 no, .int .i64 (21 - (f : Int)), .func (Fn.func 119) #[] #[.pointer (some ⟨S, 0, none⟩), .pointer (some ⟨N, 0, none⟩)]] w (WalkOutP h S M N F (pagesTo tRead f no o s))
set_option maxRecDepth 100000 in
set_option maxHeartbeats 1600000 in
theorem walkP_zero : WalkP 0 := by
 intro h s no o S M N v F w hf hs hb
 have hR : pagesTo tRead 0 no o s = .fault 13 s := rfl
 rw [hR]
 haveI := hs.i
 go_enter Tryz.func109, Tryz.ntmps109
 go_wp2
 exact ⟨rfl, rfl, v, o, keep2 _ _⟩
set_option maxRecDepth 100000 in
set_option maxHeartbeats 6400000 in
theorem walkP_succ (f : Nat) (ih : WalkP f) : WalkP (f + 1) := by
 intro h s no o S U N v F w hf hs hb
 obtain ⟨R, hR⟩ : ∃ R, pagesTo tRead (f + 1) no o s = R := ⟨_, rfl⟩
 rw [hR] at hb ⊢
 have HB : Aside (R ≠ .bad) := hb
 have HI : Aside (WalkP f) := ih
 have HR : Aside (M.bind (tRead no) (fun n => if o.contains no = true then M.pure o else if 1048576 < o.length ∨ no < 0 ∨ 1099511627776 ≤ no then (fun _ => .bad) else kidsP (pagesTo tRead f) n.kids (o ++ [no])) s = R) := hR
 have c1 := fun F w q => tread_any h s no F w q (bind_nb HR.out HB.out)
 have hdeep : ¬ (20 : Int) < 21 - ((f + 1 : Nat) : Int) := by omega
 obtain ⟨dp, hdp⟩ : ∃ d, (21 : Int) - ((f + 1 : Nat) : Int) = d := ⟨_, rfl⟩
 have HDP : Aside (dp + 1 = 21 - (f : Int)) := (by omega : dp + 1 = 21 - (f : Int))
 have hdb : -1 ≤ dp ∧ dp ≤ 20 := by omega
 rw [hdp] at hdeep ⊢
 haveI := hs.i
 clear hR hb ih hdp
 go_enter Tryz.func109, Tryz.ntmps109
 go_wp2_with fail
 with_reducible refine Calls.mono (c1 _ _ (takeI (treeP h s))) ?_
 rintro e w1 hx0
 obtain ⟨r1, hm1⟩ : ∃ r, r = tRead no s := ⟨_, rfl⟩
 rw [← hm1] at hx0
 rcases r1 with ⟨y, s2⟩ | ⟨er, s2⟩ | _
 rotate_left
 · obtain ⟨rfl, q1⟩ := hx0
   haveI := q1.i
   have hRR := bind_up HR.out hm1.symm
   subst hRR
   exact ⟨rfl, rfl, v, o, keep3 _ _ _⟩
 · exact absurd (bind_bad HR.out hm1.symm) HB.out
 obtain ⟨v1, B2, rfl, ⟨hx, hma⟩, q1⟩ := hx0
 have hg0 := bind_go HR.out hm1.symm
 have HG : Aside ((if o.contains no = true then M.pure o else if 1048576 < o.length ∨ no < 0 ∨ 1099511627776 ≤ no then (fun _ => .bad) else kidsP (pagesTo tRead f) y.kids (o ++ [no])) s2 = R) := hg0
 have HMa : Aside (may y = true) := hma
 obtain ⟨se, sk, rfl, hE, hK⟩ := id hx
 obtain ⟨a1, c1', rfl, hE1, hE2⟩ := hE.v
 obtain ⟨a2, c2, rfl, hK1, hK2⟩ := ReadsR.v hK
 obtain ⟨hl1, hl2⟩ := may_len hma
 obtain ⟨ne, hne⟩ : ∃ ne, y.ents.length = ne := ⟨_, rfl⟩
 obtain ⟨nk, hnk⟩ : ∃ nk, y.kids.length = nk := ⟨_, rfl⟩
 have HK : Aside (ReadsK B2 (.slice a2 y.kids.length c2) y.kids ∧ y.kids.length = nk) := ⟨hK, hnk⟩
 rw [hne] at hl1 hE1 ⊢
 rw [hnk] at hl2 hK1 ⊢
 have HX : Aside (ReadsN B2 (.agg #[.bool y.leaf, .slice a1 ne c1', .slice a2 nk c2]) y) := (by rw [← hne, ← hnk]; exact hx : ReadsN _ _ _)
 obtain ⟨N8, hN8⟩ : ∃ M, w1.heap.size = M := ⟨_, rfl⟩
 haveI := q1.i
 clear hE hK hma hne hnk hm1 HR c1 hx hg0
 go_wp2_with fail
 have q4 : Sat (pgsA S U N v o * (B2 * (treeP h s2 * (Sl.block N8 TNd [.bool y.leaf, .slice a1 ne c1', .slice a2 nk c2] * F)))) (w1.alloc (.cells #[.bool y.leaf, .slice a1 ne c1', .slice a2 nk c2] TNd)) := by
  rw [← hN8]
  exact satI_eq (by ac_rfl)
 try rw [hN8]
 clear hN8 q1
 cases hcc : o.contains no
 rotate_left
 · with_reducible refine Calls.mono (pg2_seen S U N no y _ v o B2 _ _ HX.out hcc q4) ?_
   rintro e w3 ⟨rfl, q5⟩
   have hRR : R = .ok o s2 := by have := HG.out; rw [if_pos hcc] at this; exact this.symm
   subst hRR
   haveI := q5.i
   clear q4
   go_wp2
   go_end0
   exact ⟨rfl, v, keep3 _ _ _⟩
 · have hG2 := HG.out
   rw [if_neg (by rw [hcc]; decide)] at hG2
   have hbd : ¬ (1048576 < o.length ∨ no < 0 ∨ 1099511627776 ≤ no) := fun hx => by rw [if_pos hx] at hG2; exact HB.out hG2.symm
   rw [if_neg hbd] at hG2
   have HG2 : Aside (kidsP (pagesTo tRead f) y.kids (o ++ [no]) s2 = R) := hG2
   with_reducible refine Calls.mono (pg2_new S U N no y _ v o B2 _ _ HX.out hcc (by omega) (by omega) (by omega) q4) ?_
   rintro e w3 ⟨rfl, v3, q5⟩
   obtain ⟨o3, ho3⟩ : ∃ x, o ++ [no] = x := ⟨_, rfl⟩
   rw [ho3] at q5 HG2
   haveI := q5.i
   have q6 : Sat (treeP h s2 * (pgsA S U N v3 o3 * (B2 * (Sl.block N8 TNd [.bool y.leaf, .slice a1 ne c1', .slice a2 nk c2] * F)))) w3 := satI_eq (by ac_rfl)
   haveI := q6.i
   clear q4 q5 hG2 ho3 HG hbd hcc
   go_wp2_with fail
   go_loopg [26] nk (fun g t26 wr => ∃ (i : Nat) (o4 : List Int) (v4 : Value) (s4 : TS), t26 = .int .i64 i ∧ i ≤ nk ∧ Aside (g = nk - i ∧ kidsP (pagesTo tRead f) (y.kids.drop i) o4 s4 = R) ∧
    Sat (treeP h s4 * (pgsA S U N v4 o4 * (B2 * (Sl.block N8 TNd [.bool y.leaf, .slice a1 ne c1', .slice a2 nk c2] * F)))) wr)
   case atStart => exact ⟨0, o3, v3, s2, rfl, by omega, ⟨rfl, HG2.out⟩, q6⟩
   case round =>
    obtain ⟨i, o4, v4, s4, rfl, hi, A, q7⟩ := hrel
    clear q6
    haveI := q7.i
    by_cases hlt : i < nk
    · have hlt' : (i : Int) < nk := by omega
      obtain ⟨k, hk⟩ : ∃ k, y.kids[i]? = some k := ⟨_, List.getElem?_eq_getElem (by have := HK.out.2; omega)⟩
      obtain ⟨b, q, rfl, r1, r2, r3, r4⟩ := readsK_at HK.out.1 hk
      have hd : y.kids.drop i = k :: y.kids.drop (i + 1) := by
       obtain ⟨u1, u2⟩ := List.getElem?_eq_some_iff.1 hk
       rw [List.drop_eq_getElem_cons u1, u2]
      have hA := A.out.2
      rw [hd] at hA
      have HS : Aside (M.bind (pagesTo tRead f k.page o4) (kidsP (pagesTo tRead f) (y.kids.drop (i + 1))) s4 = R) := hA
      have hrec := fun F w q => HI.out h s4 k.page o4 S U N v4 F w (by omega) q (bind_nb HS.out HB.out)
      obtain ⟨m, hm⟩ : ∃ m, pagesTo tRead f k.page o4 s4 = m := ⟨_, rfl⟩
      have HM : Aside (pagesTo tRead f k.page o4 s4 = m) := hm
      rw [hm, ← HDP.out] at hrec
      have hw : IntKind.i64.wrap (dp + 1) = dp + 1 := IntWalk.i64_in _ (by omega)
      have hnb := bind_nb HS.out HB.out
      obtain ⟨k1, k2, k3, k4⟩ := k
      simp only at r1 r2 r3 r4 hrec HS HM
      clear hk hd hA hm
      go_wp2_with fail
      with_reducible refine Calls.mono (hrec _ _ (takeI2 (treeP h s4) (pgsA S U N v4 o4))) ?_
      rintro e w5 h5
      cases m with
      | bad => exact absurd HM.out (bind_nb HS.out HB.out)
      | fault er s5 =>
        obtain ⟨rfl, v5, o5, q8⟩ := h5
        haveI := q8.i
        have hRR := bind_up HS.out HM.out
        subst hRR
        exact ⟨rfl, rfl, v5, o5, keep3 _ _ _⟩
      | ok o5 s5 =>
        obtain ⟨rfl, v5, q8⟩ := h5
        have hg5 := bind_go HS.out HM.out
        have HO5 : Aside (kidsP (pagesTo tRead f) (y.kids.drop (i + 1)) o5 s5 = R) := hg5
        haveI := q8.i
        clear hrec hnb hg5 HS HM q7
        go_wp2_with fail
        go_roundg (nk - (i + 1))
        case measure => have := A.out.1; omega
        case rel => exact ⟨i + 1, o5, v5, s5, by go_num, by omega, ⟨rfl, HO5.out⟩, keep5 _ _ _ _ _⟩
    · have hlt' : ¬ (i : Int) < nk := by omega
      obtain rfl : i = nk := by omega
      have hA := A.out.2
      rw [List.drop_of_length_le (by rw [HK.out.2]; exact Nat.le_refl _)] at hA
      have hRR : R = .ok o4 s4 := hA.symm
      subst hRR
      clear hA A
      go_wp2
      go_end0
      exact ⟨rfl, v4, keep3 _ _ _⟩
theorem walkP_any (f : Nat) : WalkP f := by
 induction f with
 | zero => exact walkP_zero
 | succ f ih => exact walkP_succ f ih
end Go.Proofs.YtfhbmblbidcmmaaGreat
namespace Go.Proofs.YtfhbmblbidcmmaaGreat
set_option linter.unusedSimpArgs false
set_option linter.unusedVariables false
open Go.RowKit Go.Sl Go.Dk Go.Tr
attribute [local go_sem ↓] Go.wp_at_zero Go.wp_at_succ
attribute [local go_sem] Go.Sl.cell_sat Go.Sl.frozen_sat
def ListOut (h : Th) (F : Assn) (r : Res TS (List Ent)) (e : Ending) (w' : World) : Prop := match r with
 | .ok l s => ∃ (a : Option Addr) (c : Nat), e = .returned (.tuple #[.slice a l.length c, .int .i64 0]) ∧ Sat (rw TEn 4 (.slice a l.length c) (ecs l) * (treeP h s * F)) w'
 | .fault n s => e = .returned (.tuple #[.slice none 0 0, .int .i64 n]) ∧ Sat (treeP h s * F) w'
 | .bad => False
set_option maxRecDepth 100000 in
set_option maxHeartbeats 3200000 in
theorem list_tany (h : Th) (s : TS) (root : Int) (F : Assn) (w : World) (hs : Sat (treeP h s * F) w) (hb : tList tRead root s ≠ .bad) :
 Calls Tryz.prog 44 #[.pointer (some ⟨h.t, 0, none⟩), .int .i64 root] w (ListOut h F (tList tRead root s)) := by
 have hmf : ∀ (fn : Fn) (first cap : Array Value) (w : World), (Instr.makeFunc fn first cap).run Tryz.prog w = .ok (.func fn first cap) w := fun _ _ _ _ => rfl
 obtain ⟨R, hR⟩ : ∃ R, tList tRead root s = R := ⟨_, rfl⟩
 rw [hR] at hb ⊢
 have HB : Aside (R ≠ .bad) := hb
 unfold tList at hR
 have h0 := hs.rw_nil (e := TEn) (s := 4)
 haveI := h0.i
 clear hb hs
 by_cases hz : root = 0
 · rw [if_pos hz] at hR
   have hRR : R = .ok [] s := hR.symm
   subst hRR
   subst hz
   clear hR HB
   go_enter_defers Tryz.func44, Tryz.ntmps44
   go_wp2
   refine leaves_cons (f := 108) (args := #[.pointer (some ⟨w.heap.size, 0, none⟩), .pointer (some ⟨w.heap.size + 1, 0, none⟩)]) (by simp) (by simp [go_sem]) ?_
   refine (listC_idle _ _ _).mono ?_
   rintro e u' w'' ⟨rfl, rfl, rfl⟩
   simp [Leaves, settle, results, Tryz.results44, go_sem]
   refine ⟨none, 0, rfl, ?_⟩
   show Sat (rw TEn 4 (.slice none 0 0) [] * (treeP h s * F)) _
   exact keep3 _ _ _
 · rw [if_neg hz] at hR
   have hz' : ((root : Int) == 0) = false := by simpa using hz
   have hwk := fun N F w q => walk_any 21 h s root [] N none 0 F w (by omega) (by simp) q (by rw [hR]; exact HB.out)
   rw [hR, show (21 : Int) - ((21 : Nat) : Int) = 0 from rfl] at hwk
   obtain ⟨N, hN⟩ : ∃ N, w.heap.size = N := ⟨_, rfl⟩
   clear hR
   go_enter_defers Tryz.func44, Tryz.ntmps44
   go_wp2_with fail
   have q1 : Sat (treeP h s * (Sl.block N TEs [.slice none 0 0] * (rw TEn 4 (.slice none 0 0) [] * (Sl.block (N + 1) TEr [.int .i64 0] * F)))) ((w.alloc (.cells #[.slice none 0 0] TEs)).alloc (.cells #[.int .i64 0] TEr)) := by
    rw [← hN]
    exact satI_eq (by ac_rfl)
   try rw [hN]
   clear hN
   with_reducible refine Calls.mono (hwk N _ _ q1) ?_
   rintro e w2 h2
   cases R with
   | bad => exact absurd rfl HB.out
   | fault er s2 =>
     obtain ⟨rfl, v2, q2⟩ := h2
     haveI := q2.i
     show bodyPostD _ _ _ (.panic (faultC er)) _ w2
     refine leaves_cons (f := 108) (args := #[.pointer (some ⟨N, 0, none⟩), .pointer (some ⟨N + 1, 0, none⟩)]) (by simp) (by simp [go_sem]) ?_
     refine (listC_caught N (N + 1) er _ _ _ w2 (takeI2 (Sl.block N TEs [v2]) (Sl.block (N + 1) TEr [.int .i64 0]))).mono ?_
     rintro e u' w3 ⟨rfl, rfl, q3⟩
     haveI := q3.i
     simp [Leaves, settle, results, Tryz.results44, go_sem]
     exact ⟨rfl, keep2 _ _⟩
   | ok l s2 =>
     obtain ⟨rfl, hl, a2, c2, q2⟩ := h2
     have HLL : Aside (l.length ≤ 1024) := hl
     obtain ⟨n, hn⟩ : ∃ n, l.length = n := ⟨_, rfl⟩
     have HNN : Aside (l.length = n) := hn
     rw [hn] at q2
     haveI := q2.i
     clear q1 hwk hn hl
     go_wp2
     refine leaves_cons (f := 108) (args := #[.pointer (some ⟨N, 0, none⟩), .pointer (some ⟨N + 1, 0, none⟩)]) (by simp) (by simp [go_sem]) ?_
     refine (listC_idle _ _ _).mono ?_
     rintro e u' w3 ⟨rfl, rfl, rfl⟩
     simp [Leaves, settle, results, Tryz.results44, go_sem]
     refine ⟨a2, c2, ?_, ?_⟩
     · rw [HNN.out]
     · rw [HNN.out]
       exact keep3 _ _ _
end Go.Proofs.YtfhbmblbidcmmaaGreat
namespace Go.Proofs.YtfhbmblbidcmmaaGreat
set_option linter.unusedSimpArgs false
set_option linter.unusedVariables false
open Go.RowKit Go.Sl Go.Dk Go.Tr
attribute [local go_sem ↓] Go.wp_at_zero Go.wp_at_succ
attribute [local go_sem] Go.Sl.cell_sat Go.Sl.frozen_sat
abbrev TIs : TypeId := 45
set_option maxRecDepth 100000 in
set_option maxHeartbeats 1600000 in
theorem pgC_idle (N E : Nat) (w : World) :
 CallsD Tryz.prog 118 #[.pointer (some ⟨N, 0, none⟩), .pointer (some ⟨E, 0, none⟩)] .returning w fun e u' w' => e = .returned (.tuple #[]) ∧ u' = .returning ∧ w' = w := by
 refine callsD_of_wpS Tryz.func118 rfl fun c₀ cs hu => ?_
 apply wpS_seq
 apply wpS_region
 simp [wpOpsS, go_sem, recoverD, hu, Tryz.ntmps118, Exit.thenS]
 apply wpS_seq
 apply wpS_region
 simp [wpOpsS, go_sem, Exit.thenS]
 refine wpS_cond (t := false) (by simp [Act.eval, Array.replicate]) ?_
 simp only [Bool.false_eq_true, if_false]
 refine wpS_of_wp (wp_skip ?_)
 cases c₀
 simp_all [bodyPostS, results, Tryz.results118, Exit.thenS]
set_option maxRecDepth 100000 in
set_option maxHeartbeats 1600000 in
theorem pgC_caught (N E : Nat) (er : Int) (a b : Value) (F : Assn) (w : World) (hs : Sat (Sl.block N TIs [a] * (Sl.block E TEr [b] * F)) w) :
 CallsD Tryz.prog 118 #[.pointer (some ⟨N, 0, none⟩), .pointer (some ⟨E, 0, none⟩)] (.panicking (faultC er)) w fun e u' w' => e = .returned (.tuple #[]) ∧ u' = .panicking [{ v := .iface TFa (.agg #[.int .i64 er]), recovered := true }] ∧ Sat (Sl.block N TIs [.slice none 0 0] * (Sl.block E TEr [.int .i64 er] * F)) w' := by
 haveI := hs.i
 refine callsD_of_wpS Tryz.func118 rfl fun c₀ cs hu => ?_
 unfold faultC at hu
 apply wpS_seq
 apply wpS_region
 simp [wpOpsS, go_sem, recoverD, hu, Tryz.ntmps118, Exit.thenS]
 apply wpS_seq
 apply wpS_region
 simp [wpOpsS, go_sem, Exit.thenS]
 refine wpS_cond (t := true) (by simp [Act.eval, Array.replicate]) ?_
 simp only [if_true]
 refine wpS_of_wp ?_
 go_wp2_with fail
 refine Calls.mono (given_any er _ _ hs) ?_
 rintro en w2 ⟨rfl, q2⟩
 haveI := q2.i
 go_wp2
 simp [bodyPostS, results, Tryz.results118]
 exact satI_eq (by ac_rfl)
end Go.Proofs.YtfhbmblbidcmmaaGreat
namespace Go.Tr
set_option linter.unusedSimpArgs false
set_option linter.unusedVariables false
section
variable {σ : Type} (P : List Int → Prop)
theorem kidsP_inv {g : Int → List Int → M σ (List Int)} (hg : ∀ no l s l' s', P l → g no l s = .ok l' s' → P l') : ∀ (ks : List Kd) (l : List Int) (s : σ) (l' : List Int) (s' : σ), P l → kidsP g ks l s = .ok l' s' → P l'
 | [], l, s, l', s', h, e => by
  have : (Res.ok l s : Res σ (List Int)) = .ok l' s' := e
  cases this; exact h
 | k :: ks, l, s, l', s', h, e => by
   have e' : M.bind (g k.page l) (kidsP g ks) s = .ok l' s' := e
   cases hm : g k.page l s with
   | ok a s1 => exact kidsP_inv hg ks a s1 l' s' (hg _ _ _ _ _ h hm) (by have := e'; unfold M.bind at this; rw [hm] at this; exact this)
   | fault n s1 => unfold M.bind at e'; rw [hm] at e'; cases e'
   | bad => unfold M.bind at e'; rw [hm] at e'; cases e'
theorem pagesTo_inv {rd : Int → M σ Nd} (hP : ∀ l no, P l → l.contains no = false → l.length ≤ 1048576 → 0 ≤ no → no < 1099511627776 → P (l ++ [no])) : ∀ (f : Nat) (no : Int) (l : List Int) (s : σ) (l' : List Int) (s' : σ), P l → pagesTo rd f no l s = .ok l' s' → P l'
 | 0, no, l, s, l', s', h, e => by cases e
 | f + 1, no, l, s, l', s', h, e => by
   unfold pagesTo M.bind at e
   cases hm : rd no s with
   | ok n s1 =>
     rw [hm] at e
     have e2 : (if l.contains no = true then M.pure l else if 1048576 < l.length ∨ no < 0 ∨ 1099511627776 ≤ no then (fun _ => .bad) else kidsP (pagesTo rd f) n.kids (l ++ [no])) s1 = .ok l' s' := e
     by_cases hc : l.contains no = true
     · rw [if_pos hc] at e2
       have : (Res.ok l s1 : Res σ (List Int)) = .ok l' s' := e2
       cases this; exact h
     · rw [if_neg hc] at e2
       by_cases hb : 1048576 < l.length ∨ no < 0 ∨ 1099511627776 ≤ no
       · rw [if_pos hb] at e2; cases e2
       · rw [if_neg hb] at e2
         exact kidsP_inv P (fun no l s l' s' h e => pagesTo_inv hP f no l s l' s' h e) n.kids (l ++ [no]) s1 l' s' (hP l no h (by simpa using hc) (by omega) (by omega) (by omega)) e2
   | fault n s1 => rw [hm] at e; cases e
   | bad => rw [hm] at e; cases e
def pagesOk (l : List Int) : Prop := l.length ≤ 1048577 ∧ ∀ x ∈ l, 0 ≤ x ∧ x < 1099511627776
theorem pagesTo_ok {rd : Int → M σ Nd} {f : Nat} {no : Int} {s : σ} {l' : List Int} {s' : σ} (e : pagesTo rd f no [] s = .ok l' s') : pagesOk l' := by
 refine pagesTo_inv pagesOk ?_ f no [] s l' s' ⟨by simp, by simp⟩ e
 intro l no h hc hl h0 h1
 refine ⟨by simp; omega, fun x hx => ?_⟩
 rcases List.mem_append.1 hx with hx | hx
 · exact h.2 x hx
 · rw [List.mem_singleton.1 hx]; exact ⟨h0, h1⟩
end
end Go.Tr
namespace Go.Proofs.YtfhbmblbidcmmaaGreat
set_option linter.unusedSimpArgs false
set_option linter.unusedVariables false
open Go.Tr
def numsR (p : Int × Int) : List Int := (List.range (p.2 - p.1).toNat).map fun k => p.1 + (k : Nat)
def nums (l : List (Int × Int)) : List Int := l.flatMap numsR
theorem numsR_mem (p : Int × Int) (x : Int) : x ∈ numsR p ↔ p.1 ≤ x ∧ x < p.2 := by
 unfold numsR
 constructor
 · intro h
   obtain ⟨k, hk, rfl⟩ := List.mem_map.1 h
   rw [List.mem_range] at hk
   omega
 · intro ⟨h1, h2⟩
   exact List.mem_map.2 ⟨(x - p.1).toNat, List.mem_range.2 (by omega), by omega⟩
theorem nums_mem (l : List (Int × Int)) (x : Int) : x ∈ nums l ↔ Cov l x := by
 unfold nums Cov
 rw [List.mem_flatMap]
 constructor
 · rintro ⟨p, hp, h⟩; exact ⟨p, hp, (numsR_mem p x).1 h⟩
 · rintro ⟨p, hp, h⟩; exact ⟨p, hp, (numsR_mem p x).2 h⟩
theorem nums_sorted {l : List (Int × Int)} (hn : NormL l) : (nums l).Pairwise (· < ·) := by
 induction l with
 | nil => exact List.Pairwise.nil
 | cons p l ih =>
   have h1 := ih ⟨fun q hq => hn.1 q (List.mem_cons_of_mem _ hq), (List.pairwise_cons.1 hn.2).2⟩
   show (numsR p ++ nums l).Pairwise _
   refine List.pairwise_append.2 ⟨?_, h1, fun x hx y hy => ?_⟩
   · unfold numsR
     rw [List.pairwise_map]
     exact List.pairwise_lt_range.imp fun h => by omega
   · have h2 := (numsR_mem p x).1 hx
     obtain ⟨q, hq, h3⟩ := (nums_mem l y).1 hy
     have := (List.pairwise_cons.1 hn.2).1 q hq
     omega
theorem numsR_snoc {y x : Int} (h : y ≤ x) : numsR (y, x) ++ [x] = numsR (y, x + 1) := by
 unfold numsR
 simp only
 rw [show (x + 1 - y).toNat = (x - y).toNat + 1 by omega, List.range_succ, List.map_append, List.map_singleton]
 congr 2
 omega
theorem numsR_nil (y : Int) : numsR (y, y) = [] := by simp [numsR]
theorem numsR_len (y z : Int) : (numsR (y, z)).length = (z - y).toNat := by simp [numsR]
theorem nums_take {rs : List (Int × Int)} {i : Nat} {p : Int × Int} (h : rs[i]? = some p) : nums (rs.take (i + 1)) = nums (rs.take i) ++ numsR p := by
 unfold nums
 rw [List.take_add_one, h]
 simp [List.flatMap_append]
theorem nums_take_le (rs : List (Int × Int)) (i : Nat) : (nums (rs.take i)).length ≤ (nums rs).length := by
 conv => rhs; rw [← List.take_append_drop i rs]
 unfold nums
 rw [List.flatMap_append, List.length_append]
 omega
def RsOk (rs : List (Int × Int)) : Prop := ∀ (i : Nat) (y z : Int), rs[i]? = some (y, z) → 0 ≤ y ∧ y < z ∧ z ≤ 1099511627776 ∧ (nums (rs.take i)).length + (z - y).toNat ≤ 1048577
theorem rsOk_of {rs : List (Int × Int)} (hn : NormL rs) (hb : ∀ x ∈ nums rs, 0 ≤ x ∧ x < 1099511627776) (hl : (nums rs).length ≤ 1048577) : RsOk rs := by
 intro i y z h
 have hm := List.mem_of_getElem? h
 have h1 := hn.1 _ hm
 simp only at h1
 have h2 := hb y ((nums_mem rs y).2 ⟨_, hm, by simp only; omega, h1⟩)
 have h3 := hb (z - 1) ((nums_mem rs (z - 1)).2 ⟨_, hm, by simp only; omega, by simp only; omega⟩)
 refine ⟨h2.1, h1, by omega, ?_⟩
 have h4 := nums_take_le rs (i + 1)
 rw [nums_take h, List.length_append, numsR_len] at h4
 omega
theorem normL_le {l : List (Int × Int)} (h : NormL l) : l.length ≤ (nums l).length := by
 induction l with
 | nil => simp
 | cons p l ih =>
   have h1 := ih ⟨fun q hq => h.1 q (List.mem_cons_of_mem _ hq), (List.pairwise_cons.1 h.2).2⟩
   have h2 := h.1 p List.mem_cons_self
   have h3 : (nums (p :: l)).length = (p.2 - p.1).toNat + (nums l).length := by simp [nums, numsR]
   rw [h3, List.length_cons]
   omega
end Go.Proofs.YtfhbmblbidcmmaaGreat
