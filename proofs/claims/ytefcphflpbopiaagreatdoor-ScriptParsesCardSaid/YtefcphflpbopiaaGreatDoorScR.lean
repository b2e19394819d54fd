/-
  Walk of the document's answer for lines: Parse.
-/
import Derived.Test.YtefcphflpbopiaaGreatDoorScQ
namespace Go.Proofs.YtefcphflpbopiaaGreatDoor
set_option linter.unusedSimpArgs false
set_option linter.unusedVariables false
open Go.RowKit Go.Sl Go.Sc
attribute [local go_sem] Go.Sl.cell_sat Go.Sl.frozen_sat Go.Sc.str_toList Go.Sc.str_size Go.Sc.str_extract
theorem parRR_no {l : Bs} {r : Option Cmd} (h : parseR l = r) (h2 : parseR l = none) (w' : World) : ParR r (.returned (.tuple #[zeroC, .int .i64 16])) w' := .inr ⟨h ▸ h2, rfl⟩

set_option maxHeartbeats 3200000 in
theorem refParse_any (l : Bs) (hmax : l.length ≤ 1000000000) (w : World) :
    Calls Tryz.prog 6 #[.string (str l)] w fun e w' => ParR (parseR l) e w' ∧ Below w.heap.size w w' := by
  have HCut : Aside (∀ (l : Bs), l.length ≤ 1000000000 → ∀ (w : World), Calls Tryz.prog 15 #[.string (str l)] w fun e w' => e = .returned (.tuple #[.string (str (cut l).1), .string (str (cut l).2.1), .bool (cut l).2.2]) ∧ Below w.heap.size w w') := fun l hl w => first_any l (by omega) w
  have HNum : Aside (∀ (l : Bs) (w : World), Calls Tryz.prog 17 #[.string (str l)] w fun e w' => NumRR (numR l) e ∧ w' = w) := refNumber_any
  have HUnq : Aside (∀ (s : Bs), s.length ≤ 1000000000 → ∀ (w : World), Calls Tryz.prog 18 #[.string (str s)] w fun e w' => UnqR (unqBy escR s) w e w' ∧ Below w.heap.size w w') := refUnquoted_any
  have HMay : Aside (∀ (wd : Bs) (v1 : Value) (nums : List Int) (ta : Option Addr) (tl tc : Nat) (w : World), Zat w v1 nums → Calls Tryz.prog 19 #[cmdV wd v1 (.slice ta tl tc)] w fun e w' => e = .returned (.bool (mayN wd nums tl)) ∧ Below w.heap.size w w') := refMay_any
  obtain ⟨r, hr⟩ : ∃ r, parseR l = r := ⟨_, rfl⟩
  have HR : Aside (parseR l = r) := hr
  rw [hr]
  clear hr
  have hask := refAsks_any (cut l).1
  obtain ⟨i0, E⟩ := elemIn
  cases hqa : asks (cut l).1 with
  | none =>
    rw [hqa] at hask
    have HN : Aside (parseR l = none) := parse_no hqa
    have hask' : ∀ w, Calls Tryz.prog 16 #[.string (str (cut l).1)] w fun e w' => e = .returned (.tuple #[.int .i64 (-1), .int .i64 (-1), .bool false]) ∧ Below w.heap.size w w' := hask
    have hmn : mayN (cut l).1 [] 0 = false := by unfold mayN; rw [hqa]
    clear hask hqa
    go_enter Tryz.func6, Tryz.ntmps6
    go_wp2_with fail
    refine (HCut.out l hmax _).mono ?_
    rintro e w1 ⟨rfl, hb1⟩
    have hs1 : Sat (cblk w.heap.size [] (.slice none 0 0) (.slice none 0 0) * old w) w1 := ((Sat.old_self w).alloc #[Value.string { data := #[] }, Value.slice none 0 0, Value.slice none 0 0] TCm).below hb1
    have hsA : Sat (cblk w1.heap.size (cut l).1 (.slice none 0 0) (.slice none 0 0) * (cblk w.heap.size [] (.slice none 0 0) (.slice none 0 0) * old w)) (w1.alloc (Obj.cells #[Value.string (str (cut l).fst), Value.slice none 0 0, Value.slice none 0 0] TCm)) := hs1.alloc #[Value.string (str (cut l).fst), Value.slice none 0 0, Value.slice none 0 0] TCm
    go_wp2_with fail
    refine (hask' _).mono ?_
    rintro e w2 ⟨rfl, hb2⟩
    have hs2 := hsA.below hb2
    clear hask' hs1 hsA
    have HS : Aside (Sat (cblk w1.heap.size (cut l).1 (.slice none 0 0) (.slice none 0 0) * (cblk w.heap.size [] (.slice none 0 0) (.slice none 0 0) * old w)) w2) := hs2
    haveI := hs2.i
    obtain ⟨more, hmore⟩ : ∃ m, (cut l).2.2 = m := ⟨_, rfl⟩
    rw [hmore]
    clear hmore
    go_wp2
    go_loopg [5, 6] 0 (fun g t5 t6 wr => t5 = .string (str (cut l).2.1) ∧ t6 = .bool more ∧ wr = w2)
    case atStart => exact ⟨rfl, rfl, rfl⟩
    case round =>
      obtain ⟨rfl, rfl, rfl⟩ := hrel
      cases more with
      | true =>
        go_wp2
        (try simp only [Exit.inBlock, Exit.then])
        exact fin_ret rfl rfl rfl rfl (satI_eq (B := cblk w.heap.size [] (.slice none 0 0) (.slice none 0 0) * (cblk w1.heap.size (cut l).1 (.slice none 0 0) (.slice none 0 0) * old w)) (by delta cblk; show _ = block w.heap.size TCm [.string (str []), .slice none 0 0, .slice none 0 0] * _; ac_rfl)) (parRR_no HR.out HN.out _)
      | false =>
        go_wp2_with fail
        refine (HMay.out (cut l).1 (.slice none 0 0) [] none 0 0 _ (Zat.nil _)).mono ?_
        rw [hmn]
        rintro e w3 ⟨rfl, hb3⟩
        have hs3 := hs2.below hb3
        haveI := hs3.i
        go_wp2
        (try simp only [Exit.inBlock, Exit.then])
        exact fin_ret rfl rfl rfl rfl (satI_eq (B := cblk w.heap.size [] (.slice none 0 0) (.slice none 0 0) * (cblk w1.heap.size (cut l).1 (.slice none 0 0) (.slice none 0 0) * old w)) (by delta cblk; show _ = block w.heap.size TCm [.string (str []), .slice none 0 0, .slice none 0 0] * _; ac_rfl)) (parRR_no HR.out HN.out _)
  | some y =>
    obtain ⟨a, b, t⟩ := y
    rw [hqa] at hask
    have HA2 : Aside (asks (cut l).1 = some (a, b, t)) := hqa
    have h4 : b ≤ 64 := by
      have hb : ∀ p ∈ tab, p.2.2.1 ≤ 64 := by decide
      exact hb ((cut l).1, a, b, t) (lookup_mem hqa)
    have hask' : ∀ w, Calls Tryz.prog 16 #[.string (str (cut l).1)] w fun e w' => e = .returned (.tuple #[.int .i64 a, .int .i64 b, .bool t]) ∧ Below w.heap.size w w' := hask
    clear hask hqa
    go_enter Tryz.func6, Tryz.ntmps6
    go_wp2_with fail
    refine (HCut.out l hmax _).mono ?_
    rintro e w1 ⟨rfl, hb1⟩
    have hs1 : Sat (cblk w.heap.size [] (.slice none 0 0) (.slice none 0 0) * old w) w1 := ((Sat.old_self w).alloc #[Value.string { data := #[] }, Value.slice none 0 0, Value.slice none 0 0] TCm).below hb1
    have hsA : Sat (cblk w1.heap.size (cut l).1 (.slice none 0 0) (.slice none 0 0) * (cblk w.heap.size [] (.slice none 0 0) (.slice none 0 0) * old w)) (w1.alloc (Obj.cells #[Value.string (str (cut l).fst), Value.slice none 0 0, Value.slice none 0 0] TCm)) := hs1.alloc #[Value.string (str (cut l).fst), Value.slice none 0 0, Value.slice none 0 0] TCm
    go_wp2_with fail
    refine (hask' _).mono ?_
    rintro e w2 ⟨rfl, hb2⟩
    have hs2 := hsA.below hb2
    clear hask' hs1 hsA
    go_wp2
    go_loopg [5, 6] b (fun g t5 t6 wr => ∃ (rest : Bs) (more : Bool) (nums : List Int) (a1 : Option Addr) (c1 : Nat), t5 = .string (str rest) ∧ t6 = .bool more ∧ Aside (g = b - nums.length ∧ nums.length ≤ b ∧ rest.length ≤ l.length ∧ numbers numR b (cut l).2.1 (cut l).2.2 = (numbers numR (b - nums.length) rest more).map fun x => (nums ++ x.1, x.2.1, x.2.2)) ∧ Sat (rw TIn 1 (.slice a1 nums.length c1) (zs nums) * (cblk w1.heap.size (cut l).1 (.slice a1 nums.length c1) (.slice none 0 0) * (cblk w.heap.size [] (.slice none 0 0) (.slice none 0 0) * old w))) wr)
    case atStart =>
      refine ⟨(cut l).2.1, (cut l).2.2, [], none, 0, rfl, rfl, ⟨rfl, by simp, (cut_len l).2, ?_⟩, Sat.rw_nil hs2⟩
      simp
    case round =>
      obtain ⟨rest, more, nums, a1, c1, rfl, rfl, A, hsr⟩ := hrel
      clear hs2
      haveI := hsr.i
      have hrl : rest.length ≤ 1000000000 := Nat.le_trans A.out.2.2.1 hmax
      have hnl : nums.length ≤ 64 := Nat.le_trans A.out.2.1 h4
      cases more with
      | false =>
        have HQ : Aside (numbers numR b (cut l).2.1 (cut l).2.2 = some (nums, rest, false)) := (by rw [A.out.2.2.2, numbers_stop (.inl rfl)]; simp : _ = _)
        cases t with
        | true =>
          have HN : Aside (parseR l = none) := ((parse_at (unq := unqBy escR) HA2.out HQ.out).trans (by simp) : _ = _)
          go_wp2
          (try simp only [Exit.inBlock, Exit.then])
          exact fin_ret rfl rfl rfl rfl (satI_eq (B := cblk w.heap.size [] (.slice none 0 0) (.slice none 0 0) * ((rw TIn 1 (.slice a1 nums.length c1) (zs nums) * cblk w1.heap.size (cut l).1 (.slice a1 nums.length c1) (.slice none 0 0)) * old w)) (by delta cblk; show _ = block w.heap.size TCm [.string (str []), .slice none 0 0, .slice none 0 0] * _; ac_rfl)) (parRR_no HR.out HN.out _)
        | false =>
          have hmy := HMay.out (cut l).1 (.slice a1 nums.length c1) nums none 0 0 wr (Zat.rw hsr)
          have hmn := may_n (cut l).1 nums []
          have HP : Aside (parseR l = if may ⟨(cut l).1, nums, []⟩ then some ⟨(cut l).1, nums, []⟩ else none) := ((parse_at (unq := unqBy escR) HA2.out HQ.out).trans (by simp) : _ = _)
          rw [List.length_nil] at hmn
          cases hm : mayN (cut l).1 nums 0 with
          | true =>
            rw [hm] at hmy hmn
            have HN : Aside (parseR l = some ⟨(cut l).1, nums, []⟩) := (by rw [HP.out, hmn]; rfl : _ = _)
            clear hmn hm
            go_wp2_with fail
            refine hmy.mono ?_
            rintro e w2 ⟨rfl, hb2⟩
            have hs2 := hsr.below hb2
            haveI := hs2.i
            clear hmy hsr
            go_wp2
            (try simp only [Exit.inBlock, Exit.then])
            exact fin_ret rfl rfl rfl rfl (satI_eq (B := cblk w.heap.size (cut l).1 (.slice a1 nums.length c1) (.slice none 0 0) * ((rw TIn 1 (.slice a1 nums.length c1) (zs nums) * cblk w1.heap.size (cut l).1 (.slice a1 nums.length c1) (.slice none 0 0)) * old w)) (by delta cblk; show _ = block w.heap.size TCm [.string (str (cut l).1), .slice a1 nums.length c1, (.slice none 0 0)] * _; ac_rfl)) (.inl ⟨⟨(cut l).1, nums, []⟩, _, HR.out.symm.trans HN.out, rfl, ⟨_, _, rfl, Zat.rw (takeI (rw TIn 1 (.slice a1 nums.length c1) (zs nums))), Byt.nil _⟩⟩)
          | false =>
            rw [hm] at hmy hmn
            have HN : Aside (parseR l = none) := (by rw [HP.out, hmn]; rfl : _ = _)
            clear hmn hm
            go_wp2_with fail
            refine hmy.mono ?_
            rintro e w2 ⟨rfl, hb2⟩
            have hs2 := hsr.below hb2
            haveI := hs2.i
            clear hmy hsr
            go_wp2
            (try simp only [Exit.inBlock, Exit.then])
            exact fin_ret rfl rfl rfl rfl (satI_eq (B := cblk w.heap.size [] (.slice none 0 0) (.slice none 0 0) * ((rw TIn 1 (.slice a1 nums.length c1) (zs nums) * cblk w1.heap.size (cut l).1 (.slice a1 nums.length c1) (.slice none 0 0)) * old w)) (by delta cblk; show _ = block w.heap.size TCm [.string (str []), .slice none 0 0, .slice none 0 0] * _; ac_rfl)) (parRR_no HR.out HN.out _)
      | true =>
        by_cases hn : nums.length < b
        · have hn' : (nums.length : Int) < b := by omega
          go_wp2_with fail
          refine (HCut.out rest hrl _).mono ?_
          rintro e w2 ⟨rfl, hb2⟩
          have hs2 := hsr.below hb2
          haveI := hs2.i
          go_wp2_with fail
          refine (HNum.out (cut rest).1 w2).mono ?_
          rintro e w3 ⟨⟨n, okn, rfl, hq⟩, rfl⟩
          clear hsr
          obtain ⟨k, hk⟩ : ∃ k, b - nums.length = k + 1 := ⟨b - nums.length - 1, by omega⟩
          cases okn with
          | false =>
            have HN : Aside (parseR l = none) := (by
              refine parse_bad HA2.out ?_
              have hq' : numR (cut rest).1 = none := hq
              rw [A.out.2.2.2, hk, numbers_none hq']
              rfl : _ = _)
            clear hk hq
            go_wp2
            (try simp only [Exit.inBlock, Exit.then])
            exact fin_ret rfl rfl rfl rfl (satI_eq (B := cblk w.heap.size [] (.slice none 0 0) (.slice none 0 0) * ((rw TIn 1 (.slice a1 nums.length c1) (zs nums) * cblk w1.heap.size (cut l).1 (.slice a1 nums.length c1) (.slice none 0 0)) * old w)) (by delta cblk; show _ = block w.heap.size TCm [.string (str []), .slice none 0 0, .slice none 0 0] * _; ac_rfl)) (parRR_no HR.out HN.out _)
          | true =>
            have HQ : Aside (numbers numR b (cut l).2.1 (cut l).2.2 = (numbers numR (b - (nums ++ [n]).length) (cut rest).2.1 (cut rest).2.2).map fun x => ((nums ++ [n]) ++ x.1, x.2.1, x.2.2)) := (by
              have hq' : numR (cut rest).1 = some n := hq
              rw [A.out.2.2.2, hk, numbers_some hq', List.length_append, show b - (nums.length + [n].length) = k by simp; omega]
              cases numbers numR k (cut rest).2.1 (cut rest).2.2 <;> simp : _ = _)
            clear hk hq
            go_wp2_with (at_builtin; refine wpl_append_same E rfl (.tmp 55) (.tmp 57) rfl rfl rfl (takeI (rw TIn 1 (.slice a1 nums.length c1) (zs nums))) (Src.one_new (b := w3.heap.size) (e := TIn) (v := .int .i64 n) (takeI (Sl.block w3.heap.size TIn [.int .i64 n])) rfl) (by unfold maxLen; omega) (by omega) ?_; intro a4 c4 w4 hs4 hnn; clear hnn; haveI := hs4.i)
            go_wp2
            go_roundg (b - (nums.length + 1))
            case measure => have := A.out.1; omega
            case rel => exact ⟨(cut rest).2.1, (cut rest).2.2, nums ++ [n], a4, c4, rfl, rfl, ⟨by simp, by simp; omega, Nat.le_trans (cut_len rest).2 A.out.2.2.1, HQ.out⟩, satI_weak (C := Sl.block w3.heap.size TIn [.int .i64 n]) (by rw [zs_append, List.length_append]; delta cblk; show _ = rw TIn 1 (.slice a4 (nums.length + 1) c4) (zs nums ++ [.int .i64 n]) * (block w1.heap.size TCm [.string (str (cut l).1), .slice a4 (nums.length + 1) c4, .slice none 0 0] * _) * _; ac_rfl)⟩
        · have hn' : ¬ (nums.length : Int) < b := by omega
          have HQ : Aside (numbers numR b (cut l).2.1 (cut l).2.2 = some (nums, rest, true)) := (by rw [A.out.2.2.2, numbers_stop (.inr (by omega))]; simp : _ = _)
          cases t with
          | false =>
            have HN : Aside (parseR l = none) := ((parse_at (unq := unqBy escR) HA2.out HQ.out).trans (by simp) : _ = _)
            go_wp2
            (try simp only [Exit.inBlock, Exit.then])
            exact fin_ret rfl rfl rfl rfl (satI_eq (B := cblk w.heap.size [] (.slice none 0 0) (.slice none 0 0) * ((rw TIn 1 (.slice a1 nums.length c1) (zs nums) * cblk w1.heap.size (cut l).1 (.slice a1 nums.length c1) (.slice none 0 0)) * old w)) (by delta cblk; show _ = block w.heap.size TCm [.string (str []), .slice none 0 0, .slice none 0 0] * _; ac_rfl)) (parRR_no HR.out HN.out _)
          | true =>
            have HP : Aside (∀ o, unqBy escR rest = o → parseR l = match o with
              | none => none
              | some b => if may ⟨(cut l).1, nums, b⟩ then some ⟨(cut l).1, nums, b⟩ else none) := (fun o ho => (parse_at (unq := unqBy escR) HA2.out HQ.out).trans (by rw [ho]; cases o <;> simp))
            go_wp2_with fail
            refine (HUnq.out rest hrl wr).mono ?_
            rintro e w2 ⟨⟨a2, n2, c2, ok2, rfl, hu⟩, hb2⟩
            rcases hu with ⟨o, hq, rfl, hs2⟩ | ⟨hq, rfl⟩
            · have hs3 := hsr.over hs2
              haveI := hs3.i
              have hln : n2 = o.length := by rw [hs3.rw_len, bys_len]
              subst hln
              have hmn := may_n (cut l).1 nums o
              have HP2 := HP.out _ hq
              simp only at HP2
              clear hsr hs2 hb2 hq
              go_wp2_with fail
              refine (HMay.out (cut l).1 (.slice a1 nums.length c1) nums a2 o.length c2 _ (Zat.rw (takeI (rw TIn 1 (.slice a1 nums.length c1) (zs nums))))).mono ?_
              rintro e w3 ⟨rfl, hb3⟩
              have hs4 := (satI : Sat (rw TBy 1 (.slice a2 o.length c2) (bys o) * (rw TIn 1 (.slice a1 nums.length c1) (zs nums) * (cblk w1.heap.size (cut l).1 (.slice a1 nums.length c1) (.slice a2 o.length c2) * (cblk w.heap.size [] (.slice none 0 0) (.slice none 0 0) * old w)))) (w2.setCell ⟨w1.heap.size, 2, none⟩ (.slice a2 o.length c2))).below hb3
              haveI := hs4.i
              clear hs3
              cases hm : mayN (cut l).1 nums o.length with
              | true =>
                have HN : Aside (parseR l = some ⟨(cut l).1, nums, o⟩) := (by rw [HP2, hmn, hm]; rfl : _ = _)
                clear hmn hm HP2
                go_wp2
                (try simp only [Exit.inBlock, Exit.then])
                exact fin_ret rfl rfl rfl rfl (satI_eq (B := cblk w.heap.size (cut l).1 (.slice a1 nums.length c1) (.slice a2 o.length c2) * ((rw TBy 1 (.slice a2 o.length c2) (bys o) * (rw TIn 1 (.slice a1 nums.length c1) (zs nums) * cblk w1.heap.size (cut l).1 (.slice a1 nums.length c1) (.slice a2 o.length c2))) * old w)) (by delta cblk; show _ = block w.heap.size TCm [.string (str (cut l).1), .slice a1 nums.length c1, (.slice a2 o.length c2)] * _; ac_rfl)) (.inl ⟨⟨(cut l).1, nums, o⟩, _, HR.out.symm.trans HN.out, rfl, ⟨_, _, rfl, Zat.rw (takeI (rw TIn 1 (.slice a1 nums.length c1) (zs nums))), Byt.rw (takeI (rw TBy 1 (.slice a2 o.length c2) (bys o)))⟩⟩)
              | false =>
                have HN : Aside (parseR l = none) := (by rw [HP2, hmn, hm]; rfl : _ = _)
                clear hmn hm HP2
                go_wp2
                (try simp only [Exit.inBlock, Exit.then])
                exact fin_ret rfl rfl rfl rfl (satI_eq (B := cblk w.heap.size [] (.slice none 0 0) (.slice none 0 0) * ((rw TBy 1 (.slice a2 o.length c2) (bys o) * (rw TIn 1 (.slice a1 nums.length c1) (zs nums) * cblk w1.heap.size (cut l).1 (.slice a1 nums.length c1) (.slice a2 o.length c2))) * old w)) (by delta cblk; show _ = block w.heap.size TCm [.string (str []), .slice none 0 0, .slice none 0 0] * _; ac_rfl)) (parRR_no HR.out HN.out _)
            · have hs3 := hsr.below hb2
              haveI := hs3.i
              have HN : Aside (parseR l = none) := (by rw [HP.out _ hq] : _ = _)
              clear hsr hq
              go_wp2
              (try simp only [Exit.inBlock, Exit.then])
              exact fin_ret rfl rfl rfl rfl (satI_eq (B := cblk w.heap.size [] (.slice none 0 0) (.slice none 0 0) * ((rw TIn 1 (.slice a1 nums.length c1) (zs nums) * cblk w1.heap.size (cut l).1 (.slice a1 nums.length c1) (.slice none 0 0)) * old w)) (by delta cblk; show _ = block w.heap.size TCm [.string (str []), .slice none 0 0, .slice none 0 0] * _; ac_rfl)) (parRR_no HR.out HN.out _)
end Go.Proofs.YtefcphflpbopiaaGreatDoor
