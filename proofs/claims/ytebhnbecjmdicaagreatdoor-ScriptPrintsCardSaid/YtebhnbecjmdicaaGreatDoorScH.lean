/-
  Walk: script.Parse.
-/
import Derived.Test.YtebhnbecjmdicaaGreatDoorScG
import Derived.Laws.ResultCell
namespace Go.Sc
theorem numbers_none {num : Bs → Option Int} {k : Nat} {rest : Bs} (h : num (cut rest).1 = none) : numbers num (k + 1) rest true = none := by
  unfold numbers
  rw [h]
theorem numbers_some {num : Bs → Option Int} {k : Nat} {rest : Bs} {n : Int} (h : num (cut rest).1 = some n) : numbers num (k + 1) rest true = (numbers num k (cut rest).2.1 (cut rest).2.2).map fun x => (n :: x.1, x.2.1, x.2.2) := by
  conv => lhs; unfold numbers
  rw [h]
  simp only
  cases numbers num k (cut rest).2.1 (cut rest).2.2 with
  | none => rfl
  | some y => rfl
theorem numbers_stop {num : Bs → Option Int} {k : Nat} {rest : Bs} {more : Bool} (h : more = false ∨ k = 0) : numbers num k rest more = some ([], rest, more) := by
  cases k with
  | zero => rfl
  | succ k =>
    rcases h with rfl | h
    · rfl
    · omega
end Go.Sc
namespace Go.Proofs.YtebhnbecjmdicaaGreatDoor
set_option linter.unusedSimpArgs false
set_option linter.unusedVariables false
open Go.RowKit Go.Sl Go.Sc
attribute [local go_sem] Go.Sl.cell_sat Go.Sl.frozen_sat Go.Sc.str_toList Go.Sc.str_size Go.Sc.str_extract
abbrev TCm : TypeId := 25
abbrev TIn : TypeId := 3
theorem elemIn : ∃ i, ElemOk Tryz.prog 22 TIn 1 8 i (.int .i64 0) := elemOk Tryz.underlying22 (by kernel_rfl) rfl (by omega)
/-- a command, as it lies in memory -/
def CmdAt (w : World) (v : Value) (c : Cmd) : Prop := ∃ v1 v2, v = cmdV c.word v1 v2 ∧ Zat w v1 c.nums ∧ Byt w v2 c.text
theorem CmdAt.below {w w' : World} {v : Value} {c : Cmd} (h : CmdAt w v c) (hb : Below w.heap.size w w') : CmdAt w' v c := by
  obtain ⟨v1, v2, h1, h2, h3⟩ := h
  exact ⟨v1, v2, h1, h2.below hb, h3.below hb⟩
def zeroC : Value := cmdV [] (.slice none 0 0) (.slice none 0 0)
theorem zeroC_at (w : World) : CmdAt w zeroC ⟨[], [], []⟩ := ⟨_, _, rfl, Zat.nil w, Byt.nil w⟩
def ParR (r : Option Cmd) (e : Ending) (w' : World) : Prop := (∃ c v, r = some c ∧ e = .returned (.tuple #[v, .int .i64 0]) ∧ CmdAt w' v c) ∨ (r = none ∧ e = .returned (.tuple #[zeroC, .int .i64 16]))

theorem ask_cases (l : Bs) : ∃ (a b : Nat) (t ok : Bool), askV (asks l) = .tuple #[.int .i64 a, .int .i64 b, .bool t, .bool ok] ∧ (ok = true → asks l = some (a, b, t)) ∧ (ok = false → asks l = none ∧ t = false) ∧ b ≤ 64 := by
  cases h : asks l with
  | none => exact ⟨0, 0, false, false, rfl, fun h => (by cases h), fun _ => ⟨rfl, rfl⟩, by omega⟩
  | some y =>
    obtain ⟨a, b, t⟩ := y
    have hb : ∀ p ∈ tab, p.2.2.1 ≤ 64 := by decide
    exact ⟨a, b, t, true, rfl, fun _ => rfl, fun h => (by cases h), hb (l, a, b, t) (lookup_mem h)⟩
theorem parse_no {num : Bs → Option Int} {unq : Bs → Option Bs} {l : Bs} (h : asks (cut l).1 = none) : parseBy num unq l = none := by
  unfold parseBy
  rw [h]
theorem parse_bad {num : Bs → Option Int} {unq : Bs → Option Bs} {l : Bs} {a b : Nat} {t : Bool} (h : asks (cut l).1 = some (a, b, t)) (hn : numbers num b (cut l).2.1 (cut l).2.2 = none) : parseBy num unq l = none := by
  unfold parseBy
  rw [h]
  simp only [hn]
theorem parse_at {num : Bs → Option Int} {unq : Bs → Option Bs} {l : Bs} {a b : Nat} {t : Bool} {nums : List Int} {rest : Bs} {more : Bool} (h : asks (cut l).1 = some (a, b, t)) (hn : numbers num b (cut l).2.1 (cut l).2.2 = some (nums, rest, more)) : parseBy num unq l = if t = more then
        (if t then (match unq rest with
          | none => none
          | some b => if may ⟨(cut l).1, nums, b⟩ then some ⟨(cut l).1, nums, b⟩ else none)
        else if may ⟨(cut l).1, nums, []⟩ then some ⟨(cut l).1, nums, []⟩ else none)
      else none := by
  unfold parseBy
  rw [h]
  simp only [hn]
  cases t <;> cases more <;> (try rfl) <;> (cases unq rest <;> rfl)
abbrev cblk (b : Nat) (wd : Bs) (v1 v2 : Value) : Assn := block b TCm [.string (str wd), v1, v2]
theorem parR_no {l : Bs} {r : Option Cmd} (h : parseP l = r) (h2 : parseP l = none) (w' : World) : ParR r (.returned (.tuple #[zeroC, .int .i64 16])) w' := .inr ⟨h ▸ h2, rfl⟩

instance (priority := high) upd3_0 (b t : Nat) (u0 u1 u2 v : Value) : Upd (block b t [u0, u1, u2]) b 0 v (block b t [v, u1, u2]) := inferInstanceAs (Upd (block b t [u0, u1, u2]) b 0 v (block b t ([u0, u1, u2].set 0 v)))
instance (priority := high) upd3_1 (b t : Nat) (u0 u1 u2 v : Value) : Upd (block b t [u0, u1, u2]) b 1 v (block b t [u0, v, u2]) := inferInstanceAs (Upd (block b t [u0, u1, u2]) b 1 v (block b t ([u0, u1, u2].set 1 v)))
instance (priority := high) upd3_2 (b t : Nat) (u0 u1 u2 v : Value) : Upd (block b t [u0, u1, u2]) b 2 v (block b t [u0, u1, v]) := inferInstanceAs (Upd (block b t [u0, u1, u2]) b 2 v (block b t ([u0, u1, u2].set 2 v)))
theorem fin_ret {fn : Func} {p u : Tmp} (h : fn.results = #[.cell p TCm, .tmp u]) {act : Act} {W w : World} {r : Option Cmd} {R : Nat} {u0 u1 u2 v : Value} {G : Assn} (hp : act.tmps.getD p undef = .pointer (some ⟨R, 0, none⟩)) (hv : act.tmps.getD u undef = v) (hd : act.defers = [])
    (hs : Sat (block R TCm [u0, u1, u2] * (G * old w)) W) (hpost : ParR r (.returned (.tuple #[.agg #[u0, u1, u2], v])) W) : bodyPost Tryz.prog fn (fun e w' => ParR r e w' ∧ Below w.heap.size w w') .ret act W := by
  have hc : W.rangeAt R 0 [u0, u1, u2] := fun j x hx => by
    have h7 : Sat (Sl.cells R 0 [u0, u1, u2] * (hdr R TCm [u0, u1, u2].length * (G * old w))) W := hs.eq (by unfold block; ac_rfl)
    have h8 := h7.cells_at j x hx
    simpa using h8
  have hl := run_loadVar_mid (P := Tryz.prog) W R 0 TCm [u0, u1, u2] _ hc Tryz.underlying25 rfl (by kernel_rfl)
  refine bodyPost_ret (v := .tuple #[.agg #[u0, u1, u2], v]) (by
    rw [results_cell_tmp h, hp, hv]
    simp only [asAddr, Sem.run_pure, Result.andThen, hl]) hd ⟨hpost, ?_⟩
  exact (Sat.eq (A := block R TCm [u0, u1, u2] * (G * old w)) hs (by ac_rfl : _ = old w * (block R TCm [u0, u1, u2] * G))).old_below

set_option maxHeartbeats 1600000 in
theorem parse_any (l : Bs) (hmax : l.length ≤ 1000000000) (w : World) (hc : Ctx w) :
    Calls Tryz.prog 12 #[.string (str l)] w fun e w' => ParR (parseP l) e w' ∧ Below w.heap.size w w' := by
  have HCut : Aside (∀ (l : Bs), l.length ≤ 1000000000 → ∀ (w : World), Calls Tryz.prog 24 #[.string (str l), .string ⟨#[32]⟩] w fun e w' => e = .returned (.tuple #[.string (str (cut l).1), .string (str (cut l).2.1), .bool (cut l).2.2]) ∧ ∃ n, w' = w.drewN n) := fun l hl w => cut_any l (by omega) w
  have HNum : Aside (∀ (l : Bs) (w : World), Ctx w → Calls Tryz.prog 25 #[.string (str l)] w fun e w' => (∃ (n : Int) (ok : Bool), e = .returned (.tuple #[.int .i64 n, .bool ok]) ∧ numP l = (if ok then some n else none)) ∧ Below w.heap.size w w') := number_any
  have HUnq : Aside (∀ (s : Bs), s.length ≤ 1000000000 → ∀ (w : World), Ctx w → Calls Tryz.prog 26 #[.string (str s)] w fun e w' => UnqR (unqBy escP s) w e w' ∧ Below w.heap.size w w') := unquoted_any
  have HMay : Aside (∀ (wd : Bs) (v1 : Value) (nums : List Int) (ta : Option Addr) (tl tc : Nat) (w : World), Zat w v1 nums → Calls Tryz.prog 8 #[cmdV wd v1 (.slice ta tl tc)] w fun e w' => e = .returned (.bool (mayN wd nums tl)) ∧ Below w.heap.size w w') := may_any
  have HC : Aside (Ctx w) := hc
  clear hc
  obtain ⟨r, hr⟩ : ∃ r, parseP l = r := ⟨_, rfl⟩
  have HR : Aside (parseP l = r) := hr
  rw [hr]
  clear hr
  have hask := asks_any (cut l).1
  obtain ⟨a, b, t, ok, h1, h2, h3, h4⟩ := ask_cases (cut l).1
  rw [h1] at hask
  have HA : Aside ((ok = true → asks (cut l).1 = some (a, b, t)) ∧ (ok = false → asks (cut l).1 = none ∧ t = false)) := ⟨h2, h3⟩
  clear h1 h2 h3
  obtain ⟨i0, E⟩ := elemIn
  go_enter Tryz.func12, Tryz.ntmps12
  go_wp2_with fail
  refine (HCut.out l hmax _).mono ?_
  rintro e w1 ⟨rfl, n1, rfl⟩
  go_wp2_with fail
  refine (hask _).mono ?_
  rintro e w2 ⟨rfl, rfl⟩
  clear hask
  have hs0 : Sat (cblk (w.heap.size + 1) (cut l).1 (.slice none 0 0) (.slice none 0 0) * (cblk w.heap.size [] (.slice none 0 0) (.slice none 0 0) * old w)) (((w.alloc (Obj.cells #[Value.string { data := #[] }, Value.slice none 0 0, Value.slice none 0 0] TCm)).drewN n1).alloc (Obj.cells #[Value.string (str (cut l).fst), Value.slice none 0 0, Value.slice none 0 0] TCm)) := by
    have h1 := (((Sat.old_self w).alloc #[Value.string { data := #[] }, Value.slice none 0 0, Value.slice none 0 0] TCm).drewN n1).alloc #[Value.string (str (cut l).fst), Value.slice none 0 0, Value.slice none 0 0] TCm
    have e : ((w.alloc (Obj.cells #[Value.string { data := #[] }, Value.slice none 0 0, Value.slice none 0 0] TCm)).drewN n1).heap.size = w.heap.size + 1 := by
      show (w.heap.push _).size = _
      simp
    rw [e] at h1
    exact h1
  go_wp2
  go_loopg [5, 6, 11] b (fun g t5 t6 t11 wr => ∃ (rest : Bs) (more : Bool) (nums : List Int) (a1 : Option Addr) (c1 : Nat), t5 = .string (str rest) ∧ t6 = .bool more ∧ t11 = .bool ok ∧ Aside (g = b - nums.length ∧ nums.length ≤ b ∧ rest.length ≤ l.length ∧ numbers numP b (cut l).2.1 (cut l).2.2 = (numbers numP (b - nums.length) rest more).map fun x => (nums ++ x.1, x.2.1, x.2.2)) ∧ Sat (rw TIn 1 (.slice a1 nums.length c1) (zs nums) * (cblk (w.heap.size + 1) (cut l).1 (.slice a1 nums.length c1) (.slice none 0 0) * (cblk w.heap.size [] (.slice none 0 0) (.slice none 0 0) * old w))) wr)
  case atStart =>
    refine ⟨(cut l).2.1, (cut l).2.2, [], none, 0, rfl, rfl, rfl, ⟨rfl, by simp, (cut_len l).2, ?_⟩, Sat.rw_nil hs0⟩
    simp
  case round =>
    obtain ⟨rest, more, nums, a1, c1, rfl, rfl, rfl, A, hsr⟩ := hrel
    clear hs0
    haveI := hsr.i
    cases ok with
    | false =>
      obtain ⟨hq, rfl⟩ := HA.out.2 rfl
      have HN : Aside (parseP l = none) := parse_no hq
      clear hq
      go_wp2
      (try simp only [Exit.inBlock, Exit.then])
      exact fin_ret rfl rfl rfl rfl (satI_eq (B := cblk w.heap.size [] (.slice none 0 0) (.slice none 0 0) * ((rw TIn 1 (.slice a1 nums.length c1) (zs nums) * cblk (w.heap.size + 1) (cut l).1 (.slice a1 nums.length c1) (.slice none 0 0)) * old w)) (by show _ = cblk w.heap.size [] (.slice none 0 0) (.slice none 0 0) * _; ac_rfl)) (parR_no HR.out HN.out _)
    | true =>
      have ha := HA.out.1 rfl
      have HA2 : Aside (asks (cut l).1 = some (a, b, t)) := ha
      clear HA ha
      have hrl : rest.length ≤ 1000000000 := Nat.le_trans A.out.2.2.1 hmax
      have hnl : nums.length ≤ 64 := Nat.le_trans A.out.2.1 h4
      cases more with
      | false =>
        have HQ : Aside (numbers numP b (cut l).2.1 (cut l).2.2 = some (nums, rest, false)) := (by rw [A.out.2.2.2, numbers_stop (.inl rfl)]; simp : _ = _)
        cases t with
        | true =>
          have HN : Aside (parseP l = none) := ((parse_at (unq := unqBy escP) HA2.out HQ.out).trans (by simp) : _ = _)
          go_wp2
          (try simp only [Exit.inBlock, Exit.then])
          exact fin_ret rfl rfl rfl rfl (satI_eq (B := cblk w.heap.size [] (.slice none 0 0) (.slice none 0 0) * ((rw TIn 1 (.slice a1 nums.length c1) (zs nums) * cblk (w.heap.size + 1) (cut l).1 (.slice a1 nums.length c1) (.slice none 0 0)) * old w)) (by show _ = cblk w.heap.size [] (.slice none 0 0) (.slice none 0 0) * _; ac_rfl)) (parR_no HR.out HN.out _)
        | false =>
          have hmy := HMay.out (cut l).1 (.slice a1 nums.length c1) nums none 0 0 wr (Zat.rw hsr)
          have hmn := may_n (cut l).1 nums []
          have HP : Aside (parseP l = if may ⟨(cut l).1, nums, []⟩ then some ⟨(cut l).1, nums, []⟩ else none) := ((parse_at (unq := unqBy escP) HA2.out HQ.out).trans (by simp) : _ = _)
          rw [List.length_nil] at hmn
          cases hm : mayN (cut l).1 nums 0 with
          | true =>
            rw [hm] at hmy hmn
            have HN : Aside (parseP l = some ⟨(cut l).1, nums, []⟩) := (by rw [HP.out, hmn]; rfl : _ = _)
            clear hmn hm
            go_wp2_with fail
            refine hmy.mono ?_
            rintro e w2 ⟨rfl, hb2⟩
            have hs2 := hsr.below hb2
            haveI := hs2.i
            clear hmy hsr
            go_wp2
            (try simp only [Exit.inBlock, Exit.then])
            exact fin_ret rfl rfl rfl rfl (satI_eq (B := cblk w.heap.size (cut l).1 (.slice a1 nums.length c1) (.slice none 0 0) * ((rw TIn 1 (.slice a1 nums.length c1) (zs nums) * cblk (w.heap.size + 1) (cut l).1 (.slice a1 nums.length c1) (.slice none 0 0)) * old w)) (by show _ = cblk w.heap.size (cut l).1 (.slice a1 nums.length c1) (.slice none 0 0) * _; ac_rfl)) (.inl ⟨⟨(cut l).1, nums, []⟩, _, HR.out.symm.trans HN.out, rfl, ⟨_, _, rfl, Zat.rw (takeI (rw TIn 1 (.slice a1 nums.length c1) (zs nums))), Byt.nil _⟩⟩)
          | false =>
            rw [hm] at hmy hmn
            have HN : Aside (parseP l = none) := (by rw [HP.out, hmn]; rfl : _ = _)
            clear hmn hm
            go_wp2_with fail
            refine hmy.mono ?_
            rintro e w2 ⟨rfl, hb2⟩
            have hs2 := hsr.below hb2
            haveI := hs2.i
            clear hmy hsr
            go_wp2
            (try simp only [Exit.inBlock, Exit.then])
            exact fin_ret rfl rfl rfl rfl (satI_eq (B := cblk w.heap.size [] (.slice none 0 0) (.slice none 0 0) * ((rw TIn 1 (.slice a1 nums.length c1) (zs nums) * cblk (w.heap.size + 1) (cut l).1 (.slice a1 nums.length c1) (.slice none 0 0)) * old w)) (by show _ = cblk w.heap.size [] (.slice none 0 0) (.slice none 0 0) * _; ac_rfl)) (parR_no HR.out HN.out _)
      | true =>
        by_cases hn : nums.length < b
        · have hn' : (nums.length : Int) < b := by omega
          go_wp2_with fail
          refine (HCut.out rest hrl _).mono ?_
          rintro e w2 ⟨rfl, n2, rfl⟩
          have hs2 := hsr.drewN n2
          haveI := hs2.i
          go_wp2_with fail
          refine (HNum.out (cut rest).1 (wr.drewN n2) (HC.out.below (hs2.take (old w)).old_below)).mono ?_
          rintro e w3 ⟨⟨n, okn, rfl, hq⟩, hb3⟩
          have hs3 := hs2.below hb3
          haveI := hs3.i
          clear hs2 hsr
          obtain ⟨k, hk⟩ : ∃ k, b - nums.length = k + 1 := ⟨b - nums.length - 1, by omega⟩
          cases okn with
          | false =>
            have HN : Aside (parseP l = none) := (by
              refine parse_bad HA2.out ?_
              have hq' : numP (cut rest).1 = none := hq
              rw [A.out.2.2.2, hk, numbers_none hq']
              rfl : _ = _)
            clear hk hq
            go_wp2
            all_goals (try simp only [Exit.inBlock, Exit.then])
            all_goals exact fin_ret rfl rfl rfl rfl (satI_eq (B := cblk w.heap.size [] (.slice none 0 0) (.slice none 0 0) * ((rw TIn 1 (.slice a1 nums.length c1) (zs nums) * cblk (w.heap.size + 1) (cut l).1 (.slice a1 nums.length c1) (.slice none 0 0)) * old w)) (by show _ = cblk w.heap.size [] (.slice none 0 0) (.slice none 0 0) * _; ac_rfl)) (parR_no HR.out HN.out _)
          | true =>
            have HQ : Aside (numbers numP b (cut l).2.1 (cut l).2.2 = (numbers numP (b - (nums ++ [n]).length) (cut rest).2.1 (cut rest).2.2).map fun x => ((nums ++ [n]) ++ x.1, x.2.1, x.2.2)) := (by
              have hq' : numP (cut rest).1 = some n := hq
              rw [A.out.2.2.2, hk, numbers_some hq', List.length_append, show b - (nums.length + [n].length) = k by simp; omega]
              cases numbers numP k (cut rest).2.1 (cut rest).2.2 <;> simp : _ = _)
            clear hk hq
            go_wp2_with (at_builtin; refine wpl_append_same E rfl (.tmp 57) (.tmp 59) rfl rfl rfl (takeI (rw TIn 1 (.slice a1 nums.length c1) (zs nums))) (Src.one_new (b := w3.heap.size) (e := TIn) (v := .int .i64 n) (takeI (Sl.block w3.heap.size TIn [.int .i64 n])) rfl) (by unfold maxLen; omega) (by omega) ?_; intro a4 c4 w4 hs4 hnn; clear hnn; haveI := hs4.i)
            go_wp2
            go_roundg (b - (nums.length + 1))
            case measure => have := A.out.1; omega
            case rel => exact ⟨(cut rest).2.1, (cut rest).2.2, nums ++ [n], a4, c4, rfl, rfl, rfl, ⟨by simp, by simp; omega, Nat.le_trans (cut_len rest).2 A.out.2.2.1, HQ.out⟩, satI_weak (C := Sl.block w3.heap.size TIn [.int .i64 n]) (by rw [zs_append, List.length_append]; delta cblk; show _ = rw TIn 1 (.slice a4 (nums.length + 1) c4) (zs nums ++ [.int .i64 n]) * (block (w.heap.size + 1) TCm [.string (str (cut l).1), .slice a4 (nums.length + 1) c4, .slice none 0 0] * _) * _; ac_rfl)⟩
        · have hn' : ¬ (nums.length : Int) < b := by omega
          have HQ : Aside (numbers numP b (cut l).2.1 (cut l).2.2 = some (nums, rest, true)) := (by rw [A.out.2.2.2, numbers_stop (.inr (by omega))]; simp : _ = _)
          cases t with
          | false =>
            have HN : Aside (parseP l = none) := ((parse_at (unq := unqBy escP) HA2.out HQ.out).trans (by simp) : _ = _)
            go_wp2
            (try simp only [Exit.inBlock, Exit.then])
            exact fin_ret rfl rfl rfl rfl (satI_eq (B := cblk w.heap.size [] (.slice none 0 0) (.slice none 0 0) * ((rw TIn 1 (.slice a1 nums.length c1) (zs nums) * cblk (w.heap.size + 1) (cut l).1 (.slice a1 nums.length c1) (.slice none 0 0)) * old w)) (by show _ = cblk w.heap.size [] (.slice none 0 0) (.slice none 0 0) * _; ac_rfl)) (parR_no HR.out HN.out _)
          | true =>
            have HP : Aside (∀ o, unqBy escP rest = o → parseP l = match o with
              | none => none
              | some b => if may ⟨(cut l).1, nums, b⟩ then some ⟨(cut l).1, nums, b⟩ else none) := (fun o ho => (parse_at (unq := unqBy escP) HA2.out HQ.out).trans (by rw [ho]; cases o <;> simp))
            go_wp2_with fail
            refine (HUnq.out rest hrl wr (HC.out.below (hsr.take (old w)).old_below)).mono ?_
            rintro e w2 ⟨⟨a2, n2, c2, ok2, rfl, hu⟩, hb2⟩
            rcases hu with ⟨o, hq, rfl, hs2⟩ | ⟨hq, rfl⟩
            · have hs3 := hsr.over hs2
              haveI := hs3.i
              have hln : n2 = o.length := by rw [hs3.rw_len, bys_len]
              subst hln
              have hmn := may_n (cut l).1 nums o
              have HP2 := HP.out _ hq
              simp only at HP2
              clear hsr hs2 hb2 hq
              go_wp2_with fail
              refine (HMay.out (cut l).1 (.slice a1 nums.length c1) nums a2 o.length c2 _ (Zat.rw (takeI (rw TIn 1 (.slice a1 nums.length c1) (zs nums))))).mono ?_
              rintro e w3 ⟨rfl, hb3⟩
              have hs4 := (satI : Sat (rw TBy 1 (.slice a2 o.length c2) (bys o) * (rw TIn 1 (.slice a1 nums.length c1) (zs nums) * (cblk (w.heap.size + 1) (cut l).1 (.slice a1 nums.length c1) (.slice a2 o.length c2) * (cblk w.heap.size [] (.slice none 0 0) (.slice none 0 0) * old w)))) (w2.setCell ⟨w.heap.size + 1, 2, none⟩ (.slice a2 o.length c2))).below hb3
              haveI := hs4.i
              clear hs3
              cases hm : mayN (cut l).1 nums o.length with
              | true =>
                have HN : Aside (parseP l = some ⟨(cut l).1, nums, o⟩) := (by rw [HP2, hmn, hm]; rfl : _ = _)
                clear hmn hm HP2
                go_wp2
                (try simp only [Exit.inBlock, Exit.then])
                exact fin_ret rfl rfl rfl rfl (satI_eq (B := cblk w.heap.size (cut l).1 (.slice a1 nums.length c1) (.slice a2 o.length c2) * ((rw TBy 1 (.slice a2 o.length c2) (bys o) * (rw TIn 1 (.slice a1 nums.length c1) (zs nums) * cblk (w.heap.size + 1) (cut l).1 (.slice a1 nums.length c1) (.slice a2 o.length c2))) * old w)) (by show _ = cblk w.heap.size (cut l).1 (.slice a1 nums.length c1) (.slice a2 o.length c2) * _; ac_rfl)) (.inl ⟨⟨(cut l).1, nums, o⟩, _, HR.out.symm.trans HN.out, rfl, ⟨_, _, rfl, Zat.rw (takeI (rw TIn 1 (.slice a1 nums.length c1) (zs nums))), Byt.rw (takeI (rw TBy 1 (.slice a2 o.length c2) (bys o)))⟩⟩)
              | false =>
                have HN : Aside (parseP l = none) := (by rw [HP2, hmn, hm]; rfl : _ = _)
                clear hmn hm HP2
                go_wp2
                (try simp only [Exit.inBlock, Exit.then])
                exact fin_ret rfl rfl rfl rfl (satI_eq (B := cblk w.heap.size [] (.slice none 0 0) (.slice none 0 0) * ((rw TBy 1 (.slice a2 o.length c2) (bys o) * (rw TIn 1 (.slice a1 nums.length c1) (zs nums) * cblk (w.heap.size + 1) (cut l).1 (.slice a1 nums.length c1) (.slice a2 o.length c2))) * old w)) (by show _ = cblk w.heap.size [] (.slice none 0 0) (.slice none 0 0) * _; ac_rfl)) (parR_no HR.out HN.out _)
            · have hs3 := hsr.below hb2
              haveI := hs3.i
              have HN : Aside (parseP l = none) := (by rw [HP.out _ hq] : _ = _)
              clear hsr hq
              go_wp2
              (try simp only [Exit.inBlock, Exit.then])
              exact fin_ret rfl rfl rfl rfl (satI_eq (B := cblk w.heap.size [] (.slice none 0 0) (.slice none 0 0) * ((rw TIn 1 (.slice a1 nums.length c1) (zs nums) * cblk (w.heap.size + 1) (cut l).1 (.slice a1 nums.length c1) (.slice a2 n2 c2)) * old w)) (by show _ = cblk w.heap.size [] (.slice none 0 0) (.slice none 0 0) * _; ac_rfl)) (parR_no HR.out HN.out _)
end Go.Proofs.YtebhnbecjmdicaaGreatDoor
