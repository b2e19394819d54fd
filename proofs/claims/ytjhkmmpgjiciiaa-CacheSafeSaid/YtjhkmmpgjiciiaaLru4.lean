/-
  Walks of package lru: Keys, Marked; Add in one contract.
-/
import Derived.Test.YtjhkmmpgjiciiaaLru3
import Derived.Test.YtjhkmmpgjiciiaaSlb
namespace Go.Proofs.Ytjhkmmpgjiciiaa
set_option linter.unusedSimpArgs false
set_option linter.unusedVariables false
open Go.RowKit Go.Sl Go.Lru

theorem elemInt : ∃ i, ElemOk Try.prog 22 3 1 8 i (.int .i64 0) := elemOk Try.underlying22 (by kernel_rfl) rfl (by omega)

abbrev kval (n : Nd) : Value := .int .i64 n.key

set_option maxHeartbeats 400000 in
theorem keys_any (L M : Nat) (cap : Int) (ns : List Nd) (F : Assn) (w : World) (hs : Sat (lruP TL TI L M cap ns * F) w) (hn : ns.length ≤ 4096) :
    Calls Try.prog 24 #[.pointer (some ⟨L, 0, none⟩)] w fun e w' => ∃ a c, e = .returned (.slice a ns.length c) ∧ Sat (rw 3 1 (.slice a ns.length c) (ns.map kval) * (lruP TL TI L M cap ns * F)) w' := by
  obtain ⟨h5, hrr⟩ := lru_first hs
  unfold pt at h5
  obtain ⟨i0, E⟩ := elemInt
  go_enter Try.func24, Try.ntmps24
  go_wp2
  go_loopg [3, 4] ns.length (fun k out x wr => ∃ l1 l2 a c, Aside (ns = l1 ++ l2 ∧ k = l2.length) ∧ out = .slice a l1.length c ∧ x = pt (behind L l2) ∧ Sat (rw 3 1 (.slice a l1.length c) (l1.map kval) * (lruP TL TI L M cap ns * F)) wr)
  case atStart => exact ⟨[], ns, none, 0, ⟨rfl, rfl⟩, rfl, rfl, hs.rw_nil⟩
  case round =>
    obtain ⟨l1, l2, a, c, A, rfl, rfl, hs1⟩ := hrel
    clear h5 hrr hs
    have hs2 := hs1.right
    obtain ⟨_, hrr⟩ := lru_first hs2
    cases l2 with
    | nil =>
      have e0 : pt (behind L []) = .pointer (some ⟨L, 1, none⟩) := rfl
      rw [e0]
      clear e0
      go_wp2
      go_ret
      obtain ⟨rfl, _⟩ := A.out
      simp only [List.append_nil] at hs1 ⊢
      exact ⟨a, c, rfl, hs1⟩
    | cons n l2 =>
      have e0 : pt (behind L (n :: l2)) = .pointer (some ⟨n.b, 0, none⟩) := rfl
      rw [e0]
      clear e0 hrr
      obtain ⟨hns, hk⟩ := A.out
      have hs3 := hs2
      rw [hns] at hs3
      obtain ⟨c0, c1, c4, hne⟩ := lru_round hs3
      unfold pt at c4
      have H : Aside (ns = l1 ++ n :: l2) := hns
      have HK : Aside (gk = (n :: l2).length) := hk
      have hl : l1.length < 4096 := by rw [hns] at hn; simp at hn; omega
      have hs4 := hs1.alloc #[.int .i64 n.key] 3
      have hs5 := hs4.take (rw 3 1 (.slice a l1.length c) (l1.map kval))
      have hx := Src.one_new (P := Try.prog) hs4 rfl
      clear hns hk A hs3 hs4 c1 hs1 hs2 hn
      go_wp2_with (at_builtin; refine wpl_append_same E rfl (.tmp 21) (.tmp 26) rfl rfl rfl hs5 hx ?_ ?_ ?_)
      · unfold maxLen; omega
      · omega
      intro a' c' w' hs6 hnil
      have hs7 := hs6.take (lruP TL TI L M cap ns)
      rw [H.out] at hs7
      obtain ⟨_, _, c4', _⟩ := lru_round hs7
      unfold pt at c4'
      clear hnil hs5 hx c0 c4 hne hs7
      go_wp2
      go_roundg l2.length
      case measure => have := HK.out; simp at this; omega
      case rel =>
        refine ⟨l1 ++ [n], l2, a', c', ⟨by rw [H.out]; simp, rfl⟩, by simp, rfl, ?_⟩
        simp only [List.length_append, List.length_cons, List.length_nil, List.map_append, List.map_cons, List.map_nil, Nat.zero_add]
        refine Sat.weak (B := block wr.heap.size 3 [.int .i64 n.key]) (hs6.eq ?_)
        ac_rfl

def AddIs (cap : Int) (ns : List Nd) (k g : Int) (h : Bool) (c : Int) (ns' : List Nd) : Prop :=
  (hasB ns k = true ∧ g = 0 ∧ h = false ∧ c = 1 ∧ ns' = ns) ∨
  (hasB ns k = false ∧ (ns.length : Int) ≠ cap ∧ g = 0 ∧ h = false ∧ c = 0 ∧ ∃ b, ns' = ns ++ [⟨b, k, 0, false⟩]) ∨
  (hasB ns k = false ∧ (ns.length : Int) = cap ∧ oldL ns = none ∧ g = 0 ∧ h = false ∧ c = 9 ∧ ns' = ns) ∨
  (hasB ns k = false ∧ (ns.length : Int) = cap ∧ ∃ n, oldL ns = some n ∧ g = n.key ∧ h = true ∧ c = 0 ∧ ∃ b, ns' = outL ns n.key ++ [⟨b, k, 0, false⟩])

def AddPost (L M : Nat) (cap : Int) (ns : List Nd) (k : Int) (F : Assn) (e : Ending) (w' : World) : Prop :=
  ∃ g h c ns', e = .returned (.tuple #[.int .i64 g, .bool h, .int .i64 c]) ∧ AddIs cap ns k g h c ns' ∧ Sat (lruP TL TI L M cap ns' * F) w'

theorem add_any (L M : Nat) (cap : Int) (ns : List Nd) (k : Int) (F : Assn) (w : World) (hs : Sat (lruP TL TI L M cap ns * F) w) (hd : Keyd ns) :
    Calls Try.prog 22 #[.pointer (some ⟨L, 0, none⟩), .int .i64 k] w (AddPost L M cap ns k F) := by
  cases hk : hasB ns k with
  | true => exact (add_has L M cap ns k F w hs hd hk).mono fun e w' ⟨h1, h2⟩ => ⟨0, false, 1, ns, h1, .inl ⟨hk, rfl, rfl, rfl, rfl⟩, h2 ▸ hs⟩
  | false =>
    cases hl : ((ns.length : Int) == cap) with
    | false =>
      refine (add_room L M cap ns k F w hs hd hk hl).mono fun e w' ⟨b, h1, h2⟩ => ⟨0, false, 0, _, h1, .inr (.inl ⟨hk, by simpa using hl, rfl, rfl, rfl, b, rfl⟩), h2⟩
    | true =>
      cases ho : oldL ns with
      | none =>
        have hb : oldB ns = false := by unfold oldB; rw [ho]; rfl
        exact (add_stuck L M cap ns k F w hs hd hk hl hb).mono fun e w' ⟨h1, h2⟩ => ⟨0, false, 9, ns, h1, .inr (.inr (.inl ⟨hk, by simpa using hl, ho, rfl, rfl, rfl, rfl⟩)), h2⟩
      | some n =>
        obtain ⟨l1, l2, hns⟩ := List.append_of_mem (List.mem_of_find?_eq_some ho)
        refine (add_full L M cap ns k F w hs hd hk hl l1 n l2 hns ho).mono fun e w' ⟨b, h1, h2⟩ => ⟨n.key, true, 0, _, h1, .inr (.inr (.inr ⟨hk, by simpa using hl, n, ho, rfl, rfl, rfl, b, ?_⟩)), h2⟩
        rw [hns] at hd ⊢
        rw [outL_found hd]

end Go.Proofs.Ytjhkmmpgjiciiaa
