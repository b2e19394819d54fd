/-
  Maps in the walk, found by instances: lookup, len, update, delete.
-/
import Derived.Test.YtjhkmmpgjiciiaaSli
import Derived.Test.YtjhkmmpgjiciiaaSlm
namespace Go.Sl
set_option linter.unusedSimpArgs false
set_option linter.unusedVariables false
variable {κ : Type}

class HasM (A : Assn) (M : Nat) (kf : κ → Value) (ms : outParam (List (κ × Value))) : Prop where
  out : ∃ F, A = mp kf M ms * F
class UpdM (A : Assn) (M : Nat) (kf : κ → Value) (ms' : List (κ × Value)) (A' : outParam Assn) : Prop where
  out : ∃ ms F, A = mp kf M ms * F ∧ A' = mp kf M ms' * F

instance (M : Nat) (kf : κ → Value) (ms : List (κ × Value)) : HasM (mp kf M ms) M kf ms := ⟨1, (sep_one _).symm⟩
instance (A B : Assn) (M : Nat) (kf : κ → Value) (ms : List (κ × Value)) [h : HasM A M kf ms] : HasM (A * B) M kf ms := let ⟨F, e⟩ := h.out; ⟨F * B, by rw [e, sep_assoc]⟩
instance (A B : Assn) (M : Nat) (kf : κ → Value) (ms : List (κ × Value)) [h : HasM B M kf ms] : HasM (A * B) M kf ms := let ⟨F, e⟩ := h.out; ⟨A * F, by rw [e, sep_left]⟩
instance (M : Nat) (kf : κ → Value) (ms ms' : List (κ × Value)) : UpdM (mp kf M ms) M kf ms' (mp kf M ms') := ⟨ms, 1, (sep_one _).symm, (sep_one _).symm⟩
instance (A B A' : Assn) (M : Nat) (kf : κ → Value) (ms' : List (κ × Value)) [h : UpdM A M kf ms' A'] : UpdM (A * B) M kf ms' (A' * B) := let ⟨v, F, e, e'⟩ := h.out; ⟨v, F * B, by rw [e, sep_assoc], by rw [e', sep_assoc]⟩
instance (A B B' : Assn) (M : Nat) (kf : κ → Value) (ms' : List (κ × Value)) [h : UpdM B M kf ms' B'] : UpdM (A * B) M kf ms' (A * B') := let ⟨v, F, e, e'⟩ := h.out; ⟨v, A * F, by rw [e, sep_left], by rw [e', sep_left]⟩

/-- a map's type: its keys, what a lookup gives where there is none -/
class MapT (P : Program) (t : TypeId) (κ : outParam Type) [DecidableEq κ] (kf : outParam (κ → Value)) (z : outParam Value) : Prop where
  out : ∃ kt e, KeyOk P kt kf ∧ P.underlying t = some (.map kt e) ∧ ∀ w, (zeroValue e).run P w = .ok z w

def Result.world {α : Type} : Result α → World
  | .ok _ w => w
  | .halt _ w => w

def putW (P : Program) (t : TypeId) (M : Nat) (k v : Value) (w : World) : World := Result.world ((Instr.mapUpdate t (.map (some M)) k v).run P w)
def delW (P : Program) (t : TypeId) (M : Nat) (k : Value) (w : World) : World := Result.world ((Builtin.delete_ #[t, 0] 0 #[.map (some M), k]).run P w)

section
variable {P : Program} {t : TypeId} [DecidableEq κ] {kf : κ → Value} {z : Value}

theorem lookup_run (T : MapT P t κ kf z) (w : World) (M : Nat) (k : κ) {A : Assn} {ms : List (κ × Value)} [h : SatI A w] [h2 : HasM A M kf ms] :
    (Instr.lookup t (.map (some M)) (kf k) false).run P w = .ok ((mget k ms).getD z) w := by
  obtain ⟨kt, e, K, ht, hz⟩ := T.out
  obtain ⟨F, rfl⟩ := h2.out
  obtain ⟨o, ho, hs⟩ := h.out.mp_open
  simpa using run_lookup_mp K ht hz hs.obj ho k false
theorem lookup2_run (T : MapT P t κ kf z) (w : World) (M : Nat) (k : κ) {A : Assn} {ms : List (κ × Value)} [h : SatI A w] [h2 : HasM A M kf ms] :
    (Instr.lookup t (.map (some M)) (kf k) true).run P w = .ok (.tuple #[(mget k ms).getD z, .bool (mget k ms).isSome]) w := by
  obtain ⟨kt, e, K, ht, hz⟩ := T.out
  obtain ⟨F, rfl⟩ := h2.out
  obtain ⟨o, ho, hs⟩ := h.out.mp_open
  simpa using run_lookup_mp K ht hz hs.obj ho k true
theorem len_run (T : MapT P t κ kf z) (w : World) (M : Nat) (ty : TypeId) {A : Assn} {ms : List (κ × Value)} [h : SatI A w] [h2 : HasM A M kf ms] :
    (Builtin.len_ #[t] ty #[.map (some M)]).run P w = .ok (.int .i64 ms.length) w := by
  obtain ⟨kt, e, K, ht, hz⟩ := T.out
  obtain ⟨F, rfl⟩ := h2.out
  obtain ⟨o, ho, hs⟩ := h.out.mp_open
  exact run_len_mp ht hs.obj ho ty
theorem put_run (T : MapT P t κ kf z) (w : World) (M : Nat) (k : κ) (v : Value) {A : Assn} {ms : List (κ × Value)} [h : SatI A w] [h2 : HasM A M kf ms] :
    (Instr.mapUpdate t (.map (some M)) (kf k) v).run P w = .ok () (putW P t M (kf k) v w) := by
  obtain ⟨kt, e, K, ht, hz⟩ := T.out
  obtain ⟨F, rfl⟩ := h2.out
  obtain ⟨o, ho, hs⟩ := h.out.mp_open
  obtain ⟨o', _, hup⟩ := run_mapUpdate_mp K ht hs.obj ho k v
  unfold putW
  rw [hup]; rfl
theorem del_run (T : MapT P t κ kf z) (w : World) (M : Nat) (k : κ) (kt' ty : TypeId) {A : Assn} {ms : List (κ × Value)} [h : SatI A w] [h2 : HasM A M kf ms] :
    (Builtin.delete_ #[t, kt'] ty #[.map (some M), kf k]).run P w = .ok (.tuple #[]) (delW P t M (kf k) w) := by
  obtain ⟨kt, e, K, ht, hz⟩ := T.out
  obtain ⟨F, rfl⟩ := h2.out
  obtain ⟨o, ho, hs⟩ := h.out.mp_open
  obtain ⟨o', _, hup⟩ := run_delete_mp K ht hs.obj ho k
  unfold delW
  rw [hup, hup]; rfl

theorem put_sat (T : MapT P t κ kf z) {w : World} {M : Nat} {k : κ} {v : Value} {A A' : Assn} {ms : List (κ × Value)} [h : SatI A w] [h2 : HasM A M kf ms] [h3 : UpdM A M kf (mput k v ms) A'] : SatI A' (putW P t M (kf k) v w) := by
  obtain ⟨kt, e, K, ht, hz⟩ := T.out
  obtain ⟨G, e1⟩ := h2.out
  obtain ⟨ms0, F, e2, rfl⟩ := h3.out
  have hs1 : Sat (mp kf M ms * G) w := h.out.eq e1
  have hs2 : Sat (mp kf M ms0 * F) w := h.out.eq e2
  obtain ⟨o, ho, hs1⟩ := hs1.mp_open
  obtain ⟨o2, ho2, hs2⟩ := hs2.mp_open
  have e3 : o2 = o := by have := hs1.obj; rw [hs2.obj] at this; exact Option.some.inj this
  subst e3
  obtain ⟨o', ho', hup⟩ := run_mapUpdate_mp K ht hs1.obj ho k v
  unfold putW
  rw [hup]
  exact ⟨Sat.mp_shut ho' (hs2.setRaw o')⟩
theorem del_sat (T : MapT P t κ kf z) {w : World} {M : Nat} {k : κ} {A A' : Assn} {ms : List (κ × Value)} [h : SatI A w] [h2 : HasM A M kf ms] [h3 : UpdM A M kf (mdel k ms) A'] : SatI A' (delW P t M (kf k) w) := by
  obtain ⟨kt, e, K, ht, hz⟩ := T.out
  obtain ⟨G, e1⟩ := h2.out
  obtain ⟨ms0, F, e2, rfl⟩ := h3.out
  have hs1 : Sat (mp kf M ms * G) w := h.out.eq e1
  have hs2 : Sat (mp kf M ms0 * F) w := h.out.eq e2
  obtain ⟨o, ho, hs1⟩ := hs1.mp_open
  obtain ⟨o2, ho2, hs2⟩ := hs2.mp_open
  have e3 : o2 = o := by have := hs1.obj; rw [hs2.obj] at this; exact Option.some.inj this
  subst e3
  obtain ⟨o', ho', hup⟩ := run_delete_mp K ht hs1.obj ho k
  unfold delW
  rw [hup]
  exact ⟨Sat.mp_shut ho' (hs2.setRaw o')⟩
end

end Go.Sl
