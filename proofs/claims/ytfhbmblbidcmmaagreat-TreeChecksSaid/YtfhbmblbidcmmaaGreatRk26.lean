/-
  Of any pages in a file a root is found to be a tree just if it is one in the form of the document. No condition. (part 26)
-/
import Derived.Test.YtfhbmblbidcmmaaGreatRk11
set_option linter.unusedSimpArgs false
set_option linter.unusedVariables false
namespace Go.Tr
set_option linter.unusedSimpArgs false
set_option linter.unusedVariables false
section
variable {σ : Type} {X : Env σ}
def Env.or (X : Env σ) (e : Int) : Env σ := { X with bad := fun x => X.bad x ∨ x = e }
theorem Tl.scraps {v : Int → Option Nd} {x : Tall} {l : List Ent} (h : Tl v x l) : x.kid.scraps = l.length := by
 rcases h with ⟨rfl, rfl⟩ | ⟨h, h1, h2⟩
 · rfl
 · exact h2.fine.scraps
end
end Go.Tr
namespace Go.Tr
set_option linter.unusedSimpArgs false
set_option linter.unusedVariables false
section
variable {σ : Type}
def kidsTo (g : Int → List Ent → M σ (List Ent)) : List Kd → List Ent → M σ (List Ent)
 | [], out => M.pure out
 | k :: ks, out => M.bind (g k.page out) (kidsTo g ks)
def listTo (rd : Int → M σ Nd) : Nat → Int → List Ent → M σ (List Ent)
 | 0, _, _ => M.fail 13
 | f + 1, no, out => M.bind (rd no) fun n => if 1024 < (out ++ n.ents).length then M.fail 13 else kidsTo (listTo rd f) n.kids (out ++ n.ents)
def tList (rd : Int → M σ Nd) (root : Int) : M σ (List Ent) := if root = 0 then M.pure [] else listTo rd 21 root []
variable {X : Env σ}
end
end Go.Tr
