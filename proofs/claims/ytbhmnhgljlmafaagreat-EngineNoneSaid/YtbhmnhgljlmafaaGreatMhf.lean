/- The abstract machine over this program: the primitives. -/
import Derived.Test.YtbhmnhgljlmafaaGreatMg
import Derived.Test.YtbhmnhgljlmafaaGreatMhe
set_option linter.all false

namespace Am
open Go Go.Proofs

variable {B : Nat} {W0 : World}

def Tz.prim : PrimF := fun f =>
  bif Nat.beq f 110 then some pNames else bif Nat.beq f 374 then some pRoom else bif Nat.beq f 155 then some pFrom
  else bif Nat.beq f 156 then some pBits else bif Nat.beq f 319 then some pCeil else none

theorem Tz.primOK : PrimOK Tryz.prog B W0 Tz.prim := by
  intro f g h args H hs
  unfold Tz.prim at h
  simp only [Bool.cond_eq_ite, Tree.beq_eq, decide_eq_true_eq] at h
  split at h
  · rename_i e; subst e; simp at h; subst h; exact pNames_ok hs
  split at h
  · rename_i e; subst e; simp at h; subst h; exact pRoom_ok hs
  split at h
  · rename_i e; subst e; simp at h; subst h; exact pFrom_ok hs
  split at h
  · rename_i e; subst e; simp at h; subst h; exact pBits_ok hs
  split at h
  · rename_i e; subst e; simp at h; subst h; exact pCeil_ok hs
  · exact absurd h (by simp)

end Am
