/- The abstract machine over this program: begun() returns true. -/
import Derived.Test.YtbhmnhgljlmafaaGreatMhf
import Derived.KernelRfl
set_option linter.all false

namespace Am
open Go Go.Proofs

def okTrue : CallRes → Bool
  | .ret (.bool true) _ => true
  | _ => false

set_option maxRecDepth 100000 in
theorem Tz.begun : okTrue (acall Tz.F (fun _ => none) Tz.prim 3000 15 [] ⟨0, .leaf⟩) = true := by kernel_rfl

end Am
