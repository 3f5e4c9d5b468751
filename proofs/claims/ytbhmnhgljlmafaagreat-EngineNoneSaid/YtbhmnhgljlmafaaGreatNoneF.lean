/- The closed facts of the row of EngineNone. -/
import Derived.Test.YtbhmnhgljlmafaaGreatRows
import Derived.WalkKit
import Derived.ProofKit
set_option linter.all false

namespace Go.Proofs.YtbhmnhgljlmafaaGreat
open Go
set_option maxRecDepth 100000 in
set_option maxHeartbeats 40000000 in
theorem engineNone_facts : joinedFacts Tryz.prog 6 Tryz.f6 Rows.engineNoneSpec Rows.engineNoneRow = true := by
  simp only [joinedFacts, Bool.and_eq_true]
  repeat' apply And.intro
  all_goals (as_aux_lemma => kernel_rfl)
theorem engineNone_named : Tryz.prog.funcNamed Rows.engineNoneRow.func = some 6 := by kernel_rfl
theorem engineNone_inst : Tryz.f6.isInstance Tryz.prog Rows.engineNoneRow.origin Rows.engineNoneRow.targs := of_decide_eq_true (by kernel_rfl)
set_option maxRecDepth 100000 in
set_option maxHeartbeats 40000000 in
theorem engineNone_wrap : Tryz.f6.isWrapper Tryz.prog Rows.engineNoneRow.wrapper Rows.engineNoneRow.mainSum := by unfold Func.isWrapper; first | (rw [if_pos (by decide +kernel)]; kernel_rfl) | (rw [if_neg (by decide +kernel)]; exact ⟨rfl, rfl⟩)
end Go.Proofs.YtbhmnhgljlmafaaGreat
