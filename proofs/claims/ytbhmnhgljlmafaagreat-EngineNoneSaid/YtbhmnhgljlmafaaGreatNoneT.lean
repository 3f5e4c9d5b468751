/- 'EngineNone' answers true for every input, and each argument reads behind the call as it read before. No condition. -/
import Derived.Test.YtbhmnhgljlmafaaGreatNoneE
import Derived.Test.YtbhmnhgljlmafaaGreatNoneF
set_option linter.all false

namespace Go.Proofs.YtbhmnhgljlmafaaGreat
open Go

theorem engineNone_holds : Rows.EngineNoneSaid :=
  OpenClaim.holds_of_wide 6 Tryz.f6 rfl rfl rfl rfl rfl rfl rfl ⟨rfl, rfl, rfl, rfl, rfl⟩ rfl rfl rfl rfl rfl engineNone_named Tryz.func6 engineNone_facts engineNone_inst engineNone_wrap
    (fun os started H enc _ => engineNone_lifted os started H enc)

end Go.Proofs.YtbhmnhgljlmafaaGreat
