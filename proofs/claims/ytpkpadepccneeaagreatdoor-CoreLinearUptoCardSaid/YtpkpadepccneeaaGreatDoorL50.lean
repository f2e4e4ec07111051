/- The closed facts of the function CoreLinear. No condition. -/
import Derived.Test.YtpkpadepccneeaaGreatDoorRows
import Derived.Test.YtpkpadepccneeaaGreatDoorL01
import Derived.Stop.Joined
namespace Go.Proofs.YtpkpadepccneeaaGreatDoor.coreLinear
set_option linter.unusedVariables false
set_option maxRecDepth 100000 in
theorem joined5 : joinedFacts Tryz.pinned.checked.prog 5 Tryz.f5 Rows.coreLinearSpec Rows.coreLinearUptoRow = true := by kernel_rfl
end Go.Proofs.YtpkpadepccneeaaGreatDoor.coreLinear
