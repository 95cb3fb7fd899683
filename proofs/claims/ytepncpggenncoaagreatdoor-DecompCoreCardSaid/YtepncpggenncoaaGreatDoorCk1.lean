import Derived.Test.YtepncpggenncoaaGreatDoorHp
set_option linter.unusedSimpArgs false
set_option linter.unusedVariables false
set_option maxRecDepth 1000000
set_option maxHeartbeats 8000000
namespace Go.Am
theorem k1w:j2n q7x 100000 17 mem1=true:=by kernel_rfl
end Go.Am
