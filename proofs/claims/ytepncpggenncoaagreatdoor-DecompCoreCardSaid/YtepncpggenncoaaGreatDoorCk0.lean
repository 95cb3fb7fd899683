import Derived.Test.YtepncpggenncoaaGreatDoorHp
set_option linter.unusedSimpArgs false
set_option linter.unusedVariables false
set_option maxRecDepth 1000000
set_option maxHeartbeats 8000000
namespace Go.Am
theorem k1x:j2n q7x 100000 7 mem0=true:=by kernel_rfl
end Go.Am
