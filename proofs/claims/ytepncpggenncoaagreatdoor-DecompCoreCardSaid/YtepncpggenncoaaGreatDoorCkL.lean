import Derived.Test.YtepncpggenncoaaGreatDoorHp
set_option linter.unusedSimpArgs false
set_option linter.unusedVariables false
set_option maxRecDepth 1000000
set_option maxHeartbeats 8000000
namespace Go.Am
theorem k1v:j2n k1j 100000 4 memL=true:=by kernel_rfl
end Go.Am
