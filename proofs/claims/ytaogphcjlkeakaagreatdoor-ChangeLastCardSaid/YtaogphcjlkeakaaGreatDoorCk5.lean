/- Part of the proof: AmCk5. -/
import Derived.Test.YtaogphcjlkeakaaGreatDoorHp
set_option linter.unusedSimpArgs false
set_option linter.unusedVariables false
section
namespace Go.Am
set_option maxRecDepth 1000000
theorem chunk5:chunkF envL1 100000 19 mem5 = true:=by kernel_rfl
end Go.Am
end
