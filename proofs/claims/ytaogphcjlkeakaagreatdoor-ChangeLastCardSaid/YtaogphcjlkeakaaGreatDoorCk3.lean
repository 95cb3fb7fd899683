/- Part of the proof: AmCk3. -/
import Derived.Test.YtaogphcjlkeakaaGreatDoorHp
set_option linter.unusedSimpArgs false
set_option linter.unusedVariables false
section
namespace Go.Am
set_option maxRecDepth 1000000
theorem chunk3:chunkF envL0 100000 66 mem3 = true:=by kernel_rfl
end Go.Am
end
