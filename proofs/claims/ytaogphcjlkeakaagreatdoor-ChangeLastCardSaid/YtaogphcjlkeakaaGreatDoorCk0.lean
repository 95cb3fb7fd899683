/- Part of the proof: AmCk0. -/
import Derived.Test.YtaogphcjlkeakaaGreatDoorHp
set_option linter.unusedSimpArgs false
set_option linter.unusedVariables false
section
namespace Go.Am
set_option maxRecDepth 1000000
theorem chunk0:chunkF envL0 100000 18 mem0 = true:=by kernel_rfl
end Go.Am
end
