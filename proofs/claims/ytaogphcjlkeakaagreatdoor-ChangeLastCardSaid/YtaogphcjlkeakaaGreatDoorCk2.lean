/- Part of the proof: AmCk2. -/
import Derived.Test.YtaogphcjlkeakaaGreatDoorHp
set_option linter.unusedSimpArgs false
set_option linter.unusedVariables false
section
namespace Go.Am
set_option maxRecDepth 1000000
theorem chunk2:chunkF envL1 100000 19 mem2 = true:=by kernel_rfl
end Go.Am
end
