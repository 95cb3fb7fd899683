/- Part of the proof: AmCkL. -/
import Derived.Test.YtaogphcjlkeakaaGreatDoorHp
set_option linter.unusedSimpArgs false
set_option linter.unusedVariables false
section
namespace Go.Am
set_option maxRecDepth 1000000
theorem chunkL:chunkF envL2 100000 4 memL = true:=by kernel_rfl
end Go.Am
end
