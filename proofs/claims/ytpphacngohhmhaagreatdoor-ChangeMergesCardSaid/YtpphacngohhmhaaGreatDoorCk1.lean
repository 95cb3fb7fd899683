/- Part of the proof: AmCk1. -/
import Derived.Test.YtpphacngohhmhaaGreatDoorHp
set_option linter.unusedSimpArgs false
set_option linter.unusedVariables false
section
namespace Go.Am
set_option maxRecDepth 1000000
/-- Chunk 1, by the kernel. -/
theorem chunk1 : chunkF envL0 100000 14 mem1 = true := by kernel_rfl
end Go.Am
end
