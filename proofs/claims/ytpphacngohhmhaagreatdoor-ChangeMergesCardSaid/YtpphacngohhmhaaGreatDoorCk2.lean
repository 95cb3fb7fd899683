/- Part of the proof: AmCk2. -/
import Derived.Test.YtpphacngohhmhaaGreatDoorHp
set_option linter.unusedSimpArgs false
set_option linter.unusedVariables false
section
namespace Go.Am
set_option maxRecDepth 1000000
/-- Chunk 2, by the kernel. -/
theorem chunk2 : chunkF envL1 100000 17 mem2 = true := by kernel_rfl
end Go.Am
end
