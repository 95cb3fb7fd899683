/- Part of the proof: AmCk2. -/
import Derived.Test.YthdompljhpeimaaGreatDoorHp
section
namespace Go.Am
set_option maxRecDepth 1000000
/-- Chunk 2, by the kernel. -/
theorem chunk2 : chunkF envL0 100000 8 mem2 = true := by kernel_rfl
end Go.Am
end
