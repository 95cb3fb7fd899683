/- Part of the proof: AmCk4. -/
import Derived.Test.YthdompljhpeimaaGreatDoorHp
section
namespace Go.Am
set_option maxRecDepth 1000000
/-- Chunk 4, by the kernel. -/
theorem chunk4 : chunkF envL0 100000 8 mem4 = true := by kernel_rfl
end Go.Am
end
