/- Part of the proof: AmCk3. -/
import Derived.Test.YthdompljhpeimaaGreatDoorHp
section
namespace Go.Am
set_option maxRecDepth 1000000
/-- Chunk 3, by the kernel. -/
theorem chunk3 : chunkF envL0 100000 9 mem3 = true := by kernel_rfl
end Go.Am
end
