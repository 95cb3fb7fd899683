/- Part of the proof: AmCkL. -/
import Derived.Test.YtkajhokkaadiiaaGreatDoorHp
section
namespace Go.Am
set_option maxRecDepth 1000000
/-- The last one, by the kernel. -/
theorem chunkL : chunkF envL1 100000 6 memL = true := by kernel_rfl
end Go.Am
end
