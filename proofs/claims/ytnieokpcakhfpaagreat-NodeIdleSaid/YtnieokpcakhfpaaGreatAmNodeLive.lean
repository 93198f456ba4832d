/-
  The closed part of the statements about nodes, run by the kernel.
-/
import Derived.Test.YtnieokpcakhfpaaGreatAmNode
import Derived.KernelRfl
namespace Go.AM
theorem live53 (H : Heap) : arun tab 60 53 H [] = some (.bool true, H) := by kernel_rfl
end Go.AM
