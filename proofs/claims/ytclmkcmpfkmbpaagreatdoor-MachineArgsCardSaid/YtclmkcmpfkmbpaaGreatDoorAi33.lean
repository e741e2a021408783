/-
  The example of the chapter: the machine's run.
-/
import Derived.Test.YtclmkcmpfkmbpaaGreatDoorAi32
set_option maxRecDepth 100000
namespace Go.Ai
open Go Go.Proofs
theorem post4_is : isTrue (@finish (K2 cAny NN) ir4 (post4 s4T s4M)) = true := by kernel_rfl
end Go.Ai
