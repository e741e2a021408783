/-
  The classes of inputs in which the machine runs: in each the law answers true.
-/
import Derived.Test.YtclmkcmpfkmbpaaGreatDoorAi36
set_option maxRecDepth 100000
namespace Go.Ai
open Go Go.Proofs
theorem ok13 : okC ⟨wOk, ⟨3, 16384⟩, mOk, ⟨1, 1⟩⟩ = true := by kernel_rfl
theorem ok14 : okC ⟨wOk, ⟨3, 16384⟩, mOk, ⟨2, 2⟩⟩ = true := by kernel_rfl
theorem ok15 : okC ⟨wOk, ⟨3, 16384⟩, mOk, ⟨3, 3⟩⟩ = true := by kernel_rfl
theorem ok16 : okC ⟨wOk, ⟨3, 16384⟩, mOk, ⟨4, big⟩⟩ = true := by kernel_rfl
end Go.Ai
