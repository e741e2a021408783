/-
  The closed facts of MachineArgs's row.
-/
import Derived.Test.YtclmkcmpfkmbpaaGreatDoorRows
import Derived.JoinedCond
import Derived.KernelRfl
namespace Go.Proofs.YtclmkcmpfkmbpaaGreatDoor
namespace MArgs
theorem closed3 : joinedFacts Tryz.pinned.checked.prog 3 Tryz.f3 (OpenSpec.ofChange Rows.machineArgsSpec).bare Rows.machineArgsRow = true := by kernel_rfl
end MArgs
end Go.Proofs.YtclmkcmpfkmbpaaGreatDoor
