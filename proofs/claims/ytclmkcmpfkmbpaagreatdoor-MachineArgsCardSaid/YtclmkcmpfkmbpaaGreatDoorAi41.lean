/-
  The bare row of MachineArgs.
-/
import Derived.Test.YtclmkcmpfkmbpaaGreatDoorAi40
import Derived.Test.YtclmkcmpfkmbpaaGreatDoorAi43
namespace Go.Proofs.YtclmkcmpfkmbpaaGreatDoor
namespace MArgs
open Go.ChangeShapes Go.WideShapes Go.ChangeAt Go.RowKit Go.WideMaps

theorem said : Rows.MachineArgsSaid :=
  OpenClaim.holds_of_cond 3 Tryz.f3 rfl rfl rfl rfl rfl rfl rfl ⟨rfl, rfl, rfl, rfl, rfl⟩ rfl rfl rfl rfl rfl (by kernel_rfl) Tryz.func3 closed3
    (of_decide_eq_true (by kernel_rfl)) (by unfold Func.isWrapper; first | (rw [if_pos (by decide +kernel)]; kernel_rfl) | (rw [if_neg (by decide +kernel)]; exact ⟨rfl, rfl⟩))
    (fun os started H enc _ F => by rw [OpenClaim.pre_eq_preRow]; exact lifted os started H enc F)

end MArgs
end Go.Proofs.YtclmkcmpfkmbpaaGreatDoor
