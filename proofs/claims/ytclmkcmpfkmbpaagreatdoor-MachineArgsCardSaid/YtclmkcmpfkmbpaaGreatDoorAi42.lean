/-
  Proved: the law reverielaw21.MachineArgs answers true and leaves its argument as it was, for every input; its card, tied to the program's text (the three tables that its row lists are never read on its road).
-/
import Derived.Test.YtclmkcmpfkmbpaaGreatDoorCards
import Derived.Test.YtclmkcmpfkmbpaaGreatDoorTie
import Derived.Test.YtclmkcmpfkmbpaaGreatDoorAi41
namespace Go.Proofs.YtclmkcmpfkmbpaaGreatDoor
namespace MArgs
open Go.ChangeShapes Go.WideShapes Go.ChangeAt Go.RowKit Go.WideMaps

/-- No parameter wants a stand-in; the program's own looks are off. -/
theorem plain (f : FuncId) (fn : Func) (hf : Tryz.pinned.checked.prog.funcNamed "reverie/reverielaw21.MachineArgs" = some f) (hfn : Tryz.pinned.checked.prog.funcs[f]? = some fn) :
    true = Tryz.pinned.checked.prog.looks [] ∧ ∀ (j : Nat) t, fn.params[j]? = some t → Tryz.pinned.checked.prog.wantsStandIn t = false := by
  obtain rfl : f = 3 := Option.some.inj ((show Tryz.prog.funcNamed "reverie/reverielaw21.MachineArgs" = some 3 by kernel_rfl).symm.trans hf) |>.symm
  obtain rfl : fn = Tryz.f3 := (Option.some.inj (Tryz.func3.symm.trans hfn)).symm
  refine ⟨by kernel_rfl, fun j t ht => ?_⟩
  rw [Tryz.params3] at ht
  obtain rfl : t = 22 := by simpa using Array.mem_of_getElem? ht
  exact (show Tryz.prog.wantsStandIn 22 = false by kernel_rfl)
end MArgs

/-- The card. -/
theorem machineArgs_card : Rows.MachineArgsCardSaid :=
  Claim7.holds_tied_plain_at .later [] _ _ _ _ MArgs.said (fun _ h => by cases h) (by kernel_rfl) (fun _ h => by cases h) machineArgs_row_tie rfl ⟨rfl, rfl⟩ (by kernel_rfl) rfl MArgs.plain (by kernel_rfl)
#print axioms machineArgs_card
end Go.Proofs.YtclmkcmpfkmbpaaGreatDoor
