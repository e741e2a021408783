/-
  The classes of inputs: in each the law answers true.
-/
import Derived.Test.YtclmkcmpfkmbpaaGreatDoorAi35
set_option maxRecDepth 100000
namespace Go.Ai
open Go Go.Proofs
def wOk : Bd := ⟨32, 65536⟩
def wLo : Bd := ⟨small, 31⟩
def wHi : Bd := ⟨65537, big⟩
def sNeg : Bd := ⟨small, -1⟩
def sBig : Bd := ⟨16385, big⟩
def sOk : Bd := ⟨0, 16384⟩
def mOk : Bd := ⟨1, big⟩
def okC (c : Cls) : Bool := isTrue (@finish (K2 c NN) ir3 (post3 c s3T s3M))
theorem ok1 : okC ⟨wLo, sNeg, top, top⟩ = true := by kernel_rfl
theorem ok2 : okC ⟨wLo, sOk, top, top⟩ = true := by kernel_rfl
theorem ok3 : okC ⟨wLo, sBig, top, top⟩ = true := by kernel_rfl
theorem ok4 : okC ⟨wHi, sNeg, top, top⟩ = true := by kernel_rfl
theorem ok5 : okC ⟨wHi, sOk, top, top⟩ = true := by kernel_rfl
theorem ok6 : okC ⟨wHi, sBig, top, top⟩ = true := by kernel_rfl
theorem ok7 : okC ⟨wOk, sNeg, top, top⟩ = true := by kernel_rfl
theorem ok8 : okC ⟨wOk, sBig, top, top⟩ = true := by kernel_rfl
theorem ok9 : okC ⟨wOk, sOk, ⟨small, 0⟩, top⟩ = true := by kernel_rfl
theorem ok10 : okC ⟨wOk, sOk, mOk, ⟨small, -1⟩⟩ = true := by kernel_rfl
theorem ok11 : okC ⟨wOk, sOk, mOk, ⟨0, 0⟩⟩ = true := by kernel_rfl
theorem ok12 : okC ⟨wOk, ⟨0, 2⟩, mOk, ⟨1, big⟩⟩ = true := by kernel_rfl
end Go.Ai
