/-
  The example of the chapter, in pieces; a call that is given nothing leaves what was.
-/
import Derived.Test.YtclmkcmpfkmbpaaGreatDoorAi30
import Derived.KernelRfl
set_option maxRecDepth 100000
set_option linter.unusedSectionVars false
namespace Go.Ai
open Go Go.Proofs

def big : Int := 9223372036854775807
def small : Int := -9223372036854775808
def top : Bd := ⟨small, big⟩
/-- Nothing is known of the inputs. -/
def cAny : Cls := ⟨top, top, top, top⟩
def NN : Nat := 100000
def pre4 (T : PM Value) (M : Mem) : R :=
  bindR (@exec (K2 cAny NN) tab NN (nth 0 ir4.body) T M) fun T M => bindR (@exec (K2 cAny NN) tab NN (nth 1 ir4.body) T M) fun T M => @exec (K2 cAny NN) tab NN (nth 2 ir4.body) T M
def post4 (T : PM Value) (M : Mem) : R := @exec (K2 cAny NN) tab NN (drp 3 ir4.body) T M
def isTrue : RC → Bool
  | .ret (.bool true) _ => true
  | _ => false
theorem isTrue_ret {r : RC} (h : isTrue r = true) : ∃ M, r = .ret (.bool true) M := by
  unfold isTrue at h
  split at h
  · exact ⟨_, rfl⟩
  · cases h
end Go.Ai
