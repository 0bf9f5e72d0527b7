/- Layer 13: the events that the law keeps alive with, plain. -/
import Derived.Test.YtnogalajfccioaaDoorEval
namespace Go.Proofs.YtnogalajfccioaaDoor
def h13 : List Ev := [⟨0, 1, 0, 0⟩, ⟨1, 1, 0, 0⟩, ⟨2, 1, 0, 0⟩, ⟨3, 1, 0, 5⟩, ⟨8, 1, 0, 0⟩]
theorem why13 : why h13 = 0 := by decide +kernel
theorem check13 : (checkF h13 9).verdict = 1 ∧ (checkF h13 9).place = 4 ∧ (checkF h13 9).row.length = 1 := by rw [check_eval]; decide +kernel
end Go.Proofs.YtnogalajfccioaaDoor
