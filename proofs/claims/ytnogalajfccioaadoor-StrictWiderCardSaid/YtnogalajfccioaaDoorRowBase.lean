/- What the rows share: a start that meets the condition on the listed variable. -/
import Derived.Test.YtnogalajfccioaaDoorOpen
import Derived.WalkKit
import Derived.OpenShut
import Derived.ChangeOld
import Derived.Below
namespace Go.Proofs.YtnogalajfccioaaDoor
open Go.ChangeShapes Go.WideShapes Go.ChangeAt Go.RowKit Go.Proofs.YtnogalajfccioaaDoorW.PrintWords
set_option linter.unusedVariables false
theorem own_knob : ownKnob Tryd.prog.godebug = none := by kernel_rfl
theorem laid_out : laidOutB Tryd.prog = true := by kernel_rfl
abbrev laidKinds : List (String × DataW Unit) := [("recant/text.kinds", Rows.laid_recant_text_kinds)]
/-- The door's own heap meets the condition. -/
theorem door_met (os : Os) (args : Array Value) : laidMetH Tryd.prog laidKinds ((World.doorLaid Tryd.prog 600 os).forCall (fun _ _ => 0) ⟨#[], args, []⟩).memory :=
  laidMetH_of_parts3 (fuel := 8) (laidMet_of_run' 8 (by kernel_rfl) (by kernel_rfl)) (by kernel_rfl) (by kernel_rfl)
theorem kinds_of {W : World} (h : laidMetH Tryd.prog laidKinds W) : Kinds W := kinds_of_laid (l := []) (show laidMet Tryd.prog laidKinds W from h)
end Go.Proofs.YtnogalajfccioaaDoor
