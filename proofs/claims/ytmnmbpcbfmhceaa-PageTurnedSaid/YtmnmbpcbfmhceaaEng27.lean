/-
  THE ENGINE, 27: facts of the program that each statement of a law wants, and its types' shapes.
-/
import Derived.Test.YtmnmbpcbfmhceaaEng26
import Derived.Test.YtmnmbpcbfmhceaaFa4
set_option linter.unusedSimpArgs false
set_option linter.unusedVariables false
namespace Go.Proofs.Ytmnmbpcbfmhceaa
open Go.Eng

theorem ownT : ownKnob Try.prog.godebug = none := by kernel_rfl
theorem laidT : laidOutB Try.prog = true := by kernel_rfl

end Go.Proofs.Ytmnmbpcbfmhceaa
