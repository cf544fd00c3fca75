/-
  A fact of the program that every statement of a law wants.
-/
import Derived.Test.YtmnmbpcbfmhceaaRows
import Derived.JoinedOf
set_option linter.unusedVariables false
namespace Go.Proofs.Ytmnmbpcbfmhceaa

theorem liftsT : (Rows.pageDataRow.lifted == Try.checked.prog.liftsFinal) = true := by kernel_rfl

end Go.Proofs.Ytmnmbpcbfmhceaa
