/- What the program lifts is what the rows of this seat say. -/
import Derived.Test.YtjhdfbplkoaobaaRows
import Derived.ProofKit
set_option linter.unusedVariables false
set_option linter.unusedSimpArgs false
namespace Go.Proofs.Ytjhdfbplkoaobaa.Facts
theorem lifts : (Rows.congruenceExamplesRow.lifted == Try.pinned.checked.prog.liftsFinal) = true := by kernel_rfl
end Go.Proofs.Ytjhdfbplkoaobaa.Facts
