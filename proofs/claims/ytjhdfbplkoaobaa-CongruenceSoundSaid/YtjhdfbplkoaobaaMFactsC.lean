/- How the program was made is what the rows of this seat say. -/
import Derived.Test.YtjhdfbplkoaobaaRows
import Derived.ProofKit
set_option linter.unusedVariables false
set_option linter.unusedSimpArgs false
namespace Go.Proofs.Ytjhdfbplkoaobaa.Facts
theorem make : (Try.pinned.checked.prog.make == some Rows.congruenceExamplesRow.make) = true := by kernel_rfl
end Go.Proofs.Ytjhdfbplkoaobaa.Facts
