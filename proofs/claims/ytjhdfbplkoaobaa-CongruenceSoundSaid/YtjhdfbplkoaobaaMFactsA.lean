/- The program may be entered as the rows of this seat enter it. -/
import Derived.Test.YtjhdfbplkoaobaaRows
import Derived.ProofKit
set_option linter.unusedVariables false
set_option linter.unusedSimpArgs false
namespace Go.Proofs.Ytjhdfbplkoaobaa.Facts
theorem mayEnter : Try.pinned.checked.prog.mayEnter = true := by kernel_rfl
end Go.Proofs.Ytjhdfbplkoaobaa.Facts
