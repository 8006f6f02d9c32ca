/- Facts about the whole program that every row of this seat wants. -/
import Derived.Test.YtjhdfbplkoaobaaMFactsA
import Derived.Test.YtjhdfbplkoaobaaMFactsB
import Derived.Test.YtjhdfbplkoaobaaMFactsC
set_option linter.unusedVariables false
set_option linter.unusedSimpArgs false
namespace Go.Proofs.Ytjhdfbplkoaobaa.Facts
theorem own : ownKnob Try.prog.godebug = none := by kernel_rfl
theorem laidOut : laidOutB Try.pinned.checked.prog = true := by kernel_rfl
theorem mapsRowed : mapsRowed Try.pinned.checked.prog = true := by kernel_rfl
theorem plainKeys : (Rows.congruenceExamplesRow.plainKeys == Try.pinned.checked.prog.plainKeys) = true := by kernel_rfl
theorem stopsHeard : Try.pinned.checked.prog.stopsHeard = true := by kernel_rfl
end Go.Proofs.Ytjhdfbplkoaobaa.Facts
