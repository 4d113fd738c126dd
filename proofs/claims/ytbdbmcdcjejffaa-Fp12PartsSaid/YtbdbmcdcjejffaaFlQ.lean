/- Facts of the program as a whole, the second half. -/
import Derived.Test.YtbdbmcdcjejffaaRows
import Derived.KernelRfl
import Derived.JoinedOf
set_option linter.unusedVariables false
set_option linter.unusedSimpArgs false
set_option linter.unusedSectionVars false
namespace Go.Proofs.Ytbdbmcdcjejffaa
open Go
theorem Try.lifts : (Rows.fpLawsRow.lifted == Try.prog.liftsFinal) = true := by kernel_rfl
theorem Try.made : (Try.prog.make == some Rows.fpLawsRow.make) = true := by kernel_rfl
theorem Try.plain : (Rows.fpLawsRow.plainKeys == Try.prog.plainKeys) = true := by kernel_rfl
end Go.Proofs.Ytbdbmcdcjejffaa
