/- Facts of the program as a whole, the second half. -/
import Derived.Test.YtbdbmcdcjejffaaGreatRows
import Derived.KernelRfl
import Derived.JoinedOf
set_option linter.unusedVariables false
set_option linter.unusedSimpArgs false
set_option linter.unusedSectionVars false
namespace Go.Proofs.YtbdbmcdcjejffaaGreat
open Go
theorem Tryz.lifts : (Rows.fp12ReckonsRow.lifted == Tryz.prog.liftsFinal) = true := by kernel_rfl
theorem Tryz.made : (Tryz.prog.make == some Rows.fp12ReckonsRow.make) = true := by kernel_rfl
theorem Tryz.plain : (Rows.fp12ReckonsRow.plainKeys == Tryz.prog.plainKeys) = true := by kernel_rfl
end Go.Proofs.YtbdbmcdcjejffaaGreat
