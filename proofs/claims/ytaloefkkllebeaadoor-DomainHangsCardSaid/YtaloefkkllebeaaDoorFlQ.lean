/- Facts of the program as a whole, the second half. -/
import Derived.Test.YtaloefkkllebeaaDoorRows
import Derived.KernelRfl
import Derived.JoinedOf
set_option linter.unusedVariables false
set_option linter.unusedSimpArgs false
set_option linter.unusedSectionVars false
namespace Go.Proofs.YtaloefkkllebeaaDoor
open Go
theorem Tryd.lifts : (Rows.shaSumsRow.lifted == Tryd.prog.liftsFinal) = true := by kernel_rfl
theorem Tryd.made : (Tryd.prog.make == some Rows.shaSumsRow.make) = true := by kernel_rfl
theorem Tryd.plain : (Rows.shaSumsRow.plainKeys == Tryd.prog.plainKeys) = true := by kernel_rfl
end Go.Proofs.YtaloefkkllebeaaDoor
