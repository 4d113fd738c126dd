/- Facts of the program as a whole, the first half. -/
import Derived.Test.YtaloefkkllebeaaDoorRows
import Derived.KernelRfl
import Derived.JoinedOf
set_option linter.unusedVariables false
set_option linter.unusedSimpArgs false
set_option linter.unusedSectionVars false
namespace Go.Proofs.YtaloefkkllebeaaDoor
open Go
theorem Tryd.isLaid : laidOutB Tryd.prog = true := by kernel_rfl
theorem Tryd.isRowed : mapsRowed Tryd.prog = true := by kernel_rfl
theorem Tryd.isHeard : Tryd.prog.stopsHeard = true := by kernel_rfl
theorem Tryd.mayIn : Tryd.prog.mayEnter = true := by kernel_rfl
end Go.Proofs.YtaloefkkllebeaaDoor
