/- Facts of the program as a whole, the first half. -/
import Derived.Test.YtbdbmcdcjejffaaGreatRows
import Derived.KernelRfl
import Derived.JoinedOf
set_option linter.unusedVariables false
set_option linter.unusedSimpArgs false
set_option linter.unusedSectionVars false
namespace Go.Proofs.YtbdbmcdcjejffaaGreat
open Go
theorem Tryz.isLaid : laidOutB Tryz.prog = true := by kernel_rfl
theorem Tryz.isRowed : mapsRowed Tryz.prog = true := by kernel_rfl
theorem Tryz.isHeard : Tryz.prog.stopsHeard = true := by kernel_rfl
theorem Tryz.mayIn : Tryz.prog.mayEnter = true := by kernel_rfl
end Go.Proofs.YtbdbmcdcjejffaaGreat
