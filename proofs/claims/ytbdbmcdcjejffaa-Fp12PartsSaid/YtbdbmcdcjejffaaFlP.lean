/- Facts of the program as a whole, the first half. -/
import Derived.Test.YtbdbmcdcjejffaaRows
import Derived.KernelRfl
import Derived.JoinedOf
set_option linter.unusedVariables false
set_option linter.unusedSimpArgs false
set_option linter.unusedSectionVars false
namespace Go.Proofs.Ytbdbmcdcjejffaa
open Go
theorem Try.isLaid : laidOutB Try.prog = true := by kernel_rfl
theorem Try.isRowed : mapsRowed Try.prog = true := by kernel_rfl
theorem Try.isHeard : Try.prog.stopsHeard = true := by kernel_rfl
theorem Try.mayIn : Try.prog.mayEnter = true := by kernel_rfl
end Go.Proofs.Ytbdbmcdcjejffaa
