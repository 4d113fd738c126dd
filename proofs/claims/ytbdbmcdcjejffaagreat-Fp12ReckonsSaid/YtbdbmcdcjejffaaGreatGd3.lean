/- The laws of fp2, walked over variable functions: powers, the field. -/
import Derived.Test.YtbdbmcdcjejffaaGreatGd2
set_option linter.unusedVariables false
set_option linter.unusedSimpArgs false
set_option linter.unusedSectionVars false
namespace Go.Proofs.YtbdbmcdcjejffaaGreat
open Go Go.Sh
theorem shortE {e : List UInt8} (h : decide ((e.length : Int) > 60) = false) : (partB e 0 e.length).length < 1048576 := by
  have := of_decide_eq_false h
  rw [partB_all]; omega

end Go.Proofs.YtbdbmcdcjejffaaGreat
