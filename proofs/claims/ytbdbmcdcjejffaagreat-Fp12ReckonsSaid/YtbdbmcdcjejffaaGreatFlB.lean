/- FpLaws, proved with no further conditions: for every input the law answers true and every argument reads behind the call as it read before. -/
import Derived.Test.YtbdbmcdcjejffaaGreatFe5
import Derived.Test.YtbdbmcdcjejffaaGreatEn3
import Derived.Test.YtbdbmcdcjejffaaGreatFlP
import Derived.Test.YtbdbmcdcjejffaaGreatFlQ
set_option linter.unusedVariables false
set_option linter.unusedSimpArgs false
set_option linter.unusedSectionVars false
namespace Go.Proofs.YtbdbmcdcjejffaaGreat
open Go Go.Sh Go.RowKit

theorem Tryz.own : ownKnob Tryz.prog.godebug = none := by kernel_rfl

theorem one' {H : Type} {ds : List (DataW H)} (h : ds.length = 1) : ∃ a, ds = [a] := by
  match ds, h with
  | [a], _ => exact ⟨a, rfl⟩
theorem two' {H : Type} {ds : List (DataW H)} (h : ds.length = 2) : ∃ a b, ds = [a, b] := by
  match ds, h with
  | [a, b], _ => exact ⟨a, b, rfl⟩
theorem three' {H : Type} {ds : List (DataW H)} (h : ds.length = 3) : ∃ a b c, ds = [a, b, c] := by
  match ds, h with
  | [a, b, c], _ => exact ⟨a, b, c, rfl⟩

end Go.Proofs.YtbdbmcdcjejffaaGreat
