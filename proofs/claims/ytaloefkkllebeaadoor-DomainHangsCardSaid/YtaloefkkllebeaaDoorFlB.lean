/- Facts of the program; rows of data. -/
import Derived.Test.YtaloefkkllebeaaDoorEn3
import Derived.Test.YtaloefkkllebeaaDoorFlP
import Derived.Test.YtaloefkkllebeaaDoorFlQ
set_option linter.unusedVariables false
set_option linter.unusedSimpArgs false
set_option linter.unusedSectionVars false
namespace Go.Proofs.YtaloefkkllebeaaDoor
open Go Go.Sh Go.RowKit

theorem Tryd.own : ownKnob Tryd.prog.godebug = none := by kernel_rfl

theorem one' {H : Type} {ds : List (DataW H)} (h : ds.length = 1) : ∃ a, ds = [a] := by
  match ds, h with
  | [a], _ => exact ⟨a, rfl⟩
theorem two' {H : Type} {ds : List (DataW H)} (h : ds.length = 2) : ∃ a b, ds = [a, b] := by
  match ds, h with
  | [a, b], _ => exact ⟨a, b, rfl⟩
theorem three' {H : Type} {ds : List (DataW H)} (h : ds.length = 3) : ∃ a b c, ds = [a, b, c] := by
  match ds, h with
  | [a, b, c], _ => exact ⟨a, b, c, rfl⟩

end Go.Proofs.YtaloefkkllebeaaDoor
