/- LimbsMonts, proved with no further conditions: for every input the law answers true and every argument reads behind the call as it read before. -/
import Derived.Test.YtaloefkkllebeaaMa6
import Derived.Test.YtaloefkkllebeaaFlB
set_option linter.unusedVariables false
set_option linter.unusedSimpArgs false
set_option linter.unusedSectionVars false
namespace Go.Proofs.Ytaloefkkllebeaa
open Go Go.Sh Go.RowKit

theorem limbsMonts_lifted (os : Os) (started : os.Started) (H : Type) (enc : TypeId × Value → H) :
    ReturnsInHanded {} Try.checked os 6 .any (Rows.limbsMontsSpec.pre6 enc Try.prog Try.f6 [] false) (Rows.limbsMontsSpec.post enc Try.prog Try.f6 false true false false) :=
  law_row (C := Try.checked) (tb := 4) rfl limbsMonts_ok 8 (by kernel_rfl) started Try.func6 (by kernel_rfl) (by kernel_rfl) Try.own (by kernel_rfl) Try.isLaid (by kernel_rfl) rfl (by kernel_rfl) (by kernel_rfl)
    (fun ds h => by obtain ⟨a, b, c, rfl⟩ := three' h; rfl)
    (ChangeSpec.witness6 (enc := enc) (C := Try.checked) false ⟨#[], #[.agg #[.int .u64 0, .int .u64 0, .int .u64 0, .int .u64 0, .int .u64 0, .int .u64 0], .agg #[.int .u64 0, .int .u64 0, .int .u64 0, .int .u64 0, .int .u64 0, .int .u64 0], .agg #[.int .u64 0, .int .u64 0, .int .u64 0, .int .u64 0, .int .u64 0, .int .u64 0]], []⟩ 8 (by kernel_rfl) (by kernel_rfl) (by kernel_rfl) (by kernel_rfl))

theorem limbsMonts_facts : joinedFacts Try.prog 6 Try.f6 Rows.limbsMontsSpec Rows.limbsMontsRow = true := by
  have h1 : (Rows.limbsMontsRow.inPlace == Try.prog.inPlace 6) = true := by kernel_rfl
  have h2 : (Rows.limbsMontsRow.unfollowed == Try.prog.unfollowed 6) = true := by kernel_rfl
  have h3 : (Rows.limbsMontsRow.recurses == Try.prog.recurses 6) = true := by kernel_rfl
  have h4 : (Rows.limbsMontsRow.named == Try.prog.varsNamed 6) = true := by kernel_rfl
  have h5 : (Rows.limbsMontsRow.lifted == Try.prog.liftsFinal) = true := Try.lifts
  have h6 : (Try.prog.make == some Rows.limbsMontsRow.make) = true := Try.made
  have h7 : (Rows.limbsMontsRow.plainKeys == Try.prog.plainKeys) = true := Try.plain
  unfold joinedFacts
  rw [Try.isLaid, Try.isRowed, h1, h2, h3, h4, Try.isHeard, Try.mayIn, h5, h6, h7]
  show _ = true
  kernel_rfl

theorem limbsMonts_holds : Rows.LimbsMontsSaid :=
  OpenClaim.holds_of_wide 6 Try.f6 rfl rfl rfl rfl rfl rfl rfl ⟨rfl, rfl, rfl, rfl, rfl⟩ rfl rfl rfl rfl rfl (by kernel_rfl) Try.func6 limbsMonts_facts
    (of_decide_eq_true (by kernel_rfl)) (by unfold Func.isWrapper; rw [if_neg (of_decide_eq_true (by kernel_rfl))]; exact ⟨rfl, rfl⟩)
    (fun os started H enc _ => limbsMonts_lifted os started H enc)

end Go.Proofs.Ytaloefkkllebeaa
