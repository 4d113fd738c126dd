/- FrLaws, proved with no further conditions: for every input the law answers true and every argument reads behind the call as it read before. -/
import Derived.Test.YtaloefkkllebeaaFb1
import Derived.Test.YtaloefkkllebeaaFlB
set_option linter.unusedVariables false
set_option linter.unusedSimpArgs false
set_option linter.unusedSectionVars false
namespace Go.Proofs.Ytaloefkkllebeaa
open Go Go.Sh Go.RowKit

theorem frLaws_lifted (os : Os) (started : os.Started) (H : Type) (enc : TypeId × Value → H) :
    ReturnsInHanded {} Try.checked os 12 .any (Rows.frLawsSpec.pre6 enc Try.prog Try.f12 [] false) (Rows.frLawsSpec.post enc Try.prog Try.f12 false true false false) :=
  law_row (C := Try.checked) (tb := 4) rfl frLaws_ok 8 (by kernel_rfl) started Try.func12 (by kernel_rfl) (by kernel_rfl) Try.own (by kernel_rfl) Try.isLaid (by kernel_rfl) rfl (by kernel_rfl) (by kernel_rfl)
    (fun ds h => by obtain ⟨a, b, c, rfl⟩ := three' h; rfl)
    (ChangeSpec.witness6 (enc := enc) (C := Try.checked) false ⟨#[], #[spotVal 0 ⟨none, 0⟩, spotVal 0 ⟨none, 0⟩, spotVal 0 ⟨none, 0⟩], []⟩ 8 (by kernel_rfl) (by kernel_rfl) (by kernel_rfl) (by kernel_rfl))

theorem frLaws_facts : joinedFacts Try.prog 12 Try.f12 Rows.frLawsSpec Rows.frLawsRow = true := by
  have h1 : (Rows.frLawsRow.inPlace == Try.prog.inPlace 12) = true := by kernel_rfl
  have h2 : (Rows.frLawsRow.unfollowed == Try.prog.unfollowed 12) = true := by kernel_rfl
  have h3 : (Rows.frLawsRow.recurses == Try.prog.recurses 12) = true := by kernel_rfl
  have h4 : (Rows.frLawsRow.named == Try.prog.varsNamed 12) = true := by kernel_rfl
  have h5 : (Rows.frLawsRow.lifted == Try.prog.liftsFinal) = true := Try.lifts
  have h6 : (Try.prog.make == some Rows.frLawsRow.make) = true := Try.made
  have h7 : (Rows.frLawsRow.plainKeys == Try.prog.plainKeys) = true := Try.plain
  unfold joinedFacts
  rw [Try.isLaid, Try.isRowed, h1, h2, h3, h4, Try.isHeard, Try.mayIn, h5, h6, h7]
  show _ = true
  kernel_rfl

theorem frLaws_holds : Rows.FrLawsSaid :=
  OpenClaim.holds_of_wide 12 Try.f12 rfl rfl rfl rfl rfl rfl rfl ⟨rfl, rfl, rfl, rfl, rfl⟩ rfl rfl rfl rfl rfl (by kernel_rfl) Try.func12 frLaws_facts
    (of_decide_eq_true (by kernel_rfl)) (by unfold Func.isWrapper; rw [if_neg (of_decide_eq_true (by kernel_rfl))]; exact ⟨rfl, rfl⟩)
    (fun os started H enc _ => frLaws_lifted os started H enc)

end Go.Proofs.Ytaloefkkllebeaa
