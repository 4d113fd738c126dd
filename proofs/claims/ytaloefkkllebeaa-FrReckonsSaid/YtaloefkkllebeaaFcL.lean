/- FrReckons, proved with no further conditions: for every input the law answers true and every argument reads behind the call as it read before. -/
import Derived.Test.YtaloefkkllebeaaFc1
import Derived.Test.YtaloefkkllebeaaFlB
set_option linter.unusedVariables false
set_option linter.unusedSimpArgs false
set_option linter.unusedSectionVars false
namespace Go.Proofs.Ytaloefkkllebeaa
open Go Go.Sh Go.RowKit

theorem frReckons_lifted (os : Os) (started : os.Started) (H : Type) (enc : TypeId × Value → H) :
    ReturnsInHanded {} Try.checked os 11 .any (Rows.frReckonsSpec.pre6 enc Try.prog Try.f11 [] false) (Rows.frReckonsSpec.post enc Try.prog Try.f11 false true false false) :=
  law_row (C := Try.checked) (tb := 4) rfl frReckons_ok 8 (by kernel_rfl) started Try.func11 (by kernel_rfl) (by kernel_rfl) Try.own (by kernel_rfl) Try.isLaid (by kernel_rfl) rfl (by kernel_rfl) (by kernel_rfl)
    (fun ds h => by obtain ⟨a, b, rfl⟩ := two' h; rfl)
    (ChangeSpec.witness6 (enc := enc) (C := Try.checked) false ⟨#[], #[spotVal 0 ⟨none, 0⟩, spotVal 0 ⟨none, 0⟩], []⟩ 8 (by kernel_rfl) (by kernel_rfl) (by kernel_rfl) (by kernel_rfl))

theorem frReckons_facts : joinedFacts Try.prog 11 Try.f11 Rows.frReckonsSpec Rows.frReckonsRow = true := by
  have h1 : (Rows.frReckonsRow.inPlace == Try.prog.inPlace 11) = true := by kernel_rfl
  have h2 : (Rows.frReckonsRow.unfollowed == Try.prog.unfollowed 11) = true := by kernel_rfl
  have h3 : (Rows.frReckonsRow.recurses == Try.prog.recurses 11) = true := by kernel_rfl
  have h4 : (Rows.frReckonsRow.named == Try.prog.varsNamed 11) = true := by kernel_rfl
  have h5 : (Rows.frReckonsRow.lifted == Try.prog.liftsFinal) = true := Try.lifts
  have h6 : (Try.prog.make == some Rows.frReckonsRow.make) = true := Try.made
  have h7 : (Rows.frReckonsRow.plainKeys == Try.prog.plainKeys) = true := Try.plain
  unfold joinedFacts
  rw [Try.isLaid, Try.isRowed, h1, h2, h3, h4, Try.isHeard, Try.mayIn, h5, h6, h7]
  show _ = true
  kernel_rfl

theorem frReckons_holds : Rows.FrReckonsSaid :=
  OpenClaim.holds_of_wide 11 Try.f11 rfl rfl rfl rfl rfl rfl rfl ⟨rfl, rfl, rfl, rfl, rfl⟩ rfl rfl rfl rfl rfl (by kernel_rfl) Try.func11 frReckons_facts
    (of_decide_eq_true (by kernel_rfl)) (by unfold Func.isWrapper; rw [if_neg (of_decide_eq_true (by kernel_rfl))]; exact ⟨rfl, rfl⟩)
    (fun os started H enc _ => frReckons_lifted os started H enc)

end Go.Proofs.Ytaloefkkllebeaa
