/- FrBytes, proved with no further conditions: for every input the law answers true and every argument reads behind the call as it read before. -/
import Derived.Test.YtaloefkkllebeaaFc2
import Derived.Test.YtaloefkkllebeaaFlB
set_option linter.unusedVariables false
set_option linter.unusedSimpArgs false
set_option linter.unusedSectionVars false
namespace Go.Proofs.Ytaloefkkllebeaa
open Go Go.Sh Go.RowKit

theorem frBytes_lifted (os : Os) (started : os.Started) (H : Type) (enc : TypeId × Value → H) :
    ReturnsInHanded {} Try.checked os 9 .any (Rows.frBytesSpec.pre6 enc Try.prog Try.f9 [] false) (Rows.frBytesSpec.post enc Try.prog Try.f9 false true false false) :=
  law_row (C := Try.checked) (tb := 4) rfl frBytesLaw_ok 8 (by kernel_rfl) started Try.func9 (by kernel_rfl) (by kernel_rfl) Try.own (by kernel_rfl) Try.isLaid (by kernel_rfl) rfl (by kernel_rfl) (by kernel_rfl)
    (fun ds h => by obtain ⟨a, b, c, rfl⟩ := three' h; rfl)
    (ChangeSpec.witness6 (enc := enc) (C := Try.checked) false ⟨#[], #[spotVal 0 ⟨none, 0⟩, spotVal 0 ⟨none, 0⟩, .int .u64 0], []⟩ 8 (by kernel_rfl) (by kernel_rfl) (by kernel_rfl) (by kernel_rfl))

theorem frBytes_facts : joinedFacts Try.prog 9 Try.f9 Rows.frBytesSpec Rows.frBytesRow = true := by
  have h1 : (Rows.frBytesRow.inPlace == Try.prog.inPlace 9) = true := by kernel_rfl
  have h2 : (Rows.frBytesRow.unfollowed == Try.prog.unfollowed 9) = true := by kernel_rfl
  have h3 : (Rows.frBytesRow.recurses == Try.prog.recurses 9) = true := by kernel_rfl
  have h4 : (Rows.frBytesRow.named == Try.prog.varsNamed 9) = true := by kernel_rfl
  have h5 : (Rows.frBytesRow.lifted == Try.prog.liftsFinal) = true := Try.lifts
  have h6 : (Try.prog.make == some Rows.frBytesRow.make) = true := Try.made
  have h7 : (Rows.frBytesRow.plainKeys == Try.prog.plainKeys) = true := Try.plain
  unfold joinedFacts
  rw [Try.isLaid, Try.isRowed, h1, h2, h3, h4, Try.isHeard, Try.mayIn, h5, h6, h7]
  show _ = true
  kernel_rfl

theorem frBytes_holds : Rows.FrBytesSaid :=
  OpenClaim.holds_of_wide 9 Try.f9 rfl rfl rfl rfl rfl rfl rfl ⟨rfl, rfl, rfl, rfl, rfl⟩ rfl rfl rfl rfl rfl (by kernel_rfl) Try.func9 frBytes_facts
    (of_decide_eq_true (by kernel_rfl)) (by unfold Func.isWrapper; rw [if_neg (of_decide_eq_true (by kernel_rfl))]; exact ⟨rfl, rfl⟩)
    (fun os started H enc _ => frBytes_lifted os started H enc)

end Go.Proofs.Ytaloefkkllebeaa
