/- FrBits, proved with no further conditions: for every input the law answers true and every argument reads behind the call as it read before. -/
import Derived.Test.YtaloefkkllebeaaFd2
import Derived.Test.YtaloefkkllebeaaFlB
set_option linter.unusedVariables false
set_option linter.unusedSimpArgs false
set_option linter.unusedSectionVars false
namespace Go.Proofs.Ytaloefkkllebeaa
open Go Go.Sh Go.RowKit

theorem frBits_lifted (os : Os) (started : os.Started) (H : Type) (enc : TypeId × Value → H) :
    ReturnsInHanded {} Try.checked os 10 .any (Rows.frBitsSpec.pre6 enc Try.prog Try.f10 [] false) (Rows.frBitsSpec.post enc Try.prog Try.f10 false true false false) :=
  law_row (C := Try.checked) (tb := 4) rfl frBitsLaw_ok 8 (by kernel_rfl) started Try.func10 (by kernel_rfl) (by kernel_rfl) Try.own (by kernel_rfl) Try.isLaid (by kernel_rfl) rfl (by kernel_rfl) (by kernel_rfl)
    (fun ds h => by obtain ⟨a, b, rfl⟩ := two' h; rfl)
    (ChangeSpec.witness6 (enc := enc) (C := Try.checked) false ⟨#[], #[spotVal 0 ⟨none, 0⟩, .int .i64 0], []⟩ 8 (by kernel_rfl) (by kernel_rfl) (by kernel_rfl) (by kernel_rfl))

theorem frBits_facts : joinedFacts Try.prog 10 Try.f10 Rows.frBitsSpec Rows.frBitsRow = true := by
  have h1 : (Rows.frBitsRow.inPlace == Try.prog.inPlace 10) = true := by kernel_rfl
  have h2 : (Rows.frBitsRow.unfollowed == Try.prog.unfollowed 10) = true := by kernel_rfl
  have h3 : (Rows.frBitsRow.recurses == Try.prog.recurses 10) = true := by kernel_rfl
  have h4 : (Rows.frBitsRow.named == Try.prog.varsNamed 10) = true := by kernel_rfl
  have h5 : (Rows.frBitsRow.lifted == Try.prog.liftsFinal) = true := Try.lifts
  have h6 : (Try.prog.make == some Rows.frBitsRow.make) = true := Try.made
  have h7 : (Rows.frBitsRow.plainKeys == Try.prog.plainKeys) = true := Try.plain
  unfold joinedFacts
  rw [Try.isLaid, Try.isRowed, h1, h2, h3, h4, Try.isHeard, Try.mayIn, h5, h6, h7]
  show _ = true
  kernel_rfl

theorem frBits_holds : Rows.FrBitsSaid :=
  OpenClaim.holds_of_wide 10 Try.f10 rfl rfl rfl rfl rfl rfl rfl ⟨rfl, rfl, rfl, rfl, rfl⟩ rfl rfl rfl rfl rfl (by kernel_rfl) Try.func10 frBits_facts
    (of_decide_eq_true (by kernel_rfl)) (by unfold Func.isWrapper; rw [if_neg (of_decide_eq_true (by kernel_rfl))]; exact ⟨rfl, rfl⟩)
    (fun os started H enc _ => frBits_lifted os started H enc)

end Go.Proofs.Ytaloefkkllebeaa
