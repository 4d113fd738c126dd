/- FpReckons, proved with no further conditions: for every input the law answers true and every argument reads behind the call as it read before. -/
import Derived.Test.YtbdbmcdcjejffaaFpF
import Derived.Test.YtbdbmcdcjejffaaFlB
set_option linter.unusedVariables false
set_option linter.unusedSimpArgs false
set_option linter.unusedSectionVars false
namespace Go.Proofs.Ytbdbmcdcjejffaa
open Go Go.Sh Go.RowKit

theorem fpReckons_lifted (os : Os) (started : os.Started) (H : Type) (enc : TypeId × Value → H) :
    ReturnsInHanded {} Try.checked os 4 .any (Rows.fpReckonsSpec.pre6 enc Try.prog Try.f4 [] false) (Rows.fpReckonsSpec.post enc Try.prog Try.f4 false true false false) :=
  law_row (C := Try.checked) (tb := 4) rfl reckons_ok 8 (by kernel_rfl) started Try.func4 (by kernel_rfl) (by kernel_rfl) Try.own (by kernel_rfl) Try.isLaid (by kernel_rfl) rfl (by kernel_rfl) (by kernel_rfl)
    (fun ds h => by obtain ⟨a, b, rfl⟩ := two' h; rfl)
    (ChangeSpec.witness6 (enc := enc) (C := Try.checked) false ⟨#[], #[spotVal 0 ⟨none, 0⟩, spotVal 0 ⟨none, 0⟩], []⟩ 8 (by kernel_rfl) (by kernel_rfl) (by kernel_rfl) (by kernel_rfl))

theorem fpReckons_facts : joinedFacts Try.prog 4 Try.f4 Rows.fpReckonsSpec Rows.fpReckonsRow = true := by
  have h1 : (Rows.fpReckonsRow.inPlace == Try.prog.inPlace 4) = true := by kernel_rfl
  have h2 : (Rows.fpReckonsRow.unfollowed == Try.prog.unfollowed 4) = true := by kernel_rfl
  have h3 : (Rows.fpReckonsRow.recurses == Try.prog.recurses 4) = true := by kernel_rfl
  have h4 : (Rows.fpReckonsRow.named == Try.prog.varsNamed 4) = true := by kernel_rfl
  have h5 : (Rows.fpReckonsRow.lifted == Try.prog.liftsFinal) = true := Try.lifts
  have h6 : (Try.prog.make == some Rows.fpReckonsRow.make) = true := Try.made
  have h7 : (Rows.fpReckonsRow.plainKeys == Try.prog.plainKeys) = true := Try.plain
  unfold joinedFacts
  rw [Try.isLaid, Try.isRowed, h1, h2, h3, h4, Try.isHeard, Try.mayIn, h5, h6, h7]
  show _ = true
  kernel_rfl

theorem fpReckons_holds : Rows.FpReckonsSaid :=
  OpenClaim.holds_of_wide 4 Try.f4 rfl rfl rfl rfl rfl rfl rfl ⟨rfl, rfl, rfl, rfl, rfl⟩ rfl rfl rfl rfl rfl (by kernel_rfl) Try.func4 fpReckons_facts
    (of_decide_eq_true (by kernel_rfl)) (by unfold Func.isWrapper; rw [if_neg (of_decide_eq_true (by kernel_rfl))]; exact ⟨rfl, rfl⟩)
    (fun os started H enc _ => fpReckons_lifted os started H enc)

end Go.Proofs.Ytbdbmcdcjejffaa
