/- Fp2Reckons, proved with no further conditions: for every input the law answers true and every argument reads behind the call as it read before. -/
import Derived.Test.YtbdbmcdcjejffaaGc2
import Derived.Test.YtbdbmcdcjejffaaFlB
set_option linter.unusedVariables false
set_option linter.unusedSimpArgs false
set_option linter.unusedSectionVars false
namespace Go.Proofs.Ytbdbmcdcjejffaa
open Go Go.Sh Go.RowKit

theorem fp2Reckons_lifted (os : Os) (started : os.Started) (H : Type) (enc : TypeId × Value → H) :
    ReturnsInHanded {} Try.checked os 18 .any (Rows.fp2ReckonsSpec.pre6 enc Try.prog Try.f18 [] false) (Rows.fp2ReckonsSpec.post enc Try.prog Try.f18 false true false false) :=
  law_row (C := Try.checked) (tb := 4) rfl reckons5_ok 8 (by kernel_rfl) started Try.func18 (by kernel_rfl) (by kernel_rfl) Try.own (by kernel_rfl) Try.isLaid (by kernel_rfl) rfl (by kernel_rfl) (by kernel_rfl)
    (fun ds h => by obtain ⟨a, b, c, rfl⟩ := three' h; rfl)
    (ChangeSpec.witness6 (enc := enc) (C := Try.checked) false ⟨#[], #[spotVal 0 ⟨none, 0⟩, spotVal 0 ⟨none, 0⟩, spotVal 0 ⟨none, 0⟩], []⟩ 8 (by kernel_rfl) (by kernel_rfl) (by kernel_rfl) (by kernel_rfl))

theorem fp2Reckons_facts : joinedFacts Try.prog 18 Try.f18 Rows.fp2ReckonsSpec Rows.fp2ReckonsRow = true := by
  have h1 : (Rows.fp2ReckonsRow.inPlace == Try.prog.inPlace 18) = true := by kernel_rfl
  have h2 : (Rows.fp2ReckonsRow.unfollowed == Try.prog.unfollowed 18) = true := by kernel_rfl
  have h3 : (Rows.fp2ReckonsRow.recurses == Try.prog.recurses 18) = true := by kernel_rfl
  have h4 : (Rows.fp2ReckonsRow.named == Try.prog.varsNamed 18) = true := by kernel_rfl
  have h5 : (Rows.fp2ReckonsRow.lifted == Try.prog.liftsFinal) = true := Try.lifts
  have h6 : (Try.prog.make == some Rows.fp2ReckonsRow.make) = true := Try.made
  have h7 : (Rows.fp2ReckonsRow.plainKeys == Try.prog.plainKeys) = true := Try.plain
  unfold joinedFacts
  rw [Try.isLaid, Try.isRowed, h1, h2, h3, h4, Try.isHeard, Try.mayIn, h5, h6, h7]
  show _ = true
  kernel_rfl

theorem fp2Reckons_holds : Rows.Fp2ReckonsSaid :=
  OpenClaim.holds_of_wide 18 Try.f18 rfl rfl rfl rfl rfl rfl rfl ⟨rfl, rfl, rfl, rfl, rfl⟩ rfl rfl rfl rfl rfl (by kernel_rfl) Try.func18 fp2Reckons_facts
    (of_decide_eq_true (by kernel_rfl)) (by unfold Func.isWrapper; rw [if_neg (of_decide_eq_true (by kernel_rfl))]; exact ⟨rfl, rfl⟩)
    (fun os started H enc _ => fp2Reckons_lifted os started H enc)

end Go.Proofs.Ytbdbmcdcjejffaa
