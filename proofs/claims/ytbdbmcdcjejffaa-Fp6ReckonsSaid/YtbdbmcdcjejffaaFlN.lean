/- Fp6Reckons, proved with no further conditions: for every input the law answers true and every argument reads behind the call as it read before. -/
import Derived.Test.YtbdbmcdcjejffaaGf2
import Derived.Test.YtbdbmcdcjejffaaFlB
set_option linter.unusedVariables false
set_option linter.unusedSimpArgs false
set_option linter.unusedSectionVars false
namespace Go.Proofs.Ytbdbmcdcjejffaa
open Go Go.Sh Go.RowKit

theorem fp6Reckons_lifted (os : Os) (started : os.Started) (H : Type) (enc : TypeId × Value → H) :
    ReturnsInHanded {} Try.checked os 12 .any (Rows.fp6ReckonsSpec.pre6 enc Try.prog Try.f12 [] false) (Rows.fp6ReckonsSpec.post enc Try.prog Try.f12 false true false false) :=
  law_row (C := Try.checked) (tb := 4) rfl reckons6_ok 8 (by kernel_rfl) started Try.func12 (by kernel_rfl) (by kernel_rfl) Try.own (by kernel_rfl) Try.isLaid (by kernel_rfl) rfl (by kernel_rfl) (by kernel_rfl)
    (fun ds h => by obtain ⟨a, b, c, rfl⟩ := three' h; rfl)
    (ChangeSpec.witness6 (enc := enc) (C := Try.checked) false ⟨#[], #[spotVal 0 ⟨none, 0⟩, spotVal 0 ⟨none, 0⟩, spotVal 0 ⟨none, 0⟩], []⟩ 8 (by kernel_rfl) (by kernel_rfl) (by kernel_rfl) (by kernel_rfl))

theorem fp6Reckons_facts : joinedFacts Try.prog 12 Try.f12 Rows.fp6ReckonsSpec Rows.fp6ReckonsRow = true := by
  have h1 : (Rows.fp6ReckonsRow.inPlace == Try.prog.inPlace 12) = true := by kernel_rfl
  have h2 : (Rows.fp6ReckonsRow.unfollowed == Try.prog.unfollowed 12) = true := by kernel_rfl
  have h3 : (Rows.fp6ReckonsRow.recurses == Try.prog.recurses 12) = true := by kernel_rfl
  have h4 : (Rows.fp6ReckonsRow.named == Try.prog.varsNamed 12) = true := by kernel_rfl
  have h5 : (Rows.fp6ReckonsRow.lifted == Try.prog.liftsFinal) = true := Try.lifts
  have h6 : (Try.prog.make == some Rows.fp6ReckonsRow.make) = true := Try.made
  have h7 : (Rows.fp6ReckonsRow.plainKeys == Try.prog.plainKeys) = true := Try.plain
  unfold joinedFacts
  rw [Try.isLaid, Try.isRowed, h1, h2, h3, h4, Try.isHeard, Try.mayIn, h5, h6, h7]
  show _ = true
  kernel_rfl

theorem fp6Reckons_holds : Rows.Fp6ReckonsSaid :=
  OpenClaim.holds_of_wide 12 Try.f12 rfl rfl rfl rfl rfl rfl rfl ⟨rfl, rfl, rfl, rfl, rfl⟩ rfl rfl rfl rfl rfl (by kernel_rfl) Try.func12 fp6Reckons_facts
    (of_decide_eq_true (by kernel_rfl)) (by unfold Func.isWrapper; rw [if_neg (of_decide_eq_true (by kernel_rfl))]; exact ⟨rfl, rfl⟩)
    (fun os started H enc _ => fp6Reckons_lifted os started H enc)

end Go.Proofs.Ytbdbmcdcjejffaa
