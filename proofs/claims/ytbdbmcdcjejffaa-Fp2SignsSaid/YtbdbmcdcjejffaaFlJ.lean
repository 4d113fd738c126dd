/- Fp2Signs, proved with no further conditions: for every input the law answers true and every argument reads behind the call as it read before. -/
import Derived.Test.YtbdbmcdcjejffaaGc2
import Derived.Test.YtbdbmcdcjejffaaFlB
set_option linter.unusedVariables false
set_option linter.unusedSimpArgs false
set_option linter.unusedSectionVars false
namespace Go.Proofs.Ytbdbmcdcjejffaa
open Go Go.Sh Go.RowKit

theorem fp2Signs_lifted (os : Os) (started : os.Started) (H : Type) (enc : TypeId × Value → H) :
    ReturnsInHanded {} Try.checked os 16 .any (Rows.fp2SignsSpec.pre6 enc Try.prog Try.f16 [] false) (Rows.fp2SignsSpec.post enc Try.prog Try.f16 false true false false) :=
  law_row (C := Try.checked) (tb := 4) rfl signs5_ok 8 (by kernel_rfl) started Try.func16 (by kernel_rfl) (by kernel_rfl) Try.own (by kernel_rfl) Try.isLaid (by kernel_rfl) rfl (by kernel_rfl) (by kernel_rfl)
    (fun ds h => by obtain ⟨a, b, c, rfl⟩ := three' h; rfl)
    (ChangeSpec.witness6 (enc := enc) (C := Try.checked) false ⟨#[], #[spotVal 0 ⟨none, 0⟩, .bool false, .bool false], []⟩ 8 (by kernel_rfl) (by kernel_rfl) (by kernel_rfl) (by kernel_rfl))

theorem fp2Signs_facts : joinedFacts Try.prog 16 Try.f16 Rows.fp2SignsSpec Rows.fp2SignsRow = true := by
  have h1 : (Rows.fp2SignsRow.inPlace == Try.prog.inPlace 16) = true := by kernel_rfl
  have h2 : (Rows.fp2SignsRow.unfollowed == Try.prog.unfollowed 16) = true := by kernel_rfl
  have h3 : (Rows.fp2SignsRow.recurses == Try.prog.recurses 16) = true := by kernel_rfl
  have h4 : (Rows.fp2SignsRow.named == Try.prog.varsNamed 16) = true := by kernel_rfl
  have h5 : (Rows.fp2SignsRow.lifted == Try.prog.liftsFinal) = true := Try.lifts
  have h6 : (Try.prog.make == some Rows.fp2SignsRow.make) = true := Try.made
  have h7 : (Rows.fp2SignsRow.plainKeys == Try.prog.plainKeys) = true := Try.plain
  unfold joinedFacts
  rw [Try.isLaid, Try.isRowed, h1, h2, h3, h4, Try.isHeard, Try.mayIn, h5, h6, h7]
  show _ = true
  kernel_rfl

theorem fp2Signs_holds : Rows.Fp2SignsSaid :=
  OpenClaim.holds_of_wide 16 Try.f16 rfl rfl rfl rfl rfl rfl rfl ⟨rfl, rfl, rfl, rfl, rfl⟩ rfl rfl rfl rfl rfl (by kernel_rfl) Try.func16 fp2Signs_facts
    (of_decide_eq_true (by kernel_rfl)) (by unfold Func.isWrapper; rw [if_neg (of_decide_eq_true (by kernel_rfl))]; exact ⟨rfl, rfl⟩)
    (fun os started H enc _ => fp2Signs_lifted os started H enc)

end Go.Proofs.Ytbdbmcdcjejffaa
