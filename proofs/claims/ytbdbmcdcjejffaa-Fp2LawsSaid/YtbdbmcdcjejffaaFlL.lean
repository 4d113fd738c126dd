/- Fp2Laws, proved with no further conditions: for every input the law answers true and every argument reads behind the call as it read before. -/
import Derived.Test.YtbdbmcdcjejffaaGd4
import Derived.Test.YtbdbmcdcjejffaaFlB
set_option linter.unusedVariables false
set_option linter.unusedSimpArgs false
set_option linter.unusedSectionVars false
namespace Go.Proofs.Ytbdbmcdcjejffaa
open Go Go.Sh Go.RowKit

theorem fp2Laws_lifted (os : Os) (started : os.Started) (H : Type) (enc : TypeId × Value → H) :
    ReturnsInHanded {} Try.checked os 21 .any (Rows.fp2LawsSpec.pre6 enc Try.prog Try.f21 [] false) (Rows.fp2LawsSpec.post enc Try.prog Try.f21 false true false false) :=
  law_row (C := Try.checked) (tb := 4) rfl laws5_ok 8 (by kernel_rfl) started Try.func21 (by kernel_rfl) (by kernel_rfl) Try.own (by kernel_rfl) Try.isLaid (by kernel_rfl) rfl (by kernel_rfl) (by kernel_rfl)
    (fun ds h => by obtain ⟨a, b, c, rfl⟩ := three' h; rfl)
    (ChangeSpec.witness6 (enc := enc) (C := Try.checked) false ⟨#[], #[spotVal 0 ⟨none, 0⟩, spotVal 0 ⟨none, 0⟩, spotVal 0 ⟨none, 0⟩], []⟩ 8 (by kernel_rfl) (by kernel_rfl) (by kernel_rfl) (by kernel_rfl))

theorem fp2Laws_facts : joinedFacts Try.prog 21 Try.f21 Rows.fp2LawsSpec Rows.fp2LawsRow = true := by
  have h1 : (Rows.fp2LawsRow.inPlace == Try.prog.inPlace 21) = true := by kernel_rfl
  have h2 : (Rows.fp2LawsRow.unfollowed == Try.prog.unfollowed 21) = true := by kernel_rfl
  have h3 : (Rows.fp2LawsRow.recurses == Try.prog.recurses 21) = true := by kernel_rfl
  have h4 : (Rows.fp2LawsRow.named == Try.prog.varsNamed 21) = true := by kernel_rfl
  have h5 : (Rows.fp2LawsRow.lifted == Try.prog.liftsFinal) = true := Try.lifts
  have h6 : (Try.prog.make == some Rows.fp2LawsRow.make) = true := Try.made
  have h7 : (Rows.fp2LawsRow.plainKeys == Try.prog.plainKeys) = true := Try.plain
  unfold joinedFacts
  rw [Try.isLaid, Try.isRowed, h1, h2, h3, h4, Try.isHeard, Try.mayIn, h5, h6, h7]
  show _ = true
  kernel_rfl

theorem fp2Laws_holds : Rows.Fp2LawsSaid :=
  OpenClaim.holds_of_wide 21 Try.f21 rfl rfl rfl rfl rfl rfl rfl ⟨rfl, rfl, rfl, rfl, rfl⟩ rfl rfl rfl rfl rfl (by kernel_rfl) Try.func21 fp2Laws_facts
    (of_decide_eq_true (by kernel_rfl)) (by unfold Func.isWrapper; rw [if_neg (of_decide_eq_true (by kernel_rfl))]; exact ⟨rfl, rfl⟩)
    (fun os started H enc _ => fp2Laws_lifted os started H enc)

end Go.Proofs.Ytbdbmcdcjejffaa
