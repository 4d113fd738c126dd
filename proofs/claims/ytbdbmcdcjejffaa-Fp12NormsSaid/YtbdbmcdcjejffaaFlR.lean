/- Fp12Norms, proved with no further conditions: for every input the law answers true and every argument reads behind the call as it read before. -/
import Derived.Test.YtbdbmcdcjejffaaGf2
import Derived.Test.YtbdbmcdcjejffaaFlB
set_option linter.unusedVariables false
set_option linter.unusedSimpArgs false
set_option linter.unusedSectionVars false
namespace Go.Proofs.Ytbdbmcdcjejffaa
open Go Go.Sh Go.RowKit

theorem fp12Norms_lifted (os : Os) (started : os.Started) (H : Type) (enc : TypeId × Value → H) :
    ReturnsInHanded {} Try.checked os 14 .any (Rows.fp12NormsSpec.pre6 enc Try.prog Try.f14 [] false) (Rows.fp12NormsSpec.post enc Try.prog Try.f14 false true false false) :=
  law_row (C := Try.checked) (tb := 4) rfl norms7_ok 8 (by kernel_rfl) started Try.func14 (by kernel_rfl) (by kernel_rfl) Try.own (by kernel_rfl) Try.isLaid (by kernel_rfl) rfl (by kernel_rfl) (by kernel_rfl)
    (fun ds h => by obtain ⟨a, b, rfl⟩ := two' h; rfl)
    (ChangeSpec.witness6 (enc := enc) (C := Try.checked) false ⟨#[], #[spotVal 0 ⟨none, 0⟩, spotVal 0 ⟨none, 0⟩], []⟩ 8 (by kernel_rfl) (by kernel_rfl) (by kernel_rfl) (by kernel_rfl))

theorem fp12Norms_facts : joinedFacts Try.prog 14 Try.f14 Rows.fp12NormsSpec Rows.fp12NormsRow = true := by
  have h1 : (Rows.fp12NormsRow.inPlace == Try.prog.inPlace 14) = true := by kernel_rfl
  have h2 : (Rows.fp12NormsRow.unfollowed == Try.prog.unfollowed 14) = true := by kernel_rfl
  have h3 : (Rows.fp12NormsRow.recurses == Try.prog.recurses 14) = true := by kernel_rfl
  have h4 : (Rows.fp12NormsRow.named == Try.prog.varsNamed 14) = true := by kernel_rfl
  have h5 : (Rows.fp12NormsRow.lifted == Try.prog.liftsFinal) = true := Try.lifts
  have h6 : (Try.prog.make == some Rows.fp12NormsRow.make) = true := Try.made
  have h7 : (Rows.fp12NormsRow.plainKeys == Try.prog.plainKeys) = true := Try.plain
  unfold joinedFacts
  rw [Try.isLaid, Try.isRowed, h1, h2, h3, h4, Try.isHeard, Try.mayIn, h5, h6, h7]
  show _ = true
  kernel_rfl

theorem fp12Norms_holds : Rows.Fp12NormsSaid :=
  OpenClaim.holds_of_wide 14 Try.f14 rfl rfl rfl rfl rfl rfl rfl ⟨rfl, rfl, rfl, rfl, rfl⟩ rfl rfl rfl rfl rfl (by kernel_rfl) Try.func14 fp12Norms_facts
    (of_decide_eq_true (by kernel_rfl)) (by unfold Func.isWrapper; rw [if_neg (of_decide_eq_true (by kernel_rfl))]; exact ⟨rfl, rfl⟩)
    (fun os started H enc _ => fp12Norms_lifted os started H enc)

end Go.Proofs.Ytbdbmcdcjejffaa
