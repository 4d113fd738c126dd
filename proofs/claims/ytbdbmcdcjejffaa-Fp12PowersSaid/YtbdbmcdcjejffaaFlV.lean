/- Fp12Powers, proved with no further conditions: for every input the law answers true and every argument reads behind the call as it read before. -/
import Derived.Test.YtbdbmcdcjejffaaGh2
import Derived.Test.YtbdbmcdcjejffaaFlB
set_option linter.unusedVariables false
set_option linter.unusedSimpArgs false
set_option linter.unusedSectionVars false
namespace Go.Proofs.Ytbdbmcdcjejffaa
open Go Go.Sh Go.RowKit

theorem fp12Powers_lifted (os : Os) (started : os.Started) (H : Type) (enc : TypeId × Value → H) :
    ReturnsInHanded {} Try.checked os 22 .any (Rows.fp12PowersSpec.pre6 enc Try.prog Try.f22 [] false) (Rows.fp12PowersSpec.post enc Try.prog Try.f22 false true false false) :=
  law_row (C := Try.checked) (tb := 4) rfl powers7_ok 8 (by kernel_rfl) started Try.func22 (by kernel_rfl) (by kernel_rfl) Try.own (by kernel_rfl) Try.isLaid (by kernel_rfl) rfl (by kernel_rfl) (by kernel_rfl)
    (fun ds h => by obtain ⟨a, b, rfl⟩ := two' h; rfl)
    (ChangeSpec.witness6 (enc := enc) (C := Try.checked) false ⟨#[], #[spotVal 0 ⟨none, 0⟩, spotVal 0 ⟨none, 0⟩], []⟩ 8 (by kernel_rfl) (by kernel_rfl) (by kernel_rfl) (by kernel_rfl))

theorem fp12Powers_facts : joinedFacts Try.prog 22 Try.f22 Rows.fp12PowersSpec Rows.fp12PowersRow = true := by
  have h1 : (Rows.fp12PowersRow.inPlace == Try.prog.inPlace 22) = true := by kernel_rfl
  have h2 : (Rows.fp12PowersRow.unfollowed == Try.prog.unfollowed 22) = true := by kernel_rfl
  have h3 : (Rows.fp12PowersRow.recurses == Try.prog.recurses 22) = true := by kernel_rfl
  have h4 : (Rows.fp12PowersRow.named == Try.prog.varsNamed 22) = true := by kernel_rfl
  have h5 : (Rows.fp12PowersRow.lifted == Try.prog.liftsFinal) = true := Try.lifts
  have h6 : (Try.prog.make == some Rows.fp12PowersRow.make) = true := Try.made
  have h7 : (Rows.fp12PowersRow.plainKeys == Try.prog.plainKeys) = true := Try.plain
  unfold joinedFacts
  rw [Try.isLaid, Try.isRowed, h1, h2, h3, h4, Try.isHeard, Try.mayIn, h5, h6, h7]
  show _ = true
  kernel_rfl

theorem fp12Powers_holds : Rows.Fp12PowersSaid :=
  OpenClaim.holds_of_wide 22 Try.f22 rfl rfl rfl rfl rfl rfl rfl ⟨rfl, rfl, rfl, rfl, rfl⟩ rfl rfl rfl rfl rfl (by kernel_rfl) Try.func22 fp12Powers_facts
    (of_decide_eq_true (by kernel_rfl)) (by unfold Func.isWrapper; rw [if_neg (of_decide_eq_true (by kernel_rfl))]; exact ⟨rfl, rfl⟩)
    (fun os started H enc _ => fp12Powers_lifted os started H enc)

end Go.Proofs.Ytbdbmcdcjejffaa
