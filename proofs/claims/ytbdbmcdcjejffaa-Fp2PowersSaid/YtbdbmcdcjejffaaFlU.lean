/- Fp2Powers, proved with no further conditions: for every input the law answers true and every argument reads behind the call as it read before. -/
import Derived.Test.YtbdbmcdcjejffaaGh2
import Derived.Test.YtbdbmcdcjejffaaFlB
set_option linter.unusedVariables false
set_option linter.unusedSimpArgs false
set_option linter.unusedSectionVars false
namespace Go.Proofs.Ytbdbmcdcjejffaa
open Go Go.Sh Go.RowKit

theorem fp2Powers_lifted (os : Os) (started : os.Started) (H : Type) (enc : TypeId × Value → H) :
    ReturnsInHanded {} Try.checked os 23 .any (Rows.fp2PowersSpec.pre6 enc Try.prog Try.f23 [] false) (Rows.fp2PowersSpec.post enc Try.prog Try.f23 false true false false) :=
  law_row (C := Try.checked) (tb := 4) rfl powers5_ok 8 (by kernel_rfl) started Try.func23 (by kernel_rfl) (by kernel_rfl) Try.own (by kernel_rfl) Try.isLaid (by kernel_rfl) rfl (by kernel_rfl) (by kernel_rfl)
    (fun ds h => by obtain ⟨a, b, rfl⟩ := two' h; rfl)
    (ChangeSpec.witness6 (enc := enc) (C := Try.checked) false ⟨#[], #[spotVal 0 ⟨none, 0⟩, spotVal 0 ⟨none, 0⟩], []⟩ 8 (by kernel_rfl) (by kernel_rfl) (by kernel_rfl) (by kernel_rfl))

theorem fp2Powers_facts : joinedFacts Try.prog 23 Try.f23 Rows.fp2PowersSpec Rows.fp2PowersRow = true := by
  have h1 : (Rows.fp2PowersRow.inPlace == Try.prog.inPlace 23) = true := by kernel_rfl
  have h2 : (Rows.fp2PowersRow.unfollowed == Try.prog.unfollowed 23) = true := by kernel_rfl
  have h3 : (Rows.fp2PowersRow.recurses == Try.prog.recurses 23) = true := by kernel_rfl
  have h4 : (Rows.fp2PowersRow.named == Try.prog.varsNamed 23) = true := by kernel_rfl
  have h5 : (Rows.fp2PowersRow.lifted == Try.prog.liftsFinal) = true := Try.lifts
  have h6 : (Try.prog.make == some Rows.fp2PowersRow.make) = true := Try.made
  have h7 : (Rows.fp2PowersRow.plainKeys == Try.prog.plainKeys) = true := Try.plain
  unfold joinedFacts
  rw [Try.isLaid, Try.isRowed, h1, h2, h3, h4, Try.isHeard, Try.mayIn, h5, h6, h7]
  show _ = true
  kernel_rfl

theorem fp2Powers_holds : Rows.Fp2PowersSaid :=
  OpenClaim.holds_of_wide 23 Try.f23 rfl rfl rfl rfl rfl rfl rfl ⟨rfl, rfl, rfl, rfl, rfl⟩ rfl rfl rfl rfl rfl (by kernel_rfl) Try.func23 fp2Powers_facts
    (of_decide_eq_true (by kernel_rfl)) (by unfold Func.isWrapper; rw [if_neg (of_decide_eq_true (by kernel_rfl))]; exact ⟨rfl, rfl⟩)
    (fun os started H enc _ => fp2Powers_lifted os started H enc)

end Go.Proofs.Ytbdbmcdcjejffaa
