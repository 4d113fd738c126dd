/- Fp12Parts, proved with no further conditions: for every input the law answers true and every argument reads behind the call as it read before. -/
import Derived.Test.YtbdbmcdcjejffaaPa2
import Derived.Test.YtbdbmcdcjejffaaFlB
set_option linter.unusedVariables false
set_option linter.unusedSimpArgs false
set_option linter.unusedSectionVars false
namespace Go.Proofs.Ytbdbmcdcjejffaa
open Go Go.Sh Go.RowKit

theorem fp12Parts_lifted (os : Os) (started : os.Started) (H : Type) (enc : TypeId × Value → H) :
    ReturnsInHanded {} Try.checked os 19 .any (Rows.fp12PartsSpec.pre6 enc Try.prog Try.f19 [] false) (Rows.fp12PartsSpec.post enc Try.prog Try.f19 false true false false) :=
  law_row (C := Try.checked) (tb := 4) rfl fp12Parts_ok 8 (by kernel_rfl) started Try.func19 (by kernel_rfl) (by kernel_rfl) Try.own (by kernel_rfl) Try.isLaid (by kernel_rfl) rfl (by kernel_rfl) (by kernel_rfl)
    (fun ds h => by obtain ⟨a, b, rfl⟩ := two' h; rfl)
    (ChangeSpec.witness6 (enc := enc) (C := Try.checked) false ⟨#[], #[spotVal 0 ⟨none, 0⟩, .int .i64 0], []⟩ 8 (by kernel_rfl) (by kernel_rfl) (by kernel_rfl) (by kernel_rfl))

theorem fp12Parts_facts : joinedFacts Try.prog 19 Try.f19 Rows.fp12PartsSpec Rows.fp12PartsRow = true := by
  have h1 : (Rows.fp12PartsRow.inPlace == Try.prog.inPlace 19) = true := by kernel_rfl
  have h2 : (Rows.fp12PartsRow.unfollowed == Try.prog.unfollowed 19) = true := by kernel_rfl
  have h3 : (Rows.fp12PartsRow.recurses == Try.prog.recurses 19) = true := by kernel_rfl
  have h4 : (Rows.fp12PartsRow.named == Try.prog.varsNamed 19) = true := by kernel_rfl
  have h5 : (Rows.fp12PartsRow.lifted == Try.prog.liftsFinal) = true := Try.lifts
  have h6 : (Try.prog.make == some Rows.fp12PartsRow.make) = true := Try.made
  have h7 : (Rows.fp12PartsRow.plainKeys == Try.prog.plainKeys) = true := Try.plain
  unfold joinedFacts
  rw [Try.isLaid, Try.isRowed, h1, h2, h3, h4, Try.isHeard, Try.mayIn, h5, h6, h7]
  show _ = true
  kernel_rfl

theorem fp12Parts_holds : Rows.Fp12PartsSaid :=
  OpenClaim.holds_of_wide 19 Try.f19 rfl rfl rfl rfl rfl rfl rfl ⟨rfl, rfl, rfl, rfl, rfl⟩ rfl rfl rfl rfl rfl (by kernel_rfl) Try.func19 fp12Parts_facts
    (of_decide_eq_true (by kernel_rfl)) (by unfold Func.isWrapper; rw [if_neg (of_decide_eq_true (by kernel_rfl))]; exact ⟨rfl, rfl⟩)
    (fun os started H enc _ => fp12Parts_lifted os started H enc)

end Go.Proofs.Ytbdbmcdcjejffaa
