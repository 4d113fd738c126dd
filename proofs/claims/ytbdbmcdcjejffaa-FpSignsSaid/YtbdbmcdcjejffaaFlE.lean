/- FpSigns, proved with no further conditions: for every input the law answers true and every argument reads behind the call as it read before. -/
import Derived.Test.YtbdbmcdcjejffaaFlD
import Derived.Test.YtbdbmcdcjejffaaFlB
set_option linter.unusedVariables false
set_option linter.unusedSimpArgs false
namespace Go.Proofs.Ytbdbmcdcjejffaa
open Go Go.Sh Go.RowKit

theorem fpSigns_lifted (os : Os) (started : os.Started) (H : Type) (enc : TypeId × Value → H) :
    ReturnsInHanded {} Try.checked os 7 .any (Rows.fpSignsSpec.pre6 enc Try.prog Try.f7 [] false) (Rows.fpSignsSpec.post enc Try.prog Try.f7 false true false false) :=
  law_row (C := Try.checked) (tb := 4) rfl signs_ok 8 (by kernel_rfl) started Try.func7 (by kernel_rfl) (by kernel_rfl) Try.own (by kernel_rfl) Try.isLaid (by kernel_rfl) rfl (by kernel_rfl) (by kernel_rfl)
    (fun ds h => by obtain ⟨a, rfl⟩ := one' h; rfl)
    (ChangeSpec.witness6 (enc := enc) (C := Try.checked) false ⟨#[], #[spotVal 0 ⟨none, 0⟩], []⟩ 8 (by kernel_rfl) (by kernel_rfl) (by kernel_rfl) (by kernel_rfl))

theorem fpSigns_facts : joinedFacts Try.prog 7 Try.f7 Rows.fpSignsSpec Rows.fpSignsRow = true := by
  have h1 : (Rows.fpSignsRow.inPlace == Try.prog.inPlace 7) = true := by kernel_rfl
  have h2 : (Rows.fpSignsRow.unfollowed == Try.prog.unfollowed 7) = true := by kernel_rfl
  have h3 : (Rows.fpSignsRow.recurses == Try.prog.recurses 7) = true := by kernel_rfl
  have h4 : (Rows.fpSignsRow.named == Try.prog.varsNamed 7) = true := by kernel_rfl
  have h5 : (Rows.fpSignsRow.lifted == Try.prog.liftsFinal) = true := Try.lifts
  have h6 : (Try.prog.make == some Rows.fpSignsRow.make) = true := Try.made
  have h7 : (Rows.fpSignsRow.plainKeys == Try.prog.plainKeys) = true := Try.plain
  unfold joinedFacts
  rw [Try.isLaid, Try.isRowed, h1, h2, h3, h4, Try.isHeard, Try.mayIn, h5, h6, h7]
  show _ = true
  kernel_rfl

theorem fpSigns_holds : Rows.FpSignsSaid :=
  OpenClaim.holds_of_wide 7 Try.f7 rfl rfl rfl rfl rfl rfl rfl ⟨rfl, rfl, rfl, rfl, rfl⟩ rfl rfl rfl rfl rfl (by kernel_rfl) Try.func7 fpSigns_facts
    (of_decide_eq_true (by kernel_rfl)) (by unfold Func.isWrapper; rw [if_neg (of_decide_eq_true (by kernel_rfl))]; exact ⟨rfl, rfl⟩)
    (fun os started H enc _ => fpSigns_lifted os started H enc)

end Go.Proofs.Ytbdbmcdcjejffaa
