/- Fp12Frobs, proved with no further conditions: for every input the law answers true and every argument reads behind the call as it read before. -/
import Derived.Test.YtbdbmcdcjejffaaGg4
import Derived.Test.YtbdbmcdcjejffaaFlB
set_option linter.unusedVariables false
set_option linter.unusedSimpArgs false
set_option linter.unusedSectionVars false
namespace Go.Proofs.Ytbdbmcdcjejffaa
open Go Go.Sh Go.RowKit

theorem fp12Frobs_lifted (os : Os) (started : os.Started) (H : Type) (enc : TypeId × Value → H) :
    ReturnsInHanded {} Try.checked os 24 .any (Rows.fp12FrobsSpec.pre6 enc Try.prog Try.f24 [] false) (Rows.fp12FrobsSpec.post enc Try.prog Try.f24 false true false false) :=
  law_row (C := Try.checked) (tb := 4) rfl frobs7_ok 8 (by kernel_rfl) started Try.func24 (by kernel_rfl) (by kernel_rfl) Try.own (by kernel_rfl) Try.isLaid (by kernel_rfl) rfl (by kernel_rfl) (by kernel_rfl)
    (fun ds h => by match ds, h with | [a, b, c, d], _ => rfl)
    (ChangeSpec.witness6 (enc := enc) (C := Try.checked) false ⟨#[], #[spotVal 0 ⟨none, 0⟩, spotVal 0 ⟨none, 0⟩, .int .i64 0, .int .i64 0], []⟩ 8 (by kernel_rfl) (by kernel_rfl) (by kernel_rfl) (by kernel_rfl))

theorem fp12Frobs_facts : joinedFacts Try.prog 24 Try.f24 Rows.fp12FrobsSpec Rows.fp12FrobsRow = true := by
  have h1 : (Rows.fp12FrobsRow.inPlace == Try.prog.inPlace 24) = true := by kernel_rfl
  have h2 : (Rows.fp12FrobsRow.unfollowed == Try.prog.unfollowed 24) = true := by kernel_rfl
  have h3 : (Rows.fp12FrobsRow.recurses == Try.prog.recurses 24) = true := by kernel_rfl
  have h4 : (Rows.fp12FrobsRow.named == Try.prog.varsNamed 24) = true := by kernel_rfl
  have h5 : (Rows.fp12FrobsRow.lifted == Try.prog.liftsFinal) = true := Try.lifts
  have h6 : (Try.prog.make == some Rows.fp12FrobsRow.make) = true := Try.made
  have h7 : (Rows.fp12FrobsRow.plainKeys == Try.prog.plainKeys) = true := Try.plain
  unfold joinedFacts
  rw [Try.isLaid, Try.isRowed, h1, h2, h3, h4, Try.isHeard, Try.mayIn, h5, h6, h7]
  show _ = true
  kernel_rfl

theorem fp12Frobs_holds : Rows.Fp12FrobsSaid :=
  OpenClaim.holds_of_wide 24 Try.f24 rfl rfl rfl rfl rfl rfl rfl ⟨rfl, rfl, rfl, rfl, rfl⟩ rfl rfl rfl rfl rfl (by kernel_rfl) Try.func24 fp12Frobs_facts
    (of_decide_eq_true (by kernel_rfl)) (by unfold Func.isWrapper; rw [if_neg (of_decide_eq_true (by kernel_rfl))]; exact ⟨rfl, rfl⟩)
    (fun os started H enc _ => fp12Frobs_lifted os started H enc)

end Go.Proofs.Ytbdbmcdcjejffaa
