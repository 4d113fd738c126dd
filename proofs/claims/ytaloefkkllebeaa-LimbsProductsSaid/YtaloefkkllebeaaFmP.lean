/- LimbsProducts, proved with no further conditions: for every input the law answers true and every argument reads behind the call as it read before. -/
import Derived.Test.YtaloefkkllebeaaLi9
import Derived.Test.YtaloefkkllebeaaFlB
set_option linter.unusedVariables false
set_option linter.unusedSimpArgs false
set_option linter.unusedSectionVars false
namespace Go.Proofs.Ytaloefkkllebeaa
open Go Go.Sh Go.RowKit

theorem limbsProducts_lifted (os : Os) (started : os.Started) (H : Type) (enc : TypeId × Value → H) :
    ReturnsInHanded {} Try.checked os 4 .any (Rows.limbsProductsSpec.pre6 enc Try.prog Try.f4 [] false) (Rows.limbsProductsSpec.post enc Try.prog Try.f4 false true false false) :=
  law_row (C := Try.checked) (tb := 4) rfl limbsProducts_ok 8 (by kernel_rfl) started Try.func4 (by kernel_rfl) (by kernel_rfl) Try.own (by kernel_rfl) Try.isLaid (by kernel_rfl) rfl (by kernel_rfl) (by kernel_rfl)
    (fun ds h => by obtain ⟨a, b, c, rfl⟩ := three' h; rfl)
    (ChangeSpec.witness6 (enc := enc) (C := Try.checked) false ⟨#[], #[.agg #[.int .u64 0, .int .u64 0, .int .u64 0, .int .u64 0, .int .u64 0, .int .u64 0], .agg #[.int .u64 0, .int .u64 0, .int .u64 0, .int .u64 0, .int .u64 0, .int .u64 0], .agg #[.int .u64 0, .int .u64 0, .int .u64 0, .int .u64 0, .int .u64 0, .int .u64 0]], []⟩ 8 (by kernel_rfl) (by kernel_rfl) (by kernel_rfl) (by kernel_rfl))

theorem limbsProducts_facts : joinedFacts Try.prog 4 Try.f4 Rows.limbsProductsSpec Rows.limbsProductsRow = true := by
  have h1 : (Rows.limbsProductsRow.inPlace == Try.prog.inPlace 4) = true := by kernel_rfl
  have h2 : (Rows.limbsProductsRow.unfollowed == Try.prog.unfollowed 4) = true := by kernel_rfl
  have h3 : (Rows.limbsProductsRow.recurses == Try.prog.recurses 4) = true := by kernel_rfl
  have h4 : (Rows.limbsProductsRow.named == Try.prog.varsNamed 4) = true := by kernel_rfl
  have h5 : (Rows.limbsProductsRow.lifted == Try.prog.liftsFinal) = true := Try.lifts
  have h6 : (Try.prog.make == some Rows.limbsProductsRow.make) = true := Try.made
  have h7 : (Rows.limbsProductsRow.plainKeys == Try.prog.plainKeys) = true := Try.plain
  unfold joinedFacts
  rw [Try.isLaid, Try.isRowed, h1, h2, h3, h4, Try.isHeard, Try.mayIn, h5, h6, h7]
  show _ = true
  kernel_rfl

theorem limbsProducts_holds : Rows.LimbsProductsSaid :=
  OpenClaim.holds_of_wide 4 Try.f4 rfl rfl rfl rfl rfl rfl rfl ⟨rfl, rfl, rfl, rfl, rfl⟩ rfl rfl rfl rfl rfl (by kernel_rfl) Try.func4 limbsProducts_facts
    (of_decide_eq_true (by kernel_rfl)) (by unfold Func.isWrapper; rw [if_neg (of_decide_eq_true (by kernel_rfl))]; exact ⟨rfl, rfl⟩)
    (fun os started H enc _ => limbsProducts_lifted os started H enc)

end Go.Proofs.Ytaloefkkllebeaa
