/- LimbsBytes, proved with no further conditions: for every input the law answers true and every argument reads behind the call as it read before. -/
import Derived.Test.YtaloefkkllebeaaLj1
import Derived.Test.YtaloefkkllebeaaFlB
set_option linter.unusedVariables false
set_option linter.unusedSimpArgs false
set_option linter.unusedSectionVars false
namespace Go.Proofs.Ytaloefkkllebeaa
open Go Go.Sh Go.RowKit

theorem limbsBytes_lifted (os : Os) (started : os.Started) (H : Type) (enc : TypeId × Value → H) :
    ReturnsInHanded {} Try.checked os 8 .any (Rows.limbsBytesSpec.pre6 enc Try.prog Try.f8 [] false) (Rows.limbsBytesSpec.post enc Try.prog Try.f8 false true false false) :=
  law_row (C := Try.checked) (tb := 4) rfl limbsBytesLaw_ok 8 (by kernel_rfl) started Try.func8 (by kernel_rfl) (by kernel_rfl) Try.own (by kernel_rfl) Try.isLaid (by kernel_rfl) rfl (by kernel_rfl) (by kernel_rfl)
    (fun ds h => by obtain ⟨a, b, rfl⟩ := two' h; rfl)
    (ChangeSpec.witness6 (enc := enc) (C := Try.checked) false ⟨#[], #[spotVal 0 ⟨none, 0⟩, .agg #[.int .u64 0, .int .u64 0, .int .u64 0, .int .u64 0, .int .u64 0, .int .u64 0]], []⟩ 8 (by kernel_rfl) (by kernel_rfl) (by kernel_rfl) (by kernel_rfl))

theorem limbsBytes_facts : joinedFacts Try.prog 8 Try.f8 Rows.limbsBytesSpec Rows.limbsBytesRow = true := by
  have h1 : (Rows.limbsBytesRow.inPlace == Try.prog.inPlace 8) = true := by kernel_rfl
  have h2 : (Rows.limbsBytesRow.unfollowed == Try.prog.unfollowed 8) = true := by kernel_rfl
  have h3 : (Rows.limbsBytesRow.recurses == Try.prog.recurses 8) = true := by kernel_rfl
  have h4 : (Rows.limbsBytesRow.named == Try.prog.varsNamed 8) = true := by kernel_rfl
  have h5 : (Rows.limbsBytesRow.lifted == Try.prog.liftsFinal) = true := Try.lifts
  have h6 : (Try.prog.make == some Rows.limbsBytesRow.make) = true := Try.made
  have h7 : (Rows.limbsBytesRow.plainKeys == Try.prog.plainKeys) = true := Try.plain
  unfold joinedFacts
  rw [Try.isLaid, Try.isRowed, h1, h2, h3, h4, Try.isHeard, Try.mayIn, h5, h6, h7]
  show _ = true
  kernel_rfl

theorem limbsBytes_holds : Rows.LimbsBytesSaid :=
  OpenClaim.holds_of_wide 8 Try.f8 rfl rfl rfl rfl rfl rfl rfl ⟨rfl, rfl, rfl, rfl, rfl⟩ rfl rfl rfl rfl rfl (by kernel_rfl) Try.func8 limbsBytes_facts
    (of_decide_eq_true (by kernel_rfl)) (by unfold Func.isWrapper; rw [if_neg (of_decide_eq_true (by kernel_rfl))]; exact ⟨rfl, rfl⟩)
    (fun os started H enc _ => limbsBytes_lifted os started H enc)

end Go.Proofs.Ytaloefkkllebeaa
