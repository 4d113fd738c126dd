/- LimbsMods, proved with no further conditions: for every input the law answers true and every argument reads behind the call as it read before. -/
import Derived.Test.YtaloefkkllebeaaLi8
import Derived.Test.YtaloefkkllebeaaFlB
set_option linter.unusedVariables false
set_option linter.unusedSimpArgs false
set_option linter.unusedSectionVars false
namespace Go.Proofs.Ytaloefkkllebeaa
open Go Go.Sh Go.RowKit

theorem limbsMods_lifted (os : Os) (started : os.Started) (H : Type) (enc : TypeId × Value → H) :
    ReturnsInHanded {} Try.checked os 5 .any (Rows.limbsModsSpec.pre6 enc Try.prog Try.f5 [] false) (Rows.limbsModsSpec.post enc Try.prog Try.f5 false true false false) :=
  law_row (C := Try.checked) (tb := 4) rfl limbsMods_ok 8 (by kernel_rfl) started Try.func5 (by kernel_rfl) (by kernel_rfl) Try.own (by kernel_rfl) Try.isLaid (by kernel_rfl) rfl (by kernel_rfl) (by kernel_rfl)
    (fun ds h => by obtain ⟨a, b, rfl⟩ := two' h; rfl)
    (ChangeSpec.witness6 (enc := enc) (C := Try.checked) false ⟨#[], #[.agg #[.int .u64 0, .int .u64 0, .int .u64 0, .int .u64 0, .int .u64 0, .int .u64 0, .int .u64 0, .int .u64 0, .int .u64 0, .int .u64 0, .int .u64 0, .int .u64 0], .agg #[.int .u64 0, .int .u64 0, .int .u64 0, .int .u64 0, .int .u64 0, .int .u64 0]], []⟩ 8 (by kernel_rfl) (by kernel_rfl) (by kernel_rfl) (by kernel_rfl))

theorem limbsMods_facts : joinedFacts Try.prog 5 Try.f5 Rows.limbsModsSpec Rows.limbsModsRow = true := by
  have h1 : (Rows.limbsModsRow.inPlace == Try.prog.inPlace 5) = true := by kernel_rfl
  have h2 : (Rows.limbsModsRow.unfollowed == Try.prog.unfollowed 5) = true := by kernel_rfl
  have h3 : (Rows.limbsModsRow.recurses == Try.prog.recurses 5) = true := by kernel_rfl
  have h4 : (Rows.limbsModsRow.named == Try.prog.varsNamed 5) = true := by kernel_rfl
  have h5 : (Rows.limbsModsRow.lifted == Try.prog.liftsFinal) = true := Try.lifts
  have h6 : (Try.prog.make == some Rows.limbsModsRow.make) = true := Try.made
  have h7 : (Rows.limbsModsRow.plainKeys == Try.prog.plainKeys) = true := Try.plain
  unfold joinedFacts
  rw [Try.isLaid, Try.isRowed, h1, h2, h3, h4, Try.isHeard, Try.mayIn, h5, h6, h7]
  show _ = true
  kernel_rfl

theorem limbsMods_holds : Rows.LimbsModsSaid :=
  OpenClaim.holds_of_wide 5 Try.f5 rfl rfl rfl rfl rfl rfl rfl ⟨rfl, rfl, rfl, rfl, rfl⟩ rfl rfl rfl rfl rfl (by kernel_rfl) Try.func5 limbsMods_facts
    (of_decide_eq_true (by kernel_rfl)) (by unfold Func.isWrapper; rw [if_neg (of_decide_eq_true (by kernel_rfl))]; exact ⟨rfl, rfl⟩)
    (fun os started H enc _ => limbsMods_lifted os started H enc)

end Go.Proofs.Ytaloefkkllebeaa
