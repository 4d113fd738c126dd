/- FpRoots, proved with no further conditions: for every input the law answers true and every argument reads behind the call as it read before. -/
import Derived.Test.YtbdbmcdcjejffaaFpF
import Derived.Test.YtbdbmcdcjejffaaFlB
set_option linter.unusedVariables false
set_option linter.unusedSimpArgs false
set_option linter.unusedSectionVars false
namespace Go.Proofs.Ytbdbmcdcjejffaa
open Go Go.Sh Go.RowKit

theorem fpRoots_lifted (os : Os) (started : os.Started) (H : Type) (enc : TypeId × Value → H) :
    ReturnsInHanded {} Try.checked os 8 .any (Rows.fpRootsSpec.pre6 enc Try.prog Try.f8 [] false) (Rows.fpRootsSpec.post enc Try.prog Try.f8 false true false false) :=
  law_row (C := Try.checked) (tb := 4) rfl roots_ok 8 (by kernel_rfl) started Try.func8 (by kernel_rfl) (by kernel_rfl) Try.own (by kernel_rfl) Try.isLaid (by kernel_rfl) rfl (by kernel_rfl) (by kernel_rfl)
    (fun ds h => by obtain ⟨a, rfl⟩ := one' h; rfl)
    (ChangeSpec.witness6 (enc := enc) (C := Try.checked) false ⟨#[], #[spotVal 0 ⟨none, 0⟩], []⟩ 8 (by kernel_rfl) (by kernel_rfl) (by kernel_rfl) (by kernel_rfl))

theorem fpRoots_facts : joinedFacts Try.prog 8 Try.f8 Rows.fpRootsSpec Rows.fpRootsRow = true := by
  have h1 : (Rows.fpRootsRow.inPlace == Try.prog.inPlace 8) = true := by kernel_rfl
  have h2 : (Rows.fpRootsRow.unfollowed == Try.prog.unfollowed 8) = true := by kernel_rfl
  have h3 : (Rows.fpRootsRow.recurses == Try.prog.recurses 8) = true := by kernel_rfl
  have h4 : (Rows.fpRootsRow.named == Try.prog.varsNamed 8) = true := by kernel_rfl
  have h5 : (Rows.fpRootsRow.lifted == Try.prog.liftsFinal) = true := Try.lifts
  have h6 : (Try.prog.make == some Rows.fpRootsRow.make) = true := Try.made
  have h7 : (Rows.fpRootsRow.plainKeys == Try.prog.plainKeys) = true := Try.plain
  unfold joinedFacts
  rw [Try.isLaid, Try.isRowed, h1, h2, h3, h4, Try.isHeard, Try.mayIn, h5, h6, h7]
  show _ = true
  kernel_rfl

theorem fpRoots_holds : Rows.FpRootsSaid :=
  OpenClaim.holds_of_wide 8 Try.f8 rfl rfl rfl rfl rfl rfl rfl ⟨rfl, rfl, rfl, rfl, rfl⟩ rfl rfl rfl rfl rfl (by kernel_rfl) Try.func8 fpRoots_facts
    (of_decide_eq_true (by kernel_rfl)) (by unfold Func.isWrapper; rw [if_neg (of_decide_eq_true (by kernel_rfl))]; exact ⟨rfl, rfl⟩)
    (fun os started H enc _ => fpRoots_lifted os started H enc)

end Go.Proofs.Ytbdbmcdcjejffaa
