/- Fp2Roots, proved with no further conditions: for every input the law answers true and every argument reads behind the call as it read before. -/
import Derived.Test.YtbdbmcdcjejffaaGc2
import Derived.Test.YtbdbmcdcjejffaaFlB
set_option linter.unusedVariables false
set_option linter.unusedSimpArgs false
set_option linter.unusedSectionVars false
namespace Go.Proofs.Ytbdbmcdcjejffaa
open Go Go.Sh Go.RowKit

theorem fp2Roots_lifted (os : Os) (started : os.Started) (H : Type) (enc : TypeId × Value → H) :
    ReturnsInHanded {} Try.checked os 20 .any (Rows.fp2RootsSpec.pre6 enc Try.prog Try.f20 [] false) (Rows.fp2RootsSpec.post enc Try.prog Try.f20 false true false false) :=
  law_row (C := Try.checked) (tb := 4) rfl roots5_ok 8 (by kernel_rfl) started Try.func20 (by kernel_rfl) (by kernel_rfl) Try.own (by kernel_rfl) Try.isLaid (by kernel_rfl) rfl (by kernel_rfl) (by kernel_rfl)
    (fun ds h => by obtain ⟨a, b, c, rfl⟩ := three' h; rfl)
    (ChangeSpec.witness6 (enc := enc) (C := Try.checked) false ⟨#[], #[spotVal 0 ⟨none, 0⟩, .bool false, .bool false], []⟩ 8 (by kernel_rfl) (by kernel_rfl) (by kernel_rfl) (by kernel_rfl))

theorem fp2Roots_facts : joinedFacts Try.prog 20 Try.f20 Rows.fp2RootsSpec Rows.fp2RootsRow = true := by
  have h1 : (Rows.fp2RootsRow.inPlace == Try.prog.inPlace 20) = true := by kernel_rfl
  have h2 : (Rows.fp2RootsRow.unfollowed == Try.prog.unfollowed 20) = true := by kernel_rfl
  have h3 : (Rows.fp2RootsRow.recurses == Try.prog.recurses 20) = true := by kernel_rfl
  have h4 : (Rows.fp2RootsRow.named == Try.prog.varsNamed 20) = true := by kernel_rfl
  have h5 : (Rows.fp2RootsRow.lifted == Try.prog.liftsFinal) = true := Try.lifts
  have h6 : (Try.prog.make == some Rows.fp2RootsRow.make) = true := Try.made
  have h7 : (Rows.fp2RootsRow.plainKeys == Try.prog.plainKeys) = true := Try.plain
  unfold joinedFacts
  rw [Try.isLaid, Try.isRowed, h1, h2, h3, h4, Try.isHeard, Try.mayIn, h5, h6, h7]
  show _ = true
  kernel_rfl

theorem fp2Roots_holds : Rows.Fp2RootsSaid :=
  OpenClaim.holds_of_wide 20 Try.f20 rfl rfl rfl rfl rfl rfl rfl ⟨rfl, rfl, rfl, rfl, rfl⟩ rfl rfl rfl rfl rfl (by kernel_rfl) Try.func20 fp2Roots_facts
    (of_decide_eq_true (by kernel_rfl)) (by unfold Func.isWrapper; rw [if_neg (of_decide_eq_true (by kernel_rfl))]; exact ⟨rfl, rfl⟩)
    (fun os started H enc _ => fp2Roots_lifted os started H enc)

end Go.Proofs.Ytbdbmcdcjejffaa
