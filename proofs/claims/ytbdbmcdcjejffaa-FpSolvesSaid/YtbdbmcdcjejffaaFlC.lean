/- FpSolves, proved with no further conditions: for every input the law answers true and every argument reads behind the call as it read before. -/
import Derived.Test.YtbdbmcdcjejffaaFeT
import Derived.Test.YtbdbmcdcjejffaaFlB
set_option linter.unusedVariables false
set_option linter.unusedSimpArgs false
namespace Go.Proofs.Ytbdbmcdcjejffaa
open Go Go.Sh Go.RowKit

theorem fpSolves_lifted (os : Os) (started : os.Started) (H : Type) (enc : TypeId × Value → H) :
    ReturnsInHanded {} Try.checked os 6 .any (Rows.fpSolvesSpec.pre6 enc Try.prog Try.f6 [] false) (Rows.fpSolvesSpec.post enc Try.prog Try.f6 false true false false) :=
  law_row (C := Try.checked) (tb := 4) rfl solves_ok 8 (by kernel_rfl) started Try.func6 (by kernel_rfl) (by kernel_rfl) Try.own (by kernel_rfl) Try.isLaid (by kernel_rfl) rfl (by kernel_rfl) (by kernel_rfl)
    (fun ds h => by obtain ⟨a, b, rfl⟩ := two' h; rfl)
    (ChangeSpec.witness6 (enc := enc) (C := Try.checked) false ⟨#[], #[spotVal 0 ⟨none, 0⟩, spotVal 0 ⟨none, 0⟩], []⟩ 8 (by kernel_rfl) (by kernel_rfl) (by kernel_rfl) (by kernel_rfl))

theorem fpSolves_facts : joinedFacts Try.prog 6 Try.f6 Rows.fpSolvesSpec Rows.fpSolvesRow = true := by
  have h1 : (Rows.fpSolvesRow.inPlace == Try.prog.inPlace 6) = true := by kernel_rfl
  have h2 : (Rows.fpSolvesRow.unfollowed == Try.prog.unfollowed 6) = true := by kernel_rfl
  have h3 : (Rows.fpSolvesRow.recurses == Try.prog.recurses 6) = true := by kernel_rfl
  have h4 : (Rows.fpSolvesRow.named == Try.prog.varsNamed 6) = true := by kernel_rfl
  have h5 : (Rows.fpSolvesRow.lifted == Try.prog.liftsFinal) = true := Try.lifts
  have h6 : (Try.prog.make == some Rows.fpSolvesRow.make) = true := Try.made
  have h7 : (Rows.fpSolvesRow.plainKeys == Try.prog.plainKeys) = true := Try.plain
  unfold joinedFacts
  rw [Try.isLaid, Try.isRowed, h1, h2, h3, h4, Try.isHeard, Try.mayIn, h5, h6, h7]
  show _ = true
  kernel_rfl

theorem fpSolves_holds : Rows.FpSolvesSaid :=
  OpenClaim.holds_of_wide 6 Try.f6 rfl rfl rfl rfl rfl rfl rfl ⟨rfl, rfl, rfl, rfl, rfl⟩ rfl rfl rfl rfl rfl (by kernel_rfl) Try.func6 fpSolves_facts
    (of_decide_eq_true (by kernel_rfl)) (by unfold Func.isWrapper; rw [if_neg (of_decide_eq_true (by kernel_rfl))]; exact ⟨rfl, rfl⟩)
    (fun os started H enc _ => fpSolves_lifted os started H enc)

end Go.Proofs.Ytbdbmcdcjejffaa
