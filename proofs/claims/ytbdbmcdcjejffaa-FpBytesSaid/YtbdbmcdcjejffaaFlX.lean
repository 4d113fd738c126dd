/- FpBytes, proved with no further conditions: for every input the law answers true and every argument reads behind the call as it read before. -/
import Derived.Test.YtbdbmcdcjejffaaGk2
import Derived.Test.YtbdbmcdcjejffaaFlB
set_option linter.unusedVariables false
set_option linter.unusedSimpArgs false
set_option linter.unusedSectionVars false
namespace Go.Proofs.Ytbdbmcdcjejffaa
open Go Go.Sh Go.RowKit

theorem fpBytes_lifted (os : Os) (started : os.Started) (H : Type) (enc : TypeId × Value → H) :
    ReturnsInHanded {} Try.checked os 3 .any (Rows.fpBytesSpec.pre6 enc Try.prog Try.f3 [] false) (Rows.fpBytesSpec.post enc Try.prog Try.f3 false true false false) :=
  law_row (C := Try.checked) (tb := 4) rfl lawBytes_ok 8 (by kernel_rfl) started Try.func3 (by kernel_rfl) (by kernel_rfl) Try.own (by kernel_rfl) Try.isLaid (by kernel_rfl) rfl (by kernel_rfl) (by kernel_rfl)
    (fun ds h => by obtain ⟨a, b, c, rfl⟩ := three' h; rfl)
    (ChangeSpec.witness6 (enc := enc) (C := Try.checked) false ⟨#[], #[spotVal 0 ⟨none, 0⟩, spotVal 0 ⟨none, 0⟩, .int .u64 0], []⟩ 8 (by kernel_rfl) (by kernel_rfl) (by kernel_rfl) (by kernel_rfl))

theorem fpBytes_facts : joinedFacts Try.prog 3 Try.f3 Rows.fpBytesSpec Rows.fpBytesRow = true := by
  have h1 : (Rows.fpBytesRow.inPlace == Try.prog.inPlace 3) = true := by kernel_rfl
  have h2 : (Rows.fpBytesRow.unfollowed == Try.prog.unfollowed 3) = true := by kernel_rfl
  have h3 : (Rows.fpBytesRow.recurses == Try.prog.recurses 3) = true := by kernel_rfl
  have h4 : (Rows.fpBytesRow.named == Try.prog.varsNamed 3) = true := by kernel_rfl
  have h5 : (Rows.fpBytesRow.lifted == Try.prog.liftsFinal) = true := Try.lifts
  have h6 : (Try.prog.make == some Rows.fpBytesRow.make) = true := Try.made
  have h7 : (Rows.fpBytesRow.plainKeys == Try.prog.plainKeys) = true := Try.plain
  unfold joinedFacts
  rw [Try.isLaid, Try.isRowed, h1, h2, h3, h4, Try.isHeard, Try.mayIn, h5, h6, h7]
  show _ = true
  kernel_rfl

theorem fpBytes_holds : Rows.FpBytesSaid :=
  OpenClaim.holds_of_wide 3 Try.f3 rfl rfl rfl rfl rfl rfl rfl ⟨rfl, rfl, rfl, rfl, rfl⟩ rfl rfl rfl rfl rfl (by kernel_rfl) Try.func3 fpBytes_facts
    (of_decide_eq_true (by kernel_rfl)) (by unfold Func.isWrapper; rw [if_neg (of_decide_eq_true (by kernel_rfl))]; exact ⟨rfl, rfl⟩)
    (fun os started H enc _ => fpBytes_lifted os started H enc)

end Go.Proofs.Ytbdbmcdcjejffaa
