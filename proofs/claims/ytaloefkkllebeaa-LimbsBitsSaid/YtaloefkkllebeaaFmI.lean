/- LimbsBits, proved with no further conditions: for every input the law answers true and every argument reads behind the call as it read before. -/
import Derived.Test.YtaloefkkllebeaaLk6
import Derived.Test.YtaloefkkllebeaaFlB
set_option linter.unusedVariables false
set_option linter.unusedSimpArgs false
set_option linter.unusedSectionVars false
namespace Go.Proofs.Ytaloefkkllebeaa
open Go Go.Sh Go.RowKit

theorem limbsBits_lifted (os : Os) (started : os.Started) (H : Type) (enc : TypeId × Value → H) :
    ReturnsInHanded {} Try.checked os 7 .any (Rows.limbsBitsSpec.pre6 enc Try.prog Try.f7 [] false) (Rows.limbsBitsSpec.post enc Try.prog Try.f7 false true false false) :=
  law_row (C := Try.checked) (tb := 4) rfl limbsBits_ok 8 (by kernel_rfl) started Try.func7 (by kernel_rfl) (by kernel_rfl) Try.own (by kernel_rfl) Try.isLaid (by kernel_rfl) rfl (by kernel_rfl) (by kernel_rfl)
    (fun ds h => by obtain ⟨a, b, rfl⟩ := two' h; rfl)
    (ChangeSpec.witness6 (enc := enc) (C := Try.checked) false ⟨#[], #[.agg #[.int .u64 0, .int .u64 0, .int .u64 0, .int .u64 0, .int .u64 0, .int .u64 0], .int .i64 0], []⟩ 8 (by kernel_rfl) (by kernel_rfl) (by kernel_rfl) (by kernel_rfl))

theorem limbsBits_facts : joinedFacts Try.prog 7 Try.f7 Rows.limbsBitsSpec Rows.limbsBitsRow = true := by
  have h1 : (Rows.limbsBitsRow.inPlace == Try.prog.inPlace 7) = true := by kernel_rfl
  have h2 : (Rows.limbsBitsRow.unfollowed == Try.prog.unfollowed 7) = true := by kernel_rfl
  have h3 : (Rows.limbsBitsRow.recurses == Try.prog.recurses 7) = true := by kernel_rfl
  have h4 : (Rows.limbsBitsRow.named == Try.prog.varsNamed 7) = true := by kernel_rfl
  have h5 : (Rows.limbsBitsRow.lifted == Try.prog.liftsFinal) = true := Try.lifts
  have h6 : (Try.prog.make == some Rows.limbsBitsRow.make) = true := Try.made
  have h7 : (Rows.limbsBitsRow.plainKeys == Try.prog.plainKeys) = true := Try.plain
  unfold joinedFacts
  rw [Try.isLaid, Try.isRowed, h1, h2, h3, h4, Try.isHeard, Try.mayIn, h5, h6, h7]
  show _ = true
  kernel_rfl

theorem limbsBits_holds : Rows.LimbsBitsSaid :=
  OpenClaim.holds_of_wide 7 Try.f7 rfl rfl rfl rfl rfl rfl rfl ⟨rfl, rfl, rfl, rfl, rfl⟩ rfl rfl rfl rfl rfl (by kernel_rfl) Try.func7 limbsBits_facts
    (of_decide_eq_true (by kernel_rfl)) (by unfold Func.isWrapper; rw [if_neg (of_decide_eq_true (by kernel_rfl))]; exact ⟨rfl, rfl⟩)
    (fun os started H enc _ => limbsBits_lifted os started H enc)

end Go.Proofs.Ytaloefkkllebeaa
