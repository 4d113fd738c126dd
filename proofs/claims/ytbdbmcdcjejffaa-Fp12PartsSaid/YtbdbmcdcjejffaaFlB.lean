/- FpLaws, proved with no further conditions: for every input the law answers true and every argument reads behind the call as it read before. -/
import Derived.Test.YtbdbmcdcjejffaaFe5
import Derived.Test.YtbdbmcdcjejffaaEn3
import Derived.Test.YtbdbmcdcjejffaaFlP
import Derived.Test.YtbdbmcdcjejffaaFlQ
set_option linter.unusedVariables false
set_option linter.unusedSimpArgs false
set_option linter.unusedSectionVars false
namespace Go.Proofs.Ytbdbmcdcjejffaa
open Go Go.Sh Go.RowKit

theorem Try.own : ownKnob Try.prog.godebug = none := by kernel_rfl

theorem one' {H : Type} {ds : List (DataW H)} (h : ds.length = 1) : ∃ a, ds = [a] := by
  match ds, h with
  | [a], _ => exact ⟨a, rfl⟩
theorem two' {H : Type} {ds : List (DataW H)} (h : ds.length = 2) : ∃ a b, ds = [a, b] := by
  match ds, h with
  | [a, b], _ => exact ⟨a, b, rfl⟩
theorem three' {H : Type} {ds : List (DataW H)} (h : ds.length = 3) : ∃ a b c, ds = [a, b, c] := by
  match ds, h with
  | [a, b, c], _ => exact ⟨a, b, c, rfl⟩

theorem fpLaws_lifted (os : Os) (started : os.Started) (H : Type) (enc : TypeId × Value → H) :
    ReturnsInHanded {} Try.checked os 5 .any (Rows.fpLawsSpec.pre6 enc Try.prog Try.f5 [] false) (Rows.fpLawsSpec.post enc Try.prog Try.f5 false true false false) :=
  law_row (C := Try.checked) (tb := 4) rfl laws_ok 8 (by kernel_rfl) started Try.func5 (by kernel_rfl) (by kernel_rfl) Try.own (by kernel_rfl) Try.isLaid (by kernel_rfl) rfl (by kernel_rfl) (by kernel_rfl)
    (fun ds h => by obtain ⟨a, b, c, rfl⟩ := three' h; rfl)
    (ChangeSpec.witness6 (enc := enc) (C := Try.checked) false ⟨#[], #[spotVal 0 ⟨none, 0⟩, spotVal 0 ⟨none, 0⟩, spotVal 0 ⟨none, 0⟩], []⟩ 8 (by kernel_rfl) (by kernel_rfl) (by kernel_rfl) (by kernel_rfl))

theorem fpLaws_facts : joinedFacts Try.prog 5 Try.f5 Rows.fpLawsSpec Rows.fpLawsRow = true := by
  have h1 : (Rows.fpLawsRow.inPlace == Try.prog.inPlace 5) = true := by kernel_rfl
  have h2 : (Rows.fpLawsRow.unfollowed == Try.prog.unfollowed 5) = true := by kernel_rfl
  have h3 : (Rows.fpLawsRow.recurses == Try.prog.recurses 5) = true := by kernel_rfl
  have h4 : (Rows.fpLawsRow.named == Try.prog.varsNamed 5) = true := by kernel_rfl
  unfold joinedFacts
  rw [Try.isLaid, Try.isRowed, h1, h2, h3, h4, Try.isHeard, Try.mayIn, Try.lifts, Try.made, Try.plain]
  show _ = true
  kernel_rfl

theorem fpLaws_holds : Rows.FpLawsSaid :=
  OpenClaim.holds_of_wide 5 Try.f5 rfl rfl rfl rfl rfl rfl rfl ⟨rfl, rfl, rfl, rfl, rfl⟩ rfl rfl rfl rfl rfl (by kernel_rfl) Try.func5 fpLaws_facts
    (of_decide_eq_true (by kernel_rfl)) (by unfold Func.isWrapper; rw [if_neg (of_decide_eq_true (by kernel_rfl))]; exact ⟨rfl, rfl⟩)
    (fun os started H enc _ => fpLaws_lifted os started H enc)

end Go.Proofs.Ytbdbmcdcjejffaa
