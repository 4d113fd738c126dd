/- Fp12Reckons, proved with no further conditions: for every input the law answers true and every argument reads behind the call as it read before. -/
import Derived.Test.YtbdbmcdcjejffaaGreatGz2
import Derived.Test.YtbdbmcdcjejffaaGreatFlB
set_option linter.unusedVariables false
set_option linter.unusedSimpArgs false
set_option linter.unusedSectionVars false
namespace Go.Proofs.YtbdbmcdcjejffaaGreat
open Go Go.Sh Go.RowKit

theorem fp12Reckons_lifted (os : Os) (started : os.Started) (H : Type) (enc : TypeId × Value → H) :
    ReturnsInHanded {} Tryz.checked os 3 .any (Rows.fp12ReckonsSpec.pre6 enc Tryz.prog Tryz.f3 [] false) (Rows.fp12ReckonsSpec.post enc Tryz.prog Tryz.f3 false true false false) :=
  law_row (C := Tryz.checked) (tb := 4) rfl reckons7_ok 8 (by kernel_rfl) started Tryz.func3 (by kernel_rfl) (by kernel_rfl) Tryz.own (by kernel_rfl) Tryz.isLaid (by kernel_rfl) rfl (by kernel_rfl) (by kernel_rfl)
    (fun ds h => by obtain ⟨a, b, rfl⟩ := two' h; rfl)
    (ChangeSpec.witness6 (enc := enc) (C := Tryz.checked) false ⟨#[], #[spotVal 0 ⟨none, 0⟩, spotVal 0 ⟨none, 0⟩], []⟩ 8 (by kernel_rfl) (by kernel_rfl) (by kernel_rfl) (by kernel_rfl))

theorem fp12Reckons_facts : joinedFacts Tryz.prog 3 Tryz.f3 Rows.fp12ReckonsSpec Rows.fp12ReckonsRow = true := by
  have h1 : (Rows.fp12ReckonsRow.inPlace == Tryz.prog.inPlace 3) = true := by kernel_rfl
  have h2 : (Rows.fp12ReckonsRow.unfollowed == Tryz.prog.unfollowed 3) = true := by kernel_rfl
  have h3 : (Rows.fp12ReckonsRow.recurses == Tryz.prog.recurses 3) = true := by kernel_rfl
  have h4 : (Rows.fp12ReckonsRow.named == Tryz.prog.varsNamed 3) = true := by kernel_rfl
  have h5 : (Rows.fp12ReckonsRow.lifted == Tryz.prog.liftsFinal) = true := Tryz.lifts
  have h6 : (Tryz.prog.make == some Rows.fp12ReckonsRow.make) = true := Tryz.made
  have h7 : (Rows.fp12ReckonsRow.plainKeys == Tryz.prog.plainKeys) = true := Tryz.plain
  unfold joinedFacts
  rw [Tryz.isLaid, Tryz.isRowed, h1, h2, h3, h4, Tryz.isHeard, Tryz.mayIn, h5, h6, h7]
  show _ = true
  kernel_rfl

theorem fp12Reckons_holds : Rows.Fp12ReckonsSaid :=
  OpenClaim.holds_of_wide 3 Tryz.f3 rfl rfl rfl rfl rfl rfl rfl ⟨rfl, rfl, rfl, rfl, rfl⟩ rfl rfl rfl rfl rfl (by kernel_rfl) Tryz.func3 fp12Reckons_facts
    (of_decide_eq_true (by kernel_rfl)) (by unfold Func.isWrapper; rw [if_neg (of_decide_eq_true (by kernel_rfl))]; exact ⟨rfl, rfl⟩)
    (fun os started H enc _ => fp12Reckons_lifted os started H enc)

end Go.Proofs.YtbdbmcdcjejffaaGreat
