/- FpSigns, out of the contracts. -/
import Derived.Test.YtbdbmcdcjejffaaFeZ
set_option linter.unusedVariables false
set_option linter.unusedSimpArgs false
namespace Go.Proofs.Ytbdbmcdcjejffaa
open Go Go.Sh

theorem tblSigns_ok (k : Nat) : TblOK Try.prog (tblSigns k wideF (fun a => a) (fun a => -a) oddF largeF (fun a => decide (a = 0)) oddF largeF) :=
  .cons known_ok.row (.cons (lightRow_ok k) (.cons wide_ok.row (.cons ref_ok.row (.cons neg_ok.row (.cons odd_ok.row (.cons large_ok.row (.cons isZero_ok.row (.cons refOdd_ok.row (.cons refLarge_ok.row (.nil _))))))))))
theorem signs_ok : Computes A Try.prog 7 (fun _ : Bs × Unit => true) := by
  refine signs_of _ _ _ _ _ _ _ _ tblSigns_ok ⟨fun _ => rfl, fun _ => rfl, fun a h => ?_, fun a h => odd_neg (of_decide_eq_false h), fun a h => large_neg (of_decide_eq_false h)⟩
  have h := of_decide_eq_true h
  subst h
  exact ⟨by kernel_rfl, by kernel_rfl⟩

end Go.Proofs.Ytbdbmcdcjejffaa
