/- Fp12Reckons. -/
import Derived.Test.YtbdbmcdcjejffaaGreatGz1
set_option linter.unusedVariables false
set_option linter.unusedSimpArgs false
set_option linter.unusedSectionVars false
namespace Go.Proofs.YtbdbmcdcjejffaaGreat
open Go Go.Sh

theorem tblFp12Reckons_ok (k : Nat) : TblOK Tryz.prog (tblFp12Reckons k (twelve2 (six3 (num2 wideF))) toT (addY (addV add2)) (addT add2) (subY (subV sub2)) (negT neg2) (m2 vE) mulS sqr12 conjY conjT invY invT (fun a b => decide (a = b)) (fun a => decide (a = (zeroV, zeroV)))) :=
  .cons known7_ok.row (.cons (light7Row_ok k) (.cons twelve_ok.row (.cons refs7_ok.row (.cons addY_ok.row (.cons addT_ok.row (.cons subY_ok.row (.cons negT_ok.row (.cons mulY_ok.row (.cons mulT_ok.row (.cons sqY_ok.row (.cons conjY_ok.row (.cons conjT_ok.row (.cons invY_ok.row (.cons invT_ok.row (.cons eqY_ok.row (.cons isZY_ok.row (.nil _)))))))))))))))))

theorem eqs' {a b : T6} (h : a = b) : eqT a b = true := by rw [eqT_eq]; exact decide_eq_true h
theorem eqn' {a b : T6} (h : ¬ a = b) : eqT a b = false := by rw [eqT_eq]; exact decide_eq_false h
theorem reckons7_ok : Computes A Tryz.prog 3 (fun _ : Bs × Bs × Unit => true) :=
  fp12Reckons_of (twelve2 (six3 (num2 wideF))) toT (addY (addV add2)) (addT add2) (subY (subV sub2)) (negT neg2) (m2 vE) mulS sqr12 conjY conjT invY invT (fun a b => decide (a = b)) (fun a => decide (a = (zeroV, zeroV))) tblFp12Reckons_ok
    (fun a b he hz => ⟨decide_eq_true invY_zero, eqs (congrArg toT (of_decide_eq_true hz)), eqs (congrArg toT (of_decide_eq_true he)), eqs (invT_eq a), eqs (conjT_eq a).symm, eqs (mulS_eq a a), eqs (mulS_eq a b), eqs (subT_eq a b), eqs (addT_eq a b), rfl, trivial⟩)
    (fun a b he hz => ⟨decide_eq_true invY_zero, eqn (fun h => of_decide_eq_false hz (toT_inj (b := (zeroV, zeroV)) h)), eqs (congrArg toT (of_decide_eq_true he)), eqs (invT_eq a), eqs (conjT_eq a).symm, eqs (mulS_eq a a), eqs (mulS_eq a b), eqs (subT_eq a b), eqs (addT_eq a b), rfl, trivial⟩)
    (fun a b he hz => ⟨decide_eq_true invY_zero, eqs (congrArg toT (of_decide_eq_true hz)), eqn (fun h => of_decide_eq_false he (toT_inj h)), eqs (invT_eq a), eqs (conjT_eq a).symm, eqs (mulS_eq a a), eqs (mulS_eq a b), eqs (subT_eq a b), eqs (addT_eq a b), rfl, trivial⟩)
    (fun a b he hz => ⟨decide_eq_true invY_zero, eqn (fun h => of_decide_eq_false hz (toT_inj (b := (zeroV, zeroV)) h)), eqn (fun h => of_decide_eq_false he (toT_inj h)), eqs (invT_eq a), eqs (conjT_eq a).symm, eqs (mulS_eq a a), eqs (mulS_eq a b), eqs (subT_eq a b), eqs (addT_eq a b), rfl, trivial⟩)

end Go.Proofs.YtbdbmcdcjejffaaGreat
