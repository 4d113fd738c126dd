/- The examples of limbs. -/
import Derived.Test.YtaloefkkllebeaaLi4
set_option linter.unusedVariables false
set_option linter.unusedSimpArgs false
set_option linter.unusedSectionVars false
namespace Go.Proofs.Ytaloefkkllebeaa
open Go Go.Sh
theorem tblMont0_ok (o : Nat → Nat → Dec) : TblOK Try.prog (tblMont0 (fun a b => n12 (a.val * b.val)) modN maddHi maddLo adcS adcC o) :=
  .cons limbsMul_ok.row (.cons limbsMod_ok.row (.cons madd_ok.row (.cons add64_ok.row (.cons (rowIn_ok (TblOK.nil _) (ITblOK.nil _) o 8 Try.func58 (by kernel_rfl) (by kernel_rfl)) (.nil _)))))
theorem tblK2_ok : TblOK Try.prog tblK2 :=
  .cons limbsAdd_ok.row (.cons limbsSub_ok.row (.cons limbsFrom_ok.row (.cons limbsMod_ok.row (.cons limbsLess_ok.row (.cons (rowIn_ok (tblMont0_ok evalO) (ITblOK.nil _) evalO 14 Try.func23 (by kernel_rfl) (by kernel_rfl)) (.cons (rowIn_ok (TblOK.nil _) (ITblOK.nil _) evalO 8 Try.func52 (by kernel_rfl) (by kernel_rfl)) (.nil _)))))))
theorem itsK2_ok : ITblOK Try.prog itsK2 :=
  ITblOK.cons (iter_ok (.cons (rowIn_ok (TblOK.nil _) (ITblOK.nil _) evalO 8 Try.func66 (by kernel_rfl) (by kernel_rfl)) (.nil _)) (ITblOK.nil _) evalO 10 Try.func65 (by kernel_rfl) (by kernel_rfl)) (ITblOK.nil _)
end Go.Proofs.Ytaloefkkllebeaa
