/- The scalar field: elements made of numbers, and numbers of elements. -/
import Derived.Test.YtaloefkkllebeaaFa1
set_option linter.unusedVariables false
set_option linter.unusedSimpArgs false
set_option linter.unusedSectionVars false
namespace Go.Proofs.Ytaloefkkllebeaa
open Go Go.Sh
def sq4 : L4 := (14526898881837571181, 3129137299524312099, 419701826671360399, 524908885293268753)
def one4 : L4 := (1, UInt64.ofNat 0, UInt64.ofNat 0, UInt64.ofNat 0)
theorem squareL_ok : Computes A Try.prog 68 (fun _ : Unit => sq4) :=
  computes_of_run0 (TblOK.nil _) Try.func68 (by kernel_rfl) (by kernel_rfl) 4 (fun _ _ _ => by kernel_rfl)
section
variable (M : L4 → L4 → L4)
def tblR2 : List (Row A) := [rowOf A 68 (fun _ : Unit => sq4), rowOf A 48 (fun x : L4 × L4 × Unit => M x.1 x.2.1), rowOf A 63 (fun x : L4 × Unit => pad4 x.1)]
theorem madeL_of (ht : TblOK Try.prog (tblR2 M)) : Computes A Try.prog 61 (fun x : L6 × Unit => M (lo4 x.1) sq4) :=
  computes_of_run0 ht Try.func61 (by kernel_rfl) (by kernel_rfl) 4 (fun _ _ _ => by kernel_rfl)
theorem numberL_of (ht : TblOK Try.prog (tblR2 M)) : Computes A Try.prog 62 (fun x : L4 × Unit => pad4 (M x.1 one4)) :=
  computes_of_run0 ht Try.func62 (by kernel_rfl) (by kernel_rfl) 4 (fun _ _ _ => by kernel_rfl)
end
theorem tblR2_ok : TblOK Try.prog (tblR2 mul4) := .cons squareL_ok.row (.cons frMulL_ok.row (.cons wideL_ok.row (.nil _)))
theorem madeL_ok : Computes A Try.prog 61 (fun x : L6 × Unit => mul4 (lo4 x.1) sq4) := madeL_of mul4 tblR2_ok
theorem numberL_ok : Computes A Try.prog 62 (fun x : L4 × Unit => pad4 (mul4 x.1 one4)) := numberL_of mul4 tblR2_ok
end Go.Proofs.Ytaloefkkllebeaa
