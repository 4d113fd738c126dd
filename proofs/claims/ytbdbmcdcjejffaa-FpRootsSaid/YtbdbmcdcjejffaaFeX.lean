/- The reference's parity; its powers of two of p. -/
import Derived.Test.YtbdbmcdcjejffaaFeW
set_option linter.unusedVariables false
set_option linter.unusedSimpArgs false
set_option linter.unusedSectionVars false
namespace Go.Proofs.Ytbdbmcdcjejffaa
open Go Go.Sh

def tblRO : List (Row A) := [rowOf A 151 (fun x : Fp × Unit => fpNum x.1)]
theorem tblRO_ok : TblOK Try.prog tblRO := .cons refNumber_ok.row (.nil _)
theorem refOddRaw_ok : Computes A Try.prog 56 (fun x : Fp × Unit => (((UInt64.ofNat (((BitVec.ofInt IntKind.u64.bits ((lim 0 (numL (fpNum x.1))).toNat : Int) &&& BitVec.ofInt IntKind.u64.bits 1).toNat : Int) % 18446744073709551616).toNat).toNat : Int) == 1)) :=
  computes_of_run0 tblRO_ok Try.func56 (by kernel_rfl) (by kernel_rfl) 8 (fun _ _ _ => by kernel_rfl)
theorem refOdd_ok : Computes A Try.prog 56 (fun x : Fp × Unit => oddF x.1) :=
  Computes.eq refOddRaw_ok (fun x => by rw [and_one, lim0]; rfl)

def tblSh : List (Row A) := [rowOf A 30 (fun _ : Unit => p6), rowOf A 148 (fun x : L6 × L6 × Unit => T2.mk (sub6 x.1 x.2.1) (subTop x.1 x.2.1)), rowOf A 158 (fun x : L6 × L6 × Unit => T2.mk (add6 x.1 x.2.1) (addTop x.1 x.2.1)), rowOf A 136 (fun x : L6 × Unit => bytesL6 x.1)]
theorem tblSh_ok : TblOK Try.prog tblSh := .cons refPL_ok.row (.cons refSubL_ok.row (.cons refAddL_ok.row (.cons refBytesL_ok.row (.nil _))))
noncomputable def shRow : Row A := rowIn Try.prog tblSh [] (fun _ _ => .keep) 12 162 Try.f162
theorem shRow_ok : RowOK Try.prog shRow := rowIn_ok tblSh_ok (ITblOK.nil _) _ 12 Try.func162 (by kernel_rfl) (by kernel_rfl)

end Go.Proofs.Ytbdbmcdcjejffaa
