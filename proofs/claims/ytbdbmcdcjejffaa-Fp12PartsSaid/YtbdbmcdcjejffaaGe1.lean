/- Fp6: the program's elements of three parts, and the reference's of six, over variable functions of two parts. -/
import Derived.Test.YtbdbmcdcjejffaaGd4
set_option linter.unusedVariables false
set_option linter.unusedSimpArgs false
set_option linter.unusedSectionVars false
namespace Go.Proofs.Ytbdbmcdcjejffaa
open Go Go.Sh

abbrev F6 := F2 × F2 × F2
abbrev T6 := F2 × F2 × F2 × F2 × F2 × F2
section
variable (P D M : F2 → F2 → F2) (N Q X I : F2 → F2) (O : F2)
noncomputable def tblV6 : List (Row A) :=
  [rowOf A 116 (fun x : F2 × F2 × Unit => P x.1 x.2.1),
    rowOf A 120 (fun x : F2 × F2 × Unit => D x.1 x.2.1),
    rowOf A 111 (fun x : F2 × F2 × Unit => M x.1 x.2.1),
    rowOf A 110 (fun x : F2 × Unit => N x.1),
    rowOf A 125 (fun x : F2 × Unit => Q x.1),
    rowOf A 128 (fun x : F2 × Unit => X x.1),
    rowOf A 126 (fun x : F2 × Unit => I x.1),
    rowOf A 137 (fun _ : Unit => O)]
noncomputable def tblT6 : List (Row A) :=
  [rowOf A 119 (fun x : F2 × F2 × Unit => P x.1 x.2.1),
    rowOf A 121 (fun x : F2 × F2 × Unit => D x.1 x.2.1),
    rowOf A 124 (fun x : F2 × F2 × Unit => M x.1 x.2.1),
    rowOf A 122 (fun x : F2 × Unit => N x.1),
    rowOf A 129 (fun x : F2 × Unit => X x.1),
    rowOf A 127 (fun x : F2 × Unit => I x.1),
    rowOf A 86 (fun _ : Unit => O)]
def addV (a b : F6) : F6 := ((P a.1 b.1), (P a.2.1 b.2.1), (P a.2.2 b.2.2))
def subV (a b : F6) : F6 := ((D a.1 b.1), (D a.2.1 b.2.1), (D a.2.2 b.2.2))
def negV (a : F6) : F6 := ((N a.1), (N a.2.1), (N a.2.2))
def mulVr (a b : F6) : F6 := ((P (M a.1 b.1) (X (D (D (M (P a.2.1 a.2.2) (P b.2.1 b.2.2)) (M a.2.1 b.2.1)) (M a.2.2 b.2.2)))), (P (D (D (M (P a.1 a.2.1) (P b.1 b.2.1)) (M a.1 b.1)) (M a.2.1 b.2.1)) (X (M a.2.2 b.2.2))), (P (D (D (M (P a.1 a.2.2) (P b.1 b.2.2)) (M a.1 b.1)) (M a.2.2 b.2.2)) (M a.2.1 b.2.1)))
def sqVr (a : F6) : F6 := ((P (Q a.1) (X (P (M a.2.1 a.2.2) (M a.2.1 a.2.2)))), (P (P (M a.1 a.2.1) (M a.1 a.2.1)) (X (Q a.2.2))), (D (D (P (P (Q (P (D a.1 a.2.1) a.2.2)) (P (M a.1 a.2.1) (M a.1 a.2.1))) (P (M a.2.1 a.2.2) (M a.2.1 a.2.2))) (Q a.1)) (Q a.2.2)))
def scaleVr (a : F6) (c : F2) : F6 := ((M a.1 c), (M a.2.1 c), (M a.2.2 c))
def vVr (a : F6) : F6 := ((X a.2.2), a.1, a.2.1)
def invVr (a : F6) : F6 := ((M (D (Q a.1) (X (M a.2.1 a.2.2))) (I (P (M a.1 (D (Q a.1) (X (M a.2.1 a.2.2)))) (X (P (M a.2.2 (D (X (Q a.2.2)) (M a.1 a.2.1))) (M a.2.1 (D (Q a.2.1) (M a.1 a.2.2)))))))), (M (D (X (Q a.2.2)) (M a.1 a.2.1)) (I (P (M a.1 (D (Q a.1) (X (M a.2.1 a.2.2)))) (X (P (M a.2.2 (D (X (Q a.2.2)) (M a.1 a.2.1))) (M a.2.1 (D (Q a.2.1) (M a.1 a.2.2)))))))), (M (D (Q a.2.1) (M a.1 a.2.2)) (I (P (M a.1 (D (Q a.1) (X (M a.2.1 a.2.2)))) (X (P (M a.2.2 (D (X (Q a.2.2)) (M a.1 a.2.1))) (M a.2.1 (D (Q a.2.1) (M a.1 a.2.2)))))))))
def oneVr  : F6 := (O, (0, 0), (0, 0))
def addT (a b : T6) : T6 := ((P a.1 b.1), (P a.2.1 b.2.1), (P a.2.2.1 b.2.2.1), (P a.2.2.2.1 b.2.2.2.1), (P a.2.2.2.2.1 b.2.2.2.2.1), (P a.2.2.2.2.2 b.2.2.2.2.2))
def negT (a : T6) : T6 := ((N a.1), (N a.2.1), (N a.2.2.1), (N a.2.2.2.1), (N a.2.2.2.2.1), (N a.2.2.2.2.2))
def mulTr (a b : T6) : T6 := ((P (P (0, 0) (M a.1 b.1)) (X (P (P (P (P (P (0, 0) (M a.2.1 b.2.2.2.2.2)) (M a.2.2.1 b.2.2.2.2.1)) (M a.2.2.2.1 b.2.2.2.1)) (M a.2.2.2.2.1 b.2.2.1)) (M a.2.2.2.2.2 b.2.1)))), (P (P (P (0, 0) (M a.1 b.2.1)) (M a.2.1 b.1)) (X (P (P (P (P (0, 0) (M a.2.2.1 b.2.2.2.2.2)) (M a.2.2.2.1 b.2.2.2.2.1)) (M a.2.2.2.2.1 b.2.2.2.1)) (M a.2.2.2.2.2 b.2.2.1)))), (P (P (P (P (0, 0) (M a.1 b.2.2.1)) (M a.2.1 b.2.1)) (M a.2.2.1 b.1)) (X (P (P (P (0, 0) (M a.2.2.2.1 b.2.2.2.2.2)) (M a.2.2.2.2.1 b.2.2.2.2.1)) (M a.2.2.2.2.2 b.2.2.2.1)))), (P (P (P (P (P (0, 0) (M a.1 b.2.2.2.1)) (M a.2.1 b.2.2.1)) (M a.2.2.1 b.2.1)) (M a.2.2.2.1 b.1)) (X (P (P (0, 0) (M a.2.2.2.2.1 b.2.2.2.2.2)) (M a.2.2.2.2.2 b.2.2.2.2.1)))), (P (P (P (P (P (P (0, 0) (M a.1 b.2.2.2.2.1)) (M a.2.1 b.2.2.2.1)) (M a.2.2.1 b.2.2.1)) (M a.2.2.2.1 b.2.1)) (M a.2.2.2.2.1 b.1)) (X (P (0, 0) (M a.2.2.2.2.2 b.2.2.2.2.2)))), (P (P (P (P (P (P (0, 0) (M a.1 b.2.2.2.2.2)) (M a.2.1 b.2.2.2.2.1)) (M a.2.2.1 b.2.2.2.1)) (M a.2.2.2.1 b.2.2.1)) (M a.2.2.2.2.1 b.2.1)) (M a.2.2.2.2.2 b.1)))
def conjTr (a : T6) : T6 := (a.1, (N a.2.1), a.2.2.1, (N a.2.2.2.1), a.2.2.2.2.1, (N a.2.2.2.2.2))
def oneTr  : T6 := (O, (0, 0), (0, 0), (0, 0), (0, 0), (0, 0))
end
theorem addV_of (P D M : F2 → F2 → F2) (N Q X I : F2 → F2) (O : F2) (ht : TblOK Try.prog (tblV6 P D M N Q X I O)) : Computes A Try.prog 69 (fun x : F6 × F6 × Unit => addV P x.1 x.2.1) :=
  computes_of_run0 ht Try.func69 (by kernel_rfl) (by kernel_rfl) 8 (fun _ _ _ => by kernel_rfl)
theorem subV_of (P D M : F2 → F2 → F2) (N Q X I : F2 → F2) (O : F2) (ht : TblOK Try.prog (tblV6 P D M N Q X I O)) : Computes A Try.prog 72 (fun x : F6 × F6 × Unit => subV D x.1 x.2.1) :=
  computes_of_run0 ht Try.func72 (by kernel_rfl) (by kernel_rfl) 8 (fun _ _ _ => by kernel_rfl)
theorem negV_of (P D M : F2 → F2 → F2) (N Q X I : F2 → F2) (O : F2) (ht : TblOK Try.prog (tblV6 P D M N Q X I O)) : Computes A Try.prog 80 (fun x : F6 × Unit => negV N x.1) :=
  computes_of_run0 ht Try.func80 (by kernel_rfl) (by kernel_rfl) 8 (fun _ _ _ => by kernel_rfl)
theorem mulV_of (P D M : F2 → F2 → F2) (N Q X I : F2 → F2) (O : F2) (ht : TblOK Try.prog (tblV6 P D M N Q X I O)) : Computes A Try.prog 71 (fun x : F6 × F6 × Unit => mulVr P D M X x.1 x.2.1) :=
  computes_of_run0 ht Try.func71 (by kernel_rfl) (by kernel_rfl) 8 (fun _ _ _ => by kernel_rfl)
theorem sqV_of (P D M : F2 → F2 → F2) (N Q X I : F2 → F2) (O : F2) (ht : TblOK Try.prog (tblV6 P D M N Q X I O)) : Computes A Try.prog 82 (fun x : F6 × Unit => sqVr P D M Q X x.1) :=
  computes_of_run0 ht Try.func82 (by kernel_rfl) (by kernel_rfl) 8 (fun _ _ _ => by kernel_rfl)
theorem scaleV_of (P D M : F2 → F2 → F2) (N Q X I : F2 → F2) (O : F2) (ht : TblOK Try.prog (tblV6 P D M N Q X I O)) : Computes A Try.prog 83 (fun x : F6 × F2 × Unit => scaleVr M x.1 x.2.1) :=
  computes_of_run0 ht Try.func83 (by kernel_rfl) (by kernel_rfl) 8 (fun _ _ _ => by kernel_rfl)
theorem vV_of (P D M : F2 → F2 → F2) (N Q X I : F2 → F2) (O : F2) (ht : TblOK Try.prog (tblV6 P D M N Q X I O)) : Computes A Try.prog 85 (fun x : F6 × Unit => vVr X x.1) :=
  computes_of_run0 ht Try.func85 (by kernel_rfl) (by kernel_rfl) 8 (fun _ _ _ => by kernel_rfl)
theorem oneV_of (P D M : F2 → F2 → F2) (N Q X I : F2 → F2) (O : F2) (ht : TblOK Try.prog (tblV6 P D M N Q X I O)) : Computes A Try.prog 73 (fun _ : Unit => oneVr O) :=
  computes_of_run0 ht Try.func73 (by kernel_rfl) (by kernel_rfl) 8 (fun _ _ _ => by kernel_rfl)
theorem invV_of (P D M : F2 → F2 → F2) (N Q X I : F2 → F2) (O : F2) (ht : TblOK Try.prog (rowOf A 83 (fun x : F6 × F2 × Unit => scaleVr M x.1 x.2.1) :: tblV6 P D M N Q X I O)) : Computes A Try.prog 75 (fun x : F6 × Unit => invVr P D M Q X I x.1) :=
  computes_of_run0 ht Try.func75 (by kernel_rfl) (by kernel_rfl) 8 (fun _ _ _ => by kernel_rfl)
theorem addT_of (P D M : F2 → F2 → F2) (N Q X I : F2 → F2) (O : F2) (ht : TblOK Try.prog (tblT6 P D M N X I O)) : Computes A Try.prog 78 (fun x : T6 × T6 × Unit => addT P x.1 x.2.1) :=
  computes_of_run0 ht Try.func78 (by kernel_rfl) (by kernel_rfl) 8 (fun _ _ _ => by kernel_rfl)
theorem negT_of (P D M : F2 → F2 → F2) (N Q X I : F2 → F2) (O : F2) (ht : TblOK Try.prog (tblT6 P D M N X I O)) : Computes A Try.prog 79 (fun x : T6 × Unit => negT N x.1) :=
  computes_of_run0 ht Try.func79 (by kernel_rfl) (by kernel_rfl) 8 (fun _ _ _ => by kernel_rfl)
theorem mulT_of (P D M : F2 → F2 → F2) (N Q X I : F2 → F2) (O : F2) (ht : TblOK Try.prog (tblT6 P D M N X I O)) : Computes A Try.prog 81 (fun x : T6 × T6 × Unit => mulTr P M X x.1 x.2.1) :=
  computes_of_run0 ht Try.func81 (by kernel_rfl) (by kernel_rfl) 12 (fun _ _ _ => by kernel_rfl)
theorem conjT_of (P D M : F2 → F2 → F2) (N Q X I : F2 → F2) (O : F2) (ht : TblOK Try.prog (tblT6 P D M N X I O)) : Computes A Try.prog 171 (fun x : T6 × Unit => conjTr N x.1) :=
  computes_of_run0 ht Try.func171 (by kernel_rfl) (by kernel_rfl) 8 (fun _ _ _ => by kernel_rfl)
theorem oneT_of (P D M : F2 → F2 → F2) (N Q X I : F2 → F2) (O : F2) (ht : TblOK Try.prog (tblT6 P D M N X I O)) : Computes A Try.prog 182 (fun _ : Unit => oneTr O) :=
  computes_of_run0 ht Try.func182 (by kernel_rfl) (by kernel_rfl) 8 (fun _ _ _ => by kernel_rfl)
def evenInv (P D M : F2 → F2 → F2) (X I : F2 → F2) (n : T6) : T6 := ((M (D (M n.1 n.1) (X (M n.2.2.1 n.2.2.2.2.1))) (I (P (M n.1 (D (M n.1 n.1) (X (M n.2.2.1 n.2.2.2.2.1)))) (X (P (M n.2.2.2.2.1 (D (X (M n.2.2.2.2.1 n.2.2.2.2.1)) (M n.1 n.2.2.1))) (M n.2.2.1 (D (M n.2.2.1 n.2.2.1) (M n.1 n.2.2.2.2.1)))))))), (0, 0), (M (D (X (M n.2.2.2.2.1 n.2.2.2.2.1)) (M n.1 n.2.2.1)) (I (P (M n.1 (D (M n.1 n.1) (X (M n.2.2.1 n.2.2.2.2.1)))) (X (P (M n.2.2.2.2.1 (D (X (M n.2.2.2.2.1 n.2.2.2.2.1)) (M n.1 n.2.2.1))) (M n.2.2.1 (D (M n.2.2.1 n.2.2.1) (M n.1 n.2.2.2.2.1)))))))), (0, 0), (M (D (M n.2.2.1 n.2.2.1) (M n.1 n.2.2.2.2.1)) (I (P (M n.1 (D (M n.1 n.1) (X (M n.2.2.1 n.2.2.2.2.1)))) (X (P (M n.2.2.2.2.1 (D (X (M n.2.2.2.2.1 n.2.2.2.2.1)) (M n.1 n.2.2.1))) (M n.2.2.1 (D (M n.2.2.1 n.2.2.1) (M n.1 n.2.2.2.2.1)))))))), (0, 0))
noncomputable def tblTI (P D M : F2 → F2 → F2) (N Q X I : F2 → F2) (O : F2) (MT : T6 → T6 → T6) (CT : T6 → T6) : List (Row A) :=
  [rowOf A 81 (fun x : T6 × T6 × Unit => MT x.1 x.2.1), rowOf A 171 (fun x : T6 × Unit => CT x.1), rowIn Try.prog (tblT6 P D M N X I O) [] (fun _ _ => .keep) 8 172 Try.f172]
theorem invT_of (P D M : F2 → F2 → F2) (N Q X I : F2 → F2) (O : F2) (MT : T6 → T6 → T6) (CT : T6 → T6) (ht : TblOK Try.prog (tblTI P D M N Q X I O MT CT)) : Computes A Try.prog 87 (fun x : T6 × Unit => MT (CT x.1) (evenInv P D M X I (MT x.1 (CT x.1)))) :=
  computes_of_run0 ht Try.func87 (by kernel_rfl) (by kernel_rfl) 8 (fun _ _ _ => by kernel_rfl)
end Go.Proofs.Ytbdbmcdcjejffaa
