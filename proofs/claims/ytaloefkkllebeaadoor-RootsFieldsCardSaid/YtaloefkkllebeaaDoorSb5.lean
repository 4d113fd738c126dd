/- SHA-256: contracts of the sums; reckoned examples. -/
import Derived.Test.YtaloefkkllebeaaDoorSb4
set_option linter.unusedVariables false
set_option linter.unusedSimpArgs false
set_option linter.unusedSectionVars false
namespace Go.Proofs.YtaloefkkllebeaaDoor
open Go Go.Sh
/-- The sum of bytes. -/
def sumL (l : List UInt8) : R8 32 := ⟨sumF firstF compF outF l⟩
theorem addR_ok : RowOK Tryd.prog (addR compF) := (add_of wordsF (.cons words_ok.row (.cons rotRow_ok (.nil _)))).row
theorem blocksR_ok : RowOK Tryd.prog blocksR := rowIn_ok (TblOK.nil _) (ITblOK.nil _) _ 4 Tryd.func84 (by kernel_rfl) (by kernel_rfl)
theorem endingR_ok : RowOK Tryd.prog endingR := rowIn_ok (TblOK.nil _) (ITblOK.nil _) _ 4 Tryd.func90 (by kernel_rfl) (by kernel_rfl)
theorem sum_ok : Computes A Tryd.prog 26 (fun x : GA (Bs × Unit) => sumL x.x.1.l) :=
  sum_of firstF compF outF (.cons addR_ok (.cons first_ok.row (.cons bytesS_ok.row (.cons blocksR_ok (.nil _))))) addR_ok endingR_ok
theorem padL_short (l : List UInt8) (h : l.length < 1048576) : (padL l).length < 2097152 := by
  rw [padL_len]
  have : zerosN l.length < 64 := Nat.mod_lt _ (by decide)
  omega
theorem refSum_ok : Computes A Tryd.prog 28 (fun x : Ptr Mk × Bt × Unit => sumL x.2.1.l) := by
  have h := refSum_of padL (.cons pad_ok.row (.cons turn_ok.row (.nil _))) padL_64 padL_short
  have e : (fun x : Ptr Mk × Bt × Unit => (⟨outRf (refS (padL x.2.1.l) ((padL x.2.1.l).length / 64))⟩ : R8 32)) = fun x : Ptr Mk × Bt × Unit => sumL x.2.1.l := by
    funext x
    unfold sumL
    rw [sum_ref]
  rw [e] at h
  exact h
theorem abc_try : Nat.beq ((sumL [97, 98, 99]).f 0).toNat 186 = true := by kernel_rfl
end Go.Proofs.YtaloefkkllebeaaDoor
