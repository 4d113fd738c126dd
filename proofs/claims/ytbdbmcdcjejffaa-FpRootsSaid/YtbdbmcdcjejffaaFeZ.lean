/- The reference's size: the contract. -/
import Derived.Test.YtbdbmcdcjejffaaFeY
set_option linter.unusedVariables false
set_option linter.unusedSimpArgs false
set_option linter.unusedSectionVars false
namespace Go.Proofs.Ytbdbmcdcjejffaa
open Go Go.Sh

noncomputable def tblLg : List (Row A) := [shRow, rowOf A 28 (fun x : Bs × Unit => fromB x.1.l), rowOf A 151 (fun x : Fp × Unit => fpNum x.1), rowOf A 29 (fun x : Num × Num × Unit => decide (x.1 < x.2.1))]
theorem tblLg_ok : TblOK Try.prog tblLg := .cons shRow_ok (.cons refFrom_ok.row (.cons refNumber_ok.row (.cons refLess_ok.row (.nil _))))
theorem fromB_of {l : List UInt8} {n : Nat} (h : l.length = 48) (hn : numB l = n) : (fromB l).a.val = n := by
  show (numOfB l).val = n
  unfold numOfB
  rw [dif_pos (by omega)]
  exact hn
theorem large_of {m : Num} (a : Fp) (h : m.val = (pN - 1) / 2) : decide (m < fpNum a) = largeF a := by
  show decide (m.val < a.val) = _
  rw [h]; rfl
theorem refLarge_ok : Computes A Try.prog 58 (fun x : Fp × Unit => largeF x.1) := by
  refine Computes.eq (f := fun x : Fp × Unit => decide ((fromB (shL (-1) 1)).a < fpNum x.1)) (computes_of_run0 tblLg_ok Try.func58 (by kernel_rfl) (by kernel_rfl) 12 (fun _ _ _ => by kernel_rfl)) (fun x => ?_)
  exact large_of x.1 (fromB_of shL_len.1 shL_half)

end Go.Proofs.Ytbdbmcdcjejffaa
