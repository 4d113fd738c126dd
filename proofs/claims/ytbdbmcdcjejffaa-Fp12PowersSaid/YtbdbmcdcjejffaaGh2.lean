/- The laws of powers. -/
import Derived.Test.YtbdbmcdcjejffaaGh1
set_option linter.unusedVariables false
set_option linter.unusedSimpArgs false
set_option linter.unusedSectionVars false
namespace Go.Proofs.Ytbdbmcdcjejffaa
open Go Go.Sh
theorem numB_two : numB [UInt8.ofNat 2] = 2 := by kernel_rfl
theorem numB_three : numB [UInt8.ofNat 0, UInt8.ofNat 3] = 3 := by kernel_rfl
theorem pow2_two (a : F2) : pow2 a (numB [UInt8.ofNat 2]) = mul2 a a := by
  rw [numB_two]
  show mul2 (mul2 one2 a) a = mul2 a a
  rw [mul2_comm one2 a, mul2_one]
theorem pow12_three (a : F12) : pow12 a (numB [UInt8.ofNat 0, UInt8.ofNat 3]) = m2 vE (sqr12 a) a := by
  rw [numB_three]
  show CR.m (CR.m (CR.m CR.i a) a) a = CR.m (CR.m a a) a
  rw [CR.m1']
theorem pow12_toT (a : F12) (n : Nat) : toT (pow12 a n) = powT (toT a) n := (powT_toT a n).symm

theorem tblFp2Powers_ok (k : Nat) : TblOK Try.prog (tblFp2Powers k (num2 wideF) (fun a l => pow2 a (numB l)) (fun a => a) (fun a l => pow2 a (numB l)) (fun a b => decide (a = b)) one2 (fun a b => decide (a = b)) (fun a => mul2 a a)) :=
  .cons known5_ok.row (.cons (light5Row_ok k) (.cons num5_ok.row (.cons pow2_ok.row (.cons ref5_ok.row (.cons rPow2_ok.row (.cons same5_ok.row (.cons one2_ok.row (.cons eq2_ok.row (.cons sq2_ok.row (.nil _))))))))))

theorem powers5_ok : Computes A Try.prog 23 (fun _ : Bs × Bs × Unit => true) :=
  fp2Powers_of (num2 wideF) (fun a l => pow2 a (numB l)) (fun a => a) (fun a l => pow2 a (numB l)) (fun a b => decide (a = b)) one2 (fun a b => decide (a = b)) (fun a => mul2 a a) tblFp2Powers_ok
    (fun a ee e h => ⟨rfl, trivial⟩)
    (fun a ee e h => ⟨decide_eq_true (pow2_two a), decide_eq_true rfl, decide_eq_true rfl, rfl, trivial⟩)

theorem tblFp12Powers_ok (k : Nat) : TblOK Try.prog (tblFp12Powers k (twelve2 (six3 (num2 wideF))) (fun a l => pow12 a (numB l)) toT (fun a l => powT a (numB l)) oneY (fun a b => decide (a = b)) sqr12 (m2 vE)) :=
  .cons known7_ok.row (.cons (light7Row_ok k) (.cons twelve_ok.row (.cons pow12_ok.row (.cons refs7_ok.row (.cons powT_ok.row (.cons oneY_ok.row (.cons eqY_ok.row (.cons sqY_ok.row (.cons mulY_ok.row (.nil _))))))))))

theorem powers7_ok : Computes A Try.prog 22 (fun _ : Bs × Bs × Unit => true) :=
  fp12Powers_of (twelve2 (six3 (num2 wideF))) (fun a l => pow12 a (numB l)) toT (fun a l => powT a (numB l)) oneY (fun a b => decide (a = b)) sqr12 (m2 vE) tblFp12Powers_ok
    (fun a ee e h => ⟨rfl, trivial⟩)
    (fun a ee e h => ⟨decide_eq_true (pow12_three a), decide_eq_true rfl, eqs (pow12_toT a _), rfl, trivial⟩)

end Go.Proofs.Ytbdbmcdcjejffaa
