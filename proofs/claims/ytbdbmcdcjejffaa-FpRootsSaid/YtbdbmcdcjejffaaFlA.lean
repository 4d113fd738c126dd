/- FpLaws, out of the contracts. -/
import Derived.Test.YtbdbmcdcjejffaaFeS
set_option linter.unusedVariables false
set_option linter.unusedSimpArgs false
set_option linter.unusedSectionVars false
namespace Go.Proofs.Ytbdbmcdcjejffaa
open Go Go.Sh

instance : NeZero pN := ⟨by decide⟩
theorem fp_add_comm (a b : Fp) : a + b = b + a := by grind
theorem fp_laws (a b c : Fp) : a + (b + c) = a + b + c ∧ a * (b * c) = a * b * c ∧ a * (b + c) = a * b + a * c ∧ a - b + b = a ∧ a + -a = 0 := by
  refine ⟨?_, ?_, ?_, ?_, ?_⟩ <;> grind

theorem tblLaws_ok (k : Nat) : TblOK Try.prog (tblLaws k wideF fpOf (fun a b => a + b) (fun a b => a - b) (fun a b => a * b) (fun a => -a) invF (fun a b => decide (a = b)) (fun a => decide (a = 0))) :=
  .cons known_ok.row (.cons (lightRow_ok k) (.cons wide_ok.row (.cons of_ok.row (.cons add_ok.row (.cons sub_ok.row (.cons mul_ok.row (.cons neg_ok.row (.cons inv_ok.row (.cons equal_ok.row (.cons isZero_ok.row (.nil _)))))))))))

theorem fpOf1 : fpOf 1 = 1 := by kernel_rfl
theorem laws_ok : Computes A Try.prog 5 (fun _ : Bs × Bs × Bs × Unit => true) := by
  refine laws_of _ _ _ _ _ _ _ _ _ tblLaws_ok ⟨?_, ?_, ?_, ?_, ?_, ?_, ?_, ?_, ?_, ?_⟩
  · intro a b; exact decide_eq_true (fp_add_comm a b)
  · intro a b; exact decide_eq_true (Fin.mul_comm a b)
  · intro a b c; exact decide_eq_true (fp_laws a b c).1
  · intro a b c; exact decide_eq_true (fp_laws a b c).2.1
  · intro a b c; exact decide_eq_true (fp_laws a b c).2.2.1
  · intro a b; exact decide_eq_true (fp_laws a b 0).2.2.2.1
  · intro a; exact decide_eq_true (fp_laws a 0 0).2.2.2.2
  · intro a
    show decide (a * fpOf 1 = a) = true
    rw [fpOf1]
    exact decide_eq_true (Fin.mul_one a)
  · intro a h
    show decide (a * invF a = fpOf 1) = true
    rw [fpOf1]
    exact decide_eq_true (mul_invF (of_decide_eq_false h))
  · intro a b
    show decide (a * b = 0) = (decide (a = 0) || decide (b = 0))
    by_cases h : a * b = 0
    · rw [decide_eq_true h]
      rcases mul_eq_zeroF h with e | e
      · rw [decide_eq_true e]; rfl
      · rw [decide_eq_true e, Bool.or_true]
    · have h1 : a ≠ 0 := fun e => h (by rw [e, Fin.zero_mul])
      have h2 : b ≠ 0 := fun e => h (by rw [e, Fin.mul_zero])
      rw [decide_eq_false h, decide_eq_false h1, decide_eq_false h2]; rfl

end Go.Proofs.Ytbdbmcdcjejffaa
