/- FpReckons, FpRoots, out of the contracts. -/
import Derived.Test.YtbdbmcdcjejffaaFpE
import Derived.Test.YtbdbmcdcjejffaaFpD
set_option linter.unusedVariables false
set_option linter.unusedSimpArgs false
set_option linter.unusedSectionVars false
namespace Go.Proofs.Ytbdbmcdcjejffaa
open Go Go.Sh

theorem tblRk_ok (k : Nat) : TblOK Try.prog (tblRk k wideF (fun a => a) (fun a b => decide (a = b)) (fun a b => a + b) (fun a b => a + b) (fun a b => a - b) (fun a b => a - b) (fun a b => a * b) (fun a b => a * b) (fun a => a * a) (fun a => -a) (fun a => -a) invF invF (fun a b => decide (a = b)) (fun a => decide (a = 0)) (fun a => decide (a = 0))) :=
  .cons known_ok.row (.cons (lightRow_ok k) (.cons wide_ok.row (.cons ref_ok.row (.cons same_ok.row (.cons add_ok.row (.cons refFAdd_ok.row (.cons sub_ok.row (.cons refFSub_ok.row (.cons mul_ok.row (.cons refMul_ok.row (.cons sq_ok.row (.cons neg_ok.row (.cons refNeg_ok.row (.cons inv_ok.row (.cons refInv_ok.row (.cons equal_ok.row (.cons isZero_ok.row (.cons refIsZero_ok.row (.nil _)))))))))))))))))))

theorem reckons_ok : Computes A Try.prog 4 (fun _ : Bs × Bs × Unit => true) := by
  refine reckons_of _ _ _ _ _ _ _ _ _ _ _ _ _ _ _ _ _ tblRk_ok ⟨fun _ _ => decide_eq_true rfl, fun _ _ => decide_eq_true rfl, fun _ _ => decide_eq_true rfl, fun _ => decide_eq_true rfl, fun _ => decide_eq_true rfl, fun _ => decide_eq_true rfl, fun a b => eqF a b, fun _ => rfl, decide_eq_true rfl, ?_⟩
  show decide (invF 0 = 0) = true
  rw [invF_zero]
  exact decide_eq_true rfl

/-! ### Squares -/
theorem half_split {a : Fp} (h : a ≠ 0) : fpow a (PowK.n .half) * fpow a (PowK.n .half) = 1 := by
  rw [← fpow_add]
  have e : PowK.n .half + PowK.n .half = pN - 1 := by
    show (pN - 1) / 2 + (pN - 1) / 2 = pN - 1
    rw [pN_val]
  rw [e, fermatF h]
theorem half_pm {a : Fp} (h : a ≠ 0) : fpow a (PowK.n .half) = 1 ∨ fpow a (PowK.n .half) = -1 := by
  have := half_split h
  exact sq_eq (by rw [this]; grind)
theorem root_half (a : Fp) : rootR a * rootR a = a * fpow a (PowK.n .half) := by
  unfold rootR
  rw [← fpow_add]
  have e : PowK.n .quarter + PowK.n .quarter = 1 + PowK.n .half := by
    show (pN + 1) / 4 + (pN + 1) / 4 = 1 + (pN - 1) / 2
    rw [pN_val]
  rw [e, fpow_add, fpow_one]
theorem one_ne : (1 : Fp) ≠ -1 := by
  intro h
  exact absurd (congrArg Fin.val h) (by decide)
theorem one_ne0 : (1 : Fp) ≠ 0 := by
  intro h
  exact absurd (congrArg Fin.val h) (by decide)
theorem half_zero : fpow (0 : Fp) (PowK.n .half) = 0 := zero_fpow (by show 0 < (pN - 1) / 2; rw [pN_val]; decide)
theorem half_neg (a : Fp) : fpow (-a) (PowK.n .half) = -fpow a (PowK.n .half) := by
  have e : -a = -1 * a := by grind
  rw [e, mul_fpow]
  have h : fpow (-1 : Fp) (PowK.n .half) = -1 := by
    have e2 : PowK.n .half = 2 * ((pN - 3) / 4) + 1 := by
      show (pN - 1) / 2 = 2 * ((pN - 3) / 4) + 1
      rw [pN_val]
    rw [e2, fpow_succ, fpow_mul]
    have : fpow (-1 : Fp) 2 = 1 := by
      rw [show (2 : Nat) = 1 + 1 from rfl, fpow_add, fpow_one]; grind
    rw [this, one_fpow]
    grind
  rw [h]
  grind

theorem legF_zero : legF 0 = 0 := by unfold legF; rw [if_pos half_zero]
theorem legF_cases (a : Fp) : (a = 0 ∧ legF a = 0) ∨ (a ≠ 0 ∧ fpow a (PowK.n .half) = 1 ∧ legF a = 1) ∨ (a ≠ 0 ∧ fpow a (PowK.n .half) = -1 ∧ legF a = -1) := by
  by_cases h : a = 0
  · subst h; exact .inl ⟨rfl, legF_zero⟩
  · rcases half_pm h with e | e
    · refine .inr (.inl ⟨h, e, ?_⟩)
      unfold legF
      rw [e, if_neg one_ne0, if_pos rfl]
    · refine .inr (.inr ⟨h, e, ?_⟩)
      unfold legF
      rw [e, if_neg (fun h0 => one_ne0 (by have : (1 : Fp) = -(-1) := by grind
                                           rw [this, h0]; grind)), if_neg (fun h1 => one_ne h1.symm)]
theorem sqrt_leg (a : Fp) : decide (legF a ≥ 0) = (sqrtF a).b := by
  have hr := root_half a
  unfold sqrtF
  rcases legF_cases a with ⟨h, e⟩ | ⟨h, e1, e⟩ | ⟨h, e1, e⟩
  · subst h
    rw [half_zero] at hr
    have hr : rootR (0 : Fp) * rootR 0 = 0 := by rw [hr]; grind
    rw [if_pos hr, e]
    split <;> rfl
  · rw [e1] at hr
    have hr : rootR a * rootR a = a := by rw [hr]; grind
    rw [if_pos hr, e]
    split <;> rfl
  · rw [e1] at hr
    have hne : ¬ (rootR a * rootR a = a) := by
      rw [hr]
      intro h0
      have : (1 + 1) * a = 0 := by grind
      rcases mul_eq_zeroF this with h1 | h1
      · exact absurd (congrArg Fin.val h1) (by decide)
      · exact h h1
    rw [if_neg hne, e]
    rfl
theorem sqrt_right (a : Fp) (h : (sqrtF a).b = true) : (sqrtF a).a * (sqrtF a).a = a ∧ largeF (sqrtF a).a = false := by
  unfold sqrtF at h ⊢
  split
  · rename_i hr
    split
    · rename_i hl
      refine ⟨by show -rootR a * -rootR a = a; rw [← hr]; grind, ?_⟩
      show largeF (-rootR a) = false
      have hne : rootR a ≠ 0 := by
        intro h0
        rw [h0] at hl
        exact absurd hl (by rw [show largeF 0 = false from by kernel_rfl]; decide)
      rw [large_neg hne, hl]; rfl
    · rename_i hl
      exact ⟨hr, by simpa using hl⟩
  · rename_i hr
    rw [if_neg hr] at h
    cases h

theorem leg_neg (a : Fp) : legF a * legF (-a) ≤ 0 ∧ -1 ≤ legF a * legF (-a) := by
  rcases legF_cases a with ⟨h, e⟩ | ⟨h, e1, e⟩ | ⟨h, e1, e⟩
  · rw [e]; omega
  · rw [e]
    rcases legF_cases (-a) with ⟨h2, e2⟩ | ⟨h2, e3, e2⟩ | ⟨h2, e3, e2⟩
    · rw [e2]; decide
    · rw [half_neg, e1] at e3
      exact absurd e3.symm one_ne
    · rw [e2]; decide
  · rw [e]
    rcases legF_cases (-a) with ⟨h2, e2⟩ | ⟨h2, e3, e2⟩ | ⟨h2, e3, e2⟩
    · rw [e2]; decide
    · rw [e2]; decide
    · rw [half_neg, e1] at e3
      have : (1 : Fp) = -1 := by grind
      exact absurd this one_ne

theorem tblRo_ok (k : Nat) : TblOK Try.prog (tblRo k wideF (fun a => a) (fun a b => decide (a = b)) sqrtF sqrtF legF legF (fun a => a * a) (fun a => -a) (fun a b => decide (a = b)) largeF) :=
  .cons known_ok.row (.cons (lightRow_ok k) (.cons wide_ok.row (.cons ref_ok.row (.cons same_ok.row (.cons sqrt_ok.row (.cons refSqrt_ok.row (.cons legendre_ok.row (.cons refLegendre_ok.row (.cons sq_ok.row (.cons neg_ok.row (.cons equal_ok.row (.cons large_ok.row (.nil _)))))))))))))

theorem roots_ok : Computes A Try.prog 8 (fun _ : Bs × Unit => true) := by
  refine roots_of _ _ _ _ _ _ _ _ _ _ _ tblRo_ok ⟨fun _ => rfl, fun _ => decide_eq_true rfl, fun a => by simp, fun a => sqrt_leg a, fun a h => ⟨decide_eq_true (sqrt_right a h).1, (sqrt_right a h).2⟩, fun a => (sqrt_sq a).1, fun a h => ?_, fun a => decide_eq_true (leg_neg a).1, fun a => wrapI (by have := (leg_neg a).2; omega) (by have := (leg_neg a).1; omega)⟩
  rcases (sqrt_sq a).2 with e | e
  · exact absurd e (of_decide_eq_false h)
  · exact decide_eq_true e

end Go.Proofs.Ytbdbmcdcjejffaa
