/- The laws of fp's: FpReckons, FpRoots, walked over variables. -/
import Derived.Test.YtbdbmcdcjejffaaGreatFe5
import Derived.Test.YtbdbmcdcjejffaaGreatFp1
set_option linter.unusedVariables false
set_option linter.unusedSimpArgs false
set_option linter.unusedSectionVars false
namespace Go.Proofs.YtbdbmcdcjejffaaGreat
open Go Go.Sh

structure ReckonsIs (R : Fp → Fp) (Sm : Fp → Fp → Bool) (P rP D rD M rM : Fp → Fp → Fp) (Q N rN I rI : Fp → Fp) (E : Fp → Fp → Bool) (Z rZ : Fp → Bool) : Prop where
  h1 : ∀ a b, Sm (P a b) (rP (R a) (R b)) = true
  h2 : ∀ a b, Sm (D a b) (rD (R a) (R b)) = true
  h3 : ∀ a b, Sm (M a b) (rM (R a) (R b)) = true
  h4 : ∀ a, Sm (Q a) (rM (R a) (R a)) = true
  h5 : ∀ a, Sm (N a) (rN (R a)) = true
  h6 : ∀ a, Sm (I a) (rI (R a)) = true
  h7 : ∀ a b, eqL (limbs (R a)) (limbs (R b)) = E a b
  h8 : ∀ a, rZ (R a) = Z a
  h9 : Z 0 = true
  h0 : Z (I 0) = true

/-! ### Roots -/
structure RootsIs (R : Fp → Fp) (Sm : Fp → Fp → Bool) (S rS : Fp → T2 Fp Bool) (Lg rLg : Fp → Int) (Q N : Fp → Fp) (E : Fp → Fp → Bool) (Lr : Fp → Bool) : Prop where
  h1 : ∀ a, (rS (R a)).b = (S a).b
  h2 : ∀ a, Sm (S a).a (rS (R a)).a = true
  h3 : ∀ a, (Lg a != rLg (R a)) = false
  h4 : ∀ a, decide (Lg a ≥ 0) = (S a).b
  h5 : ∀ a, (S a).b = true → E (Q (S a).a) a = true ∧ Lr (S a).a = false
  h6 : ∀ a, (S (Q a)).b = true
  h7 : ∀ a, E (S (Q a)).a a = false → E (S (Q a)).a (N a) = true
  h8 : ∀ a, decide (Lg a * Lg (N a) ≤ 0) = true
  h9 : ∀ a, WrapI (Lg a * Lg (N a))

end Go.Proofs.YtbdbmcdcjejffaaGreat

/- FpReckons, FpRoots, out of the contracts. -/
namespace Go.Proofs.YtbdbmcdcjejffaaGreat
open Go Go.Sh

/-! ### Squares -/
theorem half_split {a : Fp} (h : a ≠ 0) : fpow a (PowK.n .half) * fpow a (PowK.n .half) = 1 := by
  rw [← fpow_add]
  have e : PowK.n .half + PowK.n .half = pN - 1 := by
    show (pN - 1) / 2 + (pN - 1) / 2 = pN - 1
    rw [pN_val]
  rw [e, fermatF h]
theorem half_pm {a : Fp} (h : a ≠ 0) : fpow a (PowK.n .half) = 1 ∨ fpow a (PowK.n .half) = -1 := by
  have := half_split h
  exact sq_eq (by rw [this]; grind)
theorem root_half (a : Fp) : rootR a * rootR a = a * fpow a (PowK.n .half) := by
  unfold rootR
  rw [← fpow_add]
  have e : PowK.n .quarter + PowK.n .quarter = 1 + PowK.n .half := by
    show (pN + 1) / 4 + (pN + 1) / 4 = 1 + (pN - 1) / 2
    rw [pN_val]
  rw [e, fpow_add, fpow_one]
theorem one_ne : (1 : Fp) ≠ -1 := by
  intro h
  exact absurd (congrArg Fin.val h) (by decide)
theorem one_ne0 : (1 : Fp) ≠ 0 := by
  intro h
  exact absurd (congrArg Fin.val h) (by decide)
theorem half_zero : fpow (0 : Fp) (PowK.n .half) = 0 := zero_fpow (by show 0 < (pN - 1) / 2; rw [pN_val]; decide)
theorem half_neg (a : Fp) : fpow (-a) (PowK.n .half) = -fpow a (PowK.n .half) := by
  have e : -a = -1 * a := by grind
  rw [e, mul_fpow]
  have h : fpow (-1 : Fp) (PowK.n .half) = -1 := by
    have e2 : PowK.n .half = 2 * ((pN - 3) / 4) + 1 := by
      show (pN - 1) / 2 = 2 * ((pN - 3) / 4) + 1
      rw [pN_val]
    rw [e2, fpow_succ, fpow_mul]
    have : fpow (-1 : Fp) 2 = 1 := by
      rw [show (2 : Nat) = 1 + 1 from rfl, fpow_add, fpow_one]; grind
    rw [this, one_fpow]
    grind
  rw [h]
  grind

theorem legF_zero : legF 0 = 0 := by unfold legF; rw [if_pos half_zero]
theorem legF_cases (a : Fp) : (a = 0 ∧ legF a = 0) ∨ (a ≠ 0 ∧ fpow a (PowK.n .half) = 1 ∧ legF a = 1) ∨ (a ≠ 0 ∧ fpow a (PowK.n .half) = -1 ∧ legF a = -1) := by
  by_cases h : a = 0
  · subst h; exact .inl ⟨rfl, legF_zero⟩
  · rcases half_pm h with e | e
    · refine .inr (.inl ⟨h, e, ?_⟩)
      unfold legF
      rw [e, if_neg one_ne0, if_pos rfl]
    · refine .inr (.inr ⟨h, e, ?_⟩)
      unfold legF
      rw [e, if_neg (fun h0 => one_ne0 (by have : (1 : Fp) = -(-1) := by grind
                                           rw [this, h0]; grind)), if_neg (fun h1 => one_ne h1.symm)]
theorem sqrt_leg (a : Fp) : decide (legF a ≥ 0) = (sqrtF a).b := by
  have hr := root_half a
  unfold sqrtF
  rcases legF_cases a with ⟨h, e⟩ | ⟨h, e1, e⟩ | ⟨h, e1, e⟩
  · subst h
    rw [half_zero] at hr
    have hr : rootR (0 : Fp) * rootR 0 = 0 := by rw [hr]; grind
    rw [if_pos hr, e]
    split <;> rfl
  · rw [e1] at hr
    have hr : rootR a * rootR a = a := by rw [hr]; grind
    rw [if_pos hr, e]
    split <;> rfl
  · rw [e1] at hr
    have hne : ¬ (rootR a * rootR a = a) := by
      rw [hr]
      intro h0
      have : (1 + 1) * a = 0 := by grind
      rcases mul_eq_zeroF this with h1 | h1
      · exact absurd (congrArg Fin.val h1) (by decide)
      · exact h h1
    rw [if_neg hne, e]
    rfl
theorem sqrt_right (a : Fp) (h : (sqrtF a).b = true) : (sqrtF a).a * (sqrtF a).a = a ∧ largeF (sqrtF a).a = false := by
  unfold sqrtF at h ⊢
  split
  · rename_i hr
    split
    · rename_i hl
      refine ⟨by show -rootR a * -rootR a = a; rw [← hr]; grind, ?_⟩
      show largeF (-rootR a) = false
      have hne : rootR a ≠ 0 := by
        intro h0
        rw [h0] at hl
        exact absurd hl (by rw [show largeF 0 = false from by kernel_rfl]; decide)
      rw [large_neg hne, hl]; rfl
    · rename_i hl
      exact ⟨hr, by simpa using hl⟩
  · rename_i hr
    rw [if_neg hr] at h
    cases h

theorem leg_neg (a : Fp) : legF a * legF (-a) ≤ 0 ∧ -1 ≤ legF a * legF (-a) := by
  rcases legF_cases a with ⟨h, e⟩ | ⟨h, e1, e⟩ | ⟨h, e1, e⟩
  · rw [e]; omega
  · rw [e]
    rcases legF_cases (-a) with ⟨h2, e2⟩ | ⟨h2, e3, e2⟩ | ⟨h2, e3, e2⟩
    · rw [e2]; decide
    · rw [half_neg, e1] at e3
      exact absurd e3.symm one_ne
    · rw [e2]; decide
  · rw [e]
    rcases legF_cases (-a) with ⟨h2, e2⟩ | ⟨h2, e3, e2⟩ | ⟨h2, e3, e2⟩
    · rw [e2]; decide
    · rw [e2]; decide
    · rw [half_neg, e1] at e3
      have : (1 : Fp) = -1 := by grind
      exact absurd this one_ne

end Go.Proofs.YtbdbmcdcjejffaaGreat
