/- The reference's opposites, inverses, roots, signs: the contracts. -/
import Derived.Test.YtbdbmcdcjejffaaFpC
set_option linter.unusedVariables false
set_option linter.unusedSimpArgs false
set_option linter.unusedSectionVars false
namespace Go.Proofs.Ytbdbmcdcjejffaa
open Go Go.Sh

/-! ### Opposites -/
theorem negL_val {a : Fp} (h : a ≠ 0) : sub6 p6 (limbs a) = limbs (-a) := by
  apply val6_inj
  have h1 := sub6_val p6 (limbs a)
  have h2 := Cy.n_on (subTop p6 (limbs a))
  have h3 := mont_lt a
  have h4 := val6_lt' (sub6 p6 (limbs a))
  have h5 := mont_add (-a) a
  have e : -a + a = 0 := by grind
  rw [e] at h5
  have h6 : mont (0 : Fp) = 0 := by rw [mont_eq]; show 0 * r384 % pN = 0; rw [Nat.zero_mul, Nat.zero_mod]
  have h7 := mont_lt (-a)
  have h8 : mont a ≠ 0 := by
    intro h0
    apply h
    apply limbs_inj
    apply val6_inj
    rw [val6_limbs, val6_limbs, h0, h6]
  rw [h6] at h5
  rw [val6_p6, val6_limbs] at h1
  rw [val6_limbs]
  have hp := pN_val
  clear e h6 h
  generalize mont a = A at *
  generalize mont (-a) = B at *
  generalize val6 (sub6 p6 (limbs a)) = C at *
  have h9 : (subTop p6 (limbs a)).n ≤ 1 := Cy.le _
  generalize (subTop p6 (limbs a)).n = d at *
  rw [hp] at *
  have h10 : B + A = 4002409555221667393417789825735904156556882819939007885332058136124031650490837864442687629129015664037894272559787 := by
    omega
  omega

def tblNg : List (Row A) := [rowOf A 53 (fun x : Fp × Unit => decide (x.1 = 0)), rowOf A 30 (fun _ : Unit => p6), rowOf A 148 (fun x : L6 × L6 × Unit => T2.mk (sub6 x.1 x.2.1) (subTop x.1 x.2.1))]
theorem tblNg_ok : TblOK Try.prog tblNg := .cons refIsZero_ok.row (.cons refPL_ok.row (.cons refSubL_ok.row (.nil _)))

theorem refNegL_of (Z : Fp → Bool) (S : L6 → L6 → L6) (B : L6 → L6 → Cy) (pp : L6) (ht : TblOK Try.prog [rowOf A 53 (fun x : Fp × Unit => Z x.1), rowOf A 30 (fun _ : Unit => pp), rowOf A 148 (fun x : L6 × L6 × Unit => T2.mk (S x.1 x.2.1) (B x.1 x.2.1))]) :
    Computes A Try.prog 49 (fun x : Fp × Unit => if Z x.1 = true then limbs x.1 else S pp (limbs x.1)) := by
  refine computes_of_run ht Try.func49 (by kernel_rfl) (by kernel_rfl) 8 ?_
  rintro _ ⟨a, ⟨⟩⟩ W -
  cases hz : Z a with
  | true => exact ⟨says [(6, true)], _, [Z a = true], (by kernel_rfl : _ = some (some (limbs a), _)), ⟨hz, trivial⟩, by simp only [hz, if_true]⟩
  | false => exact ⟨says [(6, false)], _, [Z a = false], (by kernel_rfl : _ = some (some (S pp (limbs a)), _)), ⟨hz, trivial⟩, by simp only [hz, Bool.false_eq_true, if_false]⟩

theorem refNeg_ok : Computes A Try.prog 49 (fun x : Fp × Unit => -x.1) :=
  (refNegL_of (fun a => decide (a = 0)) sub6 subTop p6 tblNg_ok).as (fun x => x) (fun gh _ _ hg => ⟨gh, hg, rfl⟩) (fun x => by
    show Value.agg (cells6 (if decide (x.1 = 0) = true then limbs x.1 else sub6 p6 (limbs x.1))).toArray = Value.agg (cells6 (limbs (-x.1))).toArray
    congr 2
    by_cases h : x.1 = 0
    · rw [if_pos (decide_eq_true h), h]
      congr 1
    · rw [if_neg (by simpa using h), negL_val h])

/-! ### Inverses, roots, signs -/
theorem fpow_eq_zero {a : Fp} : ∀ {n : Nat}, fpow a n = 0 → a = 0
  | 0, h => by rw [fpow_zero] at h; exact absurd (congrArg Fin.val h) (by decide)
  | n + 1, h => by
    rw [fpow_succ] at h
    rcases mul_eq_zeroF h with e | e
    · exact fpow_eq_zero e
    · exact e
theorem tblPw_ok : TblOK Try.prog (tblPw shB (fun a l => fpow a (numB l)) (fun a b => a * b) (fun a => decide (a = 0)) largeF (fun a => -a) 1) :=
  .cons shifted_ok.row (.cons refPow_ok.row (.cons refMul_ok.row (.cons refIsZero_ok.row (.cons refLarge_ok.row (.cons refNeg_ok.row (.cons refOne_ok.row (.nil _)))))))

theorem refInv_ok : Computes A Try.prog 51 (fun x : Fp × Unit => invF x.1) :=
  Computes.eq (refInv_of tblPw_ok shB_len) (fun x => by rw [partB_all, shB_num]; rfl)

theorem refLegendre_ok : Computes A Try.prog 61 (fun x : Fp × Unit => legF x.1) :=
  Computes.eq (refLegendre_of tblPw_ok shB_len) (fun x => by
    rw [partB_all, shB_num, eqF]
    have e : PowK.n .half = ShK.num .half := rfl
    unfold legF
    rw [e]
    by_cases h : x.1 = 0
    · rw [if_pos (decide_eq_true h), h, if_pos]
      exact zero_fpow (by show 0 < (pN - 1) / 2; rw [pN_val]; decide)
    · have h2 : fpow x.1 (ShK.num .half) ≠ 0 := fun e => h (fpow_eq_zero e)
      rw [if_neg (by simpa using h), if_neg h2]
      by_cases h3 : fpow x.1 (ShK.num .half) = 1
      · rw [if_pos (decide_eq_true h3), if_pos h3]
      · rw [if_neg (by simpa using h3), if_neg h3])

theorem refSqrt_ok : Computes A Try.prog 59 (fun x : Fp × Unit => sqrtF x.1) :=
  Computes.eq (refSqrt_of tblPw_ok shB_len) (fun x => by
    have e : refRoot shB (fun a l => fpow a (numB l)) x.1 = rootR x.1 := by
      unfold refRoot rootR
      rw [partB_all]
      show fpow x.1 (numB (shB .quarter)) = _
      rw [shB_num]; rfl
    rw [e, eqF]
    unfold sqrtF
    by_cases h : rootR x.1 * rootR x.1 = x.1
    · rw [if_pos (decide_eq_true h), if_pos h]
    · rw [if_neg (by simpa using h), if_neg h])

end Go.Proofs.Ytbdbmcdcjejffaa
