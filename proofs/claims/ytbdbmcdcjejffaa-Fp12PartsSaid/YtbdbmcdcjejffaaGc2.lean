/- The laws of fp2: norms, signs, reckoning, roots. -/
import Derived.Test.YtbdbmcdcjejffaaGa4
import Derived.Test.YtbdbmcdcjejffaaGc1
set_option linter.unusedVariables false
set_option linter.unusedSimpArgs false
set_option linter.unusedSectionVars false
namespace Go.Proofs.Ytbdbmcdcjejffaa
open Go Go.Sh

theorem neg2_ne {z : F2} (h : z ≠ zero2) : z.1 ≠ 0 ∨ z.2 ≠ 0 := by
  by_cases h1 : z.1 = 0
  · by_cases h2 : z.2 = 0
    · exact absurd (ext2 h1 h2) h
    · exact .inr h2
  · exact .inl h1
theorem neg_ne0 {a : Fp} (h : a ≠ 0) : -a ≠ 0 := fun e => h (by grind)
theorem neg0 : (-0 : Fp) = 0 := by grind
theorem large2_neg {z : F2} (h : z ≠ zero2) : large2 (neg2 z) = !large2 z := by
  unfold large2 neg2
  by_cases h2 : z.2 = 0
  · have h1 : z.1 ≠ 0 := (neg2_ne h).resolve_right (fun e => e h2)
    rw [h2]
    show (if (-0 : Fp) = 0 then _ else _) = _
    rw [if_pos neg0, if_pos rfl]
    exact large_neg h1
  · rw [if_neg h2, if_neg (neg_ne0 h2)]
    exact large_neg h2
theorem large2_zero : large2 zero2 = false := by
  show (if (0 : Fp) = 0 then _ else _) = _
  rw [if_pos rfl]; exact largeF_zero
theorem oddF_zero : oddF 0 = false := by kernel_rfl
theorem sgn2_zero : sgn2 zero2 = 0 := by
  show (if oddF 0 = true then (1 : Int) else if (0 : Fp) = 0 then (if oddF 0 = true then 1 else 0) else 0) = 0
  rw [oddF_zero]; rfl
theorem sgn2_neg {z : F2} (h : z ≠ zero2) : sgn2 z + sgn2 (neg2 z) = 1 := by
  unfold sgn2 neg2
  by_cases h1 : z.1 = 0
  · have h2 : z.2 ≠ 0 := (neg2_ne h).resolve_left (fun e => e h1)
    simp only [h1, neg0, oddF_zero, odd_neg h2]
    cases oddF z.2 <;> rfl
  · simp only [h1, neg_ne0 h1, odd_neg h1, if_false]
    cases oddF z.1 <;> rfl

theorem sqrt2_b (a : F2) : (sqrt2 a).b = (root2 a).b := by
  unfold sqrt2
  cases (root2 a).b with
  | true => rw [if_pos rfl]; cases large2 (root2 a).a <;> rfl
  | false => rfl
theorem neg2_neg2 (a : F2) : mul2 (neg2 a) (neg2 a) = mul2 a a := ext2 (by simp only [mul2, neg2]; grind) (by simp only [mul2, neg2]; grind)
theorem sqrt2_right {a : F2} (h : (sqrt2 a).b = true) : mul2 (sqrt2 a).a (sqrt2 a).a = a ∧ large2 (sqrt2 a).a = false := by
  rw [sqrt2_b] at h
  obtain ⟨-, h2⟩ := root2_spec a
  obtain ⟨e, h3⟩ := h2 h
  rw [← e] at h3
  unfold sqrt2
  rw [if_pos h]
  generalize (root2 a).a = r at h3
  by_cases hl : large2 r = true
  · rw [if_pos hl]
    refine ⟨(neg2_neg2 r).trans h3, ?_⟩
    show large2 (neg2 r) = false
    rw [large2_neg (fun e => by rw [e, large2_zero] at hl; cases hl), hl]; rfl
  · rw [if_neg hl]
    exact ⟨h3, by simpa using hl⟩
theorem isSq2_eq (a : F2) : isSq2 a = (sqrt2 a).b := by
  rw [sqrt2_b, (root2_spec a).1]
  unfold isSq2
  rw [sqrt_leg]
  by_cases h : a.2 = 0
  · rw [decide_eq_true h, Bool.true_or]
    have : norm2 a = a.1 * a.1 := by unfold norm2; rw [h]; grind
    rw [this]
    exact (sqrt_sq a.1).1
  · rw [decide_eq_false h, Bool.false_or]
theorem isSq2_sq (a : F2) : isSq2 (mul2 a a) = true := by
  unfold isSq2
  rw [sqrt_leg, norm2_mul]
  exact (sqrt_sq _).1
theorem sqrt2_sq (a : F2) : (sqrt2 (mul2 a a)).b = true ∧ ((sqrt2 (mul2 a a)).a = a ∨ (sqrt2 (mul2 a a)).a = neg2 a) := by
  have h : (sqrt2 (mul2 a a)).b = true := by rw [← isSq2_eq]; exact isSq2_sq a
  exact ⟨h, sq2_eq (sqrt2_right h).1⟩

theorem tblKnown5_ok : TblOK Try.prog (tblKnown5 (fun a b => (fpOf a, fpOf b)) sqrt2 mul2 one2 neg2 (fun a b => decide (a = b)) (fun a => mul2 a a) large2 inv2 xi2 sgn2) :=
  .cons small5_ok.row (.cons sqrt2_ok.row (.cons mul2_ok.row (.cons one2_ok.row (.cons neg2_ok.row (.cons eq2_ok.row (.cons sq2_ok.row (.cons large2_ok.row (.cons inv2_ok.row (.cons xi2_ok.row (.cons sgn2_ok.row (.nil _)))))))))))
theorem small34 : ((fpOf 3, fpOf 4) : F2) ≠ zero2 := fun e => absurd (congrArg (fun z : F2 => z.1.val) e) (by decide)
theorem sq2i : ((fpOf 0, fpOf 2) : F2) = mul2 (fpOf 1, fpOf 1) (fpOf 1, fpOf 1) := by
  rw [fpOf_zero, fpOf_one, fpOf2]
  exact ext2 (by simp only [mul2]; grind) (by simp only [mul2]; grind)
theorem root2i : (sqrt2 ((fpOf 0, fpOf 2) : F2)).b = true := by rw [sq2i]; exact (sqrt2_sq _).1
theorem known5_ok : Computes A Try.prog 101 (fun _ : Unit => true) := by
  refine known5_of (fun a b => (fpOf a, fpOf b)) sqrt2 mul2 one2 neg2 (fun a b => decide (a = b)) (fun a => mul2 a a) large2 inv2 xi2 sgn2 tblKnown5_ok ⟨beq_iff_eq.2 ?_, beq_iff_eq.2 ?_, beq_iff_eq.2 ?_, decide_eq_true ?_, decide_eq_true ?_, (sqrt2_right root2i).2, decide_eq_true (sqrt2_right root2i).1, decide_eq_true ?_, root2i, trivial⟩
  · show sgn2 (fpOf 2, fpOf 1) = 0
    kernel_rfl
  · show sgn2 (fpOf 0, fpOf 1) = 1
    kernel_rfl
  · show sgn2 (fpOf 1, fpOf 2) = 1
    kernel_rfl
  · show xi2 (fpOf 1, fpOf 0) = (fpOf 1, fpOf 1)
    rw [fpOf_one, fpOf_zero]
    exact ext2 (by simp only [xi2]; grind) (by simp only [xi2]; grind)
  · exact mul2_inv small34
  · show mul2 (fpOf 0, fpOf 1) (fpOf 0, fpOf 1) = neg2 one2
    rw [fpOf_one, fpOf_zero]
    exact ext2 (by simp only [mul2, neg2, one2]; grind) (by simp only [mul2, neg2, one2]; grind)

theorem tblFp2Norms_ok (k : Nat) : TblOK Try.prog (tblFp2Norms k (num2 wideF) conj2 mul2 (fun a => decide (a = 0)) (fun a => a * a) (fun a b => a + b) (fun a b => decide (a = b)) (fun a b => decide (a = b)) isSq2 legF fpOf scale2 add2) :=
  .cons known5_ok.row (.cons (light5Row_ok k) (.cons num5_ok.row (.cons conj2_ok.row (.cons mul2_ok.row (.cons isZero_ok.row (.cons sq_ok.row (.cons add_ok.row (.cons equal_ok.row (.cons eq2_ok.row (.cons isSq2_ok.row (.cons legendre_ok.row (.cons of_ok.row (.cons scale2_ok.row (.cons add2_ok.row (.nil _)))))))))))))))

theorem scale3 (a : F2) : scale2 a (fpOf 3) = add2 (add2 a a) a := by
  have h : fpOf 3 = 1 + 1 + 1 := by kernel_rfl
  rw [h]
  exact ext2 (by simp only [scale2, add2]; grind) (by simp only [scale2, add2]; grind)
theorem norms_two (a b : F2) : mul2 (mul2 a b) (conj2 (mul2 a b)) = mul2 (mul2 a (conj2 a)) (mul2 b (conj2 b)) := by
  rw [mul2_conj, mul2_conj, mul2_conj, norm2_mul]
  exact ext2 (by simp only [mul2]; grind) (by simp only [mul2]; grind)
theorem norms_leg (a : F2) : decide (legF (mul2 a (conj2 a)).1 ≥ 0) = isSq2 a := by rw [mul2_conj]; rfl
theorem norms_sum (a : F2) : (mul2 a (conj2 a)).1 = a.1 * a.1 + a.2 * a.2 := by rw [mul2_conj]; rfl
theorem norms_none (a : F2) : (mul2 a (conj2 a)).2 = 0 := by rw [mul2_conj]
theorem norms5_ok : Computes A Try.prog 17 (fun _ : Bs × Bs × Unit => true) :=
  fp2Norms_of (num2 wideF) conj2 mul2 (fun a => decide (a = 0)) (fun a => a * a) (fun a b => a + b) (fun a b => decide (a = b)) (fun a b => decide (a = b)) isSq2 legF fpOf scale2 add2 tblFp2Norms_ok
    (fun a b h => ⟨decide_eq_true (scale3 a), (norms_leg a).trans h, decide_eq_true (norms_two a b), decide_eq_true (norms_sum a), decide_eq_true (norms_none a), rfl, trivial⟩)
    (fun a b h => ⟨decide_eq_true (scale3 a), (norms_leg a).trans h, decide_eq_true (norms_two a b), decide_eq_true (norms_sum a), decide_eq_true (norms_none a), rfl, trivial⟩)

theorem tblFp2Reckons_ok (k : Nat) : TblOK Try.prog (tblFp2Reckons k (num2 wideF) (fun a => a) wideF (fun a => a) add2 add2 (fun a b => decide (a = b)) sub2 sub2 neg2 neg2 conj2 conj2 mul2 mul2 (fun a => mul2 a a) inv2 inv2 xi2 xi2 scale2 (fun a b => a * b) (fun a b => decide (a = b)) (fun a => decide (a = zero2)) (fun a => decide (a = zero2))) :=
  .cons known5_ok.row (.cons (light5Row_ok k) (.cons num5_ok.row (.cons ref5_ok.row (.cons wide_ok.row (.cons part5_ok.row (.cons add2_ok.row (.cons rAdd2_ok.row (.cons same5_ok.row (.cons sub2_ok.row (.cons rSub2_ok.row (.cons neg2_ok.row (.cons rNeg2_ok.row (.cons conj2_ok.row (.cons rConj2_ok.row (.cons mul2_ok.row (.cons rMul2_ok.row (.cons sq2_ok.row (.cons inv2_ok.row (.cons rInv2_ok.row (.cons xi2_ok.row (.cons rXi2_ok.row (.cons scale2_ok.row (.cons refMul_ok.row (.cons eq2_ok.row (.cons isZ2_ok.row (.cons rIsZ2_ok.row (.nil _)))))))))))))))))))))))))))

theorem reckons5_ok : Computes A Try.prog 18 (fun _ : Bs × Bs × Bs × Unit => true) :=
  fp2Reckons_of (num2 wideF) (fun a => a) wideF (fun a => a) add2 add2 (fun a b => decide (a = b)) sub2 sub2 neg2 neg2 conj2 conj2 mul2 mul2 (fun a => mul2 a a) inv2 inv2 xi2 xi2 scale2 (fun a b => a * b) (fun a b => decide (a = b)) (fun a => decide (a = zero2)) (fun a => decide (a = zero2)) tblFp2Reckons_ok
    (fun a b c he hz => ⟨decide_eq_true inv2_zero, decide_eq_true rfl, hz, (eqE_eq a b).trans he, decide_eq_true rfl, decide_eq_true rfl, decide_eq_true rfl, decide_eq_true rfl, decide_eq_true rfl, decide_eq_true rfl, decide_eq_true rfl, decide_eq_true rfl, decide_eq_true rfl, rfl, trivial⟩)
    (fun a b c he hz => ⟨decide_eq_true inv2_zero, decide_eq_true rfl, hz, (eqE_eq a b).trans he, decide_eq_true rfl, decide_eq_true rfl, decide_eq_true rfl, decide_eq_true rfl, decide_eq_true rfl, decide_eq_true rfl, decide_eq_true rfl, decide_eq_true rfl, decide_eq_true rfl, rfl, trivial⟩)
    (fun a b c he hz => ⟨decide_eq_true inv2_zero, decide_eq_true rfl, hz, (eqE_eq a b).trans he, decide_eq_true rfl, decide_eq_true rfl, decide_eq_true rfl, decide_eq_true rfl, decide_eq_true rfl, decide_eq_true rfl, decide_eq_true rfl, decide_eq_true rfl, decide_eq_true rfl, rfl, trivial⟩)
    (fun a b c he hz => ⟨decide_eq_true inv2_zero, decide_eq_true rfl, hz, (eqE_eq a b).trans he, decide_eq_true rfl, decide_eq_true rfl, decide_eq_true rfl, decide_eq_true rfl, decide_eq_true rfl, decide_eq_true rfl, decide_eq_true rfl, decide_eq_true rfl, decide_eq_true rfl, rfl, trivial⟩)

theorem tblFp2Signs_ok (k : Nat) : TblOK Try.prog (tblFp2Signs k (num2 wideF) sgn2 (fun a => a) sgn2 large2 large2 (fun a => decide (a = zero2)) neg2) :=
  .cons known5_ok.row (.cons (light5Row_ok k) (.cons num5_ok.row (.cons sgn2_ok.row (.cons ref5_ok.row (.cons rSgn2_ok.row (.cons large2_ok.row (.cons rLarge2_ok.row (.cons isZ2_ok.row (.cons neg2_ok.row (.nil _))))))))))

theorem sg_sum {z : F2} (h : z ≠ zero2) : (sgn2 z + sgn2 (neg2 z) == 1) = true := beq_iff_eq.2 (sgn2_neg h)
theorem sg_wrap {z : F2} (h : z ≠ zero2) : WrapI (sgn2 z + sgn2 (neg2 z)) := by rw [sgn2_neg h]; exact wrapI (by decide) (by decide)
theorem sg_same (z : F2) : (sgn2 z != sgn2 z) = false := by simp
theorem sign_large (z : F2) (h : large2 z = true) : ((sgn2 z + sgn2 (neg2 z) == 1) = true) ∧ WrapI (sgn2 z + sgn2 (neg2 z)) ∧ (large2 (neg2 z) = false) ∧ (decide (z = zero2) = false) ∧ (large2 z = true) ∧ ((sgn2 z != sgn2 z) = false) ∧ (true = true) ∧ True := by
  have hz : z ≠ zero2 := fun e => by rw [e, large2_zero] at h; cases h
  exact ⟨sg_sum hz, sg_wrap hz, by rw [large2_neg hz, h]; rfl, decide_eq_false hz, h, sg_same z, rfl, trivial⟩
theorem sign_zero (z : F2) (h : large2 z = false) (hz : decide (z = zero2) = true) : ((sgn2 z == 0) = true) ∧ (large2 z = false) ∧ ((sgn2 z != sgn2 z) = false) ∧ (true = true) ∧ True :=
  ⟨by rw [of_decide_eq_true hz, sgn2_zero]; rfl, h, sg_same z, rfl, trivial⟩
theorem sign_small (z : F2) (h : large2 z = false) (hz' : decide (z = zero2) = false) : ((sgn2 z + sgn2 (neg2 z) == 1) = true) ∧ WrapI (sgn2 z + sgn2 (neg2 z)) ∧ (large2 (neg2 z) = true) ∧ (large2 z = false) ∧ ((sgn2 z != sgn2 z) = false) ∧ (true = true) ∧ True := by
  have hz : z ≠ zero2 := of_decide_eq_false hz'
  exact ⟨sg_sum hz, sg_wrap hz, by rw [large2_neg hz, h]; rfl, h, sg_same z, rfl, trivial⟩
theorem signs5_ok : Computes A Try.prog 16 (fun _ : Bs × Bool × Bool × Unit => true) :=
  fp2Signs_of (num2 wideF) sgn2 (fun a => a) sgn2 large2 large2 (fun a => decide (a = zero2)) neg2 tblFp2Signs_ok
    (fun a _ _ _ _ h => sign_large (0, a.1) h) (fun a _ _ _ _ h hz => sign_zero (0, a.1) h hz) (fun a _ _ _ _ h hz => sign_small (0, a.1) h hz)
    (fun a _ _ _ _ h => sign_large (a.1, 0) h) (fun a _ _ _ _ h hz => sign_zero (a.1, 0) h hz) (fun a _ _ _ _ h hz => sign_small (a.1, 0) h hz)
    (fun a _ _ _ _ h => sign_large (a.2, a.1) h) (fun a _ _ _ _ h hz => sign_zero (a.2, a.1) h hz) (fun a _ _ _ _ h hz => sign_small (a.2, a.1) h hz)
    (fun a _ _ _ _ h => sign_large a h) (fun a _ _ _ _ h hz => sign_zero a h hz) (fun a _ _ _ _ h hz => sign_small a h hz)

theorem tblFp2Roots_ok (k : Nat) : TblOK Try.prog (tblFp2Roots k (num2 wideF) sqrt2 (fun a => a) sqrt2 (fun a b => decide (a = b)) isSq2 (fun a => mul2 a a) (fun a b => decide (a = b)) large2 neg2) :=
  .cons known5_ok.row (.cons (light5Row_ok k) (.cons num5_ok.row (.cons sqrt2_ok.row (.cons ref5_ok.row (.cons rSqrt2_ok.row (.cons same5_ok.row (.cons isSq2_ok.row (.cons sq2_ok.row (.cons eq2_ok.row (.cons large2_ok.row (.cons neg2_ok.row (.nil _))))))))))))

theorem rt_other (z : F2) (h : decide ((sqrt2 (mul2 z z)).a = z) = false) : decide ((sqrt2 (mul2 z z)).a = neg2 z) = true := decide_eq_true ((sqrt2_sq z).2.resolve_left (of_decide_eq_false h))
theorem root_yes1 (z : F2) (h : (sqrt2 z).b = true) : (isSq2 (mul2 z z) = true) ∧ ((sqrt2 (mul2 z z)).b = true) ∧ (large2 (sqrt2 z).a = false) ∧ (decide (mul2 (sqrt2 z).a (sqrt2 z).a = z) = true) ∧ (isSq2 z = true) ∧ (decide ((sqrt2 z).a = (sqrt2 z).a) = true) ∧ ((sqrt2 z).b = true) ∧ (true = true) ∧ True :=
  ⟨isSq2_sq z, (sqrt2_sq z).1, (sqrt2_right h).2, decide_eq_true (sqrt2_right h).1, (isSq2_eq z).trans h, decide_eq_true rfl, h, rfl, trivial⟩
theorem root_yes2 (z : F2) (h : (sqrt2 z).b = true) (he : decide ((sqrt2 (mul2 z z)).a = z) = false) : (isSq2 (mul2 z z) = true) ∧ (decide ((sqrt2 (mul2 z z)).a = neg2 z) = true) ∧ ((sqrt2 (mul2 z z)).b = true) ∧ (large2 (sqrt2 z).a = false) ∧ (decide (mul2 (sqrt2 z).a (sqrt2 z).a = z) = true) ∧ (isSq2 z = true) ∧ (decide ((sqrt2 z).a = (sqrt2 z).a) = true) ∧ ((sqrt2 z).b = true) ∧ (true = true) ∧ True :=
  ⟨isSq2_sq z, rt_other z he, (sqrt2_sq z).1, (sqrt2_right h).2, decide_eq_true (sqrt2_right h).1, (isSq2_eq z).trans h, decide_eq_true rfl, h, rfl, trivial⟩
theorem root_no1 (z : F2) (h : (sqrt2 z).b = false) : (isSq2 (mul2 z z) = true) ∧ ((sqrt2 (mul2 z z)).b = true) ∧ (isSq2 z = false) ∧ (decide ((sqrt2 z).a = (sqrt2 z).a) = true) ∧ ((sqrt2 z).b = false) ∧ (true = true) ∧ True :=
  ⟨isSq2_sq z, (sqrt2_sq z).1, (isSq2_eq z).trans h, decide_eq_true rfl, h, rfl, trivial⟩
theorem root_no2 (z : F2) (h : (sqrt2 z).b = false) (he : decide ((sqrt2 (mul2 z z)).a = z) = false) : (isSq2 (mul2 z z) = true) ∧ (decide ((sqrt2 (mul2 z z)).a = neg2 z) = true) ∧ ((sqrt2 (mul2 z z)).b = true) ∧ (isSq2 z = false) ∧ (decide ((sqrt2 z).a = (sqrt2 z).a) = true) ∧ ((sqrt2 z).b = false) ∧ (true = true) ∧ True :=
  ⟨isSq2_sq z, rt_other z he, (sqrt2_sq z).1, (isSq2_eq z).trans h, decide_eq_true rfl, h, rfl, trivial⟩
theorem roots5_ok : Computes A Try.prog 20 (fun _ : Bs × Bool × Bool × Unit => true) :=
  fp2Roots_of (num2 wideF) sqrt2 (fun a => a) sqrt2 (fun a b => decide (a = b)) isSq2 (fun a => mul2 a a) (fun a b => decide (a = b)) large2 neg2 tblFp2Roots_ok
    (fun a _ _ _ _ h he => root_yes1 (0, a.1) h) (fun a _ _ _ _ h he => root_yes2 (0, a.1) h he) (fun a _ _ _ _ h he => root_no1 (0, a.1) h) (fun a _ _ _ _ h he => root_no2 (0, a.1) h he)
    (fun a _ _ _ _ h he => root_yes1 (a.1, 0) h) (fun a _ _ _ _ h he => root_yes2 (a.1, 0) h he) (fun a _ _ _ _ h he => root_no1 (a.1, 0) h) (fun a _ _ _ _ h he => root_no2 (a.1, 0) h he)
    (fun a _ _ _ _ h he => root_yes1 (a.2, a.1) h) (fun a _ _ _ _ h he => root_yes2 (a.2, a.1) h he) (fun a _ _ _ _ h he => root_no1 (a.2, a.1) h) (fun a _ _ _ _ h he => root_no2 (a.2, a.1) h he)
    (fun a _ _ _ _ h he => root_yes1 a h) (fun a _ _ _ _ h he => root_yes2 a h he) (fun a _ _ _ _ h he => root_no1 a h) (fun a _ _ _ _ h he => root_no2 a h he)

end Go.Proofs.Ytbdbmcdcjejffaa
