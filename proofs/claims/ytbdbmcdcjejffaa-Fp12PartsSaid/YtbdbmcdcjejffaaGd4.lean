/- The field law of fp2: the power of p is the conjugate. -/
import Derived.Test.YtbdbmcdcjejffaaGd3
set_option linter.unusedVariables false
set_option linter.unusedSimpArgs false
set_option linter.unusedSectionVars false
namespace Go.Proofs.Ytbdbmcdcjejffaa
open Go Go.Sh

noncomputable instance : CR F2 where
  o := zero2
  i := one2
  p := add2
  m := mul2
  n := neg2
  pC := add2_comm
  pA := add2_assoc
  p0 := add2_zero
  pN := add2_neg
  mC := mul2_comm
  mA := mul2_assoc
  m1 := mul2_one
  mD := mul2_add
noncomputable instance : CR Fp where
  o := 0
  i := 1
  p a b := a + b
  m a b := a * b
  n a := -a
  pC a b := by grind
  pA a b c := by grind
  p0 a := by grind
  pN a := by grind
  mC a b := by grind
  mA a b c := by grind
  m1 a := by grind
  mD a b c := by grind
theorem nm_fp (a : Fp) : ∀ k, (CR.nm k a : Fp) = fpN k * a
  | 0 => by
    show (0 : Fp) = fpN 0 * a
    have : fpN 0 = 0 := by kernel_rfl
    rw [this]; grind
  | k + 1 => by
    show CR.nm k a + a = fpN (k + 1) * a
    have : fpN (k + 1) = fpN k + 1 := Fin.ext (by show (k + 1) % pN = (k % pN + 1 % pN) % pN; rw [Nat.add_mod])
    rw [nm_fp a k, this]; grind
theorem fpN_p : fpN pN = 0 := Fin.ext (Nat.mod_self _)
theorem nm_pF (a : Fp) : (CR.nm pN a : Fp) = 0 := by rw [nm_fp, fpN_p]; grind
theorem nm_f2 (a : F2) : ∀ k, (CR.nm k a : F2) = ((CR.nm k a.1 : Fp), (CR.nm k a.2 : Fp))
  | 0 => rfl
  | k + 1 => by
    show add2 (CR.nm k a) a = _
    rw [nm_f2 a k]; rfl
theorem nm_p2 (a : F2) : (CR.nm pN a : F2) = zero2 := by rw [nm_f2, nm_pF, nm_pF]; rfl
theorem pos_p : 0 < pN := by rw [pN_val]; decide
theorem dream2 (a b : F2) : pow2 (add2 a b) pN = add2 (pow2 a pN) (pow2 b pN) := CR.dream (X := F2) prime_p pos_p nm_p2 a b
theorem pow2_real (x : Fp) : ∀ n, pow2 (x, 0) n = (fpow x n, 0)
  | 0 => by rw [fpow_zero]; rfl
  | n + 1 => by
    show mul2 (pow2 (x, 0) n) (x, 0) = _
    rw [pow2_real x n, fpow_succ]
    exact ext2 (by simp only [mul2]; grind) (by simp only [mul2]; grind)
theorem fpow_p (x : Fp) : fpow x pN = x := by
  by_cases h : x = 0
  · rw [h, zero_fpow pos_p]
  · have e : pN = (pN - 1) + 1 := by rw [pN_val]
    rw [e, fpow_succ, fermatF h]; grind
def i2 : F2 := (0, 1)
theorem i2_4 : pow2 i2 4 = one2 := by
  show mul2 (mul2 (mul2 (mul2 one2 i2) i2) i2) i2 = one2
  exact ext2 (by simp only [mul2, i2, one2]; grind) (by simp only [mul2, i2, one2]; grind)
theorem i2_3 : pow2 i2 3 = neg2 i2 := by
  show mul2 (mul2 (mul2 one2 i2) i2) i2 = neg2 i2
  exact ext2 (by simp only [mul2, i2, one2, neg2]; grind) (by simp only [mul2, i2, one2, neg2]; grind)
theorem i2_p : pow2 i2 pN = neg2 i2 := by
  obtain ⟨q, hq⟩ : ∃ q, pN = 4 * q + 3 := ⟨pN / 4, by rw [pN_val]⟩
  rw [hq]
  show CR.pw (X := F2) i2 (4 * q + 3) = _
  rw [CR.pw_add, CR.pw_mul]
  show mul2 (CR.pw (X := F2) (pow2 i2 4) q) (pow2 i2 3) = _
  rw [i2_4, i2_3]
  show mul2 (CR.pw (X := F2) CR.i q) _ = _
  rw [CR.i_pw]
  show mul2 one2 _ = _
  rw [mul2_comm, mul2_one]
theorem pow2_p (a : F2) : pow2 a pN = conj2 a := by
  have e : a = add2 (a.1, 0) (mul2 (a.2, 0) i2) := ext2 (by simp only [add2, mul2, i2]; grind) (by simp only [add2, mul2, i2]; grind)
  have h : pow2 (mul2 (a.2, 0) i2) pN = mul2 (pow2 (a.2, 0) pN) (pow2 i2 pN) := CR.m_pw (X := F2) (a.2, 0) i2 pN
  rw [e, dream2, h, pow2_real, pow2_real, i2_p, fpow_p, fpow_p]
  exact ext2 (by simp only [add2, mul2, i2, neg2, conj2]; grind) (by simp only [add2, mul2, i2, neg2, conj2]; grind)
theorem numB_p : numB (listB (bytesN pNum.val).f) = pN := by
  show numB ((List.range 48).map (byteN pNum.val)) = pN
  rw [numB_bytesN (by decide)]; decide

theorem tblFp2Laws_ok (k : Nat) : TblOK Try.prog (tblFp2Laws k (num2 wideF) pNum (fun x => bytesN x.val) add2 (fun a b => decide (a = b)) mul2 sub2 one2 (fun a => decide (a = zero2)) inv2 (fun a l => pow2 a (numB l)) conj2) :=
  .cons known5_ok.row (.cons (light5Row_ok k) (.cons num5_ok.row (.cons refP_ok.row (.cons refBytes_ok.row (.cons add2_ok.row (.cons eq2_ok.row (.cons mul2_ok.row (.cons sub2_ok.row (.cons one2_ok.row (.cons isZ2_ok.row (.cons inv2_ok.row (.cons pow2_ok.row (.cons conj2_ok.row (.nil _))))))))))))))

theorem laws5_conj (a : F2) : pow2 a (numB (listB (bytesN pNum.val).f)) = conj2 a := by rw [numB_p, pow2_p]
theorem listB_len (f : Nat → UInt8) : (listB f).length < 1048576 := by unfold listB; rw [List.length_map, List.length_range]; decide
theorem add2_a (a b c : F2) : add2 a (add2 b c) = add2 (add2 a b) c := (add2_assoc a b c).symm
theorem laws5_ok : Computes A Try.prog 21 (fun _ : Bs × Bs × Bs × Unit => true) :=
  fp2Laws_of (num2 wideF) pNum (fun x => bytesN x.val) add2 (fun a b => decide (a = b)) mul2 sub2 one2 (fun a => decide (a = zero2)) inv2 (fun a l => pow2 a (numB l)) conj2 tblFp2Laws_ok
    (fun a b c hz => ⟨decide_eq_true (conj2_mul a b), decide_eq_true (laws5_conj a), listB_len _, decide_eq_true (mul2_one a), decide_eq_true (sub2_add a b), decide_eq_true (mul2_add a b c), decide_eq_true (mul2_assoc a b c).symm, decide_eq_true (add2_a a b c), decide_eq_true (mul2_comm a b), decide_eq_true (add2_comm a b), rfl, trivial⟩)
    (fun a b c hz => ⟨decide_eq_true (conj2_mul a b), decide_eq_true (laws5_conj a), listB_len _, decide_eq_true (mul2_inv (of_decide_eq_false hz)), decide_eq_true (mul2_one a), decide_eq_true (sub2_add a b), decide_eq_true (mul2_add a b c), decide_eq_true (mul2_assoc a b c).symm, decide_eq_true (add2_a a b c), decide_eq_true (mul2_comm a b), decide_eq_true (add2_comm a b), rfl, trivial⟩)

end Go.Proofs.Ytbdbmcdcjejffaa
