/- The reference's product on words. -/
import Derived.Test.YtaloefkkllebeaaFe2
set_option linter.unusedVariables false
set_option linter.unusedSimpArgs false
set_option linter.unusedSectionVars false
namespace Go.Proofs.Ytaloefkkllebeaa
open Go Go.Sh

/-- a x + t + w, in two parts, as the reference takes it. -/
def m0T (a x t : UInt64) : UInt64 := adcS t (mulLo a x) ⟨false⟩
def m0W (a x t : UInt64) : UInt64 := u64 (((mulHi a x).toNat : Int) + (cond (adcC t (mulLo a x) ⟨false⟩).on 1 0 : Int))
def mT (a x t w : UInt64) : UInt64 := adcS t (adcS (mulLo a x) w ⟨false⟩) ⟨false⟩
def mW (a x t w : UInt64) : UInt64 := u64 (((u64 (((mulHi a x).toNat : Int) + (cond (adcC (mulLo a x) w ⟨false⟩).on 1 0 : Int))).toNat : Int) + (cond (adcC t (adcS (mulLo a x) w ⟨false⟩) ⟨false⟩).on 1 0 : Int))

theorem cond_n (c : Cy) : (cond c.on 1 0 : Int) = (c.n : Int) := by obtain ⟨b⟩ := c; cases b <;> rfl

theorem mT_eq (a x t w : UInt64) : mT a x t w = maddLo x a t w ∧ mW a x t w = maddHi x a t w := by
  have h1 := mulHi_nat a x
  have h2 := mulLo_nat a x
  have h3 := mul_bound a x
  have h4 := adc_nat (mulLo a x) w ⟨false⟩
  have h5 := adc_nat t (adcS (mulLo a x) w ⟨false⟩) ⟨false⟩
  have l1 := (adcC (mulLo a x) w ⟨false⟩).le
  have l2 := (adcC t (adcS (mulLo a x) w ⟨false⟩) ⟨false⟩).le
  have f : (⟨false⟩ : Cy).n = 0 := rfl
  rw [f] at h4 h5
  have c1 := w.toNat_lt
  have c2 := t.toNat_lt
  have c3 := (adcS t (adcS (mulLo a x) w ⟨false⟩) ⟨false⟩).toNat_lt
  have c4 := (adcS (mulLo a x) w ⟨false⟩).toNat_lt
  have hm : maddN x a t w = a.toNat * x.toNat + t.toNat + w.toNat := by unfold maddN; rw [Nat.mul_comm]
  constructor
  · apply UInt64.toNat_inj.1
    rw [maddLo_nat, hm]
    simp only [mT]
    generalize a.toNat * x.toNat = m at *
    omega
  · apply UInt64.toNat_inj.1
    rw [maddHi_nat, hm]
    simp only [mW, cond_n]
    have e1 : (u64 (((mulHi a x).toNat : Int) + ((adcC (mulLo a x) w ⟨false⟩).n : Int))).toNat = (mulHi a x).toNat + (adcC (mulLo a x) w ⟨false⟩).n := by
      have : (((mulHi a x).toNat : Int) + ((adcC (mulLo a x) w ⟨false⟩).n : Int)) = (((mulHi a x).toNat + (adcC (mulLo a x) w ⟨false⟩).n : Nat) : Int) := by simp
      rw [this, u64_nat]
      generalize a.toNat * x.toNat = m at *
      omega
    rw [e1]
    have : ((((mulHi a x).toNat + (adcC (mulLo a x) w ⟨false⟩).n : Nat) : Int) + ((adcC t (adcS (mulLo a x) w ⟨false⟩) ⟨false⟩).n : Int)) = (((mulHi a x).toNat + (adcC (mulLo a x) w ⟨false⟩).n + (adcC t (adcS (mulLo a x) w ⟨false⟩) ⟨false⟩).n : Nat) : Int) := by simp
    rw [this, u64_nat]
    generalize a.toNat * x.toNat = m at *
    omega

theorem m0T_eq (a x t : UInt64) : m0T a x t = maddLo x a t (UInt64.ofNat 0) ∧ m0W a x t = maddHi x a t (UInt64.ofNat 0) := by
  have h1 := mulHi_nat a x
  have h2 := mulLo_nat a x
  have h3 := mul_bound a x
  have h5 := adc_nat t (mulLo a x) ⟨false⟩
  have l2 := (adcC t (mulLo a x) ⟨false⟩).le
  have f : (⟨false⟩ : Cy).n = 0 := rfl
  rw [f] at h5
  have c2 := t.toNat_lt
  have c3 := (adcS t (mulLo a x) ⟨false⟩).toNat_lt
  have z : (UInt64.ofNat 0).toNat = 0 := rfl
  have hm : maddN x a t (UInt64.ofNat 0) = a.toNat * x.toNat + t.toNat := by unfold maddN; rw [Nat.mul_comm, z]; rfl
  constructor
  · apply UInt64.toNat_inj.1
    rw [maddLo_nat, hm]
    simp only [m0T]
    generalize a.toNat * x.toNat = m at *
    omega
  · apply UInt64.toNat_inj.1
    rw [maddHi_nat, hm]
    simp only [m0W, cond_n]
    have : (((mulHi a x).toNat : Int) + ((adcC t (mulLo a x) ⟨false⟩).n : Int)) = (((mulHi a x).toNat + (adcC t (mulLo a x) ⟨false⟩).n : Nat) : Int) := by simp
    rw [this, u64_nat]
    generalize a.toNat * x.toNat = m at *
    omega

/-- One row. -/
def rowR (a t : L6) (x : UInt64) : L6 :=
  let T0 := m0T a.1 x t.1
  let w0 := m0W a.1 x t.1
  let T1 := mT a.2.1 x t.2.1 w0
  let w1 := mW a.2.1 x t.2.1 w0
  let T2 := mT a.2.2.1 x t.2.2.1 w1
  let w2 := mW a.2.2.1 x t.2.2.1 w1
  let T3 := mT a.2.2.2.1 x t.2.2.2.1 w2
  let w3 := mW a.2.2.2.1 x t.2.2.2.1 w2
  let T4 := mT a.2.2.2.2.1 x t.2.2.2.2.1 w3
  let w4 := mW a.2.2.2.2.1 x t.2.2.2.2.1 w3
  let T5 := mT a.2.2.2.2.2 x t.2.2.2.2.2 w4
  let w5 := mW a.2.2.2.2.2 x t.2.2.2.2.2 w4
  let m := u64 ((T0.toNat : Int) * 9940570264628428797)
  let v0 := m0W m p6.1 T0
  let v1 := mW m p6.2.1 T1 v0
  let v2 := mW m p6.2.2.1 T2 v1
  let v3 := mW m p6.2.2.2.1 T3 v2
  let v4 := mW m p6.2.2.2.2.1 T4 v3
  let v5 := mW m p6.2.2.2.2.2 T5 v4
  (mT m p6.2.1 T1 v0, mT m p6.2.2.1 T2 v1, mT m p6.2.2.2.1 T3 v2, mT m p6.2.2.2.2.1 T4 v3, mT m p6.2.2.2.2.2 T5 v4, u64 ((w5.toNat : Int) + v5.toNat))

theorem madd_comm (a b c d : UInt64) : maddLo a b c d = maddLo b a c d ∧ maddHi a b c d = maddHi b a c d := by
  have : maddN a b c d = maddN b a c d := by unfold maddN; rw [Nat.mul_comm]
  unfold maddLo maddHi
  rw [this]
  exact ⟨rfl, rfl⟩

theorem rowR_eq (a t : L6) (x : UInt64) : rowR a t x = rnd a t x := by
  have e1 : ∀ q p l d, maddLo p q l d = maddLo q p l d := fun q p l d => (madd_comm p q l d).1
  simp only [rowR, rnd, fun a x t => (m0T_eq a x t).1, fun a x t => (m0T_eq a x t).2, fun a x t w => (mT_eq a x t w).1, fun a x t w => (mT_eq a x t w).2]
  obtain ⟨q, hq⟩ : ∃ q, q = u64 (((maddLo x a.1 t.1 (UInt64.ofNat 0)).toNat : Int) * 9940570264628428797) := ⟨_, rfl⟩
  simp only [← hq, p6, fun p l d => (madd_comm p q l d).1, fun p l d => (madd_comm p q l d).2]

def tblQ : List (Row A) := rowOf A 17 (fun x : L6 × L6 × Unit => T2.mk (sub6 x.1 x.2.1) (subTop x.1 x.2.1)) :: tblB
/-- The reference's product's loop, at its head. -/
def monSt (a b t : L6) (k : Nat) : St A :=
  ⟨slots 0 322 ([(2, .val false [.p 0 0]), (3, .val false [.p 1 0]), (4, .val false [.p 2 0])] ++ ((sv6 t).zipIdx 5).map (fun x => (x.2, .val false [x.1])) ++ [(11, .val false [.v (.int .i64 k)])]),
   [some ⟨sv6 a, 27, false⟩, some ⟨sv6 b, 27, false⟩, some ⟨lit6, 27, false⟩], 0, [], []⟩

end Go.Proofs.Ytaloefkkllebeaa

/- The reference's elements: sums, differences, products, opposites. -/
namespace Go.Proofs.Ytaloefkkllebeaa
open Go Go.Sh

theorem nil_one (c : Cy) (r l : L6) : (bif isNil c then r else l) = (bif isOne c then l else r) := by
  rw [isOne_eq, isNil_eq]
  cases c.on <;> rfl
theorem reducedL_nil (l : L6) : (bif isNil (subTop l p6) then sub6 l p6 else l) = reducedL l := nil_one (subTop l p6) (sub6 l p6) l
def tblR : List (Row A) := []
theorem tblR_ok : TblOK Try.prog tblR := .nil _
theorem made_limbs' (a : Pl) : reducedL (mulRaw sq6 (numL a.num)) = limbs a.x := by
  have e : numL a.num = limbs (a.x * iF) := (limbs_iF a.x).symm
  rw [e, sq6_eq, mul_limbs]
  have : rF * (a.x * iF) = a.x := by rw [Fin.mul_comm, Fin.mul_assoc, iF_rF, Fin.mul_one]
  rw [this]
def tblS : List (Row A) := []
theorem tblS_ok : TblOK Try.prog tblS := .nil _
/-! ### What is the same; 0 -/
def eqL (a b : L6) : Bool := ((a.1.toNat : Int) == b.1.toNat) && (((a.2.1.toNat : Int) == b.2.1.toNat) && (((a.2.2.1.toNat : Int) == b.2.2.1.toNat) && (((a.2.2.2.1.toNat : Int) == b.2.2.2.1.toNat) && (((a.2.2.2.2.1.toNat : Int) == b.2.2.2.2.1.toNat) && (((a.2.2.2.2.2.toNat : Int) == b.2.2.2.2.2.toNat) && true)))))
theorem eqL_eq (a b : L6) : eqL a b = decide (a = b) := by
  obtain ⟨a0, a1, a2, a3, a4, a5⟩ := a
  obtain ⟨b0, b1, b2, b3, b4, b5⟩ := b
  have h : ∀ x y : UInt64, ((x.toNat : Int) == y.toNat) = decide (x = y) := fun x y => by
    by_cases e : x = y
    · subst e; simp
    · have : (x.toNat : Int) ≠ y.toNat := fun h' => e (UInt64.toNat_inj.1 (by omega))
      simp [e, this]
  simp only [eqL, h, Prod.mk.injEq, Bool.and_true, Bool.decide_and]
theorem limbs_inj {x y : Fp} (h : limbs x = limbs y) : x = y := by
  have h1 := congrArg val6 h
  rw [val6_limbs, val6_limbs] at h1
  have e : ∀ z : Fp, z.val = mont z * i384 % pN := by
    intro z
    rw [mont_eq, mul_mod3, Nat.mul_assoc, Nat.mul_mod, i384_r, Nat.mul_one, Nat.mod_mod, Nat.mod_eq_of_lt z.isLt]
  exact Fin.ext (by rw [e x, e y, h1])
theorem eqF (x y : Fp) : eqL (limbs x) (limbs y) = decide (x = y) := by
  rw [eqL_eq]
  by_cases h : x = y
  · subst h; simp
  · have : limbs x ≠ limbs y := fun e => h (limbs_inj e)
    simp [h, this]
theorem limbs_zero : limbs 0 = (0, 0, 0, 0, 0, 0) := by kernel_rfl

def isZeroL (a : L6) : Bool := eqL a (0, 0, 0, 0, 0, 0)
theorem isZeroF (x : Fp) : isZeroL (limbs x) = decide (x = 0) := by
  unfold isZeroL; rw [← limbs_zero, eqF]
/-! ### Sums, differences, opposites -/
def tblT : List (Row A) := []
theorem tblT_ok : TblOK Try.prog tblT := .nil _
def topGe (s : L6) : Bool := decide ((s.2.2.2.2.2.toNat : Int) ≥ 1873798617647539866)
def fAddL (a b : L6) : L6 := bif topGe (add6 a b) then reducedL (add6 a b) else add6 a b
theorem topGe_lt (s : L6) (h : topGe s = false) : val6 s < pN := by
  have h1 : ¬ ((s.2.2.2.2.2.toNat : Int) ≥ 1873798617647539866) := of_decide_eq_false h
  obtain ⟨s0, s1, s2, s3, s4, s5⟩ := s
  have := s0.toNat_lt; have := s1.toNat_lt; have := s2.toNat_lt; have := s3.toNat_lt; have := s4.toNat_lt
  rw [pN_val]
  simp only [val6] at *
  omega
theorem fAdd_eq (s : L6) : (bif topGe s then reducedL s else s) = reducedL s := by
  cases h : topGe s with
  | true => rw [cond_true]
  | false =>
    rw [cond_false]
    have h1 := topGe_lt s h
    apply val6_inj
    rw [reducedL_val (by omega), Nat.mod_eq_of_lt h1]
theorem fAdd_limbs (x y : Fp) : fAddL (limbs x) (limbs y) = limbs (x + y) := by
  unfold fAddL
  rw [fAdd_eq, add_limbs]
theorem subL_one (a b : L6) : (bif isOne (subTop a b) then add6 (sub6 a b) p6 else sub6 a b) = subL a b := (nil_one (subTop a b) (sub6 a b) (add6 (sub6 a b) p6)).symm
end Go.Proofs.Ytaloefkkllebeaa
