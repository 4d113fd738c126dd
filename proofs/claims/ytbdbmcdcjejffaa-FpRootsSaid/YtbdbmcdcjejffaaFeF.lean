/- Fp: sums, differences and products of the program are those of the field. -/
import Derived.Test.YtbdbmcdcjejffaaFeE
set_option linter.unusedVariables false
set_option linter.unusedSimpArgs false
set_option linter.unusedSectionVars false
namespace Go.Proofs.Ytbdbmcdcjejffaa
open Go Go.Sh

theorem chain6 (T1 T2 T3 T4 T5 T6 A0 A1 A2 A3 A4 A5 Q0 Q1 Q2 Q3 Q4 Q5 : Nat) (h1 : 18446744073709551616 * T1 = 0 + A0 + Q0) (h2 : 18446744073709551616 * T2 = T1 + A1 + Q1) (h3 : 18446744073709551616 * T3 = T2 + A2 + Q2)
    (h4 : 18446744073709551616 * T4 = T3 + A3 + Q3) (h5 : 18446744073709551616 * T5 = T4 + A4 + Q4) (h6 : 18446744073709551616 * T6 = T5 + A5 + Q5) :
    39402006196394479212279040100143613805079739270465446667948293404245721771497210611414266254884915640806627990306816 * T6 =
      (A0 + 18446744073709551616 * (A1 + 18446744073709551616 * (A2 + 18446744073709551616 * (A3 + 18446744073709551616 * (A4 + 18446744073709551616 * A5))))) +
      (Q0 + 18446744073709551616 * (Q1 + 18446744073709551616 * (Q2 + 18446744073709551616 * (Q3 + 18446744073709551616 * (Q4 + 18446744073709551616 * Q5))))) := by omega

theorem mulT_lt {a b : L6} (hb : val6 b < pN) : ∀ k, val6 (mulT a b k) < 2 * pN
  | 0 => by
    have : val6 (mulT a b 0) = 0 := rfl
    rw [this, pN_val]; omega
  | k + 1 => by
    obtain ⟨q, hq, h⟩ := rnd_val b (mulT a b k) (lim k a) hb (mulT_lt hb k)
    have hx := (lim k a).toNat_lt
    have b1 : (lim k a).toNat * val6 b ≤ 18446744073709551615 * pN := Nat.mul_le_mul (by omega) (by omega)
    have b2 : q * pN ≤ 18446744073709551615 * pN := Nat.mul_le_mul (by omega) (Nat.le_refl _)
    have ht := mulT_lt (a := a) hb k
    show val6 (rnd b (mulT a b k) (lim k a)) < 2 * pN
    omega

theorem mulRaw_val (a b : L6) (hb : val6 b < pN) : ∃ Q, 39402006196394479212279040100143613805079739270465446667948293404245721771497210611414266254884915640806627990306816 * val6 (mulRaw a b) = val6 a * val6 b + Q * pN := by
  obtain ⟨q0, _, h0⟩ := rnd_val b (mulT a b 0) (lim 0 a) hb (mulT_lt hb 0)
  obtain ⟨q1, _, h1⟩ := rnd_val b (mulT a b 1) (lim 1 a) hb (mulT_lt hb 1)
  obtain ⟨q2, _, h2⟩ := rnd_val b (mulT a b 2) (lim 2 a) hb (mulT_lt hb 2)
  obtain ⟨q3, _, h3⟩ := rnd_val b (mulT a b 3) (lim 3 a) hb (mulT_lt hb 3)
  obtain ⟨q4, _, h4⟩ := rnd_val b (mulT a b 4) (lim 4 a) hb (mulT_lt hb 4)
  obtain ⟨q5, _, h5⟩ := rnd_val b (mulT a b 5) (lim 5 a) hb (mulT_lt hb 5)
  have z : val6 (mulT a b 0) = 0 := rfl
  rw [z] at h0
  have key := chain6 (val6 (mulT a b 1)) (val6 (mulT a b 2)) (val6 (mulT a b 3)) (val6 (mulT a b 4)) (val6 (mulT a b 5)) (val6 (mulT a b 6)) _ _ _ _ _ _ _ _ _ _ _ _ h0 h1 h2 h3 h4 h5
  refine ⟨q0 + 18446744073709551616 * (q1 + 18446744073709551616 * (q2 + 18446744073709551616 * (q3 + 18446744073709551616 * (q4 + 18446744073709551616 * q5)))), ?_⟩
  refine key.trans ?_
  have e1 : (q0 + 18446744073709551616 * (q1 + 18446744073709551616 * (q2 + 18446744073709551616 * (q3 + 18446744073709551616 * (q4 + 18446744073709551616 * q5))))) * pN =
      q0 * pN + 18446744073709551616 * (q1 * pN + 18446744073709551616 * (q2 * pN + 18446744073709551616 * (q3 * pN + 18446744073709551616 * (q4 * pN + 18446744073709551616 * (q5 * pN))))) := by
    simp only [Nat.add_mul, Nat.mul_assoc]
  have e2 : val6 a * val6 b = (lim 0 a).toNat * val6 b + 18446744073709551616 * ((lim 1 a).toNat * val6 b + 18446744073709551616 * ((lim 2 a).toNat * val6 b + 18446744073709551616 * ((lim 3 a).toNat * val6 b + 18446744073709551616 * ((lim 4 a).toNat * val6 b + 18446744073709551616 * ((lim 5 a).toNat * val6 b))))) := by
    obtain ⟨a0, a1, a2, a3, a4, a5⟩ := a
    show (a0.toNat + _) * _ = _
    simp only [Nat.add_mul, Nat.mul_assoc, lim]
  rw [e1, e2]

/-- 2^384 and its inverse, modulo p. -/
def r384 : Nat := 39402006196394479212279040100143613805079739270465446667948293404245721771497210611414266254884915640806627990306816
def i384 : Nat := 3231460744492646417066832100176244795738767926513225105051837195607029917124509527734802654356338138714468589979680
theorem i384_r : r384 * i384 % pN = 1 := by kernel_rfl
theorem mont_eq (x : Fp) : mont x = x.val * r384 % pN := by
  unfold mont r384
  rw [show (2 : Nat) ^ 384 = 39402006196394479212279040100143613805079739270465446667948293404245721771497210611414266254884915640806627990306816 from by kernel_rfl]

theorem mul_mod3 (a b : Nat) (n : Nat) : a % n * b % n = a * b % n := by rw [Nat.mul_mod, Nat.mod_mod, ← Nat.mul_mod]

/-- The number that 2^384 times is x, modulo p. -/
theorem by_inv {T N : Nat} (h : r384 * T % pN = N % pN) : T % pN = N * i384 % pN := by
  have e : r384 * T * i384 % pN = T % pN := by
    have : r384 * T * i384 = T * (r384 * i384) := by simp only [Nat.mul_comm, Nat.mul_left_comm, Nat.mul_assoc]
    rw [this, Nat.mul_mod, i384_r, Nat.mul_one, Nat.mod_mod]
  rw [← e, Nat.mul_mod, h, ← Nat.mul_mod]

theorem add_limbs (x y : Fp) : reducedL (add6 (limbs x) (limbs y)) = limbs (x + y) := by
  apply val6_inj
  rw [addL_val (by rw [val6_limbs]; exact mont_lt x) (by rw [val6_limbs]; exact mont_lt y), val6_limbs, val6_limbs, val6_limbs, mont_eq, mont_eq, mont_eq]
  have : (x + y).val = (x.val + y.val) % pN := Fin.val_add x y
  rw [this, ← Nat.add_mod, mul_mod3, Nat.add_mul]

theorem mont_add (x y : Fp) : mont (x + y) = (mont x + mont y) % pN := by
  have h := congrArg val6 (add_limbs x y)
  rw [addL_val (by rw [val6_limbs]; exact mont_lt x) (by rw [val6_limbs]; exact mont_lt y), val6_limbs, val6_limbs, val6_limbs] at h
  exact h.symm

theorem sub_limbs (x y : Fp) : subL (limbs x) (limbs y) = limbs (x - y) := by
  apply val6_inj
  rw [subL_val (by rw [val6_limbs]; exact mont_lt x) (by rw [val6_limbs]; exact mont_lt y), val6_limbs, val6_limbs, val6_limbs]
  have h := mont_add (x - y) y
  have e : x - y + y = x := by grind
  rw [e] at h
  clear e
  have h1 := mont_lt x
  have h2 := mont_lt y
  have h3 := mont_lt (x - y)
  generalize mont x = X at *
  generalize mont y = Y at *
  generalize mont (x - y) = Z at *
  rw [pN_val] at *
  omega

theorem mul_limbs (x y : Fp) : reducedL (mulRaw (limbs x) (limbs y)) = limbs (x * y) := by
  apply val6_inj
  have hy : val6 (limbs y) < pN := by rw [val6_limbs]; exact mont_lt y
  rw [reducedL_val (show val6 (mulRaw (limbs x) (limbs y)) < 2 * pN from mulT_lt hy 6), val6_limbs]
  obtain ⟨Q, h⟩ := mulRaw_val (limbs x) (limbs y) hy
  rw [val6_limbs, val6_limbs] at h
  have h' : r384 * val6 (mulRaw (limbs x) (limbs y)) % pN = (mont x * mont y) % pN := by
    have e : r384 * val6 (mulRaw (limbs x) (limbs y)) = mont x * mont y + Q * pN := h
    rw [e, Nat.add_mul_mod_self_right]
  have h2 := by_inv h'
  rw [mont_eq (x * y)]
  refine h2.trans ?_
  have hv : (x * y).val = (x.val * y.val) % pN := Fin.val_mul x y
  rw [hv, mul_mod3, mont_eq, mont_eq]
  rw [← mul_mod3 (x.val * r384 % pN * (y.val * r384 % pN)) i384, ← Nat.mul_mod, mul_mod3]
  have : x.val * r384 * (y.val * r384) * i384 = (x.val * y.val * r384) * (r384 * i384) := by simp only [Nat.mul_comm, Nat.mul_left_comm, Nat.mul_assoc]
  rw [this, Nat.mul_mod, i384_r, Nat.mul_one, Nat.mod_mod]

theorem add_ok : Computes A Try.prog 41 (fun x : Fp × Fp × Unit => x.1 + x.2.1) :=
  addL_ok.as (fun x => (limbs x.1, limbs x.2.1, ())) (fun _ _ _ _ => ⟨((), (), ()), ⟨trivial, trivial, trivial⟩, rfl⟩) (fun x => by rw [add_limbs]; rfl)
theorem sub_ok : Computes A Try.prog 43 (fun x : Fp × Fp × Unit => x.1 - x.2.1) :=
  subL_ok.as (fun x => (limbs x.1, limbs x.2.1, ())) (fun _ _ _ _ => ⟨((), (), ()), ⟨trivial, trivial, trivial⟩, rfl⟩) (fun x => by rw [sub_limbs]; rfl)
theorem mul_ok : Computes A Try.prog 45 (fun x : Fp × Fp × Unit => x.1 * x.2.1) :=
  mulL_ok.as (fun x => (limbs x.1, limbs x.2.1, ())) (fun _ _ _ _ => ⟨((), (), ()), ⟨trivial, trivial, trivial⟩, rfl⟩) (fun x => by rw [mul_limbs]; rfl)

end Go.Proofs.Ytbdbmcdcjejffaa
