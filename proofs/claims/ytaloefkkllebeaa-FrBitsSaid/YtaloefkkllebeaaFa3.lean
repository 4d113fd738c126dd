/- The scalar field: what its functions on words are, as numbers. -/
import Derived.Test.YtaloefkkllebeaaFa2
set_option linter.unusedVariables false
set_option linter.unusedSimpArgs false
set_option linter.unusedSectionVars false
namespace Go.Proofs.Ytaloefkkllebeaa
open Go Go.Sh
theorem rN_val : rN = 52435875175126190479447740508185965837690552500527637822603658699938581184513 := rfl
theorem val6_r6 : val6 r6 = rN := by kernel_rfl
theorem val6_pad4 (a : L4) : val6 (pad4 a) = val4 a := by
  have z : (UInt64.ofNat 0).toNat = 0 := rfl
  simp only [val6, pad4, val4, z]
  omega
theorem val4_lt (a : L4) : val4 a < 115792089237316195423570985008687907853269984665640564039457584007913129639936 := by
  obtain ⟨a, b, c, d⟩ := a
  have := a.toNat_lt; have := b.toNat_lt; have := c.toNat_lt; have := d.toNat_lt
  simp only [val4]
  omega
theorem val4_lo4 (t : L6) : val4 (lo4 t) = val6 t % 115792089237316195423570985008687907853269984665640564039457584007913129639936 := by
  obtain ⟨a, b, c, d, e, f⟩ := t
  have := a.toNat_lt; have := b.toNat_lt; have := c.toNat_lt; have := d.toNat_lt; have := e.toNat_lt; have := f.toNat_lt
  simp only [val4, lo4, val6]
  omega
theorem red4_val {l : L6} (h : val6 l < 2 * rN) : val4 (red4 l) = val6 l % rN := by
  have h1 := sub6_val l r6
  have h2 := val6_lt' (sub6 l r6)
  rw [val6_r6] at h1
  have h3 := Cy.n_on (subTop l r6)
  unfold red4
  rw [isNil_eq]
  have hp := rN_val
  cases hc : (subTop l r6).on with
  | true =>
    rw [hc] at h3
    simp only [if_true] at h3
    rw [h3] at h1
    simp only [Bool.not_true, cond_false]
    rw [val4_lo4, Nat.mod_eq_of_lt (by omega), Nat.mod_eq_of_lt (by omega)]
  | false =>
    rw [hc] at h3
    simp only [Bool.false_eq_true, if_false] at h3
    rw [h3] at h1
    simp only [Bool.not_false, cond_true]
    rw [val4_lo4]
    have : val6 l = val6 (sub6 l r6) + rN := by omega
    rw [this, Nat.add_mod_right, Nat.mod_eq_of_lt (by omega), Nat.mod_eq_of_lt (by omega)]
theorem cios4 (X0 X1 X2 X3 t0 t1 t2 t3 q h0 h1 h2 h3 l0 l1 l2 l3 d0 d1 d2 d3 r1 r2 r3 : Nat)
  (e0 : 18446744073709551616 * h0 + l0 = X0 + t0) (e1 : 18446744073709551616 * h1 + l1 = X1 + t1 + h0) (e2 : 18446744073709551616 * h2 + l2 = X2 + t2 + h1)
  (e3 : 18446744073709551616 * h3 + l3 = X3 + t3 + h2)
  (f0 : 18446744073709551616 * d0 = q * 18446744069414584321 + l0) (f1 : 18446744073709551616 * d1 + r1 = q * 6034159408538082302 + l1 + d0) (f2 : 18446744073709551616 * d2 + r2 = q * 3691218898639771653 + l2 + d1)
  (f3 : 18446744073709551616 * d3 + r3 = q * 8353516859464449352 + l3 + d2) :
  t0 + 18446744073709551616 * (t1 + 18446744073709551616 * (t2 + 18446744073709551616 * t3)) + (X0 + 18446744073709551616 * (X1 + 18446744073709551616 * (X2 + 18446744073709551616 * X3))) +
   q * 52435875175126190479447740508185965837690552500527637822603658699938581184513 = 18446744073709551616 * (r1 + 18446744073709551616 * (r2 + 18446744073709551616 * (r3 + 18446744073709551616 * (h3 + d3)))) := by
  omega
theorem small_of4 (T XB QP r1 r2 r3 hd : Nat) (h1 : T < 2 * 52435875175126190479447740508185965837690552500527637822603658699938581184513) (h2 : XB ≤ 18446744073709551615 * 52435875175126190479447740508185965837690552500527637822603658699938581184513) (h3 : QP ≤ 18446744073709551615 * 52435875175126190479447740508185965837690552500527637822603658699938581184513)
    (h : T + XB + QP = 18446744073709551616 * (r1 + 18446744073709551616 * (r2 + 18446744073709551616 * (r3 + 18446744073709551616 * hd)))) : hd < 18446744073709551616 := by
  omega
theorem rnd4_aux (x b0 b1 b2 b3 t0 t1 t2 t3 h0 l0 h1 l1 h2 l2 h3 l3 q d0 d1 r1 d2 r2 d3 r3 : UInt64) (hb : val4 (b0, b1, b2, b3) < rN) (ht : val4 (t0, t1, t2, t3) < 2 * rN)
    (H0 : h0 = maddHi x b0 t0 (UInt64.ofNat 0)) (L0 : l0 = maddLo x b0 t0 (UInt64.ofNat 0))
    (H1 : h1 = maddHi x b1 t1 h0) (L1 : l1 = maddLo x b1 t1 h0)
    (H2 : h2 = maddHi x b2 t2 h1) (L2 : l2 = maddLo x b2 t2 h1)
    (H3 : h3 = maddHi x b3 t3 h2) (L3 : l3 = maddLo x b3 t3 h2)
    (Q : q = u64 ((l0.toNat : Int) * 18446744069414584319))
    (D0 : d0 = maddHi q 18446744069414584321 l0 (UInt64.ofNat 0))
    (D1 : d1 = maddHi q 6034159408538082302 l1 d0) (R1 : r1 = maddLo q 6034159408538082302 l1 d0)
    (D2 : d2 = maddHi q 3691218898639771653 l2 d1) (R2 : r2 = maddLo q 3691218898639771653 l2 d1)
    (D3 : d3 = maddHi q 8353516859464449352 l3 d2) (R3 : r3 = maddLo q 8353516859464449352 l3 d2) :
    18446744073709551616 * val4 (r1, r2, r3, u64 ((h3.toNat : Int) + d3.toNat)) = val4 (t0, t1, t2, t3) + x.toNat * val4 (b0, b1, b2, b3) + q.toNat * rN := by
  have z : (UInt64.ofNat 0).toNat = 0 := rfl
  have hq : q.toNat = l0.toNat * 18446744069414584319 % 18446744073709551616 := by
    rw [Q]
    have : ((l0.toNat : Int) * 18446744069414584319) = ((l0.toNat * 18446744069414584319 : Nat) : Int) := by simp
    rw [this, u64_nat]
  have hr0 : (maddLo q 18446744069414584321 l0 (UInt64.ofNat 0)).toNat = 0 := by
    rw [maddLo_nat]
    unfold maddN
    have : (18446744069414584321 : UInt64).toNat = 18446744069414584321 := rfl
    rw [this, hq, z]
    omega
  have e0 := madd_nat x b0 t0 (UInt64.ofNat 0)
  rw [← H0, ← L0] at e0
  have f0 := madd_nat q 18446744069414584321 l0 (UInt64.ofNat 0)
  rw [← D0, show (18446744069414584321 : UInt64).toNat = 18446744069414584321 from rfl] at f0
  have e1 := madd_nat x b1 t1 h0
  rw [← H1, ← L1] at e1
  have f1 := madd_nat q 6034159408538082302 l1 d0
  rw [← D1, ← R1, show (6034159408538082302 : UInt64).toNat = 6034159408538082302 from rfl] at f1
  have e2 := madd_nat x b2 t2 h1
  rw [← H2, ← L2] at e2
  have f2 := madd_nat q 3691218898639771653 l2 d1
  rw [← D2, ← R2, show (3691218898639771653 : UInt64).toNat = 3691218898639771653 from rfl] at f2
  have e3 := madd_nat x b3 t3 h2
  rw [← H3, ← L3] at e3
  have f3 := madd_nat q 8353516859464449352 l3 d2
  rw [← D3, ← R3, show (8353516859464449352 : UInt64).toNat = 8353516859464449352 from rfl] at f3
  rw [z, Nat.add_zero] at e0
  rw [hr0, z, Nat.add_zero, Nat.add_zero] at f0
  have key := cios4 _ _ _ _ _ _ _ _ _ _ _ _ _ _ _ _ _ _ _ _ _ _ _ _ e0 e1 e2 e3 f0 f1 f2 f3
  have xb : x.toNat * val4 (b0, b1, b2, b3) = x.toNat * b0.toNat + 18446744073709551616 * (x.toNat * b1.toNat + 18446744073709551616 * (x.toNat * b2.toNat + 18446744073709551616 * (x.toNat * b3.toNat))) := by
    simp only [val4, Nat.mul_add, Nat.mul_left_comm x.toNat 18446744073709551616]
  have top : val4 (t0, t1, t2, t3) + x.toNat * val4 (b0, b1, b2, b3) + q.toNat * rN = 18446744073709551616 * (r1.toNat + 18446744073709551616 * (r2.toNat + 18446744073709551616 * (r3.toNat + 18446744073709551616 * (h3.toNat + d3.toNat)))) := by
    rw [xb, rN_val]
    exact key
  have hx := x.toNat_lt
  have hql := q.toNat_lt
  have bx : x.toNat * val4 (b0, b1, b2, b3) ≤ 18446744073709551615 * rN := Nat.mul_le_mul (by omega) (by omega)
  have bq : q.toNat * rN ≤ 18446744073709551615 * rN := Nat.mul_le_mul (by omega) (Nat.le_refl _)
  have small : h3.toNat + d3.toNat < 18446744073709551616 := by
    rw [rN_val] at ht bx bq top
    exact small_of4 _ _ _ _ _ _ _ ht bx bq top
  rw [top]
  have hu : (u64 ((h3.toNat : Int) + d3.toNat)).toNat = h3.toNat + d3.toNat := by
    have : ((h3.toNat : Int) + d3.toNat) = ((h3.toNat + d3.toNat : Nat) : Int) := by simp
    rw [this, u64_nat, Nat.mod_eq_of_lt small]
  simp only [val4, hu]
theorem rnd4_val (b t : L4) (x : UInt64) (hb : val4 b < rN) (ht : val4 t < 2 * rN) :
    ∃ q, q < 18446744073709551616 ∧ 18446744073709551616 * val4 (rnd4 b t x) = val4 t + x.toNat * val4 b + q * rN := by
  obtain ⟨b0, b1, b2, b3⟩ := b
  obtain ⟨t0, t1, t2, t3⟩ := t
  exact ⟨_, UInt64.toNat_lt _, rnd4_aux x b0 b1 b2 b3 t0 t1 t2 t3 _ _ _ _ _ _ _ _ _ _ _ _ _ _ _ _ hb ht rfl rfl rfl rfl rfl rfl rfl rfl rfl rfl rfl rfl rfl rfl rfl rfl⟩
theorem chain4 (T1 T2 T3 T4 A0 A1 A2 A3 Q0 Q1 Q2 Q3 : Nat) (h1 : 18446744073709551616 * T1 = 0 + A0 + Q0) (h2 : 18446744073709551616 * T2 = T1 + A1 + Q1) (h3 : 18446744073709551616 * T3 = T2 + A2 + Q2)
    (h4 : 18446744073709551616 * T4 = T3 + A3 + Q3) :
    115792089237316195423570985008687907853269984665640564039457584007913129639936 * T4 = (A0 + 18446744073709551616 * (A1 + 18446744073709551616 * (A2 + 18446744073709551616 * A3))) + (Q0 + 18446744073709551616 * (Q1 + 18446744073709551616 * (Q2 + 18446744073709551616 * Q3))) := by omega
theorem mulT4_lt {a b : L4} (hb : val4 b < rN) : ∀ k, val4 (mulT4 a b k) < 2 * rN
  | 0 => by
    have : val4 (mulT4 a b 0) = 0 := rfl
    rw [this, rN_val]; omega
  | k + 1 => by
    obtain ⟨q, hq, h⟩ := rnd4_val b (mulT4 a b k) (limq k a) hb (mulT4_lt hb k)
    have hx := (limq k a).toNat_lt
    have b1 : (limq k a).toNat * val4 b ≤ 18446744073709551615 * rN := Nat.mul_le_mul (by omega) (by omega)
    have b2 : q * rN ≤ 18446744073709551615 * rN := Nat.mul_le_mul (by omega) (Nat.le_refl _)
    have ht := mulT4_lt (a := a) hb k
    show val4 (rnd4 b (mulT4 a b k) (limq k a)) < 2 * rN
    omega
theorem mulT4_val (a b : L4) (hb : val4 b < rN) : ∃ Q, 115792089237316195423570985008687907853269984665640564039457584007913129639936 * val4 (mulT4 a b 4) = val4 a * val4 b + Q * rN := by
  obtain ⟨q0, _, h0⟩ := rnd4_val b (mulT4 a b 0) (limq 0 a) hb (mulT4_lt hb 0)
  obtain ⟨q1, _, h1⟩ := rnd4_val b (mulT4 a b 1) (limq 1 a) hb (mulT4_lt hb 1)
  obtain ⟨q2, _, h2⟩ := rnd4_val b (mulT4 a b 2) (limq 2 a) hb (mulT4_lt hb 2)
  obtain ⟨q3, _, h3⟩ := rnd4_val b (mulT4 a b 3) (limq 3 a) hb (mulT4_lt hb 3)
  have z : val4 (mulT4 a b 0) = 0 := rfl
  rw [z] at h0
  have key := chain4 (val4 (mulT4 a b 1)) (val4 (mulT4 a b 2)) (val4 (mulT4 a b 3)) (val4 (mulT4 a b 4)) _ _ _ _ _ _ _ _ h0 h1 h2 h3
  refine ⟨q0 + 18446744073709551616 * (q1 + 18446744073709551616 * (q2 + 18446744073709551616 * q3)), ?_⟩
  refine key.trans ?_
  have e1 : (q0 + 18446744073709551616 * (q1 + 18446744073709551616 * (q2 + 18446744073709551616 * q3))) * rN =
      q0 * rN + 18446744073709551616 * (q1 * rN + 18446744073709551616 * (q2 * rN + 18446744073709551616 * (q3 * rN))) := by
    simp only [Nat.add_mul, Nat.mul_assoc]
  have e2 : val4 a * val4 b = (limq 0 a).toNat * val4 b + 18446744073709551616 * ((limq 1 a).toNat * val4 b + 18446744073709551616 * ((limq 2 a).toNat * val4 b + 18446744073709551616 * ((limq 3 a).toNat * val4 b))) := by
    obtain ⟨a0, a1, a2, a3⟩ := a
    show (a0.toNat + _) * _ = _
    simp only [Nat.add_mul, Nat.mul_assoc, limq]
  rw [e1, e2]
def r256 : Nat := 115792089237316195423570985008687907853269984665640564039457584007913129639936
def i256 : Nat := 12549076656233958353659347336803947287922716146853412054870763148006372261952
theorem i256_r : r256 * i256 % rN = 1 := by kernel_rfl
theorem mont4_eq (x : Fq) : mont4 x = x.val * r256 % rN := by
  unfold mont4 r256
  rw [show (2 : Nat) ^ 256 = 115792089237316195423570985008687907853269984665640564039457584007913129639936 from by kernel_rfl]
theorem by_inv4 {T N : Nat} (h : r256 * T % rN = N % rN) : T % rN = N * i256 % rN := by
  have e : r256 * T * i256 % rN = T % rN := by
    have : r256 * T * i256 = T * (r256 * i256) := by simp only [Nat.mul_comm, Nat.mul_left_comm, Nat.mul_assoc]
    rw [this, Nat.mul_mod, i256_r, Nat.mul_one, Nat.mod_mod]
  rw [← e, Nat.mul_mod, h, ← Nat.mul_mod]
/-- The product, as numbers. -/
theorem mul4_val (a b : L4) (hb : val4 b < rN) : val4 (mul4 a b) = val4 a * val4 b * i256 % rN := by
  unfold mul4
  have hlt := mulT4_lt (a := a) hb 4
  rw [red4_val (by rw [val6_pad4]; exact hlt), val6_pad4]
  obtain ⟨Q, h⟩ := mulT4_val a b hb
  refine by_inv4 ?_
  have e : r256 * val4 (mulT4 a b 4) = val4 a * val4 b + Q * rN := h
  rw [e, Nat.add_mul_mod_self_right]
theorem add4_val {a b : L4} (ha : val4 a < rN) (hb : val4 b < rN) : val4 (red4 (add6 (pad4 a) (pad4 b))) = (val4 a + val4 b) % rN := by
  have h1 := add6_val (pad4 a) (pad4 b)
  rw [val6_pad4, val6_pad4] at h1
  have h3 := (addTop (pad4 a) (pad4 b)).le
  have hr := rN_val
  have h5 : (addTop (pad4 a) (pad4 b)).n = 0 := by omega
  rw [h5] at h1
  have h6 : val6 (add6 (pad4 a) (pad4 b)) = val4 a + val4 b := by omega
  rw [red4_val (by omega), h6]
theorem neg4_val {a : L4} (ha : val4 a < rN) : val4 (red4 (sub6 r6 (pad4 a))) = (rN - val4 a) % rN := by
  have h1 := sub6_val r6 (pad4 a)
  rw [val6_r6, val6_pad4] at h1
  have h2 := val6_lt' (sub6 r6 (pad4 a))
  have h3 := (subTop r6 (pad4 a)).le
  have hr := rN_val
  have h5 : (subTop r6 (pad4 a)).n = 0 := by omega
  rw [h5] at h1
  have h6 : val6 (sub6 r6 (pad4 a)) = rN - val4 a := by omega
  rw [red4_val (by omega), h6]
theorem add_limbs4 (x y : Fq) : red4 (add6 (pad4 (limbs4 x)) (pad4 (limbs4 y))) = limbs4 (x + y) := by
  apply val4_inj
  rw [add4_val (by rw [val4_limbs]; exact mont4_lt x) (by rw [val4_limbs]; exact mont4_lt y), val4_limbs, val4_limbs, val4_limbs, mont4_eq, mont4_eq, mont4_eq]
  have : (x + y).val = (x.val + y.val) % rN := Fin.val_add x y
  rw [this, ← Nat.add_mod, mul_mod3, Nat.add_mul]
theorem mont4_add (x y : Fq) : mont4 (x + y) = (mont4 x + mont4 y) % rN := by
  rw [mont4_eq, mont4_eq, mont4_eq, ← Nat.add_mod, Fin.val_add, mul_mod3, Nat.add_mul]
theorem neg_limbs4 (x : Fq) : red4 (sub6 r6 (pad4 (limbs4 x))) = limbs4 (-x) := by
  apply val4_inj
  rw [neg4_val (by rw [val4_limbs]; exact mont4_lt x), val4_limbs, val4_limbs]
  have hx := mont4_lt x
  have h4 := mont4_lt (-x)
  have h := mont4_add (-x) x
  have e : -x + x = 0 := by grind
  rw [e, show mont4 0 = 0 from by kernel_rfl] at h
  clear e
  generalize mont4 x = X at *
  generalize mont4 (-x) = Z at *
  rw [rN_val] at hx h4 h ⊢
  omega
theorem mul_limbs4 (x y : Fq) : mul4 (limbs4 x) (limbs4 y) = limbs4 (x * y) := by
  apply val4_inj
  rw [mul4_val _ _ (by rw [val4_limbs]; exact mont4_lt y), val4_limbs, val4_limbs, val4_limbs, mont4_eq (x * y)]
  have hv : (x * y).val = (x.val * y.val) % rN := Fin.val_mul x y
  rw [hv, mul_mod3, mont4_eq, mont4_eq]
  rw [← mul_mod3 (x.val * r256 % rN * (y.val * r256 % rN)) i256, ← Nat.mul_mod, mul_mod3]
  have : x.val * r256 * (y.val * r256) * i256 = (x.val * y.val * r256) * (r256 * i256) := by simp only [Nat.mul_comm, Nat.mul_left_comm, Nat.mul_assoc]
  rw [this, Nat.mul_mod, i256_r, Nat.mul_one, Nat.mod_mod]
/-- The element of a number. -/
def fqN (n : Nat) : Fq := ⟨n % rN, Nat.mod_lt _ (by decide)⟩
theorem val4_sq4 : val4 sq4 = r256 * r256 % rN := by kernel_rfl
theorem made_limbs4 (a : Num) : mul4 (lo4 (numL a)) sq4 = limbs4 (fqN (a.val % 115792089237316195423570985008687907853269984665640564039457584007913129639936)) := by
  apply val4_inj
  rw [mul4_val _ _ (by rw [val4_sq4]; exact Nat.mod_lt _ (by decide)), val4_lo4, val6_numL, val4_limbs, mont4_eq, val4_sq4]
  show _ = (a.val % 115792089237316195423570985008687907853269984665640564039457584007913129639936) % rN * r256 % rN
  rw [mul_mod3]
  rw [← mul_mod3 (a.val % 115792089237316195423570985008687907853269984665640564039457584007913129639936 * (r256 * r256 % rN)) i256]
  have e : a.val % 115792089237316195423570985008687907853269984665640564039457584007913129639936 * (r256 * r256 % rN) % rN = a.val % 115792089237316195423570985008687907853269984665640564039457584007913129639936 * (r256 * r256) % rN := by rw [Nat.mul_mod, Nat.mod_mod, ← Nat.mul_mod]
  rw [e, mul_mod3]
  have : a.val % 115792089237316195423570985008687907853269984665640564039457584007913129639936 * (r256 * r256) * i256 = (a.val % 115792089237316195423570985008687907853269984665640564039457584007913129639936 * r256) * (r256 * i256) := by simp only [Nat.mul_comm, Nat.mul_left_comm, Nat.mul_assoc]
  rw [this, Nat.mul_mod, i256_r, Nat.mul_one, Nat.mod_mod]
def fqNum (x : Fq) : Num := ⟨x.val, Nat.lt_trans x.isLt (by rw [rN_val]; decide)⟩
theorem number_limbs4 (x : Fq) : pad4 (mul4 (limbs4 x) one4) = numL (fqNum x) := by
  apply val6_inj
  have e1 : val4 one4 = 1 := rfl
  rw [val6_pad4, val6_numL, mul4_val _ _ (by rw [e1, rN_val]; decide), e1, Nat.mul_one, val4_limbs, mont4_eq, mul_mod3]
  show _ = x.val
  rw [Nat.mul_assoc, Nat.mul_mod, i256_r, Nat.mul_one, Nat.mod_mod, Nat.mod_eq_of_lt x.isLt]
theorem frAdd_ok : Computes A Try.prog 46 (fun x : Fq × Fq × Unit => x.1 + x.2.1) :=
  frAddL_ok.as (fun x => (limbs4 x.1, limbs4 x.2.1, ())) (fun _ _ _ _ => ⟨((), (), ()), ⟨trivial, trivial, trivial⟩, rfl⟩) (fun x => by rw [add_limbs4]; rfl)
theorem frNeg_ok : Computes A Try.prog 51 (fun x : Fq × Unit => -x.1) :=
  frNegL_ok.as (fun x => (limbs4 x.1, ())) (fun _ _ _ _ => ⟨((), ()), ⟨trivial, trivial⟩, rfl⟩) (fun x => by rw [neg_limbs4]; rfl)
theorem frMul_ok : Computes A Try.prog 48 (fun x : Fq × Fq × Unit => x.1 * x.2.1) :=
  frMulL_ok.as (fun x => (limbs4 x.1, limbs4 x.2.1, ())) (fun _ _ _ _ => ⟨((), (), ()), ⟨trivial, trivial, trivial⟩, rfl⟩) (fun x => by rw [mul_limbs4]; rfl)
theorem made_ok : Computes A Try.prog 61 (fun x : Num × Unit => fqN (x.1.val % 115792089237316195423570985008687907853269984665640564039457584007913129639936)) :=
  madeL_ok.as (fun x => (numL x.1, ())) (fun _ _ _ _ => ⟨((), ()), ⟨trivial, trivial⟩, rfl⟩) (fun x => by rw [made_limbs4]; rfl)
theorem frNumber_ok : Computes A Try.prog 62 (fun x : Fq × Unit => fqNum x.1) :=
  numberL_ok.as (fun x => (limbs4 x.1, ())) (fun _ _ _ _ => ⟨((), ()), ⟨trivial, trivial⟩, rfl⟩) (fun x => by rw [number_limbs4]; rfl)
def rNum : Num := ⟨rN, by rw [rN_val]; decide⟩
theorem numL_rNum : numL rNum = r6 := by kernel_rfl
theorem order_ok : Computes A Try.prog 60 (fun _ : Unit => rNum) :=
  orderL_ok.as (fun x => x) (fun _ _ _ _ => ⟨(), trivial, rfl⟩) (fun x => by show Res.val A r6 = Res.val A rNum; rw [← numL_rNum]; rfl)
end Go.Proofs.Ytaloefkkllebeaa
