/- Fp: what sums, differences and products on words are, as numbers; plain mathematics. -/
import Derived.Test.YtbdbmcdcjejffaaFeD
set_option linter.unusedVariables false
set_option linter.unusedSimpArgs false
set_option linter.unusedSectionVars false
namespace Go.Proofs.Ytbdbmcdcjejffaa
open Go Go.Sh

theorem val6_p6 : val6 p6 = pN := by kernel_rfl

theorem val6_lt' (l : L6) : val6 l < 39402006196394479212279040100143613805079739270465446667948293404245721771497210611414266254884915640806627990306816 := by
  have := Sh.val6_lt l
  rwa [show (2 : Nat) ^ 384 = 39402006196394479212279040100143613805079739270465446667948293404245721771497210611414266254884915640806627990306816 from by kernel_rfl] at this

theorem add6_val (a b : L6) : val6 (add6 a b) + 39402006196394479212279040100143613805079739270465446667948293404245721771497210611414266254884915640806627990306816 * (addTop a b).n = val6 a + val6 b := by
  obtain ⟨a0, a1, a2, a3, a4, a5⟩ := a
  obtain ⟨b0, b1, b2, b3, b4, b5⟩ := b
  have h0 := adc_nat a0 b0 ⟨false⟩
  have h1 := adc_nat a1 b1 (adcC a0 b0 ⟨false⟩)
  have h2 := adc_nat a2 b2 (adcC a1 b1 (adcC a0 b0 ⟨false⟩))
  have h3 := adc_nat a3 b3 (adcC a2 b2 (adcC a1 b1 (adcC a0 b0 ⟨false⟩)))
  have h4 := adc_nat a4 b4 (adcC a3 b3 (adcC a2 b2 (adcC a1 b1 (adcC a0 b0 ⟨false⟩))))
  have h5 := adc_nat a5 b5 (adcC a4 b4 (adcC a3 b3 (adcC a2 b2 (adcC a1 b1 (adcC a0 b0 ⟨false⟩)))))
  have f : (⟨false⟩ : Cy).n = 0 := rfl
  rw [f] at h0
  simp only [add6, addTop, add6C, val6]
  omega

theorem sub6_val (a b : L6) : val6 (sub6 a b) + val6 b = val6 a + 39402006196394479212279040100143613805079739270465446667948293404245721771497210611414266254884915640806627990306816 * (subTop a b).n := by
  obtain ⟨a0, a1, a2, a3, a4, a5⟩ := a
  obtain ⟨b0, b1, b2, b3, b4, b5⟩ := b
  have h0 := sbb_nat a0 b0 ⟨false⟩
  have h1 := sbb_nat a1 b1 (sbbC a0 b0 ⟨false⟩)
  have h2 := sbb_nat a2 b2 (sbbC a1 b1 (sbbC a0 b0 ⟨false⟩))
  have h3 := sbb_nat a3 b3 (sbbC a2 b2 (sbbC a1 b1 (sbbC a0 b0 ⟨false⟩)))
  have h4 := sbb_nat a4 b4 (sbbC a3 b3 (sbbC a2 b2 (sbbC a1 b1 (sbbC a0 b0 ⟨false⟩))))
  have h5 := sbb_nat a5 b5 (sbbC a4 b4 (sbbC a3 b3 (sbbC a2 b2 (sbbC a1 b1 (sbbC a0 b0 ⟨false⟩)))))
  have f : (⟨false⟩ : Cy).n = 0 := rfl
  rw [f] at h0
  simp only [sub6, subTop, sub6C, val6]
  omega

theorem isOne_eq (c : Cy) : isOne c = c.on := by obtain ⟨b⟩ := c; cases b <;> rfl
theorem isNil_eq (c : Cy) : isNil c = !c.on := by obtain ⟨b⟩ := c; cases b <;> rfl
theorem Cy.n_on (c : Cy) : c.n = if c.on then 1 else 0 := by obtain ⟨b⟩ := c; cases b <;> rfl

theorem pN_val : pN = 4002409555221667393417789825735904156556882819939007885332058136124031650490837864442687629129015664037894272559787 := by kernel_rfl

theorem reducedL_val {l : L6} (h : val6 l < 2 * pN) : val6 (reducedL l) = val6 l % pN := by
  have h1 := sub6_val l p6
  have h2 := val6_lt' (sub6 l p6)
  rw [val6_p6] at h1
  have h3 := Cy.n_on (subTop l p6)
  unfold reducedL
  rw [isOne_eq]
  have hp := pN_val
  cases hc : (subTop l p6).on with
  | true =>
    rw [hc] at h3
    simp only [if_true] at h3
    rw [h3] at h1
    simp only [cond_true]
    rw [Nat.mod_eq_of_lt]
    omega
  | false =>
    rw [hc] at h3
    simp only [Bool.false_eq_true, if_false] at h3
    rw [h3] at h1
    simp only [cond_false]
    have : val6 l = val6 (sub6 l p6) + pN := by omega
    rw [this, Nat.add_mod_right, Nat.mod_eq_of_lt]
    omega

theorem addL_val {a b : L6} (ha : val6 a < pN) (hb : val6 b < pN) : val6 (reducedL (add6 a b)) = (val6 a + val6 b) % pN := by
  have h1 := add6_val a b
  have h2 := pN_val
  have h3 := (addTop a b).le
  have h4 := Cy.n_on (addTop a b)
  have h5 : (addTop a b).n = 0 := by
    cases hc : (addTop a b).on
    · rw [hc] at h4; simpa using h4
    · rw [hc] at h4; simp only [if_true] at h4; rw [h4] at h1; omega
  rw [h5] at h1
  have h6 : val6 (add6 a b) = val6 a + val6 b := by omega
  rw [reducedL_val (by omega), h6]

theorem subL_val {a b : L6} (ha : val6 a < pN) (hb : val6 b < pN) : val6 (subL a b) = (val6 a + (pN - val6 b)) % pN := by
  have h1 := sub6_val a b
  have h2 := pN_val
  have h3 := val6_lt' (sub6 a b)
  have h4 := Cy.n_on (subTop a b)
  unfold subL
  rw [isNil_eq]
  cases hc : (subTop a b).on with
  | false =>
    rw [hc] at h4
    simp only [Bool.false_eq_true, if_false] at h4
    rw [h4] at h1
    simp only [Bool.not_false, cond_true]
    have : val6 a + (pN - val6 b) = val6 (sub6 a b) + pN := by omega
    rw [this, Nat.add_mod_right, Nat.mod_eq_of_lt]
    omega
  | true =>
    rw [hc] at h4
    simp only [if_true] at h4
    rw [h4] at h1
    simp only [Bool.not_true, cond_false]
    have h5 := add6_val (sub6 a b) p6
    rw [val6_p6] at h5
    have h6 := (addTop (sub6 a b) p6).le
    have h7 := val6_lt' (add6 (sub6 a b) p6)
    rw [Nat.mod_eq_of_lt (by omega)]
    have h8 : (addTop (sub6 a b) p6).n = 1 := by omega
    rw [h8] at h5
    omega

theorem madd_nat (a b c d : UInt64) : 18446744073709551616 * (maddHi a b c d).toNat + (maddLo a b c d).toNat = a.toNat * b.toNat + c.toNat + d.toNat := by
  rw [maddHi_nat, maddLo_nat]
  exact Nat.div_add_mod _ _

theorem cios (X0 X1 X2 X3 X4 X5 t0 t1 t2 t3 t4 t5 q h0 h1 h2 h3 h4 h5 l0 l1 l2 l3 l4 l5 d0 d1 d2 d3 d4 d5 r1 r2 r3 r4 r5 : Nat)
  (e0 : 18446744073709551616 * h0 + l0 = X0 + t0) (e1 : 18446744073709551616 * h1 + l1 = X1 + t1 + h0) (e2 : 18446744073709551616 * h2 + l2 = X2 + t2 + h1)
  (e3 : 18446744073709551616 * h3 + l3 = X3 + t3 + h2) (e4 : 18446744073709551616 * h4 + l4 = X4 + t4 + h3) (e5 : 18446744073709551616 * h5 + l5 = X5 + t5 + h4)
  (f0 : 18446744073709551616 * d0 = q * 13402431016077863595 + l0) (f1 : 18446744073709551616 * d1 + r1 = q * 2210141511517208575 + l1 + d0) (f2 : 18446744073709551616 * d2 + r2 = q * 7435674573564081700 + l2 + d1)
  (f3 : 18446744073709551616 * d3 + r3 = q * 7239337960414712511 + l3 + d2) (f4 : 18446744073709551616 * d4 + r4 = q * 5412103778470702295 + l4 + d3) (f5 : 18446744073709551616 * d5 + r5 = q * 1873798617647539866 + l5 + d4) :
  t0 + 18446744073709551616 * (t1 + 18446744073709551616 * (t2 + 18446744073709551616 * (t3 + 18446744073709551616 * (t4 + 18446744073709551616 * t5)))) + (X0 + 18446744073709551616 * (X1 + 18446744073709551616 * (X2 + 18446744073709551616 * (X3 + 18446744073709551616 * (X4 + 18446744073709551616 * X5))))) +
   q * 4002409555221667393417789825735904156556882819939007885332058136124031650490837864442687629129015664037894272559787 = 18446744073709551616 * (r1 + 18446744073709551616 * (r2 + 18446744073709551616 * (r3 + 18446744073709551616 * (r4 + 18446744073709551616 * (r5 + 18446744073709551616 * (h5 + d5)))))) := by
  omega

theorem small_of (T XB QP r1 r2 r3 r4 r5 hd : Nat) (h1 : T < 2 * 4002409555221667393417789825735904156556882819939007885332058136124031650490837864442687629129015664037894272559787) (h2 : XB ≤ 18446744073709551615 * 4002409555221667393417789825735904156556882819939007885332058136124031650490837864442687629129015664037894272559787) (h3 : QP ≤ 18446744073709551615 * 4002409555221667393417789825735904156556882819939007885332058136124031650490837864442687629129015664037894272559787)
    (h : T + XB + QP = 18446744073709551616 * (r1 + 18446744073709551616 * (r2 + 18446744073709551616 * (r3 + 18446744073709551616 * (r4 + 18446744073709551616 * (r5 + 18446744073709551616 * hd)))))) : hd < 18446744073709551616 := by
  omega

theorem rnd_aux (x b0 b1 b2 b3 b4 b5 t0 t1 t2 t3 t4 t5 h0 l0 q d0 h1 l1 d1 r1 h2 l2 d2 r2 h3 l3 d3 r3 h4 l4 d4 r4 h5 l5 d5 r5 : UInt64) (hb : val6 (b0, b1, b2, b3, b4, b5) < pN) (ht : val6 (t0, t1, t2, t3, t4, t5) < 2 * pN)
    (H0 : h0 = maddHi x b0 t0 (UInt64.ofNat 0)) (L0 : l0 = maddLo x b0 t0 (UInt64.ofNat 0))
    (Q : q = u64 ((l0.toNat : Int) * 9940570264628428797))
    (D0 : d0 = maddHi q 13402431016077863595 l0 (UInt64.ofNat 0))
    (H1 : h1 = maddHi x b1 t1 h0) (L1 : l1 = maddLo x b1 t1 h0)
    (D1 : d1 = maddHi q 2210141511517208575 l1 d0) (R1 : r1 = maddLo q 2210141511517208575 l1 d0)
    (H2 : h2 = maddHi x b2 t2 h1) (L2 : l2 = maddLo x b2 t2 h1)
    (D2 : d2 = maddHi q 7435674573564081700 l2 d1) (R2 : r2 = maddLo q 7435674573564081700 l2 d1)
    (H3 : h3 = maddHi x b3 t3 h2) (L3 : l3 = maddLo x b3 t3 h2)
    (D3 : d3 = maddHi q 7239337960414712511 l3 d2) (R3 : r3 = maddLo q 7239337960414712511 l3 d2)
    (H4 : h4 = maddHi x b4 t4 h3) (L4 : l4 = maddLo x b4 t4 h3)
    (D4 : d4 = maddHi q 5412103778470702295 l4 d3) (R4 : r4 = maddLo q 5412103778470702295 l4 d3)
    (H5 : h5 = maddHi x b5 t5 h4) (L5 : l5 = maddLo x b5 t5 h4)
    (D5 : d5 = maddHi q 1873798617647539866 l5 d4) (R5 : r5 = maddLo q 1873798617647539866 l5 d4) :
    18446744073709551616 * val6 (r1, r2, r3, r4, r5, u64 ((h5.toNat : Int) + d5.toNat)) = val6 (t0, t1, t2, t3, t4, t5) + x.toNat * val6 (b0, b1, b2, b3, b4, b5) + q.toNat * pN := by
  have z : (UInt64.ofNat 0).toNat = 0 := rfl
  have hq : q.toNat = l0.toNat * 9940570264628428797 % 18446744073709551616 := by
    rw [Q]
    have : ((l0.toNat : Int) * 9940570264628428797) = ((l0.toNat * 9940570264628428797 : Nat) : Int) := by simp
    rw [this, u64_nat]
  have hr0 : (maddLo q 13402431016077863595 l0 (UInt64.ofNat 0)).toNat = 0 := by
    rw [maddLo_nat]
    unfold maddN
    have : (13402431016077863595 : UInt64).toNat = 13402431016077863595 := rfl
    rw [this, hq, z]
    omega
  have e0 := madd_nat x b0 t0 (UInt64.ofNat 0)
  rw [← H0, ← L0] at e0
  have f0 := madd_nat q 13402431016077863595 l0 (UInt64.ofNat 0)
  rw [← D0, show (13402431016077863595 : UInt64).toNat = 13402431016077863595 from rfl] at f0
  have e1 := madd_nat x b1 t1 h0
  rw [← H1, ← L1] at e1
  have f1 := madd_nat q 2210141511517208575 l1 d0
  rw [← D1, ← R1, show (2210141511517208575 : UInt64).toNat = 2210141511517208575 from rfl] at f1
  have e2 := madd_nat x b2 t2 h1
  rw [← H2, ← L2] at e2
  have f2 := madd_nat q 7435674573564081700 l2 d1
  rw [← D2, ← R2, show (7435674573564081700 : UInt64).toNat = 7435674573564081700 from rfl] at f2
  have e3 := madd_nat x b3 t3 h2
  rw [← H3, ← L3] at e3
  have f3 := madd_nat q 7239337960414712511 l3 d2
  rw [← D3, ← R3, show (7239337960414712511 : UInt64).toNat = 7239337960414712511 from rfl] at f3
  have e4 := madd_nat x b4 t4 h3
  rw [← H4, ← L4] at e4
  have f4 := madd_nat q 5412103778470702295 l4 d3
  rw [← D4, ← R4, show (5412103778470702295 : UInt64).toNat = 5412103778470702295 from rfl] at f4
  have e5 := madd_nat x b5 t5 h4
  rw [← H5, ← L5] at e5
  have f5 := madd_nat q 1873798617647539866 l5 d4
  rw [← D5, ← R5, show (1873798617647539866 : UInt64).toNat = 1873798617647539866 from rfl] at f5
  rw [z, Nat.add_zero] at e0
  rw [hr0, z, Nat.add_zero, Nat.add_zero] at f0
  have key := cios _ _ _ _ _ _ _ _ _ _ _ _ _ _ _ _ _ _ _ _ _ _ _ _ _ _ _ _ _ _ _ _ _ _ _ _ e0 e1 e2 e3 e4 e5 f0 f1 f2 f3 f4 f5
  have xb : x.toNat * val6 (b0, b1, b2, b3, b4, b5) = x.toNat * b0.toNat + 18446744073709551616 * (x.toNat * b1.toNat + 18446744073709551616 * (x.toNat * b2.toNat + 18446744073709551616 * (x.toNat * b3.toNat + 18446744073709551616 * (x.toNat * b4.toNat + 18446744073709551616 * (x.toNat * b5.toNat))))) := by
    simp only [val6, Nat.mul_add, Nat.mul_left_comm x.toNat 18446744073709551616]
  have top : val6 (t0, t1, t2, t3, t4, t5) + x.toNat * val6 (b0, b1, b2, b3, b4, b5) + q.toNat * pN = 18446744073709551616 * (r1.toNat + 18446744073709551616 * (r2.toNat + 18446744073709551616 * (r3.toNat + 18446744073709551616 * (r4.toNat + 18446744073709551616 * (r5.toNat + 18446744073709551616 * (h5.toNat + d5.toNat)))))) := by
    rw [xb, pN_val]
    exact key
  have hx := x.toNat_lt
  have hql := q.toNat_lt
  have bx : x.toNat * val6 (b0, b1, b2, b3, b4, b5) ≤ 18446744073709551615 * pN := Nat.mul_le_mul (by omega) (by omega)
  have bq : q.toNat * pN ≤ 18446744073709551615 * pN := Nat.mul_le_mul (by omega) (Nat.le_refl _)
  have small : h5.toNat + d5.toNat < 18446744073709551616 := by
    rw [pN_val] at ht bx bq top
    exact small_of _ _ _ _ _ _ _ _ _ ht bx bq top
  rw [top]
  have hu : (u64 ((h5.toNat : Int) + d5.toNat)).toNat = h5.toNat + d5.toNat := by
    have : ((h5.toNat : Int) + d5.toNat) = ((h5.toNat + d5.toNat : Nat) : Int) := by simp
    rw [this, u64_nat, Nat.mod_eq_of_lt small]
  simp only [val6, hu]

/-- One row, as numbers. -/
theorem rnd_val (b t : L6) (x : UInt64) (hb : val6 b < pN) (ht : val6 t < 2 * pN) :
    ∃ q, q < 18446744073709551616 ∧ 18446744073709551616 * val6 (rnd b t x) = val6 t + x.toNat * val6 b + q * pN := by
  obtain ⟨b0, b1, b2, b3, b4, b5⟩ := b
  obtain ⟨t0, t1, t2, t3, t4, t5⟩ := t
  exact ⟨_, UInt64.toNat_lt _, rnd_aux x b0 b1 b2 b3 b4 b5 t0 t1 t2 t3 t4 t5 _ _ _ _ _ _ _ _ _ _ _ _ _ _ _ _ _ _ _ _ _ _ _ _ hb ht rfl rfl rfl rfl rfl rfl rfl rfl rfl rfl rfl rfl rfl rfl rfl rfl rfl rfl rfl rfl rfl rfl rfl rfl⟩

end Go.Proofs.Ytbdbmcdcjejffaa
