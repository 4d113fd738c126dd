/- Words of 64 bits: sums, differences, products, with what is carried; plain mathematics. -/
import Derived.Test.YtbdbmcdcjejffaaEnI
set_option linter.unusedVariables false
set_option linter.unusedSimpArgs false
set_option linter.unusedSectionVars false
namespace Go.Sh

/-- A number, wrapped round to 64 bits. -/
def u64 (z : Int) : UInt64 := UInt64.ofNat (z % 18446744073709551616).toNat

theorem u64_nat (n : Nat) : (u64 n).toNat = n % 18446744073709551616 := by
  unfold u64
  rw [UInt64.toNat_ofNat_of_lt' (show _ < 18446744073709551616 by omega)]
  omega

theorem u64_toNat (z : Int) : ((u64 z).toNat : Int) = z % 18446744073709551616 := by
  unfold u64
  rw [UInt64.toNat_ofNat_of_lt' (show _ < 18446744073709551616 by omega)]
  omega

theorem u64_eq {z : Int} {n : Nat} (h : z % 18446744073709551616 = n % 18446744073709551616) : u64 z = u64 n := by unfold u64; rw [h]

/-- bits.Mul64. -/
def mulHi (x y : UInt64) : UInt64 := UInt64.ofNat (x.toNat * y.toNat / 18446744073709551616)
def mulLo (x y : UInt64) : UInt64 := u64 ((x.toNat : Int) * y.toNat)

theorem mul_bound (x y : UInt64) : x.toNat * y.toNat ≤ 18446744073709551615 * 18446744073709551615 :=
  Nat.mul_le_mul (by have := x.toNat_lt; omega) (by have := y.toNat_lt; omega)

theorem mulHi_nat (x y : UInt64) : (mulHi x y).toNat = x.toNat * y.toNat / 18446744073709551616 := by
  unfold mulHi
  have := mul_bound x y
  rw [UInt64.toNat_ofNat_of_lt' (show _ < 18446744073709551616 from Nat.div_lt_of_lt_mul (by omega))]

theorem mulLo_nat (x y : UInt64) : (mulLo x y).toNat = x.toNat * y.toNat % 18446744073709551616 := by
  unfold mulLo
  have : ((x.toNat : Int) * y.toNat) = ((x.toNat * y.toNat : Nat) : Int) := by simp
  rw [this, u64_nat]

/-- bits.Add64, bits.Sub64. -/
def adcS (x y : UInt64) (c : Cy) : UInt64 := UInt64.ofNat ((x.toNat + y.toNat + (cond c.on 1 0)) % 18446744073709551616)
def adcC (x y : UInt64) (c : Cy) : Cy := ⟨decide (18446744073709551616 ≤ x.toNat + y.toNat + (cond c.on 1 0))⟩
def sbbS (x y : UInt64) (c : Cy) : UInt64 := UInt64.ofNat ((x.toNat + 18446744073709551616 - y.toNat - (cond c.on 1 0)) % 18446744073709551616)
def sbbC (x y : UInt64) (c : Cy) : Cy := ⟨decide (x.toNat < y.toNat + (cond c.on 1 0))⟩

def Cy.n (c : Cy) : Nat := cond c.on 1 0
theorem Cy.le (c : Cy) : c.n ≤ 1 := by obtain ⟨b⟩ := c; cases b <;> simp [Cy.n]

theorem adc_nat (x y : UInt64) (c : Cy) : (adcS x y c).toNat + 18446744073709551616 * (adcC x y c).n = x.toNat + y.toNat + c.n := by
  have hx := x.toNat_lt
  have hy := y.toNat_lt
  have hc := c.le
  unfold adcS
  rw [UInt64.toNat_ofNat_of_lt' (Nat.mod_lt _ (by decide))]
  change (x.toNat + y.toNat + c.n) % 18446744073709551616 + 18446744073709551616 * (cond (decide (18446744073709551616 ≤ x.toNat + y.toNat + c.n)) 1 0) = _
  by_cases h : 18446744073709551616 ≤ x.toNat + y.toNat + c.n
  · rw [decide_eq_true h]; simp only [cond_true]; omega
  · rw [decide_eq_false h]; simp only [cond_false]; omega

theorem sbb_nat (x y : UInt64) (c : Cy) : (sbbS x y c).toNat + y.toNat + c.n = x.toNat + 18446744073709551616 * (sbbC x y c).n := by
  have hx := x.toNat_lt
  have hy := y.toNat_lt
  have hc := c.le
  unfold sbbS
  rw [UInt64.toNat_ofNat_of_lt' (Nat.mod_lt _ (by decide))]
  change (x.toNat + 18446744073709551616 - y.toNat - c.n) % 18446744073709551616 + y.toNat + c.n = x.toNat + 18446744073709551616 * (cond (decide (x.toNat < y.toNat + c.n)) 1 0)
  by_cases h : x.toNat < y.toNat + c.n
  · rw [decide_eq_true h]; simp only [cond_true]; omega
  · rw [decide_eq_false h]; simp only [cond_false]; omega

/-- Six words, and their number. -/
abbrev L6 := UInt64 × UInt64 × UInt64 × UInt64 × UInt64 × UInt64

def val6 (l : L6) : Nat :=
  l.1.toNat + 18446744073709551616 * (l.2.1.toNat + 18446744073709551616 * (l.2.2.1.toNat + 18446744073709551616 * (l.2.2.2.1.toNat + 18446744073709551616 * (l.2.2.2.2.1.toNat + 18446744073709551616 * l.2.2.2.2.2.toNat))))

def lim6 (n : Nat) : L6 :=
  (UInt64.ofNat (n % 18446744073709551616), UInt64.ofNat (n / 18446744073709551616 % 18446744073709551616), UInt64.ofNat (n / 18446744073709551616 ^ 2 % 18446744073709551616),
    UInt64.ofNat (n / 18446744073709551616 ^ 3 % 18446744073709551616), UInt64.ofNat (n / 18446744073709551616 ^ 4 % 18446744073709551616), UInt64.ofNat (n / 18446744073709551616 ^ 5 % 18446744073709551616))

theorem ofNat_mod (n : Nat) : (UInt64.ofNat (n % 18446744073709551616)).toNat = n % 18446744073709551616 := UInt64.toNat_ofNat_of_lt' (Nat.mod_lt _ (by decide))

theorem val6_lt (l : L6) : val6 l < 2 ^ 384 := by
  obtain ⟨a, b, c, d, e, f⟩ := l
  have := a.toNat_lt; have := b.toNat_lt; have := c.toNat_lt; have := d.toNat_lt; have := e.toNat_lt; have := f.toNat_lt
  simp only [val6]
  omega

theorem val6_lim6 {n : Nat} (h : n < 2 ^ 384) : val6 (lim6 n) = n := by
  simp only [val6, lim6, ofNat_mod]
  omega

theorem val6_inj {a b : L6} (h : val6 a = val6 b) : a = b := by
  obtain ⟨a0, a1, a2, a3, a4, a5⟩ := a
  obtain ⟨b0, b1, b2, b3, b4, b5⟩ := b
  simp only [val6] at h
  have := a0.toNat_lt; have := a1.toNat_lt; have := a2.toNat_lt; have := a3.toNat_lt; have := a4.toNat_lt; have := a5.toNat_lt
  have := b0.toNat_lt; have := b1.toNat_lt; have := b2.toNat_lt; have := b3.toNat_lt; have := b4.toNat_lt; have := b5.toNat_lt
  have e0 : a0 = b0 := UInt64.toNat_inj.1 (by omega)
  have e1 : a1 = b1 := UInt64.toNat_inj.1 (by omega)
  have e2 : a2 = b2 := UInt64.toNat_inj.1 (by omega)
  have e3 : a3 = b3 := UInt64.toNat_inj.1 (by omega)
  have e4 : a4 = b4 := UInt64.toNat_inj.1 (by omega)
  have e5 : a5 = b5 := UInt64.toNat_inj.1 (by omega)
  rw [e0, e1, e2, e3, e4, e5]

theorem lim6_val6 (l : L6) : lim6 (val6 l) = l := val6_inj (val6_lim6 (val6_lt l))

end Go.Sh
