/- The bits that are set, from the highest down. -/
import Derived.Test.YtaloefkkllebeaaLk1
set_option linter.unusedVariables false
set_option linter.unusedSimpArgs false
set_option linter.unusedSectionVars false
namespace Go.Proofs.Ytaloefkkllebeaa
open Go Go.Sh
/-- The bits of x that are set, below n, from the highest down. -/
def tops : Nat → Nat → List Nat
  | 0, _ => []
  | k + 1, x => match x.testBit k with | true => k :: tops k x | false => tops k x
theorem tops_len : ∀ n x, (tops n x).length ≤ n
  | 0, _ => Nat.le_refl _
  | n + 1, x => by
    have := tops_len n x
    unfold tops
    split
    · simp; exact this
    · omega
theorem tops_congr : ∀ {n x y : Nat}, (∀ j, j < n → x.testBit j = y.testBit j) → tops n x = tops n y
  | 0, _, _, _ => rfl
  | n + 1, x, y, h => by
    unfold tops
    rw [h n (by omega), tops_congr (fun j hj => h j (by omega))]
theorem tops_small : ∀ {n m x : Nat}, x < 2 ^ m → m ≤ n → tops n x = tops m x
  | 0, m, x, _, h => by have : m = 0 := by omega
                        subst this; rfl
  | n + 1, m, x, hx, h => by
    by_cases e : m = n + 1
    · rw [e]
    · have hb : x.testBit n = false := Nat.testBit_lt_two_pow (Nat.lt_of_lt_of_le hx (Nat.pow_le_pow_right (by decide) (by omega)))
      show (match x.testBit n with | true => n :: tops n x | false => tops n x) = _
      rw [hb]
      exact tops_small hx (by omega)
theorem tops_add (m : Nat) (x : Nat) : ∀ n, tops (m + n) x = ((tops n (x / 2 ^ m)).map fun j => m + j) ++ tops m x
  | 0 => rfl
  | n + 1 => by
    show (match x.testBit (m + n) with | true => (m + n) :: tops (m + n) x | false => tops (m + n) x) = _
    rw [tops_add m x n]
    have hb : (x / 2 ^ m).testBit n = x.testBit (m + n) := by rw [Nat.testBit_div_two_pow, Nat.add_comm]
    show _ = ((match (x / 2 ^ m).testBit n with | true => n :: tops n (x / 2 ^ m) | false => tops n (x / 2 ^ m)).map fun j => m + j) ++ tops m x
    rw [hb]
    cases x.testBit (m + n) <;> rfl
theorem tops_mod (m x : Nat) : tops m (x % 2 ^ m) = tops m x := tops_congr fun j hj => by rw [Nat.testBit_mod_two_pow]; simp [hj]
theorem tops_zero : ∀ n, tops n 0 = []
  | 0 => rfl
  | n + 1 => by unfold tops; rw [Nat.zero_testBit]; exact tops_zero n
/-- The highest bit, and the others. -/
theorem tops_step {n x : Nat} (h0 : x ≠ 0) (hx : x < 2 ^ n) : tops n x = (blN x - 1) :: tops n (x - 2 ^ (blN x - 1)) := by
  obtain ⟨k, e, g1, g2⟩ := blN_spec h0
  rw [e, Nat.add_sub_cancel]
  have hk : k < n := (Nat.pow_lt_pow_iff_right (by decide : 1 < 2)).1 (Nat.lt_of_le_of_lt g1 hx)
  have hp : (2 : Nat) ^ (k + 1) = 2 * 2 ^ k := by rw [Nat.pow_succ, Nat.mul_comm]
  have hy : x - 2 ^ k < 2 ^ k := by omega
  rw [tops_small g2 (by omega : k + 1 ≤ n), tops_small hy (by omega : k ≤ n)]
  have hb : x.testBit k = true := by
    rw [Nat.testBit_eq_decide_div_mod_eq]
    have : x / 2 ^ k = 1 := Nat.div_eq_of_lt_le (by omega) (by omega)
    rw [this]; rfl
  show (match x.testBit k with | true => k :: tops k x | false => tops k x) = _
  rw [hb]
  show k :: tops k x = k :: tops k (x - 2 ^ k)
  congr 1
  refine tops_congr fun j hj => ?_
  have : x = 2 ^ k + (x - 2 ^ k) := by omega
  conv => lhs; rw [this]
  exact Nat.testBit_two_pow_add_gt hj _
/-- A word without its highest bit. -/
def clrW (x : UInt64) : UInt64 :=
  UInt64.ofNat (((BitVec.ofInt IntKind.u64.bits (x.toNat : Int) &&& ~~~BitVec.ofInt IntKind.u64.bits ((UInt64.ofNat ((1 * 2 ^ min ((UInt64.ofNat (((blN x.toNat : Int) - 1) % 18446744073709551616).toNat).toNat : Int).toNat IntKind.u64.bits : Int) % 18446744073709551616).toNat).toNat : Int)).toNat : Int) % 18446744073709551616).toNat
theorem clrW_nat {x : UInt64} (h : x.toNat ≠ 0) : (clrW x).toNat = x.toNat - 2 ^ (blN x.toNat - 1) := by
  obtain ⟨k, e, g1, g2⟩ := blN_spec h
  have hx := x.toNat_lt
  have hk : k < 64 := (Nat.pow_lt_pow_iff_right (by decide : 1 < 2)).1 (Nat.lt_of_le_of_lt g1 hx)
  have hp : (2 : Nat) ^ (k + 1) = 2 * 2 ^ k := by rw [Nat.pow_succ, Nat.mul_comm]
  have hpk : (2 : Nat) ^ k < 2 ^ 64 := Nat.pow_lt_pow_right (by decide) hk
  unfold clrW
  rw [e]
  have e1 : (((k + 1 : Nat) : Int) - 1) = (k : Int) := by omega
  have e2 : (((k : Int) % 18446744073709551616).toNat) = k := by omega
  rw [e1, e2, UInt64.toNat_ofNat_of_lt' (show k < 18446744073709551616 by omega), Nat.add_sub_cancel]
  have e3 : min ((k : Nat) : Int).toNat IntKind.u64.bits = k := by
    show min k 64 = k
    omega
  rw [e3]
  have e4 : (((1 : Int) * 2 ^ k) % 18446744073709551616).toNat = 2 ^ k := by
    have : ((1 : Int) * 2 ^ k) = ((2 ^ k : Nat) : Int) := by simp
    rw [this]
    have : (2 : Nat) ^ 64 = 18446744073709551616 := by decide
    omega
  rw [e4, UInt64.toNat_ofNat_of_lt' (show 2 ^ k < 18446744073709551616 from hpk)]
  have e5 : BitVec.ofInt IntKind.u64.bits (x.toNat : Int) &&& ~~~BitVec.ofInt IntKind.u64.bits ((2 ^ k : Nat) : Int) = BitVec.ofNat 64 (x.toNat - 2 ^ k) := by
    show BitVec.ofInt 64 (x.toNat : Int) &&& ~~~BitVec.ofInt 64 ((2 ^ k : Nat) : Int) = _
    rw [BitVec.ofInt_natCast, BitVec.ofInt_natCast]
    apply BitVec.eq_of_getLsbD_eq
    intro i hi
    simp only [BitVec.getLsbD_and, BitVec.getLsbD_not, BitVec.getLsbD_ofNat, hi, decide_true, Bool.true_and]
    have hs : x.toNat = 2 ^ k + (x.toNat - 2 ^ k) := by omega
    rcases Nat.lt_trichotomy i k with h1 | h1 | h1
    · rw [show ((2 : Nat) ^ k).testBit i = false by rw [Nat.testBit_two_pow]; exact decide_eq_false (by omega)]
      conv => lhs; rw [hs]
      rw [Nat.testBit_two_pow_add_gt h1]
      simp
    · subst h1
      rw [show ((2 : Nat) ^ i).testBit i = true by rw [Nat.testBit_two_pow]; exact decide_eq_true rfl]
      rw [Nat.testBit_lt_two_pow (show x.toNat - 2 ^ i < 2 ^ i by omega)]
      simp
    · rw [show ((2 : Nat) ^ k).testBit i = false by rw [Nat.testBit_two_pow]; exact decide_eq_false (by omega)]
      rw [Nat.testBit_lt_two_pow (Nat.lt_of_lt_of_le g2 (Nat.pow_le_pow_right (by decide) h1)), Nat.testBit_lt_two_pow (Nat.lt_of_lt_of_le (show x.toNat - 2 ^ k < 2 ^ (k + 1) by omega) (Nat.pow_le_pow_right (by decide) h1))]
      rfl
  rw [e5]
  have e6 : (BitVec.ofNat 64 (x.toNat - 2 ^ k)).toNat = x.toNat - 2 ^ k := by
    rw [BitVec.toNat_ofNat]
    exact Nat.mod_eq_of_lt (by omega)
  show (UInt64.ofNat (((BitVec.ofNat 64 (x.toNat - 2 ^ k)).toNat : Int) % 18446744073709551616).toNat).toNat = _
  rw [e6]
  have e7 : (((x.toNat - 2 ^ k : Nat) : Int) % 18446744073709551616).toNat = x.toNat - 2 ^ k := by omega
  rw [e7, UInt64.toNat_ofNat_of_lt' (show x.toNat - 2 ^ k < 18446744073709551616 by omega)]
/-- A number's words. -/
def wN (a : Num) (z : Nat) : UInt64 := pickN 0 (words6 (numL a)) z
theorem wN_nat (a : Num) {z : Nat} (h : z < 6) : (wN a z).toNat = a.val / 2 ^ (64 * z) % 2 ^ 64 := by
  have hm : ∀ n : Nat, (UInt64.ofNat n).toNat = n % 18446744073709551616 := fun n => by rw [UInt64.toNat_ofNat']
  have : z = 0 ∨ z = 1 ∨ z = 2 ∨ z = 3 ∨ z = 4 ∨ z = 5 := by omega
  have e : (2 : Nat) ^ 64 = 18446744073709551616 := by decide
  rw [Nat.pow_mul, e]
  unfold wN numL lim6
  rcases this with rfl | rfl | rfl | rfl | rfl | rfl
  · rw [Nat.pow_zero, Nat.div_one]; exact ofNat_mod _
  · exact ofNat_mod _
  · exact ofNat_mod _
  · exact ofNat_mod _
  · exact ofNat_mod _
  · exact ofNat_mod _
/-- The bits of the lowest k words. -/
def bitsW (a : Num) : Nat → List Int
  | 0 => []
  | k + 1 => ((tops 64 (wN a k).toNat).map fun j : Nat => 64 * (k : Int) + ((j : Int))) ++ bitsW a k
theorem bitsW_eq (a : Num) : ∀ k, k ≤ 6 → bitsW a k = (tops (64 * k) a.val).map fun j : Nat => (j : Int)
  | 0, _ => rfl
  | k + 1, h => by
    show _ ++ bitsW a k = _
    rw [bitsW_eq a k (by omega), show 64 * (k + 1) = 64 * k + 64 by omega, tops_add, wN_nat a (by omega), tops_mod, List.map_append, List.map_map]
    congr 1
/-- The bits of a number. -/
def bitsI (a : Num) : List Int := (tops 384 a.val).map fun j : Nat => (j : Int)
theorem bitsI_len (a : Num) : (bitsI a).length ≤ 384 := by
  unfold bitsI; rw [List.length_map]; exact tops_len _ _
theorem bitsW_all (a : Num) : bitsW a 6 = bitsI a := bitsW_eq a 6 (Nat.le_refl _)
/-- What is taken of a list, behind R (the last first), while they are fewer than most; is it left early? -/
def gat (most : Int) : List Int → List Int → List Int × Bool
  | R, [] => (R, false)
  | R, v :: L => match decide ((R.length : Int) ≥ most) with | true => (R, true) | false => gat most (v :: R) L
theorem gat_append (most : Int) : ∀ (R L L' : List Int), gat most R (L ++ L') = (match gat most R L with | (R', true) => (R', true) | (R', false) => gat most R' L')
  | R, [], L' => rfl
  | R, v :: L, L' => by
    show (match decide ((R.length : Int) ≥ most) with | true => (R, true) | false => gat most (v :: R) (L ++ L')) = _
    rw [gat_append most (v :: R) L L']
    show _ = (match (match decide ((R.length : Int) ≥ most) with | true => (R, true) | false => gat most (v :: R) L) with | (R', true) => (R', true) | (R', false) => gat most R' L')
    cases decide ((R.length : Int) ≥ most) <;> rfl
theorem gat_take (most : Int) : ∀ (R L : List Int), (gat most R L).1.reverse = R.reverse ++ L.take (most.toNat - R.length)
  | R, [] => by simp [gat]
  | R, v :: L => by
    unfold gat
    cases h : decide ((R.length : Int) ≥ most) with
    | true =>
      have h := of_decide_eq_true h
      rw [show most.toNat - R.length = 0 by omega]
      simp
    | false =>
      have h := of_decide_eq_false h
      simp only
      rw [gat_take most (v :: R) L, show most.toNat - R.length = (most.toNat - (v :: R).length) + 1 by simp only [List.length_cons]; omega]
      simp
theorem gat_len (most : Int) (R L : List Int) : (gat most R L).1.length ≤ R.length + L.length := by
  have := congrArg List.length (gat_take most R L)
  simp at this
  omega
/-- Cells that hold one number; those of a list, the last first. -/
def intF (v : Int) : Nat → A := fun j => ([(At.num .i64 v : A)][j]?).getD (.num .i64 v)
def FR : List Int → Nat → A
  | [] => fun _ => Atom.dummy
  | v :: R => catF (FR R) (timesN R.length (0 + 1)) (intF v) 0
theorem FR_get : ∀ (R : List Int) (j : Nat), j < R.length → FR R j = .num .i64 (R.reverse.getD j 0)
  | v :: R, j, h => by
    have e : timesN R.length (0 + 1) = R.length := by
      show timesN R.length 1 = _
      rw [timesN_eq, Nat.mul_one]
    show catF (FR R) (timesN R.length (0 + 1)) (intF v) 0 j = _
    rw [e]
    unfold catF
    cases hb : Nat.blt j R.length with
    | true =>
      have hj : j < R.length := by simpa [Nat.blt_eq] using hb
      show FR R j = _
      rw [FR_get R j hj, List.reverse_cons, List.getD_eq_getElem?_getD, List.getD_eq_getElem?_getD, List.getElem?_append_left (by simpa using hj)]
    | false =>
      have hj : ¬ j < R.length := fun hlt => by rw [show Nat.blt j R.length = true from by simpa [Nat.blt_eq] using hlt] at hb; cases hb
      have : j = R.length := by simp at h; omega
      subst this
      show intF v (0 + (R.length - R.length)) = _
      rw [Nat.sub_self]
      simp [intF, List.getD_eq_getElem?_getD]
end Go.Proofs.Ytaloefkkllebeaa
