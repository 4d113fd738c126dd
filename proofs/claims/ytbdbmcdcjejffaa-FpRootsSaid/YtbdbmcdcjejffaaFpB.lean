/- The reference's powers: plain law. -/
import Derived.Test.YtbdbmcdcjejffaaFpA
set_option linter.unusedVariables false
set_option linter.unusedSimpArgs false
set_option linter.unusedSectionVars false
namespace Go.Proofs.Ytbdbmcdcjejffaa
open Go Go.Sh

theorem and_one8 (w : Nat) (hw : w < 256) : (((UInt8.ofNat (((BitVec.ofInt IntKind.u8.bits (w : Int) &&& BitVec.ofInt IntKind.u8.bits 1).toNat : Int) % 256).toNat).toNat : Int) == 1) = decide (w % 2 = 1) := by
  have h : (BitVec.ofInt IntKind.u8.bits (w : Int) &&& BitVec.ofInt IntKind.u8.bits 1).toNat = w % 2 := by
    show (BitVec.ofInt 8 (w : Int) &&& BitVec.ofInt 8 1).toNat = _
    have f1 : (BitVec.ofInt 8 (w : Int)).toNat = w := by
      rw [BitVec.toNat_ofInt]
      omega
    have f2 : (BitVec.ofInt 8 1).toNat = 1 := rfl
    rw [BitVec.toNat_and, f1, f2, Nat.and_one_is_mod]
  rw [h]
  have : w % 2 = 0 ∨ w % 2 = 1 := by omega
  rcases this with e | e <;> rw [e] <;> rfl

theorem bitB_eq (l : List UInt8) (k : Nat) : bitB l k = decide ((l.getD (k / 8) 0).toNat / 2 ^ (7 - k % 8) % 2 = 1) := by
  have h1 : ((k : Int).tdiv 8).toNat = k / 8 := rfl
  have h2 : (7 - (k : Int).tmod 8).toNat = 7 - k % 8 := by
    have : (k : Int).tmod 8 = ((k % 8 : Nat) : Int) := rfl
    rw [this]; omega
  unfold bitB
  rw [h1, h2, Nat.min_eq_left (show 7 - k % 8 ≤ IntKind.u8.bits by show 7 - k % 8 ≤ 8; omega)]
  have hb : (l.getD (k / 8) 0).toNat / 2 ^ (7 - k % 8) < 256 := Nat.lt_of_le_of_lt (Nat.div_le_self _ _) (UInt8.toNat_lt _)
  have e : (UInt8.ofNat ((l.getD (k / 8) 0).toNat / 2 ^ (7 - k % 8))).toNat = (l.getD (k / 8) 0).toNat / 2 ^ (7 - k % 8) := by
    rw [UInt8.toNat_ofNat']
    exact Nat.mod_eq_of_lt hb
  rw [e]
  exact and_one8 _ hb

theorem numB_top (l : List UInt8) {j : Nat} (h : j < l.length) : numB l / 256 ^ (l.length - 1 - j) = 256 * numB (l.take j) + (l.getD j 0).toNat := by
  have e : l = l.take (j + 1) ++ l.drop (j + 1) := (List.take_append_drop _ _).symm
  have h2 : numB l = numB (l.take (j + 1)) * 256 ^ (l.drop (j + 1)).length + numB (l.drop (j + 1)) := by
    rw [← numB_append, ← e]
  have h3 : (l.drop (j + 1)).length = l.length - 1 - j := by simp; omega
  have h4 := numB_cons_le (l.drop (j + 1))
  rw [h3] at h2 h4
  have h5 : l.take (j + 1) = l.take j ++ [l.getD j 0] := by
    rw [List.take_add_one]
    congr 1
    rw [List.getElem?_eq_getElem h]
    simp [List.getD, h]
  rw [h2, Nat.mul_comm, Nat.mul_add_div (Nat.pow_pos (by decide)), Nat.div_eq_of_lt h4, Nat.add_zero, h5, numB_snoc]

theorem numB_bit (l : List UInt8) {k : Nat} (h : k < 8 * l.length) : numB l / 2 ^ (8 * l.length - (k + 1)) = 2 * (numB l / 2 ^ (8 * l.length - k)) + (cond (bitB l k) 1 0) := by
  have e1 : 8 * l.length - k = 8 * l.length - (k + 1) + 1 := by omega
  have e2 : 8 * l.length - (k + 1) = 8 * (l.length - 1 - k / 8) + (7 - k % 8) := by omega
  have e3 : numB l / 2 ^ (8 * l.length - (k + 1)) = (256 * numB (l.take (k / 8)) + (l.getD (k / 8) 0).toNat) / 2 ^ (7 - k % 8) := by
    rw [e2, Nat.pow_add, ← pow256, ← Nat.div_div_eq_div_mul, numB_top l (by omega)]
  have e4 : (256 * numB (l.take (k / 8)) + (l.getD (k / 8) 0).toNat) / 2 ^ (7 - k % 8) % 2 = (l.getD (k / 8) 0).toNat / 2 ^ (7 - k % 8) % 2 := by
    generalize numB (l.take (k / 8)) = A
    have hb := UInt8.toNat_lt (l.getD (k / 8) 0)
    generalize (l.getD (k / 8) 0).toNat = b at *
    have : k % 8 = 0 ∨ k % 8 = 1 ∨ k % 8 = 2 ∨ k % 8 = 3 ∨ k % 8 = 4 ∨ k % 8 = 5 ∨ k % 8 = 6 ∨ k % 8 = 7 := by omega
    rcases this with e | e | e | e | e | e | e | e <;> rw [e] <;> simp only [Nat.reduceSub, Nat.reducePow] <;> omega
  rw [e1, Nat.pow_succ, ← Nat.div_div_eq_div_mul, bitB_eq, ← e4, ← e3]
  generalize numB l / 2 ^ (8 * l.length - (k + 1)) = m
  by_cases hm : m % 2 = 1
  · rw [decide_eq_true hm]; show m = 2 * (m / 2) + 1; omega
  · rw [decide_eq_false hm]; show m = 2 * (m / 2) + 0; omega

theorem rp_eq (l : List UInt8) (a : Fp) : ∀ k, k ≤ 8 * l.length → rp l a k = fpow a (numB l / 2 ^ (8 * l.length - k))
  | 0, _ => by
    have h := numB_cons_le l
    rw [pow256] at h
    rw [Nat.sub_zero, Nat.div_eq_of_lt h, fpow_zero]; rfl
  | k + 1, hk => by
    have ih := rp_eq l a k (by omega)
    rw [numB_bit l (by omega)]
    cases hb : bitB l k with
    | true =>
      simp only [rp, hb, cond_true]
      rw [ih, Nat.two_mul, fpow_succ, fpow_add]
    | false =>
      simp only [rp, hb, cond_false]
      rw [ih, Nat.two_mul, Nat.add_zero, fpow_add]

theorem refPow_ok : Computes A Try.prog 63 (fun x : Fp × Bt × Unit => fpow x.1 (numB x.2.1.l)) :=
  Computes.eq refPowRaw_ok (fun x => by rw [rp_eq _ _ _ (Nat.le_refl _), Nat.sub_self, Nat.pow_zero, Nat.div_one])

end Go.Proofs.Ytbdbmcdcjejffaa
