/- Montgomery's product: each row, whatever is carried. -/
import Derived.Test.YtaloefkkllebeaaMa2
set_option linter.unusedVariables false
set_option linter.unusedSimpArgs false
set_option linter.unusedSectionVars false
namespace Go.Proofs.Ytaloefkkllebeaa
open Go Go.Sh
def topN : Option UInt64 → Nat
  | none => 0
  | some w => w.toNat
theorem all_fin {x y z t : Nat} {u : UInt64} (e : x + 18446744073709551616 ^ 12 = y + z) (h : u.toNat = t + 1) : x + 18446744073709551616 ^ 12 * topN (some u) = y + 18446744073709551616 ^ 12 * t + z := by
  show x + 18446744073709551616 ^ 12 * u.toNat = _
  rw [h, Nat.mul_add, Nat.mul_one]
  generalize 18446744073709551616 ^ 12 * t = g
  generalize 18446744073709551616 ^ 12 = b at e ⊢
  omega
theorem topU_nat (o : Option UInt64) (h : topN o + 1 < 18446744073709551616) : (topU o true).toNat = topN o + 1 := by
  cases o with
  | none => rfl
  | some w =>
    have h : w.toNat + 1 < 18446744073709551616 := h
    have e : ((w.toNat : Int) + (cond true 1 0 : Int)) = ((w.toNat + 1 : Nat) : Int) := rfl
    show (u64 ((w.toNat : Int) + (cond true 1 0 : Int))).toNat = w.toNat + 1
    rw [e, u64_nat, Nat.mod_eq_of_lt h]
section
variable {H L : UInt64 → UInt64 → UInt64 → UInt64 → UInt64} {S : UInt64 → UInt64 → Cy → UInt64} {C : UInt64 → UInt64 → Cy → Cy}
  (hm : ∀ a b c d, (L a b c d).toNat + 18446744073709551616 * (H a b c d).toNat = a.toNat * b.toNat + c.toNat + d.toNat)
  (ha : ∀ x y c, (S x y c).toNat + 18446744073709551616 * (C x y c).n = x.toNat + y.toNat + c.n)
include hm ha
theorem mQ_exit (q : UInt64) (m : Num) (i n : Nat) (f : Nat → UInt64) (h : i + 6 + (n + 1) ≤ 12) (hq : mQ H L C q (words6 (numL m)) i n f = false) :
    tV (tNew H L S C q (words6 (numL m)) i (n + 1) f) = tV f + q.toNat * m.val * 18446744073709551616 ^ i := by
  have h1 := tNew_val hm ha q (words6 (numL m)) rfl i (n + 1) f h
  unfold mQ at hq
  rw [mCar_last, hq, words6_val, val6_numL] at h1
  simpa using h1
theorem mQ_all (q : UInt64) (m : Num) (i n : Nat) (f : Nat → UInt64) (h : i + 6 + (n + 1) = 12) (hq : mQ H L C q (words6 (numL m)) i n f = true) :
    tV (tNew H L S C q (words6 (numL m)) i (n + 1) f) + 18446744073709551616 ^ 12 = tV f + q.toNat * m.val * 18446744073709551616 ^ i := by
  have h1 := tNew_val hm ha q (words6 (numL m)) rfl i (n + 1) f (by omega)
  unfold mQ at hq
  rw [mCar_last, hq, words6_val, val6_numL, h] at h1
  simpa using h1
variable (ht : TblOK Try.prog (tblMm H L S C)) (a b m : Num) (v : UInt64)
include ht
theorem mRow0 (f : Nat → UInt64) (o : Option UInt64) (ho : topN o + 1 < 18446744073709551616) (h00 : o = none) : ∃ (f' : Nat → UInt64) (o' : Option UInt64), tV f' + 18446744073709551616 ^ 12 * topN o' = tV f + 18446744073709551616 ^ 12 * topN o + (qW f 0 v).toNat * m.val * 18446744073709551616 ^ 0 ∧ topN o' ≤ topN o + 1 ∧
    ∀ {old : Addr → Option Value} {k : Cfg A}, k.P = Try.prog → k.gl = (fun _ => none) → k.old = old → k.ys = [] → Round k (loopNo Try.f23 7) (mS a b m v 0 f o) .normal (mS a b m v 1 f' o') := by
  subst h00
  cases h0 : mQ H L C (qW f 0 v) (words6 (numL m)) 0 0 f with
  | false =>
    have e := mQ_exit hm ha (qW f 0 v) m 0 0 f (by omega) h0
    exact ⟨_, none, by rw [e]; omega, by omega, fun e1 e2 e3 e4 => mRN0_1 H L S C ht a b m v e1 e2 e3 e4 f h0⟩
  | true =>
    cases h1 : mQ H L C (qW f 0 v) (words6 (numL m)) 0 1 f with
    | false =>
      have e := mQ_exit hm ha (qW f 0 v) m 0 1 f (by omega) h1
      exact ⟨_, none, by rw [e]; omega, by omega, fun e1 e2 e3 e4 => mRN0_2 H L S C ht a b m v e1 e2 e3 e4 f h0 h1⟩
    | true =>
      cases h2 : mQ H L C (qW f 0 v) (words6 (numL m)) 0 2 f with
      | false =>
        have e := mQ_exit hm ha (qW f 0 v) m 0 2 f (by omega) h2
        exact ⟨_, none, by rw [e]; omega, by omega, fun e1 e2 e3 e4 => mRN0_3 H L S C ht a b m v e1 e2 e3 e4 f h0 h1 h2⟩
      | true =>
        cases h3 : mQ H L C (qW f 0 v) (words6 (numL m)) 0 3 f with
        | false =>
          have e := mQ_exit hm ha (qW f 0 v) m 0 3 f (by omega) h3
          exact ⟨_, none, by rw [e]; omega, by omega, fun e1 e2 e3 e4 => mRN0_4 H L S C ht a b m v e1 e2 e3 e4 f h0 h1 h2 h3⟩
        | true =>
          cases h4 : mQ H L C (qW f 0 v) (words6 (numL m)) 0 4 f with
          | false =>
            have e := mQ_exit hm ha (qW f 0 v) m 0 4 f (by omega) h4
            exact ⟨_, none, by rw [e]; omega, by omega, fun e1 e2 e3 e4 => mRN0_5 H L S C ht a b m v e1 e2 e3 e4 f h0 h1 h2 h3 h4⟩
          | true =>
            cases h5 : mQ H L C (qW f 0 v) (words6 (numL m)) 0 5 f with
            | false =>
              have e := mQ_exit hm ha (qW f 0 v) m 0 5 f (by omega) h5
              exact ⟨_, none, by rw [e]; omega, by omega, fun e1 e2 e3 e4 => mRN0_6 H L S C ht a b m v e1 e2 e3 e4 f h0 h1 h2 h3 h4 h5⟩
            | true =>
              have e := mQ_all hm ha (qW f 0 v) m 0 5 f (by omega) h5
              have t := topU_nat none ho
              refine ⟨_, some (topU none (mQ H L C (qW f 0 v) (words6 (numL m)) 0 5 f)), ?_, ?_, fun e1 e2 e3 e4 => mRN0_all H L S C ht a b m v e1 e2 e3 e4 f h0 h1 h2 h3 h4 h5⟩
              · rw [h5]; exact all_fin e t
              · rw [h5]; show (topU none true).toNat ≤ _; rw [t]; exact Nat.le_refl _
theorem mRow1 (f : Nat → UInt64) (o : Option UInt64) (ho : topN o + 1 < 18446744073709551616) : ∃ (f' : Nat → UInt64) (o' : Option UInt64), tV f' + 18446744073709551616 ^ 12 * topN o' = tV f + 18446744073709551616 ^ 12 * topN o + (qW f 1 v).toNat * m.val * 18446744073709551616 ^ 1 ∧ topN o' ≤ topN o + 1 ∧
    ∀ {old : Addr → Option Value} {k : Cfg A}, k.P = Try.prog → k.gl = (fun _ => none) → k.old = old → k.ys = [] → Round k (loopNo Try.f23 7) (mS a b m v 1 f o) .normal (mS a b m v 2 f' o') := by
  cases o with
  | none =>
    cases h0 : mQ H L C (qW f 1 v) (words6 (numL m)) 1 0 f with
    | false =>
      have e := mQ_exit hm ha (qW f 1 v) m 1 0 f (by omega) h0
      exact ⟨_, none, by rw [e]; omega, by omega, fun e1 e2 e3 e4 => mRN1_1 H L S C ht a b m v e1 e2 e3 e4 f h0⟩
    | true =>
      cases h1 : mQ H L C (qW f 1 v) (words6 (numL m)) 1 1 f with
      | false =>
        have e := mQ_exit hm ha (qW f 1 v) m 1 1 f (by omega) h1
        exact ⟨_, none, by rw [e]; omega, by omega, fun e1 e2 e3 e4 => mRN1_2 H L S C ht a b m v e1 e2 e3 e4 f h0 h1⟩
      | true =>
        cases h2 : mQ H L C (qW f 1 v) (words6 (numL m)) 1 2 f with
        | false =>
          have e := mQ_exit hm ha (qW f 1 v) m 1 2 f (by omega) h2
          exact ⟨_, none, by rw [e]; omega, by omega, fun e1 e2 e3 e4 => mRN1_3 H L S C ht a b m v e1 e2 e3 e4 f h0 h1 h2⟩
        | true =>
          cases h3 : mQ H L C (qW f 1 v) (words6 (numL m)) 1 3 f with
          | false =>
            have e := mQ_exit hm ha (qW f 1 v) m 1 3 f (by omega) h3
            exact ⟨_, none, by rw [e]; omega, by omega, fun e1 e2 e3 e4 => mRN1_4 H L S C ht a b m v e1 e2 e3 e4 f h0 h1 h2 h3⟩
          | true =>
            cases h4 : mQ H L C (qW f 1 v) (words6 (numL m)) 1 4 f with
            | false =>
              have e := mQ_exit hm ha (qW f 1 v) m 1 4 f (by omega) h4
              exact ⟨_, none, by rw [e]; omega, by omega, fun e1 e2 e3 e4 => mRN1_5 H L S C ht a b m v e1 e2 e3 e4 f h0 h1 h2 h3 h4⟩
            | true =>
              have e := mQ_all hm ha (qW f 1 v) m 1 4 f (by omega) h4
              have t := topU_nat none ho
              refine ⟨_, some (topU none (mQ H L C (qW f 1 v) (words6 (numL m)) 1 4 f)), ?_, ?_, fun e1 e2 e3 e4 => mRN1_all H L S C ht a b m v e1 e2 e3 e4 f h0 h1 h2 h3 h4⟩
              · rw [h4]; exact all_fin e t
              · rw [h4]; show (topU none true).toNat ≤ _; rw [t]; exact Nat.le_refl _
  | some w =>
    cases h0 : mQ H L C (qW f 1 v) (words6 (numL m)) 1 0 f with
    | false =>
      have e := mQ_exit hm ha (qW f 1 v) m 1 0 f (by omega) h0
      exact ⟨_, (some w), by rw [e]; omega, by omega, fun e1 e2 e3 e4 => mRS1_1 H L S C ht a b m v e1 e2 e3 e4 f w h0⟩
    | true =>
      cases h1 : mQ H L C (qW f 1 v) (words6 (numL m)) 1 1 f with
      | false =>
        have e := mQ_exit hm ha (qW f 1 v) m 1 1 f (by omega) h1
        exact ⟨_, (some w), by rw [e]; omega, by omega, fun e1 e2 e3 e4 => mRS1_2 H L S C ht a b m v e1 e2 e3 e4 f w h0 h1⟩
      | true =>
        cases h2 : mQ H L C (qW f 1 v) (words6 (numL m)) 1 2 f with
        | false =>
          have e := mQ_exit hm ha (qW f 1 v) m 1 2 f (by omega) h2
          exact ⟨_, (some w), by rw [e]; omega, by omega, fun e1 e2 e3 e4 => mRS1_3 H L S C ht a b m v e1 e2 e3 e4 f w h0 h1 h2⟩
        | true =>
          cases h3 : mQ H L C (qW f 1 v) (words6 (numL m)) 1 3 f with
          | false =>
            have e := mQ_exit hm ha (qW f 1 v) m 1 3 f (by omega) h3
            exact ⟨_, (some w), by rw [e]; omega, by omega, fun e1 e2 e3 e4 => mRS1_4 H L S C ht a b m v e1 e2 e3 e4 f w h0 h1 h2 h3⟩
          | true =>
            cases h4 : mQ H L C (qW f 1 v) (words6 (numL m)) 1 4 f with
            | false =>
              have e := mQ_exit hm ha (qW f 1 v) m 1 4 f (by omega) h4
              exact ⟨_, (some w), by rw [e]; omega, by omega, fun e1 e2 e3 e4 => mRS1_5 H L S C ht a b m v e1 e2 e3 e4 f w h0 h1 h2 h3 h4⟩
            | true =>
              have e := mQ_all hm ha (qW f 1 v) m 1 4 f (by omega) h4
              have t := topU_nat (some w) ho
              refine ⟨_, some (topU (some w) (mQ H L C (qW f 1 v) (words6 (numL m)) 1 4 f)), ?_, ?_, fun e1 e2 e3 e4 => mRS1_all H L S C ht a b m v e1 e2 e3 e4 f w h0 h1 h2 h3 h4⟩
              · rw [h4]; exact all_fin e t
              · rw [h4]; show (topU (some w) true).toNat ≤ _; rw [t]; exact Nat.le_refl _
theorem mRow2 (f : Nat → UInt64) (o : Option UInt64) (ho : topN o + 1 < 18446744073709551616) : ∃ (f' : Nat → UInt64) (o' : Option UInt64), tV f' + 18446744073709551616 ^ 12 * topN o' = tV f + 18446744073709551616 ^ 12 * topN o + (qW f 2 v).toNat * m.val * 18446744073709551616 ^ 2 ∧ topN o' ≤ topN o + 1 ∧
    ∀ {old : Addr → Option Value} {k : Cfg A}, k.P = Try.prog → k.gl = (fun _ => none) → k.old = old → k.ys = [] → Round k (loopNo Try.f23 7) (mS a b m v 2 f o) .normal (mS a b m v 3 f' o') := by
  cases o with
  | none =>
    cases h0 : mQ H L C (qW f 2 v) (words6 (numL m)) 2 0 f with
    | false =>
      have e := mQ_exit hm ha (qW f 2 v) m 2 0 f (by omega) h0
      exact ⟨_, none, by rw [e]; omega, by omega, fun e1 e2 e3 e4 => mRN2_1 H L S C ht a b m v e1 e2 e3 e4 f h0⟩
    | true =>
      cases h1 : mQ H L C (qW f 2 v) (words6 (numL m)) 2 1 f with
      | false =>
        have e := mQ_exit hm ha (qW f 2 v) m 2 1 f (by omega) h1
        exact ⟨_, none, by rw [e]; omega, by omega, fun e1 e2 e3 e4 => mRN2_2 H L S C ht a b m v e1 e2 e3 e4 f h0 h1⟩
      | true =>
        cases h2 : mQ H L C (qW f 2 v) (words6 (numL m)) 2 2 f with
        | false =>
          have e := mQ_exit hm ha (qW f 2 v) m 2 2 f (by omega) h2
          exact ⟨_, none, by rw [e]; omega, by omega, fun e1 e2 e3 e4 => mRN2_3 H L S C ht a b m v e1 e2 e3 e4 f h0 h1 h2⟩
        | true =>
          cases h3 : mQ H L C (qW f 2 v) (words6 (numL m)) 2 3 f with
          | false =>
            have e := mQ_exit hm ha (qW f 2 v) m 2 3 f (by omega) h3
            exact ⟨_, none, by rw [e]; omega, by omega, fun e1 e2 e3 e4 => mRN2_4 H L S C ht a b m v e1 e2 e3 e4 f h0 h1 h2 h3⟩
          | true =>
            have e := mQ_all hm ha (qW f 2 v) m 2 3 f (by omega) h3
            have t := topU_nat none ho
            refine ⟨_, some (topU none (mQ H L C (qW f 2 v) (words6 (numL m)) 2 3 f)), ?_, ?_, fun e1 e2 e3 e4 => mRN2_all H L S C ht a b m v e1 e2 e3 e4 f h0 h1 h2 h3⟩
            · rw [h3]; exact all_fin e t
            · rw [h3]; show (topU none true).toNat ≤ _; rw [t]; exact Nat.le_refl _
  | some w =>
    cases h0 : mQ H L C (qW f 2 v) (words6 (numL m)) 2 0 f with
    | false =>
      have e := mQ_exit hm ha (qW f 2 v) m 2 0 f (by omega) h0
      exact ⟨_, (some w), by rw [e]; omega, by omega, fun e1 e2 e3 e4 => mRS2_1 H L S C ht a b m v e1 e2 e3 e4 f w h0⟩
    | true =>
      cases h1 : mQ H L C (qW f 2 v) (words6 (numL m)) 2 1 f with
      | false =>
        have e := mQ_exit hm ha (qW f 2 v) m 2 1 f (by omega) h1
        exact ⟨_, (some w), by rw [e]; omega, by omega, fun e1 e2 e3 e4 => mRS2_2 H L S C ht a b m v e1 e2 e3 e4 f w h0 h1⟩
      | true =>
        cases h2 : mQ H L C (qW f 2 v) (words6 (numL m)) 2 2 f with
        | false =>
          have e := mQ_exit hm ha (qW f 2 v) m 2 2 f (by omega) h2
          exact ⟨_, (some w), by rw [e]; omega, by omega, fun e1 e2 e3 e4 => mRS2_3 H L S C ht a b m v e1 e2 e3 e4 f w h0 h1 h2⟩
        | true =>
          cases h3 : mQ H L C (qW f 2 v) (words6 (numL m)) 2 3 f with
          | false =>
            have e := mQ_exit hm ha (qW f 2 v) m 2 3 f (by omega) h3
            exact ⟨_, (some w), by rw [e]; omega, by omega, fun e1 e2 e3 e4 => mRS2_4 H L S C ht a b m v e1 e2 e3 e4 f w h0 h1 h2 h3⟩
          | true =>
            have e := mQ_all hm ha (qW f 2 v) m 2 3 f (by omega) h3
            have t := topU_nat (some w) ho
            refine ⟨_, some (topU (some w) (mQ H L C (qW f 2 v) (words6 (numL m)) 2 3 f)), ?_, ?_, fun e1 e2 e3 e4 => mRS2_all H L S C ht a b m v e1 e2 e3 e4 f w h0 h1 h2 h3⟩
            · rw [h3]; exact all_fin e t
            · rw [h3]; show (topU (some w) true).toNat ≤ _; rw [t]; exact Nat.le_refl _
theorem mRow3 (f : Nat → UInt64) (o : Option UInt64) (ho : topN o + 1 < 18446744073709551616) : ∃ (f' : Nat → UInt64) (o' : Option UInt64), tV f' + 18446744073709551616 ^ 12 * topN o' = tV f + 18446744073709551616 ^ 12 * topN o + (qW f 3 v).toNat * m.val * 18446744073709551616 ^ 3 ∧ topN o' ≤ topN o + 1 ∧
    ∀ {old : Addr → Option Value} {k : Cfg A}, k.P = Try.prog → k.gl = (fun _ => none) → k.old = old → k.ys = [] → Round k (loopNo Try.f23 7) (mS a b m v 3 f o) .normal (mS a b m v 4 f' o') := by
  cases o with
  | none =>
    cases h0 : mQ H L C (qW f 3 v) (words6 (numL m)) 3 0 f with
    | false =>
      have e := mQ_exit hm ha (qW f 3 v) m 3 0 f (by omega) h0
      exact ⟨_, none, by rw [e]; omega, by omega, fun e1 e2 e3 e4 => mRN3_1 H L S C ht a b m v e1 e2 e3 e4 f h0⟩
    | true =>
      cases h1 : mQ H L C (qW f 3 v) (words6 (numL m)) 3 1 f with
      | false =>
        have e := mQ_exit hm ha (qW f 3 v) m 3 1 f (by omega) h1
        exact ⟨_, none, by rw [e]; omega, by omega, fun e1 e2 e3 e4 => mRN3_2 H L S C ht a b m v e1 e2 e3 e4 f h0 h1⟩
      | true =>
        cases h2 : mQ H L C (qW f 3 v) (words6 (numL m)) 3 2 f with
        | false =>
          have e := mQ_exit hm ha (qW f 3 v) m 3 2 f (by omega) h2
          exact ⟨_, none, by rw [e]; omega, by omega, fun e1 e2 e3 e4 => mRN3_3 H L S C ht a b m v e1 e2 e3 e4 f h0 h1 h2⟩
        | true =>
          have e := mQ_all hm ha (qW f 3 v) m 3 2 f (by omega) h2
          have t := topU_nat none ho
          refine ⟨_, some (topU none (mQ H L C (qW f 3 v) (words6 (numL m)) 3 2 f)), ?_, ?_, fun e1 e2 e3 e4 => mRN3_all H L S C ht a b m v e1 e2 e3 e4 f h0 h1 h2⟩
          · rw [h2]; exact all_fin e t
          · rw [h2]; show (topU none true).toNat ≤ _; rw [t]; exact Nat.le_refl _
  | some w =>
    cases h0 : mQ H L C (qW f 3 v) (words6 (numL m)) 3 0 f with
    | false =>
      have e := mQ_exit hm ha (qW f 3 v) m 3 0 f (by omega) h0
      exact ⟨_, (some w), by rw [e]; omega, by omega, fun e1 e2 e3 e4 => mRS3_1 H L S C ht a b m v e1 e2 e3 e4 f w h0⟩
    | true =>
      cases h1 : mQ H L C (qW f 3 v) (words6 (numL m)) 3 1 f with
      | false =>
        have e := mQ_exit hm ha (qW f 3 v) m 3 1 f (by omega) h1
        exact ⟨_, (some w), by rw [e]; omega, by omega, fun e1 e2 e3 e4 => mRS3_2 H L S C ht a b m v e1 e2 e3 e4 f w h0 h1⟩
      | true =>
        cases h2 : mQ H L C (qW f 3 v) (words6 (numL m)) 3 2 f with
        | false =>
          have e := mQ_exit hm ha (qW f 3 v) m 3 2 f (by omega) h2
          exact ⟨_, (some w), by rw [e]; omega, by omega, fun e1 e2 e3 e4 => mRS3_3 H L S C ht a b m v e1 e2 e3 e4 f w h0 h1 h2⟩
        | true =>
          have e := mQ_all hm ha (qW f 3 v) m 3 2 f (by omega) h2
          have t := topU_nat (some w) ho
          refine ⟨_, some (topU (some w) (mQ H L C (qW f 3 v) (words6 (numL m)) 3 2 f)), ?_, ?_, fun e1 e2 e3 e4 => mRS3_all H L S C ht a b m v e1 e2 e3 e4 f w h0 h1 h2⟩
          · rw [h2]; exact all_fin e t
          · rw [h2]; show (topU (some w) true).toNat ≤ _; rw [t]; exact Nat.le_refl _
theorem mRow4 (f : Nat → UInt64) (o : Option UInt64) (ho : topN o + 1 < 18446744073709551616) : ∃ (f' : Nat → UInt64) (o' : Option UInt64), tV f' + 18446744073709551616 ^ 12 * topN o' = tV f + 18446744073709551616 ^ 12 * topN o + (qW f 4 v).toNat * m.val * 18446744073709551616 ^ 4 ∧ topN o' ≤ topN o + 1 ∧
    ∀ {old : Addr → Option Value} {k : Cfg A}, k.P = Try.prog → k.gl = (fun _ => none) → k.old = old → k.ys = [] → Round k (loopNo Try.f23 7) (mS a b m v 4 f o) .normal (mS a b m v 5 f' o') := by
  cases o with
  | none =>
    cases h0 : mQ H L C (qW f 4 v) (words6 (numL m)) 4 0 f with
    | false =>
      have e := mQ_exit hm ha (qW f 4 v) m 4 0 f (by omega) h0
      exact ⟨_, none, by rw [e]; omega, by omega, fun e1 e2 e3 e4 => mRN4_1 H L S C ht a b m v e1 e2 e3 e4 f h0⟩
    | true =>
      cases h1 : mQ H L C (qW f 4 v) (words6 (numL m)) 4 1 f with
      | false =>
        have e := mQ_exit hm ha (qW f 4 v) m 4 1 f (by omega) h1
        exact ⟨_, none, by rw [e]; omega, by omega, fun e1 e2 e3 e4 => mRN4_2 H L S C ht a b m v e1 e2 e3 e4 f h0 h1⟩
      | true =>
        have e := mQ_all hm ha (qW f 4 v) m 4 1 f (by omega) h1
        have t := topU_nat none ho
        refine ⟨_, some (topU none (mQ H L C (qW f 4 v) (words6 (numL m)) 4 1 f)), ?_, ?_, fun e1 e2 e3 e4 => mRN4_all H L S C ht a b m v e1 e2 e3 e4 f h0 h1⟩
        · rw [h1]; exact all_fin e t
        · rw [h1]; show (topU none true).toNat ≤ _; rw [t]; exact Nat.le_refl _
  | some w =>
    cases h0 : mQ H L C (qW f 4 v) (words6 (numL m)) 4 0 f with
    | false =>
      have e := mQ_exit hm ha (qW f 4 v) m 4 0 f (by omega) h0
      exact ⟨_, (some w), by rw [e]; omega, by omega, fun e1 e2 e3 e4 => mRS4_1 H L S C ht a b m v e1 e2 e3 e4 f w h0⟩
    | true =>
      cases h1 : mQ H L C (qW f 4 v) (words6 (numL m)) 4 1 f with
      | false =>
        have e := mQ_exit hm ha (qW f 4 v) m 4 1 f (by omega) h1
        exact ⟨_, (some w), by rw [e]; omega, by omega, fun e1 e2 e3 e4 => mRS4_2 H L S C ht a b m v e1 e2 e3 e4 f w h0 h1⟩
      | true =>
        have e := mQ_all hm ha (qW f 4 v) m 4 1 f (by omega) h1
        have t := topU_nat (some w) ho
        refine ⟨_, some (topU (some w) (mQ H L C (qW f 4 v) (words6 (numL m)) 4 1 f)), ?_, ?_, fun e1 e2 e3 e4 => mRS4_all H L S C ht a b m v e1 e2 e3 e4 f w h0 h1⟩
        · rw [h1]; exact all_fin e t
        · rw [h1]; show (topU (some w) true).toNat ≤ _; rw [t]; exact Nat.le_refl _
theorem mRow5 (f : Nat → UInt64) (o : Option UInt64) (ho : topN o + 1 < 18446744073709551616) : ∃ (f' : Nat → UInt64) (o' : Option UInt64), tV f' + 18446744073709551616 ^ 12 * topN o' = tV f + 18446744073709551616 ^ 12 * topN o + (qW f 5 v).toNat * m.val * 18446744073709551616 ^ 5 ∧ topN o' ≤ topN o + 1 ∧
    ∀ {old : Addr → Option Value} {k : Cfg A}, k.P = Try.prog → k.gl = (fun _ => none) → k.old = old → k.ys = [] → Round k (loopNo Try.f23 7) (mS a b m v 5 f o) .normal (mS a b m v 6 f' o') := by
  cases o with
  | none =>
    cases h0 : mQ H L C (qW f 5 v) (words6 (numL m)) 5 0 f with
    | false =>
      have e := mQ_exit hm ha (qW f 5 v) m 5 0 f (by omega) h0
      exact ⟨_, none, by rw [e]; omega, by omega, fun e1 e2 e3 e4 => mRN5_1 H L S C ht a b m v e1 e2 e3 e4 f h0⟩
    | true =>
      have e := mQ_all hm ha (qW f 5 v) m 5 0 f (by omega) h0
      have t := topU_nat none ho
      refine ⟨_, some (topU none (mQ H L C (qW f 5 v) (words6 (numL m)) 5 0 f)), ?_, ?_, fun e1 e2 e3 e4 => mRN5_all H L S C ht a b m v e1 e2 e3 e4 f h0⟩
      · rw [h0]; exact all_fin e t
      · rw [h0]; show (topU none true).toNat ≤ _; rw [t]; exact Nat.le_refl _
  | some w =>
    cases h0 : mQ H L C (qW f 5 v) (words6 (numL m)) 5 0 f with
    | false =>
      have e := mQ_exit hm ha (qW f 5 v) m 5 0 f (by omega) h0
      exact ⟨_, (some w), by rw [e]; omega, by omega, fun e1 e2 e3 e4 => mRS5_1 H L S C ht a b m v e1 e2 e3 e4 f w h0⟩
    | true =>
      have e := mQ_all hm ha (qW f 5 v) m 5 0 f (by omega) h0
      have t := topU_nat (some w) ho
      refine ⟨_, some (topU (some w) (mQ H L C (qW f 5 v) (words6 (numL m)) 5 0 f)), ?_, ?_, fun e1 e2 e3 e4 => mRS5_all H L S C ht a b m v e1 e2 e3 e4 f w h0⟩
      · rw [h0]; exact all_fin e t
      · rw [h0]; show (topU (some w) true).toNat ≤ _; rw [t]; exact Nat.le_refl _
end
end Go.Proofs.Ytaloefkkllebeaa
