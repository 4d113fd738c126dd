/- How many bits a word has. -/
import Derived.Test.YtaloefkkllebeaaLi4
set_option linter.unusedVariables false
set_option linter.unusedSimpArgs false
set_option linter.unusedSectionVars false
namespace Go.Proofs.Ytaloefkkllebeaa
open Go Go.Sh
/-- How many bits a number has. -/
def blN (n : Nat) : Nat := if n = 0 then 0 else Nat.log2 n + 1
theorem blN_spec {n : Nat} (h : n ≠ 0) : ∃ k, blN n = k + 1 ∧ 2 ^ k ≤ n ∧ n < 2 ^ (k + 1) := by
  refine ⟨Nat.log2 n, ?_, Nat.log2_self_le h, Nat.lt_log2_self⟩
  unfold blN; rw [if_neg h]
theorem blN_uniq {n k : Nat} (h1 : 2 ^ k ≤ n) (h2 : n < 2 ^ (k + 1)) : blN n = k + 1 := by
  have h0 : n ≠ 0 := by have := Nat.two_pow_pos k; omega
  obtain ⟨j, e, g1, g2⟩ := blN_spec h0
  rw [e]
  have a1 : j < k + 1 := (Nat.pow_lt_pow_iff_right (by decide : 1 < 2)).1 (Nat.lt_of_le_of_lt g1 h2)
  have a2 : k < j + 1 := (Nat.pow_lt_pow_iff_right (by decide : 1 < 2)).1 (Nat.lt_of_le_of_lt h1 g2)
  omega
theorem blN_shift {n k : Nat} (h : 2 ^ k ≤ n) : blN n = k + blN (n / 2 ^ k) := by
  have hp := Nat.two_pow_pos k
  have h0 : n / 2 ^ k ≠ 0 := by have := Nat.div_pos h hp; omega
  obtain ⟨j, e, g1, g2⟩ := blN_spec h0
  rw [e]
  refine blN_uniq (k := k + j) ?_ ?_
  · rw [Nat.pow_add, Nat.mul_comm]
    exact Nat.le_trans (Nat.mul_le_mul_right _ g1) (Nat.div_mul_le_self n _)
  · rw [show k + j + 1 = k + (j + 1) by omega, Nat.pow_add]
    exact (Nat.div_lt_iff_lt_mul hp).1 g2 |> fun h => by rw [Nat.mul_comm]; exact h
theorem blN_le {n k : Nat} (h : n < 2 ^ k) : blN n ≤ k := by
  by_cases h0 : n = 0
  · subst h0; simp [blN]
  · obtain ⟨j, e, g1, g2⟩ := blN_spec h0
    rw [e]
    exact (Nat.pow_lt_pow_iff_right (by decide : 1 < 2)).1 (Nat.lt_of_le_of_lt g1 h)
def tabL : List UInt8 := (List.range 256).map fun v => UInt8.ofNat (blN v)
def shW (x : UInt64) (k : Nat) : UInt64 := UInt64.ofNat (x.toNat / 2 ^ min k IntKind.u64.bits)
def tabZ (x : UInt64) : Int := ((UInt8.ofNat ((x.toNat : Int) % 256).toNat).toNat : Int)
def tabV (x : UInt64) : Int := ((UInt8.ofNat (((tabL.getD (tabZ x).toNat 0).toNat : Int) % 256).toNat).toNat : Int)
theorem tabV_eq (x : UInt64) (h : x.toNat < 256) : tabV x = (blN x.toNat : Int) := by
  have h8 : blN x.toNat ≤ 8 := blN_le (by simpa using h)
  have hz : (tabZ x).toNat = x.toNat := by
    unfold tabZ
    have : ((x.toNat : Int) % 256).toNat = x.toNat := by omega
    rw [this, UInt8.toNat_ofNat_of_lt' (show x.toNat < 256 by omega)]
    rfl
  have ht : tabL.getD x.toNat 0 = UInt8.ofNat (blN x.toNat) := by
    unfold tabL
    rw [List.getD_eq_getElem?_getD, List.getElem?_map, List.getElem?_range h]
    rfl
  unfold tabV
  rw [hz, ht, UInt8.toNat_ofNat_of_lt' (show blN x.toNat < 256 by omega)]
  have : ((blN x.toNat : Int) % 256).toNat = blN x.toNat := by omega
  rw [this, UInt8.toNat_ofNat_of_lt' (show blN x.toNat < 256 by omega)]
theorem tabV_small (x : UInt64) : 0 ≤ tabV x ∧ tabV x < 256 := by
  unfold tabV
  have : ∀ y : UInt8, 0 ≤ (y.toNat : Int) ∧ (y.toNat : Int) < 256 := fun y => by have := y.toNat_lt; omega
  exact this _
theorem tabZ_in (x : UInt64) : 0 ≤ tabZ x ∧ tabZ x < (256 : Nat) := by
  unfold tabZ
  have : ∀ y : UInt8, 0 ≤ (y.toNat : Int) ∧ (y.toNat : Int) < (256 : Nat) := fun y => by have := y.toNat_lt; omega
  exact this _
def geB (x : UInt64) (n : Int) : Bool := decide ((x.toNat : Int) ≥ n)
theorem shW_nat (x : UInt64) (k : Nat) (hk : k ≤ 64) : (shW x k).toNat = x.toNat / 2 ^ k := by
  have hx := x.toNat_lt
  unfold shW
  rw [show min k IntKind.u64.bits = k from Nat.min_eq_left hk, UInt64.toNat_ofNat_of_lt' (Nat.lt_of_le_of_lt (Nat.div_le_self _ _) hx)]
/-- The steps: a word that is shifted where it is at least 2^k. -/
theorem step_bl (x : UInt64) (k : Nat) (hk : k ≤ 64) : (geB x ((2 : Int) ^ k) = true → blN x.toNat = k + blN (shW x k).toNat) ∧ (geB x ((2 : Int) ^ k) = false → x.toNat < 2 ^ k) := by
  have e : ((2 : Int) ^ k) = ((2 ^ k : Nat) : Int) := by simp
  constructor
  · intro h
    have h := of_decide_eq_true h
    rw [e] at h
    rw [shW_nat x k hk]
    exact blN_shift (by omega)
  · intro h
    have h := of_decide_eq_false h
    rw [e] at h
    omega
theorem len64_ok : Computes A Try.prog 66 (fun x : UInt64 × Unit => (blN x.1.toNat : Int)) := by
  refine computes_of_run (TblOK.nil _) Try.func66 (by kernel_rfl) (by kernel_rfl) 8 ?_
  rintro _ ⟨x, ⟨⟩⟩ W -
  have hx := x.toNat_lt
  have wr : ∀ (n : Int) (y : UInt64), 0 ≤ n → n < 256 → WrapI (n + tabV y) := fun n y h1 h2 => by have := tabV_small y; exact wrapI (by omega) (by omega)
  have wr0 : ∀ y : UInt64, WrapI (tabV y) := fun y => by have := tabV_small y; exact wrapI (by omega) (by omega)
  obtain ⟨a1, a2⟩ := step_bl x 32 (by omega)
  cases h1 : geB x 4294967296 with
  | true =>
    have l1 : (shW x 32).toNat < 2 ^ 32 := by rw [shW_nat x 32 (by omega)]; omega
    obtain ⟨b1, b2⟩ := step_bl (shW x 32) 16 (by omega)
    cases h2 : geB (shW x 32) 65536 with
    | true =>
      have l2 : (shW (shW x 32) 16).toNat < 2 ^ 16 := by rw [shW_nat _ 16 (by omega)]; omega
      obtain ⟨c1, c2⟩ := step_bl (shW (shW x 32) 16) 8 (by omega)
      cases h3 : geB (shW (shW x 32) 16) 256 with
      | true =>
        have l3 : (shW (shW (shW x 32) 16) 8).toNat < 256 := by rw [shW_nat _ 8 (by omega)]; omega
        refine ⟨says [(4, true), (8, true), (14, true)], 56 + tabV (shW (shW (shW x 32) 16) 8), [WrapI (56 + tabV (shW (shW (shW x 32) 16) 8)), WrapI (tabV (shW (shW (shW x 32) 16) 8)), 0 ≤ tabZ (shW (shW (shW x 32) 16) 8) ∧ tabZ (shW (shW (shW x 32) 16) 8) < (256 : Nat), geB (shW (shW x 32) 16) 256 = true, geB (shW x 32) 65536 = true, geB x 4294967296 = true], by kernel_rfl, ⟨wr _ _ (by omega) (by omega), wr0 _, tabZ_in _, h3, h2, h1, trivial⟩, ?_⟩
        show _ = (blN x.toNat : Int)
        rw [a1 h1, b1 h2, c1 h3, tabV_eq _ l3]; omega
      | false =>
        have l3 : (shW (shW x 32) 16).toNat < 256 := by have := c2 h3; omega
        refine ⟨says [(4, true), (8, true), (14, false)], 48 + tabV (shW (shW x 32) 16), [WrapI (48 + tabV (shW (shW x 32) 16)), WrapI (tabV (shW (shW x 32) 16)), 0 ≤ tabZ (shW (shW x 32) 16) ∧ tabZ (shW (shW x 32) 16) < (256 : Nat), geB (shW (shW x 32) 16) 256 = false, geB (shW x 32) 65536 = true, geB x 4294967296 = true], by kernel_rfl, ⟨wr _ _ (by omega) (by omega), wr0 _, tabZ_in _, h3, h2, h1, trivial⟩, ?_⟩
        show _ = (blN x.toNat : Int)
        rw [a1 h1, b1 h2, tabV_eq _ l3]; omega
    | false =>
      have l2 := b2 h2
      obtain ⟨c1, c2⟩ := step_bl (shW x 32) 8 (by omega)
      cases h3 : geB (shW x 32) 256 with
      | true =>
        have l3 : (shW (shW x 32) 8).toNat < 256 := by rw [shW_nat _ 8 (by omega)]; omega
        refine ⟨says [(4, true), (8, false), (14, true)], 40 + tabV (shW (shW x 32) 8), [WrapI (40 + tabV (shW (shW x 32) 8)), WrapI (tabV (shW (shW x 32) 8)), 0 ≤ tabZ (shW (shW x 32) 8) ∧ tabZ (shW (shW x 32) 8) < (256 : Nat), geB (shW x 32) 256 = true, geB (shW x 32) 65536 = false, geB x 4294967296 = true], by kernel_rfl, ⟨wr _ _ (by omega) (by omega), wr0 _, tabZ_in _, h3, h2, h1, trivial⟩, ?_⟩
        show _ = (blN x.toNat : Int)
        rw [a1 h1, c1 h3, tabV_eq _ l3]; omega
      | false =>
        have l3 : (shW x 32).toNat < 256 := by have := c2 h3; omega
        refine ⟨says [(4, true), (8, false), (14, false)], 32 + tabV (shW x 32), [WrapI (32 + tabV (shW x 32)), WrapI (tabV (shW x 32)), 0 ≤ tabZ (shW x 32) ∧ tabZ (shW x 32) < (256 : Nat), geB (shW x 32) 256 = false, geB (shW x 32) 65536 = false, geB x 4294967296 = true], by kernel_rfl, ⟨wr _ _ (by omega) (by omega), wr0 _, tabZ_in _, h3, h2, h1, trivial⟩, ?_⟩
        show _ = (blN x.toNat : Int)
        rw [a1 h1, tabV_eq _ l3]; omega
  | false =>
    have l1 := a2 h1
    obtain ⟨b1, b2⟩ := step_bl x 16 (by omega)
    cases h2 : geB x 65536 with
    | true =>
      have l2 : (shW x 16).toNat < 2 ^ 16 := by rw [shW_nat _ 16 (by omega)]; omega
      obtain ⟨c1, c2⟩ := step_bl (shW x 16) 8 (by omega)
      cases h3 : geB (shW x 16) 256 with
      | true =>
        have l3 : (shW (shW x 16) 8).toNat < 256 := by rw [shW_nat _ 8 (by omega)]; omega
        refine ⟨says [(4, false), (8, true), (14, true)], 24 + tabV (shW (shW x 16) 8), [WrapI (24 + tabV (shW (shW x 16) 8)), WrapI (tabV (shW (shW x 16) 8)), 0 ≤ tabZ (shW (shW x 16) 8) ∧ tabZ (shW (shW x 16) 8) < (256 : Nat), geB (shW x 16) 256 = true, geB x 65536 = true, geB x 4294967296 = false], by kernel_rfl, ⟨wr _ _ (by omega) (by omega), wr0 _, tabZ_in _, h3, h2, h1, trivial⟩, ?_⟩
        show _ = (blN x.toNat : Int)
        rw [b1 h2, c1 h3, tabV_eq _ l3]; omega
      | false =>
        have l3 : (shW x 16).toNat < 256 := by have := c2 h3; omega
        refine ⟨says [(4, false), (8, true), (14, false)], 16 + tabV (shW x 16), [WrapI (16 + tabV (shW x 16)), WrapI (tabV (shW x 16)), 0 ≤ tabZ (shW x 16) ∧ tabZ (shW x 16) < (256 : Nat), geB (shW x 16) 256 = false, geB x 65536 = true, geB x 4294967296 = false], by kernel_rfl, ⟨wr _ _ (by omega) (by omega), wr0 _, tabZ_in _, h3, h2, h1, trivial⟩, ?_⟩
        show _ = (blN x.toNat : Int)
        rw [b1 h2, tabV_eq _ l3]; omega
    | false =>
      have l2 := b2 h2
      obtain ⟨c1, c2⟩ := step_bl x 8 (by omega)
      cases h3 : geB x 256 with
      | true =>
        have l3 : (shW x 8).toNat < 256 := by rw [shW_nat _ 8 (by omega)]; omega
        refine ⟨says [(4, false), (8, false), (14, true)], 8 + tabV (shW x 8), [WrapI (8 + tabV (shW x 8)), WrapI (tabV (shW x 8)), 0 ≤ tabZ (shW x 8) ∧ tabZ (shW x 8) < (256 : Nat), geB x 256 = true, geB x 65536 = false, geB x 4294967296 = false], by kernel_rfl, ⟨wr _ _ (by omega) (by omega), wr0 _, tabZ_in _, h3, h2, h1, trivial⟩, ?_⟩
        show _ = (blN x.toNat : Int)
        rw [c1 h3, tabV_eq _ l3]; omega
      | false =>
        have l3 : x.toNat < 256 := by have := c2 h3; omega
        refine ⟨says [(4, false), (8, false), (14, false)], 0 + tabV x, [WrapI (0 + tabV x), WrapI (tabV x), 0 ≤ tabZ x ∧ tabZ x < (256 : Nat), geB x 256 = false, geB x 65536 = false, geB x 4294967296 = false], by kernel_rfl, ⟨wr _ _ (by omega) (by omega), wr0 _, tabZ_in _, h3, h2, h1, trivial⟩, ?_⟩
        show _ = (blN x.toNat : Int)
        rw [tabV_eq _ l3]; omega
end Go.Proofs.Ytaloefkkllebeaa
