/- Clock: the statements ClockDeadlines and ClockPeriods as functions that always answer yes. -/
import Derived.Test.YtpnlajkhjfpcjaaClC
namespace Go.Proofs.Ytpnlajkhjfpcjaa
open Go Go.Sh

theorem add_zero_u64 (slot : UInt64) : adcS (UInt64.ofNat 0) slot ⟨false⟩ = slot := by
  apply UInt64.toNat_inj.1
  have h := slot.toNat_lt
  unfold adcS
  rw [UInt64.toNat_ofNat_of_lt' (Nat.mod_lt _ (by decide))]
  show (0 + slot.toNat + 0) % 18446744073709551616 = slot.toNat
  omega

/-- Both deadlines are the same, and a deadline that is told lies behind the slot. -/
theorem deadline_ref (c : Conf) (slot : UInt64) : deadline c slot = refDeadline c slot := by
  unfold deadline refDeadline
  rw [add_zero_u64]
  cases hr : right c with
  | false => rw [check_ne hr]; rfl
  | true =>
    rw [check_zero hr]
    have hT := timeout_nat hr
    have hS := span_nat hr
    have hp := prod_lt hr
    have hs := slot.toNat_lt
    have hM : (u64 (18446744073709551615 - ((u64 (c.s * c.e)).toNat : Int))).toNat = 18446744073709551615 - c.2.1.toNat * c.2.2.1.toNat := by
      rw [hS]; exact u64_nat (by omega) (by omega)
    rw [hM]
    show (bif ((cond (adcC slot (timeout c) ⟨false⟩).on 1 0 : Int) == 1) then _ else _) = bif _ then _ else _
    by_cases h : slot.toNat > 18446744073709551615 - c.2.1.toNat * c.2.2.1.toNat
    · have h1 : (adcC slot (timeout c) ⟨false⟩).on = true := by
        simp only [adcC, decide_eq_true_eq]; rw [hT]; show _ ≤ _ + 0; omega
      have h2 : decide ((slot.toNat : Int) > ((18446744073709551615 - c.2.1.toNat * c.2.2.1.toNat : Nat) : Int)) = true := by simp; omega
      rw [h1, h2]; rfl
    · have h1 : (adcC slot (timeout c) ⟨false⟩).on = false := by
        simp only [adcC, decide_eq_false_iff_not]; rw [hT]; show ¬ _ ≤ _ + 0; omega
      have h2 : decide ((slot.toNat : Int) > ((18446744073709551615 - c.2.1.toNat * c.2.2.1.toNat : Nat) : Int)) = false := by simp; omega
      rw [h1, h2, hS]
      show (⟨adcS slot (timeout c) ⟨false⟩, 0⟩ : T2 UInt64 Int) = ⟨u64 _, 0⟩
      congr 1
      apply UInt64.toNat_inj.1
      rw [u64_nat (n := slot.toNat + c.2.1.toNat * c.2.2.1.toNat) (by simp) (by omega)]
      unfold adcS
      rw [UInt64.toNat_ofNat_of_lt' (Nat.mod_lt _ (by decide)), hT]
      show (slot.toNat + _ + 0) % 18446744073709551616 = _
      omega

theorem ref_later (c : Conf) (slot : UInt64) (h : ((refDeadline c slot).b != 0) = false) : decide (((refDeadline c slot).a.toNat : Int) > slot.toNat) = true := by
  revert h
  unfold refDeadline
  cases hr : right c with
  | false => intro h; exact absurd (show ((210 : Int) != 0) = false from h) (by decide)
  | true =>
    have hS := span_nat hr
    have hb := right_bounds hr
    have hp := prod_lt hr
    have h1 : 1 ≤ c.2.1.toNat * c.2.2.1.toNat := Nat.mul_le_mul hb.1 hb.2.2.1
    have hM : (u64 (18446744073709551615 - ((u64 (c.s * c.e)).toNat : Int))).toNat = 18446744073709551615 - c.2.1.toNat * c.2.2.1.toNat := by
      rw [hS]; exact u64_nat (by omega) (by omega)
    rw [hM, hS]
    show ((bif _ then _ else _ : T2 UInt64 Int).b != 0) = false → decide (((bif _ then _ else _ : T2 UInt64 Int).a.toNat : Int) > _) = true
    by_cases h : slot.toNat > 18446744073709551615 - c.2.1.toNat * c.2.2.1.toNat
    · have h2 : decide ((slot.toNat : Int) > ((18446744073709551615 - c.2.1.toNat * c.2.2.1.toNat : Nat) : Int)) = true := by simp; omega
      rw [h2]; intro h; exact absurd (show ((211 : Int) != 0) = false from h) (by decide)
    · have h2 : decide ((slot.toNat : Int) > ((18446744073709551615 - c.2.1.toNat * c.2.2.1.toNat : Nat) : Int)) = false := by simp; omega
      rw [h2]
      intro _
      show decide (((u64 ((slot.toNat : Int) + ((c.2.1.toNat * c.2.2.1.toNat : Nat) : Int))).toNat : Int) > slot.toNat) = true
      rw [u64_nat (n := slot.toNat + c.2.1.toNat * c.2.2.1.toNat) (by simp) (by omega)]
      simp; omega

theorem tmod_u64 (a : UInt64) (b : Int) (hb : 0 ≤ b) : IntKind.u64.wrap ((a.toNat : Int).tmod b) = (a.toNat : Int).tmod b := by
  have h := a.toNat_lt
  rw [Int.tmod_eq_emod_of_nonneg (by omega)]
  show (_ : Int) % 18446744073709551616 = _
  have h1 : (a.toNat : Int) % b ≤ a.toNat := by
    by_cases h0 : b = 0
    · simp [h0]
    · obtain ⟨n, rfl⟩ := Int.eq_ofNat_of_zero_le hb
      have := Nat.mod_le a.toNat n
      omega
  have h2 : 0 ≤ (a.toNat : Int) % b := by
    by_cases h0 : b = 0
    · simp [h0]
    · exact Int.emod_nonneg _ h0
  omega

theorem deadlines_ok : Computes A Try.prog 4 (fun _ : Conf × UInt64 × Bool × Unit => true) := by
  refine computes_of_run tblD_ok Try.func4 (by kernel_rfl) (by kernel_rfl) 4 ?_
  rintro ⟨⟨h, s, e, z⟩, slot, far, ⟨⟩⟩
  cases hf : far with
  | true =>
    let sl : UInt64 := u64 (18446744073709551615 - ((u64 ((slot.toNat : Int).tmod 100000)).toNat : Int))
    have e0 := deadline_ref (h, s, e, z) sl
    have w := tmod_u64 slot 100000 (by decide)
    cases hb : ((refDeadline (h, s, e, z) sl).b != 0) with
    | true =>
      exact ⟨says [(11, true), (13, true), (31, true), (35, true), (39, true)], true,
        [((refDeadline (h, s, e, z) sl).b != 0) = true, ((deadline (h, s, e, z) sl).b == (refDeadline (h, s, e, z) sl).b) = true, (((deadline (h, s, e, z) sl).a.toNat : Int) == (refDeadline (h, s, e, z) sl).a.toNat) = true,
          (100000 : Int) ≠ 0 ∧ IntKind.u64.wrap ((slot.toNat : Int).tmod 100000) = (slot.toNat : Int).tmod 100000, true = true, true = true], by kernel_rfl,
        ⟨hb, by rw [e0]; simp, by rw [e0]; simp, ⟨by decide, w⟩, rfl, rfl, trivial⟩, rfl⟩
    | false =>
      exact ⟨says [(11, true), (13, true), (31, true), (35, true), (39, false), (43, true)], true,
        [decide (((deadline (h, s, e, z) sl).a.toNat : Int) > sl.toNat) = true, ((refDeadline (h, s, e, z) sl).b != 0) = false, ((deadline (h, s, e, z) sl).b == (refDeadline (h, s, e, z) sl).b) = true, (((deadline (h, s, e, z) sl).a.toNat : Int) == (refDeadline (h, s, e, z) sl).a.toNat) = true,
          (100000 : Int) ≠ 0 ∧ IntKind.u64.wrap ((slot.toNat : Int).tmod 100000) = (slot.toNat : Int).tmod 100000, true = true, true = true], by kernel_rfl,
        ⟨by rw [e0]; exact ref_later _ _ hb, hb, by rw [e0]; simp, by rw [e0]; simp, ⟨by decide, w⟩, rfl, rfl, trivial⟩, rfl⟩
  | false =>
    have e0 := deadline_ref (h, s, e, z) slot
    cases hb : ((refDeadline (h, s, e, z) slot).b != 0) with
    | true =>
      exact ⟨says [(11, true), (13, false), (31, true), (35, true), (39, true)], true,
        [((refDeadline (h, s, e, z) slot).b != 0) = true, ((deadline (h, s, e, z) slot).b == (refDeadline (h, s, e, z) slot).b) = true, (((deadline (h, s, e, z) slot).a.toNat : Int) == (refDeadline (h, s, e, z) slot).a.toNat) = true,
          false = false, true = true], by kernel_rfl,
        ⟨hb, by rw [e0]; simp, by rw [e0]; simp, rfl, rfl, trivial⟩, rfl⟩
    | false =>
      exact ⟨says [(11, true), (13, false), (31, true), (35, true), (39, false), (43, true)], true,
        [decide (((deadline (h, s, e, z) slot).a.toNat : Int) > slot.toNat) = true, ((refDeadline (h, s, e, z) slot).b != 0) = false, ((deadline (h, s, e, z) slot).b == (refDeadline (h, s, e, z) slot).b) = true, (((deadline (h, s, e, z) slot).a.toNat : Int) == (refDeadline (h, s, e, z) slot).a.toNat) = true,
          false = false, true = true], by kernel_rfl,
        ⟨by rw [e0]; exact ref_later _ _ hb, hb, by rw [e0]; simp, by rw [e0]; simp, rfl, rfl, trivial⟩, rfl⟩

/-! ### Periods -/

theorem mul_div_pred {T n : Nat} (hT : 1 ≤ T) (hn : 1 ≤ n) : (T * n - 1) / T = n - 1 := by
  obtain ⟨m, rfl⟩ := Nat.exists_eq_add_of_le hn
  have : T * (1 + m) - 1 = T * m + (T - 1) := by rw [Nat.mul_add]; omega
  rw [this, Nat.mul_add_div (by omega), Nat.div_eq_of_lt (by omega)]
  omega

theorem periods_ok : Computes A Try.prog 6 (fun _ : Conf × UInt64 × Unit => true) := by
  refine computes_of_run tblD_ok Try.func6 (by kernel_rfl) (by kernel_rfl) 4 ?_
  rintro ⟨⟨h, s, e, z⟩, slot, ⟨⟩⟩
  cases hr : right (h, s, e, z) with
  | false => exact ⟨says [(8, true), (11, false)], true, [right (h, s, e, z) = false, true = true], by kernel_rfl, ⟨hr, rfl, trivial⟩, rfl⟩
  | true =>
    have hb := right_bounds hr
    have hp := prod_lt hr
    have hS := span_nat hr
    simp only [Conf.s, Conf.e] at hb hp hS
    have h1 : 1 ≤ s.toNat * e.toNat := Nat.mul_le_mul hb.1 hb.2.2.1
    let T : UInt64 := u64 ((s.toNat : Int) * e.toNat)
    let n : UInt64 := period (h, s, e, z) slot
    let f : UInt64 := u64 ((slot.toNat : Int) - ((u64 ((slot.toNat : Int).tmod T.toNat)).toNat : Int))
    have hT : T.toNat = s.toNat * e.toNat := hS
    have hn : n.toNat = slot.toNat / T.toNat := by rw [hT]; exact period_nat hr slot
    have hsl := slot.toNat_lt
    have hdm := Nat.div_add_mod slot.toNat T.toNat
    have hml := Nat.mod_lt slot.toNat (show 0 < T.toNat by omega)
    have hf : f.toNat = T.toNat * n.toNat := by
      have a1 : (u64 ((slot.toNat : Int).tmod T.toNat)).toNat = slot.toNat % T.toNat := u64_nat (by rw [Int.tmod_eq_emod_of_nonneg (by omega)]; simp) (by omega)
      show (u64 _).toNat = _
      rw [a1, hn]
      exact u64_nat (by omega) (by omega)
    have hpn : ∀ x : UInt64, (period (h, s, e, z) x).toNat = x.toNat / T.toNat := fun x => by rw [hT]; exact period_nat hr x
    have hff : (period (h, s, e, z) f).toNat = n.toNat := by rw [hpn, hf]; exact Nat.mul_div_cancel_left _ (by omega)
    have v1 : (((period (h, s, e, z) f).toNat : Int) != n.toNat) = false := by rw [hff]; simp
    have v0 : ((T.toNat : Int) ≠ 0 ∧ IntKind.u64.wrap ((slot.toNat : Int).tmod T.toNat) = (slot.toNat : Int).tmod T.toNat) := ⟨by omega, tmod_u64 _ _ (by omega)⟩
    have hM : (u64 (18446744073709551615 - (T.toNat : Int))).toNat = 18446744073709551615 - T.toNat := u64_nat (by omega) (by omega)
    have hnl : n.toNat ≤ slot.toNat := by rw [hn]; exact Nat.div_le_self _ _
    have hle : n.toNat ≤ T.toNat * n.toNat := Nat.le_mul_of_pos_left _ (by omega)
    have hfs : T.toNat * n.toNat ≤ slot.toNat := by rw [hn]; exact Nat.mul_div_le _ _
    have vlast : ∀ hq : decide ((f.toNat : Int) > (u64 (18446744073709551615 - (T.toNat : Int))).toNat) = true, (((period (h, s, e, z) (UInt64.ofNat 18446744073709551615)).toNat : Int) == n.toNat) = true := by
      intro hq
      rw [hM, hf] at hq
      rw [hpn]
      have : (UInt64.ofNat 18446744073709551615).toNat / T.toNat = n.toNat := by
        have e1 : 18446744073709551615 = T.toNat * n.toNat + (18446744073709551615 - T.toNat * n.toNat) := by omega
        show 18446744073709551615 / T.toNat = _
        rw [e1, Nat.mul_add_div (by omega), Nat.div_eq_of_lt (by simp at hq; omega)]
        omega
      rw [this]; simp
    have vnext : ∀ hq : decide ((f.toNat : Int) > (u64 (18446744073709551615 - (T.toNat : Int))).toNat) = false,
        (((period (h, s, e, z) (u64 ((f.toNat : Int) + T.toNat))).toNat : Int) == (u64 ((n.toNat : Int) + 1)).toNat) = true ∧
        (((period (h, s, e, z) (u64 (((u64 ((f.toNat : Int) + T.toNat)).toNat : Int) - 1))).toNat : Int) == n.toNat) = true := by
      intro hq
      rw [hM, hf] at hq
      simp at hq
      have a1 : (u64 ((f.toNat : Int) + T.toNat)).toNat = T.toNat * n.toNat + T.toNat := u64_nat (by rw [hf]; omega) (by omega)
      have a2 : (u64 ((n.toNat : Int) + 1)).toNat = n.toNat + 1 := u64_nat (by omega) (by omega)
      have a3 : (u64 (((u64 ((f.toNat : Int) + T.toNat)).toNat : Int) - 1)).toNat = T.toNat * n.toNat + (T.toNat - 1) := by rw [a1]; exact u64_nat (by omega) (by omega)
      have b1 := hpn (u64 ((f.toNat : Int) + T.toNat))
      have b2 := hpn (u64 (((u64 ((f.toNat : Int) + T.toNat)).toNat : Int) - 1))
      rw [a1, Nat.mul_add_div (by omega), Nat.div_self (by omega)] at b1
      rw [a3, Nat.mul_add_div (by omega), Nat.div_eq_of_lt (show T.toNat - 1 < T.toNat by omega)] at b2
      rw [b1, b2, a2]
      simp
    cases hz : decide ((f.toNat : Int) > 0) with
    | true =>
      have v2 : (((period (h, s, e, z) (u64 ((f.toNat : Int) - 1))).toNat : Int) != (u64 ((n.toNat : Int) - 1)).toNat) = false := by
        rw [hf] at hz
        simp at hz
        have hn1 : 1 ≤ n.toNat := by rcases Nat.eq_zero_or_pos n.toNat with h0 | h0; · rw [h0] at hz; simp at hz
                                     · exact h0
        have a1 : (u64 ((f.toNat : Int) - 1)).toNat = T.toNat * n.toNat - 1 := u64_nat (by rw [hf]; omega) (by omega)
        have a2 : (u64 ((n.toNat : Int) - 1)).toNat = n.toNat - 1 := u64_nat (by omega) (by omega)
        rw [hpn, a1, a2, mul_div_pred (by omega) hn1]; simp
      cases hq : decide ((f.toNat : Int) > (u64 (18446744073709551615 - (T.toNat : Int))).toNat) with
      | true =>
        exact ⟨says [(8, true), (11, true), (30, false), (33, true), (41, false), (47, true), (51, true)], true,
          [(((period (h, s, e, z) (UInt64.ofNat 18446744073709551615)).toNat : Int) == n.toNat) = true, decide ((f.toNat : Int) > (u64 (18446744073709551615 - (T.toNat : Int))).toNat) = true,
            (((period (h, s, e, z) (u64 ((f.toNat : Int) - 1))).toNat : Int) != (u64 ((n.toNat : Int) - 1)).toNat) = false, decide ((f.toNat : Int) > 0) = true, (((period (h, s, e, z) f).toNat : Int) != n.toNat) = false,
            ((T.toNat : Int) ≠ 0 ∧ IntKind.u64.wrap ((slot.toNat : Int).tmod T.toNat) = (slot.toNat : Int).tmod T.toNat), right (h, s, e, z) = true, true = true], by kernel_rfl,
          ⟨vlast hq, hq, v2, hz, v1, v0, hr, rfl, trivial⟩, rfl⟩
      | false =>
        exact ⟨says [(8, true), (11, true), (30, false), (33, true), (41, false), (47, false), (59, true), (68, true)], true,
          [(((period (h, s, e, z) (u64 (((u64 ((f.toNat : Int) + T.toNat)).toNat : Int) - 1))).toNat : Int) == n.toNat) = true, (((period (h, s, e, z) (u64 ((f.toNat : Int) + T.toNat))).toNat : Int) == (u64 ((n.toNat : Int) + 1)).toNat) = true, decide ((f.toNat : Int) > (u64 (18446744073709551615 - (T.toNat : Int))).toNat) = false,
            (((period (h, s, e, z) (u64 ((f.toNat : Int) - 1))).toNat : Int) != (u64 ((n.toNat : Int) - 1)).toNat) = false, decide ((f.toNat : Int) > 0) = true, (((period (h, s, e, z) f).toNat : Int) != n.toNat) = false,
            ((T.toNat : Int) ≠ 0 ∧ IntKind.u64.wrap ((slot.toNat : Int).tmod T.toNat) = (slot.toNat : Int).tmod T.toNat), right (h, s, e, z) = true, true = true], by kernel_rfl,
          ⟨(vnext hq).2, (vnext hq).1, hq, v2, hz, v1, v0, hr, rfl, trivial⟩, rfl⟩
    | false =>
      cases hq : decide ((f.toNat : Int) > (u64 (18446744073709551615 - (T.toNat : Int))).toNat) with
      | true =>
        exact ⟨says [(8, true), (11, true), (30, false), (33, false), (47, true), (51, true)], true,
          [(((period (h, s, e, z) (UInt64.ofNat 18446744073709551615)).toNat : Int) == n.toNat) = true, decide ((f.toNat : Int) > (u64 (18446744073709551615 - (T.toNat : Int))).toNat) = true,
            decide ((f.toNat : Int) > 0) = false, (((period (h, s, e, z) f).toNat : Int) != n.toNat) = false,
            ((T.toNat : Int) ≠ 0 ∧ IntKind.u64.wrap ((slot.toNat : Int).tmod T.toNat) = (slot.toNat : Int).tmod T.toNat), right (h, s, e, z) = true, true = true], by kernel_rfl,
          ⟨vlast hq, hq, hz, v1, v0, hr, rfl, trivial⟩, rfl⟩
      | false =>
        exact ⟨says [(8, true), (11, true), (30, false), (33, false), (47, false), (59, true), (68, true)], true,
          [(((period (h, s, e, z) (u64 (((u64 ((f.toNat : Int) + T.toNat)).toNat : Int) - 1))).toNat : Int) == n.toNat) = true, (((period (h, s, e, z) (u64 ((f.toNat : Int) + T.toNat))).toNat : Int) == (u64 ((n.toNat : Int) + 1)).toNat) = true, decide ((f.toNat : Int) > (u64 (18446744073709551615 - (T.toNat : Int))).toNat) = false,
            decide ((f.toNat : Int) > 0) = false, (((period (h, s, e, z) f).toNat : Int) != n.toNat) = false,
            ((T.toNat : Int) ≠ 0 ∧ IntKind.u64.wrap ((slot.toNat : Int).tmod T.toNat) = (slot.toNat : Int).tmod T.toNat), right (h, s, e, z) = true, true = true], by kernel_rfl,
          ⟨(vnext hq).2, (vnext hq).1, hq, hz, v1, v0, hr, rfl, trivial⟩, rfl⟩

end Go.Proofs.Ytpnlajkhjfpcjaa
