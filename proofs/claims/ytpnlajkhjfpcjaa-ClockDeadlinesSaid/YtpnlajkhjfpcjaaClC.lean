/- Clock: deadlines; the chapter's example; the four statements' functions, run on shadows. -/
import Derived.Test.YtpnlajkhjfpcjaaClB
namespace Go.Proofs.Ytpnlajkhjfpcjaa
open Go Go.Sh

def deadline (c : Conf) (slot : UInt64) : T2 UInt64 Int :=
  bif check c != 0 then ⟨0, check c⟩
  else bif ((cond (adcC (adcS (UInt64.ofNat 0) slot ⟨false⟩) (timeout c) ⟨false⟩).on 1 0 : Int) == 1) then ⟨0, 211⟩
  else ⟨adcS (adcS (UInt64.ofNat 0) slot ⟨false⟩) (timeout c) ⟨false⟩, check c⟩

def refDeadline (c : Conf) (slot : UInt64) : T2 UInt64 Int :=
  bif right c then
    bif decide ((slot.toNat : Int) > (u64 (18446744073709551615 - ((u64 (c.s * c.e)).toNat : Int))).toNat) then ⟨0, 211⟩
    else ⟨u64 ((slot.toNat : Int) + (u64 (c.s * c.e)).toNat), 0⟩
  else ⟨0, 210⟩

def tblB : List (Row A) := [rowOf A 10 (fun x : Conf × UInt64 × Unit => epoch x.1 x.2.1), rowOf A 11 (fun x : Conf × UInt64 × Unit => period x.1 x.2.1),
  rowOf A 12 (fun x : Conf × Unit => timeout x.1), rowOf A 15 (fun x : UInt64 × UInt64 × Unit => threshold x.1 x.2.1)] ++ tblA
theorem tblB_ok : TblOK Try.prog tblB := .append (.cons epoch_ok.row (.cons period_ok.row (.cons timeout_ok.row (.cons threshold_ok.row (.nil _))))) tblA_ok

theorem adc_zero (slot : UInt64) : ((cond (adcC (UInt64.ofNat 0) slot ⟨false⟩).on 1 0 : Int) == 1) = false := by
  have h := slot.toNat_lt
  have : (adcC (UInt64.ofNat 0) slot ⟨false⟩).on = false := by
    simp only [adcC, decide_eq_false_iff_not]
    show ¬ 18446744073709551616 ≤ 0 + slot.toNat + 0
    omega
  rw [this]; rfl

theorem deadline_ok : Computes A Try.prog 13 (fun x : Conf × UInt64 × Unit => deadline x.1 x.2.1) := by
  refine computes_of_run tblB_ok Try.func13 (by kernel_rfl) (by kernel_rfl) 6 ?_
  rintro ⟨⟨h, s, e, z⟩, slot, ⟨⟩⟩
  cases hb : (check (h, s, e, z) != 0) with
  | true => exact ⟨says [(23, true)], ⟨0, check (h, s, e, z)⟩, [(check (h, s, e, z) != 0) = true], by kernel_rfl, ⟨hb, trivial⟩, by simp [deadline, hb]⟩
  | false =>
    cases hc : ((cond (adcC (adcS (UInt64.ofNat 0) slot ⟨false⟩) (timeout (h, s, e, z)) ⟨false⟩).on 1 0 : Int) == 1) with
    | true =>
      exact ⟨fun rd t => if Nat.beq t 23 then .take false else if Nat.beq t 31 then .take (Nat.beq rd 2) else .keep, ⟨0, 211⟩,
        [((cond (adcC (adcS (UInt64.ofNat 0) slot ⟨false⟩) (timeout (h, s, e, z)) ⟨false⟩).on 1 0 : Int) == 1) = true, (check (h, s, e, z) != 0) = false, ((cond (adcC (UInt64.ofNat 0) slot ⟨false⟩).on 1 0 : Int) == 1) = false, (check (h, s, e, z) != 0) = false],
        by kernel_rfl, ⟨hc, hb, adc_zero slot, hb, trivial⟩, by simp only [deadline, hb, hc, cond_true, cond_false]⟩
    | false =>
      exact ⟨says [(23, false), (31, false)], ⟨adcS (adcS (UInt64.ofNat 0) slot ⟨false⟩) (timeout (h, s, e, z)) ⟨false⟩, check (h, s, e, z)⟩,
        [((cond (adcC (adcS (UInt64.ofNat 0) slot ⟨false⟩) (timeout (h, s, e, z)) ⟨false⟩).on 1 0 : Int) == 1) = false, (check (h, s, e, z) != 0) = false, ((cond (adcC (UInt64.ofNat 0) slot ⟨false⟩).on 1 0 : Int) == 1) = false, (check (h, s, e, z) != 0) = false],
        by kernel_rfl, ⟨hc, hb, adc_zero slot, hb, trivial⟩, by simp only [deadline, hb, hc, cond_false]⟩

theorem refDeadline_ok : Computes A Try.prog 14 (fun x : Conf × UInt64 × Unit => refDeadline x.1 x.2.1) := by
  refine computes_of_run tblB_ok Try.func14 (by kernel_rfl) (by kernel_rfl) 4 ?_
  rintro ⟨⟨h, s, e, z⟩, slot, ⟨⟩⟩
  cases hb : right (h, s, e, z) with
  | false => exact ⟨says [(8, false)], ⟨0, 210⟩, [right (h, s, e, z) = false], by kernel_rfl, ⟨hb, trivial⟩, by simp only [refDeadline, hb, cond_false]⟩
  | true =>
    cases hc : decide ((slot.toNat : Int) > (u64 (18446744073709551615 - ((u64 ((s.toNat : Int) * e.toNat)).toNat : Int))).toNat) with
    | true => exact ⟨says [(8, true), (18, true)], ⟨0, 211⟩, [decide ((slot.toNat : Int) > (u64 (18446744073709551615 - ((u64 ((s.toNat : Int) * e.toNat)).toNat : Int))).toNat) = true, right (h, s, e, z) = true], by kernel_rfl, ⟨hc, hb, trivial⟩,
        ((cond_true hb).trans (cond_true hc)).symm⟩
    | false => exact ⟨says [(8, true), (18, false)], ⟨u64 ((slot.toNat : Int) + (u64 ((s.toNat : Int) * e.toNat)).toNat), 0⟩, [decide ((slot.toNat : Int) > (u64 (18446744073709551615 - ((u64 ((s.toNat : Int) * e.toNat)).toNat : Int))).toNat) = false, right (h, s, e, z) = true], by kernel_rfl, ⟨hc, hb, trivial⟩,
        ((cond_true hb).trans (cond_false hc)).symm⟩

def tblC : List (Row A) := [rowOf A 13 (fun x : Conf × UInt64 × Unit => deadline x.1 x.2.1), rowOf A 14 (fun x : Conf × UInt64 × Unit => refDeadline x.1 x.2.1)] ++ tblB
theorem tblC_ok : TblOK Try.prog tblC := .append (.cons deadline_ok.row (.cons refDeadline_ok.row (.nil _))) tblB_ok

theorem known_ok : Computes A Try.prog 7 (fun _ : Unit => true) :=
  computes_of_run tblC_ok Try.func7 (by kernel_rfl) (by kernel_rfl) 4 (fun _ => ⟨reckons, true, [], by kernel_rfl, trivial, rfl⟩)

def tblD : List (Row A) := rowOf A 7 (fun _ : Unit => true) :: tblC
theorem tblD_ok : TblOK Try.prog tblD := .cons known_ok.row tblC_ok

theorem thresholds_ok : Computes A Try.prog 5 (fun _ : UInt64 × UInt64 × Unit => true) := by
  refine computes_of_run tblD_ok Try.func5 (by kernel_rfl) (by kernel_rfl) 4 ?_
  rintro ⟨a, b, ⟨⟩⟩
  have e : threshold b a = threshold a b := by
    unfold threshold
    congr 2
    split <;> split <;> omega
  exact ⟨says [(5, true), (14, true), (22, true)], true, [((threshold b a).toNat : Int) == (threshold a b).toNat, ((threshold a b).toNat : Int) == (threshold a b).toNat, true = true], by kernel_rfl, ⟨by simp [e], by simp, rfl, trivial⟩, rfl⟩

/-! ### Numbers -/

theorem u64_nat {z : Int} {n : Nat} (h : z = n) (hn : n < 18446744073709551616) : (u64 z).toNat = n := by
  subst h
  unfold u64
  rw [UInt64.toNat_ofNat_of_lt']
  · omega
  · show _ < 18446744073709551616
    omega

theorem tdiv_nat (a b : Nat) : ((a : Int).tdiv b) = ((a / b : Nat) : Int) := by
  rw [Int.tdiv_eq_ediv_of_nonneg (by omega)]; simp

theorem div_lt_u64 (x : UInt64) (k : Nat) : x.toNat / k < 18446744073709551616 := Nat.lt_of_le_of_lt (Nat.div_le_self _ _) x.toNat_lt

theorem right_bounds {c : Conf} (h : right c = true) : 1 ≤ c.2.1.toNat ∧ c.2.1.toNat ≤ 65536 ∧ 1 ≤ c.2.2.1.toNat ∧ c.2.2.1.toNat ≤ 65536 := by
  obtain ⟨h0, s, e, z⟩ := c
  have h' : (decide ((s.toNat : Int) ≥ 1) && decide ((s.toNat : Int) ≤ 65536) && decide ((e.toNat : Int) ≥ 1) && decide ((e.toNat : Int) ≤ 65536) && pow2 z) = true := h
  simp only [Bool.and_eq_true, decide_eq_true_eq] at h'
  show 1 ≤ s.toNat ∧ s.toNat ≤ 65536 ∧ 1 ≤ e.toNat ∧ e.toNat ≤ 65536
  omega

theorem check_zero {c : Conf} (h : right c = true) : check c = 0 := by rw [check_right, h]; rfl
theorem check_ne {c : Conf} (h : right c = false) : check c = 210 := by rw [check_right, h]; rfl

theorem prod_lt {c : Conf} (h : right c = true) : c.2.1.toNat * c.2.2.1.toNat ≤ 4294967296 := by
  have := right_bounds h
  calc c.2.1.toNat * c.2.2.1.toNat ≤ 65536 * 65536 := Nat.mul_le_mul this.2.1 this.2.2.2
    _ = 4294967296 := rfl

theorem epoch_nat {c : Conf} (h : right c = true) (x : UInt64) : (epoch c x).toNat = x.toNat / c.2.1.toNat := by
  unfold epoch
  rw [check_zero h]
  exact u64_nat (by simp only [Conf.s]; exact tdiv_nat _ _) (div_lt_u64 _ _)

theorem period_nat {c : Conf} (h : right c = true) (x : UInt64) : (period c x).toNat = x.toNat / (c.2.1.toNat * c.2.2.1.toNat) := by
  unfold period
  rw [check_zero h]
  have e1 : (u64 ((x.toNat : Int).tdiv c.s)).toNat = x.toNat / c.2.1.toNat := u64_nat (by simp only [Conf.s]; exact tdiv_nat _ _) (div_lt_u64 _ _)
  show (u64 (((u64 ((x.toNat : Int).tdiv c.s)).toNat : Int).tdiv c.e)).toNat = _
  rw [e1, ← Nat.div_div_eq_div_mul]
  exact u64_nat (by simp only [Conf.e]; exact tdiv_nat _ _) (Nat.lt_of_le_of_lt (Nat.div_le_self _ _) (div_lt_u64 _ _))

theorem timeout_nat {c : Conf} (h : right c = true) : (timeout c).toNat = c.2.1.toNat * c.2.2.1.toNat := by
  unfold timeout
  rw [check_zero h]
  have := prod_lt h
  exact u64_nat (by simp [Conf.s, Conf.e]) (by omega)

theorem span_nat {c : Conf} (h : right c = true) : (u64 (c.s * c.e)).toNat = c.2.1.toNat * c.2.2.1.toNat := by
  have := prod_lt h
  exact u64_nat (by simp [Conf.s, Conf.e]) (by omega)

theorem tells_ok : Computes A Try.prog 3 (fun _ : Conf × UInt64 × Unit => true) := by
  refine computes_of_run tblD_ok Try.func3 (by kernel_rfl) (by kernel_rfl) 4 ?_
  rintro ⟨⟨h, s, e, z⟩, slot, ⟨⟩⟩
  cases hr : right (h, s, e, z) with
  | false =>
    have hc := check_ne hr
    exact ⟨says [(6, true), (9, false), (14, false), (21, false), (29, true), (34, true), (39, true)], true,
      [(((timeout (h, s, e, z)).toNat : Int) == 0) = true, (((period (h, s, e, z) slot).toNat : Int) == 0) = true, (((epoch (h, s, e, z) slot).toNat : Int) == 0) = true, (check (h, s, e, z) != 210) = false,
        (!((check (h, s, e, z) == 0) == false)) = false, right (h, s, e, z) = false, true = true], by kernel_rfl,
      ⟨by simp [timeout, hc], by simp [period, hc], by simp [epoch, hc], by rw [hc]; rfl, by rw [hc]; rfl, hr, rfl, trivial⟩, rfl⟩
  | true =>
    have hc := check_zero hr
    have hb := right_bounds hr
    simp only at hb
    have e1 := epoch_nat hr slot
    have e2 := period_nat hr slot
    have e3 := timeout_nat hr
    have e4 := span_nat hr
    have e5 : (u64 ((slot.toNat : Int).tdiv s.toNat)).toNat = slot.toNat / s.toNat := u64_nat (tdiv_nat _ _) (div_lt_u64 _ _)
    have e6 : (u64 (((u64 ((slot.toNat : Int).tdiv s.toNat)).toNat : Int).tdiv e.toNat)).toNat = slot.toNat / (s.toNat * e.toNat) := by
      rw [e5, ← Nat.div_div_eq_div_mul]
      exact u64_nat (tdiv_nat _ _) (Nat.lt_of_le_of_lt (Nat.div_le_self _ _) (div_lt_u64 _ _))
    simp only [Conf.s, Conf.e] at e4
    exact ⟨says [(6, true), (9, true), (14, false), (48, true), (60, true), (70, true)], true,
      [(((timeout (h, s, e, z)).toNat : Int) == (u64 ((s.toNat : Int) * e.toNat)).toNat) = true, (((period (h, s, e, z) slot).toNat : Int) == (u64 (((u64 ((slot.toNat : Int).tdiv s.toNat)).toNat : Int).tdiv e.toNat)).toNat) = true,
        (e.toNat : Int) ≠ 0, (s.toNat : Int) ≠ 0, (((epoch (h, s, e, z) slot).toNat : Int) == (u64 ((slot.toNat : Int).tdiv s.toNat)).toNat) = true, (s.toNat : Int) ≠ 0,
        (!((check (h, s, e, z) == 0) == true)) = false, right (h, s, e, z) = true, true = true], by kernel_rfl,
      ⟨by rw [e3, e4]; simp, by rw [e2, e6]; simp, by omega, by omega, by rw [e1, e5]; simp, by omega, by rw [hc]; rfl, hr, rfl, trivial⟩, rfl⟩

end Go.Proofs.Ytpnlajkhjfpcjaa
