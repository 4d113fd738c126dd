/- Clock: epochs, periods, time-outs, deadlines, thresholds, run on shadows. -/
import Derived.Test.YtpnlajkhjfpcjaaClR
namespace Go.Proofs.Ytpnlajkhjfpcjaa
open Go Go.Sh

def u64 (z : Int) : UInt64 := UInt64.ofNat (z % 18446744073709551616).toNat

/-- bits.Add64. -/
def adcS (x y : UInt64) (c : Cy) : UInt64 := UInt64.ofNat ((x.toNat + y.toNat + (cond c.on 1 0)) % 18446744073709551616)
def adcC (x y : UInt64) (c : Cy) : Cy := ⟨decide (18446744073709551616 ≤ x.toNat + y.toNat + (cond c.on 1 0))⟩

theorem add64_ok : Computes A Try.prog 16 (fun x : UInt64 × UInt64 × Cy × Unit => (T2.mk (adcS x.1 x.2.1 x.2.2.1) (adcC x.1 x.2.1 x.2.2.1))) := by
  refine computes_extern Try.func16 (by kernel_rfl) (by kernel_rfl) (by kernel_rfl) (en := add64Entry) (by kernel_rfl) ?_
  rintro ⟨x, y, ⟨c⟩, ⟨⟩⟩ W
  have hx := x.toNat_lt
  have hy := y.toNat_lt
  have h := run_add64 (P := Try.prog) x.toNat y.toNat (cond c 1 0) (by omega) (by omega) (by cases c <;> simp) (by cases c <;> simp) W
  refine h.trans ?_
  show Result.ok (Value.tuple #[.int .u64 _, .int .u64 _]) W = Result.ok (Value.tuple #[.int .u64 ((adcS x y ⟨c⟩).toNat : Int), .int .u64 (cond (adcC x y ⟨c⟩).on 1 0)]) W
  congr 4
  · simp only [adcS]
    rw [UInt64.toNat_ofNat_of_lt' (Nat.mod_lt _ (by decide))]
    cases c <;> simp
  · simp only [adcC, List.cons.injEq, Value.int.injEq, true_and, and_true]
    by_cases hc : 18446744073709551616 ≤ x.toNat + y.toNat + (cond c 1 0)
    · rw [decide_eq_true hc]
      cases c <;> simp at hc ⊢ <;> omega
    · rw [decide_eq_false hc]
      cases c <;> simp at hc ⊢ <;> omega

def epoch (c : Conf) (slot : UInt64) : UInt64 := bif check c != 0 then 0 else u64 ((slot.toNat : Int).tdiv c.s)
def period (c : Conf) (slot : UInt64) : UInt64 := bif check c != 0 then 0 else u64 (((u64 ((slot.toNat : Int).tdiv c.s)).toNat : Int).tdiv c.e)
def timeout (c : Conf) : UInt64 := bif check c != 0 then 0 else u64 (c.s * c.e)
def threshold (a b : UInt64) : UInt64 := u64 ((if (b.toNat : Int) > a.toNat then (b.toNat : Int) else a.toNat).tdiv 2)

def tblA : List (Row A) := [rowOf A 9 (fun x : Conf × Unit => check x.1), rowOf A 8 (fun x : Conf × Unit => right x.1),
  rowOf A 16 (fun x : UInt64 × UInt64 × Cy × Unit => (T2.mk (adcS x.1 x.2.1 x.2.2.1) (adcC x.1 x.2.1 x.2.2.1)))]
theorem tblA_ok : TblOK Try.prog tblA := .cons check_ok.row (.cons right_ok.row (.cons add64_ok.row (.nil _)))

theorem check_right (c : Conf) : check c = bif right c then 0 else 210 := by
  obtain ⟨h, s, e, z⟩ := c
  unfold check right Conf.s Conf.e Conf.z
  simp only
  by_cases hz : 1 ≤ z ∧ z ≤ 512
  · have key : ∀ n : Fin 513, 1 ≤ n.val → (land (n.val : Int) != 0) = !pow2 (n.val : Int) := by decide +kernel
    obtain ⟨n, rfl⟩ := Int.eq_ofNat_of_zero_le (show 0 ≤ z by omega)
    have k := key ⟨n, by omega⟩ (by simp; omega)
    simp only at k
    rw [k]
    have e5 : decide ((n : Int) < 1) = false := by simp; omega
    have e6 : decide ((n : Int) > 512) = false := by simp; omega
    rw [e5, e6]
    have f1 : ((s.toNat : Int) == 0) = !decide ((s.toNat : Int) ≥ 1) := by rw [Bool.eq_iff_iff]; simp; omega
    have f2 : decide ((s.toNat : Int) > 65536) = !decide ((s.toNat : Int) ≤ 65536) := by rw [Bool.eq_iff_iff]; simp
    have f3 : ((e.toNat : Int) == 0) = !decide ((e.toNat : Int) ≥ 1) := by rw [Bool.eq_iff_iff]; simp; omega
    have f4 : decide ((e.toNat : Int) > 65536) = !decide ((e.toNat : Int) ≤ 65536) := by rw [Bool.eq_iff_iff]; simp
    rw [f1, f2, f3, f4]
    generalize decide ((s.toNat : Int) ≥ 1) = b1
    generalize decide ((s.toNat : Int) ≤ 65536) = b2
    generalize decide ((e.toNat : Int) ≥ 1) = b3
    generalize decide ((e.toNat : Int) ≤ 65536) = b4
    generalize pow2 (n : Int) = b5
    cases b1 <;> cases b2 <;> cases b3 <;> cases b4 <;> cases b5 <;> rfl
  · have hp : pow2 z = false := by simp [pow2]; omega
    have h56 : decide (z < 1) = true ∨ decide (z > 512) = true := by simp; omega
    rw [hp, Bool.and_false]
    generalize (land z != 0) = b7 at *
    generalize ((s.toNat : Int) == 0) = b1
    generalize decide ((s.toNat : Int) > 65536) = b2
    generalize ((e.toNat : Int) == 0) = b3
    generalize decide ((e.toNat : Int) > 65536) = b4
    generalize decide (z < 1) = b5 at *
    generalize decide (z > 512) = b6 at *
    cases b5 <;> cases b6 <;> simp at h56 <;> cases b1 <;> cases b2 <;> cases b3 <;> cases b4 <;> rfl

theorem right_pos {c : Conf} (h : (check c != 0) = false) : c.s ≠ 0 ∧ c.e ≠ 0 ∧ right c = true := by
  rw [check_right] at h
  cases hr : right c with
  | false => rw [hr] at h; cases h
  | true =>
    simp only [right, Bool.and_eq_true, decide_eq_true_eq] at hr
    exact ⟨by omega, by omega, rfl⟩

theorem epoch_ok : Computes A Try.prog 10 (fun x : Conf × UInt64 × Unit => epoch x.1 x.2.1) := by
  refine computes_of_run tblA_ok Try.func10 (by kernel_rfl) (by kernel_rfl) 4 ?_
  rintro ⟨⟨h, s, e, z⟩, slot, ⟨⟩⟩
  cases hb : (check (h, s, e, z) != 0) with
  | true => exact ⟨says [(7, true)], 0, [(check (h, s, e, z) != 0) = true], by kernel_rfl, ⟨hb, trivial⟩, by simp [epoch, hb]⟩
  | false =>
    have hs := right_pos hb
    exact ⟨says [(7, false)], _, [(s.toNat : Int) ≠ 0, (check (h, s, e, z) != 0) = false], (by kernel_rfl : _ = some (some (u64 ((slot.toNat : Int).tdiv s.toNat)), _)), ⟨hs.1, hb, trivial⟩, by simp [epoch, hb, Conf.s]⟩

theorem period_ok : Computes A Try.prog 11 (fun x : Conf × UInt64 × Unit => period x.1 x.2.1) := by
  refine computes_of_run tblA_ok Try.func11 (by kernel_rfl) (by kernel_rfl) 4 ?_
  rintro ⟨⟨h, s, e, z⟩, slot, ⟨⟩⟩
  cases hb : (check (h, s, e, z) != 0) with
  | true => exact ⟨says [(7, true)], 0, [(check (h, s, e, z) != 0) = true], by kernel_rfl, ⟨hb, trivial⟩, by simp [period, hb]⟩
  | false =>
    have hs := right_pos hb
    exact ⟨says [(7, false)], _, [(e.toNat : Int) ≠ 0, (s.toNat : Int) ≠ 0, (check (h, s, e, z) != 0) = false], (by kernel_rfl : _ = some (some (u64 (((u64 ((slot.toNat : Int).tdiv s.toNat)).toNat : Int).tdiv e.toNat)), _)), ⟨hs.2.1, hs.1, hb, trivial⟩,
      by simp [period, hb, Conf.s, Conf.e]⟩

theorem timeout_ok : Computes A Try.prog 12 (fun x : Conf × Unit => timeout x.1) := by
  refine computes_of_run tblA_ok Try.func12 (by kernel_rfl) (by kernel_rfl) 4 ?_
  rintro ⟨⟨h, s, e, z⟩, ⟨⟩⟩
  cases hb : (check (h, s, e, z) != 0) with
  | true => exact ⟨says [(5, true)], 0, [(check (h, s, e, z) != 0) = true], by kernel_rfl, ⟨hb, trivial⟩, by simp [timeout, hb]⟩
  | false => exact ⟨says [(5, false)], _, [(check (h, s, e, z) != 0) = false], (by kernel_rfl : _ = some (some (u64 ((s.toNat : Int) * e.toNat)), _)), ⟨hb, trivial⟩, by simp [timeout, hb, Conf.s, Conf.e]⟩

theorem threshold_ok : Computes A Try.prog 15 (fun x : UInt64 × UInt64 × Unit => threshold x.1 x.2.1) :=
  computes_of_run0 (TblOK.nil _) Try.func15 (by kernel_rfl) (by kernel_rfl) 4 (fun x => by kernel_rfl)

end Go.Proofs.Ytpnlajkhjfpcjaa
