/- Fp: the words' functions of the program: bits.Add64, bits.Sub64, bits.Mul64, a b + c + d in two parts. -/
import Derived.Test.YtbdbmcdcjejffaaFmB
import Derived.Test.YtbdbmcdcjejffaaProg
import Derived.Shelf.Spec.BitsCarry
set_option linter.unusedVariables false
set_option linter.unusedSimpArgs false
set_option linter.unusedSectionVars false
namespace Go.Proofs.Ytbdbmcdcjejffaa
open Go Go.Sh

theorem add64_ok : Computes A Try.prog 155 (fun x : UInt64 × UInt64 × Cy × Unit => (T2.mk (adcS x.1 x.2.1 x.2.2.1) (adcC x.1 x.2.1 x.2.2.1))) := by
  refine computes_extern Try.func155 (by kernel_rfl) (by kernel_rfl) (by kernel_rfl) (en := add64Entry) (by kernel_rfl) ?_
  rintro _ ⟨x, y, ⟨c⟩, ⟨⟩⟩ W _
  have hx := x.toNat_lt
  have hy := y.toNat_lt
  have h := run_add64 (P := Try.prog) x.toNat y.toNat (cond c 1 0) (by omega) (by omega) (by cases c <;> simp) (by cases c <;> simp) W
  refine h.trans ?_
  show Result.ok (Value.tuple #[.int .u64 _, .int .u64 _]) W = Result.ok (Value.tuple #[.int .u64 ((adcS x y ⟨c⟩).toNat : Int), .int .u64 (cond (adcC x y ⟨c⟩).on 1 0)]) W
  congr 4
  · simp only [adcS]
    rw [UInt64.toNat_ofNat_of_lt' (Nat.mod_lt _ (by decide))]
    cases c <;> simp
  · simp only [adcC, List.cons.injEq, Value.int.injEq, true_and, and_true]
    by_cases hc : 18446744073709551616 ≤ x.toNat + y.toNat + (cond c 1 0)
    · rw [decide_eq_true hc]
      cases c <;> simp at hc ⊢ <;> omega
    · rw [decide_eq_false hc]
      cases c <;> simp at hc ⊢ <;> omega

theorem sub64_ok : Computes A Try.prog 159 (fun x : UInt64 × UInt64 × Cy × Unit => (T2.mk (sbbS x.1 x.2.1 x.2.2.1) (sbbC x.1 x.2.1 x.2.2.1))) := by
  refine computes_extern Try.func159 (by kernel_rfl) (by kernel_rfl) (by kernel_rfl) (en := sub64Entry) (by kernel_rfl) ?_
  rintro _ ⟨x, y, ⟨c⟩, ⟨⟩⟩ W _
  have h := run_sub64 (P := Try.prog) x.toNat y.toNat (cond c 1 0) (by cases c <;> simp) W
  have e1 : ((sbbS x y ⟨c⟩).toNat : Int) = (((x.toNat + 18446744073709551616 - y.toNat - cond c 1 0) % 18446744073709551616 : Nat) : Int) := by
    simp only [sbbS]
    rw [UInt64.toNat_ofNat_of_lt' (Nat.mod_lt _ (by decide))]
  have e2 : (cond (sbbC x y ⟨c⟩).on 1 0 : Int) = ((if x.toNat < y.toNat + cond c 1 0 then 1 else 0 : Nat) : Int) := by
    simp only [sbbC]
    by_cases hc : x.toNat < y.toNat + cond c 1 0
    · rw [decide_eq_true hc, if_pos hc]; rfl
    · rw [decide_eq_false hc, if_neg hc]; rfl
  show (sub64Entry #[.int .u64 x.toNat, .int .u64 y.toNat, .int .u64 (cond c 1 0)]).run Try.prog W = Result.ok (Value.tuple #[.int .u64 ((sbbS x y ⟨c⟩).toNat : Int), .int .u64 (cond (sbbC x y ⟨c⟩).on 1 0)]) W
  rw [e1, e2, ← h]
  cases c <;> rfl

def tblA : List (Row A) := [rowOf A 155 (fun x : UInt64 × UInt64 × Cy × Unit => (T2.mk (adcS x.1 x.2.1 x.2.2.1) (adcC x.1 x.2.1 x.2.2.1))), rowOf A 159 (fun x : UInt64 × UInt64 × Cy × Unit => (T2.mk (sbbS x.1 x.2.1 x.2.2.1) (sbbC x.1 x.2.1 x.2.2.1)))]
theorem tblA_ok : TblOK Try.prog tblA := .cons add64_ok.row (.cons sub64_ok.row (.nil _))

/-- Low and high halves, as the program takes them. -/
def lo32 (x : UInt64) : UInt64 := u64 ((BitVec.ofInt IntKind.u64.bits x.toNat &&& BitVec.ofInt IntKind.u64.bits 4294967295).toNat : Int)
def hi32 (x : UInt64) : UInt64 := UInt64.ofNat (x.toNat / 2 ^ 32)

def mulHiP (x y : UInt64) : UInt64 :=
  let x0 := lo32 x; let x1 := hi32 x; let y0 := lo32 y; let y1 := hi32 y
  let w0 := u64 ((x0.toNat : Int) * y0.toNat)
  let t := u64 ((u64 ((x1.toNat : Int) * y0.toNat)).toNat + (hi32 w0).toNat)
  let w1 := u64 ((lo32 t).toNat + (u64 ((x0.toNat : Int) * y1.toNat)).toNat)
  u64 ((u64 ((u64 ((x1.toNat : Int) * y1.toNat)).toNat + (hi32 t).toNat)).toNat + (hi32 w1).toNat)

theorem mul64_run : Computes A Try.prog 185 (fun x : UInt64 × UInt64 × Unit => (T2.mk (mulHiP x.1 x.2.1) (mulLo x.1 x.2.1))) :=
  computes_of_run0 (TblOK.nil _) Try.func185 (by kernel_rfl) (by kernel_rfl) 4 (fun _ _ _ => by kernel_rfl)

theorem lo32_nat (x : UInt64) : (lo32 x).toNat = x.toNat % 4294967296 := by
  have hx := x.toNat_lt
  have h1 : (BitVec.ofInt IntKind.u64.bits (x.toNat : Int) &&& BitVec.ofInt IntKind.u64.bits 4294967295).toNat = x.toNat % 4294967296 := by
    have e1 : (BitVec.ofInt 64 (x.toNat : Int)).toNat = x.toNat := by simp
    have e2 : (BitVec.ofInt 64 4294967295).toNat = 2 ^ 32 - 1 := by decide
    show (BitVec.ofInt 64 (x.toNat : Int) &&& BitVec.ofInt 64 4294967295).toNat = _
    rw [BitVec.toNat_and, e1, e2, Nat.and_two_pow_sub_one_eq_mod]
  unfold lo32
  rw [h1, u64_nat]
  omega

theorem hi32_nat (x : UInt64) : (hi32 x).toNat = x.toNat / 4294967296 := by
  have hx := x.toNat_lt
  unfold hi32
  rw [UInt64.toNat_ofNat_of_lt' (show _ < 18446744073709551616 by omega)]

theorem mulHiP_eq (x y : UInt64) : mulHiP x y = mulHi x y := by
  apply UInt64.toNat_inj.1
  have hx := x.toNat_lt
  have hy := y.toNat_lt
  rw [mulHi_nat]
  simp only [mulHiP]
  have mm : ∀ a b : Nat, ((a : Int) * b) = ((a * b : Nat) : Int) := fun a b => by simp
  have aa : ∀ a b : Nat, ((a : Int) + b) = ((a + b : Nat) : Int) := fun a b => by simp
  simp only [mm, aa, u64_nat, lo32_nat, hi32_nat]
  obtain ⟨x1, x0, hx0, hx1, ex⟩ : ∃ x1 x0, x0 < 4294967296 ∧ x1 < 4294967296 ∧ x.toNat = x1 * 4294967296 + x0 := ⟨x.toNat / 4294967296, x.toNat % 4294967296, by omega, by omega, by omega⟩
  obtain ⟨y1, y0, hy0, hy1, ey⟩ : ∃ y1 y0, y0 < 4294967296 ∧ y1 < 4294967296 ∧ y.toNat = y1 * 4294967296 + y0 := ⟨y.toNat / 4294967296, y.toNat % 4294967296, by omega, by omega, by omega⟩
  have d1 : x.toNat / 4294967296 = x1 := by omega
  have d2 : x.toNat % 4294967296 = x0 := by omega
  have d3 : y.toNat / 4294967296 = y1 := by omega
  have d4 : y.toNat % 4294967296 = y0 := by omega
  rw [d1, d2, d3, d4]
  have e : x.toNat * y.toNat = (x1 * y1) * 18446744073709551616 + (x1 * y0) * 4294967296 + (x0 * y1) * 4294967296 + x0 * y0 := by
    rw [ex, ey, Nat.add_mul, Nat.mul_add, Nat.mul_add]
    have : x1 * 4294967296 * (y1 * 4294967296) = (x1 * y1) * 18446744073709551616 := by
      rw [show (18446744073709551616 : Nat) = 4294967296 * 4294967296 from rfl]; ac_rfl
    rw [this]
    have : x1 * 4294967296 * y0 = x1 * y0 * 4294967296 := by ac_rfl
    rw [this]
    have : x0 * (y1 * 4294967296) = x0 * y1 * 4294967296 := by ac_rfl
    rw [this]
    omega
  rw [e]
  have b : ∀ {a c : Nat}, a < 4294967296 → c < 4294967296 → a * c ≤ 4294967295 * 4294967295 := fun ha hc => Nat.mul_le_mul (by omega) (by omega)
  have b1 := b hx1 hy1
  have b2 := b hx1 hy0
  have b3 := b hx0 hy1
  have b4 := b hx0 hy0
  generalize x1 * y1 = p11 at *
  generalize x1 * y0 = p10 at *
  generalize x0 * y1 = p01 at *
  generalize x0 * y0 = p00 at *
  clear e d1 d2 d3 d4 ex ey mm aa b
  have c0 : p00 % 18446744073709551616 = p00 := by omega
  have c1 : p10 % 18446744073709551616 = p10 := by omega
  have c2 : p01 % 18446744073709551616 = p01 := by omega
  have c3 : p11 % 18446744073709551616 = p11 := by omega
  rw [c0, c1, c2, c3]
  omega

theorem mul64_ok : Computes A Try.prog 185 (fun x : UInt64 × UInt64 × Unit => (T2.mk (mulHi x.1 x.2.1) (mulLo x.1 x.2.1))) := by
  have h := mul64_run
  have e : (fun x : UInt64 × UInt64 × Unit => (T2.mk (mulHiP x.1 x.2.1) (mulLo x.1 x.2.1))) = (fun x : UInt64 × UInt64 × Unit => (T2.mk (mulHi x.1 x.2.1) (mulLo x.1 x.2.1))) := by
    funext x; rw [mulHiP_eq]
  rw [e] at h
  exact h

end Go.Proofs.Ytbdbmcdcjejffaa
