/- Fp: the words' functions of the program: bits.Add64, bits.Sub64, bits.Mul64, a b + c + d in two parts. -/
import Derived.Test.YtbdbmcdcjejffaaFm1
import Derived.Test.YtbdbmcdcjejffaaProg
import Derived.Shelf.Spec.BitsCarry
import Derived.Test.YtbdbmcdcjejffaaEn3
set_option linter.unusedVariables false
set_option linter.unusedSimpArgs false
set_option linter.unusedSectionVars false
namespace Go.Proofs.Ytbdbmcdcjejffaa
open Go Go.Sh

theorem add64_ok : Computes A Try.prog 155 (fun x : UInt64 × UInt64 × Cy × Unit => (T2.mk (adcS x.1 x.2.1 x.2.2.1) (adcC x.1 x.2.1 x.2.2.1))) := by
  refine computes_extern Try.func155 (by kernel_rfl) (by kernel_rfl) (by kernel_rfl) (en := add64Entry) (by kernel_rfl) ?_
  rintro _ ⟨x, y, ⟨c⟩, ⟨⟩⟩ W _
  have hx := x.toNat_lt
  have hy := y.toNat_lt
  have h := run_add64 (P := Try.prog) x.toNat y.toNat (cond c 1 0) (by omega) (by omega) (by cases c <;> simp) (by cases c <;> simp) W
  refine h.trans ?_
  show Result.ok (Value.tuple #[.int .u64 _, .int .u64 _]) W = Result.ok (Value.tuple #[.int .u64 ((adcS x y ⟨c⟩).toNat : Int), .int .u64 (cond (adcC x y ⟨c⟩).on 1 0)]) W
  congr 4
  · simp only [adcS]
    rw [UInt64.toNat_ofNat_of_lt' (Nat.mod_lt _ (by decide))]
    cases c <;> simp
  · simp only [adcC, List.cons.injEq, Value.int.injEq, true_and, and_true]
    by_cases hc : 18446744073709551616 ≤ x.toNat + y.toNat + (cond c 1 0)
    · rw [decide_eq_true hc]
      cases c <;> simp at hc ⊢ <;> omega
    · rw [decide_eq_false hc]
      cases c <;> simp at hc ⊢ <;> omega

theorem sub64_ok : Computes A Try.prog 159 (fun x : UInt64 × UInt64 × Cy × Unit => (T2.mk (sbbS x.1 x.2.1 x.2.2.1) (sbbC x.1 x.2.1 x.2.2.1))) := by
  refine computes_extern Try.func159 (by kernel_rfl) (by kernel_rfl) (by kernel_rfl) (en := sub64Entry) (by kernel_rfl) ?_
  rintro _ ⟨x, y, ⟨c⟩, ⟨⟩⟩ W _
  have h := run_sub64 (P := Try.prog) x.toNat y.toNat (cond c 1 0) (by cases c <;> simp) W
  have e1 : ((sbbS x y ⟨c⟩).toNat : Int) = (((x.toNat + 18446744073709551616 - y.toNat - cond c 1 0) % 18446744073709551616 : Nat) : Int) := by
    simp only [sbbS]
    rw [UInt64.toNat_ofNat_of_lt' (Nat.mod_lt _ (by decide))]
  have e2 : (cond (sbbC x y ⟨c⟩).on 1 0 : Int) = ((if x.toNat < y.toNat + cond c 1 0 then 1 else 0 : Nat) : Int) := by
    simp only [sbbC]
    by_cases hc : x.toNat < y.toNat + cond c 1 0
    · rw [decide_eq_true hc, if_pos hc]; rfl
    · rw [decide_eq_false hc, if_neg hc]; rfl
  show (sub64Entry #[.int .u64 x.toNat, .int .u64 y.toNat, .int .u64 (cond c 1 0)]).run Try.prog W = Result.ok (Value.tuple #[.int .u64 ((sbbS x y ⟨c⟩).toNat : Int), .int .u64 (cond (sbbC x y ⟨c⟩).on 1 0)]) W
  rw [e1, e2, ← h]
  cases c <;> rfl

def tblA : List (Row A) := [rowOf A 155 (fun x : UInt64 × UInt64 × Cy × Unit => (T2.mk (adcS x.1 x.2.1 x.2.2.1) (adcC x.1 x.2.1 x.2.2.1))), rowOf A 159 (fun x : UInt64 × UInt64 × Cy × Unit => (T2.mk (sbbS x.1 x.2.1 x.2.2.1) (sbbC x.1 x.2.1 x.2.2.1)))]
theorem tblA_ok : TblOK Try.prog tblA := .cons add64_ok.row (.cons sub64_ok.row (.nil _))

/-- Low and high halves, as the program takes them. -/
def lo32 (x : UInt64) : UInt64 := u64 ((BitVec.ofInt IntKind.u64.bits x.toNat &&& BitVec.ofInt IntKind.u64.bits 4294967295).toNat : Int)
def hi32 (x : UInt64) : UInt64 := UInt64.ofNat (x.toNat / 2 ^ 32)

def mulHiP (x y : UInt64) : UInt64 :=
  let x0 := lo32 x; let x1 := hi32 x; let y0 := lo32 y; let y1 := hi32 y
  let w0 := u64 ((x0.toNat : Int) * y0.toNat)
  let t := u64 ((u64 ((x1.toNat : Int) * y0.toNat)).toNat + (hi32 w0).toNat)
  let w1 := u64 ((lo32 t).toNat + (u64 ((x0.toNat : Int) * y1.toNat)).toNat)
  u64 ((u64 ((u64 ((x1.toNat : Int) * y1.toNat)).toNat + (hi32 t).toNat)).toNat + (hi32 w1).toNat)

theorem mul64_run : Computes A Try.prog 185 (fun x : UInt64 × UInt64 × Unit => (T2.mk (mulHiP x.1 x.2.1) (mulLo x.1 x.2.1))) :=
  computes_of_run0 (TblOK.nil _) Try.func185 (by kernel_rfl) (by kernel_rfl) 4 (fun _ _ _ => by kernel_rfl)

theorem lo32_nat (x : UInt64) : (lo32 x).toNat = x.toNat % 4294967296 := by
  have hx := x.toNat_lt
  have h1 : (BitVec.ofInt IntKind.u64.bits (x.toNat : Int) &&& BitVec.ofInt IntKind.u64.bits 4294967295).toNat = x.toNat % 4294967296 := by
    have e1 : (BitVec.ofInt 64 (x.toNat : Int)).toNat = x.toNat := by simp
    have e2 : (BitVec.ofInt 64 4294967295).toNat = 2 ^ 32 - 1 := by decide
    show (BitVec.ofInt 64 (x.toNat : Int) &&& BitVec.ofInt 64 4294967295).toNat = _
    rw [BitVec.toNat_and, e1, e2, Nat.and_two_pow_sub_one_eq_mod]
  unfold lo32
  rw [h1, u64_nat]
  omega

theorem hi32_nat (x : UInt64) : (hi32 x).toNat = x.toNat / 4294967296 := by
  have hx := x.toNat_lt
  unfold hi32
  rw [UInt64.toNat_ofNat_of_lt' (show _ < 18446744073709551616 by omega)]

theorem mulHiP_eq (x y : UInt64) : mulHiP x y = mulHi x y := by
  apply UInt64.toNat_inj.1
  have hx := x.toNat_lt
  have hy := y.toNat_lt
  rw [mulHi_nat]
  simp only [mulHiP]
  have mm : ∀ a b : Nat, ((a : Int) * b) = ((a * b : Nat) : Int) := fun a b => by simp
  have aa : ∀ a b : Nat, ((a : Int) + b) = ((a + b : Nat) : Int) := fun a b => by simp
  simp only [mm, aa, u64_nat, lo32_nat, hi32_nat]
  obtain ⟨x1, x0, hx0, hx1, ex⟩ : ∃ x1 x0, x0 < 4294967296 ∧ x1 < 4294967296 ∧ x.toNat = x1 * 4294967296 + x0 := ⟨x.toNat / 4294967296, x.toNat % 4294967296, by omega, by omega, by omega⟩
  obtain ⟨y1, y0, hy0, hy1, ey⟩ : ∃ y1 y0, y0 < 4294967296 ∧ y1 < 4294967296 ∧ y.toNat = y1 * 4294967296 + y0 := ⟨y.toNat / 4294967296, y.toNat % 4294967296, by omega, by omega, by omega⟩
  have d1 : x.toNat / 4294967296 = x1 := by omega
  have d2 : x.toNat % 4294967296 = x0 := by omega
  have d3 : y.toNat / 4294967296 = y1 := by omega
  have d4 : y.toNat % 4294967296 = y0 := by omega
  rw [d1, d2, d3, d4]
  have e : x.toNat * y.toNat = (x1 * y1) * 18446744073709551616 + (x1 * y0) * 4294967296 + (x0 * y1) * 4294967296 + x0 * y0 := by
    rw [ex, ey, Nat.add_mul, Nat.mul_add, Nat.mul_add]
    have : x1 * 4294967296 * (y1 * 4294967296) = (x1 * y1) * 18446744073709551616 := by
      rw [show (18446744073709551616 : Nat) = 4294967296 * 4294967296 from rfl]; ac_rfl
    rw [this]
    have : x1 * 4294967296 * y0 = x1 * y0 * 4294967296 := by ac_rfl
    rw [this]
    have : x0 * (y1 * 4294967296) = x0 * y1 * 4294967296 := by ac_rfl
    rw [this]
    omega
  rw [e]
  have b : ∀ {a c : Nat}, a < 4294967296 → c < 4294967296 → a * c ≤ 4294967295 * 4294967295 := fun ha hc => Nat.mul_le_mul (by omega) (by omega)
  have b1 := b hx1 hy1
  have b2 := b hx1 hy0
  have b3 := b hx0 hy1
  have b4 := b hx0 hy0
  generalize x1 * y1 = p11 at *
  generalize x1 * y0 = p10 at *
  generalize x0 * y1 = p01 at *
  generalize x0 * y0 = p00 at *
  clear e d1 d2 d3 d4 ex ey mm aa b
  have c0 : p00 % 18446744073709551616 = p00 := by omega
  have c1 : p10 % 18446744073709551616 = p10 := by omega
  have c2 : p01 % 18446744073709551616 = p01 := by omega
  have c3 : p11 % 18446744073709551616 = p11 := by omega
  rw [c0, c1, c2, c3]
  omega

theorem mul64_ok : Computes A Try.prog 185 (fun x : UInt64 × UInt64 × Unit => (T2.mk (mulHi x.1 x.2.1) (mulLo x.1 x.2.1))) := by
  have h := mul64_run
  have e : (fun x : UInt64 × UInt64 × Unit => (T2.mk (mulHiP x.1 x.2.1) (mulLo x.1 x.2.1))) = (fun x : UInt64 × UInt64 × Unit => (T2.mk (mulHi x.1 x.2.1) (mulLo x.1 x.2.1))) := by
    funext x; rw [mulHiP_eq]
  rw [e] at h
  exact h

end Go.Proofs.Ytbdbmcdcjejffaa

/- Fp: a b + c + d in two parts. -/
namespace Go.Proofs.Ytbdbmcdcjejffaa
open Go Go.Sh

/-- a b + c + d, in two parts. -/
def maddN (a b c d : UInt64) : Nat := a.toNat * b.toNat + c.toNat + d.toNat
def maddHi (a b c d : UInt64) : UInt64 := UInt64.ofNat (maddN a b c d / 18446744073709551616)
def maddLo (a b c d : UInt64) : UInt64 := UInt64.ofNat (maddN a b c d % 18446744073709551616)

theorem maddN_lt (a b c d : UInt64) : maddN a b c d < 18446744073709551616 * 18446744073709551616 := by
  have := mul_bound a b
  have := c.toNat_lt
  have := d.toNat_lt
  unfold maddN
  omega

theorem maddHi_nat (a b c d : UInt64) : (maddHi a b c d).toNat = maddN a b c d / 18446744073709551616 := by
  have := maddN_lt a b c d
  unfold maddHi
  rw [UInt64.toNat_ofNat_of_lt' (show _ < 18446744073709551616 from Nat.div_lt_of_lt_mul this)]
theorem maddLo_nat (a b c d : UInt64) : (maddLo a b c d).toNat = maddN a b c d % 18446744073709551616 := ofNat_mod _

/-- As the program takes them. -/
def maddP (a b c d : UInt64) : T2 UInt64 UInt64 :=
  ⟨adcS (adcS (mulHi a b) (UInt64.ofNat 0) (adcC c d ⟨false⟩)) (UInt64.ofNat 0) (adcC (mulLo a b) (adcS c d ⟨false⟩) ⟨false⟩), adcS (mulLo a b) (adcS c d ⟨false⟩) ⟨false⟩⟩

theorem maddP_eq (a b c d : UInt64) : maddP a b c d = ⟨maddHi a b c d, maddLo a b c d⟩ := by
  have h1 := adc_nat c d ⟨false⟩
  have h2 := adc_nat (mulHi a b) (UInt64.ofNat 0) (adcC c d ⟨false⟩)
  have h3 := adc_nat (mulLo a b) (adcS c d ⟨false⟩) ⟨false⟩
  have h4 := adc_nat (adcS (mulHi a b) (UInt64.ofNat 0) (adcC c d ⟨false⟩)) (UInt64.ofNat 0) (adcC (mulLo a b) (adcS c d ⟨false⟩) ⟨false⟩)
  have h5 := mulHi_nat a b
  have h6 := mulLo_nat a b
  have h7 := mul_bound a b
  have z : (UInt64.ofNat 0).toNat = 0 := rfl
  have f : (⟨false⟩ : Cy).n = 0 := rfl
  rw [z] at h2 h4
  rw [f] at h1 h3
  have l1 := (adcC c d ⟨false⟩).le
  have l2 := (adcC (mulHi a b) (UInt64.ofNat 0) (adcC c d ⟨false⟩)).le
  have l3 := (adcC (mulLo a b) (adcS c d ⟨false⟩) ⟨false⟩).le
  have l4 := (adcC (adcS (mulHi a b) (UInt64.ofNat 0) (adcC c d ⟨false⟩)) (UInt64.ofNat 0) (adcC (mulLo a b) (adcS c d ⟨false⟩) ⟨false⟩)).le
  have c1 := c.toNat_lt
  have c2 := d.toNat_lt
  have c3 := (adcS c d ⟨false⟩).toNat_lt
  have c4 := (adcS (mulHi a b) (UInt64.ofNat 0) (adcC c d ⟨false⟩)).toNat_lt
  have c5 := (maddP a b c d).a.toNat_lt
  have c6 := (maddP a b c d).b.toNat_lt
  have ea : (maddP a b c d).a = maddHi a b c d := by
    apply UInt64.toNat_inj.1
    rw [maddHi_nat]
    simp only [maddP, maddN] at c5 c6 ⊢
    generalize a.toNat * b.toNat = m at *
    omega
  have eb : (maddP a b c d).b = maddLo a b c d := by
    apply UInt64.toNat_inj.1
    rw [maddLo_nat]
    simp only [maddP, maddN] at c5 c6 ⊢
    generalize a.toNat * b.toNat = m at *
    omega
  rw [← ea, ← eb]

def tblB : List (Row A) := rowOf A 185 (fun x : UInt64 × UInt64 × Unit => (T2.mk (mulHi x.1 x.2.1) (mulLo x.1 x.2.1))) :: tblA
theorem tblB_ok : TblOK Try.prog tblB := .cons mul64_ok.row tblA_ok

theorem madd_ok : Computes A Try.prog 160 (fun x : UInt64 × UInt64 × UInt64 × UInt64 × Unit => (T2.mk (maddHi x.1 x.2.1 x.2.2.1 x.2.2.2.1) (maddLo x.1 x.2.1 x.2.2.1 x.2.2.2.1))) := by
  have h : Computes A Try.prog 160 (fun x : UInt64 × UInt64 × UInt64 × UInt64 × Unit => maddP x.1 x.2.1 x.2.2.1 x.2.2.2.1) :=
    computes_of_run0 tblB_ok Try.func160 (by kernel_rfl) (by kernel_rfl) 4 (fun _ _ _ => by kernel_rfl)
  have e : (fun x : UInt64 × UInt64 × UInt64 × UInt64 × Unit => maddP x.1 x.2.1 x.2.2.1 x.2.2.2.1) = (fun x : UInt64 × UInt64 × UInt64 × UInt64 × Unit => (T2.mk (maddHi x.1 x.2.1 x.2.2.1 x.2.2.2.1) (maddLo x.1 x.2.1 x.2.2.1 x.2.2.2.1))) := by
    funext x; exact maddP_eq _ _ _ _
  rw [e] at h
  exact h

end Go.Proofs.Ytbdbmcdcjejffaa

/- Fp: reduction, sums, differences, products, on words. -/
namespace Go.Proofs.Ytbdbmcdcjejffaa
open Go Go.Sh

def p6 : L6 := (13402431016077863595, 2210141511517208575, 7435674573564081700, 7239337960414712511, 5412103778470702295, 1873798617647539866)

/-- Six words added, subtracted: the words, and what is carried. -/
def add6C (a b : L6) : Cy × Cy × Cy × Cy × Cy × Cy :=
  let c0 := adcC a.1 b.1 ⟨false⟩
  let c1 := adcC a.2.1 b.2.1 c0
  let c2 := adcC a.2.2.1 b.2.2.1 c1
  let c3 := adcC a.2.2.2.1 b.2.2.2.1 c2
  let c4 := adcC a.2.2.2.2.1 b.2.2.2.2.1 c3
  (c0, c1, c2, c3, c4, adcC a.2.2.2.2.2 b.2.2.2.2.2 c4)
def add6 (a b : L6) : L6 :=
  let c := add6C a b
  (adcS a.1 b.1 ⟨false⟩, adcS a.2.1 b.2.1 c.1, adcS a.2.2.1 b.2.2.1 c.2.1, adcS a.2.2.2.1 b.2.2.2.1 c.2.2.1, adcS a.2.2.2.2.1 b.2.2.2.2.1 c.2.2.2.1, adcS a.2.2.2.2.2 b.2.2.2.2.2 c.2.2.2.2.1)
def sub6C (a b : L6) : Cy × Cy × Cy × Cy × Cy × Cy :=
  let c0 := sbbC a.1 b.1 ⟨false⟩
  let c1 := sbbC a.2.1 b.2.1 c0
  let c2 := sbbC a.2.2.1 b.2.2.1 c1
  let c3 := sbbC a.2.2.2.1 b.2.2.2.1 c2
  let c4 := sbbC a.2.2.2.2.1 b.2.2.2.2.1 c3
  (c0, c1, c2, c3, c4, sbbC a.2.2.2.2.2 b.2.2.2.2.2 c4)
def sub6 (a b : L6) : L6 :=
  let c := sub6C a b
  (sbbS a.1 b.1 ⟨false⟩, sbbS a.2.1 b.2.1 c.1, sbbS a.2.2.1 b.2.2.1 c.2.1, sbbS a.2.2.2.1 b.2.2.2.1 c.2.2.1, sbbS a.2.2.2.2.1 b.2.2.2.2.1 c.2.2.2.1, sbbS a.2.2.2.2.2 b.2.2.2.2.2 c.2.2.2.2.1)

def addTop (a b : L6) : Cy := (add6C a b).2.2.2.2.2
def subTop (a b : L6) : Cy := (sub6C a b).2.2.2.2.2

def isOne (c : Cy) : Bool := ((cond c.on 1 0 : Int) == 1)
def isNil (c : Cy) : Bool := ((cond c.on 1 0 : Int) == 0)

def reducedL (l : L6) : L6 := bif isOne (subTop l p6) then l else sub6 l p6

theorem reduced_ok : Computes A Try.prog 157 (fun x : L6 × Unit => reducedL x.1) := by
  refine computes_of_run tblB_ok Try.func157 (by kernel_rfl) (by kernel_rfl) 4 ?_
  rintro _ ⟨l, ⟨⟩⟩ W -
  cases hc : isOne (subTop l p6) with
  | true => exact ⟨fun _ _ => .take true, l, [isOne (subTop l p6) = true], by kernel_rfl, ⟨hc, trivial⟩, by simp only [reducedL, hc, cond_true]⟩
  | false => exact ⟨fun _ _ => .take false, sub6 l p6, [isOne (subTop l p6) = false], by kernel_rfl, ⟨hc, trivial⟩, by simp only [reducedL, hc, cond_false]⟩

def tblC : List (Row A) := rowOf A 160 (fun x : UInt64 × UInt64 × UInt64 × UInt64 × Unit => (T2.mk (maddHi x.1 x.2.1 x.2.2.1 x.2.2.2.1) (maddLo x.1 x.2.1 x.2.2.1 x.2.2.2.1))) ::
  rowOf A 157 (fun x : L6 × Unit => reducedL x.1) :: tblB
theorem tblC_ok : TblOK Try.prog tblC := .cons madd_ok.row (.cons reduced_ok.row tblB_ok)

theorem addL_ok : Computes A Try.prog 41 (fun x : L6 × L6 × Unit => reducedL (add6 x.1 x.2.1)) :=
  computes_of_run0 tblC_ok Try.func41 (by kernel_rfl) (by kernel_rfl) 4 (fun _ _ _ => by kernel_rfl)

def subL (a b : L6) : L6 := bif isNil (subTop a b) then sub6 a b else add6 (sub6 a b) p6

theorem subL_ok : Computes A Try.prog 43 (fun x : L6 × L6 × Unit => subL x.1 x.2.1) := by
  refine computes_of_run tblC_ok Try.func43 (by kernel_rfl) (by kernel_rfl) 4 ?_
  rintro _ ⟨a, b, ⟨⟩⟩ W -
  cases hc : isNil (subTop a b) with
  | true => exact ⟨fun _ _ => .take true, sub6 a b, [isNil (subTop a b) = true], by kernel_rfl, ⟨hc, trivial⟩, by simp only [subL, hc, cond_true]⟩
  | false => exact ⟨fun _ _ => .take false, add6 (sub6 a b) p6, [isNil (subTop a b) = false], by kernel_rfl, ⟨hc, trivial⟩, by simp only [subL, hc, cond_false]⟩

/-- One row of the product: a times 2^-64, and b x, modulo p. -/
def rnd (b t : L6) (x : UInt64) : L6 :=
  let h0 := maddHi x b.1 t.1 (UInt64.ofNat 0)
  let l0 := maddLo x b.1 t.1 (UInt64.ofNat 0)
  let q := u64 ((l0.toNat : Int) * 9940570264628428797)
  let d0 := maddHi q p6.1 l0 (UInt64.ofNat 0)
  let h1 := maddHi x b.2.1 t.2.1 h0
  let l1 := maddLo x b.2.1 t.2.1 h0
  let d1 := maddHi q p6.2.1 l1 d0
  let h2 := maddHi x b.2.2.1 t.2.2.1 h1
  let l2 := maddLo x b.2.2.1 t.2.2.1 h1
  let d2 := maddHi q p6.2.2.1 l2 d1
  let h3 := maddHi x b.2.2.2.1 t.2.2.2.1 h2
  let l3 := maddLo x b.2.2.2.1 t.2.2.2.1 h2
  let d3 := maddHi q p6.2.2.2.1 l3 d2
  let h4 := maddHi x b.2.2.2.2.1 t.2.2.2.2.1 h3
  let l4 := maddLo x b.2.2.2.2.1 t.2.2.2.2.1 h3
  let d4 := maddHi q p6.2.2.2.2.1 l4 d3
  let h5 := maddHi x b.2.2.2.2.2 t.2.2.2.2.2 h4
  let l5 := maddLo x b.2.2.2.2.2 t.2.2.2.2.2 h4
  let d5 := maddHi q p6.2.2.2.2.2 l5 d4
  (maddLo q p6.2.1 l1 d0, maddLo q p6.2.2.1 l2 d1, maddLo q p6.2.2.2.1 l3 d2, maddLo q p6.2.2.2.2.1 l4 d3, maddLo q p6.2.2.2.2.2 l5 d4, u64 ((h5.toNat : Int) + d5.toNat))

def zero6 : L6 := (UInt64.ofNat 0, UInt64.ofNat 0, UInt64.ofNat 0, UInt64.ofNat 0, UInt64.ofNat 0, UInt64.ofNat 0)

end Go.Proofs.Ytbdbmcdcjejffaa

/- Fp: the product on words. -/
namespace Go.Proofs.Ytbdbmcdcjejffaa
open Go Go.Sh

def lim (k : Nat) (l : L6) : UInt64 :=
  match k with
  | 0 => l.1 | 1 => l.2.1 | 2 => l.2.2.1 | 3 => l.2.2.2.1 | 4 => l.2.2.2.2.1 | _ => l.2.2.2.2.2

def mulT (a b : L6) : Nat → L6
  | 0 => zero6
  | k + 1 => rnd b (mulT a b k) (lim k a)

def sv6 (l : L6) : List (SV A) := [.a (.u64 l.1), .a (.u64 l.2.1), .a (.u64 l.2.2.1), .a (.u64 l.2.2.2.1), .a (.u64 l.2.2.2.2.1), .a (.u64 l.2.2.2.2.2)]
def lit6 : List (SV A) := [.v (.int .u64 0), .v (.int .u64 0), .v (.int .u64 0), .v (.int .u64 0), .v (.int .u64 0), .v (.int .u64 0)]

/-- The product's loop, at its head: k rows have been. -/
def mulHead (a b : L6) (t : List (SV A)) (k : Nat) : St A :=
  ⟨slots 0 136 ([(2, .val false [.p 0 0]), (3, .val false [.p 1 0]), (4, .val false [.p 2 0])] ++ (t.zipIdx 5).map (fun x => (x.2, .val false [x.1])) ++ [(18, .val true (sv6 a)), (19, .val false [.v (.int .i64 k)])]),
   [some ⟨sv6 a, 28, false⟩, some ⟨sv6 b, 28, false⟩, some ⟨lit6, 28, false⟩], 0, [], []⟩

def mulSt (a b : L6) : Nat → St A
  | 0 => mulHead a b lit6 0
  | k + 1 => mulHead a b (sv6 (mulT a b (k + 1))) (k + 1)

theorem mul_round0 (a b : L6) (c : Cfg A) (e1 : c.P = Try.prog) (e2 : c.gl = fun _ => none) (e4 : c.ys = []) :
    Round c (loopNo Try.f45 3) (mulHead a b lit6 0) .normal (mulHead a b (sv6 (rnd b zero6 a.1)) 1) :=
  Round.of0 tblC_ok (fun _ _ => .keep) 4 [] (by kernel_rfl) trivial (by kernel_rfl) (by kernel_rfl) e1 e2 rfl e4

theorem mul_round (a b t : L6) (c : Cfg A) (e1 : c.P = Try.prog) (e2 : c.gl = fun _ => none) (e4 : c.ys = []) (k : Nat) (h0 : 0 < k) (hk : k < 6) :
    Round c (loopNo Try.f45 3) (mulHead a b (sv6 t) k) .normal (mulHead a b (sv6 (rnd b t (lim k a))) (k + 1)) := by
  have : k = 1 ∨ k = 2 ∨ k = 3 ∨ k = 4 ∨ k = 5 := by omega
  rcases this with rfl | rfl | rfl | rfl | rfl
  · exact Round.of0 tblC_ok (fun _ _ => .keep) 4 [] (by kernel_rfl) trivial (by kernel_rfl) (by kernel_rfl) e1 e2 rfl e4
  · exact Round.of0 tblC_ok (fun _ _ => .keep) 4 [] (by kernel_rfl) trivial (by kernel_rfl) (by kernel_rfl) e1 e2 rfl e4
  · exact Round.of0 tblC_ok (fun _ _ => .keep) 4 [] (by kernel_rfl) trivial (by kernel_rfl) (by kernel_rfl) e1 e2 rfl e4
  · exact Round.of0 tblC_ok (fun _ _ => .keep) 4 [] (by kernel_rfl) trivial (by kernel_rfl) (by kernel_rfl) e1 e2 rfl e4
  · exact Round.of0 tblC_ok (fun _ _ => .keep) 4 [] (by kernel_rfl) trivial (by kernel_rfl) (by kernel_rfl) e1 e2 rfl e4

theorem mul_last (a b t : L6) (c : Cfg A) (e1 : c.P = Try.prog) (e2 : c.gl = fun _ => none) (e4 : c.ys = []) :
    Round c (loopNo Try.f45 3) (mulHead a b (sv6 t) 6) (.exit 0) (mulHead a b (sv6 t) 6) :=
  Round.of0 tblC_ok (fun _ _ => .keep) 4 [] (by kernel_rfl) trivial (by kernel_rfl) (by kernel_rfl) e1 e2 rfl e4

theorem mul_loop (old : Addr → Option Value) (a b : L6) : SoundFor Try.prog old [] (.loop (loopNo Try.f45 3)) (mulSt a b 0) (.exit 0) (mulSt a b 6) := by
  intro c e1 e2 _ e4
  refine loopAt (inv := mulSt a b) (N := 6) (by simp) (fun k hk => ?_) (mul_last a b _ c e1 e2 e4)
  cases k with
  | zero => exact mul_round0 a b c e1 e2 e4
  | succ k => exact mul_round a b _ c e1 e2 e4 (k + 1) (by omega) hk

def mulRaw (a b : L6) : L6 := mulT a b 6

theorem mulL_ok : Computes A Try.prog 45 (fun x : L6 × L6 × Unit => reducedL (mulRaw x.1 x.2.1)) := by
  refine computes_of_runW tblC_ok (ITblOK.nil _) Try.func45 (by kernel_rfl) (by kernel_rfl) 4 ?_
  rintro _ ⟨a, b, ⟨⟩⟩ W -
  obtain ⟨T, hT⟩ : ∃ T, T = mulRaw a b := ⟨_, rfl⟩
  have hl : SoundFor Try.prog W.cell? [] (.loop (loopNo Try.f45 3)) (mulHead a b lit6 0) (.exit 0) (mulHead a b (sv6 T) 6) := by
    rw [hT]; exact mul_loop _ a b
  refine ⟨fun _ _ => .keep, lps [(3, mulHead a b lit6 0, .exit 0, mulHead a b (sv6 T) 6)], reducedL T, _, ?_, All.cons (toldIs (mulHead a b lit6 0)) All.nil, by rw [hT], ?_⟩
  · kernel_rfl
  · intro body hb
    refine LoopsFor.cons ?_ hl LoopsFor.nil
    obtain rfl := Option.some.inj hb
    kernel_rfl
end Go.Proofs.Ytbdbmcdcjejffaa

/- Fp: what sums, differences and products on words are, as numbers; plain mathematics. -/
namespace Go.Proofs.Ytbdbmcdcjejffaa
open Go Go.Sh

theorem val6_p6 : val6 p6 = pN := by kernel_rfl

theorem val6_lt' (l : L6) : val6 l < 39402006196394479212279040100143613805079739270465446667948293404245721771497210611414266254884915640806627990306816 := by
  have := Sh.val6_lt l
  rwa [show (2 : Nat) ^ 384 = 39402006196394479212279040100143613805079739270465446667948293404245721771497210611414266254884915640806627990306816 from by kernel_rfl] at this

theorem add6_val (a b : L6) : val6 (add6 a b) + 39402006196394479212279040100143613805079739270465446667948293404245721771497210611414266254884915640806627990306816 * (addTop a b).n = val6 a + val6 b := by
  obtain ⟨a0, a1, a2, a3, a4, a5⟩ := a
  obtain ⟨b0, b1, b2, b3, b4, b5⟩ := b
  have h0 := adc_nat a0 b0 ⟨false⟩
  have h1 := adc_nat a1 b1 (adcC a0 b0 ⟨false⟩)
  have h2 := adc_nat a2 b2 (adcC a1 b1 (adcC a0 b0 ⟨false⟩))
  have h3 := adc_nat a3 b3 (adcC a2 b2 (adcC a1 b1 (adcC a0 b0 ⟨false⟩)))
  have h4 := adc_nat a4 b4 (adcC a3 b3 (adcC a2 b2 (adcC a1 b1 (adcC a0 b0 ⟨false⟩))))
  have h5 := adc_nat a5 b5 (adcC a4 b4 (adcC a3 b3 (adcC a2 b2 (adcC a1 b1 (adcC a0 b0 ⟨false⟩)))))
  have f : (⟨false⟩ : Cy).n = 0 := rfl
  rw [f] at h0
  simp only [add6, addTop, add6C, val6]
  omega

theorem sub6_val (a b : L6) : val6 (sub6 a b) + val6 b = val6 a + 39402006196394479212279040100143613805079739270465446667948293404245721771497210611414266254884915640806627990306816 * (subTop a b).n := by
  obtain ⟨a0, a1, a2, a3, a4, a5⟩ := a
  obtain ⟨b0, b1, b2, b3, b4, b5⟩ := b
  have h0 := sbb_nat a0 b0 ⟨false⟩
  have h1 := sbb_nat a1 b1 (sbbC a0 b0 ⟨false⟩)
  have h2 := sbb_nat a2 b2 (sbbC a1 b1 (sbbC a0 b0 ⟨false⟩))
  have h3 := sbb_nat a3 b3 (sbbC a2 b2 (sbbC a1 b1 (sbbC a0 b0 ⟨false⟩)))
  have h4 := sbb_nat a4 b4 (sbbC a3 b3 (sbbC a2 b2 (sbbC a1 b1 (sbbC a0 b0 ⟨false⟩))))
  have h5 := sbb_nat a5 b5 (sbbC a4 b4 (sbbC a3 b3 (sbbC a2 b2 (sbbC a1 b1 (sbbC a0 b0 ⟨false⟩)))))
  have f : (⟨false⟩ : Cy).n = 0 := rfl
  rw [f] at h0
  simp only [sub6, subTop, sub6C, val6]
  omega

theorem isOne_eq (c : Cy) : isOne c = c.on := by obtain ⟨b⟩ := c; cases b <;> rfl
theorem isNil_eq (c : Cy) : isNil c = !c.on := by obtain ⟨b⟩ := c; cases b <;> rfl
theorem Cy.n_on (c : Cy) : c.n = if c.on then 1 else 0 := by obtain ⟨b⟩ := c; cases b <;> rfl

theorem pN_val : pN = 4002409555221667393417789825735904156556882819939007885332058136124031650490837864442687629129015664037894272559787 := by kernel_rfl

theorem reducedL_val {l : L6} (h : val6 l < 2 * pN) : val6 (reducedL l) = val6 l % pN := by
  have h1 := sub6_val l p6
  have h2 := val6_lt' (sub6 l p6)
  rw [val6_p6] at h1
  have h3 := Cy.n_on (subTop l p6)
  unfold reducedL
  rw [isOne_eq]
  have hp := pN_val
  cases hc : (subTop l p6).on with
  | true =>
    rw [hc] at h3
    simp only [if_true] at h3
    rw [h3] at h1
    simp only [cond_true]
    rw [Nat.mod_eq_of_lt]
    omega
  | false =>
    rw [hc] at h3
    simp only [Bool.false_eq_true, if_false] at h3
    rw [h3] at h1
    simp only [cond_false]
    have : val6 l = val6 (sub6 l p6) + pN := by omega
    rw [this, Nat.add_mod_right, Nat.mod_eq_of_lt]
    omega

theorem addL_val {a b : L6} (ha : val6 a < pN) (hb : val6 b < pN) : val6 (reducedL (add6 a b)) = (val6 a + val6 b) % pN := by
  have h1 := add6_val a b
  have h2 := pN_val
  have h3 := (addTop a b).le
  have h4 := Cy.n_on (addTop a b)
  have h5 : (addTop a b).n = 0 := by
    cases hc : (addTop a b).on
    · rw [hc] at h4; simpa using h4
    · rw [hc] at h4; simp only [if_true] at h4; rw [h4] at h1; omega
  rw [h5] at h1
  have h6 : val6 (add6 a b) = val6 a + val6 b := by omega
  rw [reducedL_val (by omega), h6]

theorem subL_val {a b : L6} (ha : val6 a < pN) (hb : val6 b < pN) : val6 (subL a b) = (val6 a + (pN - val6 b)) % pN := by
  have h1 := sub6_val a b
  have h2 := pN_val
  have h3 := val6_lt' (sub6 a b)
  have h4 := Cy.n_on (subTop a b)
  unfold subL
  rw [isNil_eq]
  cases hc : (subTop a b).on with
  | false =>
    rw [hc] at h4
    simp only [Bool.false_eq_true, if_false] at h4
    rw [h4] at h1
    simp only [Bool.not_false, cond_true]
    have : val6 a + (pN - val6 b) = val6 (sub6 a b) + pN := by omega
    rw [this, Nat.add_mod_right, Nat.mod_eq_of_lt]
    omega
  | true =>
    rw [hc] at h4
    simp only [if_true] at h4
    rw [h4] at h1
    simp only [Bool.not_true, cond_false]
    have h5 := add6_val (sub6 a b) p6
    rw [val6_p6] at h5
    have h6 := (addTop (sub6 a b) p6).le
    have h7 := val6_lt' (add6 (sub6 a b) p6)
    rw [Nat.mod_eq_of_lt (by omega)]
    have h8 : (addTop (sub6 a b) p6).n = 1 := by omega
    rw [h8] at h5
    omega

theorem madd_nat (a b c d : UInt64) : 18446744073709551616 * (maddHi a b c d).toNat + (maddLo a b c d).toNat = a.toNat * b.toNat + c.toNat + d.toNat := by
  rw [maddHi_nat, maddLo_nat]
  exact Nat.div_add_mod _ _

theorem cios (X0 X1 X2 X3 X4 X5 t0 t1 t2 t3 t4 t5 q h0 h1 h2 h3 h4 h5 l0 l1 l2 l3 l4 l5 d0 d1 d2 d3 d4 d5 r1 r2 r3 r4 r5 : Nat)
  (e0 : 18446744073709551616 * h0 + l0 = X0 + t0) (e1 : 18446744073709551616 * h1 + l1 = X1 + t1 + h0) (e2 : 18446744073709551616 * h2 + l2 = X2 + t2 + h1)
  (e3 : 18446744073709551616 * h3 + l3 = X3 + t3 + h2) (e4 : 18446744073709551616 * h4 + l4 = X4 + t4 + h3) (e5 : 18446744073709551616 * h5 + l5 = X5 + t5 + h4)
  (f0 : 18446744073709551616 * d0 = q * 13402431016077863595 + l0) (f1 : 18446744073709551616 * d1 + r1 = q * 2210141511517208575 + l1 + d0) (f2 : 18446744073709551616 * d2 + r2 = q * 7435674573564081700 + l2 + d1)
  (f3 : 18446744073709551616 * d3 + r3 = q * 7239337960414712511 + l3 + d2) (f4 : 18446744073709551616 * d4 + r4 = q * 5412103778470702295 + l4 + d3) (f5 : 18446744073709551616 * d5 + r5 = q * 1873798617647539866 + l5 + d4) :
  t0 + 18446744073709551616 * (t1 + 18446744073709551616 * (t2 + 18446744073709551616 * (t3 + 18446744073709551616 * (t4 + 18446744073709551616 * t5)))) + (X0 + 18446744073709551616 * (X1 + 18446744073709551616 * (X2 + 18446744073709551616 * (X3 + 18446744073709551616 * (X4 + 18446744073709551616 * X5))))) +
   q * 4002409555221667393417789825735904156556882819939007885332058136124031650490837864442687629129015664037894272559787 = 18446744073709551616 * (r1 + 18446744073709551616 * (r2 + 18446744073709551616 * (r3 + 18446744073709551616 * (r4 + 18446744073709551616 * (r5 + 18446744073709551616 * (h5 + d5)))))) := by
  omega

theorem small_of (T XB QP r1 r2 r3 r4 r5 hd : Nat) (h1 : T < 2 * 4002409555221667393417789825735904156556882819939007885332058136124031650490837864442687629129015664037894272559787) (h2 : XB ≤ 18446744073709551615 * 4002409555221667393417789825735904156556882819939007885332058136124031650490837864442687629129015664037894272559787) (h3 : QP ≤ 18446744073709551615 * 4002409555221667393417789825735904156556882819939007885332058136124031650490837864442687629129015664037894272559787)
    (h : T + XB + QP = 18446744073709551616 * (r1 + 18446744073709551616 * (r2 + 18446744073709551616 * (r3 + 18446744073709551616 * (r4 + 18446744073709551616 * (r5 + 18446744073709551616 * hd)))))) : hd < 18446744073709551616 := by
  omega

theorem rnd_aux (x b0 b1 b2 b3 b4 b5 t0 t1 t2 t3 t4 t5 h0 l0 q d0 h1 l1 d1 r1 h2 l2 d2 r2 h3 l3 d3 r3 h4 l4 d4 r4 h5 l5 d5 r5 : UInt64) (hb : val6 (b0, b1, b2, b3, b4, b5) < pN) (ht : val6 (t0, t1, t2, t3, t4, t5) < 2 * pN)
    (H0 : h0 = maddHi x b0 t0 (UInt64.ofNat 0)) (L0 : l0 = maddLo x b0 t0 (UInt64.ofNat 0))
    (Q : q = u64 ((l0.toNat : Int) * 9940570264628428797))
    (D0 : d0 = maddHi q 13402431016077863595 l0 (UInt64.ofNat 0))
    (H1 : h1 = maddHi x b1 t1 h0) (L1 : l1 = maddLo x b1 t1 h0)
    (D1 : d1 = maddHi q 2210141511517208575 l1 d0) (R1 : r1 = maddLo q 2210141511517208575 l1 d0)
    (H2 : h2 = maddHi x b2 t2 h1) (L2 : l2 = maddLo x b2 t2 h1)
    (D2 : d2 = maddHi q 7435674573564081700 l2 d1) (R2 : r2 = maddLo q 7435674573564081700 l2 d1)
    (H3 : h3 = maddHi x b3 t3 h2) (L3 : l3 = maddLo x b3 t3 h2)
    (D3 : d3 = maddHi q 7239337960414712511 l3 d2) (R3 : r3 = maddLo q 7239337960414712511 l3 d2)
    (H4 : h4 = maddHi x b4 t4 h3) (L4 : l4 = maddLo x b4 t4 h3)
    (D4 : d4 = maddHi q 5412103778470702295 l4 d3) (R4 : r4 = maddLo q 5412103778470702295 l4 d3)
    (H5 : h5 = maddHi x b5 t5 h4) (L5 : l5 = maddLo x b5 t5 h4)
    (D5 : d5 = maddHi q 1873798617647539866 l5 d4) (R5 : r5 = maddLo q 1873798617647539866 l5 d4) :
    18446744073709551616 * val6 (r1, r2, r3, r4, r5, u64 ((h5.toNat : Int) + d5.toNat)) = val6 (t0, t1, t2, t3, t4, t5) + x.toNat * val6 (b0, b1, b2, b3, b4, b5) + q.toNat * pN := by
  have z : (UInt64.ofNat 0).toNat = 0 := rfl
  have hq : q.toNat = l0.toNat * 9940570264628428797 % 18446744073709551616 := by
    rw [Q]
    have : ((l0.toNat : Int) * 9940570264628428797) = ((l0.toNat * 9940570264628428797 : Nat) : Int) := by simp
    rw [this, u64_nat]
  have hr0 : (maddLo q 13402431016077863595 l0 (UInt64.ofNat 0)).toNat = 0 := by
    rw [maddLo_nat]
    unfold maddN
    have : (13402431016077863595 : UInt64).toNat = 13402431016077863595 := rfl
    rw [this, hq, z]
    omega
  have e0 := madd_nat x b0 t0 (UInt64.ofNat 0)
  rw [← H0, ← L0] at e0
  have f0 := madd_nat q 13402431016077863595 l0 (UInt64.ofNat 0)
  rw [← D0, show (13402431016077863595 : UInt64).toNat = 13402431016077863595 from rfl] at f0
  have e1 := madd_nat x b1 t1 h0
  rw [← H1, ← L1] at e1
  have f1 := madd_nat q 2210141511517208575 l1 d0
  rw [← D1, ← R1, show (2210141511517208575 : UInt64).toNat = 2210141511517208575 from rfl] at f1
  have e2 := madd_nat x b2 t2 h1
  rw [← H2, ← L2] at e2
  have f2 := madd_nat q 7435674573564081700 l2 d1
  rw [← D2, ← R2, show (7435674573564081700 : UInt64).toNat = 7435674573564081700 from rfl] at f2
  have e3 := madd_nat x b3 t3 h2
  rw [← H3, ← L3] at e3
  have f3 := madd_nat q 7239337960414712511 l3 d2
  rw [← D3, ← R3, show (7239337960414712511 : UInt64).toNat = 7239337960414712511 from rfl] at f3
  have e4 := madd_nat x b4 t4 h3
  rw [← H4, ← L4] at e4
  have f4 := madd_nat q 5412103778470702295 l4 d3
  rw [← D4, ← R4, show (5412103778470702295 : UInt64).toNat = 5412103778470702295 from rfl] at f4
  have e5 := madd_nat x b5 t5 h4
  rw [← H5, ← L5] at e5
  have f5 := madd_nat q 1873798617647539866 l5 d4
  rw [← D5, ← R5, show (1873798617647539866 : UInt64).toNat = 1873798617647539866 from rfl] at f5
  rw [z, Nat.add_zero] at e0
  rw [hr0, z, Nat.add_zero, Nat.add_zero] at f0
  have key := cios _ _ _ _ _ _ _ _ _ _ _ _ _ _ _ _ _ _ _ _ _ _ _ _ _ _ _ _ _ _ _ _ _ _ _ _ e0 e1 e2 e3 e4 e5 f0 f1 f2 f3 f4 f5
  have xb : x.toNat * val6 (b0, b1, b2, b3, b4, b5) = x.toNat * b0.toNat + 18446744073709551616 * (x.toNat * b1.toNat + 18446744073709551616 * (x.toNat * b2.toNat + 18446744073709551616 * (x.toNat * b3.toNat + 18446744073709551616 * (x.toNat * b4.toNat + 18446744073709551616 * (x.toNat * b5.toNat))))) := by
    simp only [val6, Nat.mul_add, Nat.mul_left_comm x.toNat 18446744073709551616]
  have top : val6 (t0, t1, t2, t3, t4, t5) + x.toNat * val6 (b0, b1, b2, b3, b4, b5) + q.toNat * pN = 18446744073709551616 * (r1.toNat + 18446744073709551616 * (r2.toNat + 18446744073709551616 * (r3.toNat + 18446744073709551616 * (r4.toNat + 18446744073709551616 * (r5.toNat + 18446744073709551616 * (h5.toNat + d5.toNat)))))) := by
    rw [xb, pN_val]
    exact key
  have hx := x.toNat_lt
  have hql := q.toNat_lt
  have bx : x.toNat * val6 (b0, b1, b2, b3, b4, b5) ≤ 18446744073709551615 * pN := Nat.mul_le_mul (by omega) (by omega)
  have bq : q.toNat * pN ≤ 18446744073709551615 * pN := Nat.mul_le_mul (by omega) (Nat.le_refl _)
  have small : h5.toNat + d5.toNat < 18446744073709551616 := by
    rw [pN_val] at ht bx bq top
    exact small_of _ _ _ _ _ _ _ _ _ ht bx bq top
  rw [top]
  have hu : (u64 ((h5.toNat : Int) + d5.toNat)).toNat = h5.toNat + d5.toNat := by
    have : ((h5.toNat : Int) + d5.toNat) = ((h5.toNat + d5.toNat : Nat) : Int) := by simp
    rw [this, u64_nat, Nat.mod_eq_of_lt small]
  simp only [val6, hu]

/-- One row, as numbers. -/
theorem rnd_val (b t : L6) (x : UInt64) (hb : val6 b < pN) (ht : val6 t < 2 * pN) :
    ∃ q, q < 18446744073709551616 ∧ 18446744073709551616 * val6 (rnd b t x) = val6 t + x.toNat * val6 b + q * pN := by
  obtain ⟨b0, b1, b2, b3, b4, b5⟩ := b
  obtain ⟨t0, t1, t2, t3, t4, t5⟩ := t
  exact ⟨_, UInt64.toNat_lt _, rnd_aux x b0 b1 b2 b3 b4 b5 t0 t1 t2 t3 t4 t5 _ _ _ _ _ _ _ _ _ _ _ _ _ _ _ _ _ _ _ _ _ _ _ _ hb ht rfl rfl rfl rfl rfl rfl rfl rfl rfl rfl rfl rfl rfl rfl rfl rfl rfl rfl rfl rfl rfl rfl rfl rfl⟩

end Go.Proofs.Ytbdbmcdcjejffaa

/- Fp: sums, differences and products of the program are those of the field. -/
namespace Go.Proofs.Ytbdbmcdcjejffaa
open Go Go.Sh

theorem chain6 (T1 T2 T3 T4 T5 T6 A0 A1 A2 A3 A4 A5 Q0 Q1 Q2 Q3 Q4 Q5 : Nat) (h1 : 18446744073709551616 * T1 = 0 + A0 + Q0) (h2 : 18446744073709551616 * T2 = T1 + A1 + Q1) (h3 : 18446744073709551616 * T3 = T2 + A2 + Q2)
    (h4 : 18446744073709551616 * T4 = T3 + A3 + Q3) (h5 : 18446744073709551616 * T5 = T4 + A4 + Q4) (h6 : 18446744073709551616 * T6 = T5 + A5 + Q5) :
    39402006196394479212279040100143613805079739270465446667948293404245721771497210611414266254884915640806627990306816 * T6 =
      (A0 + 18446744073709551616 * (A1 + 18446744073709551616 * (A2 + 18446744073709551616 * (A3 + 18446744073709551616 * (A4 + 18446744073709551616 * A5))))) +
      (Q0 + 18446744073709551616 * (Q1 + 18446744073709551616 * (Q2 + 18446744073709551616 * (Q3 + 18446744073709551616 * (Q4 + 18446744073709551616 * Q5))))) := by omega

theorem mulT_lt {a b : L6} (hb : val6 b < pN) : ∀ k, val6 (mulT a b k) < 2 * pN
  | 0 => by
    have : val6 (mulT a b 0) = 0 := rfl
    rw [this, pN_val]; omega
  | k + 1 => by
    obtain ⟨q, hq, h⟩ := rnd_val b (mulT a b k) (lim k a) hb (mulT_lt hb k)
    have hx := (lim k a).toNat_lt
    have b1 : (lim k a).toNat * val6 b ≤ 18446744073709551615 * pN := Nat.mul_le_mul (by omega) (by omega)
    have b2 : q * pN ≤ 18446744073709551615 * pN := Nat.mul_le_mul (by omega) (Nat.le_refl _)
    have ht := mulT_lt (a := a) hb k
    show val6 (rnd b (mulT a b k) (lim k a)) < 2 * pN
    omega

theorem mulRaw_val (a b : L6) (hb : val6 b < pN) : ∃ Q, 39402006196394479212279040100143613805079739270465446667948293404245721771497210611414266254884915640806627990306816 * val6 (mulRaw a b) = val6 a * val6 b + Q * pN := by
  obtain ⟨q0, _, h0⟩ := rnd_val b (mulT a b 0) (lim 0 a) hb (mulT_lt hb 0)
  obtain ⟨q1, _, h1⟩ := rnd_val b (mulT a b 1) (lim 1 a) hb (mulT_lt hb 1)
  obtain ⟨q2, _, h2⟩ := rnd_val b (mulT a b 2) (lim 2 a) hb (mulT_lt hb 2)
  obtain ⟨q3, _, h3⟩ := rnd_val b (mulT a b 3) (lim 3 a) hb (mulT_lt hb 3)
  obtain ⟨q4, _, h4⟩ := rnd_val b (mulT a b 4) (lim 4 a) hb (mulT_lt hb 4)
  obtain ⟨q5, _, h5⟩ := rnd_val b (mulT a b 5) (lim 5 a) hb (mulT_lt hb 5)
  have z : val6 (mulT a b 0) = 0 := rfl
  rw [z] at h0
  have key := chain6 (val6 (mulT a b 1)) (val6 (mulT a b 2)) (val6 (mulT a b 3)) (val6 (mulT a b 4)) (val6 (mulT a b 5)) (val6 (mulT a b 6)) _ _ _ _ _ _ _ _ _ _ _ _ h0 h1 h2 h3 h4 h5
  refine ⟨q0 + 18446744073709551616 * (q1 + 18446744073709551616 * (q2 + 18446744073709551616 * (q3 + 18446744073709551616 * (q4 + 18446744073709551616 * q5)))), ?_⟩
  refine key.trans ?_
  have e1 : (q0 + 18446744073709551616 * (q1 + 18446744073709551616 * (q2 + 18446744073709551616 * (q3 + 18446744073709551616 * (q4 + 18446744073709551616 * q5))))) * pN =
      q0 * pN + 18446744073709551616 * (q1 * pN + 18446744073709551616 * (q2 * pN + 18446744073709551616 * (q3 * pN + 18446744073709551616 * (q4 * pN + 18446744073709551616 * (q5 * pN))))) := by
    simp only [Nat.add_mul, Nat.mul_assoc]
  have e2 : val6 a * val6 b = (lim 0 a).toNat * val6 b + 18446744073709551616 * ((lim 1 a).toNat * val6 b + 18446744073709551616 * ((lim 2 a).toNat * val6 b + 18446744073709551616 * ((lim 3 a).toNat * val6 b + 18446744073709551616 * ((lim 4 a).toNat * val6 b + 18446744073709551616 * ((lim 5 a).toNat * val6 b))))) := by
    obtain ⟨a0, a1, a2, a3, a4, a5⟩ := a
    show (a0.toNat + _) * _ = _
    simp only [Nat.add_mul, Nat.mul_assoc, lim]
  rw [e1, e2]

/-- 2^384 and its inverse, modulo p. -/
def r384 : Nat := 39402006196394479212279040100143613805079739270465446667948293404245721771497210611414266254884915640806627990306816
def i384 : Nat := 3231460744492646417066832100176244795738767926513225105051837195607029917124509527734802654356338138714468589979680
theorem i384_r : r384 * i384 % pN = 1 := by kernel_rfl
theorem mont_eq (x : Fp) : mont x = x.val * r384 % pN := by
  unfold mont r384
  rw [show (2 : Nat) ^ 384 = 39402006196394479212279040100143613805079739270465446667948293404245721771497210611414266254884915640806627990306816 from by kernel_rfl]

theorem mul_mod3 (a b : Nat) (n : Nat) : a % n * b % n = a * b % n := by rw [Nat.mul_mod, Nat.mod_mod, ← Nat.mul_mod]

/-- The number that 2^384 times is x, modulo p. -/
theorem by_inv {T N : Nat} (h : r384 * T % pN = N % pN) : T % pN = N * i384 % pN := by
  have e : r384 * T * i384 % pN = T % pN := by
    have : r384 * T * i384 = T * (r384 * i384) := by simp only [Nat.mul_comm, Nat.mul_left_comm, Nat.mul_assoc]
    rw [this, Nat.mul_mod, i384_r, Nat.mul_one, Nat.mod_mod]
  rw [← e, Nat.mul_mod, h, ← Nat.mul_mod]

theorem add_limbs (x y : Fp) : reducedL (add6 (limbs x) (limbs y)) = limbs (x + y) := by
  apply val6_inj
  rw [addL_val (by rw [val6_limbs]; exact mont_lt x) (by rw [val6_limbs]; exact mont_lt y), val6_limbs, val6_limbs, val6_limbs, mont_eq, mont_eq, mont_eq]
  have : (x + y).val = (x.val + y.val) % pN := Fin.val_add x y
  rw [this, ← Nat.add_mod, mul_mod3, Nat.add_mul]

theorem mont_add (x y : Fp) : mont (x + y) = (mont x + mont y) % pN := by
  have h := congrArg val6 (add_limbs x y)
  rw [addL_val (by rw [val6_limbs]; exact mont_lt x) (by rw [val6_limbs]; exact mont_lt y), val6_limbs, val6_limbs, val6_limbs] at h
  exact h.symm

theorem sub_limbs (x y : Fp) : subL (limbs x) (limbs y) = limbs (x - y) := by
  apply val6_inj
  rw [subL_val (by rw [val6_limbs]; exact mont_lt x) (by rw [val6_limbs]; exact mont_lt y), val6_limbs, val6_limbs, val6_limbs]
  have h := mont_add (x - y) y
  have e : x - y + y = x := by grind
  rw [e] at h
  clear e
  have h1 := mont_lt x
  have h2 := mont_lt y
  have h3 := mont_lt (x - y)
  generalize mont x = X at *
  generalize mont y = Y at *
  generalize mont (x - y) = Z at *
  rw [pN_val] at *
  omega

theorem mul_limbs (x y : Fp) : reducedL (mulRaw (limbs x) (limbs y)) = limbs (x * y) := by
  apply val6_inj
  have hy : val6 (limbs y) < pN := by rw [val6_limbs]; exact mont_lt y
  rw [reducedL_val (show val6 (mulRaw (limbs x) (limbs y)) < 2 * pN from mulT_lt hy 6), val6_limbs]
  obtain ⟨Q, h⟩ := mulRaw_val (limbs x) (limbs y) hy
  rw [val6_limbs, val6_limbs] at h
  have h' : r384 * val6 (mulRaw (limbs x) (limbs y)) % pN = (mont x * mont y) % pN := by
    have e : r384 * val6 (mulRaw (limbs x) (limbs y)) = mont x * mont y + Q * pN := h
    rw [e, Nat.add_mul_mod_self_right]
  have h2 := by_inv h'
  rw [mont_eq (x * y)]
  refine h2.trans ?_
  have hv : (x * y).val = (x.val * y.val) % pN := Fin.val_mul x y
  rw [hv, mul_mod3, mont_eq, mont_eq]
  rw [← mul_mod3 (x.val * r384 % pN * (y.val * r384 % pN)) i384, ← Nat.mul_mod, mul_mod3]
  have : x.val * r384 * (y.val * r384) * i384 = (x.val * y.val * r384) * (r384 * i384) := by simp only [Nat.mul_comm, Nat.mul_left_comm, Nat.mul_assoc]
  rw [this, Nat.mul_mod, i384_r, Nat.mul_one, Nat.mod_mod]

theorem add_ok : Computes A Try.prog 41 (fun x : Fp × Fp × Unit => x.1 + x.2.1) :=
  addL_ok.as (fun x => (limbs x.1, limbs x.2.1, ())) (fun _ _ _ _ => ⟨((), (), ()), ⟨trivial, trivial, trivial⟩, rfl⟩) (fun x => by rw [add_limbs]; rfl)
theorem sub_ok : Computes A Try.prog 43 (fun x : Fp × Fp × Unit => x.1 - x.2.1) :=
  subL_ok.as (fun x => (limbs x.1, limbs x.2.1, ())) (fun _ _ _ _ => ⟨((), (), ()), ⟨trivial, trivial, trivial⟩, rfl⟩) (fun x => by rw [sub_limbs]; rfl)
theorem mul_ok : Computes A Try.prog 45 (fun x : Fp × Fp × Unit => x.1 * x.2.1) :=
  mulL_ok.as (fun x => (limbs x.1, limbs x.2.1, ())) (fun _ _ _ _ => ⟨((), (), ()), ⟨trivial, trivial, trivial⟩, rfl⟩) (fun x => by rw [mul_limbs]; rfl)

end Go.Proofs.Ytbdbmcdcjejffaa

/- Fp and numbers: the functions without loops that are told. -/
namespace Go.Proofs.Ytbdbmcdcjejffaa
open Go Go.Sh

theorem limbsSubL_ok : Computes A Try.prog 183 (fun x : L6 × L6 × Unit => T2.mk (sub6 x.1 x.2.1) (subTop x.1 x.2.1)) :=
  computes_of_run0 tblC_ok Try.func183 (by kernel_rfl) (by kernel_rfl) 8 (fun _ _ _ => by kernel_rfl)
theorem refSubL_ok : Computes A Try.prog 148 (fun x : L6 × L6 × Unit => T2.mk (sub6 x.1 x.2.1) (subTop x.1 x.2.1)) :=
  computes_of_run0 tblC_ok Try.func148 (by kernel_rfl) (by kernel_rfl) 8 (fun _ _ _ => by kernel_rfl)
theorem refAddL_ok : Computes A Try.prog 158 (fun x : L6 × L6 × Unit => T2.mk (add6 x.1 x.2.1) (addTop x.1 x.2.1)) :=
  computes_of_run0 tblC_ok Try.func158 (by kernel_rfl) (by kernel_rfl) 8 (fun _ _ _ => by kernel_rfl)

theorem val6_numL (a : Num) : val6 (numL a) = a.val := val6_lim6 (by rw [w384]; exact a.isLt)
theorem sub6_num (a b : Num) : sub6 (numL a) (numL b) = numL (a - b) ∧ subTop (numL a) (numL b) = ⟨decide (a < b)⟩ := by
  have h := sub6_val (numL a) (numL b)
  rw [val6_numL, val6_numL] at h
  have h1 := val6_lt' (sub6 (numL a) (numL b))
  have h2 := Cy.n_on (subTop (numL a) (numL b))
  have ha := a.isLt
  have hb := b.isLt
  have e : (a - b).val = (39402006196394479212279040100143613805079739270465446667948293404245721771497210611414266254884915640806627990306816 - b.val + a.val) % 39402006196394479212279040100143613805079739270465446667948293404245721771497210611414266254884915640806627990306816 := Fin.val_sub a b
  constructor
  · apply val6_inj
    rw [val6_numL, e]
    cases hc : (subTop (numL a) (numL b)).on <;> rw [hc] at h2 <;> simp at h2 <;> rw [h2] at h <;> omega
  · have : (subTop (numL a) (numL b)).on = decide (a < b) := by
      show _ = decide (a.val < b.val)
      cases hc : (subTop (numL a) (numL b)).on <;> rw [hc] at h2 <;> simp at h2 <;> rw [h2] at h
      · exact (decide_eq_false (by omega)).symm
      · exact (decide_eq_true (by omega)).symm
    rw [← this]

theorem limbsSub_ok : Computes A Try.prog 183 (fun x : Num × Num × Unit => T2.mk (x.1 - x.2.1) (Cy.mk (decide (x.1 < x.2.1)))) :=
  limbsSubL_ok.as (fun x => (numL x.1, numL x.2.1, ())) (fun _ _ _ _ => ⟨((), (), ()), ⟨trivial, trivial, trivial⟩, rfl⟩) (fun x => by rw [(sub6_num x.1 x.2.1).1, (sub6_num x.1 x.2.1).2]; rfl)
theorem refSub_ok : Computes A Try.prog 148 (fun x : Num × Num × Unit => T2.mk (x.1 - x.2.1) (Cy.mk (decide (x.1 < x.2.1)))) :=
  refSubL_ok.as (fun x => (numL x.1, numL x.2.1, ())) (fun _ _ _ _ => ⟨((), (), ()), ⟨trivial, trivial, trivial⟩, rfl⟩) (fun x => by rw [(sub6_num x.1 x.2.1).1, (sub6_num x.1 x.2.1).2]; rfl)

theorem add6_num (a b : Num) : add6 (numL a) (numL b) = numL (a + b) ∧ addTop (numL a) (numL b) = ⟨decide (39402006196394479212279040100143613805079739270465446667948293404245721771497210611414266254884915640806627990306816 ≤ a.val + b.val)⟩ := by
  have h := add6_val (numL a) (numL b)
  rw [val6_numL, val6_numL] at h
  have h1 := val6_lt' (add6 (numL a) (numL b))
  have h2 := Cy.n_on (addTop (numL a) (numL b))
  have ha := a.isLt
  have hb := b.isLt
  have e : (a + b).val = (a.val + b.val) % 39402006196394479212279040100143613805079739270465446667948293404245721771497210611414266254884915640806627990306816 := Fin.val_add a b
  constructor
  · apply val6_inj
    rw [val6_numL, e]
    cases hc : (addTop (numL a) (numL b)).on <;> rw [hc] at h2 <;> simp at h2 <;> rw [h2] at h <;> omega
  · have : (addTop (numL a) (numL b)).on = decide (39402006196394479212279040100143613805079739270465446667948293404245721771497210611414266254884915640806627990306816 ≤ a.val + b.val) := by
      cases hc : (addTop (numL a) (numL b)).on <;> rw [hc] at h2 <;> simp at h2 <;> rw [h2] at h
      · exact (decide_eq_false (by omega)).symm
      · exact (decide_eq_true (by omega)).symm
    rw [← this]
theorem refAdd_ok : Computes A Try.prog 158 (fun x : Num × Num × Unit => T2.mk (x.1 + x.2.1) (Cy.mk (decide (39402006196394479212279040100143613805079739270465446667948293404245721771497210611414266254884915640806627990306816 ≤ x.1.val + x.2.1.val)))) :=
  refAddL_ok.as (fun x => (numL x.1, numL x.2.1, ())) (fun _ _ _ _ => ⟨((), (), ()), ⟨trivial, trivial, trivial⟩, rfl⟩) (fun x => by rw [(add6_num x.1 x.2.1).1, (add6_num x.1 x.2.1).2]; rfl)

def tblD : List (Row A) := [rowOf A 183 (fun x : Num × Num × Unit => T2.mk (x.1 - x.2.1) (Cy.mk (decide (x.1 < x.2.1)))), rowOf A 148 (fun x : Num × Num × Unit => T2.mk (x.1 - x.2.1) (Cy.mk (decide (x.1 < x.2.1))))]
theorem tblD_ok : TblOK Try.prog tblD := .cons limbsSub_ok.row (.cons refSub_ok.row (.nil _))

theorem cy_one (b : Bool) : ((cond b 1 0 : Int) == 1) = b := by cases b <;> rfl
theorem Computes.eq {Γ R : Type} [Args A Γ] [Res A R] {g : FuncId} {f f' : Γ → R} (h : Computes A Try.prog g f) (e : ∀ x, f x = f' x) : Computes A Try.prog g f' := by
  have : f = f' := funext e
  rw [← this]; exact h

theorem limbsLess_ok : Computes A Try.prog 145 (fun x : Num × Num × Unit => decide (x.1 < x.2.1)) :=
  Computes.eq (f := fun x : Num × Num × Unit => ((cond (decide (x.1 < x.2.1)) 1 0 : Int) == 1)) (computes_of_run0 tblD_ok Try.func145 (by kernel_rfl) (by kernel_rfl) 8 (fun _ _ _ => by kernel_rfl)) (fun _ => cy_one _)
theorem refLess_ok : Computes A Try.prog 29 (fun x : Num × Num × Unit => decide (x.1 < x.2.1)) :=
  Computes.eq (f := fun x : Num × Num × Unit => ((cond (decide (x.1 < x.2.1)) 1 0 : Int) == 1)) (computes_of_run0 tblD_ok Try.func29 (by kernel_rfl) (by kernel_rfl) 8 (fun _ _ _ => by kernel_rfl)) (fun _ => cy_one _)

/-- p as a number. -/
def pNum : Num := ⟨pN, by have := pN_lt; rwa [w384] at this⟩
theorem prime_ok : Computes A Try.prog 146 (fun _ : Unit => pNum) :=
  Computes.eq (f := fun _ => numO p6) (computes_of_run0 tblD_ok Try.func146 (by kernel_rfl) (by kernel_rfl) 8 (fun _ _ _ => by kernel_rfl)) (fun _ => Fin.ext val6_p6)
theorem refP_ok : Computes A Try.prog 30 (fun _ : Unit => pNum) :=
  Computes.eq (f := fun _ => numO p6) (computes_of_run0 tblD_ok Try.func30 (by kernel_rfl) (by kernel_rfl) 8 (fun _ _ _ => by kernel_rfl)) (fun _ => Fin.ext val6_p6)

/-- 2^384, and its inverse, in the field. -/
def rF : Fp := ⟨r384 % pN, Nat.mod_lt _ (by decide)⟩
def iF : Fp := ofMont 1
theorem one_ok : Computes A Try.prog 163 (fun _ : Unit => (1 : Fp)) :=
  computes_of_run0 tblD_ok Try.func163 (by kernel_rfl) (by kernel_rfl) 8 (fun _ _ _ => by kernel_rfl)
theorem refOne_ok : Computes A Try.prog 164 (fun _ : Unit => (1 : Fp)) :=
  computes_of_run0 tblD_ok Try.func164 (by kernel_rfl) (by kernel_rfl) 8 (fun _ _ _ => by kernel_rfl)
theorem square_ok : Computes A Try.prog 184 (fun _ : Unit => rF) :=
  computes_of_run0 tblD_ok Try.func184 (by kernel_rfl) (by kernel_rfl) 8 (fun _ _ _ => by kernel_rfl)
theorem refTwo_ok : Computes A Try.prog 153 (fun _ : Unit => rF) :=
  computes_of_run0 tblD_ok Try.func153 (by kernel_rfl) (by kernel_rfl) 8 (fun _ _ _ => by kernel_rfl)

end Go.Proofs.Ytbdbmcdcjejffaa
