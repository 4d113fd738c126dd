/- Fp2: sums, products, inverses of elements of two parts; the program's and the reference's. -/
import Derived.Test.YtbdbmcdcjejffaaFp2
set_option linter.unusedVariables false
set_option linter.unusedSimpArgs false
set_option linter.unusedSectionVars false
namespace Go.Proofs.Ytbdbmcdcjejffaa
open Go Go.Sh

/-- A + B i. -/
abbrev F2 := Fp × Fp
def add2 (a b : F2) : F2 := (a.1 + b.1, a.2 + b.2)
def sub2 (a b : F2) : F2 := (a.1 - b.1, a.2 - b.2)
def neg2 (a : F2) : F2 := (-a.1, -a.2)
def conj2 (a : F2) : F2 := (a.1, -a.2)
def mul2 (a b : F2) : F2 := (a.1 * b.1 - a.2 * b.2, a.1 * b.2 + a.2 * b.1)
def scale2 (a : F2) (c : Fp) : F2 := (a.1 * c, a.2 * c)
def xi2 (a : F2) : F2 := (a.1 - a.2, a.1 + a.2)
def norm2 (a : F2) : Fp := a.1 * a.1 + a.2 * a.2
def inv2 (a : F2) : F2 := (a.1 * invF (norm2 a), -a.2 * invF (norm2 a))
def one2 : F2 := (1, 0)
def zero2 : F2 := (0, 0)
def eq2 (a b : F2) : Bool := decide (a.1 = b.1) && decide (a.2 = b.2)
def isZ2 (a : F2) : Bool := decide (a.1 = 0) && decide (a.2 = 0)
theorem eq2_eq (a b : F2) : eq2 a b = decide (a = b) := by
  obtain ⟨a1, a2⟩ := a
  obtain ⟨b1, b2⟩ := b
  simp only [eq2, Prod.mk.injEq, Bool.decide_and]
theorem isZ2_eq (a : F2) : isZ2 a = decide (a = zero2) := by
  obtain ⟨a1, a2⟩ := a
  simp only [isZ2, zero2, Prod.mk.injEq, Bool.decide_and]


def tblG : List (Row A) :=
  [rowOf A 41 (fun x : Fp × Fp × Unit => x.1 + x.2.1),
    rowOf A 43 (fun x : Fp × Fp × Unit => x.1 - x.2.1),
    rowOf A 45 (fun x : Fp × Fp × Unit => x.1 * x.2.1),
    rowOf A 47 (fun x : Fp × Unit => x.1 * x.1),
    rowOf A 48 (fun x : Fp × Unit => -x.1),
    rowOf A 50 (fun x : Fp × Unit => invF x.1),
    rowOf A 38 (fun x : UInt64 × Unit => fpOf x.1)]
theorem tblG_ok : TblOK Try.prog tblG := .cons add_ok.row (.cons sub_ok.row (.cons mul_ok.row (.cons sq_ok.row (.cons neg_ok.row (.cons inv_ok.row (.cons of_ok.row (.nil _)))))))

def tblRG : List (Row A) :=
  [rowOf A 42 (fun x : Fp × Fp × Unit => x.1 + x.2.1),
    rowOf A 44 (fun x : Fp × Fp × Unit => x.1 - x.2.1),
    rowOf A 46 (fun x : Fp × Fp × Unit => x.1 * x.2.1),
    rowOf A 49 (fun x : Fp × Unit => -x.1),
    rowOf A 51 (fun x : Fp × Unit => invF x.1),
    rowOf A 39 (fun x : UInt64 × Unit => fpOf x.1)]
theorem tblRG_ok : TblOK Try.prog tblRG := .cons refFAdd_ok.row (.cons refFSub_ok.row (.cons refMul_ok.row (.cons refNeg_ok.row (.cons refInv_ok.row (.cons refSmall_ok.row (.nil _))))))

theorem add2_ok : Computes A Try.prog 116 (fun x : F2 × F2 × Unit => add2 x.1 x.2.1) :=
  computes_of_run0 tblG_ok Try.func116 (by kernel_rfl) (by kernel_rfl) 8 (fun _ _ _ => by kernel_rfl)
theorem sub2_ok : Computes A Try.prog 120 (fun x : F2 × F2 × Unit => sub2 x.1 x.2.1) :=
  computes_of_run0 tblG_ok Try.func120 (by kernel_rfl) (by kernel_rfl) 8 (fun _ _ _ => by kernel_rfl)
theorem neg2_ok : Computes A Try.prog 110 (fun x : F2 × Unit => neg2 x.1) :=
  computes_of_run0 tblG_ok Try.func110 (by kernel_rfl) (by kernel_rfl) 8 (fun _ _ _ => by kernel_rfl)
theorem conj2_ok : Computes A Try.prog 112 (fun x : F2 × Unit => conj2 x.1) :=
  computes_of_run0 tblG_ok Try.func112 (by kernel_rfl) (by kernel_rfl) 8 (fun _ _ _ => by kernel_rfl)
theorem mul2_ok : Computes A Try.prog 111 (fun x : F2 × F2 × Unit => mul2 x.1 x.2.1) :=
  Computes.eq (f := fun x : F2 × F2 × Unit => (x.1.1 * x.2.1.1 - x.1.2 * x.2.1.2, (x.1.1 + x.1.2) * (x.2.1.1 + x.2.1.2) - x.1.1 * x.2.1.1 - x.1.2 * x.2.1.2)) (computes_of_run0 tblG_ok Try.func111 (by kernel_rfl) (by kernel_rfl) 8 (fun _ _ _ => by kernel_rfl)) (fun x => by refine Prod.ext ?_ ?_ <;> simp only [mul2] <;> grind)
theorem sq2_ok : Computes A Try.prog 125 (fun x : F2 × Unit => mul2 x.1 x.1) :=
  Computes.eq (f := fun x : F2 × Unit => ((x.1.1 + x.1.2) * (x.1.1 - x.1.2), x.1.1 * x.1.2 + x.1.1 * x.1.2)) (computes_of_run0 tblG_ok Try.func125 (by kernel_rfl) (by kernel_rfl) 8 (fun _ _ _ => by kernel_rfl)) (fun x => by refine Prod.ext ?_ ?_ <;> simp only [mul2] <;> grind)
theorem scale2_ok : Computes A Try.prog 115 (fun x : F2 × Fp × Unit => scale2 x.1 x.2.1) :=
  computes_of_run0 tblG_ok Try.func115 (by kernel_rfl) (by kernel_rfl) 8 (fun _ _ _ => by kernel_rfl)
theorem xi2_ok : Computes A Try.prog 128 (fun x : F2 × Unit => xi2 x.1) :=
  computes_of_run0 tblG_ok Try.func128 (by kernel_rfl) (by kernel_rfl) 8 (fun _ _ _ => by kernel_rfl)
theorem norm2_ok : Computes A Try.prog 177 (fun x : F2 × Unit => norm2 x.1) :=
  computes_of_run0 tblG_ok Try.func177 (by kernel_rfl) (by kernel_rfl) 8 (fun _ _ _ => by kernel_rfl)
theorem fpOf_one : fpOf 1 = 1 := by kernel_rfl
theorem fpOf_zero : fpOf 0 = 0 := by kernel_rfl
theorem one2_ok : Computes A Try.prog 137 (fun _ : Unit => one2) :=
  Computes.eq (f := fun _ : Unit => ((fpOf 1, 0) : F2)) (computes_of_run0 tblG_ok Try.func137 (by kernel_rfl) (by kernel_rfl) 8 (fun _ _ _ => by kernel_rfl)) (fun _ => by rw [fpOf_one]; rfl)
def tblG2 : List (Row A) :=
  [rowOf A 50 (fun x : Fp × Unit => invF x.1),
    rowOf A 112 (fun x : F2 × Unit => conj2 x.1),
    rowOf A 177 (fun x : F2 × Unit => norm2 x.1),
    rowOf A 115 (fun x : F2 × Fp × Unit => scale2 x.1 x.2.1)]
theorem tblG2_ok : TblOK Try.prog tblG2 := .cons inv_ok.row (.cons conj2_ok.row (.cons norm2_ok.row (.cons scale2_ok.row (.nil _))))

theorem inv2_ok : Computes A Try.prog 126 (fun x : F2 × Unit => inv2 x.1) :=
  computes_of_run0 tblG2_ok Try.func126 (by kernel_rfl) (by kernel_rfl) 8 (fun _ _ _ => by kernel_rfl)
theorem rAdd2_ok : Computes A Try.prog 119 (fun x : F2 × F2 × Unit => add2 x.1 x.2.1) :=
  computes_of_run0 tblRG_ok Try.func119 (by kernel_rfl) (by kernel_rfl) 8 (fun _ _ _ => by kernel_rfl)
theorem rSub2_ok : Computes A Try.prog 121 (fun x : F2 × F2 × Unit => sub2 x.1 x.2.1) :=
  computes_of_run0 tblRG_ok Try.func121 (by kernel_rfl) (by kernel_rfl) 8 (fun _ _ _ => by kernel_rfl)
theorem rNeg2_ok : Computes A Try.prog 122 (fun x : F2 × Unit => neg2 x.1) :=
  computes_of_run0 tblRG_ok Try.func122 (by kernel_rfl) (by kernel_rfl) 8 (fun _ _ _ => by kernel_rfl)
theorem rConj2_ok : Computes A Try.prog 123 (fun x : F2 × Unit => conj2 x.1) :=
  computes_of_run0 tblRG_ok Try.func123 (by kernel_rfl) (by kernel_rfl) 8 (fun _ _ _ => by kernel_rfl)
theorem rXi2_ok : Computes A Try.prog 129 (fun x : F2 × Unit => xi2 x.1) :=
  computes_of_run0 tblRG_ok Try.func129 (by kernel_rfl) (by kernel_rfl) 8 (fun _ _ _ => by kernel_rfl)
theorem rNorm2_ok : Computes A Try.prog 178 (fun x : F2 × Unit => norm2 x.1) :=
  computes_of_run0 tblRG_ok Try.func178 (by kernel_rfl) (by kernel_rfl) 8 (fun _ _ _ => by kernel_rfl)
theorem rOne2_ok : Computes A Try.prog 86 (fun _ : Unit => one2) :=
  Computes.eq (f := fun _ : Unit => ((fpOf 1, 0) : F2)) (computes_of_run0 tblRG_ok Try.func86 (by kernel_rfl) (by kernel_rfl) 8 (fun _ _ _ => by kernel_rfl)) (fun _ => by rw [fpOf_one]; rfl)
theorem rSmall2_ok : Computes A Try.prog 168 (fun x : UInt64 × UInt64 × Unit => ((fpOf x.1, fpOf x.2.1) : F2)) :=
  computes_of_run0 tblRG_ok Try.func168 (by kernel_rfl) (by kernel_rfl) 8 (fun _ _ _ => by kernel_rfl)
def tblRG2 : List (Row A) :=
  [rowOf A 46 (fun x : Fp × Fp × Unit => x.1 * x.2.1),
    rowOf A 49 (fun x : Fp × Unit => -x.1),
    rowOf A 51 (fun x : Fp × Unit => invF x.1),
    rowOf A 178 (fun x : F2 × Unit => norm2 x.1)]
theorem tblRG2_ok : TblOK Try.prog tblRG2 := .cons refMul_ok.row (.cons refNeg_ok.row (.cons refInv_ok.row (.cons rNorm2_ok.row (.nil _))))

theorem rInv2_ok : Computes A Try.prog 127 (fun x : F2 × Unit => inv2 x.1) :=
  computes_of_run0 tblRG2_ok Try.func127 (by kernel_rfl) (by kernel_rfl) 8 (fun _ _ _ => by kernel_rfl)

/-! ### What is decided on the way -/
theorem rMul2_of (Z : Fp → Bool) (M P D : Fp → Fp → Fp) (ht : TblOK Try.prog [rowOf A 53 (fun x : Fp × Unit => Z x.1), rowOf A 46 (fun x : Fp × Fp × Unit => M x.1 x.2.1), rowOf A 42 (fun x : Fp × Fp × Unit => P x.1 x.2.1), rowOf A 44 (fun x : Fp × Fp × Unit => D x.1 x.2.1)]) :
    Computes A Try.prog 124 (fun x : F2 × F2 × Unit => if Z x.1.2 = true ∧ Z x.2.1.2 = true then ((M x.1.1 x.2.1.1, 0) : F2) else (D (M x.1.1 x.2.1.1) (M x.1.2 x.2.1.2), D (D (M (P x.1.1 x.1.2) (P x.2.1.1 x.2.1.2)) (M x.1.1 x.2.1.1)) (M x.1.2 x.2.1.2))) := by
  refine computes_of_run ht Try.func124 (by kernel_rfl) (by kernel_rfl) 8 ?_
  rintro _ ⟨⟨a1, a2⟩, ⟨b1, b2⟩, ⟨⟩⟩ W -
  cases h1 : Z a2 with
  | true =>
    cases h2 : Z b2 with
    | true => exact ⟨says [(14, true), (18, true)], _, [Z b2 = true, Z a2 = true], (by kernel_rfl : _ = some (some ((M a1 b1, 0) : F2), _)), ⟨h2, h1, trivial⟩, by simp only [h1, h2, and_self, if_true]⟩
    | false => exact ⟨says [(14, true), (18, false)], _, [Z b2 = false, Z a2 = true], (by kernel_rfl : _ = some (some ((D (M a1 b1) (M a2 b2), D (D (M (P a1 a2) (P b1 b2)) (M a1 b1)) (M a2 b2)) : F2), _)), ⟨h2, h1, trivial⟩, by simp only [h1, h2, Bool.false_eq_true, and_false, if_false]⟩
  | false => exact ⟨says [(14, false)], _, [Z a2 = false], (by kernel_rfl : _ = some (some ((D (M a1 b1) (M a2 b2), D (D (M (P a1 a2) (P b1 b2)) (M a1 b1)) (M a2 b2)) : F2), _)), ⟨h1, trivial⟩, by simp only [h1, Bool.false_eq_true, false_and, if_false]⟩

theorem rMul2_ok : Computes A Try.prog 124 (fun x : F2 × F2 × Unit => mul2 x.1 x.2.1) :=
  Computes.eq (rMul2_of (fun a => decide (a = 0)) (fun a b => a * b) (fun a b => a + b) (fun a b => a - b) (.cons refIsZero_ok.row (.cons refMul_ok.row (.cons refFAdd_ok.row (.cons refFSub_ok.row (.nil _)))))) (fun x => by
    obtain ⟨⟨a1, a2⟩, ⟨b1, b2⟩, ⟨⟩⟩ := x
    simp only [mul2, decide_eq_true_eq]
    split
    · rename_i h
      obtain ⟨rfl, rfl⟩ := h
      refine Prod.ext ?_ ?_ <;> simp only <;> grind
    · refine Prod.ext ?_ ?_ <;> simp only <;> grind)

theorem eq2_of (E : Fp → Fp → Bool) (ht : TblOK Try.prog [rowOf A 52 (fun x : Fp × Fp × Unit => E x.1 x.2.1)]) : Computes A Try.prog 113 (fun x : F2 × F2 × Unit => E x.1.1 x.2.1.1 && E x.1.2 x.2.1.2) := by
  refine computes_of_run ht Try.func113 (by kernel_rfl) (by kernel_rfl) 8 ?_
  rintro _ ⟨⟨a1, a2⟩, ⟨b1, b2⟩, ⟨⟩⟩ W -
  cases h1 : E a1 b1 with
  | true =>
    cases h2 : E a2 b2 with
    | true => exact ⟨says [(9, true), (15, true)], _, [E a2 b2 = true, E a1 b1 = true], (by kernel_rfl : _ = some (some true, _)), ⟨h2, h1, trivial⟩, by first | (simp only [h1, h2]; rfl) | simp [h1, h2]⟩
    | false => exact ⟨says [(9, true), (15, false)], _, [E a2 b2 = false, E a1 b1 = true], (by kernel_rfl : _ = some (some false, _)), ⟨h2, h1, trivial⟩, by first | (simp only [h1, h2]; rfl) | simp [h1, h2]⟩
  | false => exact ⟨says [(9, false)], _, [E a1 b1 = false], (by kernel_rfl : _ = some (some false, _)), ⟨h1, trivial⟩, by first | (simp only [h1]; rfl) | simp [h1]⟩

theorem isZ2_of (Z : Fp → Bool) (ht : TblOK Try.prog [rowOf A 31 (fun x : Fp × Unit => Z x.1)]) : Computes A Try.prog 109 (fun x : F2 × Unit => Z x.1.1 && Z x.1.2) := by
  refine computes_of_run ht Try.func109 (by kernel_rfl) (by kernel_rfl) 8 ?_
  rintro _ ⟨⟨a1, a2⟩, ⟨⟩⟩ W -
  cases h1 : Z a1 with
  | true =>
    cases h2 : Z a2 with
    | true => exact ⟨says [(5, true), (9, true)], _, [Z a2 = true, Z a1 = true], (by kernel_rfl : _ = some (some true, _)), ⟨h2, h1, trivial⟩, by first | (simp only [h1, h2]; rfl) | simp [h1, h2]⟩
    | false => exact ⟨says [(5, true), (9, false)], _, [Z a2 = false, Z a1 = true], (by kernel_rfl : _ = some (some false, _)), ⟨h2, h1, trivial⟩, by first | (simp only [h1, h2]; rfl) | simp [h1, h2]⟩
  | false => exact ⟨says [(5, false)], _, [Z a1 = false], (by kernel_rfl : _ = some (some false, _)), ⟨h1, trivial⟩, by first | (simp only [h1]; rfl) | simp [h1]⟩

theorem rIsZ2_of (Z : Fp → Bool) (ht : TblOK Try.prog [rowOf A 53 (fun x : Fp × Unit => Z x.1)]) : Computes A Try.prog 130 (fun x : F2 × Unit => Z x.1.1 && Z x.1.2) := by
  refine computes_of_run ht Try.func130 (by kernel_rfl) (by kernel_rfl) 8 ?_
  rintro _ ⟨⟨a1, a2⟩, ⟨⟩⟩ W -
  cases h1 : Z a1 with
  | true =>
    cases h2 : Z a2 with
    | true => exact ⟨says [(5, true), (9, true)], _, [Z a2 = true, Z a1 = true], (by kernel_rfl : _ = some (some true, _)), ⟨h2, h1, trivial⟩, by first | (simp only [h1, h2]; rfl) | simp [h1, h2]⟩
    | false => exact ⟨says [(5, true), (9, false)], _, [Z a2 = false, Z a1 = true], (by kernel_rfl : _ = some (some false, _)), ⟨h2, h1, trivial⟩, by first | (simp only [h1, h2]; rfl) | simp [h1, h2]⟩
  | false => exact ⟨says [(5, false)], _, [Z a1 = false], (by kernel_rfl : _ = some (some false, _)), ⟨h1, trivial⟩, by first | (simp only [h1]; rfl) | simp [h1]⟩

theorem eq2_ok : Computes A Try.prog 113 (fun x : F2 × F2 × Unit => decide (x.1 = x.2.1)) :=
  Computes.eq (eq2_of (fun a b => decide (a = b)) (.cons equal_ok.row (.nil _))) (fun x => eq2_eq x.1 x.2.1)
theorem isZ2_ok : Computes A Try.prog 109 (fun x : F2 × Unit => decide (x.1 = zero2)) :=
  Computes.eq (isZ2_of (fun a => decide (a = 0)) (.cons isZero_ok.row (.nil _))) (fun x => isZ2_eq x.1)
theorem rIsZ2_ok : Computes A Try.prog 130 (fun x : F2 × Unit => decide (x.1 = zero2)) :=
  Computes.eq (rIsZ2_of (fun a => decide (a = 0)) (.cons refIsZero_ok.row (.nil _))) (fun x => isZ2_eq x.1)

end Go.Proofs.Ytbdbmcdcjejffaa
