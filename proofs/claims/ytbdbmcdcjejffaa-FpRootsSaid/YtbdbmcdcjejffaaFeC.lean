/- Fp: reduction, sums, differences, products, on words. -/
import Derived.Test.YtbdbmcdcjejffaaFeB
set_option linter.unusedVariables false
set_option linter.unusedSimpArgs false
set_option linter.unusedSectionVars false
namespace Go.Proofs.Ytbdbmcdcjejffaa
open Go Go.Sh

def p6 : L6 := (13402431016077863595, 2210141511517208575, 7435674573564081700, 7239337960414712511, 5412103778470702295, 1873798617647539866)

/-- Six words added, subtracted: the words, and what is carried. -/
def add6C (a b : L6) : Cy × Cy × Cy × Cy × Cy × Cy :=
  let c0 := adcC a.1 b.1 ⟨false⟩
  let c1 := adcC a.2.1 b.2.1 c0
  let c2 := adcC a.2.2.1 b.2.2.1 c1
  let c3 := adcC a.2.2.2.1 b.2.2.2.1 c2
  let c4 := adcC a.2.2.2.2.1 b.2.2.2.2.1 c3
  (c0, c1, c2, c3, c4, adcC a.2.2.2.2.2 b.2.2.2.2.2 c4)
def add6 (a b : L6) : L6 :=
  let c := add6C a b
  (adcS a.1 b.1 ⟨false⟩, adcS a.2.1 b.2.1 c.1, adcS a.2.2.1 b.2.2.1 c.2.1, adcS a.2.2.2.1 b.2.2.2.1 c.2.2.1, adcS a.2.2.2.2.1 b.2.2.2.2.1 c.2.2.2.1, adcS a.2.2.2.2.2 b.2.2.2.2.2 c.2.2.2.2.1)
def sub6C (a b : L6) : Cy × Cy × Cy × Cy × Cy × Cy :=
  let c0 := sbbC a.1 b.1 ⟨false⟩
  let c1 := sbbC a.2.1 b.2.1 c0
  let c2 := sbbC a.2.2.1 b.2.2.1 c1
  let c3 := sbbC a.2.2.2.1 b.2.2.2.1 c2
  let c4 := sbbC a.2.2.2.2.1 b.2.2.2.2.1 c3
  (c0, c1, c2, c3, c4, sbbC a.2.2.2.2.2 b.2.2.2.2.2 c4)
def sub6 (a b : L6) : L6 :=
  let c := sub6C a b
  (sbbS a.1 b.1 ⟨false⟩, sbbS a.2.1 b.2.1 c.1, sbbS a.2.2.1 b.2.2.1 c.2.1, sbbS a.2.2.2.1 b.2.2.2.1 c.2.2.1, sbbS a.2.2.2.2.1 b.2.2.2.2.1 c.2.2.2.1, sbbS a.2.2.2.2.2 b.2.2.2.2.2 c.2.2.2.2.1)

def addTop (a b : L6) : Cy := (add6C a b).2.2.2.2.2
def subTop (a b : L6) : Cy := (sub6C a b).2.2.2.2.2

def isOne (c : Cy) : Bool := ((cond c.on 1 0 : Int) == 1)
def isNil (c : Cy) : Bool := ((cond c.on 1 0 : Int) == 0)

def reducedL (l : L6) : L6 := bif isOne (subTop l p6) then l else sub6 l p6

theorem reduced_ok : Computes A Try.prog 157 (fun x : L6 × Unit => reducedL x.1) := by
  refine computes_of_run tblB_ok Try.func157 (by kernel_rfl) (by kernel_rfl) 4 ?_
  rintro _ ⟨l, ⟨⟩⟩ W -
  cases hc : isOne (subTop l p6) with
  | true => exact ⟨fun _ _ => .take true, l, [isOne (subTop l p6) = true], by kernel_rfl, ⟨hc, trivial⟩, by simp only [reducedL, hc, cond_true]⟩
  | false => exact ⟨fun _ _ => .take false, sub6 l p6, [isOne (subTop l p6) = false], by kernel_rfl, ⟨hc, trivial⟩, by simp only [reducedL, hc, cond_false]⟩

def tblC : List (Row A) := rowOf A 160 (fun x : UInt64 × UInt64 × UInt64 × UInt64 × Unit => (T2.mk (maddHi x.1 x.2.1 x.2.2.1 x.2.2.2.1) (maddLo x.1 x.2.1 x.2.2.1 x.2.2.2.1))) ::
  rowOf A 157 (fun x : L6 × Unit => reducedL x.1) :: tblB
theorem tblC_ok : TblOK Try.prog tblC := .cons madd_ok.row (.cons reduced_ok.row tblB_ok)

theorem addL_ok : Computes A Try.prog 41 (fun x : L6 × L6 × Unit => reducedL (add6 x.1 x.2.1)) :=
  computes_of_run0 tblC_ok Try.func41 (by kernel_rfl) (by kernel_rfl) 4 (fun _ _ _ => by kernel_rfl)

def subL (a b : L6) : L6 := bif isNil (subTop a b) then sub6 a b else add6 (sub6 a b) p6

theorem subL_ok : Computes A Try.prog 43 (fun x : L6 × L6 × Unit => subL x.1 x.2.1) := by
  refine computes_of_run tblC_ok Try.func43 (by kernel_rfl) (by kernel_rfl) 4 ?_
  rintro _ ⟨a, b, ⟨⟩⟩ W -
  cases hc : isNil (subTop a b) with
  | true => exact ⟨fun _ _ => .take true, sub6 a b, [isNil (subTop a b) = true], by kernel_rfl, ⟨hc, trivial⟩, by simp only [subL, hc, cond_true]⟩
  | false => exact ⟨fun _ _ => .take false, add6 (sub6 a b) p6, [isNil (subTop a b) = false], by kernel_rfl, ⟨hc, trivial⟩, by simp only [subL, hc, cond_false]⟩

/-- One row of the product: a times 2^-64, and b x, modulo p. -/
def rnd (b t : L6) (x : UInt64) : L6 :=
  let h0 := maddHi x b.1 t.1 (UInt64.ofNat 0)
  let l0 := maddLo x b.1 t.1 (UInt64.ofNat 0)
  let q := u64 ((l0.toNat : Int) * 9940570264628428797)
  let d0 := maddHi q p6.1 l0 (UInt64.ofNat 0)
  let h1 := maddHi x b.2.1 t.2.1 h0
  let l1 := maddLo x b.2.1 t.2.1 h0
  let d1 := maddHi q p6.2.1 l1 d0
  let h2 := maddHi x b.2.2.1 t.2.2.1 h1
  let l2 := maddLo x b.2.2.1 t.2.2.1 h1
  let d2 := maddHi q p6.2.2.1 l2 d1
  let h3 := maddHi x b.2.2.2.1 t.2.2.2.1 h2
  let l3 := maddLo x b.2.2.2.1 t.2.2.2.1 h2
  let d3 := maddHi q p6.2.2.2.1 l3 d2
  let h4 := maddHi x b.2.2.2.2.1 t.2.2.2.2.1 h3
  let l4 := maddLo x b.2.2.2.2.1 t.2.2.2.2.1 h3
  let d4 := maddHi q p6.2.2.2.2.1 l4 d3
  let h5 := maddHi x b.2.2.2.2.2 t.2.2.2.2.2 h4
  let l5 := maddLo x b.2.2.2.2.2 t.2.2.2.2.2 h4
  let d5 := maddHi q p6.2.2.2.2.2 l5 d4
  (maddLo q p6.2.1 l1 d0, maddLo q p6.2.2.1 l2 d1, maddLo q p6.2.2.2.1 l3 d2, maddLo q p6.2.2.2.2.1 l4 d3, maddLo q p6.2.2.2.2.2 l5 d4, u64 ((h5.toNat : Int) + d5.toNat))

def zero6 : L6 := (UInt64.ofNat 0, UInt64.ofNat 0, UInt64.ofNat 0, UInt64.ofNat 0, UInt64.ofNat 0, UInt64.ofNat 0)

end Go.Proofs.Ytbdbmcdcjejffaa
