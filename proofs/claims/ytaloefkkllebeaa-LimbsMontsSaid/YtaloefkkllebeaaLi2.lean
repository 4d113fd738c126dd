/- limbs: sums, products. -/
import Derived.Test.YtaloefkkllebeaaRb1
import Derived.Test.YtaloefkkllebeaaRa3
set_option linter.unusedVariables false
set_option linter.unusedSimpArgs false
set_option linter.unusedSectionVars false
namespace Go.Proofs.Ytaloefkkllebeaa
open Go Go.Sh
theorem limbsAddL_ok : Computes A Try.prog 14 (fun x : L6 × L6 × Unit => T2.mk (add6 x.1 x.2.1) (addTop x.1 x.2.1)) :=
  computes_of_run0 tblA_ok Try.func14 (by kernel_rfl) (by kernel_rfl) 8 (fun _ _ _ => by kernel_rfl)
/-- Is a sum carried? -/
def carryN (a b : Num) : Bool := decide (39402006196394479212279040100143613805079739270465446667948293404245721771497210611414266254884915640806627990306816 ≤ a.val + b.val)
theorem limbsAdd_ok : Computes A Try.prog 14 (fun x : Num × Num × Unit => T2.mk (x.1 + x.2.1) (Cy.mk (carryN x.1 x.2.1))) :=
  limbsAddL_ok.as (fun x => (numL x.1, numL x.2.1, ())) (fun _ _ _ _ => ⟨((), (), ()), ⟨trivial, trivial, trivial⟩, rfl⟩) (fun x => by rw [(add6_num x.1 x.2.1).1, (add6_num x.1 x.2.1).2]; rfl)
def tblMu (H L : UInt64 → UInt64 → UInt64 → UInt64 → UInt64) : List (Row A) := [rowOf A 55 (fun x : UInt64 × UInt64 × UInt64 × UInt64 × Unit => (T2.mk (H x.1 x.2.1 x.2.2.1 x.2.2.2.1) (L x.1 x.2.1 x.2.2.1 x.2.2.2.1)))]
theorem limbsMul_of (H L : UInt64 → UInt64 → UInt64 → UInt64 → UInt64) (ht : TblOK Try.prog (tblMu H L)) :
    Computes A Try.prog 19 (fun x : L6 × L6 × Unit => (⟨pickN 0 (tmul (fun a b t w => (L a b t w, H a b t w)) (words6 x.1) (words6 x.2.1) zeros6)⟩ : R64 12)) := by
  refine computes_of_run0 ht Try.func19 (by kernel_rfl) (by kernel_rfl) 8 ?_
  rintro g ⟨x, y, ⟨⟩⟩ W
  kernel_rfl
theorem maddF_val (a b t w : UInt64) : (maddLo a b t w).toNat + 18446744073709551616 * (maddHi a b t w).toNat = a.toNat * b.toNat + t.toNat + w.toNat := by
  have := madd_nat a b t w
  omega
theorem limbsMul_ok : Computes A Try.prog 19 (fun x : Num × Num × Unit => n12 (x.1.val * x.2.1.val)) :=
  (limbsMul_of maddHi maddLo (.cons madd_ok.row (.nil _))).as (fun x => (numL x.1, numL x.2.1, ())) (fun _ _ _ _ => ⟨((), (), ()), ⟨trivial, trivial, trivial⟩, rfl⟩) (fun x => by
    have h1 := tmul_val (F := fun a b t w => (maddLo a b t w, maddHi a b t w)) maddF_val (words6 (numL x.1)) (words6 (numL x.2.1)) zeros6 rfl
    have h2 := tmul_len (F := fun a b t w => (maddLo a b t w, maddHi a b t w)) maddF_val (words6 (numL x.1)) (words6 (numL x.2.1)) zeros6 rfl
    have z : valW zeros6 = 0 := rfl
    rw [words6_val, words6_val, z, Nat.zero_add, val6_numL, val6_numL] at h1
    exact (r64_val (n := x.1.val * x.2.1.val) (by rw [h2]; rfl) h1))
theorem refTimes_ok : Computes A Try.prog 20 (fun x : Num × Num × Unit => n12 (x.1.val * x.2.1.val)) := times_ok mul64_ok add64_ok
theorem refWide_ok : Computes A Try.prog 41 (fun x : Bt × Num × Unit => rwideN x.1.l x.2.1 x.1.l.length) := refWide_of (.cons refTimes_ok.row (.cons refMod_ok.row (.cons add64_ok.row (.nil _))))
end Go.Proofs.Ytaloefkkllebeaa
