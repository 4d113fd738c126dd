/- The laws of fp6 and fp12, walked over variable functions. -/
import Derived.Test.YtbdbmcdcjejffaaGreatGe6
set_option linter.unusedVariables false
set_option linter.unusedSimpArgs false
set_option linter.unusedSectionVars false
namespace Go.Proofs.YtbdbmcdcjejffaaGreat
open Go Go.Sh

def tblKnown6 (O6 : F6) (V6 : F6 → F6) (M6 : F6 → F6 → F6) (Sl : UInt64 → UInt64 → F2) (E6 : F6 → F6 → Bool) (Q6 : F6 → F6) (I6 : F6 → F6) (rSl : UInt64 → UInt64 → F2) (Sm : F2 → F2 → Bool) : List (Row A) :=
  [rowOf A 21 (fun _ : Unit => O6),
    rowOf A 33 (fun x : F6 × Unit => V6 x.1),
    rowOf A 32 (fun x : F6 × F6 × Unit => M6 x.1 x.2.1),
    rowOf A 40 (fun x : F6 × F6 × Unit => E6 x.1 x.2.1),
    rowOf A 37 (fun x : F6 × Unit => Q6 x.1),
    rowOf A 38 (fun x : F6 × Unit => I6 x.1),
    rowOf A 25 (fun x : UInt64 × UInt64 × Unit => rSl x.1 x.2.1)]
def tblKnown7 (O6 : F6) (Q12 : F12 → F12) (M12 : F12 → F12 → F12) (Sl : UInt64 → UInt64 → F2) (E12 : F12 → F12 → Bool) (I12 : F12 → F12) (O12 : F12) (C12 : F12 → F12) (P12 : F12 → F12 → F12) (Z12 : F12 → Bool) (rSl : UInt64 → UInt64 → F2) (Sm : F2 → F2 → Bool) : List (Row A) :=
  [rowOf A 21 (fun _ : Unit => O6),
    rowOf A 14 (fun x : F12 × Unit => Q12 x.1),
    rowOf A 12 (fun x : F12 × F12 × Unit => M12 x.1 x.2.1),
    rowOf A 22 (fun x : UInt64 × UInt64 × Unit => Sl x.1 x.2.1),
    rowOf A 19 (fun x : F12 × F12 × Unit => E12 x.1 x.2.1),
    rowOf A 17 (fun x : F12 × Unit => I12 x.1),
    rowOf A 23 (fun _ : Unit => O12),
    rowOf A 15 (fun x : F12 × Unit => C12 x.1),
    rowOf A 8 (fun x : F12 × F12 × Unit => P12 x.1 x.2.1),
    rowOf A 20 (fun x : F12 × Unit => Z12 x.1),
    rowOf A 25 (fun x : UInt64 × UInt64 × Unit => rSl x.1 x.2.1),
    rowOf A 24 (fun x : F2 × F2 × Unit => Sm x.1 x.2.1)]
theorem known7_of (O6 : F6) (Q12 : F12 → F12) (M12 : F12 → F12 → F12) (Sl : UInt64 → UInt64 → F2) (E12 : F12 → F12 → Bool) (I12 : F12 → F12) (O12 : F12) (C12 : F12 → F12) (P12 : F12 → F12 → F12) (Z12 : F12 → Bool) (rSl : UInt64 → UInt64 → F2) (Sm : F2 → F2 → Bool) (ht : TblOK Tryz.prog (tblKnown7 O6 Q12 M12 Sl E12 I12 O12 C12 P12 Z12 rSl Sm))
    (H0 : (Sm (Sl 1 2) (rSl 1 2) = true) ∧ (Z12 (P12 (C12 (((0, 0), (0, 0), (0, 0)), O6)) (((0, 0), (0, 0), (0, 0)), O6)) = true) ∧ (E12 (M12 (((0, 0), (0, 0), (0, 0)), O6) (I12 (((0, 0), (0, 0), (0, 0)), O6))) O12 = true) ∧ (E12 (M12 (M12 (Q12 (((0, 0), (0, 0), (0, 0)), O6)) (Q12 (((0, 0), (0, 0), (0, 0)), O6))) (Q12 (((0, 0), (0, 0), (0, 0)), O6))) ((Sl 1 1, (0, 0), (0, 0)), ((0, 0), (0, 0), (0, 0))) = true) ∧ True) :
    Computes A Tryz.prog 4 (fun _ : Unit => true) := by
  refine computes_of_run ht Tryz.func4 (by kernel_rfl) (by kernel_rfl) 8 ?_
  rintro ⟨⟩ ⟨⟩ W -
  obtain ⟨q0, q1, q2, q3, -⟩ := H0
  exact ⟨saysY [], _, [Sm (Sl 1 2) (rSl 1 2) = true, Z12 (P12 (C12 (((0, 0), (0, 0), (0, 0)), O6)) (((0, 0), (0, 0), (0, 0)), O6)) = true, E12 (M12 (((0, 0), (0, 0), (0, 0)), O6) (I12 (((0, 0), (0, 0), (0, 0)), O6))) O12 = true, E12 (M12 (M12 (Q12 (((0, 0), (0, 0), (0, 0)), O6)) (Q12 (((0, 0), (0, 0), (0, 0)), O6))) (Q12 (((0, 0), (0, 0), (0, 0)), O6))) ((Sl 1 1, (0, 0), (0, 0)), ((0, 0), (0, 0), (0, 0))) = true], (by kernel_rfl : _ = some (some true, _)), ⟨q0, q1, q2, q3, trivial⟩, rfl⟩

noncomputable def tblFp12Laws (k : Nat) (Tw : List UInt8 → F12) (M12 : F12 → F12 → F12) (E12 : F12 → F12 → Bool) (P12 : F12 → F12 → F12) (D12 : F12 → F12 → F12) (O12 : F12) (Z12 : F12 → Bool) (I12 : F12 → F12) : List (Row A) :=
  [rowOf A 4 (fun _ : Unit => true), light7Row k, rowOf A 6 (fun x : Bt × Unit => Tw x.1.l),
    rowOf A 12 (fun x : F12 × F12 × Unit => M12 x.1 x.2.1),
    rowOf A 19 (fun x : F12 × F12 × Unit => E12 x.1 x.2.1),
    rowOf A 8 (fun x : F12 × F12 × Unit => P12 x.1 x.2.1),
    rowOf A 10 (fun x : F12 × F12 × Unit => D12 x.1 x.2.1),
    rowOf A 23 (fun _ : Unit => O12),
    rowOf A 20 (fun x : F12 × Unit => Z12 x.1),
    rowOf A 17 (fun x : F12 × Unit => I12 x.1)]

noncomputable def tblFp12Norms (k : Nat) (Tw : List UInt8 → F12) (C12 : F12 → F12) (M12 : F12 → F12 → F12) (Z6 : F6 → Bool) (E12 : F12 → F12 → Bool) (Z12 : F12 → Bool) (I12 : F12 → F12) (O12 : F12) : List (Row A) :=
  [rowOf A 4 (fun _ : Unit => true), light7Row k, rowOf A 6 (fun x : Bt × Unit => Tw x.1.l),
    rowOf A 15 (fun x : F12 × Unit => C12 x.1),
    rowOf A 12 (fun x : F12 × F12 × Unit => M12 x.1 x.2.1),
    rowOf A 41 (fun x : F6 × Unit => Z6 x.1),
    rowOf A 19 (fun x : F12 × F12 × Unit => E12 x.1 x.2.1),
    rowOf A 20 (fun x : F12 × Unit => Z12 x.1),
    rowOf A 17 (fun x : F12 × Unit => I12 x.1),
    rowOf A 23 (fun _ : Unit => O12)]

end Go.Proofs.YtbdbmcdcjejffaaGreat
