/- The laws of fp2, walked over variable functions: norms, signs, reckoning, roots. -/
import Derived.Test.YtbdbmcdcjejffaaGreatGb1
set_option linter.unusedVariables false
set_option linter.unusedSimpArgs false
set_option linter.unusedSectionVars false
namespace Go.Proofs.YtbdbmcdcjejffaaGreat
open Go Go.Sh

theorem shortL {x : List UInt8} (h : x.length ≤ 200) : (partB x 0 x.length).length < 1048576 := by rw [partB_all]; omega
/-- The lesser one of a length and a hundred, as it is taken. -/
def minL (l : List UInt8) : Int := if (100 : Int) < (l.length : Int) then 100 else (l.length : Int)
theorem minL_eq (l : List UInt8) : minL l = ((min 100 l.length : Nat) : Int) := by
  unfold minL
  split <;> omega
theorem min_cap {W : World} {g : Spot} {l : List UInt8} (h : HasBytes W l g) : 0 ≤ minL l ∧ minL l ≤ g.c := by
  have := h.1
  rw [minL_eq]; omega
theorem min_le (l : List UInt8) : 0 + (minL l).toNat ≤ l.length := by rw [minL_eq]; omega
theorem min_lt (l : List UInt8) : (minL l).toNat < 1048576 := by rw [minL_eq]; omega

def tblKnown5 (Sl : UInt64 → UInt64 → F2) (W2 : F2 → T2 F2 Bool) (M2 : F2 → F2 → F2) (O2 : F2) (N2 : F2 → F2) (E2 : F2 → F2 → Bool) (Q2 : F2 → F2) (L2 : F2 → Bool) (I2 : F2 → F2) (X2 : F2 → F2) (G2 : F2 → Int) : List (Row A) :=
  [rowOf A 51 (fun x : F2 × F2 × Unit => M2 x.1 x.2.1),
    rowOf A 42 (fun _ : Unit => O2),
    rowOf A 56 (fun x : F2 × Unit => N2 x.1),
    rowOf A 62 (fun x : F2 × F2 × Unit => E2 x.1 x.2.1),
    rowOf A 57 (fun x : F2 × Unit => Q2 x.1),
    rowOf A 59 (fun x : F2 × Unit => I2 x.1),
    rowOf A 52 (fun x : F2 × Unit => X2 x.1)]
end Go.Proofs.YtbdbmcdcjejffaaGreat
