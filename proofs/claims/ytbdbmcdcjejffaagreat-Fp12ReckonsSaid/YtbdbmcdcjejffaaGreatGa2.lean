/- Fp2: sizes, signs, squares and roots of elements of two parts; the program's and the reference's. -/
import Derived.Test.YtbdbmcdcjejffaaGreatGa1
import Derived.Test.YtbdbmcdcjejffaaGreatGa0
set_option linter.unusedVariables false
set_option linter.unusedSimpArgs false
set_option linter.unusedSectionVars false
namespace Go.Proofs.YtbdbmcdcjejffaaGreat
open Go Go.Sh

def large2 (a : F2) : Bool := if a.2 = 0 then largeF a.1 else largeF a.2
def sgn2 (a : F2) : Int := if oddF a.1 = true then 1 else if a.1 = 0 then (if oddF a.2 = true then 1 else 0) else 0
def isSq2 (a : F2) : Bool := decide (legF (norm2 a) ≥ 0)

section
variable (Lg Z Od : Fp → Bool)
end

theorem largeF_zero : largeF 0 = false := by kernel_rfl
theorem sgn_if (a : F2) : (if oddF a.1 = true then (1 : Int) else if decide (a.1 = 0) = true then (if oddF a.2 = true then 1 else 0) else 0) = sgn2 a := by
  simp only [sgn2, decide_eq_true_eq]
/-! ### Roots -/
section
variable (S : Fp → T2 Fp Bool) (Z : Fp → Bool) (N I : Fp → Fp) (P D M : Fp → Fp → Fp) (Nm : F2 → Fp) (h : Fp)
/-- A root, as it is looked for: the parts' tests in the program's order. -/
def rootW (a : F2) : T2 F2 Bool :=
  bif Z a.2 then (bif (S a.1).b then ⟨((S a.1).a, 0), true⟩ else ⟨(0, (S (N a.1)).a), (S (N a.1)).b⟩)
  else bif (S (Nm a)).b then
    (bif (S (M (P a.1 (S (Nm a)).a) h)).b then ⟨((S (M (P a.1 (S (Nm a)).a) h)).a, M (M a.2 h) (I (S (M (P a.1 (S (Nm a)).a) h)).a)), true⟩
     else ⟨((S (M (D a.1 (S (Nm a)).a) h)).a, M (M a.2 h) (I (S (M (D a.1 (S (Nm a)).a) h)).a)), (S (M (D a.1 (S (Nm a)).a) h)).b⟩)
  else ⟨(0, 0), false⟩

end

end Go.Proofs.YtbdbmcdcjejffaaGreat
