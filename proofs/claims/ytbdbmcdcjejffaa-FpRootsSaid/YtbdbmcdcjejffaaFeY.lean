/- The reference's size. -/
import Derived.Test.YtbdbmcdcjejffaaFeX
set_option linter.unusedVariables false
set_option linter.unusedSimpArgs false
set_option linter.unusedSectionVars false
namespace Go.Proofs.Ytbdbmcdcjejffaa
open Go Go.Sh

/-- The bytes that shifted tells. -/
noncomputable def shL (add : Int) (n : Nat) : List UInt8 :=
  match shRow.e (fun _ => none) [.val false [.v (.int .i64 add)], .val false [.v (.int .u64 n)]] [] with
  | some (.val false [.s j _ _ _], some m, _) => (match nth m j with | some (some b) => (match bytesL (flat b.cells) with | some l => l | none => []) | _ => [])
  | _ => []
theorem shL_half : numB (shL (-1) 1) = (pN - 1) / 2 := by kernel_rfl
theorem shL_less2 : numB (shL (-2) 0) = pN - 2 := by kernel_rfl
theorem shL_quarter : numB (shL 1 2) = (pN + 1) / 4 := by kernel_rfl
theorem shL_len : (shL (-1) 1).length = 48 ∧ (shL (-2) 0).length = 48 ∧ (shL 1 2).length = 48 := ⟨by kernel_rfl, by kernel_rfl, by kernel_rfl⟩

end Go.Proofs.Ytbdbmcdcjejffaa
