/- Trees: the small tree; the law of branches that are taken. -/
import Derived.Test.YtaloefkkllebeaaDoorSi2
set_option linter.unusedVariables false
set_option linter.unusedSimpArgs false
set_option linter.unusedSectionVars false
set_option maxRecDepth 100000
namespace Go.Proofs.YtaloefkkllebeaaDoor
open Go Go.Sh
theorem zero1_first : ((((zK pairR8 zR (zeN 1)).f 0).toNat : Int) == 245) = true := by kernel_rfl
theorem brK_cells (j : Nat) (h : j < (0 + 1) * 32) : isU8 (catF (fun _ => Atom.dummy) (timesN 0 (31 + 1)) (cells32 (aF32 1)) 0 (0 + j)) = true := by
  match j, h with
  | 0, _ | 1, _ | 2, _ | 3, _ | 4, _ | 5, _ | 6, _ | 7, _ | 8, _ | 9, _ | 10, _ | 11, _ | 12, _ | 13, _ | 14, _ | 15, _ | 16, _ | 17, _ | 18, _ | 19, _ | 20, _ | 21, _ | 22, _ | 23, _ | 24, _ | 25, _ | 26, _ | 27, _ | 28, _ | 29, _ | 30, _ | 31, _ => rfl
  | j + 32, h => exact absurd h (by omega)
theorem merK_3 : merQ pairR8 (aF32 2) (rtK pairR8) brK (UInt64.ofNat 3) = false := by kernel_rfl
theorem merK_1 : merQ pairR8 (aF32 1) (rtK pairR8) brK (UInt64.ofNat 1) = false := by kernel_rfl
theorem merK_2 : merQ pairR8 (aF32 2) (rtK pairR8) brK (UInt64.ofNat 1) = true := by
  have h : ∀ Pr : R8 32 → R8 32 → R8 32, merQ Pr (aF32 2) (rtK Pr) brK (UInt64.ofNat 1) = eqB (Pr ⟨aF32 1⟩ ⟨aF32 2⟩).f (pickN 0 ((List.range 32).map (Pr ⟨aF32 1⟩ ⟨aF32 2⟩).f)) 0 32 := fun Pr => by kernel_rfl
  rw [h]
  generalize (pairR8 ⟨aF32 1⟩ ⟨aF32 2⟩).f = w
  have e : eqB w (pickN 0 ((List.range 32).map w)) 0 32 = eqB w w 0 32 := by kernel_rfl
  rw [e, eqB_self]
theorem known18_ok : Computes A Tryd.prog 51 (fun _ : GA Unit => true) :=
  known18_of pairR8 (merQ pairR8) (fun n => zK pairR8 zR (zeN n)) (.cons (rootRow_ok (.cons pair_ok.row (.nil _))) (.cons (branchRow_ok (.cons pair_ok.row (.nil _))) (.cons verify_ok.row (.cons zero_ok.row (.nil _))))) zero1_first merK_3 merK_1 merK_2 brK_cells
end Go.Proofs.YtaloefkkllebeaaDoor
