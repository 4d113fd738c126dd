/- Trees: the small tree's rows. -/
import Derived.Test.YtaloefkkllebeaaDoorSi1
set_option linter.unusedVariables false
set_option linter.unusedSimpArgs false
set_option linter.unusedSectionVars false
namespace Go.Proofs.YtaloefkkllebeaaDoor
open Go Go.Sh
noncomputable def depthRow : Row A := rowIn Tryd.prog [] [] (fun _ _ => .keep) 80 102 Tryd.f102
noncomputable def levelsRow : Row A := rowIn Tryd.prog [] [] (fun _ _ => .keep) 4 101 Tryd.f101
def orL : Nat → Nat → Dec := fun _ t => match Nat.beq t 6 with | true => .grow 25 32 | false => .eval
def orB : Nat → Nat → Dec := fun _ t => match Nat.beq t 7 with | true => .grow 25 32 | false => .eval
noncomputable def levIt (Pr : R8 32 → R8 32 → R8 32) : IRow A := iter Tryd.prog (tblSp' Pr) [] orL 40 123 Tryd.f123
noncomputable def rootRow (Pr : R8 32 → R8 32 → R8 32) : Row A := rowIn Tryd.prog [depthRow, levelsRow] [levIt Pr] (fun _ _ => .eval) 20 53 Tryd.f53
noncomputable def branchRow (Pr : R8 32 → R8 32 → R8 32) : Row A := rowIn Tryd.prog [levelsRow] [levIt Pr] orB 20 56 Tryd.f56
theorem depthRow_ok : RowOK Tryd.prog depthRow := rowIn_ok (TblOK.nil _) (ITblOK.nil _) _ 80 Tryd.func102 (by kernel_rfl) (by kernel_rfl)
theorem levelsRow_ok : RowOK Tryd.prog levelsRow := rowIn_ok (TblOK.nil _) (ITblOK.nil _) _ 4 Tryd.func101 (by kernel_rfl) (by kernel_rfl)
section
variable {Pr : R8 32 → R8 32 → R8 32} (ht : TblOK Tryd.prog (tblSp' Pr))
include ht
theorem levIt_ok : ITblOK Tryd.prog [levIt Pr] := .cons (iter_ok ht (ITblOK.nil _) _ 40 Tryd.func123 (by kernel_rfl) (by kernel_rfl)) (ITblOK.nil _)
theorem rootRow_ok : RowOK Tryd.prog (rootRow Pr) := rowIn_ok (.cons depthRow_ok (.cons levelsRow_ok (TblOK.nil _))) (levIt_ok ht) _ 20 Tryd.func53 (by kernel_rfl) (by kernel_rfl)
theorem branchRow_ok : RowOK Tryd.prog (branchRow Pr) := rowIn_ok (.cons levelsRow_ok (TblOK.nil _)) (levIt_ok ht) _ 20 Tryd.func56 (by kernel_rfl) (by kernel_rfl)
end
noncomputable def tblK8 (Pr : R8 32 → R8 32 → R8 32) (VQ : (Nat → UInt8) → (Nat → UInt8) → List (R8 32) → UInt64 → Bool) (Z : Int → R8 32) : List (Row A) :=
  [rootRow Pr, branchRow Pr, rowOf A 59 (fun x : GA (R8 32 × Rt 32 × UInt64 × R8 32 × Unit) => VQ x.x.1.f x.x.2.2.2.1.f x.x.2.1.l x.x.2.2.1), rowOf A 55 (fun x : GA (Int × Unit) => Z x.x.1)]
end Go.Proofs.YtaloefkkllebeaaDoor
namespace Go.Sh
def aL32 (n : Nat) : List UInt8 := UInt8.ofNat n :: List.replicate 31 (UInt8.ofNat 0)
def aF32 (n : Nat) : Nat → UInt8 := pickN 0 (aL32 n)
def cells32 (f : Nat → UInt8) : Nat → A := fun q => (((List.range 32).map fun i => (At.u8 (f i) : A))[q]?).getD (At.u8 (f 0))
/-- The small tree's branch, and its root. -/
def brK : List (R8 32) := cutR 32 (fun j => u8of (catF (fun _ => Atom.dummy) (timesN 0 (31 + 1)) (cells32 (aF32 1)) 0 (0 + j))) (0 + 1)
def rtK (Pr : R8 32 → R8 32 → R8 32) : Nat → UInt8 := pickN 0 ((List.range 32).map (Pr ⟨aF32 1⟩ ⟨aF32 2⟩).f)
def sameL (a b : List UInt8) : Bool := match a, b with
  | [x], [y] => ((x.toNat : Int) == (y.toNat : Int))
  | x :: a, y :: b => ((x.toNat : Int) == (y.toNat : Int)) && sameL a b
  | _, _ => true
end Go.Sh
namespace Go.Proofs.YtaloefkkllebeaaDoor
open Go Go.Sh
theorem known18_of (Pr : R8 32 → R8 32 → R8 32) (VQ : (Nat → UInt8) → (Nat → UInt8) → List (R8 32) → UInt64 → Bool) (Z : Int → R8 32) (ht : TblOK Tryd.prog (tblK8 Pr VQ Z))
    (hz : ((((Z 1).f 0).toNat : Int) == 245) = true) (h3 : VQ (aF32 2) (rtK Pr) brK (UInt64.ofNat 3) = false) (h1 : VQ (aF32 1) (rtK Pr) brK (UInt64.ofNat 1) = false) (h2 : VQ (aF32 2) (rtK Pr) brK (UInt64.ofNat 1) = true)
    (hu : ∀ j, j < (0 + 1) * 32 → isU8 (catF (fun _ => Atom.dummy) (timesN 0 (31 + 1)) (cells32 (aF32 1)) 0 (0 + j)) = true) :
    Computes A Tryd.prog 51 (fun _ : GA Unit => true) := by
  refine computes_of_runT Tryd.func51 (by kernel_rfl) (by kernel_rfl) 8 ?_
  rintro _ ⟨⟨⟩⟩ W ⟨hr, _⟩
  have hb : brK.length < 1048576 := by unfold brK; rw [cutR_len]; decide
  have hq : sameL (aL32 1) (aL32 1) = true := by decide
  have gr : (0 : Nat) = 0 ∧ timesN 0 (31 + 1) = 0 ∧ Bears (0 + 1) 32 := ⟨rfl, rfl, by unfold Bears; decide⟩
  have b0 : Bears 0 32 := by unfold Bears; decide
  have b2 : Bears 2 32 := by unfold Bears; decide
  have i0 : IX 0 2 := ⟨by decide, by decide⟩
  have i1 : IX 1 2 := ⟨by decide, by decide⟩
  have i9 : IX 0 1 := ⟨by decide, by decide⟩
  exact ⟨_, _, ht, ITblOK.nil _, saysY [(64, false), (71, false)], noLoop, true,
    [((((Z 1).f 0).toNat : Int) == 245) = true, RoundsIn W.cell?, VQ (aF32 2) (rtK Pr) brK (UInt64.ofNat 3) = false, RoundsIn W.cell?, brK.length < 1048576, ∀ j, j < (0 + 1) * 32 → isU8 (catF (fun _ => Atom.dummy) (timesN 0 (31 + 1)) (cells32 (aF32 1)) 0 (0 + j)) = true,
      VQ (aF32 1) (rtK Pr) brK (UInt64.ofNat 1) = false, RoundsIn W.cell?, brK.length < 1048576, ∀ j, j < (0 + 1) * 32 → isU8 (catF (fun _ => Atom.dummy) (timesN 0 (31 + 1)) (cells32 (aF32 1)) 0 (0 + j)) = true,
      VQ (aF32 2) (rtK Pr) brK (UInt64.ofNat 1) = true, RoundsIn W.cell?, brK.length < 1048576, ∀ j, j < (0 + 1) * 32 → isU8 (catF (fun _ => Atom.dummy) (timesN 0 (31 + 1)) (cells32 (aF32 1)) 0 (0 + j)) = true,
      sameL (aL32 1) (aL32 1) = true, IX 0 1, ((((0 + 1 : Nat) : Int) == 1) = true), RoundsIn W.cell?, Bears 0 32, RoundsIn W.cell?, (0 : Nat) = 0 ∧ timesN 0 (31 + 1) = 0 ∧ Bears (0 + 1) 32, RoundsIn W.cell?, IX 0 2, IX 1 2, (0 : Nat) = 0 ∧ timesN 0 (31 + 1) = 0 ∧ Bears (0 + 1) 32, IX 0 2, Bears 2 32,
      RoundsIn W.cell?, (0 : Nat) = 0 ∧ timesN 0 (31 + 1) = 0 ∧ Bears (0 + 1) 32, RoundsIn W.cell?, IX 0 1, IX 0 1, RoundsIn W.cell?, (0 : Nat) = 0 ∧ timesN 0 (31 + 1) = 0 ∧ Bears (0 + 1) 32, RoundsIn W.cell?, IX 0 2, IX 1 2, IX 0 2, Bears 2 32], by kernel_rfl,
    ⟨hz, hr, h3, hr, hb, hu, h1, hr, hb, hu, h2, hr, hb, hu, hq, i9, rfl, hr, b0, hr, gr, hr, i0, i1, gr, i0, b2, hr, gr, hr, i9, i9, hr, gr, hr, i0, i1, i0, b2, trivial⟩, rfl, fun body _ => loopsFor_none⟩
end Go.Proofs.YtaloefkkllebeaaDoor
