/- Roots: numbers' chunks. -/
import Derived.Test.YtaloefkkllebeaaDoorSj7
import Derived.Test.YtaloefkkllebeaaDoorSk3
set_option linter.unusedVariables false
set_option linter.unusedSimpArgs false
set_option linter.unusedSectionVars false
namespace Go.Sh
/-- No slice. -/
structure Ni where
  u : Unit
instance : Arg A Ni where
  G := Unit
  good W g x := True
  tv g x := .val false [.v (.slice none 0 0)]
  val g x := .slice none 0 0
  is := by
    intro W g x β h
    exact LIs.of_single ⟨rfl, rfl⟩
  parse old m t := match t with | .val false [.v (.slice none 0 0)] => some (⟨()⟩, []) | _ => none
  ok := by
    intro c X W0 W β m t x vc v h hvc hm e
    split at h
    · simp at h
      obtain ⟨rfl, rfl⟩ := h
      obtain ⟨e1, _⟩ := LIs.single (e : LIs β _ [v])
      simp at e1
      exact ⟨(), trivial, e1⟩
    · cases h
end Go.Sh
namespace Go.Sh
def byU (n : UInt64) (i : Nat) : UInt8 := UInt8.ofNat (((UInt64.ofNat (n.toNat / 2 ^ min i IntKind.u64.bits)).toNat : Int) % 256).toNat
def bytes8 (n : UInt64) : List UInt8 := [byU n 0, byU n 8, byU n 16, byU n 24, byU n 32, byU n 40, byU n 48, byU n 56]
/-- A number's chunk. -/
def chunkV (n : UInt64) : R8 32 := ⟨pickN 0 (bytes8 n ++ List.replicate 24 (UInt8.ofNat 0))⟩
def GrK (k : Nat) : Prop := k = k ∧ timesN k (0 + 1) = k ∧ Sh.Bears (k + 1) 1
theorem grK {k : Nat} (h : k < 1048576) : GrK k := ⟨rfl, by rw [timesN_eq, Nat.zero_add, Nat.mul_one], by unfold Sh.Bears maxLen; omega⟩
def oneC (x : UInt8) : Nat → A := fun j => ([(At.u8 x : A)][j]?).getD (At.u8 x)
def uiF (n : UInt64) : Nat → Nat → A
  | 0 => fun q => oneC (byU n 0) (0 + q)
  | k + 1 => catF (uiF n k) (timesN (k + 1) (0 + 1)) (oneC (byU n (8 * (k + 1)))) 0
theorem oneC_u8 (x : UInt8) (j : Nat) : isU8 (oneC x j) = true := by
  unfold oneC
  cases j <;> rfl
theorem uiF_u8 (n : UInt64) : ∀ (k i : Nat), isU8 (uiF n k i) = true
  | 0, i => oneC_u8 _ _
  | k + 1, i => by
    simp only [uiF, catF]
    split
    · exact uiF_u8 n k i
    · exact oneC_u8 _ _
end Go.Sh
namespace Go.Proofs.YtaloefkkllebeaaDoor
open Go Go.Sh
theorem chunk_ok : Computes A Tryd.prog 94 (fun x : UInt64 × Unit => chunkV x.1) := by
  refine computes_of_run (TblOK.nil _) Tryd.func94 (by kernel_rfl) (by kernel_rfl) 20 ?_
  rintro _ ⟨n, ⟨⟩⟩ W -
  exact ⟨fun _ _ => .keep, chunkV n, [], by kernel_rfl, trivial, rfl⟩
theorem uint_ok : Computes A Tryd.prog 91 (fun x : Ni × UInt64 × Unit => (⟨bytes8 x.2.1⟩ : Bz)) := by
  refine computes_of_run (TblOK.nil _) Tryd.func91 (by kernel_rfl) (by kernel_rfl) 20 ?_
  rintro _ ⟨⟨⟩, n, ⟨⟩⟩ W -
  exact ⟨fun _ _ => .keep, ⟨bytes8 n⟩, [∀ j, j < 8 → isU8 (uiF n 7 (0 + j)) = true, GrK 7, GrK 6, GrK 5, GrK 4, GrK 3, GrK 2, GrK 1, Sh.Bears 1 1], by kernel_rfl, ⟨fun j _ => uiF_u8 n 7 _, grK (by decide), grK (by decide), grK (by decide), grK (by decide), grK (by decide), grK (by decide), grK (by decide), by unfold Sh.Bears maxLen; omega, trivial⟩, rfl⟩
noncomputable def tblCh : List (Row A) := [rowOf A 91 (fun x : Ni × UInt64 × Unit => (⟨bytes8 x.2.1⟩ : Bz))]
end Go.Proofs.YtaloefkkllebeaaDoor
