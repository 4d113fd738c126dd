/- Fp: elements of numbers, numbers of elements, bytes; what is the same. -/
import Derived.Test.YtbdbmcdcjejffaaFeG
set_option linter.unusedVariables false
set_option linter.unusedSimpArgs false
set_option linter.unusedSectionVars false
namespace Go.Proofs.Ytbdbmcdcjejffaa
open Go Go.Sh

/-! ### Numbers and elements -/
def sq6 : L6 := (17644856173732828998, 754043588434789617, 10224657059481499349, 7488229067341005760, 11130996698012816685, 1267921511277847466)
theorem squareL_ok : Computes A Try.prog 184 (fun _ : Unit => sq6) :=
  computes_of_run0 tblD_ok Try.func184 (by kernel_rfl) (by kernel_rfl) 8 (fun _ _ _ => by kernel_rfl)
theorem refTwoL_ok : Computes A Try.prog 153 (fun _ : Unit => sq6) :=
  computes_of_run0 tblD_ok Try.func153 (by kernel_rfl) (by kernel_rfl) 8 (fun _ _ _ => by kernel_rfl)

theorem mont_iF (x : Fp) : mont (x * iF) = x.val := by
  rw [mont_eq]
  have e : (x * iF).val = x.val * iF.val % pN := Fin.val_mul x iF
  have hi : iF.val * r384 % pN = 1 := by kernel_rfl
  rw [e, mul_mod3, Nat.mul_assoc, Nat.mul_mod, hi, Nat.mul_one, Nat.mod_mod, Nat.mod_eq_of_lt x.isLt]
theorem iF_rF : iF * rF = 1 := by kernel_rfl
theorem limbs_iF (x : Fp) : limbs (x * iF) = lim6 x.val := by unfold limbs; rw [mont_iF]
theorem sq6_eq : sq6 = limbs rF := by kernel_rfl
theorem made_limbs (a : Pl) : reducedL (mulRaw (numL a.num) sq6) = limbs a.x := by
  have e : numL a.num = limbs (a.x * iF) := (limbs_iF a.x).symm
  rw [e, sq6_eq, mul_limbs]
  have : a.x * iF * rF = a.x := by rw [Fin.mul_assoc, iF_rF, Fin.mul_one]
  rw [this]

theorem made_of (F : L6 → L6 → L6) (hF : Computes A Try.prog 45 (fun x : L6 × L6 × Unit => F x.1 x.2.1)) : Computes A Try.prog 147 (fun x : L6 × Unit => F x.1 sq6) :=
  computes_of_run0 (.cons hF.row (.cons squareL_ok.row (.nil _))) Try.func147 (by kernel_rfl) (by kernel_rfl) 8 (fun _ _ _ => by kernel_rfl)
theorem madeL_ok : Computes A Try.prog 147 (fun x : L6 × Unit => reducedL (mulRaw x.1 sq6)) := made_of (fun a b => reducedL (mulRaw a b)) mulL_ok
theorem made_ok : Computes A Try.prog 147 (fun x : Pl × Unit => x.1.x) :=
  madeL_ok.as (fun x => (numL x.1.num, ())) (fun _ _ _ _ => ⟨((), ()), ⟨trivial, trivial⟩, rfl⟩) (fun x => by rw [made_limbs]; rfl)

/-- The number of an element. -/
def fpNum (x : Fp) : Num := ⟨x.val, Nat.lt_trans x.isLt (by have := pN_lt; rwa [w384] at this)⟩
def tblN : List (Row A) := [rowOf A 45 (fun x : Fp × Fp × Unit => x.1 * x.2.1)]
theorem tblN_ok : TblOK Try.prog tblN := .cons mul_ok.row (.nil _)
theorem numberF_ok : Computes A Try.prog 150 (fun x : Fp × Unit => x.1 * iF) :=
  computes_of_run0 tblN_ok Try.func150 (by kernel_rfl) (by kernel_rfl) 8 (fun _ _ _ => by kernel_rfl)
theorem number_ok : Computes A Try.prog 150 (fun x : Fp × Unit => fpNum x.1) :=
  numberF_ok.as (fun x => x) (fun gh _ _ hg => ⟨gh, hg, rfl⟩) (fun x => by
    show Value.agg (cells6 (limbs (x.1 * iF))).toArray = Value.agg (cells6 (numL (fpNum x.1))).toArray
    rw [limbs_iF]; rfl)

def fpOf (n : UInt64) : Fp := ⟨n.toNat, Nat.lt_trans n.toNat_lt (by decide)⟩
def tblO : List (Row A) := [rowOf A 147 (fun x : Pl × Unit => x.1.x)]
theorem tblO_ok : TblOK Try.prog tblO := .cons made_ok.row (.nil _)

def smallN (n : UInt64) : Num := numO (n, UInt64.ofNat 0, UInt64.ofNat 0, UInt64.ofNat 0, UInt64.ofNat 0, UInt64.ofNat 0)
theorem smallN_val (n : UInt64) : (smallN n).val = n.toNat := by
  show n.toNat + 18446744073709551616 * (0 + 18446744073709551616 * (0 + 18446744073709551616 * (0 + 18446744073709551616 * (0 + 18446744073709551616 * 0)))) = _
  omega
theorem smallN_lt (n : UInt64) : (smallN n).val < pN := by
  rw [smallN_val]; exact Nat.lt_trans n.toNat_lt (by decide)
theorem of_ok : Computes A Try.prog 38 (fun x : UInt64 × Unit => fpOf x.1) := by
  refine Computes.eq (f := fun x : UInt64 × Unit => (plOf (smallN x.1)).x) ?_ (fun x => Fin.ext ?_)
  · refine computes_of_run tblO_ok Try.func38 (by kernel_rfl) (by kernel_rfl) 8 ?_
    rintro _ ⟨n, ⟨⟩⟩ W -
    exact ⟨fun _ _ => .keep, _, _, (by kernel_rfl : _ = some (some (plOf (smallN n)).x, [(smallN n).val < pN])), All.cons (smallN_lt n) All.nil, rfl⟩
  · show (smallN x.1).val % pN = x.1.toNat
    rw [smallN_val, Nat.mod_eq_of_lt (Nat.lt_trans x.1.toNat_lt (by decide))]

/-! ### Bytes -/
def byteL (l : L6) (i : Nat) : UInt8 := UInt8.ofNat (((UInt64.ofNat ((lim ((47 - i) / 8) l).toNat / 2 ^ (8 * ((47 - i) % 8)))).toNat : Int) % 256).toNat
def bytesL6 (l : L6) : R8 48 := ⟨pickN 0 ((List.range 48).map (byteL l))⟩
theorem limbsBytesL_ok : Computes A Try.prog 149 (fun x : L6 × Unit => bytesL6 x.1) :=
  computes_of_run0 (TblOK.nil _) Try.func149 (by kernel_rfl) (by kernel_rfl) 50 (fun _ _ _ => by kernel_rfl)
theorem refBytesL_ok : Computes A Try.prog 136 (fun x : L6 × Unit => bytesL6 x.1) :=
  computes_of_run0 (TblOK.nil _) Try.func136 (by kernel_rfl) (by kernel_rfl) 50 (fun _ _ _ => by kernel_rfl)

/-- Byte i of 48, the highest first. -/
def byteN (n i : Nat) : UInt8 := UInt8.ofNat (n / 256 ^ (47 - i) % 256)
def bytesN (n : Nat) : R8 48 := ⟨byteN n⟩

end Go.Proofs.Ytbdbmcdcjejffaa
