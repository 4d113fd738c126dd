/- Powers of elements, over the bits of bytes. -/
import Derived.Test.YtbdbmcdcjejffaaGreatGc2
set_option linter.unusedVariables false
set_option linter.unusedSimpArgs false
set_option linter.unusedSectionVars false
namespace Go.Proofs.YtbdbmcdcjejffaaGreat
open Go Go.Sh

/-- The code that binds what a loop over a function is handed. -/
def rangeA (fn : Func) (id : Nat) : Code := match fn.body with | some x => (match findNo id (loopsOf x) with | .rangeFunc _ _ x _ => x | y => y) | none => .skip
/-- A byte's bit, as it is taken. -/
def bitx (x : UInt8) (z : Int) : Bool :=
  ((UInt8.ofNat (((BitVec.ofInt IntKind.u8.bits ((UInt8.ofNat (x.toNat / 2 ^ min ((UInt64.ofNat (z % 18446744073709551616).toNat).toNat : Int).toNat IntKind.u8.bits)).toNat : Int) &&& BitVec.ofInt IntKind.u8.bits 1).toNat : Int) % 256).toNat).toNat : Int) == 1
/-- Bit k, the highest first. -/
def bitC (l : List UInt8) (k : Nat) : Bool := bitx (l.getD (k / 8) 0) (7 - ((k % 8 : Nat) : Int))
def rpG {X : Type} (O : X) (Q : X → X) (M : X → X → X) (l : List UInt8) (a : X) : Nat → X
  | 0 => O
  | k + 1 => match bitC l k with | true => M (Q (rpG O Q M l a k)) a | false => Q (rpG O Q M l a k)
/-- Slots i .. i + n - 1: those of a list (in order), the others not yet set. -/
def slotsU {A : Type} : Nat → Nat → List (Nat × TV A) → List (TV A)
  | _, 0, _ => []
  | i, n + 1, l =>
    match l with
    | (j, v) :: r => match Nat.beq i j with | true => v :: slotsU (i + 1) n r | false => undefT :: slotsU (i + 1) n l
    | [] => undefT :: slotsU (i + 1) n []
/-- The slots of the bits' function: at the bytes' loop, at the bits' loop. -/
def outT (g : Spot) (l : List UInt8) (k : Nat) : List (TV A) := slots 0 26 [(0, .val false [.y 4]), (1, .val false [.p 3 0]), (6, .val false [.e g.a (byteAt l) 0 l.length g.c]), (7, .val false [.n .i64 l.length]), (8, .val false [.n .i64 k])]
def inT (g : Spot) (l : List UInt8) (k : Nat) (x : UInt8) (z : Int) : List (TV A) := slots 0 26 [(0, .val false [.y 4]), (1, .val false [.p 3 0]), (4, .val false [.a (.u8 x)]), (5, .val false [.n .i64 z]), (6, .val false [.e g.a (byteAt l) 0 l.length g.c]), (7, .val false [.n .i64 l.length]), (8, .val false [.n .i64 k])]

/-- A byte's bit is the digit of its number. -/
theorem bitC_eq (l : List UInt8) (k : Nat) : bitC l k = bitB l k := by
  have h : (7 : Int) - ((k % 8 : Nat) : Int) = ((7 - k % 8 : Nat) : Int) := by omega
  have h2 : (((UInt64.ofNat (((7 - k % 8 : Nat) : Int) % 18446744073709551616).toNat).toNat : Int)).toNat = 7 - k % 8 := by
    have : (((7 - k % 8 : Nat) : Int) % 18446744073709551616).toNat = 7 - k % 8 := by omega
    rw [this]
    simp
    omega
  have h3 : ((7 : Int) - (k : Int).tmod 8).toNat = 7 - k % 8 := by
    have : (k : Int).tmod 8 = ((k % 8 : Nat) : Int) := rfl
    rw [this]; omega
  have h4 : ((k : Int).tdiv 8).toNat = k / 8 := rfl
  unfold bitC bitx bitB
  rw [h, h2, h3, h4]

/-- Powers, of whatever kind. -/
def gpow {X : Type} (O : X) (M : X → X → X) (a : X) : Nat → X
  | 0 => O
  | n + 1 => M (gpow O M a n) a
section
variable {X : Type} {O : X} {M : X → X → X} (hO : ∀ x, M O x = x) (hO' : ∀ x, M x O = x) (hA : ∀ x y z, M (M x y) z = M x (M y z))
include hO' hA in
theorem gpow_add (a : X) (m : Nat) : ∀ n, gpow O M a (m + n) = M (gpow O M a m) (gpow O M a n)
  | 0 => (hO' _).symm
  | n + 1 => by
    show M (gpow O M a (m + n)) a = M (gpow O M a m) (M (gpow O M a n) a)
    rw [gpow_add a m n, hA]
include hO' hA in
theorem rpG_eq {Q : X → X} (hQ : ∀ x, Q x = M x x) (l : List UInt8) (a : X) : ∀ k, k ≤ 8 * l.length → rpG O Q M l a k = gpow O M a (numB l / 2 ^ (8 * l.length - k))
  | 0, _ => by
    have h := numB_cons_le l
    rw [pow256] at h
    rw [Nat.sub_zero, Nat.div_eq_of_lt h]; rfl
  | k + 1, hk => by
    have ih := rpG_eq hQ l a k (by omega)
    rw [numB_bit l (by omega), ← bitC_eq]
    cases hb : bitC l k with
    | true =>
      simp only [rpG, hb, cond_true, hQ]
      rw [ih, Nat.two_mul]
      show _ = M (gpow O M a (numB l / 2 ^ (8 * l.length - k) + numB l / 2 ^ (8 * l.length - k))) a
      rw [gpow_add hO' hA]
    | false =>
      simp only [rpG, hb, cond_false, hQ]
      rw [ih, Nat.two_mul, Nat.add_zero, gpow_add hO' hA]
include hO' hA in
theorem rpG_all {Q : X → X} (hQ : ∀ x, Q x = M x x) (l : List UInt8) (a : X) : rpG O Q M l a (8 * l.length) = gpow O M a (numB l) := by
  rw [rpG_eq hO' hA hQ l a _ (Nat.le_refl _), Nat.sub_self, Nat.pow_zero, Nat.div_one]
end


section
variable (g : Spot) (l : List UInt8) (a o r : Fp) (Q : Fp → Fp) (M : Fp → Fp → Fp)
noncomputable def tblP1 : List (Row A) :=
  [rowOf A 101 (fun _ : Unit => o), rowOf A 97 (fun x : Fp × Unit => Q x.1), rowOf A 75 (fun x : Fp × Fp × Unit => M x.1 x.2.1)]
/-- The memory of Pow while bits come; its loop. -/
def memP1 : Mem A :=
  [some ⟨Rep.shw (A := A) a, 28, false⟩, some ⟨lit6, 28, false⟩, some ⟨Rep.shw (A := A) r, 28, false⟩, some ⟨[.e g.a (byteAt l) 0 l.length g.c], 22, false⟩, none]
def inSP1 (k : Nat) (x : UInt8) (z : Int) : St A := ⟨inT g l k x z, memP1 g l a r, 0, [], [none]⟩
def outSP1 (k : Nat) : St A := ⟨outT g l k, memP1 g l a r, 0, [], [none]⟩
end
section
variable (g : Spot) (l : List UInt8) (a o r : F2) (Q : F2 → F2) (M : F2 → F2 → F2)
noncomputable def tblP2 : List (Row A) :=
  [rowOf A 42 (fun _ : Unit => o), rowOf A 57 (fun x : F2 × Unit => Q x.1), rowOf A 51 (fun x : F2 × F2 × Unit => M x.1 x.2.1)]
/-- The memory of Pow while bits come; its loop. -/
def memP2 : Mem A :=
  [some ⟨Rep.shw (A := A) a, 30, false⟩, some ⟨(lit6 ++ lit6), 30, false⟩, some ⟨Rep.shw (A := A) r, 30, false⟩, some ⟨[.e g.a (byteAt l) 0 l.length g.c], 22, false⟩, none]
def inSP2 (k : Nat) (x : UInt8) (z : Int) : St A := ⟨inT g l k x z, memP2 g l a r, 0, [], [none]⟩
def outSP2 (k : Nat) : St A := ⟨outT g l k, memP2 g l a r, 0, [], [none]⟩
end
section
variable (g : Spot) (l : List UInt8) (a o r : F2) (M : F2 → F2 → F2)
noncomputable def tblR2 : List (Row A) := [rowOf A 34 (fun x : F2 × F2 × Unit => M x.1 x.2.1)]
def stR2 (k : Nat) : St A :=
  ⟨slots 0 33 [(1, .val false [.e g.a (byteAt l) 0 l.length g.c]), (2, .val false [.p 0 0]), (4, .val false [.p 1 0]), (5, .val false [.p 2 0]), (6, .val false [.n .i64 k])],
   [some ⟨Rep.shw (A := A) a, 40, false⟩, some ⟨(lit6 ++ lit6), 40, false⟩, some ⟨Rep.shw (A := A) r, 40, false⟩], 0, [], []⟩
end
def bitR2 (l : List UInt8) (k : Nat) : Bool := bitB l k
theorem gpow_fp (a : Fp) : ∀ n, gpow (1 : Fp) (fun a b => a * b) a n = fpow a n
  | 0 => (fpow_zero a).symm
  | n + 1 => by rw [fpow_succ, ← gpow_fp a n]; rfl
def pow2 (a : F2) (n : Nat) : F2 := gpow one2 mul2 a n
end Go.Proofs.YtbdbmcdcjejffaaGreat
