/- The chapter's examples. -/
import Derived.Test.YtbdbmcdcjejffaaFeQ
set_option linter.unusedVariables false
set_option linter.unusedSimpArgs false
set_option linter.unusedSectionVars false
namespace Go.Proofs.Ytbdbmcdcjejffaa
open Go Go.Sh

def tblK (O : UInt64 → Fp) (S : Fp → T2 Fp Bool) (N I : Fp → Fp) (B : Fp → R8 48) (F : List UInt8 → T2 Fp Bool) (E : Fp → Fp → Bool) (Z : Fp → Bool) (P M : Fp → Fp → Fp) : List (Row A) :=
  [rowOf A 38 (fun x : UInt64 × Unit => O x.1), rowOf A 54 (fun x : Fp × Unit => S x.1), rowOf A 48 (fun x : Fp × Unit => N x.1), rowOf A 50 (fun x : Fp × Unit => I x.1),
    rowOf A 32 (fun x : Fp × Unit => B x.1), rowOf A 27 (fun x : Bs × Unit => F x.1.l), rowOf A 52 (fun x : Fp × Fp × Unit => E x.1 x.2.1), rowOf A 31 (fun x : Fp × Unit => Z x.1),
    rowOf A 41 (fun x : Fp × Fp × Unit => P x.1 x.2.1), rowOf A 45 (fun x : Fp × Fp × Unit => M x.1 x.2.1)]

def knownO : Nat → Nat → Dec := fun _ t => .take (!(Nat.beq t 23 || Nat.beq t 37))

/-- The bytes of an element; the same, with the last one more. -/
def listB (f : Nat → UInt8) : List UInt8 := (List.range 48).map f
def listB1 (f : Nat → UInt8) : List UInt8 := (List.range 47).map f ++ [UInt8.ofNat (((f 47).toNat + 1 : Int) % 256).toNat]

structure KnownIs (O : UInt64 → Fp) (S : Fp → T2 Fp Bool) (N I : Fp → Fp) (B : Fp → R8 48) (F : List UInt8 → T2 Fp Bool) (E : Fp → Fp → Bool) (Z : Fp → Bool) (P M : Fp → Fp → Fp) : Prop where
  h1 : E (M (I (O 7)) (O 7)) (O 1) = true
  h2 : E (M (O 3) (O 5)) (O 15) = true
  h3 : (((B (N (O 1))).f 0).toNat == (26 : Int)) = true
  h4 : Z (P (F (listB (B (N (O 1))).f)).a (O 1)) = true
  h5 : E (S (O 4)).a (O 2) = true
  h6 : (F (listB1 (B (N (O 1))).f)).b = false
  h7 : (F (listB (B (N (O 1))).f)).b = true
  h8 : (S (N (O 1))).b = false
  h9 : (S (O 4)).b = true

theorem known_of (O : UInt64 → Fp) (S : Fp → T2 Fp Bool) (N I : Fp → Fp) (B : Fp → R8 48) (F : List UInt8 → T2 Fp Bool) (E : Fp → Fp → Bool) (Z : Fp → Bool) (P M : Fp → Fp → Fp) (ht : TblOK Try.prog (tblK O S N I B F E Z P M)) (h : KnownIs O S N I B F E Z P M) :
    Computes A Try.prog 25 (fun _ : Unit => true) := by
  refine computes_of_run ht Try.func25 (by kernel_rfl) (by kernel_rfl) 8 ?_
  rintro ⟨⟩ ⟨⟩ W -
  exact ⟨knownO, _, [E (M (I (O 7)) (O 7)) (O 1) = true, E (M (O 3) (O 5)) (O 15) = true, (((B (N (O 1))).f 0).toNat == (26 : Int)) = true, Z (P (F (listB (B (N (O 1))).f)).a (O 1)) = true, E (S (O 4)).a (O 2) = true, (F (listB1 (B (N (O 1))).f)).b = false, (F (listB (B (N (O 1))).f)).b = true, (S (N (O 1))).b = false, (S (O 4)).b = true], (by kernel_rfl : _ = some (some true, _)), ⟨h.h1, h.h2, h.h3, h.h4, h.h5, h.h6, h.h7, h.h8, h.h9, trivial⟩, rfl⟩

theorem tblK_ok : TblOK Try.prog (tblK fpOf sqrtF (fun a => -a) invF (fun a => bytesN a.val) fromE (fun a b => decide (a = b)) (fun a => decide (a = 0)) (fun a b => a + b) (fun a b => a * b)) :=
  .cons of_ok.row (.cons sqrt_ok.row (.cons neg_ok.row (.cons inv_ok.row (.cons bytes_ok.row (.cons from_ok.row (.cons equal_ok.row (.cons isZero_ok.row (.cons add_ok.row (.cons mul_ok.row (.nil _))))))))))

theorem rootR_eq (a : Fp) : rootR a = powS a PowK.quarter.digits := by rw [powS_eq, PowK.hex]; rfl
theorem root4 : powS (fpOf 4) PowK.quarter.digits = fpOf 2 ∨ powS (fpOf 4) PowK.quarter.digits = -fpOf 2 := by
  have h : (decide ((powS (fpOf 4) PowK.quarter.digits).val = (fpOf 2).val) || decide ((powS (fpOf 4) PowK.quarter.digits).val = (-fpOf 2).val)) = true := by kernel_rfl
  rw [Bool.or_eq_true, decide_eq_true_eq, decide_eq_true_eq] at h
  exact h.imp Fin.ext Fin.ext
theorem rootNo : ¬ (powS (-fpOf 1) PowK.quarter.digits * powS (-fpOf 1) PowK.quarter.digits = -fpOf 1) := by
  have h : decide ((powS (-fpOf 1) PowK.quarter.digits * powS (-fpOf 1) PowK.quarter.digits).val = (-fpOf 1).val) = false := by kernel_rfl
  intro e
  exact absurd (congrArg Fin.val e) (of_decide_eq_false h)
theorem sqrt4 : sqrtF (fpOf 4) = ⟨fpOf 2, true⟩ := by
  have e1 : fpOf 2 * fpOf 2 = fpOf 4 := by kernel_rfl
  have e2 : -fpOf 2 * -fpOf 2 = fpOf 4 := by kernel_rfl
  have l1 : largeF (fpOf 2) = false := by kernel_rfl
  have l2 : largeF (-fpOf 2) = true := by kernel_rfl
  have n2 : - -fpOf 2 = fpOf 2 := by kernel_rfl
  unfold sqrtF
  rw [rootR_eq]
  rcases root4 with h | h
  · rw [h, if_pos e1, l1]; rfl
  · rw [h, if_pos e2, if_pos l2, n2]
theorem sqrtNo : (sqrtF (-fpOf 1)).b = false := by
  unfold sqrtF
  rw [rootR_eq, if_neg rootNo]

theorem from_num {l : List UInt8} (h : l.length = 48) {n : Nat} (hn : numB l = n) : fromE l = if n < pN then ⟨fpN n, true⟩ else ⟨0, false⟩ := by
  unfold fromE
  rw [hn]
  by_cases h2 : n < pN
  · rw [if_pos ⟨h, h2⟩, if_pos h2]
  · rw [if_neg (fun e => h2 e.2), if_neg h2]
theorem known_ok : Computes A Try.prog 25 (fun _ : Unit => true) := by
  have f1 : fromE (listB (bytesN (-fpOf 1).val).f) = ⟨fpN (pN - 1), true⟩ := by
    rw [from_num (n := pN - 1) (by rfl) (by kernel_rfl), if_pos (by decide)]
  have f2 : fromE (listB1 (bytesN (-fpOf 1).val).f) = ⟨0, false⟩ := by
    rw [from_num (n := pN) (by rfl) (by kernel_rfl), if_neg (by decide)]
  refine known_of _ _ _ _ _ _ _ _ _ _ tblK_ok ⟨?_, ?_, ?_, ?_, ?_, ?_, ?_, ?_, ?_⟩
  · have h7 : fpOf 7 ≠ 0 := by intro h; exact absurd (congrArg Fin.val h) (by decide)
    show decide (invF (fpOf 7) * fpOf 7 = fpOf 1) = true
    rw [Fin.mul_comm, mul_invF h7]
    exact decide_eq_true (by kernel_rfl)
  · exact decide_eq_true (by kernel_rfl)
  · kernel_rfl
  · show decide ((fromE (listB (bytesN (-fpOf 1).val).f)).a + fpOf 1 = 0) = true
    rw [f1]
    exact decide_eq_true (by kernel_rfl)
  · show decide ((sqrtF (fpOf 4)).a = fpOf 2) = true
    rw [sqrt4]
    exact decide_eq_true rfl
  · show (fromE (listB1 (bytesN (-fpOf 1).val).f)).b = false
    rw [f2]
  · show (fromE (listB (bytesN (-fpOf 1).val).f)).b = true
    rw [f1]
  · exact sqrtNo
  · show (sqrtF (fpOf 4)).b = true
    rw [sqrt4]

end Go.Proofs.Ytbdbmcdcjejffaa
