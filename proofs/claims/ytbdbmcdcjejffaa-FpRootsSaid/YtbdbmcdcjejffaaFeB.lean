/- Fp: a b + c + d in two parts. -/
import Derived.Test.YtbdbmcdcjejffaaFeA
set_option linter.unusedVariables false
set_option linter.unusedSimpArgs false
set_option linter.unusedSectionVars false
namespace Go.Proofs.Ytbdbmcdcjejffaa
open Go Go.Sh

/-- a b + c + d, in two parts. -/
def maddN (a b c d : UInt64) : Nat := a.toNat * b.toNat + c.toNat + d.toNat
def maddHi (a b c d : UInt64) : UInt64 := UInt64.ofNat (maddN a b c d / 18446744073709551616)
def maddLo (a b c d : UInt64) : UInt64 := UInt64.ofNat (maddN a b c d % 18446744073709551616)

theorem maddN_lt (a b c d : UInt64) : maddN a b c d < 18446744073709551616 * 18446744073709551616 := by
  have := mul_bound a b
  have := c.toNat_lt
  have := d.toNat_lt
  unfold maddN
  omega

theorem maddHi_nat (a b c d : UInt64) : (maddHi a b c d).toNat = maddN a b c d / 18446744073709551616 := by
  have := maddN_lt a b c d
  unfold maddHi
  rw [UInt64.toNat_ofNat_of_lt' (show _ < 18446744073709551616 from Nat.div_lt_of_lt_mul this)]
theorem maddLo_nat (a b c d : UInt64) : (maddLo a b c d).toNat = maddN a b c d % 18446744073709551616 := ofNat_mod _

/-- As the program takes them. -/
def maddP (a b c d : UInt64) : T2 UInt64 UInt64 :=
  ⟨adcS (adcS (mulHi a b) (UInt64.ofNat 0) (adcC c d ⟨false⟩)) (UInt64.ofNat 0) (adcC (mulLo a b) (adcS c d ⟨false⟩) ⟨false⟩), adcS (mulLo a b) (adcS c d ⟨false⟩) ⟨false⟩⟩

theorem maddP_eq (a b c d : UInt64) : maddP a b c d = ⟨maddHi a b c d, maddLo a b c d⟩ := by
  have h1 := adc_nat c d ⟨false⟩
  have h2 := adc_nat (mulHi a b) (UInt64.ofNat 0) (adcC c d ⟨false⟩)
  have h3 := adc_nat (mulLo a b) (adcS c d ⟨false⟩) ⟨false⟩
  have h4 := adc_nat (adcS (mulHi a b) (UInt64.ofNat 0) (adcC c d ⟨false⟩)) (UInt64.ofNat 0) (adcC (mulLo a b) (adcS c d ⟨false⟩) ⟨false⟩)
  have h5 := mulHi_nat a b
  have h6 := mulLo_nat a b
  have h7 := mul_bound a b
  have z : (UInt64.ofNat 0).toNat = 0 := rfl
  have f : (⟨false⟩ : Cy).n = 0 := rfl
  rw [z] at h2 h4
  rw [f] at h1 h3
  have l1 := (adcC c d ⟨false⟩).le
  have l2 := (adcC (mulHi a b) (UInt64.ofNat 0) (adcC c d ⟨false⟩)).le
  have l3 := (adcC (mulLo a b) (adcS c d ⟨false⟩) ⟨false⟩).le
  have l4 := (adcC (adcS (mulHi a b) (UInt64.ofNat 0) (adcC c d ⟨false⟩)) (UInt64.ofNat 0) (adcC (mulLo a b) (adcS c d ⟨false⟩) ⟨false⟩)).le
  have c1 := c.toNat_lt
  have c2 := d.toNat_lt
  have c3 := (adcS c d ⟨false⟩).toNat_lt
  have c4 := (adcS (mulHi a b) (UInt64.ofNat 0) (adcC c d ⟨false⟩)).toNat_lt
  have c5 := (maddP a b c d).a.toNat_lt
  have c6 := (maddP a b c d).b.toNat_lt
  have ea : (maddP a b c d).a = maddHi a b c d := by
    apply UInt64.toNat_inj.1
    rw [maddHi_nat]
    simp only [maddP, maddN] at c5 c6 ⊢
    generalize a.toNat * b.toNat = m at *
    omega
  have eb : (maddP a b c d).b = maddLo a b c d := by
    apply UInt64.toNat_inj.1
    rw [maddLo_nat]
    simp only [maddP, maddN] at c5 c6 ⊢
    generalize a.toNat * b.toNat = m at *
    omega
  rw [← ea, ← eb]

def tblB : List (Row A) := rowOf A 185 (fun x : UInt64 × UInt64 × Unit => (T2.mk (mulHi x.1 x.2.1) (mulLo x.1 x.2.1))) :: tblA
theorem tblB_ok : TblOK Try.prog tblB := .cons mul64_ok.row tblA_ok

theorem madd_ok : Computes A Try.prog 160 (fun x : UInt64 × UInt64 × UInt64 × UInt64 × Unit => (T2.mk (maddHi x.1 x.2.1 x.2.2.1 x.2.2.2.1) (maddLo x.1 x.2.1 x.2.2.1 x.2.2.2.1))) := by
  have h : Computes A Try.prog 160 (fun x : UInt64 × UInt64 × UInt64 × UInt64 × Unit => maddP x.1 x.2.1 x.2.2.1 x.2.2.2.1) :=
    computes_of_run0 tblB_ok Try.func160 (by kernel_rfl) (by kernel_rfl) 4 (fun _ _ _ => by kernel_rfl)
  have e : (fun x : UInt64 × UInt64 × UInt64 × UInt64 × Unit => maddP x.1 x.2.1 x.2.2.1 x.2.2.2.1) = (fun x : UInt64 × UInt64 × UInt64 × UInt64 × Unit => (T2.mk (maddHi x.1 x.2.1 x.2.2.1 x.2.2.2.1) (maddLo x.1 x.2.1 x.2.2.1 x.2.2.2.1))) := by
    funext x; exact maddP_eq _ _ _ _
  rw [e] at h
  exact h

end Go.Proofs.Ytbdbmcdcjejffaa
