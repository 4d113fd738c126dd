/- The scalar field: powers, inverses; the examples. -/
import Derived.Test.YtaloefkkllebeaaFa7
set_option linter.unusedVariables false
set_option linter.unusedSimpArgs false
set_option linter.unusedSectionVars false
namespace Go.Proofs.Ytaloefkkllebeaa
open Go Go.Sh
def qpow (a : Fq) (n : Nat) : Fq := ⟨a.val ^ n % rN, Nat.mod_lt _ (by decide)⟩
theorem qpow_zero (a : Fq) : qpow a 0 = 1 := by
  apply Fin.ext
  show a.val ^ 0 % rN = 1 % rN
  rw [Nat.pow_zero]
theorem qpow_one (a : Fq) : qpow a 1 = a := by apply Fin.ext; show a.val ^ 1 % rN = a.val; rw [Nat.pow_one, Nat.mod_eq_of_lt a.isLt]
theorem qpow_add (a : Fq) (m n : Nat) : qpow a (m + n) = qpow a m * qpow a n := by
  apply Fin.ext
  show a.val ^ (m + n) % rN = (a.val ^ m % rN * (a.val ^ n % rN)) % rN
  rw [Nat.pow_add, Nat.mul_mod]
theorem fermatQ {a : Fq} (h : a ≠ 0) : qpow a (rN - 1) = 1 := by
  apply Fin.ext
  show a.val ^ (rN - 1) % rN = 1 % rN
  have hv : a.val ≠ 0 := fun e => h (Fin.ext e)
  rw [fermat prime_r (fun hd => hv (Nat.eq_zero_of_dvd_of_lt hd a.isLt)), Nat.mod_eq_of_lt (show 1 < rN by decide)]
def invQ (a : Fq) : Fq := qpow a (rN - 2)
theorem mul_invQ {a : Fq} (h : a ≠ 0) : a * invQ a = 1 := by
  have h1 := fermatQ h
  rw [show rN - 1 = 1 + (rN - 2) by rw [rN_val], qpow_add, qpow_one] at h1
  exact h1
theorem invQ_zero : invQ 0 = 0 := by
  unfold invQ
  rw [show rN - 2 = (rN - 3) + 1 by rw [rN_val], qpow_add, qpow_one, Fin.mul_zero]
/-! ### The inverse, as it is reckoned, is a power. -/
theorem sqq_pow (a : Fq) : ∀ n k, sqq (fun x y : Fq => x * y) n (qpow a k) = qpow a (sqq (fun x y : Nat => x + y) n k)
  | 0, _ => rfl
  | n + 1, k => by
    show sqq _ n (qpow a k) * sqq _ n (qpow a k) = qpow a (sqq _ n k + sqq _ n k)
    rw [sqq_pow a n k, qpow_add]
theorem invGo_pow (a : Fq) : ∀ (L : List Nat) (last k : Nat), invGo (fun x y : Fq => x * y) a L last (qpow a k) = ((invGo (fun x y : Nat => x + y) 1 L last k).1, qpow a (invGo (fun x y : Nat => x + y) 1 L last k).2)
  | [], _, _ => rfl
  | v :: L, last, k => by
    show invGo _ a L v (sqq _ (last - v) (qpow a k) * a) = _
    have e : sqq (fun x y : Fq => x * y) (last - v) (qpow a k) * a = qpow a (sqq (fun x y : Nat => x + y) (last - v) k + 1) := by rw [sqq_pow, qpow_add, qpow_one]
    rw [e]
    exact invGo_pow a L v _
theorem exp_val : invP (fun x y : Nat => x + y) 1 0 = rN - 2 := by kernel_rfl
theorem invP_eq (a : Fq) : invP (fun x y : Fq => x * y) a (fqOf 1) = invQ a := by
  have e : fqOf 1 = qpow a 0 := by rw [qpow_zero]; kernel_rfl
  unfold invP
  rw [e, invGo_pow]
  simp only
  rw [sqq_pow]
  exact congrArg (qpow a) exp_val
def mulQ (a b : Fq) : Fq := a * b
theorem tblQi_ok : TblOK Try.prog (tblQi (fun a b => a * b) fqOf) :=
  .cons frMul_ok.row (.cons frOf_ok.row (.cons order_ok.row (.cons limbsSub_ok.row (.cons (rowIn_ok (TblOK.nil _) (ITblOK.nil _) _ 4 Try.func52 (by kernel_rfl) (by kernel_rfl)) (.nil _)))))
theorem frInvP_ok : Computes A Try.prog 50 (fun x : Fq × Unit => invP (fun x y : Fq => x * y) x.1 (fqOf 1)) := inv_of (fun a b => a * b) fqOf tblQi_ok
theorem frInv_ok : Computes A Try.prog 50 (fun x : Fq × Unit => invQ x.1) := by
  have e : (fun x : Fq × Unit => invP (fun x y : Fq => x * y) x.1 (fqOf 1)) = (fun x : Fq × Unit => invQ x.1) := funext fun x => invP_eq x.1
  rw [← e]
  exact frInvP_ok
noncomputable def tblK4 : List (Row A) :=
  [rowOf A 42 (fun x : UInt64 × Unit => fqOf x.1), rowOf A 50 (fun x : Fq × Unit => invP (fun x y : Fq => x * y) x.1 (fqOf 1)), rowOf A 51 (fun x : Fq × Unit => -x.1), rowOf A 38 (fun x : Fq × Unit => bytesQ x.1.val), rowOf A 34 (fun x : Bs × Unit => fromQ x.1.l),
    rowOf A 46 (fun x : Fq × Fq × Unit => x.1 + x.2.1), rowOf A 49 (fun x : Fq × Fq × Unit => decide (x.1 = x.2.1)), rowOf A 37 (fun x : Fq × Unit => decide (x.1 = 0)),
    rowIn Try.prog [rowOf A 62 (fun x : Fq × Unit => fqNum x.1), rowIn Try.prog [] [] evalO 8 52 Try.f52] [] evalO 8 59 Try.f59]
noncomputable def itsK4 : List (IRow A) := [iter Try.prog [rowIn Try.prog [] [] evalO 8 66 Try.f66] [] evalO 10 65 Try.f65]
theorem tblK4_ok : TblOK Try.prog tblK4 :=
  .cons frOf_ok.row (.cons frInvP_ok.row (.cons frNeg_ok.row (.cons frBytes_ok.row (.cons frFrom_ok.row (.cons frAdd_ok.row (.cons frEqual_ok.row (.cons frIsZero_ok.row
    (.cons (rowIn_ok (.cons frNumber_ok.row (.cons (rowIn_ok (TblOK.nil _) (ITblOK.nil _) _ 8 Try.func52 (by kernel_rfl) (by kernel_rfl)) (.nil _))) (ITblOK.nil _) _ 8 Try.func59 (by kernel_rfl) (by kernel_rfl)) (.nil _)))))))))
theorem itsK4_ok : ITblOK Try.prog itsK4 :=
  ITblOK.cons (iter_ok (.cons (rowIn_ok (TblOK.nil _) (ITblOK.nil _) _ 8 Try.func66 (by kernel_rfl) (by kernel_rfl)) (.nil _)) (ITblOK.nil _) _ 10 Try.func65 (by kernel_rfl) (by kernel_rfl)) (ITblOK.nil _)
end Go.Proofs.Ytaloefkkllebeaa
