/- The Frobenius maps are powers of p. -/
import Derived.Test.YtbdbmcdcjejffaaGg2
set_option linter.unusedVariables false
set_option linter.unusedSimpArgs false
set_option linter.unusedSectionVars false
namespace Go.Proofs.Ytbdbmcdcjejffaa
open Go Go.Sh

/-! ### Iterates -/
theorem itN_add {X : Type} (f : X → X) (j : Nat) (a : X) : ∀ k, itN f (j + k) a = itN f k (itN f j a)
  | 0 => rfl
  | k + 1 => congrArg f (itN_add f j a k)
theorem itN_period {X : Type} {f : X → X} {d : Nat} (h : ∀ a, itN f d a = a) (a : X) (r : Nat) : ∀ q, itN f (d * q + r) a = itN f r a
  | 0 => by rw [Nat.mul_zero, Nat.zero_add]
  | q + 1 => by rw [Nat.mul_succ, Nat.add_comm (d * q) d, Nat.add_assoc, itN_add, h, itN_period h a r q]
theorem itN_mod {X : Type} {f : X → X} {d : Nat} (h : ∀ a, itN f d a = a) (a : X) (k : Nat) : itN f (k % d) a = itN f k a := by
  have := itN_period h a (k % d) (k / d)
  rw [Nat.div_add_mod] at this
  exact this.symm
theorem itN_two {X : Type} (f g : X → X) (hc : ∀ a b : X, True) (a : X) : True := trivial
theorem itN_m {X : Type} [CR X] {f : X → X} (h : ∀ a b : X, f (CR.m a b) = CR.m (f a) (f b)) (a b : X) : ∀ k, itN f k (CR.m a b) = CR.m (itN f k a) (itN f k b)
  | 0 => rfl
  | k + 1 => by show f (itN f k (CR.m a b)) = _; rw [itN_m h a b k, h]; rfl
theorem itN_p {X : Type} [CR X] {f : X → X} (h : ∀ a b : X, f (CR.p a b) = CR.p (f a) (f b)) (a b : X) : ∀ k, itN f k (CR.p a b) = CR.p (itN f k a) (itN f k b)
  | 0 => rfl
  | k + 1 => by show f (itN f k (CR.p a b)) = _; rw [itN_p h a b k, h]; rfl

/-! ### The constants -/
abbrev tx2 (j k : TxK) : F2 := (j.fp, k.fp)
theorem two_m : powS (1 + 1) [4,5,5,8,2,15,12,5,14,14,10,10,6,6,15,0,12,8,4,9,11,15,3,11,5,14,1,15,2,2,3,14,6,1,3,14,1,14,11,7,13,14,11,8,3,1,15,14,6,8,8,2,3,1,10,13,3,12,8,2,9,0,6,0,5,1,12,10,10,10,10,7,2,14,3,5,5,5,5,4,9,10,10,7,15,15,15,15,15,15,15,15,1,12,7] = -TxK.v1.fp := by
  have h : decide ((powS (1 + 1) [4,5,5,8,2,15,12,5,14,14,10,10,6,6,15,0,12,8,4,9,11,15,3,11,5,14,1,15,2,2,3,14,6,1,3,14,1,14,11,7,13,14,11,8,3,1,15,14,6,8,8,2,3,1,10,13,3,12,8,2,9,0,6,0,5,1,12,10,10,10,10,7,2,14,3,5,5,5,5,4,9,10,10,7,15,15,15,15,15,15,15,15,1,12,7]).val = (-TxK.v1.fp).val) = true := by kernel_rfl
  exact Fin.ext (of_decide_eq_true h)
theorem two_s : powS (1 + 1) [2,2,10,12,1,7,14,2,15,7,5,5,3,3,7,8,6,4,2,4,13,15,9,13,10,15,0,15,9,1,1,15,3,0,9,15,0,15,5,11,14,15,5,12,1,8,15,15,3,4,4,1,1,8,13,6,9,14,4,1,4,8,3,0,2,8,14,5,5,5,5,3,9,7,1,10,10,10,10,10,4,13,5,3,15,15,15,15,15,15,15,15,8,14,3] = TxK.w0.fp := by
  have h : decide ((powS (1 + 1) [2,2,10,12,1,7,14,2,15,7,5,5,3,3,7,8,6,4,2,4,13,15,9,13,10,15,0,15,9,1,1,15,3,0,9,15,0,15,5,11,14,15,5,12,1,8,15,15,3,4,4,1,1,8,13,6,9,14,4,1,4,8,3,0,2,8,14,5,5,5,5,3,9,7,1,10,10,10,10,10,4,13,5,3,15,15,15,15,15,15,15,15,8,14,3]).val = TxK.w0.fp.val) = true := by kernel_rfl
  exact Fin.ext (of_decide_eq_true h)
theorem hex_m : hexN [4,5,5,8,2,15,12,5,14,14,10,10,6,6,15,0,12,8,4,9,11,15,3,11,5,14,1,15,2,2,3,14,6,1,3,14,1,14,11,7,13,14,11,8,3,1,15,14,6,8,8,2,3,1,10,13,3,12,8,2,9,0,6,0,5,1,12,10,10,10,10,7,2,14,3,5,5,5,5,4,9,10,10,7,15,15,15,15,15,15,15,15,1,12,7] = (pN - 1) / 6 := by kernel_rfl
theorem hex_s : hexN [2,2,10,12,1,7,14,2,15,7,5,5,3,3,7,8,6,4,2,4,13,15,9,13,10,15,0,15,9,1,1,15,3,0,9,15,0,15,5,11,14,15,5,12,1,8,15,15,3,4,4,1,1,8,13,6,9,14,4,1,4,8,3,0,2,8,14,5,5,5,5,3,9,7,1,10,10,10,10,10,4,13,5,3,15,15,15,15,15,15,15,15,8,14,3] = ((pN - 1) / 6 - 1) / 2 := by kernel_rfl
theorem f2_m : fpow (1 + 1) ((pN - 1) / 6) = -TxK.v1.fp := by rw [← hex_m, ← powS_eq, two_m]
theorem f2_s : fpow (1 + 1) (((pN - 1) / 6 - 1) / 2) = TxK.w0.fp := by rw [← hex_s, ← powS_eq, two_s]
theorem xi_sq : CR.pw (X := F2) xiE 2 = CR.m ((1 + 1, 0) : F2) i2 := by
  show mul2 (mul2 one2 xiE) xiE = mul2 (1 + 1, 0) i2
  exact ext2 (by simp only [mul2, one2, xiE, i2]; grind) (by simp only [mul2, one2, xiE, i2]; grind)
theorem xi_even (n : Nat) : CR.pw (X := F2) xiE (2 * n) = CR.m ((fpow (1 + 1) n, 0) : F2) (CR.pw (X := F2) i2 n) := by
  rw [CR.pw_mul, xi_sq, CR.m_pw]
  exact congrArg (fun q => CR.m q (CR.pw (X := F2) i2 n)) (pow2_real (1 + 1) n)
theorem i2_pw (q r : Nat) : CR.pw (X := F2) i2 (4 * q + r) = CR.pw (X := F2) i2 r := by
  rw [CR.pw_add, CR.pw_mul]
  have h : CR.pw (X := F2) i2 4 = CR.i := i2_4
  rw [h, CR.i_pw, CR.m1']
theorem i2_1 : CR.pw (X := F2) i2 1 = i2 := CR.pw1 i2
theorem i2_2 : CR.pw (X := F2) i2 2 = (-1, 0) := by
  show mul2 (mul2 one2 i2) i2 = _
  exact ext2 (by simp only [mul2, one2, i2]; grind) (by simp only [mul2, one2, i2]; grind)
theorem m_mod : (pN - 1) / 6 = 4 * ((pN - 1) / 6 / 4) + 3 := by rw [pN_val]
theorem s_mod : ((pN - 1) / 6 - 1) / 2 = 4 * (((pN - 1) / 6 - 1) / 2 / 4) + 3 := by rw [pN_val]
theorem k_two : (pN - 1) / 3 = 2 * ((pN - 1) / 6) := by rw [pN_val]
theorem m_two : (pN - 1) / 6 = 2 * (((pN - 1) / 6 - 1) / 2) + 1 := by rw [pN_val]
theorem none_fp : TxK.none.fp = 0 := by kernel_rfl
theorem r1_is : CR.pw (X := F2) xiE ((pN - 1) / 3) = tx2 .none .v1 := by
  rw [k_two, xi_even, f2_m, m_mod, i2_pw]
  have h3 : CR.pw (X := F2) i2 3 = neg2 i2 := i2_3
  show CR.m _ (CR.pw (X := F2) i2 3) = (TxK.none.fp, TxK.v1.fp)
  rw [h3, none_fp]
  generalize TxK.v1.fp = q
  exact ext2 (by show (mul2 (-q, 0) (neg2 i2)).1 = _; simp only [mul2, i2, neg2]; grind) (by show (mul2 (-q, 0) (neg2 i2)).2 = _; simp only [mul2, i2, neg2]; grind)
theorem w01 : TxK.w1.fp = -TxK.w0.fp := by kernel_rfl
theorem v12 : TxK.v1.fp * TxK.v1.fp = -TxK.v2.fp := by kernel_rfl
theorem root_is : CR.pw (X := F2) xiE ((pN - 1) / 6) = tx2 .w0 .w1 := by
  rw [m_two, CR.pwS, xi_even, f2_s, s_mod, i2_pw]
  have h : CR.pw (X := F2) i2 3 = neg2 i2 := i2_3
  rw [h]
  show CR.m (CR.m _ _) xiE = (TxK.w0.fp, TxK.w1.fp)
  rw [w01]
  generalize TxK.w0.fp = q
  exact ext2 (by show (mul2 (mul2 (q, 0) (neg2 i2)) xiE).1 = _; simp only [mul2, i2, neg2, xiE]; grind) (by show (mul2 (mul2 (q, 0) (neg2 i2)) xiE).2 = _; simp only [mul2, i2, neg2, xiE]; grind)
theorem r2_is : CR.m (tx2 .none .v1) (tx2 .none .v1) = tx2 .v2 .none := by
  show CR.m (TxK.none.fp, TxK.v1.fp) (TxK.none.fp, TxK.v1.fp) = (TxK.v2.fp, TxK.none.fp)
  rw [none_fp]
  have h := v12
  revert h
  generalize TxK.v1.fp = q
  generalize TxK.v2.fp = q2
  intro h
  exact ext2 (by show (mul2 (0, q) (0, q)).1 = _; simp only [mul2]; grind) (by show (mul2 (0, q) (0, q)).2 = _; simp only [mul2]; grind)

/-! ### Fp6 -/
theorem nm_f6 (a : F6) : ∀ k, (CR.nm k a : F6) = (CR.nm k a.1, CR.nm k a.2.1, CR.nm k a.2.2)
  | 0 => rfl
  | k + 1 => by
    show CR.p (CR.nm k a) a = _
    rw [nm_f6 a k]; rfl
theorem nm_p6 (a : F6) : (CR.nm pN a : F6) = CR.o := by
  rw [nm_f6]
  exact Prod.ext (nm_p2 _) (Prod.ext (nm_p2 _) (nm_p2 _))
theorem dream6 (a b : F6) : CR.pw (CR.p a b) pN = CR.p (CR.pw a pN) (CR.pw b pN) := CR.dream prime_p pos_p nm_p6 a b
noncomputable abbrev in6 (x : F2) : F6 := (x, CR.o, CR.o)
theorem in6_m (x y : F2) : CR.m (in6 x) (in6 y) = in6 (CR.m x y) := Prod.ext (CX.ring (envL [xiE, x, y]) (e := (.a (.t (.v 1) (.v 2)) (.t (.v 0) (.a (.t .z .z) (.t .z .z))))) (f := (.t (.v 1) (.v 2))) (by kernel_rfl)) (Prod.ext (CX.ring (envL [xiE, x, y]) (e := (.a (.a (.t (.v 1) .z) (.t .z (.v 2))) (.t (.v 0) (.t .z .z)))) (f := .z) (by kernel_rfl)) (CX.ring (envL [xiE, x, y]) (e := (.a (.a (.t (.v 1) .z) (.t .z .z)) (.t .z (.v 2)))) (f := .z) (by kernel_rfl)))
theorem in6_pw (x : F2) : ∀ n, CR.pw (in6 x) n = in6 (CR.pw x n)
  | 0 => rfl
  | n + 1 => by
    show CR.m (CR.pw (in6 x) n) (in6 x) = in6 (CR.m (CR.pw x n) x)
    rw [in6_pw x n, in6_m]
theorem v_3 : CR.pw vE 3 = in6 xiE := by
  show CR.m (CR.m (CR.m CR.i vE) vE) vE = in6 xiE
  rw [CR.m1']; exact v_cube
theorem in6_v (x : F2) : CR.m (in6 x) vE = (CR.o, x, CR.o) := Prod.ext (CX.ring (envL [xiE, x]) (e := (.a (.t (.v 1) .z) (.t (.v 0) (.a (.t .z .z) (.t .z .u))))) (f := .z) (by kernel_rfl)) (Prod.ext (CX.ring (envL [xiE, x]) (e := (.a (.a (.t (.v 1) .u) (.t .z .z)) (.t (.v 0) (.t .z .z)))) (f := (.v 1)) (by kernel_rfl)) (CX.ring (envL [xiE, x]) (e := (.a (.a (.t (.v 1) .z) (.t .z .u)) (.t .z .z))) (f := .z) (by kernel_rfl)))
theorem p_3 : pN = 3 * ((pN - 1) / 3) + 1 := by rw [pN_val]
theorem v_p : CR.pw vE pN = (CR.o, tx2 .none .v1, CR.o) := by
  have e : CR.pw vE (3 * ((pN - 1) / 3) + 1) = CR.m (CR.pw (CR.pw vE 3) ((pN - 1) / 3)) vE := by rw [CR.pwS, CR.pw_mul]
  rw [← p_3] at e
  rw [e, v_3, in6_pw, r1_is, in6_v]
theorem split6 (a : F6) : a = CR.p (in6 a.1) (CR.p (CR.m (in6 a.2.1) vE) (CR.m (in6 a.2.2) (CR.m vE vE))) := Prod.ext (CX.ring (envL [xiE, a.1, a.2.1, a.2.2]) (e := (.v 1)) (f := (.a (.v 1) (.a (.a (.t (.v 2) .z) (.t (.v 0) (.a (.t .z .z) (.t .z .u)))) (.a (.t (.v 3) (.a (.t .z .z) (.t (.v 0) (.a (.t .u .z) (.t .z .u))))) (.t (.v 0) (.a (.t .z (.a (.a (.t .z .z) (.t .u .u)) (.t .z .z))) (.t .z (.a (.a (.t .z .u) (.t .u .z)) (.t (.v 0) (.t .z .z)))))))))) (by kernel_rfl)) (Prod.ext (CX.ring (envL [xiE, a.1, a.2.1, a.2.2]) (e := (.v 2)) (f := (.a .z (.a (.a (.a (.t (.v 2) .u) (.t .z .z)) (.t (.v 0) (.t .z .z))) (.a (.a (.t (.v 3) (.a (.a (.t .z .u) (.t .u .z)) (.t (.v 0) (.t .z .z)))) (.t .z (.a (.t .z .z) (.t (.v 0) (.a (.t .u .z) (.t .z .u)))))) (.t (.v 0) (.t .z (.a (.a (.t .z .z) (.t .u .u)) (.t .z .z)))))))) (by kernel_rfl)) (CX.ring (envL [xiE, a.1, a.2.1, a.2.2]) (e := (.v 3)) (f := (.a .z (.a (.a (.a (.t (.v 2) .z) (.t .z .u)) (.t .z .z)) (.a (.a (.t (.v 3) (.a (.a (.t .z .z) (.t .u .u)) (.t .z .z))) (.t .z (.a (.a (.t .z .u) (.t .u .z)) (.t (.v 0) (.t .z .z))))) (.t .z (.a (.t .z .z) (.t (.v 0) (.a (.t .u .z) (.t .z .u))))))))) (by kernel_rfl)))
theorem join6 (x y z r : F2) : CR.p (in6 x) (CR.p (CR.m (in6 y) (CR.o, r, CR.o)) (CR.m (in6 z) (CR.m (CR.o, r, CR.o) (CR.o, r, CR.o)))) = (x, CR.m y r, CR.m z (CR.m r r)) := Prod.ext (CX.ring (envL [xiE, x, y, z, r]) (e := (.a (.v 1) (.a (.a (.t (.v 2) .z) (.t (.v 0) (.a (.t .z .z) (.t .z (.v 4))))) (.a (.t (.v 3) (.a (.t .z .z) (.t (.v 0) (.a (.t (.v 4) .z) (.t .z (.v 4)))))) (.t (.v 0) (.a (.t .z (.a (.a (.t .z .z) (.t (.v 4) (.v 4))) (.t .z .z))) (.t .z (.a (.a (.t .z (.v 4)) (.t (.v 4) .z)) (.t (.v 0) (.t .z .z)))))))))) (f := (.v 1)) (by kernel_rfl)) (Prod.ext (CX.ring (envL [xiE, x, y, z, r]) (e := (.a .z (.a (.a (.a (.t (.v 2) (.v 4)) (.t .z .z)) (.t (.v 0) (.t .z .z))) (.a (.a (.t (.v 3) (.a (.a (.t .z (.v 4)) (.t (.v 4) .z)) (.t (.v 0) (.t .z .z)))) (.t .z (.a (.t .z .z) (.t (.v 0) (.a (.t (.v 4) .z) (.t .z (.v 4))))))) (.t (.v 0) (.t .z (.a (.a (.t .z .z) (.t (.v 4) (.v 4))) (.t .z .z)))))))) (f := (.t (.v 2) (.v 4))) (by kernel_rfl)) (CX.ring (envL [xiE, x, y, z, r]) (e := (.a .z (.a (.a (.a (.t (.v 2) .z) (.t .z (.v 4))) (.t .z .z)) (.a (.a (.t (.v 3) (.a (.a (.t .z .z) (.t (.v 4) (.v 4))) (.t .z .z))) (.t .z (.a (.a (.t .z (.v 4)) (.t (.v 4) .z)) (.t (.v 0) (.t .z .z))))) (.t .z (.a (.t .z .z) (.t (.v 0) (.a (.t (.v 4) .z) (.t .z (.v 4)))))))))) (f := (.t (.v 3) (.t (.v 4) (.v 4)))) (by kernel_rfl)))
noncomputable abbrev st6 : F6 → F6 := stepF6 tx2 conj2 mul2
theorem step6_is (a : F6) : st6 a = CR.pw a pN := by
  rw [split6 a, dream6, dream6, CR.m_pw, CR.m_pw, CR.m_pw, in6_pw, in6_pw, in6_pw, v_p, join6, r2_is, ← split6]
  have h : ∀ x : F2, CR.pw x pN = conj2 x := pow2_p
  rw [h, h, h]; rfl
/-! ### Fp12 -/
theorem nm_f12 (a : F12) : ∀ k, (CR.nm k a : F12) = (CR.nm k a.1, CR.nm k a.2)
  | 0 => rfl
  | k + 1 => by
    show CR.p (CR.nm k a) a = _
    rw [nm_f12 a k]; rfl
theorem nm_p12 (a : F12) : (CR.nm pN a : F12) = CR.o := by
  rw [nm_f12]
  exact Prod.ext (nm_p6 _) (nm_p6 _)
theorem dream12 (a b : F12) : CR.pw (CR.p a b) pN = CR.p (CR.pw a pN) (CR.pw b pN) := CR.dream prime_p pos_p nm_p12 a b
noncomputable abbrev in12 (x : F6) : F12 := (x, CR.o)
theorem in12_m (x y : F6) : CR.m (in12 x) (in12 y) = in12 (CR.m x y) := Prod.ext (CX.ring (envL [vE, x, y]) (e := (.a (.t (.v 1) (.v 2)) (.t (.v 0) (.t .z .z)))) (f := (.t (.v 1) (.v 2))) (by kernel_rfl)) (CX.ring (envL [vE, x, y]) (e := (.a (.t (.v 1) .z) (.t .z (.v 2)))) (f := .z) (by kernel_rfl))
theorem in12_pw (x : F6) : ∀ n, CR.pw (in12 x) n = in12 (CR.pw x n)
  | 0 => rfl
  | n + 1 => by
    show CR.m (CR.pw (in12 x) n) (in12 x) = in12 (CR.m (CR.pw x n) x)
    rw [in12_pw x n, in12_m]
theorem w_2 : CR.pw wE 2 = in12 vE := by
  show CR.m (CR.m CR.i wE) wE = in12 vE
  rw [CR.m1']; exact w_sq
theorem in12_w (x : F6) : CR.m (in12 x) wE = (CR.o, x) := Prod.ext (CX.ring (envL [vE, x]) (e := (.a (.t (.v 1) .z) (.t (.v 0) (.t .z .u)))) (f := .z) (by kernel_rfl)) (CX.ring (envL [vE, x]) (e := (.a (.t (.v 1) .u) (.t .z .z))) (f := (.v 1)) (by kernel_rfl))
theorem p_6 : pN = 2 * (3 * ((pN - 1) / 6)) + 1 := by rw [pN_val]
theorem w_p : CR.pw wE pN = (CR.o, in6 (tx2 .w0 .w1)) := by
  have e : CR.pw wE (2 * (3 * ((pN - 1) / 6)) + 1) = CR.m (CR.pw (CR.pw wE 2) (3 * ((pN - 1) / 6))) wE := by rw [CR.pwS, CR.pw_mul]
  rw [← p_6] at e
  rw [e, w_2, in12_pw, CR.pw_mul, v_3, in6_pw, root_is, in12_w]
theorem split12 (a : F12) : a = CR.p (in12 a.1) (CR.m (in12 a.2) wE) := Prod.ext (CX.ring (envL [vE, a.1, a.2]) (e := (.v 1)) (f := (.a (.v 1) (.a (.t (.v 2) .z) (.t (.v 0) (.t .z .u))))) (by kernel_rfl)) (CX.ring (envL [vE, a.1, a.2]) (e := (.v 2)) (f := (.a .z (.a (.t (.v 2) .u) (.t .z .z)))) (by kernel_rfl))
theorem join12 (x y r : F6) : CR.p (in12 x) (CR.m (in12 y) (CR.o, r)) = (x, CR.m y r) := Prod.ext (CX.ring (envL [vE, x, y, r]) (e := (.a (.v 1) (.a (.t (.v 2) .z) (.t (.v 0) (.t .z (.v 3)))))) (f := (.v 1)) (by kernel_rfl)) (CX.ring (envL [vE, x, y, r]) (e := (.a .z (.a (.t (.v 2) (.v 3)) (.t .z .z)))) (f := (.t (.v 2) (.v 3))) (by kernel_rfl))
noncomputable abbrev fr6 (a : F6) (n : Int) : F6 := itN st6 (modI n 6).toNat a
noncomputable abbrev st12 : F12 → F12 := stepF12 tx2 fr6 (scaleVr mul2)
theorem st12_eq (a : F12) : st12 a = (st6 a.1, CR.m (st6 a.2) (in6 (tx2 .w0 .w1))) := Prod.ext rfl (scaleV_eq (st6 a.2) (tx2 .w0 .w1))
theorem step12_is (a : F12) : st12 a = CR.pw a pN := by
  rw [st12_eq, split12 a, dream12, CR.m_pw, in12_pw, in12_pw, w_p, join12, ← split12, step6_is, step6_is]
/-! ### How often -/
theorem st6_m (a b : F6) : st6 (CR.m a b) = CR.m (st6 a) (st6 b) := by rw [step6_is, step6_is, step6_is, CR.m_pw]
theorem st6_p (a b : F6) : st6 (CR.p a b) = CR.p (st6 a) (st6 b) := by rw [step6_is, step6_is, step6_is, dream6]
theorem st12_m (a b : F12) : st12 (CR.m a b) = CR.m (st12 a) (st12 b) := by rw [step12_is, step12_is, step12_is, CR.m_pw]
def re2 (x : Fp) : F2 := (x, 0)
theorem re2_m (a b : Fp) : mul2 (re2 a) (re2 b) = re2 (a * b) := ext2 (by simp only [mul2, re2]; grind) (by simp only [mul2, re2]; grind)
theorem conj2_re (a : F2) (x : Fp) : conj2 (mul2 a (re2 x)) = mul2 (conj2 a) (re2 x) := ext2 (by simp only [mul2, conj2, re2]; grind) (by simp only [mul2, conj2, re2]; grind)
theorem conj_r (a r : F2) : mul2 (conj2 (mul2 (conj2 a) r)) r = mul2 a (re2 (norm2 r)) := ext2 (by simp only [mul2, conj2, re2, norm2]; grind) (by simp only [mul2, conj2, re2, norm2]; grind)
abbrev q6 (c d : Fp) (a : F6) : F6 := (a.1, mul2 a.2.1 (re2 c), mul2 a.2.2 (re2 d))
theorem step_two (Tx : TxK → TxK → F2) (a : F6) : stepF6 Tx conj2 mul2 (stepF6 Tx conj2 mul2 a) = q6 (norm2 (Tx .none .v1)) (norm2 (Tx .v2 .none)) a := by
  unfold stepF6
  generalize Tx .none .v1 = r1
  generalize Tx .v2 .none = r2
  exact Prod.ext (conj_conj a.1) (Prod.ext (conj_r a.2.1 r1) (conj_r a.2.2 r2))
theorem st6_two (a : F6) : st6 (st6 a) = q6 (norm2 (tx2 .none .v1)) (norm2 (tx2 .v2 .none)) a := step_two tx2 a
theorem q6_three {c d : Fp} (hc : c * c * c = 1) (hd : d * d * d = 1) (a : F6) : q6 c d (q6 c d (q6 c d a)) = a := by
  have e : ∀ (x : F2) (c : Fp), mul2 (mul2 (mul2 x (re2 c)) (re2 c)) (re2 c) = mul2 x (re2 (c * c * c)) := fun x c => by
    rw [mul2_assoc, mul2_assoc, re2_m, re2_m, Fin.mul_assoc]
  have e1 : ∀ x : F2, mul2 x (re2 1) = x := mul2_one
  refine Prod.ext rfl (Prod.ext ?_ ?_)
  · show mul2 (mul2 (mul2 a.2.1 (re2 c)) (re2 c)) (re2 c) = a.2.1
    rw [e, hc, e1]
  · show mul2 (mul2 (mul2 a.2.2 (re2 d)) (re2 d)) (re2 d) = a.2.2
    rw [e, hd, e1]
theorem c3 : norm2 (tx2 .none .v1) * norm2 (tx2 .none .v1) * norm2 (tx2 .none .v1) = 1 := by kernel_rfl
theorem d3 : norm2 (tx2 .v2 .none) * norm2 (tx2 .v2 .none) * norm2 (tx2 .v2 .none) = 1 := by kernel_rfl
theorem e3 : norm2 (tx2 .w0 .w1) * norm2 (tx2 .w0 .w1) * norm2 (tx2 .w0 .w1) = -1 := by kernel_rfl
theorem st6_six (a : F6) : itN st6 6 a = a := by
  show st6 (st6 (st6 (st6 (st6 (st6 a))))) = a
  rw [st6_two, st6_two, st6_two, q6_three c3 d3]
theorem st6_in (x : F2) : st6 (in6 x) = in6 (conj2 x) := by
  rw [step6_is, in6_pw]
  exact congrArg in6 (pow2_p x)
theorem st12_two (a : F12) : st12 (st12 a) = (st6 (st6 a.1), CR.m (st6 (st6 a.2)) (in6 (re2 (norm2 (tx2 .w0 .w1))))) := by
  rw [st12_eq, st12_eq]
  refine Prod.ext rfl ?_
  show CR.m (st6 (CR.m (st6 a.2) (in6 (tx2 .w0 .w1)))) (in6 (tx2 .w0 .w1)) = _
  rw [st6_m, st6_in, CR.mA, in6_m]
  have h : CR.m (conj2 (tx2 .w0 .w1)) (tx2 .w0 .w1) = re2 (norm2 (tx2 .w0 .w1)) := (mul2_comm _ _).trans (mul2_conj _)
  rw [h]
theorem st6_re (x : Fp) : st6 (in6 (re2 x)) = in6 (re2 x) := by
  rw [st6_in]
  exact congrArg in6 (ext2 rfl (by show -(0 : Fp) = 0; grind))
theorem st12_six (a : F12) : itN st12 6 a = conjY a := by
  show st12 (st12 (st12 (st12 (st12 (st12 a))))) = conjY a
  rw [st12_two, st12_two, st12_two]
  have h : ∀ z : F6, st6 (st6 (st6 (st6 (st6 (st6 z))))) = z := st6_six
  refine Prod.ext (h a.1) ?_
  have e3' := e3
  revert e3'
  generalize norm2 (tx2 .w0 .w1) = q
  intro e3'
  show CR.m (st6 (st6 (CR.m (st6 (st6 (CR.m (st6 (st6 a.2)) (in6 (re2 q))))) (in6 (re2 q))))) (in6 (re2 q)) = CR.n a.2
  rw [st6_m, st6_m, st6_m, st6_m, st6_m, st6_m, st6_re, st6_re, st6_re, st6_re, h, CR.mA, CR.mA, in6_m, in6_m]
  have g : CR.m (re2 q) (CR.m (re2 q) (re2 q)) = (CR.n CR.i : F2) := by
    show mul2 (re2 q) (mul2 (re2 q) (re2 q)) = neg2 one2
    rw [re2_m, re2_m, ← Fin.mul_assoc, e3']
    exact ext2 rfl (by show (0 : Fp) = -0; grind)
  rw [g]
  have k : in6 (CR.n CR.i : F2) = CR.n CR.i := Prod.ext rfl (Prod.ext (CR.n0 (X := F2)).symm (CR.n0 (X := F2)).symm)
  rw [k, CR.mN, CR.m1]
theorem st12_twelve (a : F12) : itN st12 12 a = a := by
  have h : itN st12 (6 + 6) a = itN st12 6 (itN st12 6 a) := itN_add st12 6 a 6
  rw [st12_six, st12_six, conjY_conj] at h
  exact h
/-! ### The reference's powers -/
def fromT (t : T6) : F12 := ((t.1, t.2.2.1, t.2.2.2.2.1), (t.2.1, t.2.2.2.1, t.2.2.2.2.2))
theorem mulS_assoc (x y z : T6) : mulS (mulS x y) z = mulS x (mulS y z) := by
  show mulS (mulS (toT (fromT x)) (toT (fromT y))) (toT (fromT z)) = mulS (toT (fromT x)) (mulS (toT (fromT y)) (toT (fromT z)))
  rw [← mulS_eq, ← mulS_eq, ← mulS_eq, ← mulS_eq]
  exact congrArg toT (CR.mA (X := F12) _ _ _)
theorem oneT_is : oneTr one2 = toT (CR.i : F12) := rfl
theorem mulS_one (x : T6) : mulS x (oneTr one2) = x := by
  rw [oneT_is]
  show mulS (toT (fromT x)) (toT CR.i) = toT (fromT x)
  rw [← mulS_eq]
  exact congrArg toT (CR.m1 (X := F12) _)
def powT (a : T6) (n : Nat) : T6 := gpow (oneTr one2) mulS a n
theorem powT_toT (a : F12) : ∀ n, powT (toT a) n = toT (CR.pw a n)
  | 0 => rfl
  | n + 1 => by
    show mulS (powT (toT a) n) (toT a) = _
    rw [powT_toT a n, ← mulS_eq]; rfl
theorem powT_toT6 (a : F6) : ∀ n, powT (toT6 a) n = toT6 (CR.pw a n)
  | 0 => rfl
  | n + 1 => by
    show mulS (powT (toT6 a) n) (toT6 a) = _
    rw [powT_toT6 a n, ← mulT6_eq]; rfl
theorem powT_ok : Computes A Try.prog 140 (fun x : T6 × Bt × Unit => powT x.1 (numB x.2.1.l)) :=
  Computes.eq (powRT_of (oneTr one2) mulS (.cons mulT_ok.row (.cons oneT_ok.row (.nil _)))) (fun x => rpG_all (O := oneTr one2) (M := mulS) mulS_one mulS_assoc (fun _ => rfl) _ _)
theorem frobT1_ok : Computes A Try.prog 89 (fun x : T6 × I1 × Unit => powT x.1 pN) :=
  Computes.eq (frobT1_of (fun a l => powT a (numB l)) pNum (fun x => bytesN x.val) (.cons powT_ok.row (.cons refP_ok.row (.cons refBytes_ok.row (.nil _))))) (fun x => by rw [numB_p])
noncomputable def pow12 (a : F12) (n : Nat) : F12 := CR.pw a n
theorem pow12_ok : Computes A Try.prog 139 (fun x : F12 × Bt × Unit => pow12 x.1 (numB x.2.1.l)) :=
  Computes.eq (powP12_of oneY sqr12 (m2 vE) (.cons oneY_ok.row (.cons sqY_ok.row (.cons mulY_ok.row (.cons (rowIn_ok (TblOK.nil _) (ITblOK.nil _) _ 4 Try.func165 (by kernel_rfl) (by kernel_rfl)) (.nil _)))))) (fun x => rpG_all (O := (CR.i : F12)) (M := CR.m) CR.m1 CR.mA (fun _ => rfl) _ _)
noncomputable abbrev fr12 (a : F12) (n : Int) : F12 := itN st12 (modI n 12).toNat a
theorem fr6_ok : Computes A Try.prog 88 (fun x : F6 × Int × Unit => fr6 x.1 x.2.1) :=
  frobF6_of tx2 conj2 mul2 (.cons text2_ok.row (.cons conj2_ok.row (.cons mul2_ok.row (.nil _))))
theorem fr12_ok : Computes A Try.prog 143 (fun x : F12 × Int × Unit => fr12 x.1 x.2.1) :=
  frobF12_of tx2 fr6 (scaleVr mul2) (.cons text2_ok.row (.cons fr6_ok.row (.cons scaleV_ok.row (.nil _))))
end Go.Proofs.Ytbdbmcdcjejffaa
