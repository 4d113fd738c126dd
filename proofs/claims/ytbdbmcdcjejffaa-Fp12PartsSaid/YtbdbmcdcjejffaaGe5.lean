/- Fp6 and fp12 are fields; what the program and the reference reckon is theirs. -/
import Derived.Test.YtbdbmcdcjejffaaGe2
import Derived.Test.YtbdbmcdcjejffaaGe4
set_option linter.unusedVariables false
set_option linter.unusedSimpArgs false
set_option linter.unusedSectionVars false
namespace Go.Proofs.Ytbdbmcdcjejffaa
open Go Go.Sh

def xiE : F2 := (1, 1)
theorem xi2_mul' (a : F2) : xi2 a = mul2 xiE a := by rw [xi2_mul, mul2_comm]; rfl
noncomputable instance : CR F6 := cub xiE
def vE : F6 := (zero2, one2, zero2)
noncomputable instance : CR F12 := quad vE
theorem fld2 : Fld F2 inv2 := ⟨fun a h => mul2_inv h⟩

/-! ### 1 + i is no cube -/
theorem pp1 : pN * pN = (pN * pN - 1) + 1 := by rw [pN_val]
theorem third : pN * pN - 1 = 3 * ((pN + 1) * ((pN - 1) / 3)) := by rw [pN_val]
theorem conj_conj (a : F2) : conj2 (conj2 a) = a := ext2 (by simp only [conj2]) (by simp only [conj2]; grind)
theorem pw_pp (c : F2) : CR.pw (X := F2) c (pN * pN) = c := by
  rw [CR.pw_mul]
  show pow2 (pow2 c pN) pN = c
  rw [pow2_p, pow2_p, conj_conj]
theorem pw_pp1 {c : F2} (h : c ≠ zero2) : CR.pw (X := F2) c (pN * pN - 1) = one2 := by
  have h1 := pw_pp c
  rw [pp1, CR.pwS] at h1
  have h2 : mul2 c (CR.pw (X := F2) c (pN * pN - 1)) = mul2 c one2 := by
    rw [mul2_one, mul2_comm]; exact h1
  exact fld2.cancel h h2
theorem two_r : powS (1 + 1) [8,10,11,0,5,15,8,11,13,13,5,4,12,13,14,1,9,0,9,3,7,14,7,6,11,12,3,14,4,4,7,12,12,2,7,12,3,13,6,15,11,13,7,0,6,3,15,12,13,1,0,4,6,3,5,10,7,9,0,5,2,0,12,0,10,3,9,5,5,5,4,14,5,12,6,10,10,10,10,9,3,5,4,15,15,15,15,15,15,15,15,14,3,8,14] ≠ 1 := by
  have h : decide ((powS (1 + 1) [8,10,11,0,5,15,8,11,13,13,5,4,12,13,14,1,9,0,9,3,7,14,7,6,11,12,3,14,4,4,7,12,12,2,7,12,3,13,6,15,11,13,7,0,6,3,15,12,13,1,0,4,6,3,5,10,7,9,0,5,2,0,12,0,10,3,9,5,5,5,4,14,5,12,6,10,10,10,10,9,3,5,4,15,15,15,15,15,15,15,15,14,3,8,14]).val = 1) = false := by kernel_rfl
  intro e
  exact absurd (congrArg Fin.val e) (of_decide_eq_false h)
theorem hex_r : hexN [8,10,11,0,5,15,8,11,13,13,5,4,12,13,14,1,9,0,9,3,7,14,7,6,11,12,3,14,4,4,7,12,12,2,7,12,3,13,6,15,11,13,7,0,6,3,15,12,13,1,0,4,6,3,5,10,7,9,0,5,2,0,12,0,10,3,9,5,5,5,4,14,5,12,6,10,10,10,10,9,3,5,4,15,15,15,15,15,15,15,15,14,3,8,14] = (pN - 1) / 3 := by kernel_rfl
theorem xi_p1 : CR.pw (X := F2) xiE (pN + 1) = (1 + 1, 0) := by
  rw [CR.pwS]
  show mul2 (pow2 xiE pN) xiE = _
  rw [pow2_p]
  exact ext2 (by simp only [mul2, conj2, xiE]; grind) (by simp only [mul2, conj2, xiE]; grind)
theorem xi_ne : xiE ≠ zero2 := fun e => one_ne0 (congrArg (fun z : F2 => z.1) e)
theorem real_one {x : Fp} {r : Nat} (h : pow2 ((x, 0) : F2) r = one2) : fpow x r = 1 := by
  rw [pow2_real] at h
  exact (Prod.mk.inj h).1
theorem no_cube (c : F2) : CR.m (CR.m c c) c ≠ xiE := by
  intro h
  have hc : c ≠ zero2 := fun e => by
    rw [e] at h
    apply xi_ne
    rw [← h]
    show mul2 _ zero2 = zero2
    rw [mul2_zero]
  have h3 : CR.pw (X := F2) c 3 = xiE := by
    show CR.m (CR.m (CR.m CR.i c) c) c = xiE
    rw [CR.m1', h]
  have h4 := pw_pp1 hc
  rw [third, CR.pw_mul, h3, CR.pw_mul, xi_p1] at h4
  have h5 : pow2 ((1 + 1, 0) : F2) ((pN - 1) / 3) = one2 := h4
  have h6 := real_one h5
  rw [← hex_r, ← powS_eq] at h6
  exact two_r h6

abbrev sqr2 (a : F2) : F2 := mul2 a a
theorem mulV_eq (a b : F6) : mulVr add2 sub2 mul2 xi2 a b = m3 xiE a b := by
  unfold mulVr
  simp only [sub2_eq, xi2_mul']
  exact Prod.ext (CX.ring (envL [xiE, a.1, a.2.1, a.2.2, b.1, b.2.1, b.2.2]) (e := (.a (.t (.v 1) (.v 4)) (.t (.v 0) (.a (.a (.t (.a (.v 2) (.v 3)) (.a (.v 5) (.v 6))) (.m (.t (.v 2) (.v 5)))) (.m (.t (.v 3) (.v 6))))))) (f := (.a (.t (.v 1) (.v 4)) (.t (.v 0) (.a (.t (.v 2) (.v 6)) (.t (.v 3) (.v 5)))))) (by kernel_rfl)) (Prod.ext (CX.ring (envL [xiE, a.1, a.2.1, a.2.2, b.1, b.2.1, b.2.2]) (e := (.a (.a (.a (.t (.a (.v 1) (.v 2)) (.a (.v 4) (.v 5))) (.m (.t (.v 1) (.v 4)))) (.m (.t (.v 2) (.v 5)))) (.t (.v 0) (.t (.v 3) (.v 6))))) (f := (.a (.a (.t (.v 1) (.v 5)) (.t (.v 2) (.v 4))) (.t (.v 0) (.t (.v 3) (.v 6))))) (by kernel_rfl)) (CX.ring (envL [xiE, a.1, a.2.1, a.2.2, b.1, b.2.1, b.2.2]) (e := (.a (.a (.a (.t (.a (.v 1) (.v 3)) (.a (.v 4) (.v 6))) (.m (.t (.v 1) (.v 4)))) (.m (.t (.v 3) (.v 6)))) (.t (.v 2) (.v 5)))) (f := (.a (.a (.t (.v 1) (.v 6)) (.t (.v 2) (.v 5))) (.t (.v 3) (.v 4)))) (by kernel_rfl)))
theorem sqV_eq (a : F6) : sqVr add2 sub2 mul2 sqr2 xi2 a = m3 xiE a a := by
  unfold sqVr
  simp only [sub2_eq, xi2_mul']
  exact Prod.ext (CX.ring (envL [xiE, a.1, a.2.1, a.2.2]) (e := (.a (.t (.v 1) (.v 1)) (.t (.v 0) (.a (.t (.v 2) (.v 3)) (.t (.v 2) (.v 3)))))) (f := (.a (.t (.v 1) (.v 1)) (.t (.v 0) (.a (.t (.v 2) (.v 3)) (.t (.v 3) (.v 2)))))) (by kernel_rfl)) (Prod.ext (CX.ring (envL [xiE, a.1, a.2.1, a.2.2]) (e := (.a (.a (.t (.v 1) (.v 2)) (.t (.v 1) (.v 2))) (.t (.v 0) (.t (.v 3) (.v 3))))) (f := (.a (.a (.t (.v 1) (.v 2)) (.t (.v 2) (.v 1))) (.t (.v 0) (.t (.v 3) (.v 3))))) (by kernel_rfl)) (CX.ring (envL [xiE, a.1, a.2.1, a.2.2]) (e := (.a (.a (.a (.a (.t (.a (.a (.v 1) (.m (.v 2))) (.v 3)) (.a (.a (.v 1) (.m (.v 2))) (.v 3))) (.a (.t (.v 1) (.v 2)) (.t (.v 1) (.v 2)))) (.a (.t (.v 2) (.v 3)) (.t (.v 2) (.v 3)))) (.m (.t (.v 1) (.v 1)))) (.m (.t (.v 3) (.v 3))))) (f := (.a (.a (.t (.v 1) (.v 3)) (.t (.v 2) (.v 2))) (.t (.v 3) (.v 1)))) (by kernel_rfl)))
theorem vV_eq (a : F6) : vVr xi2 a = m3 xiE vE a := by
  unfold vVr
  simp only [xi2_mul']
  exact Prod.ext (CX.ring (envL [xiE, a.1, a.2.1, a.2.2]) (e := (.t (.v 0) (.v 3))) (f := (.a (.t .z (.v 1)) (.t (.v 0) (.a (.t .u (.v 3)) (.t .z (.v 2)))))) (by kernel_rfl)) (Prod.ext (CX.ring (envL [xiE, a.1, a.2.1, a.2.2]) (e := (.v 1)) (f := (.a (.a (.t .z (.v 2)) (.t .u (.v 1))) (.t (.v 0) (.t .z (.v 3))))) (by kernel_rfl)) (CX.ring (envL [xiE, a.1, a.2.1, a.2.2]) (e := (.v 2)) (f := (.a (.a (.t .z (.v 3)) (.t .u (.v 2))) (.t .z (.v 1)))) (by kernel_rfl)))
theorem scaleV_eq (a : F6) (c : F2) : scaleVr mul2 a c = m3 xiE a (c, zero2, zero2) := Prod.ext (CX.ring (envL [xiE, a.1, a.2.1, a.2.2, c]) (e := (.t (.v 1) (.v 4))) (f := (.a (.t (.v 1) (.v 4)) (.t (.v 0) (.a (.t (.v 2) .z) (.t (.v 3) .z))))) (by kernel_rfl)) (Prod.ext (CX.ring (envL [xiE, a.1, a.2.1, a.2.2, c]) (e := (.t (.v 2) (.v 4))) (f := (.a (.a (.t (.v 1) .z) (.t (.v 2) (.v 4))) (.t (.v 0) (.t (.v 3) .z)))) (by kernel_rfl)) (CX.ring (envL [xiE, a.1, a.2.1, a.2.2, c]) (e := (.t (.v 3) (.v 4))) (f := (.a (.a (.t (.v 1) .z) (.t (.v 2) .z)) (.t (.v 3) (.v 4)))) (by kernel_rfl)))
theorem subV_eq (a b : F6) : subV sub2 a b = CR.p a (CR.n b) := by
  unfold subV
  simp only [sub2_eq]; rfl
noncomputable def invV (a : F6) : F6 := invVr add2 sub2 mul2 sqr2 xi2 inv2 a
theorem fld6 : Fld F6 invV := by
  have h : invV = (fun q : F6 => (CR.m (CR.p (CR.m q.1 q.1) (CR.n (CR.m xiE (CR.m q.2.1 q.2.2)))) (inv2 (CR.p (CR.m q.1 (CR.p (CR.m q.1 q.1) (CR.n (CR.m xiE (CR.m q.2.1 q.2.2))))) (CR.m xiE (CR.p (CR.m q.2.2 (CR.p (CR.m xiE (CR.m q.2.2 q.2.2)) (CR.n (CR.m q.1 q.2.1)))) (CR.m q.2.1 (CR.p (CR.m q.2.1 q.2.1) (CR.n (CR.m q.1 q.2.2)))))))), CR.m (CR.p (CR.m xiE (CR.m q.2.2 q.2.2)) (CR.n (CR.m q.1 q.2.1))) (inv2 (CR.p (CR.m q.1 (CR.p (CR.m q.1 q.1) (CR.n (CR.m xiE (CR.m q.2.1 q.2.2))))) (CR.m xiE (CR.p (CR.m q.2.2 (CR.p (CR.m xiE (CR.m q.2.2 q.2.2)) (CR.n (CR.m q.1 q.2.1)))) (CR.m q.2.1 (CR.p (CR.m q.2.1 q.2.1) (CR.n (CR.m q.1 q.2.2)))))))), CR.m (CR.p (CR.m q.2.1 q.2.1) (CR.n (CR.m q.1 q.2.2))) (inv2 (CR.p (CR.m q.1 (CR.p (CR.m q.1 q.1) (CR.n (CR.m xiE (CR.m q.2.1 q.2.2))))) (CR.m xiE (CR.p (CR.m q.2.2 (CR.p (CR.m xiE (CR.m q.2.2 q.2.2)) (CR.n (CR.m q.1 q.2.1)))) (CR.m q.2.1 (CR.p (CR.m q.2.1 q.2.1) (CR.n (CR.m q.1 q.2.2)))))))))) := by
    funext q
    unfold invV invVr
    simp only [sub2_eq, xi2_mul']; rfl
  rw [h]
  exact Fld.cubF fld2 no_cube

theorem norm_sq2 {X : Type} [CR X] (s a b c x y z : X) (hx : x = (CR.p (CR.m a a) (CR.m s (CR.p (CR.m b c) (CR.m c b))))) (hy : y = (CR.p (CR.p (CR.m a b) (CR.m b a)) (CR.m s (CR.m c c)))) (hz : z = (CR.p (CR.p (CR.m a c) (CR.m b b)) (CR.m c a))) : (CR.p (CR.m x (CR.p (CR.m x x) (CR.n (CR.m s (CR.m y z))))) (CR.m s (CR.p (CR.m z (CR.p (CR.m s (CR.m z z)) (CR.n (CR.m x y)))) (CR.m y (CR.p (CR.m y y) (CR.n (CR.m x z))))))) = CR.m (CR.p (CR.m a (CR.p (CR.m a a) (CR.n (CR.m s (CR.m b c))))) (CR.m s (CR.p (CR.m c (CR.p (CR.m s (CR.m c c)) (CR.n (CR.m a b)))) (CR.m b (CR.p (CR.m b b) (CR.n (CR.m a c))))))) (CR.p (CR.m a (CR.p (CR.m a a) (CR.n (CR.m s (CR.m b c))))) (CR.m s (CR.p (CR.m c (CR.p (CR.m s (CR.m c c)) (CR.n (CR.m a b)))) (CR.m b (CR.p (CR.m b b) (CR.n (CR.m a c))))))) := by
  subst hx hy hz
  exact norm_sq s a b c
theorem norm_v {X : Type} [CR X] (s : X) : (CR.p (CR.m CR.o (CR.p (CR.m CR.o CR.o) (CR.n (CR.m s (CR.m CR.i CR.o))))) (CR.m s (CR.p (CR.m CR.o (CR.p (CR.m s (CR.m CR.o CR.o)) (CR.n (CR.m CR.o CR.i)))) (CR.m CR.i (CR.p (CR.m CR.i CR.i) (CR.n (CR.m CR.o CR.o))))))) = s :=
  CX.ring (envL [s]) (e := (.a (.t .z (.a (.t .z .z) (.m (.t (.v 0) (.t .u .z))))) (.t (.v 0) (.a (.t .z (.a (.t (.v 0) (.t .z .z)) (.m (.t .z .u)))) (.t .u (.a (.t .u .u) (.m (.t .z .z)))))))) (f := (.v 0)) (by kernel_rfl)
/-! ### v is no square -/
theorem two_half' : powS (1 + 1) PowK.half.digits ≠ 1 := by
  have h : decide ((powS (1 + 1) PowK.half.digits).val = 1) = false := by kernel_rfl
  intro e
  exact absurd (congrArg Fin.val e) (of_decide_eq_false h)
theorem no_square (c : F6) : CR.m c c ≠ vE := by
  intro h
  obtain ⟨a, b, c⟩ := c
  have h1 := norm_sq2 xiE a b c zero2 one2 zero2 (congrArg (fun q : F6 => q.1) h).symm (congrArg (fun q : F6 => q.2.1) h).symm (congrArg (fun q : F6 => q.2.2) h).symm
  have h2 := norm_v xiE
  have h3 := h2.symm.trans h1
  revert h3
  generalize (CR.p (CR.m a (CR.p (CR.m a a) (CR.n (CR.m xiE (CR.m b c))))) (CR.m xiE (CR.p (CR.m c (CR.p (CR.m xiE (CR.m c c)) (CR.n (CR.m a b)))) (CR.m b (CR.p (CR.m b b) (CR.n (CR.m a c))))))) = n
  intro h3
  have h4 : norm2 xiE = norm2 n * norm2 n := (congrArg norm2 h3).trans (norm2_mul n n)
  have h5 : (1 : Fp) + 1 = norm2 n * norm2 n := by
    rw [← h4]
    show (1 : Fp) + 1 = 1 * 1 + 1 * 1
    grind
  have h6 := two_half'
  rw [powS_eq, PowK.hex, h5, half_sq] at h6
  · exact h6 rfl
  · intro e
    rw [e] at h5
    have : (1 : Fp) + 1 = 0 := by rw [h5]; grind
    exact absurd (congrArg Fin.val this) (by decide)
noncomputable abbrev sqr6 (a : F6) : F6 := m3 xiE a a
theorem mulY_eq (a b : F12) : mulYr (addV add2) (subV sub2) (m3 xiE) (m3 xiE vE) a b = m2 vE a b := by
  unfold mulYr
  simp only [subV_eq]
  exact Prod.ext (CX.ring (envL [vE, a.1, a.2, b.1, b.2]) (e := (.a (.t (.v 1) (.v 3)) (.t (.v 0) (.t (.v 2) (.v 4))))) (f := (.a (.t (.v 1) (.v 3)) (.t (.v 0) (.t (.v 2) (.v 4))))) (by kernel_rfl)) (CX.ring (envL [vE, a.1, a.2, b.1, b.2]) (e := (.a (.a (.t (.a (.v 1) (.v 2)) (.a (.v 3) (.v 4))) (.m (.t (.v 1) (.v 3)))) (.m (.t (.v 2) (.v 4))))) (f := (.a (.t (.v 1) (.v 4)) (.t (.v 2) (.v 3)))) (by kernel_rfl))
theorem sqY_eq (a : F12) : sqYr (addV add2) (subV sub2) (m3 xiE) (m3 xiE vE) a = m2 vE a a := by
  unfold sqYr
  simp only [subV_eq]
  exact Prod.ext (CX.ring (envL [vE, a.1, a.2]) (e := (.a (.a (.t (.a (.v 1) (.v 2)) (.a (.v 1) (.t (.v 0) (.v 2)))) (.m (.t (.v 1) (.v 2)))) (.m (.t (.v 0) (.t (.v 1) (.v 2)))))) (f := (.a (.t (.v 1) (.v 1)) (.t (.v 0) (.t (.v 2) (.v 2))))) (by kernel_rfl)) (CX.ring (envL [vE, a.1, a.2]) (e := (.a (.t (.v 1) (.v 2)) (.t (.v 1) (.v 2)))) (f := (.a (.t (.v 1) (.v 2)) (.t (.v 2) (.v 1)))) (by kernel_rfl))
theorem subY_eq (a b : F12) : subY (subV sub2) a b = CR.p a (CR.n b) := by
  unfold subY
  simp only [subV_eq]; rfl
noncomputable def invY (a : F12) : F12 := invYr (subV sub2) (m3 xiE) (negV neg2) sqr6 (m3 xiE vE) invV a
theorem fld12 : Fld F12 invY := by
  have h : invY = (fun q : F12 => (CR.m q.1 (invV (CR.p (CR.m q.1 q.1) (CR.n (CR.m vE (CR.m q.2 q.2))))), CR.m (CR.n q.2) (invV (CR.p (CR.m q.1 q.1) (CR.n (CR.m vE (CR.m q.2 q.2))))))) := by
    funext q
    unfold invY invYr
    simp only [subV_eq]; rfl
  rw [h]
  exact Fld.quadF fld6 no_square

end Go.Proofs.Ytbdbmcdcjejffaa
