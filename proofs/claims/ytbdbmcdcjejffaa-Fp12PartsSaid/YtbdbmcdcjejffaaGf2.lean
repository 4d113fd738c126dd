/- The laws of fp6 and fp12. -/
import Derived.Test.YtbdbmcdcjejffaaGf1
set_option linter.unusedVariables false
set_option linter.unusedSimpArgs false
set_option linter.unusedSectionVars false
namespace Go.Proofs.Ytbdbmcdcjejffaa
open Go Go.Sh
theorem oneV_is : oneV = CR.i := rfl
theorem vE_ne : m3 xiE vE oneV ≠ zeroV := by
  have e : m3 xiE vE oneV = vE := CR.m1 (X := F6) vE
  rw [e]
  intro h
  exact one_ne0 (congrArg (fun z : F6 => z.2.1.1) h)
theorem fld6_zero {a : F6} (h : ¬ a = zeroV) : m3 xiE a (invV a) = oneV := fld6.inv a h
theorem fld12_one {a : F12} (h : ¬ a = (zeroV, zeroV)) : m2 vE a (invY a) = oneY := fld12.inv a h

theorem tblKnown6_ok : TblOK Try.prog (tblKnown6 oneV (m3 xiE vE) (m3 xiE) (fun a b => (fpOf a, fpOf b)) (fun a b => decide (a = b)) sqr6 invV (fun a b => (fpOf a, fpOf b)) (fun a b => decide (a = b))) :=
  .cons oneV_ok.row (.cons vV_ok.row (.cons mulV_ok.row (.cons small6_ok.row (.cons eqV_ok.row (.cons sqV_ok.row (.cons invV_ok.row (.cons rSmall2_ok.row (.cons same6_ok.row (.nil _)))))))))

theorem v_one : m3 xiE vE oneV = vE := CR.m1 (X := F6) vE
theorem small_one : ((fpOf 1, fpOf 0) : F2) = one2 := by rw [fpOf_one, fpOf_zero]; rfl
theorem small_xi : ((fpOf 1, fpOf 1) : F2) = xiE := by rw [fpOf_one]; rfl
theorem v_sq : m3 xiE vE vE = (zero2, zero2, one2) := Prod.ext (CX.ring (envL [xiE]) (e := (.a (.t .z .z) (.t (.v 0) (.a (.t .u .z) (.t .z .u))))) (f := .z) (by kernel_rfl)) (Prod.ext (CX.ring (envL [xiE]) (e := (.a (.a (.t .z .u) (.t .u .z)) (.t (.v 0) (.t .z .z)))) (f := .z) (by kernel_rfl)) (CX.ring (envL [xiE]) (e := (.a (.a (.t .z .z) (.t .u .u)) (.t .z .z))) (f := .u) (by kernel_rfl)))
theorem v_cube : m3 xiE (m3 xiE vE vE) vE = (xiE, zero2, zero2) := Prod.ext (CX.ring (envL [xiE]) (e := (.a (.t (.a (.t .z .z) (.t (.v 0) (.a (.t .u .z) (.t .z .u)))) .z) (.t (.v 0) (.a (.t (.a (.a (.t .z .u) (.t .u .z)) (.t (.v 0) (.t .z .z))) .z) (.t (.a (.a (.t .z .z) (.t .u .u)) (.t .z .z)) .u))))) (f := (.v 0)) (by kernel_rfl)) (Prod.ext (CX.ring (envL [xiE]) (e := (.a (.a (.t (.a (.t .z .z) (.t (.v 0) (.a (.t .u .z) (.t .z .u)))) .u) (.t (.a (.a (.t .z .u) (.t .u .z)) (.t (.v 0) (.t .z .z))) .z)) (.t (.v 0) (.t (.a (.a (.t .z .z) (.t .u .u)) (.t .z .z)) .z)))) (f := .z) (by kernel_rfl)) (CX.ring (envL [xiE]) (e := (.a (.a (.t (.a (.t .z .z) (.t (.v 0) (.a (.t .u .z) (.t .z .u)))) .z) (.t (.a (.a (.t .z .u) (.t .u .z)) (.t (.v 0) (.t .z .z))) .u)) (.t (.a (.a (.t .z .z) (.t .u .u)) (.t .z .z)) .z))) (f := .z) (by kernel_rfl)))
theorem known6_ok : Computes A Try.prog 66 (fun _ : Unit => true) := by
  refine known6_of oneV (m3 xiE vE) (m3 xiE) (fun a b => (fpOf a, fpOf b)) (fun a b => decide (a = b)) sqr6 invV (fun a b => (fpOf a, fpOf b)) (fun a b => decide (a = b)) tblKnown6_ok ⟨decide_eq_true rfl, decide_eq_true (fld6_zero vE_ne), decide_eq_true ?_, decide_eq_true ?_, trivial⟩
  · show m3 xiE (m3 xiE vE oneV) (m3 xiE vE oneV) = (zero2, zero2, (fpOf 1, fpOf 0))
    rw [v_one, small_one]; exact v_sq
  · show m3 xiE (m3 xiE (m3 xiE vE oneV) (m3 xiE vE oneV)) (m3 xiE vE oneV) = ((fpOf 1, fpOf 1), zero2, zero2)
    rw [v_one, small_xi]; exact v_cube

theorem tblFp6Laws_ok (k : Nat) : TblOK Try.prog (tblFp6Laws k (six3 (num2 wideF)) (addV add2) (fun a b => decide (a = b)) (m3 xiE) (subV sub2) oneV (fun a => decide (a = zeroV)) invV) :=
  .cons known6_ok.row (.cons (light6Row_ok k) (.cons six6_ok.row (.cons addV_ok.row (.cons eqV_ok.row (.cons mulV_ok.row (.cons subV_ok.row (.cons oneV_ok.row (.cons isZV_ok.row (.cons invV_ok.row (.nil _))))))))))

theorem sub_addV (a b : F6) : addV add2 (subV sub2 a b) b = a := by
  rw [subV_eq]
  show CR.p (CR.p a (CR.n b)) b = a
  rw [CR.pA, CR.pC (CR.n b), CR.pN, CR.p0]
theorem sub_addY (a b : F12) : addY (addV add2) (subY (subV sub2) a b) b = a := by
  rw [subY_eq]
  show CR.p (CR.p a (CR.n b)) b = a
  rw [CR.pA, CR.pC (CR.n b), CR.pN, CR.p0]
theorem laws6_ok : Computes A Try.prog 11 (fun _ : Bs × Bs × Bs × Unit => true) :=
  fp6Laws_of (six3 (num2 wideF)) (addV add2) (fun a b => decide (a = b)) (m3 xiE) (subV sub2) oneV (fun a => decide (a = zeroV)) invV tblFp6Laws_ok
    (fun a b c hz => ⟨decide_eq_true (CR.m1 (X := F6) a), decide_eq_true (sub_addV a b), decide_eq_true (CR.mD (X := F6) a b c), decide_eq_true (CR.mA (X := F6) a b c).symm, decide_eq_true (CR.pA (X := F6) a b c).symm, decide_eq_true (CR.mC (X := F6) a b), decide_eq_true (CR.pC (X := F6) a b), rfl, trivial⟩)
    (fun a b c hz => ⟨decide_eq_true (fld6_zero (of_decide_eq_false hz)), decide_eq_true (CR.m1 (X := F6) a), decide_eq_true (sub_addV a b), decide_eq_true (CR.mD (X := F6) a b c), decide_eq_true (CR.mA (X := F6) a b c).symm, decide_eq_true (CR.pA (X := F6) a b c).symm, decide_eq_true (CR.mC (X := F6) a b), decide_eq_true (CR.pC (X := F6) a b), rfl, trivial⟩)

theorem tblFp6Reckons_ok (k : Nat) : TblOK Try.prog (tblFp6Reckons k (six3 (num2 wideF)) (num2 wideF) toT6 (addV add2) (addT add2) (subV sub2) (negT neg2) (negV neg2) (m3 xiE) mulS sqr6 (scaleVr mul2) (fun a => a) (m3 xiE vE) one2 invV invT (fun a b => decide (a = b)) (fun a => decide (a = zeroV))) :=
  .cons known6_ok.row (.cons (light6Row_ok k) (.cons six6_ok.row (.cons num6_ok.row (.cons refs6_ok.row (.cons addV_ok.row (.cons addT_ok.row (.cons subV_ok.row (.cons negT_ok.row (.cons negV_ok.row (.cons mulV_ok.row (.cons mulT_ok.row (.cons sqV_ok.row (.cons scaleV_ok.row (.cons ref6_ok.row (.cons vV_ok.row (.cons rOne2_ok.row (.cons invV_ok.row (.cons invT_ok.row (.cons eqV_ok.row (.cons isZV_ok.row (.nil _)))))))))))))))))))))

theorem eqs {a b : T6} (h : a = b) : eqT a b = true := by rw [eqT_eq]; exact decide_eq_true h
theorem eqn {a b : T6} (h : ¬ a = b) : eqT a b = false := by rw [eqT_eq]; exact decide_eq_false h
theorem reckons6_ok : Computes A Try.prog 12 (fun _ : Bs × Bs × Bs × Unit => true) :=
  fp6Reckons_of (six3 (num2 wideF)) (num2 wideF) toT6 (addV add2) (addT add2) (subV sub2) (negT neg2) (negV neg2) (m3 xiE) mulS sqr6 (scaleVr mul2) (fun a => a) (m3 xiE vE) one2 invV invT (fun a b => decide (a = b)) (fun a => decide (a = zeroV)) tblFp6Reckons_ok
    (fun a b c he hz => ⟨decide_eq_true invV_zero, eqs (congrArg toT6 (of_decide_eq_true hz)), eqs (congrArg toT6 (of_decide_eq_true he)), eqs (invT6_eq a), eqs (vT6_eq a), eqs (scaleT6_eq a c), eqs (mulT6_eq a a), eqs (mulT6_eq a b), eqs (negT6_eq a), eqs (subT6_eq a b), eqs (addT6_eq a b), rfl, trivial⟩)
    (fun a b c he hz => ⟨decide_eq_true invV_zero, eqn (fun h => of_decide_eq_false hz (toT6_inj (b := zeroV) h)), eqs (congrArg toT6 (of_decide_eq_true he)), eqs (invT6_eq a), eqs (vT6_eq a), eqs (scaleT6_eq a c), eqs (mulT6_eq a a), eqs (mulT6_eq a b), eqs (negT6_eq a), eqs (subT6_eq a b), eqs (addT6_eq a b), rfl, trivial⟩)
    (fun a b c he hz => ⟨decide_eq_true invV_zero, eqs (congrArg toT6 (of_decide_eq_true hz)), eqn (fun h => of_decide_eq_false he (toT6_inj h)), eqs (invT6_eq a), eqs (vT6_eq a), eqs (scaleT6_eq a c), eqs (mulT6_eq a a), eqs (mulT6_eq a b), eqs (negT6_eq a), eqs (subT6_eq a b), eqs (addT6_eq a b), rfl, trivial⟩)
    (fun a b c he hz => ⟨decide_eq_true invV_zero, eqn (fun h => of_decide_eq_false hz (toT6_inj (b := zeroV) h)), eqn (fun h => of_decide_eq_false he (toT6_inj h)), eqs (invT6_eq a), eqs (vT6_eq a), eqs (scaleT6_eq a c), eqs (mulT6_eq a a), eqs (mulT6_eq a b), eqs (negT6_eq a), eqs (subT6_eq a b), eqs (addT6_eq a b), rfl, trivial⟩)

theorem tblKnown7_ok : TblOK Try.prog (tblKnown7 oneV sqr12 (m2 vE) (fun a b => (fpOf a, fpOf b)) (fun a b => decide (a = b)) invY oneY conjY (addY (addV add2)) (fun a => decide (a = (zeroV, zeroV))) (fun a b => (fpOf a, fpOf b)) (fun a b => decide (a = b))) :=
  .cons oneV_ok.row (.cons sqY_ok.row (.cons mulY_ok.row (.cons small7_ok.row (.cons eqY_ok.row (.cons invY_ok.row (.cons oneY_ok.row (.cons conjY_ok.row (.cons addY_ok.row (.cons isZY_ok.row (.cons rSmall2_ok.row (.cons same7_ok.row (.nil _))))))))))))

noncomputable def wE : F12 := (zeroV, oneV)
theorem wE_ne : ¬ ((zeroV, oneV) : F12) = (zeroV, zeroV) := fun h => one_ne0 (congrArg (fun z : F12 => z.2.1.1) h)
theorem w_sq : m2 vE (zeroV, oneV) (zeroV, oneV) = (vE, zeroV) := Prod.ext (CX.ring (envL [vE]) (e := (.a (.t .z .z) (.t (.v 0) (.t .u .u)))) (f := (.v 0)) (by kernel_rfl)) (CX.ring (envL [vE]) (e := (.a (.t .z .u) (.t .u .z))) (f := .z) (by kernel_rfl))
theorem v_three : m2 vE (m2 vE (vE, zeroV) (vE, zeroV)) (vE, zeroV) = (m3 xiE (m3 xiE vE vE) vE, zeroV) := Prod.ext (CX.ring (envL [vE]) (e := (.a (.t (.a (.t (.v 0) (.v 0)) (.t (.v 0) (.t .z .z))) (.v 0)) (.t (.v 0) (.t (.a (.t (.v 0) .z) (.t .z (.v 0))) .z)))) (f := (.t (.t (.v 0) (.v 0)) (.v 0))) (by kernel_rfl)) (CX.ring (envL [vE]) (e := (.a (.t (.a (.t (.v 0) (.v 0)) (.t (.v 0) (.t .z .z))) .z) (.t (.a (.t (.v 0) .z) (.t .z (.v 0))) (.v 0)))) (f := .z) (by kernel_rfl))
theorem known7_ok : Computes A Try.prog 90 (fun _ : Unit => true) := by
  refine known7_of oneV sqr12 (m2 vE) (fun a b => (fpOf a, fpOf b)) (fun a b => decide (a = b)) invY oneY conjY (addY (addV add2)) (fun a => decide (a = (zeroV, zeroV))) (fun a b => (fpOf a, fpOf b)) (fun a b => decide (a = b)) tblKnown7_ok ⟨decide_eq_true rfl, decide_eq_true ?_, decide_eq_true (fld12_one wE_ne), decide_eq_true ?_, trivial⟩
  · show CR.p (conjY wE) wE = CR.o
    exact Prod.ext (CR.p0 (X := F6) _) ((CR.pC (X := F6) _ _).trans (CR.pN (X := F6) _))
  · show m2 vE (m2 vE (m2 vE (zeroV, oneV) (zeroV, oneV)) (m2 vE (zeroV, oneV) (zeroV, oneV))) (m2 vE (zeroV, oneV) (zeroV, oneV)) = (((fpOf 1, fpOf 1), zero2, zero2), zeroV)
    rw [w_sq, v_three, v_cube, small_xi]

theorem tblFp12Laws_ok (k : Nat) : TblOK Try.prog (tblFp12Laws k (twelve2 (six3 (num2 wideF))) (m2 vE) (fun a b => decide (a = b)) (addY (addV add2)) (subY (subV sub2)) oneY (fun a => decide (a = (zeroV, zeroV))) invY) :=
  .cons known7_ok.row (.cons (light7Row_ok k) (.cons twelve_ok.row (.cons mulY_ok.row (.cons eqY_ok.row (.cons addY_ok.row (.cons subY_ok.row (.cons oneY_ok.row (.cons isZY_ok.row (.cons invY_ok.row (.nil _))))))))))

theorem laws7_ok : Computes A Try.prog 15 (fun _ : Bs × Bs × Bs × Unit => true) :=
  fp12Laws_of (twelve2 (six3 (num2 wideF))) (m2 vE) (fun a b => decide (a = b)) (addY (addV add2)) (subY (subV sub2)) oneY (fun a => decide (a = (zeroV, zeroV))) invY tblFp12Laws_ok
    (fun a b c hz => ⟨decide_eq_true (CR.m1 (X := F12) a), decide_eq_true (sub_addY a b), decide_eq_true (CR.mD (X := F12) a b c), decide_eq_true (CR.mA (X := F12) a b c).symm, decide_eq_true (CR.pA (X := F12) a b c).symm, decide_eq_true (CR.mC (X := F12) a b), rfl, trivial⟩)
    (fun a b c hz => ⟨decide_eq_true (fld12_one (of_decide_eq_false hz)), decide_eq_true (CR.m1 (X := F12) a), decide_eq_true (sub_addY a b), decide_eq_true (CR.mD (X := F12) a b c), decide_eq_true (CR.mA (X := F12) a b c).symm, decide_eq_true (CR.pA (X := F12) a b c).symm, decide_eq_true (CR.mC (X := F12) a b), rfl, trivial⟩)

theorem tblFp12Norms_ok (k : Nat) : TblOK Try.prog (tblFp12Norms k (twelve2 (six3 (num2 wideF))) conjY (m2 vE) (fun a => decide (a = zeroV)) (fun a b => decide (a = b)) (fun a => decide (a = (zeroV, zeroV))) invY oneY) :=
  .cons known7_ok.row (.cons (light7Row_ok k) (.cons twelve_ok.row (.cons conjY_ok.row (.cons mulY_ok.row (.cons isZV_ok.row (.cons eqY_ok.row (.cons isZY_ok.row (.cons invY_ok.row (.cons oneY_ok.row (.nil _))))))))))

theorem conjY_mul (a b : F12) : conjY (m2 vE a b) = m2 vE (conjY a) (conjY b) := Prod.ext (CX.ring (envL [vE, a.1, a.2, b.1, b.2]) (e := (.a (.t (.v 1) (.v 3)) (.t (.v 0) (.t (.v 2) (.v 4))))) (f := (.a (.t (.v 1) (.v 3)) (.t (.v 0) (.t (.m (.v 2)) (.m (.v 4)))))) (by kernel_rfl)) (CX.ring (envL [vE, a.1, a.2, b.1, b.2]) (e := (.m (.a (.t (.v 1) (.v 4)) (.t (.v 2) (.v 3))))) (f := (.a (.t (.v 1) (.m (.v 4))) (.t (.m (.v 2)) (.v 3)))) (by kernel_rfl))
theorem conjY_conj (a : F12) : conjY (conjY a) = a := Prod.ext rfl (CR.nn (X := F6) a.2)
theorem conjY_norm (a : F12) : (m2 vE a (conjY a)).2 = zeroV := by rw [conj_norm]
theorem conjY_zero : conjY (zeroV, zeroV) = (zeroV, zeroV) := Prod.ext rfl (CR.n0 (X := F6))
theorem conjY_ne {a : F12} (h : ¬ a = (zeroV, zeroV)) : ¬ conjY a = (zeroV, zeroV) := fun e => h (by rw [← conjY_conj a, e, conjY_zero])
theorem conjY_one : conjY oneY = oneY := Prod.ext rfl (CR.n0 (X := F6))
/-- The inverse is the only one. -/
theorem invY_of_mul {a b : F12} (h : m2 vE a b = oneY) : invY a = b := by
  have ha : ¬ a = (zeroV, zeroV) := fun e => by
    rw [e] at h
    have h2 : m2 vE (zeroV, zeroV) b = (CR.o : F12) := CR.m0' (X := F12) b
    rw [h2] at h
    exact one_ne0 (congrArg (fun z : F12 => z.1.1.1) h).symm
  exact fld12.cancel ha ((fld12_one ha).trans h.symm)
theorem unit12 {a : F12} (h : ¬ a = (zeroV, zeroV)) : m2 vE (conjY (m2 vE a (invY (conjY a)))) (m2 vE a (invY (conjY a))) = oneY := by
  have hc := fld12_one (conjY_ne h)
  have hc2 : m2 vE a (conjY (invY (conjY a))) = oneY := by
    have := congrArg conjY hc
    rw [conjY_mul, conjY_conj, conjY_one] at this
    exact this
  rw [conjY_mul]
  show CR.m (CR.m (conjY a) (conjY (invY (conjY a)))) (CR.m a (invY (conjY a))) = CR.i
  have e : ∀ x y z t : F12, CR.m (CR.m x y) (CR.m z t) = CR.m (CR.m x t) (CR.m z y) := fun x y z t => by
    rw [CR.mA, CR.mA, CR.mC z t, CR.mL y t z, CR.mC y z]
  rw [e]
  have h1 : CR.m (conjY a) (invY (conjY a)) = (CR.i : F12) := hc
  have h2 : CR.m a (conjY (invY (conjY a))) = (CR.i : F12) := hc2
  rw [h1, h2, CR.m1]
theorem norm_zero {a : F12} (h : a = (zeroV, zeroV)) : m2 vE a (conjY a) = (zeroV, zeroV) := by
  rw [h]
  exact CR.m0' (X := F12) _
theorem norms7_ok : Computes A Try.prog 14 (fun _ : Bs × Bs × Unit => true) :=
  fp12Norms_of (twelve2 (six3 (num2 wideF))) conjY (m2 vE) (fun a => decide (a = zeroV)) (fun a b => decide (a = b)) (fun a => decide (a = (zeroV, zeroV))) invY oneY tblFp12Norms_ok
    (fun a b hz => ⟨decide_eq_true (norm_zero (of_decide_eq_true hz)), decide_eq_true (conjY_conj a), decide_eq_true (conjY_mul a b), decide_eq_true (conjY_norm a), rfl, trivial⟩)
    (fun a b hz => ⟨decide_eq_true (invY_of_mul ((CR.mC (X := F12) _ _).trans (unit12 (of_decide_eq_false hz)))).symm, decide_eq_true (unit12 (of_decide_eq_false hz)), decide_eq_true (conjY_conj a), decide_eq_true (conjY_mul a b), decide_eq_true (conjY_norm a), rfl, trivial⟩)

end Go.Proofs.Ytbdbmcdcjejffaa
