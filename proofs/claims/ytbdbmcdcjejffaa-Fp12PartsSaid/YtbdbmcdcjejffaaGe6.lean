/- Fp6, fp12 and the reference's six parts: the contracts. -/
import Derived.Test.YtbdbmcdcjejffaaGe5
import Derived.Test.YtbdbmcdcjejffaaGb1
set_option linter.unusedVariables false
set_option linter.unusedSimpArgs false
set_option linter.unusedSectionVars false
namespace Go.Proofs.Ytbdbmcdcjejffaa
open Go Go.Sh

theorem tblV6_ok : TblOK Try.prog (tblV6 add2 sub2 mul2 neg2 sqr2 xi2 inv2 one2) :=
  .cons add2_ok.row (.cons sub2_ok.row (.cons mul2_ok.row (.cons neg2_ok.row (.cons sq2_ok.row (.cons xi2_ok.row (.cons inv2_ok.row (.cons one2_ok.row (.nil _))))))))
theorem tblT6_ok : TblOK Try.prog (tblT6 add2 sub2 mul2 neg2 xi2 inv2 one2) :=
  .cons rAdd2_ok.row (.cons rSub2_ok.row (.cons rMul2_ok.row (.cons rNeg2_ok.row (.cons rXi2_ok.row (.cons rInv2_ok.row (.cons rOne2_ok.row (.nil _)))))))
noncomputable def oneV : F6 := oneVr one2
theorem addV_ok : Computes A Try.prog 69 (fun x : F6 × F6 × Unit => addV add2 x.1 x.2.1) := addV_of add2 sub2 mul2 neg2 sqr2 xi2 inv2 one2 tblV6_ok
theorem subV_ok : Computes A Try.prog 72 (fun x : F6 × F6 × Unit => subV sub2 x.1 x.2.1) := subV_of add2 sub2 mul2 neg2 sqr2 xi2 inv2 one2 tblV6_ok
theorem negV_ok : Computes A Try.prog 80 (fun x : F6 × Unit => negV neg2 x.1) := negV_of add2 sub2 mul2 neg2 sqr2 xi2 inv2 one2 tblV6_ok
theorem mulV_ok : Computes A Try.prog 71 (fun x : F6 × F6 × Unit => m3 xiE x.1 x.2.1) := Computes.eq (mulV_of add2 sub2 mul2 neg2 sqr2 xi2 inv2 one2 tblV6_ok) (fun x => mulV_eq x.1 x.2.1)
theorem sqV_ok : Computes A Try.prog 82 (fun x : F6 × Unit => sqr6 x.1) := Computes.eq (sqV_of add2 sub2 mul2 neg2 sqr2 xi2 inv2 one2 tblV6_ok) (fun x => sqV_eq x.1)
theorem scaleV_ok : Computes A Try.prog 83 (fun x : F6 × F2 × Unit => scaleVr mul2 x.1 x.2.1) := scaleV_of add2 sub2 mul2 neg2 sqr2 xi2 inv2 one2 tblV6_ok
theorem vV_ok : Computes A Try.prog 85 (fun x : F6 × Unit => m3 xiE vE x.1) := Computes.eq (vV_of add2 sub2 mul2 neg2 sqr2 xi2 inv2 one2 tblV6_ok) (fun x => vV_eq x.1)
theorem oneV_ok : Computes A Try.prog 73 (fun _ : Unit => oneV) := oneV_of add2 sub2 mul2 neg2 sqr2 xi2 inv2 one2 tblV6_ok
theorem invV_ok : Computes A Try.prog 75 (fun x : F6 × Unit => invV x.1) := invV_of add2 sub2 mul2 neg2 sqr2 xi2 inv2 one2 (.cons scaleV_ok.row tblV6_ok)
theorem eqV_ok : Computes A Try.prog 70 (fun x : F6 × F6 × Unit => decide (x.1 = x.2.1)) :=
  Computes.eq (eqV_of (fun a b => decide (a = b)) (.cons eq2_ok.row (.nil _))) (fun x => by
    obtain ⟨⟨a1, a2, a3⟩, ⟨b1, b2, b3⟩, ⟨⟩⟩ := x
    simp only [Prod.mk.injEq, Bool.decide_and, Bool.and_assoc])
theorem isZV_ok : Computes A Try.prog 74 (fun x : F6 × Unit => decide (x.1 = zeroV)) :=
  Computes.eq (isZV_of (fun a => decide (a = zero2)) isZ2_ok) (fun x => by
    obtain ⟨⟨a1, a2, a3⟩, ⟨⟩⟩ := x
    show _ = decide ((a1, a2, a3) = (zero2, zero2, zero2))
    simp only [Prod.mk.injEq, Bool.decide_and, Bool.and_assoc])
theorem dec_pair {X Y : Type} [DecidableEq X] [DecidableEq Y] (a1 b1 : X) (a2 b2 : Y) : (decide (a1 = b1) && decide (a2 = b2)) = decide ((a1, a2) = (b1, b2)) := by
  by_cases h1 : a1 = b1 <;> by_cases h2 : a2 = b2 <;> simp [h1, h2]
theorem tblV12_ok : TblOK Try.prog (tblV12 (addV add2) (subV sub2) (m3 xiE) (negV neg2) sqr6 (m3 xiE vE) invV oneV) :=
  .cons addV_ok.row (.cons subV_ok.row (.cons mulV_ok.row (.cons negV_ok.row (.cons sqV_ok.row (.cons vV_ok.row (.cons invV_ok.row (.cons oneV_ok.row (.nil _))))))))
noncomputable abbrev sqr12 (a : F12) : F12 := m2 vE a a
noncomputable def oneY : F12 := oneYr oneV
abbrev conjY (a : F12) : F12 := conjYr (negV neg2) a
theorem addY_ok : Computes A Try.prog 99 (fun x : F12 × F12 × Unit => addY (addV add2) x.1 x.2.1) := addY_of (addV add2) (subV sub2) (m3 xiE) (negV neg2) sqr6 (m3 xiE vE) invV oneV tblV12_ok
theorem subY_ok : Computes A Try.prog 100 (fun x : F12 × F12 × Unit => subY (subV sub2) x.1 x.2.1) := subY_of (addV add2) (subV sub2) (m3 xiE) (negV neg2) sqr6 (m3 xiE vE) invV oneV tblV12_ok
theorem mulY_ok : Computes A Try.prog 93 (fun x : F12 × F12 × Unit => m2 vE x.1 x.2.1) := Computes.eq (mulY_of (addV add2) (subV sub2) (m3 xiE) (negV neg2) sqr6 (m3 xiE vE) invV oneV tblV12_ok) (fun x => mulY_eq x.1 x.2.1)
theorem sqY_ok : Computes A Try.prog 141 (fun x : F12 × Unit => sqr12 x.1) := Computes.eq (sqY_of (addV add2) (subV sub2) (m3 xiE) (negV neg2) sqr6 (m3 xiE vE) invV oneV tblV12_ok) (fun x => sqY_eq x.1)
theorem conjY_ok : Computes A Try.prog 94 (fun x : F12 × Unit => conjY x.1) := conjY_of (addV add2) (subV sub2) (m3 xiE) (negV neg2) sqr6 (m3 xiE vE) invV oneV tblV12_ok
theorem invY_ok : Computes A Try.prog 97 (fun x : F12 × Unit => invY x.1) := invY_of (addV add2) (subV sub2) (m3 xiE) (negV neg2) sqr6 (m3 xiE vE) invV oneV tblV12_ok
theorem oneY_ok : Computes A Try.prog 98 (fun _ : Unit => oneY) := oneY_of (addV add2) (subV sub2) (m3 xiE) (negV neg2) sqr6 (m3 xiE vE) invV oneV tblV12_ok
theorem eqY_ok : Computes A Try.prog 95 (fun x : F12 × F12 × Unit => decide (x.1 = x.2.1)) :=
  Computes.eq (eqY_of (fun a b => decide (a = b)) (.cons eqV_ok.row (.nil _))) (fun x => by
    obtain ⟨⟨a1, a2⟩, ⟨b1, b2⟩, ⟨⟩⟩ := x
    exact dec_pair a1 b1 a2 b2)
theorem isZY_ok : Computes A Try.prog 96 (fun x : F12 × Unit => decide (x.1 = (zeroV, zeroV))) :=
  Computes.eq (isZY_of (fun a => decide (a = zeroV)) (.cons isZV_ok.row (.nil _))) (fun x => by
    obtain ⟨⟨a1, a2⟩, ⟨⟩⟩ := x
    exact dec_pair a1 zeroV a2 zeroV)

/-! ### The reference -/
abbrev mulS (a b : T6) : T6 := mulTr add2 mul2 xi2 a b
abbrev conjT (a : T6) : T6 := conjTr neg2 a
noncomputable abbrev invT (a : T6) : T6 := mulS (conjT a) (evenInv add2 sub2 mul2 xi2 inv2 (mulS a (conjT a)))
theorem addT_ok : Computes A Try.prog 78 (fun x : T6 × T6 × Unit => addT add2 x.1 x.2.1) := addT_of add2 sub2 mul2 neg2 sqr2 xi2 inv2 one2 tblT6_ok
theorem negT_ok : Computes A Try.prog 79 (fun x : T6 × Unit => negT neg2 x.1) := negT_of add2 sub2 mul2 neg2 sqr2 xi2 inv2 one2 tblT6_ok
theorem mulT_ok : Computes A Try.prog 81 (fun x : T6 × T6 × Unit => mulS x.1 x.2.1) := mulT_of add2 sub2 mul2 neg2 sqr2 xi2 inv2 one2 tblT6_ok
theorem conjT_ok : Computes A Try.prog 171 (fun x : T6 × Unit => conjT x.1) := conjT_of add2 sub2 mul2 neg2 sqr2 xi2 inv2 one2 tblT6_ok
theorem oneT_ok : Computes A Try.prog 182 (fun _ : Unit => oneTr one2) := oneT_of add2 sub2 mul2 neg2 sqr2 xi2 inv2 one2 tblT6_ok
theorem invT_ok : Computes A Try.prog 87 (fun x : T6 × Unit => invT x.1) :=
  invT_of add2 sub2 mul2 neg2 sqr2 xi2 inv2 one2 mulS conjT (.cons mulT_ok.row (.cons conjT_ok.row (.cons (rowIn_ok tblT6_ok (ITblOK.nil _) _ 8 Try.func172 (by kernel_rfl) (by kernel_rfl)) (.nil _))))

/-! ### Six parts held against one another -/
def w72 (a : T6) : List UInt64 := w6 (limbs a.1.1) ++ (w6 (limbs a.1.2) ++ (w6 (limbs a.2.1.1) ++ (w6 (limbs a.2.1.2) ++ (w6 (limbs a.2.2.1.1) ++ (w6 (limbs a.2.2.1.2) ++ (w6 (limbs a.2.2.2.1.1) ++ (w6 (limbs a.2.2.2.1.2) ++ (w6 (limbs a.2.2.2.2.1.1) ++ (w6 (limbs a.2.2.2.2.1.2) ++ (w6 (limbs a.2.2.2.2.2.1) ++ (w6 (limbs a.2.2.2.2.2.2) ++ [])))))))))))
def eqT (a b : T6) : Bool := eqW (w72 a) (w72 b)
theorem w72_inj {a b : T6} : w72 a = w72 b ↔ a = b := by
  obtain ⟨⟨a0, a1⟩, ⟨a2, a3⟩, ⟨a4, a5⟩, ⟨a6, a7⟩, ⟨a8, a9⟩, ⟨a10, a11⟩⟩ := a
  obtain ⟨⟨b0, b1⟩, ⟨b2, b3⟩, ⟨b4, b5⟩, ⟨b6, b7⟩, ⟨b8, b9⟩, ⟨b10, b11⟩⟩ := b
  unfold w72
  simp only [w6_app, Prod.mk.injEq, and_assoc, and_true]
theorem w72_len (a : T6) : (w72 a).length = 72 := by
  unfold w72
  simp only [List.length_append, w6_len, List.length_nil]
theorem eqT_eq (a b : T6) : eqT a b = decide (a = b) := by
  unfold eqT
  rw [eqW_eq (w72 a) (w72 b) (by rw [w72_len, w72_len])]
  simp only [w72_inj]

/-! ### What is theirs -/
def toT (a : F12) : T6 := (a.1.1, a.2.1, a.1.2.1, a.2.2.1, a.1.2.2, a.2.2.2)
def toT6 (a : F6) : T6 := (a.1, zero2, a.2.1, zero2, a.2.2, zero2)
theorem toT_inj {a b : F12} (h : toT a = toT b) : a = b := by
  obtain ⟨⟨a1, a2, a3⟩, ⟨a4, a5, a6⟩⟩ := a
  obtain ⟨⟨b1, b2, b3⟩, ⟨b4, b5, b6⟩⟩ := b
  simp only [toT, Prod.mk.injEq] at h
  obtain ⟨rfl, rfl, rfl, rfl, rfl, rfl⟩ := h
  rfl
theorem toT6_inj {a b : F6} (h : toT6 a = toT6 b) : a = b := by
  obtain ⟨a1, a2, a3⟩ := a
  obtain ⟨b1, b2, b3⟩ := b
  simp only [toT6, Prod.mk.injEq] at h
  obtain ⟨rfl, -, rfl, -, rfl, -⟩ := h
  rfl
theorem ext6 {a b : T6} (h0 : a.1 = b.1) (h1 : a.2.1 = b.2.1) (h2 : a.2.2.1 = b.2.2.1) (h3 : a.2.2.2.1 = b.2.2.2.1) (h4 : a.2.2.2.2.1 = b.2.2.2.2.1) (h5 : a.2.2.2.2.2 = b.2.2.2.2.2) : a = b :=
  Prod.ext h0 (Prod.ext h1 (Prod.ext h2 (Prod.ext h3 (Prod.ext h4 h5))))

theorem mulT6_eq (a b : F6) : toT6 (m3 xiE a b) = mulS (toT6 a) (toT6 b) := by
  refine ext6 ?_ ?_ ?_ ?_ ?_ ?_
  · simp only [mulTr, xi2_mul']
    exact CX.ring (envL [xiE, a.1, a.2.1, a.2.2, b.1, b.2.1, b.2.2]) (e := (.a (.t (.v 1) (.v 4)) (.t (.v 0) (.a (.t (.v 2) (.v 6)) (.t (.v 3) (.v 5)))))) (f := (.a (.a .z (.t (.v 1) (.v 4))) (.t (.v 0) (.a (.a (.a (.a (.a .z (.t .z .z)) (.t (.v 2) (.v 6))) (.t .z .z)) (.t (.v 3) (.v 5))) (.t .z .z))))) (by kernel_rfl)
  · simp only [mulTr, xi2_mul']
    exact CX.ring (envL [xiE, a.1, a.2.1, a.2.2, b.1, b.2.1, b.2.2]) (e := .z) (f := (.a (.a (.a .z (.t (.v 1) .z)) (.t .z (.v 4))) (.t (.v 0) (.a (.a (.a (.a .z (.t (.v 2) .z)) (.t .z (.v 6))) (.t (.v 3) .z)) (.t .z (.v 5)))))) (by kernel_rfl)
  · simp only [mulTr, xi2_mul']
    exact CX.ring (envL [xiE, a.1, a.2.1, a.2.2, b.1, b.2.1, b.2.2]) (e := (.a (.a (.t (.v 1) (.v 5)) (.t (.v 2) (.v 4))) (.t (.v 0) (.t (.v 3) (.v 6))))) (f := (.a (.a (.a (.a .z (.t (.v 1) (.v 5))) (.t .z .z)) (.t (.v 2) (.v 4))) (.t (.v 0) (.a (.a (.a .z (.t .z .z)) (.t (.v 3) (.v 6))) (.t .z .z))))) (by kernel_rfl)
  · simp only [mulTr, xi2_mul']
    exact CX.ring (envL [xiE, a.1, a.2.1, a.2.2, b.1, b.2.1, b.2.2]) (e := .z) (f := (.a (.a (.a (.a (.a .z (.t (.v 1) .z)) (.t .z (.v 5))) (.t (.v 2) .z)) (.t .z (.v 4))) (.t (.v 0) (.a (.a .z (.t (.v 3) .z)) (.t .z (.v 6)))))) (by kernel_rfl)
  · simp only [mulTr, xi2_mul']
    exact CX.ring (envL [xiE, a.1, a.2.1, a.2.2, b.1, b.2.1, b.2.2]) (e := (.a (.a (.t (.v 1) (.v 6)) (.t (.v 2) (.v 5))) (.t (.v 3) (.v 4)))) (f := (.a (.a (.a (.a (.a (.a .z (.t (.v 1) (.v 6))) (.t .z .z)) (.t (.v 2) (.v 5))) (.t .z .z)) (.t (.v 3) (.v 4))) (.t (.v 0) (.a .z (.t .z .z))))) (by kernel_rfl)
  · simp only [mulTr, xi2_mul']
    exact CX.ring (envL [xiE, a.1, a.2.1, a.2.2, b.1, b.2.1, b.2.2]) (e := .z) (f := (.a (.a (.a (.a (.a (.a .z (.t (.v 1) .z)) (.t .z (.v 6))) (.t (.v 2) .z)) (.t .z (.v 5))) (.t (.v 3) .z)) (.t .z (.v 4)))) (by kernel_rfl)
theorem scaleT6_eq (a : F6) (c : F2) : toT6 (scaleVr mul2 a c) = mulS (toT6 a) (c, zero2, zero2, zero2, zero2, zero2) := by
  refine ext6 ?_ ?_ ?_ ?_ ?_ ?_
  · simp only [mulTr, xi2_mul']
    exact CX.ring (envL [xiE, a.1, a.2.1, a.2.2, c]) (e := (.t (.v 1) (.v 4))) (f := (.a (.a .z (.t (.v 1) (.v 4))) (.t (.v 0) (.a (.a (.a (.a (.a .z (.t .z .z)) (.t (.v 2) .z)) (.t .z .z)) (.t (.v 3) .z)) (.t .z .z))))) (by kernel_rfl)
  · simp only [mulTr, xi2_mul']
    exact CX.ring (envL [xiE, a.1, a.2.1, a.2.2, c]) (e := .z) (f := (.a (.a (.a .z (.t (.v 1) .z)) (.t .z (.v 4))) (.t (.v 0) (.a (.a (.a (.a .z (.t (.v 2) .z)) (.t .z .z)) (.t (.v 3) .z)) (.t .z .z))))) (by kernel_rfl)
  · simp only [mulTr, xi2_mul']
    exact CX.ring (envL [xiE, a.1, a.2.1, a.2.2, c]) (e := (.t (.v 2) (.v 4))) (f := (.a (.a (.a (.a .z (.t (.v 1) .z)) (.t .z .z)) (.t (.v 2) (.v 4))) (.t (.v 0) (.a (.a (.a .z (.t .z .z)) (.t (.v 3) .z)) (.t .z .z))))) (by kernel_rfl)
  · simp only [mulTr, xi2_mul']
    exact CX.ring (envL [xiE, a.1, a.2.1, a.2.2, c]) (e := .z) (f := (.a (.a (.a (.a (.a .z (.t (.v 1) .z)) (.t .z .z)) (.t (.v 2) .z)) (.t .z (.v 4))) (.t (.v 0) (.a (.a .z (.t (.v 3) .z)) (.t .z .z))))) (by kernel_rfl)
  · simp only [mulTr, xi2_mul']
    exact CX.ring (envL [xiE, a.1, a.2.1, a.2.2, c]) (e := (.t (.v 3) (.v 4))) (f := (.a (.a (.a (.a (.a (.a .z (.t (.v 1) .z)) (.t .z .z)) (.t (.v 2) .z)) (.t .z .z)) (.t (.v 3) (.v 4))) (.t (.v 0) (.a .z (.t .z .z))))) (by kernel_rfl)
  · simp only [mulTr, xi2_mul']
    exact CX.ring (envL [xiE, a.1, a.2.1, a.2.2, c]) (e := .z) (f := (.a (.a (.a (.a (.a (.a .z (.t (.v 1) .z)) (.t .z .z)) (.t (.v 2) .z)) (.t .z .z)) (.t (.v 3) .z)) (.t .z (.v 4)))) (by kernel_rfl)
theorem vT6_eq (a : F6) : toT6 (m3 xiE vE a) = mulS (toT6 a) (zero2, zero2, one2, zero2, zero2, zero2) := by
  refine ext6 ?_ ?_ ?_ ?_ ?_ ?_
  · simp only [mulTr, xi2_mul']
    exact CX.ring (envL [xiE, a.1, a.2.1, a.2.2]) (e := (.a (.t .z (.v 1)) (.t (.v 0) (.a (.t .u (.v 3)) (.t .z (.v 2)))))) (f := (.a (.a .z (.t (.v 1) .z)) (.t (.v 0) (.a (.a (.a (.a (.a .z (.t .z .z)) (.t (.v 2) .z)) (.t .z .z)) (.t (.v 3) .u)) (.t .z .z))))) (by kernel_rfl)
  · simp only [mulTr, xi2_mul']
    exact CX.ring (envL [xiE, a.1, a.2.1, a.2.2]) (e := .z) (f := (.a (.a (.a .z (.t (.v 1) .z)) (.t .z .z)) (.t (.v 0) (.a (.a (.a (.a .z (.t (.v 2) .z)) (.t .z .z)) (.t (.v 3) .z)) (.t .z .u))))) (by kernel_rfl)
  · simp only [mulTr, xi2_mul']
    exact CX.ring (envL [xiE, a.1, a.2.1, a.2.2]) (e := (.a (.a (.t .z (.v 2)) (.t .u (.v 1))) (.t (.v 0) (.t .z (.v 3))))) (f := (.a (.a (.a (.a .z (.t (.v 1) .u)) (.t .z .z)) (.t (.v 2) .z)) (.t (.v 0) (.a (.a (.a .z (.t .z .z)) (.t (.v 3) .z)) (.t .z .z))))) (by kernel_rfl)
  · simp only [mulTr, xi2_mul']
    exact CX.ring (envL [xiE, a.1, a.2.1, a.2.2]) (e := .z) (f := (.a (.a (.a (.a (.a .z (.t (.v 1) .z)) (.t .z .u)) (.t (.v 2) .z)) (.t .z .z)) (.t (.v 0) (.a (.a .z (.t (.v 3) .z)) (.t .z .z))))) (by kernel_rfl)
  · simp only [mulTr, xi2_mul']
    exact CX.ring (envL [xiE, a.1, a.2.1, a.2.2]) (e := (.a (.a (.t .z (.v 3)) (.t .u (.v 2))) (.t .z (.v 1)))) (f := (.a (.a (.a (.a (.a (.a .z (.t (.v 1) .z)) (.t .z .z)) (.t (.v 2) .u)) (.t .z .z)) (.t (.v 3) .z)) (.t (.v 0) (.a .z (.t .z .z))))) (by kernel_rfl)
  · simp only [mulTr, xi2_mul']
    exact CX.ring (envL [xiE, a.1, a.2.1, a.2.2]) (e := .z) (f := (.a (.a (.a (.a (.a (.a .z (.t (.v 1) .z)) (.t .z .z)) (.t (.v 2) .z)) (.t .z .u)) (.t (.v 3) .z)) (.t .z .z))) (by kernel_rfl)
theorem negT6_eq (a : F6) : toT6 (negV neg2 a) = negT neg2 (toT6 a) := by
  refine ext6 ?_ ?_ ?_ ?_ ?_ ?_
  · skip
    exact CX.ring (envL [xiE, a.1, a.2.1, a.2.2]) (e := (.m (.v 1))) (f := (.m (.v 1))) (by kernel_rfl)
  · skip
    exact CX.ring (envL [xiE, a.1, a.2.1, a.2.2]) (e := .z) (f := (.m .z)) (by kernel_rfl)
  · skip
    exact CX.ring (envL [xiE, a.1, a.2.1, a.2.2]) (e := (.m (.v 2))) (f := (.m (.v 2))) (by kernel_rfl)
  · skip
    exact CX.ring (envL [xiE, a.1, a.2.1, a.2.2]) (e := .z) (f := (.m .z)) (by kernel_rfl)
  · skip
    exact CX.ring (envL [xiE, a.1, a.2.1, a.2.2]) (e := (.m (.v 3))) (f := (.m (.v 3))) (by kernel_rfl)
  · skip
    exact CX.ring (envL [xiE, a.1, a.2.1, a.2.2]) (e := .z) (f := (.m .z)) (by kernel_rfl)
theorem addT6_eq (a b : F6) : toT6 (addV add2 a b) = addT add2 (toT6 a) (toT6 b) := by
  refine ext6 ?_ ?_ ?_ ?_ ?_ ?_
  · skip
    exact CX.ring (envL [xiE, a.1, a.2.1, a.2.2, b.1, b.2.1, b.2.2]) (e := (.a (.v 1) (.v 4))) (f := (.a (.v 1) (.v 4))) (by kernel_rfl)
  · skip
    exact CX.ring (envL [xiE, a.1, a.2.1, a.2.2, b.1, b.2.1, b.2.2]) (e := .z) (f := (.a .z .z)) (by kernel_rfl)
  · skip
    exact CX.ring (envL [xiE, a.1, a.2.1, a.2.2, b.1, b.2.1, b.2.2]) (e := (.a (.v 2) (.v 5))) (f := (.a (.v 2) (.v 5))) (by kernel_rfl)
  · skip
    exact CX.ring (envL [xiE, a.1, a.2.1, a.2.2, b.1, b.2.1, b.2.2]) (e := .z) (f := (.a .z .z)) (by kernel_rfl)
  · skip
    exact CX.ring (envL [xiE, a.1, a.2.1, a.2.2, b.1, b.2.1, b.2.2]) (e := (.a (.v 3) (.v 6))) (f := (.a (.v 3) (.v 6))) (by kernel_rfl)
  · skip
    exact CX.ring (envL [xiE, a.1, a.2.1, a.2.2, b.1, b.2.1, b.2.2]) (e := .z) (f := (.a .z .z)) (by kernel_rfl)
theorem subT6_eq (a b : F6) : toT6 (subV sub2 a b) = addT add2 (toT6 a) (negT neg2 (toT6 b)) := by
  refine ext6 ?_ ?_ ?_ ?_ ?_ ?_
  · simp only [toT6, subV, sub2_eq]
    exact CX.ring (envL [xiE, a.1, a.2.1, a.2.2, b.1, b.2.1, b.2.2]) (e := (.a (.v 1) (.m (.v 4)))) (f := (.a (.v 1) (.m (.v 4)))) (by kernel_rfl)
  · simp only [toT6, subV, sub2_eq]
    exact CX.ring (envL [xiE, a.1, a.2.1, a.2.2, b.1, b.2.1, b.2.2]) (e := .z) (f := (.a .z (.m .z))) (by kernel_rfl)
  · simp only [toT6, subV, sub2_eq]
    exact CX.ring (envL [xiE, a.1, a.2.1, a.2.2, b.1, b.2.1, b.2.2]) (e := (.a (.v 2) (.m (.v 5)))) (f := (.a (.v 2) (.m (.v 5)))) (by kernel_rfl)
  · simp only [toT6, subV, sub2_eq]
    exact CX.ring (envL [xiE, a.1, a.2.1, a.2.2, b.1, b.2.1, b.2.2]) (e := .z) (f := (.a .z (.m .z))) (by kernel_rfl)
  · simp only [toT6, subV, sub2_eq]
    exact CX.ring (envL [xiE, a.1, a.2.1, a.2.2, b.1, b.2.1, b.2.2]) (e := (.a (.v 3) (.m (.v 6)))) (f := (.a (.v 3) (.m (.v 6)))) (by kernel_rfl)
  · simp only [toT6, subV, sub2_eq]
    exact CX.ring (envL [xiE, a.1, a.2.1, a.2.2, b.1, b.2.1, b.2.2]) (e := .z) (f := (.a .z (.m .z))) (by kernel_rfl)
theorem conjT6_eq (a : F6) : conjT (toT6 a) = toT6 a := by
  refine ext6 ?_ ?_ ?_ ?_ ?_ ?_
  · skip
    exact CX.ring (envL [xiE, a.1, a.2.1, a.2.2]) (e := (.v 1)) (f := (.v 1)) (by kernel_rfl)
  · skip
    exact CX.ring (envL [xiE, a.1, a.2.1, a.2.2]) (e := (.m .z)) (f := .z) (by kernel_rfl)
  · skip
    exact CX.ring (envL [xiE, a.1, a.2.1, a.2.2]) (e := (.v 2)) (f := (.v 2)) (by kernel_rfl)
  · skip
    exact CX.ring (envL [xiE, a.1, a.2.1, a.2.2]) (e := (.m .z)) (f := .z) (by kernel_rfl)
  · skip
    exact CX.ring (envL [xiE, a.1, a.2.1, a.2.2]) (e := (.v 3)) (f := (.v 3)) (by kernel_rfl)
  · skip
    exact CX.ring (envL [xiE, a.1, a.2.1, a.2.2]) (e := (.m .z)) (f := .z) (by kernel_rfl)
theorem mulS_eq (a b : F12) : toT (m2 vE a b) = mulS (toT a) (toT b) := by
  refine ext6 ?_ ?_ ?_ ?_ ?_ ?_
  · simp only [mulTr, xi2_mul']
    exact CX.ring (envL [xiE, a.1.1, a.1.2.1, a.1.2.2, a.2.1, a.2.2.1, a.2.2.2, b.1.1, b.1.2.1, b.1.2.2, b.2.1, b.2.2.1, b.2.2.2]) (e := (.a (.a (.t (.v 1) (.v 7)) (.t (.v 0) (.a (.t (.v 2) (.v 9)) (.t (.v 3) (.v 8))))) (.a (.t .z (.a (.t (.v 4) (.v 10)) (.t (.v 0) (.a (.t (.v 5) (.v 12)) (.t (.v 6) (.v 11)))))) (.t (.v 0) (.a (.t .u (.a (.a (.t (.v 4) (.v 12)) (.t (.v 5) (.v 11))) (.t (.v 6) (.v 10)))) (.t .z (.a (.a (.t (.v 4) (.v 11)) (.t (.v 5) (.v 10))) (.t (.v 0) (.t (.v 6) (.v 12)))))))))) (f := (.a (.a .z (.t (.v 1) (.v 7))) (.t (.v 0) (.a (.a (.a (.a (.a .z (.t (.v 4) (.v 12))) (.t (.v 2) (.v 9))) (.t (.v 5) (.v 11))) (.t (.v 3) (.v 8))) (.t (.v 6) (.v 10)))))) (by kernel_rfl)
  · simp only [mulTr, xi2_mul']
    exact CX.ring (envL [xiE, a.1.1, a.1.2.1, a.1.2.2, a.2.1, a.2.2.1, a.2.2.2, b.1.1, b.1.2.1, b.1.2.2, b.2.1, b.2.2.1, b.2.2.2]) (e := (.a (.a (.t (.v 1) (.v 10)) (.t (.v 0) (.a (.t (.v 2) (.v 12)) (.t (.v 3) (.v 11))))) (.a (.t (.v 4) (.v 7)) (.t (.v 0) (.a (.t (.v 5) (.v 9)) (.t (.v 6) (.v 8))))))) (f := (.a (.a (.a .z (.t (.v 1) (.v 10))) (.t (.v 4) (.v 7))) (.t (.v 0) (.a (.a (.a (.a .z (.t (.v 2) (.v 12))) (.t (.v 5) (.v 9))) (.t (.v 3) (.v 11))) (.t (.v 6) (.v 8)))))) (by kernel_rfl)
  · simp only [mulTr, xi2_mul']
    exact CX.ring (envL [xiE, a.1.1, a.1.2.1, a.1.2.2, a.2.1, a.2.2.1, a.2.2.2, b.1.1, b.1.2.1, b.1.2.2, b.2.1, b.2.2.1, b.2.2.2]) (e := (.a (.a (.a (.t (.v 1) (.v 8)) (.t (.v 2) (.v 7))) (.t (.v 0) (.t (.v 3) (.v 9)))) (.a (.a (.t .z (.a (.a (.t (.v 4) (.v 11)) (.t (.v 5) (.v 10))) (.t (.v 0) (.t (.v 6) (.v 12))))) (.t .u (.a (.t (.v 4) (.v 10)) (.t (.v 0) (.a (.t (.v 5) (.v 12)) (.t (.v 6) (.v 11))))))) (.t (.v 0) (.t .z (.a (.a (.t (.v 4) (.v 12)) (.t (.v 5) (.v 11))) (.t (.v 6) (.v 10)))))))) (f := (.a (.a (.a (.a .z (.t (.v 1) (.v 8))) (.t (.v 4) (.v 10))) (.t (.v 2) (.v 7))) (.t (.v 0) (.a (.a (.a .z (.t (.v 5) (.v 12))) (.t (.v 3) (.v 9))) (.t (.v 6) (.v 11)))))) (by kernel_rfl)
  · simp only [mulTr, xi2_mul']
    exact CX.ring (envL [xiE, a.1.1, a.1.2.1, a.1.2.2, a.2.1, a.2.2.1, a.2.2.2, b.1.1, b.1.2.1, b.1.2.2, b.2.1, b.2.2.1, b.2.2.2]) (e := (.a (.a (.a (.t (.v 1) (.v 11)) (.t (.v 2) (.v 10))) (.t (.v 0) (.t (.v 3) (.v 12)))) (.a (.a (.t (.v 4) (.v 8)) (.t (.v 5) (.v 7))) (.t (.v 0) (.t (.v 6) (.v 9)))))) (f := (.a (.a (.a (.a (.a .z (.t (.v 1) (.v 11))) (.t (.v 4) (.v 8))) (.t (.v 2) (.v 10))) (.t (.v 5) (.v 7))) (.t (.v 0) (.a (.a .z (.t (.v 3) (.v 12))) (.t (.v 6) (.v 9)))))) (by kernel_rfl)
  · simp only [mulTr, xi2_mul']
    exact CX.ring (envL [xiE, a.1.1, a.1.2.1, a.1.2.2, a.2.1, a.2.2.1, a.2.2.2, b.1.1, b.1.2.1, b.1.2.2, b.2.1, b.2.2.1, b.2.2.2]) (e := (.a (.a (.a (.t (.v 1) (.v 9)) (.t (.v 2) (.v 8))) (.t (.v 3) (.v 7))) (.a (.a (.t .z (.a (.a (.t (.v 4) (.v 12)) (.t (.v 5) (.v 11))) (.t (.v 6) (.v 10)))) (.t .u (.a (.a (.t (.v 4) (.v 11)) (.t (.v 5) (.v 10))) (.t (.v 0) (.t (.v 6) (.v 12)))))) (.t .z (.a (.t (.v 4) (.v 10)) (.t (.v 0) (.a (.t (.v 5) (.v 12)) (.t (.v 6) (.v 11))))))))) (f := (.a (.a (.a (.a (.a (.a .z (.t (.v 1) (.v 9))) (.t (.v 4) (.v 11))) (.t (.v 2) (.v 8))) (.t (.v 5) (.v 10))) (.t (.v 3) (.v 7))) (.t (.v 0) (.a .z (.t (.v 6) (.v 12)))))) (by kernel_rfl)
  · simp only [mulTr, xi2_mul']
    exact CX.ring (envL [xiE, a.1.1, a.1.2.1, a.1.2.2, a.2.1, a.2.2.1, a.2.2.2, b.1.1, b.1.2.1, b.1.2.2, b.2.1, b.2.2.1, b.2.2.2]) (e := (.a (.a (.a (.t (.v 1) (.v 12)) (.t (.v 2) (.v 11))) (.t (.v 3) (.v 10))) (.a (.a (.t (.v 4) (.v 9)) (.t (.v 5) (.v 8))) (.t (.v 6) (.v 7))))) (f := (.a (.a (.a (.a (.a (.a .z (.t (.v 1) (.v 12))) (.t (.v 4) (.v 9))) (.t (.v 2) (.v 11))) (.t (.v 5) (.v 8))) (.t (.v 3) (.v 10))) (.t (.v 6) (.v 7)))) (by kernel_rfl)
theorem negT_eq (a : F12) : negT neg2 (toT a) = toT (CR.n a) := by
  refine ext6 ?_ ?_ ?_ ?_ ?_ ?_
  · skip
    exact CX.ring (envL [xiE, a.1.1, a.1.2.1, a.1.2.2, a.2.1, a.2.2.1, a.2.2.2]) (e := (.m (.v 1))) (f := (.m (.v 1))) (by kernel_rfl)
  · skip
    exact CX.ring (envL [xiE, a.1.1, a.1.2.1, a.1.2.2, a.2.1, a.2.2.1, a.2.2.2]) (e := (.m (.v 4))) (f := (.m (.v 4))) (by kernel_rfl)
  · skip
    exact CX.ring (envL [xiE, a.1.1, a.1.2.1, a.1.2.2, a.2.1, a.2.2.1, a.2.2.2]) (e := (.m (.v 2))) (f := (.m (.v 2))) (by kernel_rfl)
  · skip
    exact CX.ring (envL [xiE, a.1.1, a.1.2.1, a.1.2.2, a.2.1, a.2.2.1, a.2.2.2]) (e := (.m (.v 5))) (f := (.m (.v 5))) (by kernel_rfl)
  · skip
    exact CX.ring (envL [xiE, a.1.1, a.1.2.1, a.1.2.2, a.2.1, a.2.2.1, a.2.2.2]) (e := (.m (.v 3))) (f := (.m (.v 3))) (by kernel_rfl)
  · skip
    exact CX.ring (envL [xiE, a.1.1, a.1.2.1, a.1.2.2, a.2.1, a.2.2.1, a.2.2.2]) (e := (.m (.v 6))) (f := (.m (.v 6))) (by kernel_rfl)
theorem subT_eq (a b : F12) : toT (subY (subV sub2) a b) = addT add2 (toT a) (negT neg2 (toT b)) := by
  refine ext6 ?_ ?_ ?_ ?_ ?_ ?_
  · simp only [toT, subY, subV, sub2_eq]
    exact CX.ring (envL [xiE, a.1.1, a.1.2.1, a.1.2.2, a.2.1, a.2.2.1, a.2.2.2, b.1.1, b.1.2.1, b.1.2.2, b.2.1, b.2.2.1, b.2.2.2]) (e := (.a (.v 1) (.m (.v 7)))) (f := (.a (.v 1) (.m (.v 7)))) (by kernel_rfl)
  · simp only [toT, subY, subV, sub2_eq]
    exact CX.ring (envL [xiE, a.1.1, a.1.2.1, a.1.2.2, a.2.1, a.2.2.1, a.2.2.2, b.1.1, b.1.2.1, b.1.2.2, b.2.1, b.2.2.1, b.2.2.2]) (e := (.a (.v 4) (.m (.v 10)))) (f := (.a (.v 4) (.m (.v 10)))) (by kernel_rfl)
  · simp only [toT, subY, subV, sub2_eq]
    exact CX.ring (envL [xiE, a.1.1, a.1.2.1, a.1.2.2, a.2.1, a.2.2.1, a.2.2.2, b.1.1, b.1.2.1, b.1.2.2, b.2.1, b.2.2.1, b.2.2.2]) (e := (.a (.v 2) (.m (.v 8)))) (f := (.a (.v 2) (.m (.v 8)))) (by kernel_rfl)
  · simp only [toT, subY, subV, sub2_eq]
    exact CX.ring (envL [xiE, a.1.1, a.1.2.1, a.1.2.2, a.2.1, a.2.2.1, a.2.2.2, b.1.1, b.1.2.1, b.1.2.2, b.2.1, b.2.2.1, b.2.2.2]) (e := (.a (.v 5) (.m (.v 11)))) (f := (.a (.v 5) (.m (.v 11)))) (by kernel_rfl)
  · simp only [toT, subY, subV, sub2_eq]
    exact CX.ring (envL [xiE, a.1.1, a.1.2.1, a.1.2.2, a.2.1, a.2.2.1, a.2.2.2, b.1.1, b.1.2.1, b.1.2.2, b.2.1, b.2.2.1, b.2.2.2]) (e := (.a (.v 3) (.m (.v 9)))) (f := (.a (.v 3) (.m (.v 9)))) (by kernel_rfl)
  · simp only [toT, subY, subV, sub2_eq]
    exact CX.ring (envL [xiE, a.1.1, a.1.2.1, a.1.2.2, a.2.1, a.2.2.1, a.2.2.2, b.1.1, b.1.2.1, b.1.2.2, b.2.1, b.2.2.1, b.2.2.2]) (e := (.a (.v 6) (.m (.v 12)))) (f := (.a (.v 6) (.m (.v 12)))) (by kernel_rfl)
theorem addT_eq (a b : F12) : toT (addY (addV add2) a b) = addT add2 (toT a) (toT b) := rfl
theorem conjT_eq (a : F12) : conjT (toT a) = toT (conjY a) := rfl
theorem even6 (n : F6) : evenInv add2 sub2 mul2 xi2 inv2 (toT6 n) = toT6 (invV n) := rfl
theorem toT_even (n : F6) : toT (n, zeroV) = toT6 n := rfl
theorem conj_norm (a : F12) : m2 vE a (conjY a) = ((CR.p (CR.m a.1 a.1) (CR.n (CR.m vE (CR.m a.2 a.2)))), zeroV) := Prod.ext (CX.ring (envL [vE, a.1, a.2]) (e := (.a (.t (.v 1) (.v 1)) (.t (.v 0) (.t (.v 2) (.m (.v 2)))))) (f := (.a (.t (.v 1) (.v 1)) (.m (.t (.v 0) (.t (.v 2) (.v 2)))))) (by kernel_rfl)) (CX.ring (envL [vE, a.1, a.2]) (e := (.a (.t (.v 1) (.m (.v 2))) (.t (.v 2) (.v 1)))) (f := .z) (by kernel_rfl))
theorem conj_inv (a : F12) (t : F6) : m2 vE (conjY a) (t, zeroV) = (CR.m a.1 t, CR.m (CR.n a.2) t) := Prod.ext (CX.ring (envL [vE, a.1, a.2, t]) (e := (.a (.t (.v 1) (.v 3)) (.t (.v 0) (.t (.m (.v 2)) .z)))) (f := (.t (.v 1) (.v 3))) (by kernel_rfl)) (CX.ring (envL [vE, a.1, a.2, t]) (e := (.a (.t (.v 1) .z) (.t (.m (.v 2)) (.v 3)))) (f := (.t (.m (.v 2)) (.v 3))) (by kernel_rfl))
theorem invY_is (a : F12) : invY a = (CR.m a.1 (invV (CR.p (CR.m a.1 a.1) (CR.n (CR.m vE (CR.m a.2 a.2))))), CR.m (CR.n a.2) (invV (CR.p (CR.m a.1 a.1) (CR.n (CR.m vE (CR.m a.2 a.2)))))) := by
  unfold invY invYr
  simp only [subV_eq]; rfl
theorem invT_eq (a : F12) : toT (invY a) = invT (toT a) := by
  show _ = mulS (conjT (toT a)) (evenInv add2 sub2 mul2 xi2 inv2 (mulS (toT a) (conjT (toT a))))
  rw [conjT_eq, ← mulS_eq, conj_norm, toT_even, even6, ← toT_even, ← mulS_eq, conj_inv, invY_is]
theorem invV_zero : invV zeroV = zeroV := by
  have h : ∀ t : F2, mul2 zero2 t = zero2 := fun t => by rw [mul2_comm, mul2_zero]
  unfold invV invVr
  have e1 : sub2 (sqr2 zeroV.1) (xi2 (mul2 zeroV.2.1 zeroV.2.2)) = zero2 := by kernel_rfl
  have e2 : sub2 (xi2 (sqr2 zeroV.2.2)) (mul2 zeroV.1 zeroV.2.1) = zero2 := by kernel_rfl
  have e3 : sub2 (sqr2 zeroV.2.1) (mul2 zeroV.1 zeroV.2.2) = zero2 := by kernel_rfl
  exact Prod.ext ((congrArg (fun q => mul2 q _) e1).trans (h _)) (Prod.ext ((congrArg (fun q => mul2 q _) e2).trans (h _)) ((congrArg (fun q => mul2 q _) e3).trans (h _)))
theorem invY_zero : invY (zeroV, zeroV) = (zeroV, zeroV) := by
  rw [invY_is]
  refine Prod.ext ?_ ?_
  · exact CR.m0' (X := F6) _
  · show CR.m (CR.n (CR.o : F6)) _ = _
    rw [CR.n0]; exact CR.m0' (X := F6) _
theorem invT6_eq (a : F6) : toT6 (invV a) = invT (toT6 a) := by
  show _ = mulS (conjT (toT6 a)) (evenInv add2 sub2 mul2 xi2 inv2 (mulS (toT6 a) (conjT (toT6 a))))
  rw [conjT6_eq, ← mulT6_eq, even6, ← mulT6_eq]
  refine congrArg toT6 ?_
  by_cases h : a = zeroV
  · subst h
    rw [invV_zero]
    exact (CR.m0' (X := F6) _).symm
  · have h2 : CR.m a a ≠ (CR.o : F6) := fun e => h ((fld6.zero e).elim id id)
    refine fld6.cancel h ?_
    rw [fld6.inv a h]
    exact ((CR.mA (X := F6) a a _).symm.trans (fld6.inv _ h2)).symm

def six3 (Nm : List UInt8 → F2) (l : List UInt8) : F6 := (Nm (partB l 0 ((l.length : Int).tdiv 3).toNat), Nm (partB l ((l.length : Int).tdiv 3).toNat ((2 * (l.length : Int).tdiv 3).toNat - ((l.length : Int).tdiv 3).toNat)), Nm (partB l (2 * (l.length : Int).tdiv 3).toNat (l.length - (2 * (l.length : Int).tdiv 3).toNat)))
theorem six6_ok : Computes A Try.prog 68 (fun x : Bt × Unit => six3 (num2 wideF) x.1.l) := by
  refine computes_of_run (.cons num6_ok.row (.nil _)) Try.func68 (by kernel_rfl) (by kernel_rfl) 8 ?_
  rintro ⟨g, _⟩ ⟨⟨l⟩, ⟨⟩⟩ W ⟨⟨hg, hl⟩, _⟩
  have hg : HasBytes W l g := hg
  have hl : l.length < 1048576 := hl
  have hc : l.length ≤ g.c := hg.1
  have e : ((l.length : Int).tdiv 3) = ((l.length / 3 : Nat) : Int) := rfl
  have w2 : IntKind.i64.wrap (2 * (l.length : Int).tdiv 3) = 2 * (l.length : Int).tdiv 3 := wrapI (by rw [e]; omega) (by rw [e]; omega)
  refine ⟨fun _ _ => .keep, six3 (num2 wideF) l,
    [(partB l (2 * (l.length : Int).tdiv 3).toNat (l.length - (2 * (l.length : Int).tdiv 3).toNat)).length < 1048576, ReadAt W g l (2 * (l.length : Int).tdiv 3).toNat (l.length - (2 * (l.length : Int).tdiv 3).toNat), U8At l (2 * (l.length : Int).tdiv 3).toNat (l.length - (2 * (l.length : Int).tdiv 3).toNat),
      0 ≤ 2 * (l.length : Int).tdiv 3 ∧ 2 * (l.length : Int).tdiv 3 ≤ l.length, IntKind.i64.wrap (2 * (l.length : Int).tdiv 3) = 2 * (l.length : Int).tdiv 3,
      (partB l ((l.length : Int).tdiv 3).toNat ((2 * (l.length : Int).tdiv 3).toNat - ((l.length : Int).tdiv 3).toNat)).length < 1048576, ReadAt W g l ((l.length : Int).tdiv 3).toNat ((2 * (l.length : Int).tdiv 3).toNat - ((l.length : Int).tdiv 3).toNat), U8At l ((l.length : Int).tdiv 3).toNat ((2 * (l.length : Int).tdiv 3).toNat - ((l.length : Int).tdiv 3).toNat),
      0 ≤ (l.length : Int).tdiv 3 ∧ (l.length : Int).tdiv 3 ≤ ((2 * (l.length : Int).tdiv 3).toNat : Int), 0 ≤ 2 * (l.length : Int).tdiv 3 ∧ 2 * (l.length : Int).tdiv 3 ≤ g.c, IntKind.i64.wrap (2 * (l.length : Int).tdiv 3) = 2 * (l.length : Int).tdiv 3,
      (partB l 0 ((l.length : Int).tdiv 3).toNat).length < 1048576, ReadAt W g l 0 ((l.length : Int).tdiv 3).toNat, U8At l 0 ((l.length : Int).tdiv 3).toNat, 0 ≤ (l.length : Int).tdiv 3 ∧ (l.length : Int).tdiv 3 ≤ g.c, IntKind.i64.wrap ((l.length : Int).tdiv 3) = (l.length : Int).tdiv 3],
    by kernel_rfl, ⟨by rw [partB_len]; omega, readAt hg (by rw [e]; omega), u8At _ _ _, ⟨by rw [e]; omega, by rw [e]; omega⟩, w2, by rw [partB_len, e]; omega, readAt hg (by rw [e]; omega), u8At _ _ _, ⟨by rw [e]; omega, by rw [e]; omega⟩, ⟨by rw [e]; omega, by rw [e]; omega⟩, w2,
      by rw [partB_len, e]; omega, readAt hg (by rw [e]; omega), u8At _ _ _, ⟨by rw [e]; omega, by rw [e]; omega⟩, wrapI (by rw [e]; omega) (by rw [e]; omega), trivial⟩, rfl⟩
theorem six7_ok : Computes A Try.prog 175 (fun x : Bt × Unit => six3 (num2 wideF) x.1.l) := by
  refine computes_of_run (.cons num7_ok.row (.nil _)) Try.func175 (by kernel_rfl) (by kernel_rfl) 8 ?_
  rintro ⟨g, _⟩ ⟨⟨l⟩, ⟨⟩⟩ W ⟨⟨hg, hl⟩, _⟩
  have hg : HasBytes W l g := hg
  have hl : l.length < 1048576 := hl
  have hc : l.length ≤ g.c := hg.1
  have e : ((l.length : Int).tdiv 3) = ((l.length / 3 : Nat) : Int) := rfl
  have w2 : IntKind.i64.wrap (2 * (l.length : Int).tdiv 3) = 2 * (l.length : Int).tdiv 3 := wrapI (by rw [e]; omega) (by rw [e]; omega)
  refine ⟨fun _ _ => .keep, six3 (num2 wideF) l,
    [(partB l (2 * (l.length : Int).tdiv 3).toNat (l.length - (2 * (l.length : Int).tdiv 3).toNat)).length < 1048576, ReadAt W g l (2 * (l.length : Int).tdiv 3).toNat (l.length - (2 * (l.length : Int).tdiv 3).toNat), U8At l (2 * (l.length : Int).tdiv 3).toNat (l.length - (2 * (l.length : Int).tdiv 3).toNat),
      0 ≤ 2 * (l.length : Int).tdiv 3 ∧ 2 * (l.length : Int).tdiv 3 ≤ l.length, IntKind.i64.wrap (2 * (l.length : Int).tdiv 3) = 2 * (l.length : Int).tdiv 3,
      (partB l ((l.length : Int).tdiv 3).toNat ((2 * (l.length : Int).tdiv 3).toNat - ((l.length : Int).tdiv 3).toNat)).length < 1048576, ReadAt W g l ((l.length : Int).tdiv 3).toNat ((2 * (l.length : Int).tdiv 3).toNat - ((l.length : Int).tdiv 3).toNat), U8At l ((l.length : Int).tdiv 3).toNat ((2 * (l.length : Int).tdiv 3).toNat - ((l.length : Int).tdiv 3).toNat),
      0 ≤ (l.length : Int).tdiv 3 ∧ (l.length : Int).tdiv 3 ≤ ((2 * (l.length : Int).tdiv 3).toNat : Int), 0 ≤ 2 * (l.length : Int).tdiv 3 ∧ 2 * (l.length : Int).tdiv 3 ≤ g.c, IntKind.i64.wrap (2 * (l.length : Int).tdiv 3) = 2 * (l.length : Int).tdiv 3,
      (partB l 0 ((l.length : Int).tdiv 3).toNat).length < 1048576, ReadAt W g l 0 ((l.length : Int).tdiv 3).toNat, U8At l 0 ((l.length : Int).tdiv 3).toNat, 0 ≤ (l.length : Int).tdiv 3 ∧ (l.length : Int).tdiv 3 ≤ g.c, IntKind.i64.wrap ((l.length : Int).tdiv 3) = (l.length : Int).tdiv 3],
    by kernel_rfl, ⟨by rw [partB_len]; omega, readAt hg (by rw [e]; omega), u8At _ _ _, ⟨by rw [e]; omega, by rw [e]; omega⟩, w2, by rw [partB_len, e]; omega, readAt hg (by rw [e]; omega), u8At _ _ _, ⟨by rw [e]; omega, by rw [e]; omega⟩, ⟨by rw [e]; omega, by rw [e]; omega⟩, w2,
      by rw [partB_len, e]; omega, readAt hg (by rw [e]; omega), u8At _ _ _, ⟨by rw [e]; omega, by rw [e]; omega⟩, wrapI (by rw [e]; omega) (by rw [e]; omega), trivial⟩, rfl⟩
def twelve2 (Sx : List UInt8 → F6) (l : List UInt8) : F12 := (Sx (partB l 0 ((l.length : Int).tdiv 2).toNat), Sx (partB l ((l.length : Int).tdiv 2).toNat (l.length - ((l.length : Int).tdiv 2).toNat)))
theorem twelve_ok : Computes A Try.prog 92 (fun x : Bt × Unit => twelve2 (six3 (num2 wideF)) x.1.l) := by
  refine computes_of_run (.cons six7_ok.row (.nil _)) Try.func92 (by kernel_rfl) (by kernel_rfl) 8 ?_
  rintro ⟨g, _⟩ ⟨⟨l⟩, ⟨⟩⟩ W ⟨⟨hg, hl⟩, _⟩
  have hg : HasBytes W l g := hg
  have hl : l.length < 1048576 := hl
  have hc : l.length ≤ g.c := hg.1
  have e : ((l.length : Int).tdiv 2) = ((l.length / 2 : Nat) : Int) := rfl
  refine ⟨fun _ _ => .keep, twelve2 (six3 (num2 wideF)) l,
    [(partB l ((l.length : Int).tdiv 2).toNat (l.length - ((l.length : Int).tdiv 2).toNat)).length < 1048576, ReadAt W g l ((l.length : Int).tdiv 2).toNat (l.length - ((l.length : Int).tdiv 2).toNat), U8At l ((l.length : Int).tdiv 2).toNat (l.length - ((l.length : Int).tdiv 2).toNat),
      0 ≤ (l.length : Int).tdiv 2 ∧ (l.length : Int).tdiv 2 ≤ l.length, (partB l 0 ((l.length : Int).tdiv 2).toNat).length < 1048576, ReadAt W g l 0 ((l.length : Int).tdiv 2).toNat, U8At l 0 ((l.length : Int).tdiv 2).toNat, 0 ≤ (l.length : Int).tdiv 2 ∧ (l.length : Int).tdiv 2 ≤ g.c, WrapI ((l.length : Int).tdiv 2)],
    by kernel_rfl, ⟨by rw [partB_len]; omega, readAt hg (by rw [tdiv2]; omega), u8At _ _ _, ⟨by rw [e]; omega, by rw [e]; omega⟩, by rw [partB_len, tdiv2]; omega, readAt hg (by rw [tdiv2]; omega), u8At _ _ _, ⟨by rw [e]; omega, by rw [e]; omega⟩, wrapI (by rw [e]; omega) (by rw [e]; omega), trivial⟩, rfl⟩
theorem refs6_ok : Computes A Try.prog 77 (fun x : F6 × Unit => toT6 x.1) :=
  Computes.eq (f := fun x : F6 × Unit => ((x.1.1, (0, 0), x.1.2.1, (0, 0), x.1.2.2, (0, 0)) : T6)) (computes_of_run0 (.cons ref6_ok.row (.nil _)) Try.func77 (by kernel_rfl) (by kernel_rfl) 8 (fun _ _ _ => by kernel_rfl)) (fun _ => rfl)
theorem refs7_ok : Computes A Try.prog 131 (fun x : F12 × Unit => toT x.1) :=
  computes_of_run0 (.cons ref7_ok.row (.nil _)) Try.func131 (by kernel_rfl) (by kernel_rfl) 8 (fun _ _ _ => by kernel_rfl)

end Go.Proofs.Ytbdbmcdcjejffaa
