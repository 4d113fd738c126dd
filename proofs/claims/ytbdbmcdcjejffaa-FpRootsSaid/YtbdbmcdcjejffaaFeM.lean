/- The reference's elements: sums, differences, products, opposites. -/
import Derived.Test.YtbdbmcdcjejffaaFeL
set_option linter.unusedVariables false
set_option linter.unusedSimpArgs false
set_option linter.unusedSectionVars false
namespace Go.Proofs.Ytbdbmcdcjejffaa
open Go Go.Sh

/-- The reference's product, whatever the reduction is. -/
theorem refMont_of (S : L6 → L6 → L6) (B : L6 → L6 → Cy) (pp : L6) (hS : Computes A Try.prog 148 (fun x : L6 × L6 × Unit => T2.mk (S x.1 x.2.1) (B x.1 x.2.1))) (hP : Computes A Try.prog 30 (fun _ : Unit => pp)) :
    Computes A Try.prog 152 (fun x : L6 × L6 × Unit => bif isNil (B (mulRaw x.2.1 x.1) pp) then S (mulRaw x.2.1 x.1) pp else mulRaw x.2.1 x.1) := by
  refine computes_of_runW (.cons hS.row (.cons hP.row (.nil _))) (ITblOK.nil _) Try.func152 (by kernel_rfl) (by kernel_rfl) 4 ?_
  rintro _ ⟨a, b, ⟨⟩⟩ W -
  have hs := mon_loop W.cell? a b
  simp only
  obtain ⟨T, hT⟩ : ∃ T, T = mulRaw b a := ⟨_, rfl⟩
  have hs : SoundFor Try.prog W.cell? [] (.loop (loopNo Try.f152 3)) (monSt a b zero6 0) (.exit 0) (monSt a b T 6) := by rw [hT]; exact hs
  have hl : ∀ body, Try.f152.body = some body → LoopsFor Try.prog W.cell? [] (lps [(3, monSt a b zero6 0, .exit 0, monSt a b T 6)]) body := by
    intro body hb
    refine LoopsFor.cons ?_ hs LoopsFor.nil
    obtain rfl := Option.some.inj hb
    kernel_rfl
  rw [← hT]
  cases hc : isNil (B T pp) with
  | true => exact ⟨says [(319, true)], lps [(3, monSt a b zero6 0, .exit 0, monSt a b T 6)], S T pp, [isNil (B T pp) = true, ToldIs (monSt a b zero6 0)], by kernel_rfl, ⟨hc, toldIs _, trivial⟩, rfl, hl⟩
  | false => exact ⟨says [(319, false)], lps [(3, monSt a b zero6 0, .exit 0, monSt a b T 6)], T, [isNil (B T pp) = false, ToldIs (monSt a b zero6 0)], by kernel_rfl, ⟨hc, toldIs _, trivial⟩, rfl, hl⟩

theorem nil_one (c : Cy) (r l : L6) : (bif isNil c then r else l) = (bif isOne c then l else r) := by
  rw [isOne_eq, isNil_eq]
  cases c.on <;> rfl
theorem reducedL_nil (l : L6) : (bif isNil (subTop l p6) then sub6 l p6 else l) = reducedL l := nil_one (subTop l p6) (sub6 l p6) l
theorem refMontL_ok : Computes A Try.prog 152 (fun x : L6 × L6 × Unit => reducedL (mulRaw x.2.1 x.1)) :=
  Computes.eq (refMont_of sub6 subTop p6 refSubL_ok refPL_ok) (fun _ => reducedL_nil _)

theorem refMont_ok : Computes A Try.prog 152 (fun x : Fp × Fp × Unit => x.1 * x.2.1) :=
  refMontL_ok.as (fun x => (limbs x.1, limbs x.2.1, ())) (fun _ _ _ _ => ⟨((), (), ()), ⟨trivial, trivial, trivial⟩, rfl⟩) (fun x => by rw [mul_limbs, Fin.mul_comm]; rfl)

def tblR : List (Row A) := [rowOf A 152 (fun x : Fp × Fp × Unit => x.1 * x.2.1)]
theorem tblR_ok : TblOK Try.prog tblR := .cons refMont_ok.row (.nil _)
theorem refMul_ok : Computes A Try.prog 46 (fun x : Fp × Fp × Unit => x.1 * x.2.1) :=
  computes_of_run0 tblR_ok Try.func46 (by kernel_rfl) (by kernel_rfl) 4 (fun _ _ _ => by kernel_rfl)
theorem refNumberF_ok : Computes A Try.prog 151 (fun x : Fp × Unit => x.1 * iF) :=
  computes_of_run0 tblR_ok Try.func151 (by kernel_rfl) (by kernel_rfl) 4 (fun _ _ _ => by kernel_rfl)
theorem refNumber_ok : Computes A Try.prog 151 (fun x : Fp × Unit => fpNum x.1) :=
  refNumberF_ok.as (fun x => x) (fun gh _ _ hg => ⟨gh, hg, rfl⟩) (fun x => by
    show Value.agg (cells6 (limbs (x.1 * iF))).toArray = Value.agg (cells6 (numL (fpNum x.1))).toArray
    rw [limbs_iF]; rfl)

theorem refOf_of (F : L6 → L6 → L6) (hF : Computes A Try.prog 152 (fun x : L6 × L6 × Unit => F x.1 x.2.1)) : Computes A Try.prog 36 (fun x : L6 × Unit => F x.1 sq6) :=
  computes_of_run0 (.cons hF.row (.cons refTwoL_ok.row (.nil _))) Try.func36 (by kernel_rfl) (by kernel_rfl) 8 (fun _ _ _ => by kernel_rfl)
theorem refOfL_ok : Computes A Try.prog 36 (fun x : L6 × Unit => reducedL (mulRaw sq6 x.1)) := refOf_of (fun a b => reducedL (mulRaw b a)) refMontL_ok
theorem made_limbs' (a : Pl) : reducedL (mulRaw sq6 (numL a.num)) = limbs a.x := by
  have e : numL a.num = limbs (a.x * iF) := (limbs_iF a.x).symm
  rw [e, sq6_eq, mul_limbs]
  have : rF * (a.x * iF) = a.x := by rw [Fin.mul_comm, Fin.mul_assoc, iF_rF, Fin.mul_one]
  rw [this]
theorem refOf_ok : Computes A Try.prog 36 (fun x : Pl × Unit => x.1.x) :=
  refOfL_ok.as (fun x => (numL x.1.num, ())) (fun _ _ _ _ => ⟨((), ()), ⟨trivial, trivial⟩, rfl⟩) (fun x => by rw [made_limbs']; rfl)

def tblS : List (Row A) := [rowOf A 36 (fun x : Pl × Unit => x.1.x)]
theorem tblS_ok : TblOK Try.prog tblS := .cons refOf_ok.row (.nil _)
theorem refSmall_ok : Computes A Try.prog 39 (fun x : UInt64 × Unit => fpOf x.1) := by
  refine Computes.eq (f := fun x : UInt64 × Unit => (plOf (smallN x.1)).x) ?_ (fun x => Fin.ext ?_)
  · refine computes_of_run tblS_ok Try.func39 (by kernel_rfl) (by kernel_rfl) 8 ?_
    rintro _ ⟨n, ⟨⟩⟩ W -
    exact ⟨fun _ _ => .keep, _, _, (by kernel_rfl : _ = some (some (plOf (smallN n)).x, [(smallN n).val < pN])), All.cons (smallN_lt n) All.nil, rfl⟩
  · show (smallN x.1).val % pN = x.1.toNat
    rw [smallN_val, Nat.mod_eq_of_lt (Nat.lt_trans x.1.toNat_lt (by decide))]

/-! ### What is the same; 0 -/
def eqL (a b : L6) : Bool := ((a.1.toNat : Int) == b.1.toNat) && (((a.2.1.toNat : Int) == b.2.1.toNat) && (((a.2.2.1.toNat : Int) == b.2.2.1.toNat) && (((a.2.2.2.1.toNat : Int) == b.2.2.2.1.toNat) && (((a.2.2.2.2.1.toNat : Int) == b.2.2.2.2.1.toNat) && (((a.2.2.2.2.2.toNat : Int) == b.2.2.2.2.2.toNat) && true)))))
theorem eqL_eq (a b : L6) : eqL a b = decide (a = b) := by
  obtain ⟨a0, a1, a2, a3, a4, a5⟩ := a
  obtain ⟨b0, b1, b2, b3, b4, b5⟩ := b
  have h : ∀ x y : UInt64, ((x.toNat : Int) == y.toNat) = decide (x = y) := fun x y => by
    by_cases e : x = y
    · subst e; simp
    · have : (x.toNat : Int) ≠ y.toNat := fun h' => e (UInt64.toNat_inj.1 (by omega))
      simp [e, this]
  simp only [eqL, h, Prod.mk.injEq, Bool.and_true, Bool.decide_and]
theorem limbs_inj {x y : Fp} (h : limbs x = limbs y) : x = y := by
  have h1 := congrArg val6 h
  rw [val6_limbs, val6_limbs] at h1
  have e : ∀ z : Fp, z.val = mont z * i384 % pN := by
    intro z
    rw [mont_eq, mul_mod3, Nat.mul_assoc, Nat.mul_mod, i384_r, Nat.mul_one, Nat.mod_mod, Nat.mod_eq_of_lt z.isLt]
  exact Fin.ext (by rw [e x, e y, h1])
theorem eqF (x y : Fp) : eqL (limbs x) (limbs y) = decide (x = y) := by
  rw [eqL_eq]
  by_cases h : x = y
  · subst h; simp
  · have : limbs x ≠ limbs y := fun e => h (limbs_inj e)
    simp [h, this]
theorem limbs_zero : limbs 0 = (0, 0, 0, 0, 0, 0) := by kernel_rfl

theorem equal_ok : Computes A Try.prog 52 (fun x : Fp × Fp × Unit => decide (x.1 = x.2.1)) :=
  Computes.eq (f := fun x : Fp × Fp × Unit => eqL (limbs x.1) (limbs x.2.1)) (computes_of_run0 (TblOK.nil _) Try.func52 (by kernel_rfl) (by kernel_rfl) 4 (fun _ _ _ => by kernel_rfl)) (fun x => eqF x.1 x.2.1)
def isZeroL (a : L6) : Bool := eqL a (0, 0, 0, 0, 0, 0)
theorem isZeroF (x : Fp) : isZeroL (limbs x) = decide (x = 0) := by
  unfold isZeroL; rw [← limbs_zero, eqF]
theorem isZero_ok : Computes A Try.prog 31 (fun x : Fp × Unit => decide (x.1 = 0)) :=
  Computes.eq (f := fun x : Fp × Unit => isZeroL (limbs x.1)) (computes_of_run0 (TblOK.nil _) Try.func31 (by kernel_rfl) (by kernel_rfl) 4 (fun _ _ _ => by kernel_rfl)) (fun x => isZeroF x.1)
theorem refIsZero_ok : Computes A Try.prog 53 (fun x : Fp × Unit => decide (x.1 = 0)) :=
  Computes.eq (f := fun x : Fp × Unit => isZeroL (limbs x.1)) (computes_of_run0 (TblOK.nil _) Try.func53 (by kernel_rfl) (by kernel_rfl) 4 (fun _ _ _ => by kernel_rfl)) (fun x => isZeroF x.1)

/-! ### Sums, differences, opposites -/
def tblT : List (Row A) := [rowOf A 43 (fun x : Fp × Fp × Unit => x.1 - x.2.1), rowOf A 45 (fun x : Fp × Fp × Unit => x.1 * x.2.1)]
theorem tblT_ok : TblOK Try.prog tblT := .cons sub_ok.row (.cons mul_ok.row (.nil _))
theorem neg_ok : Computes A Try.prog 48 (fun x : Fp × Unit => -x.1) :=
  Computes.eq (f := fun x : Fp × Unit => (0 : Fp) - x.1) (computes_of_run0 tblT_ok Try.func48 (by kernel_rfl) (by kernel_rfl) 4 (fun _ _ _ => by kernel_rfl)) (fun x => by grind)
theorem sq_ok : Computes A Try.prog 47 (fun x : Fp × Unit => x.1 * x.1) :=
  computes_of_run0 tblT_ok Try.func47 (by kernel_rfl) (by kernel_rfl) 4 (fun _ _ _ => by kernel_rfl)

def topGe (s : L6) : Bool := decide ((s.2.2.2.2.2.toNat : Int) ≥ 1873798617647539866)
def fAddL (a b : L6) : L6 := bif topGe (add6 a b) then reducedL (add6 a b) else add6 a b
theorem refFAdd_of (D S : L6 → L6 → L6) (C B : L6 → L6 → Cy) (pp : L6) (hD : Computes A Try.prog 158 (fun x : L6 × L6 × Unit => T2.mk (D x.1 x.2.1) (C x.1 x.2.1)))
    (hS : Computes A Try.prog 148 (fun x : L6 × L6 × Unit => T2.mk (S x.1 x.2.1) (B x.1 x.2.1))) (hP : Computes A Try.prog 30 (fun _ : Unit => pp)) :
    Computes A Try.prog 42 (fun x : L6 × L6 × Unit => bif topGe (D x.1 x.2.1) then (bif isNil (B (D x.1 x.2.1) pp) then S (D x.1 x.2.1) pp else D x.1 x.2.1) else D x.1 x.2.1) := by
  refine computes_of_run (.cons hD.row (.cons hS.row (.cons hP.row (.nil _)))) Try.func42 (by kernel_rfl) (by kernel_rfl) 4 ?_
  rintro _ ⟨a, b, ⟨⟩⟩ W -
  simp only
  cases h1 : topGe (D a b) with
  | false => exact ⟨says [(19, false)], D a b, [topGe (D a b) = false], by kernel_rfl, ⟨h1, trivial⟩, rfl⟩
  | true =>
    cases h2 : isNil (B (D a b) pp) with
    | true => exact ⟨says [(19, true), (27, true)], S (D a b) pp, [isNil (B (D a b) pp) = true, topGe (D a b) = true], by kernel_rfl, ⟨h2, h1, trivial⟩, rfl⟩
    | false => exact ⟨says [(19, true), (27, false)], D a b, [isNil (B (D a b) pp) = false, topGe (D a b) = true], by kernel_rfl, ⟨h2, h1, trivial⟩, rfl⟩
theorem refFAddL_ok : Computes A Try.prog 42 (fun x : L6 × L6 × Unit => fAddL x.1 x.2.1) :=
  Computes.eq (refFAdd_of add6 sub6 addTop subTop p6 refAddL_ok refSubL_ok refPL_ok) (fun x => by rw [reducedL_nil]; rfl)

theorem topGe_lt (s : L6) (h : topGe s = false) : val6 s < pN := by
  have h1 : ¬ ((s.2.2.2.2.2.toNat : Int) ≥ 1873798617647539866) := of_decide_eq_false h
  obtain ⟨s0, s1, s2, s3, s4, s5⟩ := s
  have := s0.toNat_lt; have := s1.toNat_lt; have := s2.toNat_lt; have := s3.toNat_lt; have := s4.toNat_lt
  rw [pN_val]
  simp only [val6] at *
  omega
theorem fAdd_eq (s : L6) : (bif topGe s then reducedL s else s) = reducedL s := by
  cases h : topGe s with
  | true => rw [cond_true]
  | false =>
    rw [cond_false]
    have h1 := topGe_lt s h
    apply val6_inj
    rw [reducedL_val (by omega), Nat.mod_eq_of_lt h1]
theorem fAdd_limbs (x y : Fp) : fAddL (limbs x) (limbs y) = limbs (x + y) := by
  unfold fAddL
  rw [fAdd_eq, add_limbs]
theorem refFAdd_ok : Computes A Try.prog 42 (fun x : Fp × Fp × Unit => x.1 + x.2.1) :=
  refFAddL_ok.as (fun x => (limbs x.1, limbs x.2.1, ())) (fun _ _ _ _ => ⟨((), (), ()), ⟨trivial, trivial, trivial⟩, rfl⟩) (fun x => by rw [fAdd_limbs]; rfl)

theorem refFSub_of (D S : L6 → L6 → L6) (C B : L6 → L6 → Cy) (pp : L6) (hD : Computes A Try.prog 158 (fun x : L6 × L6 × Unit => T2.mk (D x.1 x.2.1) (C x.1 x.2.1)))
    (hS : Computes A Try.prog 148 (fun x : L6 × L6 × Unit => T2.mk (S x.1 x.2.1) (B x.1 x.2.1))) (hP : Computes A Try.prog 30 (fun _ : Unit => pp)) :
    Computes A Try.prog 44 (fun x : L6 × L6 × Unit => bif isOne (B x.1 x.2.1) then D (S x.1 x.2.1) pp else S x.1 x.2.1) := by
  refine computes_of_run (.cons hD.row (.cons hS.row (.cons hP.row (.nil _)))) Try.func44 (by kernel_rfl) (by kernel_rfl) 4 ?_
  rintro _ ⟨a, b, ⟨⟩⟩ W -
  simp only
  cases h1 : isOne (B a b) with
  | true => exact ⟨says [(16, true)], D (S a b) pp, [isOne (B a b) = true], by kernel_rfl, ⟨h1, trivial⟩, rfl⟩
  | false => exact ⟨says [(16, false)], S a b, [isOne (B a b) = false], by kernel_rfl, ⟨h1, trivial⟩, rfl⟩
theorem subL_one (a b : L6) : (bif isOne (subTop a b) then add6 (sub6 a b) p6 else sub6 a b) = subL a b := (nil_one (subTop a b) (sub6 a b) (add6 (sub6 a b) p6)).symm
theorem refFSubL_ok : Computes A Try.prog 44 (fun x : L6 × L6 × Unit => subL x.1 x.2.1) :=
  Computes.eq (refFSub_of add6 sub6 addTop subTop p6 refAddL_ok refSubL_ok refPL_ok) (fun x => subL_one x.1 x.2.1)
theorem refFSub_ok : Computes A Try.prog 44 (fun x : Fp × Fp × Unit => x.1 - x.2.1) :=
  refFSubL_ok.as (fun x => (limbs x.1, limbs x.2.1, ())) (fun _ _ _ _ => ⟨((), (), ()), ⟨trivial, trivial, trivial⟩, rfl⟩) (fun x => by rw [sub_limbs]; rfl)

end Go.Proofs.Ytbdbmcdcjejffaa
