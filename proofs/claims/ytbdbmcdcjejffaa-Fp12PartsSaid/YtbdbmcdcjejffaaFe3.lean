/- The reference's product on words. -/
import Derived.Test.YtbdbmcdcjejffaaFe2
set_option linter.unusedVariables false
set_option linter.unusedSimpArgs false
set_option linter.unusedSectionVars false
namespace Go.Proofs.Ytbdbmcdcjejffaa
open Go Go.Sh

/-- a x + t + w, in two parts, as the reference takes it. -/
def m0T (a x t : UInt64) : UInt64 := adcS t (mulLo a x) ⟨false⟩
def m0W (a x t : UInt64) : UInt64 := u64 (((mulHi a x).toNat : Int) + (cond (adcC t (mulLo a x) ⟨false⟩).on 1 0 : Int))
def mT (a x t w : UInt64) : UInt64 := adcS t (adcS (mulLo a x) w ⟨false⟩) ⟨false⟩
def mW (a x t w : UInt64) : UInt64 := u64 (((u64 (((mulHi a x).toNat : Int) + (cond (adcC (mulLo a x) w ⟨false⟩).on 1 0 : Int))).toNat : Int) + (cond (adcC t (adcS (mulLo a x) w ⟨false⟩) ⟨false⟩).on 1 0 : Int))

theorem cond_n (c : Cy) : (cond c.on 1 0 : Int) = (c.n : Int) := by obtain ⟨b⟩ := c; cases b <;> rfl

theorem mT_eq (a x t w : UInt64) : mT a x t w = maddLo x a t w ∧ mW a x t w = maddHi x a t w := by
  have h1 := mulHi_nat a x
  have h2 := mulLo_nat a x
  have h3 := mul_bound a x
  have h4 := adc_nat (mulLo a x) w ⟨false⟩
  have h5 := adc_nat t (adcS (mulLo a x) w ⟨false⟩) ⟨false⟩
  have l1 := (adcC (mulLo a x) w ⟨false⟩).le
  have l2 := (adcC t (adcS (mulLo a x) w ⟨false⟩) ⟨false⟩).le
  have f : (⟨false⟩ : Cy).n = 0 := rfl
  rw [f] at h4 h5
  have c1 := w.toNat_lt
  have c2 := t.toNat_lt
  have c3 := (adcS t (adcS (mulLo a x) w ⟨false⟩) ⟨false⟩).toNat_lt
  have c4 := (adcS (mulLo a x) w ⟨false⟩).toNat_lt
  have hm : maddN x a t w = a.toNat * x.toNat + t.toNat + w.toNat := by unfold maddN; rw [Nat.mul_comm]
  constructor
  · apply UInt64.toNat_inj.1
    rw [maddLo_nat, hm]
    simp only [mT]
    generalize a.toNat * x.toNat = m at *
    omega
  · apply UInt64.toNat_inj.1
    rw [maddHi_nat, hm]
    simp only [mW, cond_n]
    have e1 : (u64 (((mulHi a x).toNat : Int) + ((adcC (mulLo a x) w ⟨false⟩).n : Int))).toNat = (mulHi a x).toNat + (adcC (mulLo a x) w ⟨false⟩).n := by
      have : (((mulHi a x).toNat : Int) + ((adcC (mulLo a x) w ⟨false⟩).n : Int)) = (((mulHi a x).toNat + (adcC (mulLo a x) w ⟨false⟩).n : Nat) : Int) := by simp
      rw [this, u64_nat]
      generalize a.toNat * x.toNat = m at *
      omega
    rw [e1]
    have : ((((mulHi a x).toNat + (adcC (mulLo a x) w ⟨false⟩).n : Nat) : Int) + ((adcC t (adcS (mulLo a x) w ⟨false⟩) ⟨false⟩).n : Int)) = (((mulHi a x).toNat + (adcC (mulLo a x) w ⟨false⟩).n + (adcC t (adcS (mulLo a x) w ⟨false⟩) ⟨false⟩).n : Nat) : Int) := by simp
    rw [this, u64_nat]
    generalize a.toNat * x.toNat = m at *
    omega

theorem m0T_eq (a x t : UInt64) : m0T a x t = maddLo x a t (UInt64.ofNat 0) ∧ m0W a x t = maddHi x a t (UInt64.ofNat 0) := by
  have h1 := mulHi_nat a x
  have h2 := mulLo_nat a x
  have h3 := mul_bound a x
  have h5 := adc_nat t (mulLo a x) ⟨false⟩
  have l2 := (adcC t (mulLo a x) ⟨false⟩).le
  have f : (⟨false⟩ : Cy).n = 0 := rfl
  rw [f] at h5
  have c2 := t.toNat_lt
  have c3 := (adcS t (mulLo a x) ⟨false⟩).toNat_lt
  have z : (UInt64.ofNat 0).toNat = 0 := rfl
  have hm : maddN x a t (UInt64.ofNat 0) = a.toNat * x.toNat + t.toNat := by unfold maddN; rw [Nat.mul_comm, z]; rfl
  constructor
  · apply UInt64.toNat_inj.1
    rw [maddLo_nat, hm]
    simp only [m0T]
    generalize a.toNat * x.toNat = m at *
    omega
  · apply UInt64.toNat_inj.1
    rw [maddHi_nat, hm]
    simp only [m0W, cond_n]
    have : (((mulHi a x).toNat : Int) + ((adcC t (mulLo a x) ⟨false⟩).n : Int)) = (((mulHi a x).toNat + (adcC t (mulLo a x) ⟨false⟩).n : Nat) : Int) := by simp
    rw [this, u64_nat]
    generalize a.toNat * x.toNat = m at *
    omega

/-- One row. -/
def rowR (a t : L6) (x : UInt64) : L6 :=
  let T0 := m0T a.1 x t.1
  let w0 := m0W a.1 x t.1
  let T1 := mT a.2.1 x t.2.1 w0
  let w1 := mW a.2.1 x t.2.1 w0
  let T2 := mT a.2.2.1 x t.2.2.1 w1
  let w2 := mW a.2.2.1 x t.2.2.1 w1
  let T3 := mT a.2.2.2.1 x t.2.2.2.1 w2
  let w3 := mW a.2.2.2.1 x t.2.2.2.1 w2
  let T4 := mT a.2.2.2.2.1 x t.2.2.2.2.1 w3
  let w4 := mW a.2.2.2.2.1 x t.2.2.2.2.1 w3
  let T5 := mT a.2.2.2.2.2 x t.2.2.2.2.2 w4
  let w5 := mW a.2.2.2.2.2 x t.2.2.2.2.2 w4
  let m := u64 ((T0.toNat : Int) * 9940570264628428797)
  let v0 := m0W m p6.1 T0
  let v1 := mW m p6.2.1 T1 v0
  let v2 := mW m p6.2.2.1 T2 v1
  let v3 := mW m p6.2.2.2.1 T3 v2
  let v4 := mW m p6.2.2.2.2.1 T4 v3
  let v5 := mW m p6.2.2.2.2.2 T5 v4
  (mT m p6.2.1 T1 v0, mT m p6.2.2.1 T2 v1, mT m p6.2.2.2.1 T3 v2, mT m p6.2.2.2.2.1 T4 v3, mT m p6.2.2.2.2.2 T5 v4, u64 ((w5.toNat : Int) + v5.toNat))

theorem madd_comm (a b c d : UInt64) : maddLo a b c d = maddLo b a c d ∧ maddHi a b c d = maddHi b a c d := by
  have : maddN a b c d = maddN b a c d := by unfold maddN; rw [Nat.mul_comm]
  unfold maddLo maddHi
  rw [this]
  exact ⟨rfl, rfl⟩

theorem rowR_eq (a t : L6) (x : UInt64) : rowR a t x = rnd a t x := by
  have e1 : ∀ q p l d, maddLo p q l d = maddLo q p l d := fun q p l d => (madd_comm p q l d).1
  simp only [rowR, rnd, fun a x t => (m0T_eq a x t).1, fun a x t => (m0T_eq a x t).2, fun a x t w => (mT_eq a x t w).1, fun a x t w => (mT_eq a x t w).2]
  obtain ⟨q, hq⟩ : ∃ q, q = u64 (((maddLo x a.1 t.1 (UInt64.ofNat 0)).toNat : Int) * 9940570264628428797) := ⟨_, rfl⟩
  simp only [← hq, p6, fun p l d => (madd_comm p q l d).1, fun p l d => (madd_comm p q l d).2]

def tblQ : List (Row A) := rowOf A 148 (fun x : L6 × L6 × Unit => T2.mk (sub6 x.1 x.2.1) (subTop x.1 x.2.1)) :: rowOf A 30 (fun _ : Unit => p6) :: tblB
theorem refPL_ok : Computes A Try.prog 30 (fun _ : Unit => p6) :=
  computes_of_run0 (TblOK.nil _) Try.func30 (by kernel_rfl) (by kernel_rfl) 8 (fun _ _ _ => by kernel_rfl)
theorem tblQ_ok : TblOK Try.prog tblQ := .cons refSubL_ok.row (.cons refPL_ok.row tblB_ok)

/-- The reference's product's loop, at its head. -/
def monSt (a b t : L6) (k : Nat) : St A :=
  ⟨slots 0 322 ([(2, .val false [.p 0 0]), (3, .val false [.p 1 0]), (4, .val false [.p 2 0])] ++ ((sv6 t).zipIdx 5).map (fun x => (x.2, .val false [x.1])) ++ [(11, .val false [.v (.int .i64 k)])]),
   [some ⟨sv6 a, 31, false⟩, some ⟨sv6 b, 31, false⟩, some ⟨lit6, 31, false⟩], 0, [], []⟩

theorem mon_round (a b t : L6) (c : Cfg A) (e1 : c.P = Try.prog) (e2 : c.gl = fun _ => none) (e4 : c.ys = []) (k : Nat) (hk : k < 6) :
    Round c (loopNo Try.f152 3) (monSt a b t k) .normal (monSt a b (rowR a t (lim k b)) (k + 1)) := by
  have : k = 0 ∨ k = 1 ∨ k = 2 ∨ k = 3 ∨ k = 4 ∨ k = 5 := by omega
  rcases this with rfl | rfl | rfl | rfl | rfl | rfl
  · exact Round.of0 tblQ_ok (fun _ _ => .keep) 4 [] (by kernel_rfl) trivial (by kernel_rfl) (by kernel_rfl) e1 e2 rfl e4
  · exact Round.of0 tblQ_ok (fun _ _ => .keep) 4 [] (by kernel_rfl) trivial (by kernel_rfl) (by kernel_rfl) e1 e2 rfl e4
  · exact Round.of0 tblQ_ok (fun _ _ => .keep) 4 [] (by kernel_rfl) trivial (by kernel_rfl) (by kernel_rfl) e1 e2 rfl e4
  · exact Round.of0 tblQ_ok (fun _ _ => .keep) 4 [] (by kernel_rfl) trivial (by kernel_rfl) (by kernel_rfl) e1 e2 rfl e4
  · exact Round.of0 tblQ_ok (fun _ _ => .keep) 4 [] (by kernel_rfl) trivial (by kernel_rfl) (by kernel_rfl) e1 e2 rfl e4
  · exact Round.of0 tblQ_ok (fun _ _ => .keep) 4 [] (by kernel_rfl) trivial (by kernel_rfl) (by kernel_rfl) e1 e2 rfl e4

theorem mon_loop (old : Addr → Option Value) (a b : L6) : SoundFor Try.prog old [] (.loop (loopNo Try.f152 3)) (monSt a b zero6 0) (.exit 0) (monSt a b (mulT b a 6) 6) := by
  intro c e1 e2 _ e4
  refine loopAt (inv := fun k => monSt a b (mulT b a k) k) (N := 6) (by simp) (fun k hk => ?_) ?_
  · have := mon_round a b (mulT b a k) c e1 e2 e4 k hk
    rw [rowR_eq] at this
    exact this
  · obtain ⟨T, hT⟩ : ∃ T, T = mulT b a 6 := ⟨_, rfl⟩
    simp only [← hT]
    exact Round.of0 tblQ_ok (fun _ _ => .keep) 4 [] (by kernel_rfl) trivial (by kernel_rfl) (by kernel_rfl) e1 e2 rfl e4

end Go.Proofs.Ytbdbmcdcjejffaa

/- The reference's elements: sums, differences, products, opposites. -/
namespace Go.Proofs.Ytbdbmcdcjejffaa
open Go Go.Sh

/-- The reference's product, whatever the reduction is. -/
theorem refMont_of (S : L6 → L6 → L6) (B : L6 → L6 → Cy) (pp : L6) (hS : Computes A Try.prog 148 (fun x : L6 × L6 × Unit => T2.mk (S x.1 x.2.1) (B x.1 x.2.1))) (hP : Computes A Try.prog 30 (fun _ : Unit => pp)) :
    Computes A Try.prog 152 (fun x : L6 × L6 × Unit => bif isNil (B (mulRaw x.2.1 x.1) pp) then S (mulRaw x.2.1 x.1) pp else mulRaw x.2.1 x.1) := by
  refine computes_of_runW (.cons hS.row (.cons hP.row (.nil _))) (ITblOK.nil _) Try.func152 (by kernel_rfl) (by kernel_rfl) 4 ?_
  rintro _ ⟨a, b, ⟨⟩⟩ W -
  have hs := mon_loop W.cell? a b
  simp only
  obtain ⟨T, hT⟩ : ∃ T, T = mulRaw b a := ⟨_, rfl⟩
  have hs : SoundFor Try.prog W.cell? [] (.loop (loopNo Try.f152 3)) (monSt a b zero6 0) (.exit 0) (monSt a b T 6) := by rw [hT]; exact hs
  have hl : ∀ body, Try.f152.body = some body → LoopsFor Try.prog W.cell? [] (lps [(3, monSt a b zero6 0, .exit 0, monSt a b T 6)]) body := by
    intro body hb
    refine LoopsFor.cons ?_ hs LoopsFor.nil
    obtain rfl := Option.some.inj hb
    kernel_rfl
  rw [← hT]
  cases hc : isNil (B T pp) with
  | true => exact ⟨says [(319, true)], lps [(3, monSt a b zero6 0, .exit 0, monSt a b T 6)], S T pp, [isNil (B T pp) = true, ToldIs (monSt a b zero6 0)], by kernel_rfl, ⟨hc, toldIs _, trivial⟩, rfl, hl⟩
  | false => exact ⟨says [(319, false)], lps [(3, monSt a b zero6 0, .exit 0, monSt a b T 6)], T, [isNil (B T pp) = false, ToldIs (monSt a b zero6 0)], by kernel_rfl, ⟨hc, toldIs _, trivial⟩, rfl, hl⟩

theorem nil_one (c : Cy) (r l : L6) : (bif isNil c then r else l) = (bif isOne c then l else r) := by
  rw [isOne_eq, isNil_eq]
  cases c.on <;> rfl
theorem reducedL_nil (l : L6) : (bif isNil (subTop l p6) then sub6 l p6 else l) = reducedL l := nil_one (subTop l p6) (sub6 l p6) l
theorem refMontL_ok : Computes A Try.prog 152 (fun x : L6 × L6 × Unit => reducedL (mulRaw x.2.1 x.1)) :=
  Computes.eq (refMont_of sub6 subTop p6 refSubL_ok refPL_ok) (fun _ => reducedL_nil _)

theorem refMont_ok : Computes A Try.prog 152 (fun x : Fp × Fp × Unit => x.1 * x.2.1) :=
  refMontL_ok.as (fun x => (limbs x.1, limbs x.2.1, ())) (fun _ _ _ _ => ⟨((), (), ()), ⟨trivial, trivial, trivial⟩, rfl⟩) (fun x => by rw [mul_limbs, Fin.mul_comm]; rfl)

def tblR : List (Row A) := [rowOf A 152 (fun x : Fp × Fp × Unit => x.1 * x.2.1)]
theorem tblR_ok : TblOK Try.prog tblR := .cons refMont_ok.row (.nil _)
theorem refMul_ok : Computes A Try.prog 46 (fun x : Fp × Fp × Unit => x.1 * x.2.1) :=
  computes_of_run0 tblR_ok Try.func46 (by kernel_rfl) (by kernel_rfl) 4 (fun _ _ _ => by kernel_rfl)
theorem refNumberF_ok : Computes A Try.prog 151 (fun x : Fp × Unit => x.1 * iF) :=
  computes_of_run0 tblR_ok Try.func151 (by kernel_rfl) (by kernel_rfl) 4 (fun _ _ _ => by kernel_rfl)
theorem refNumber_ok : Computes A Try.prog 151 (fun x : Fp × Unit => fpNum x.1) :=
  refNumberF_ok.as (fun x => x) (fun gh _ _ hg => ⟨gh, hg, rfl⟩) (fun x => by
    show Value.agg (cells6 (limbs (x.1 * iF))).toArray = Value.agg (cells6 (numL (fpNum x.1))).toArray
    rw [limbs_iF]; rfl)

theorem refOf_of (F : L6 → L6 → L6) (hF : Computes A Try.prog 152 (fun x : L6 × L6 × Unit => F x.1 x.2.1)) : Computes A Try.prog 36 (fun x : L6 × Unit => F x.1 sq6) :=
  computes_of_run0 (.cons hF.row (.cons refTwoL_ok.row (.nil _))) Try.func36 (by kernel_rfl) (by kernel_rfl) 8 (fun _ _ _ => by kernel_rfl)
theorem refOfL_ok : Computes A Try.prog 36 (fun x : L6 × Unit => reducedL (mulRaw sq6 x.1)) := refOf_of (fun a b => reducedL (mulRaw b a)) refMontL_ok
theorem made_limbs' (a : Pl) : reducedL (mulRaw sq6 (numL a.num)) = limbs a.x := by
  have e : numL a.num = limbs (a.x * iF) := (limbs_iF a.x).symm
  rw [e, sq6_eq, mul_limbs]
  have : rF * (a.x * iF) = a.x := by rw [Fin.mul_comm, Fin.mul_assoc, iF_rF, Fin.mul_one]
  rw [this]
theorem refOf_ok : Computes A Try.prog 36 (fun x : Pl × Unit => x.1.x) :=
  refOfL_ok.as (fun x => (numL x.1.num, ())) (fun _ _ _ _ => ⟨((), ()), ⟨trivial, trivial⟩, rfl⟩) (fun x => by rw [made_limbs']; rfl)

def tblS : List (Row A) := [rowOf A 36 (fun x : Pl × Unit => x.1.x)]
theorem tblS_ok : TblOK Try.prog tblS := .cons refOf_ok.row (.nil _)
theorem refSmall_ok : Computes A Try.prog 39 (fun x : UInt64 × Unit => fpOf x.1) := by
  refine Computes.eq (f := fun x : UInt64 × Unit => (plOf (smallN x.1)).x) ?_ (fun x => Fin.ext ?_)
  · refine computes_of_run tblS_ok Try.func39 (by kernel_rfl) (by kernel_rfl) 8 ?_
    rintro _ ⟨n, ⟨⟩⟩ W -
    exact ⟨fun _ _ => .keep, _, _, (by kernel_rfl : _ = some (some (plOf (smallN n)).x, [(smallN n).val < pN])), All.cons (smallN_lt n) All.nil, rfl⟩
  · show (smallN x.1).val % pN = x.1.toNat
    rw [smallN_val, Nat.mod_eq_of_lt (Nat.lt_trans x.1.toNat_lt (by decide))]

/-! ### What is the same; 0 -/
def eqL (a b : L6) : Bool := ((a.1.toNat : Int) == b.1.toNat) && (((a.2.1.toNat : Int) == b.2.1.toNat) && (((a.2.2.1.toNat : Int) == b.2.2.1.toNat) && (((a.2.2.2.1.toNat : Int) == b.2.2.2.1.toNat) && (((a.2.2.2.2.1.toNat : Int) == b.2.2.2.2.1.toNat) && (((a.2.2.2.2.2.toNat : Int) == b.2.2.2.2.2.toNat) && true)))))
theorem eqL_eq (a b : L6) : eqL a b = decide (a = b) := by
  obtain ⟨a0, a1, a2, a3, a4, a5⟩ := a
  obtain ⟨b0, b1, b2, b3, b4, b5⟩ := b
  have h : ∀ x y : UInt64, ((x.toNat : Int) == y.toNat) = decide (x = y) := fun x y => by
    by_cases e : x = y
    · subst e; simp
    · have : (x.toNat : Int) ≠ y.toNat := fun h' => e (UInt64.toNat_inj.1 (by omega))
      simp [e, this]
  simp only [eqL, h, Prod.mk.injEq, Bool.and_true, Bool.decide_and]
theorem limbs_inj {x y : Fp} (h : limbs x = limbs y) : x = y := by
  have h1 := congrArg val6 h
  rw [val6_limbs, val6_limbs] at h1
  have e : ∀ z : Fp, z.val = mont z * i384 % pN := by
    intro z
    rw [mont_eq, mul_mod3, Nat.mul_assoc, Nat.mul_mod, i384_r, Nat.mul_one, Nat.mod_mod, Nat.mod_eq_of_lt z.isLt]
  exact Fin.ext (by rw [e x, e y, h1])
theorem eqF (x y : Fp) : eqL (limbs x) (limbs y) = decide (x = y) := by
  rw [eqL_eq]
  by_cases h : x = y
  · subst h; simp
  · have : limbs x ≠ limbs y := fun e => h (limbs_inj e)
    simp [h, this]
theorem limbs_zero : limbs 0 = (0, 0, 0, 0, 0, 0) := by kernel_rfl

theorem equal_ok : Computes A Try.prog 52 (fun x : Fp × Fp × Unit => decide (x.1 = x.2.1)) :=
  Computes.eq (f := fun x : Fp × Fp × Unit => eqL (limbs x.1) (limbs x.2.1)) (computes_of_run0 (TblOK.nil _) Try.func52 (by kernel_rfl) (by kernel_rfl) 4 (fun _ _ _ => by kernel_rfl)) (fun x => eqF x.1 x.2.1)
def isZeroL (a : L6) : Bool := eqL a (0, 0, 0, 0, 0, 0)
theorem isZeroF (x : Fp) : isZeroL (limbs x) = decide (x = 0) := by
  unfold isZeroL; rw [← limbs_zero, eqF]
theorem isZero_ok : Computes A Try.prog 31 (fun x : Fp × Unit => decide (x.1 = 0)) :=
  Computes.eq (f := fun x : Fp × Unit => isZeroL (limbs x.1)) (computes_of_run0 (TblOK.nil _) Try.func31 (by kernel_rfl) (by kernel_rfl) 4 (fun _ _ _ => by kernel_rfl)) (fun x => isZeroF x.1)
theorem refIsZero_ok : Computes A Try.prog 53 (fun x : Fp × Unit => decide (x.1 = 0)) :=
  Computes.eq (f := fun x : Fp × Unit => isZeroL (limbs x.1)) (computes_of_run0 (TblOK.nil _) Try.func53 (by kernel_rfl) (by kernel_rfl) 4 (fun _ _ _ => by kernel_rfl)) (fun x => isZeroF x.1)

/-! ### Sums, differences, opposites -/
def tblT : List (Row A) := [rowOf A 43 (fun x : Fp × Fp × Unit => x.1 - x.2.1), rowOf A 45 (fun x : Fp × Fp × Unit => x.1 * x.2.1)]
theorem tblT_ok : TblOK Try.prog tblT := .cons sub_ok.row (.cons mul_ok.row (.nil _))
theorem neg_ok : Computes A Try.prog 48 (fun x : Fp × Unit => -x.1) :=
  Computes.eq (f := fun x : Fp × Unit => (0 : Fp) - x.1) (computes_of_run0 tblT_ok Try.func48 (by kernel_rfl) (by kernel_rfl) 4 (fun _ _ _ => by kernel_rfl)) (fun x => by grind)
theorem sq_ok : Computes A Try.prog 47 (fun x : Fp × Unit => x.1 * x.1) :=
  computes_of_run0 tblT_ok Try.func47 (by kernel_rfl) (by kernel_rfl) 4 (fun _ _ _ => by kernel_rfl)

def topGe (s : L6) : Bool := decide ((s.2.2.2.2.2.toNat : Int) ≥ 1873798617647539866)
def fAddL (a b : L6) : L6 := bif topGe (add6 a b) then reducedL (add6 a b) else add6 a b
theorem refFAdd_of (D S : L6 → L6 → L6) (C B : L6 → L6 → Cy) (pp : L6) (hD : Computes A Try.prog 158 (fun x : L6 × L6 × Unit => T2.mk (D x.1 x.2.1) (C x.1 x.2.1)))
    (hS : Computes A Try.prog 148 (fun x : L6 × L6 × Unit => T2.mk (S x.1 x.2.1) (B x.1 x.2.1))) (hP : Computes A Try.prog 30 (fun _ : Unit => pp)) :
    Computes A Try.prog 42 (fun x : L6 × L6 × Unit => bif topGe (D x.1 x.2.1) then (bif isNil (B (D x.1 x.2.1) pp) then S (D x.1 x.2.1) pp else D x.1 x.2.1) else D x.1 x.2.1) := by
  refine computes_of_run (.cons hD.row (.cons hS.row (.cons hP.row (.nil _)))) Try.func42 (by kernel_rfl) (by kernel_rfl) 4 ?_
  rintro _ ⟨a, b, ⟨⟩⟩ W -
  simp only
  cases h1 : topGe (D a b) with
  | false => exact ⟨says [(19, false)], D a b, [topGe (D a b) = false], by kernel_rfl, ⟨h1, trivial⟩, rfl⟩
  | true =>
    cases h2 : isNil (B (D a b) pp) with
    | true => exact ⟨says [(19, true), (27, true)], S (D a b) pp, [isNil (B (D a b) pp) = true, topGe (D a b) = true], by kernel_rfl, ⟨h2, h1, trivial⟩, rfl⟩
    | false => exact ⟨says [(19, true), (27, false)], D a b, [isNil (B (D a b) pp) = false, topGe (D a b) = true], by kernel_rfl, ⟨h2, h1, trivial⟩, rfl⟩
theorem refFAddL_ok : Computes A Try.prog 42 (fun x : L6 × L6 × Unit => fAddL x.1 x.2.1) :=
  Computes.eq (refFAdd_of add6 sub6 addTop subTop p6 refAddL_ok refSubL_ok refPL_ok) (fun x => by rw [reducedL_nil]; rfl)

theorem topGe_lt (s : L6) (h : topGe s = false) : val6 s < pN := by
  have h1 : ¬ ((s.2.2.2.2.2.toNat : Int) ≥ 1873798617647539866) := of_decide_eq_false h
  obtain ⟨s0, s1, s2, s3, s4, s5⟩ := s
  have := s0.toNat_lt; have := s1.toNat_lt; have := s2.toNat_lt; have := s3.toNat_lt; have := s4.toNat_lt
  rw [pN_val]
  simp only [val6] at *
  omega
theorem fAdd_eq (s : L6) : (bif topGe s then reducedL s else s) = reducedL s := by
  cases h : topGe s with
  | true => rw [cond_true]
  | false =>
    rw [cond_false]
    have h1 := topGe_lt s h
    apply val6_inj
    rw [reducedL_val (by omega), Nat.mod_eq_of_lt h1]
theorem fAdd_limbs (x y : Fp) : fAddL (limbs x) (limbs y) = limbs (x + y) := by
  unfold fAddL
  rw [fAdd_eq, add_limbs]
theorem refFAdd_ok : Computes A Try.prog 42 (fun x : Fp × Fp × Unit => x.1 + x.2.1) :=
  refFAddL_ok.as (fun x => (limbs x.1, limbs x.2.1, ())) (fun _ _ _ _ => ⟨((), (), ()), ⟨trivial, trivial, trivial⟩, rfl⟩) (fun x => by rw [fAdd_limbs]; rfl)

theorem refFSub_of (D S : L6 → L6 → L6) (C B : L6 → L6 → Cy) (pp : L6) (hD : Computes A Try.prog 158 (fun x : L6 × L6 × Unit => T2.mk (D x.1 x.2.1) (C x.1 x.2.1)))
    (hS : Computes A Try.prog 148 (fun x : L6 × L6 × Unit => T2.mk (S x.1 x.2.1) (B x.1 x.2.1))) (hP : Computes A Try.prog 30 (fun _ : Unit => pp)) :
    Computes A Try.prog 44 (fun x : L6 × L6 × Unit => bif isOne (B x.1 x.2.1) then D (S x.1 x.2.1) pp else S x.1 x.2.1) := by
  refine computes_of_run (.cons hD.row (.cons hS.row (.cons hP.row (.nil _)))) Try.func44 (by kernel_rfl) (by kernel_rfl) 4 ?_
  rintro _ ⟨a, b, ⟨⟩⟩ W -
  simp only
  cases h1 : isOne (B a b) with
  | true => exact ⟨says [(16, true)], D (S a b) pp, [isOne (B a b) = true], by kernel_rfl, ⟨h1, trivial⟩, rfl⟩
  | false => exact ⟨says [(16, false)], S a b, [isOne (B a b) = false], by kernel_rfl, ⟨h1, trivial⟩, rfl⟩
theorem subL_one (a b : L6) : (bif isOne (subTop a b) then add6 (sub6 a b) p6 else sub6 a b) = subL a b := (nil_one (subTop a b) (sub6 a b) (add6 (sub6 a b) p6)).symm
theorem refFSubL_ok : Computes A Try.prog 44 (fun x : L6 × L6 × Unit => subL x.1 x.2.1) :=
  Computes.eq (refFSub_of add6 sub6 addTop subTop p6 refAddL_ok refSubL_ok refPL_ok) (fun x => subL_one x.1 x.2.1)
theorem refFSub_ok : Computes A Try.prog 44 (fun x : Fp × Fp × Unit => x.1 - x.2.1) :=
  refFSubL_ok.as (fun x => (limbs x.1, limbs x.2.1, ())) (fun _ _ _ _ => ⟨((), (), ()), ⟨trivial, trivial, trivial⟩, rfl⟩) (fun x => by rw [sub_limbs]; rfl)

end Go.Proofs.Ytbdbmcdcjejffaa
