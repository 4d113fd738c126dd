/- Squares and their roots; the law of the roots of a square of two places. -/
import Derived.Test.YtbdbmcdcjejffaaFlA
set_option linter.unusedVariables false
set_option linter.unusedSimpArgs false
set_option linter.unusedSectionVars false
namespace Go.Proofs.Ytbdbmcdcjejffaa
open Go Go.Sh

theorem quarter_n : PowK.n .quarter + PowK.n .quarter + (PowK.n .quarter + PowK.n .quarter) = pN - 1 + (1 + 1) := by
  show (pN + 1) / 4 + (pN + 1) / 4 + ((pN + 1) / 4 + (pN + 1) / 4) = pN - 1 + (1 + 1)
  rw [pN_val]
theorem fpow_p1 (x : Fp) : fpow x (pN - 1 + (1 + 1)) = x * x := by
  by_cases h : x = 0
  · subst h
    rw [Fin.mul_zero]
    exact zero_fpow (by omega)
  · rw [fpow_add, fermatF h, Fin.one_mul, fpow_add, fpow_one]
theorem root_sq (x : Fp) : rootR (x * x) * rootR (x * x) = x * x := by
  unfold rootR
  rw [mul_fpow, ← fpow_add, ← fpow_add, quarter_n, fpow_p1]
theorem sq_eq {a b : Fp} (h : a * a = b * b) : a = b ∨ a = -b := by
  have : (a - b) * (a + b) = 0 := by grind
  rcases mul_eq_zeroF this with e | e
  · left; grind
  · right; grind
theorem sqrt_sq (x : Fp) : (sqrtF (x * x)).b = true ∧ ((sqrtF (x * x)).a = x ∨ (sqrtF (x * x)).a = -x) := by
  have h := root_sq x
  have h2 := sq_eq h
  unfold sqrtF
  rw [if_pos h]
  split
  · refine ⟨rfl, ?_⟩
    show -rootR (x * x) = x ∨ -rootR (x * x) = -x
    rcases h2 with e | e <;> rw [e]
    · exact .inr rfl
    · left; grind
  · exact ⟨rfl, h2⟩

noncomputable def tblSolves (k : Nat) (Wd : List UInt8 → Fp) (O : UInt64 → Fp) (P D M : Fp → Fp → Fp) (Q I : Fp → Fp) (S : Fp → T2 Fp Bool) (E : Fp → Fp → Bool) : List (Row A) :=
  [rowOf A 25 (fun _ : Unit => true), lightRow k, rowOf A 35 (fun x : Bt × Unit => Wd x.1.l), rowOf A 38 (fun x : UInt64 × Unit => O x.1),
    rowOf A 41 (fun x : Fp × Fp × Unit => P x.1 x.2.1), rowOf A 43 (fun x : Fp × Fp × Unit => D x.1 x.2.1), rowOf A 45 (fun x : Fp × Fp × Unit => M x.1 x.2.1),
    rowOf A 47 (fun x : Fp × Unit => Q x.1), rowOf A 50 (fun x : Fp × Unit => I x.1), rowOf A 54 (fun x : Fp × Unit => S x.1),
    rowOf A 52 (fun x : Fp × Fp × Unit => E x.1 x.2.1)]

structure SolvesIs (O : UInt64 → Fp) (P D M : Fp → Fp → Fp) (Q I : Fp → Fp) (S : Fp → T2 Fp Bool) (E : Fp → Fp → Bool) : Prop where
  h1 : ∀ a b, (S (D (Q (P a b)) (M (M a b) (O 4)))).b = true
  h2 : ∀ a b, E (M (P (P a b) (S (D (Q (P a b)) (M (M a b) (O 4)))).a) (I (O 2))) a = true → E (M (D (P a b) (S (D (Q (P a b)) (M (M a b) (O 4)))).a) (I (O 2))) b = true
  h3 : ∀ a b, E (M (P (P a b) (S (D (Q (P a b)) (M (M a b) (O 4)))).a) (I (O 2))) a = false → E (M (P (P a b) (S (D (Q (P a b)) (M (M a b) (O 4)))).a) (I (O 2))) b = true ∧ E (M (D (P a b) (S (D (Q (P a b)) (M (M a b) (O 4)))).a) (I (O 2))) a = true

theorem solves_of (Wd : List UInt8 → Fp) (O : UInt64 → Fp) (P D M : Fp → Fp → Fp) (Q I : Fp → Fp) (S : Fp → T2 Fp Bool) (E : Fp → Fp → Bool) (ht : ∀ k, TblOK Try.prog (tblSolves k Wd O P D M Q I S E)) (h : SolvesIs O P D M Q I S E) :
    Computes A Try.prog 6 (fun _ : Bs × Bs × Unit => true) := by
  refine computes_of_runT0 Try.func6 (by kernel_rfl) (by kernel_rfl) 8 ?_
  rintro ⟨g1, g2, _⟩ ⟨⟨x⟩, ⟨y⟩, ⟨⟩⟩ W ⟨k1, k2, _⟩
  have k1 : HasBytes W x g1 := k1
  have k2 : HasBytes W y g2 := k2
  by_cases hx : x.length ≤ 128
  · by_cases hy : y.length ≤ 128
    · obtain ⟨a, ha⟩ : ∃ a, a = Wd (partB x 0 x.length) := ⟨_, rfl⟩
      obtain ⟨b, hb⟩ : ∃ b, b = Wd (partB y 0 y.length) := ⟨_, rfl⟩
      have rest : All [(S (D (Q (P a b)) (M (M a b) (O 4)))).b = true, (partB y 0 y.length).length < 1048576, ReadB W g2 y, AllU8 y, (partB x 0 x.length).length < 1048576, ReadB W g1 x, AllU8 x,
            decide ((y.length : Int) > 128) = false, decide ((x.length : Int) > 128) = false, true = true] :=
          ⟨h.h1 a b, shortB hy, readB k2, allU8 y, shortB hx, readB k1, allU8 x, decide_eq_false (by omega), decide_eq_false (by omega), rfl, trivial⟩
      refine ⟨_, ht 0, ?_⟩
      cases hu : E (M (P (P a b) (S (D (Q (P a b)) (M (M a b) (O 4)))).a) (I (O 2))) a with
      | true =>
        refine ⟨saysY [], _, (E (M (D (P a b) (S (D (Q (P a b)) (M (M a b) (O 4)))).a) (I (O 2))) b = true) :: (E (M (P (P a b) (S (D (Q (P a b)) (M (M a b) (O 4)))).a) (I (O 2))) a = true) :: _, ?_, All.cons (h.h2 a b hu) (All.cons hu rest), rfl⟩
        subst ha hb
        kernel_rfl
      | false =>
        refine ⟨saysY [(57, false)], _, (E (M (D (P a b) (S (D (Q (P a b)) (M (M a b) (O 4)))).a) (I (O 2))) a = true) :: (E (M (P (P a b) (S (D (Q (P a b)) (M (M a b) (O 4)))).a) (I (O 2))) b = true) :: (E (M (P (P a b) (S (D (Q (P a b)) (M (M a b) (O 4)))).a) (I (O 2))) a = false) :: _, ?_, All.cons (h.h3 a b hu).2 (All.cons (h.h3 a b hu).1 (All.cons hu rest)), rfl⟩
        subst ha hb
        kernel_rfl
    · exact ⟨_, ht 2, saysY [], true, [decide ((y.length : Int) > 128) = true, decide ((x.length : Int) > 128) = false, true = true], by kernel_rfl, ⟨decide_eq_true (by omega), decide_eq_false (by omega), rfl, trivial⟩, rfl⟩
  · exact ⟨_, ht 1, saysY [], true, [decide ((x.length : Int) > 128) = true, true = true], by kernel_rfl, ⟨decide_eq_true (by omega), rfl, trivial⟩, rfl⟩

theorem tblSolves_ok (k : Nat) : TblOK Try.prog (tblSolves k wideF fpOf (fun a b => a + b) (fun a b => a - b) (fun a b => a * b) (fun a => a * a) invF sqrtF (fun a b => decide (a = b))) :=
  .cons known_ok.row (.cons (lightRow_ok k) (.cons wide_ok.row (.cons of_ok.row (.cons add_ok.row (.cons sub_ok.row (.cons mul_ok.row (.cons sq_ok.row (.cons inv_ok.row (.cons sqrt_ok.row (.cons equal_ok.row (.nil _)))))))))))

theorem fpOf2 : fpOf 2 = 1 + 1 := by kernel_rfl
theorem fpOf4 : fpOf 4 = (1 + 1) * (1 + 1) := by kernel_rfl
theorem two_inv : (1 + 1) * invF (fpOf 2) = 1 := by
  have h : fpOf 2 ≠ 0 := by intro h; exact absurd (congrArg Fin.val h) (by decide)
  have := mul_invF h
  rwa [fpOf2] at this ⊢
theorem disc (a b : Fp) : (a + b) * (a + b) - a * b * fpOf 4 = (a - b) * (a - b) := by rw [fpOf4]; grind
theorem solve_of (s t d h x y : Fp) (hh : (1 + 1) * h = 1) (hs : s = x + y) (hd : d = x - y) : (s + d) * h = x ∧ (s - d) * h = y := by
  subst hs hd
  constructor <;> grind

theorem solves_ok : Computes A Try.prog 6 (fun _ : Bs × Bs × Unit => true) := by
  have key : ∀ a b : Fp, (sqrtF ((a + b) * (a + b) - a * b * fpOf 4)).b = true ∧ (((a + b + (sqrtF ((a + b) * (a + b) - a * b * fpOf 4)).a) * invF (fpOf 2) = a ∧ (a + b - (sqrtF ((a + b) * (a + b) - a * b * fpOf 4)).a) * invF (fpOf 2) = b) ∨
      ((a + b + (sqrtF ((a + b) * (a + b) - a * b * fpOf 4)).a) * invF (fpOf 2) = b ∧ (a + b - (sqrtF ((a + b) * (a + b) - a * b * fpOf 4)).a) * invF (fpOf 2) = a)) := by
    intro a b
    rw [disc]
    obtain ⟨h1, h2⟩ := sqrt_sq (a - b)
    refine ⟨h1, ?_⟩
    rcases h2 with e | e
    · left; exact solve_of _ 0 _ _ a b two_inv rfl e
    · right; exact solve_of _ 0 _ _ b a two_inv (fp_add_comm a b) (by rw [e]; grind)
  refine solves_of _ _ _ _ _ _ _ _ _ tblSolves_ok ⟨fun a b => (key a b).1, fun a b h => ?_, fun a b h => ?_⟩
  · have h := of_decide_eq_true h
    refine decide_eq_true ?_
    rcases (key a b).2 with e | e
    · exact e.2
    · have : a = b := h.symm.trans e.1
      exact e.2.trans this
  · have h := of_decide_eq_false h
    rcases (key a b).2 with e | e
    · exact absurd e.1 h
    · exact ⟨decide_eq_true e.1, decide_eq_true e.2⟩

end Go.Proofs.Ytbdbmcdcjejffaa
