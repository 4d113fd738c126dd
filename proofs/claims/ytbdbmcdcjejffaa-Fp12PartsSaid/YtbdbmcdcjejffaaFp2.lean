/- The laws of fp's: FpReckons, FpRoots, walked over variables. -/
import Derived.Test.YtbdbmcdcjejffaaFe5
import Derived.Test.YtbdbmcdcjejffaaFp1
set_option linter.unusedVariables false
set_option linter.unusedSimpArgs false
set_option linter.unusedSectionVars false
namespace Go.Proofs.Ytbdbmcdcjejffaa
open Go Go.Sh

noncomputable def tblRk (k : Nat) (Wd : List UInt8 → Fp) (R : Fp → Fp) (Sm : Fp → Fp → Bool) (P rP D rD M rM : Fp → Fp → Fp) (Q N rN I rI : Fp → Fp) (E : Fp → Fp → Bool) (Z rZ : Fp → Bool) : List (Row A) :=
  [rowOf A 25 (fun _ : Unit => true), lightRow k, rowOf A 35 (fun x : Bt × Unit => Wd x.1.l), rowOf A 40 (fun x : Fp × Unit => R x.1), rowOf A 34 (fun x : Fp × Fp × Unit => Sm x.1 x.2.1),
    rowOf A 41 (fun x : Fp × Fp × Unit => P x.1 x.2.1), rowOf A 42 (fun x : Fp × Fp × Unit => rP x.1 x.2.1), rowOf A 43 (fun x : Fp × Fp × Unit => D x.1 x.2.1), rowOf A 44 (fun x : Fp × Fp × Unit => rD x.1 x.2.1),
    rowOf A 45 (fun x : Fp × Fp × Unit => M x.1 x.2.1), rowOf A 46 (fun x : Fp × Fp × Unit => rM x.1 x.2.1), rowOf A 47 (fun x : Fp × Unit => Q x.1),
    rowOf A 48 (fun x : Fp × Unit => N x.1), rowOf A 49 (fun x : Fp × Unit => rN x.1), rowOf A 50 (fun x : Fp × Unit => I x.1), rowOf A 51 (fun x : Fp × Unit => rI x.1),
    rowOf A 52 (fun x : Fp × Fp × Unit => E x.1 x.2.1), rowOf A 31 (fun x : Fp × Unit => Z x.1), rowOf A 53 (fun x : Fp × Unit => rZ x.1)]

structure ReckonsIs (R : Fp → Fp) (Sm : Fp → Fp → Bool) (P rP D rD M rM : Fp → Fp → Fp) (Q N rN I rI : Fp → Fp) (E : Fp → Fp → Bool) (Z rZ : Fp → Bool) : Prop where
  h1 : ∀ a b, Sm (P a b) (rP (R a) (R b)) = true
  h2 : ∀ a b, Sm (D a b) (rD (R a) (R b)) = true
  h3 : ∀ a b, Sm (M a b) (rM (R a) (R b)) = true
  h4 : ∀ a, Sm (Q a) (rM (R a) (R a)) = true
  h5 : ∀ a, Sm (N a) (rN (R a)) = true
  h6 : ∀ a, Sm (I a) (rI (R a)) = true
  h7 : ∀ a b, eqL (limbs (R a)) (limbs (R b)) = E a b
  h8 : ∀ a, rZ (R a) = Z a
  h9 : Z 0 = true
  h0 : Z (I 0) = true

theorem reckons_of (Wd : List UInt8 → Fp) (R : Fp → Fp) (Sm : Fp → Fp → Bool) (P rP D rD M rM : Fp → Fp → Fp) (Q N rN I rI : Fp → Fp) (E : Fp → Fp → Bool) (Z rZ : Fp → Bool) (ht : ∀ k, TblOK Try.prog (tblRk k Wd R Sm P rP D rD M rM Q N rN I rI E Z rZ)) (h : ReckonsIs R Sm P rP D rD M rM Q N rN I rI E Z rZ) :
    Computes A Try.prog 4 (fun _ : Bs × Bs × Unit => true) := by
  refine computes_of_runT0 Try.func4 (by kernel_rfl) (by kernel_rfl) 8 ?_
  rintro ⟨g1, g2, _⟩ ⟨⟨x⟩, ⟨y⟩, ⟨⟩⟩ W ⟨k1, k2, _⟩
  have k1 : HasBytes W x g1 := k1
  have k2 : HasBytes W y g2 := k2
  by_cases hx : x.length ≤ 128
  · by_cases hy : y.length ≤ 128
    · obtain ⟨a, ha⟩ : ∃ a, a = Wd (partB x 0 x.length) := ⟨_, rfl⟩
      obtain ⟨b, hb⟩ : ∃ b, b = Wd (partB y 0 y.length) := ⟨_, rfl⟩
      refine ⟨_, ht 0, ?_⟩
      have rest : All [Sm (I a) (rI (R a)) = true, Sm (N a) (rN (R a)) = true, Sm (Q a) (rM (R a) (R a)) = true, Sm (M a b) (rM (R a) (R b)) = true, Sm (D a b) (rD (R a) (R b)) = true, Sm (P a b) (rP (R a) (R b)) = true,
          (partB y 0 y.length).length < 1048576, ReadB W g2 y, AllU8 y, (partB x 0 x.length).length < 1048576, ReadB W g1 x, AllU8 x, decide ((y.length : Int) > 128) = false, decide ((x.length : Int) > 128) = false, true = true] :=
        ⟨h.h6 a, h.h5 a, h.h4 a, h.h3 a b, h.h2 a b, h.h1 a b, shortB hy, readB k2, allU8 y, shortB hx, readB k1, allU8 x, decide_eq_false (by omega), decide_eq_false (by omega), rfl, trivial⟩
      have e7 := h.h7 a b
      have e8 := h.h8 a
      cases he : E a b <;> cases hz : Z a <;> rw [he] at e7 <;> rw [hz] at e8
      · refine ⟨saysY [(75, false), (78, false), (83, false), (85, false)], _, (Z (I 0) = true) :: (Z 0 = true) :: (rZ (R a) = false) :: (Z a = false) :: (eqL (limbs (R a)) (limbs (R b)) = false) :: (E a b = false) :: _, ?_, All.cons h.h0 (All.cons h.h9 (All.cons e8 (All.cons hz (All.cons e7 (All.cons he rest))))), rfl⟩
        subst ha hb
        kernel_rfl
      · refine ⟨saysY [(75, false), (78, false)], _, (Z (I 0) = true) :: (Z 0 = true) :: (rZ (R a) = true) :: (Z a = true) :: (eqL (limbs (R a)) (limbs (R b)) = false) :: (E a b = false) :: _, ?_, All.cons h.h0 (All.cons h.h9 (All.cons e8 (All.cons hz (All.cons e7 (All.cons he rest))))), rfl⟩
        subst ha hb
        kernel_rfl
      · refine ⟨saysY [(83, false), (85, false)], _, (Z (I 0) = true) :: (Z 0 = true) :: (rZ (R a) = false) :: (Z a = false) :: (eqL (limbs (R a)) (limbs (R b)) = true) :: (E a b = true) :: _, ?_, All.cons h.h0 (All.cons h.h9 (All.cons e8 (All.cons hz (All.cons e7 (All.cons he rest))))), rfl⟩
        subst ha hb
        kernel_rfl
      · refine ⟨saysY [], _, (Z (I 0) = true) :: (Z 0 = true) :: (rZ (R a) = true) :: (Z a = true) :: (eqL (limbs (R a)) (limbs (R b)) = true) :: (E a b = true) :: _, ?_, All.cons h.h0 (All.cons h.h9 (All.cons e8 (All.cons hz (All.cons e7 (All.cons he rest))))), rfl⟩
        subst ha hb
        kernel_rfl
    · exact ⟨_, ht 2, saysY [], true, [decide ((y.length : Int) > 128) = true, decide ((x.length : Int) > 128) = false, true = true], by kernel_rfl, ⟨decide_eq_true (by omega), decide_eq_false (by omega), rfl, trivial⟩, rfl⟩
  · exact ⟨_, ht 1, saysY [], true, [decide ((x.length : Int) > 128) = true, true = true], by kernel_rfl, ⟨decide_eq_true (by omega), rfl, trivial⟩, rfl⟩

/-! ### Roots -/
noncomputable def tblRo (k : Nat) (Wd : List UInt8 → Fp) (R : Fp → Fp) (Sm : Fp → Fp → Bool) (S rS : Fp → T2 Fp Bool) (Lg rLg : Fp → Int) (Q N : Fp → Fp) (E : Fp → Fp → Bool) (Lr : Fp → Bool) : List (Row A) :=
  [rowOf A 25 (fun _ : Unit => true), lightRow k, rowOf A 35 (fun x : Bt × Unit => Wd x.1.l), rowOf A 40 (fun x : Fp × Unit => R x.1), rowOf A 34 (fun x : Fp × Fp × Unit => Sm x.1 x.2.1),
    rowOf A 54 (fun x : Fp × Unit => S x.1), rowOf A 59 (fun x : Fp × Unit => rS x.1), rowOf A 60 (fun x : Fp × Unit => Lg x.1), rowOf A 61 (fun x : Fp × Unit => rLg x.1),
    rowOf A 47 (fun x : Fp × Unit => Q x.1), rowOf A 48 (fun x : Fp × Unit => N x.1), rowOf A 52 (fun x : Fp × Fp × Unit => E x.1 x.2.1), rowOf A 57 (fun x : Fp × Unit => Lr x.1)]

structure RootsIs (R : Fp → Fp) (Sm : Fp → Fp → Bool) (S rS : Fp → T2 Fp Bool) (Lg rLg : Fp → Int) (Q N : Fp → Fp) (E : Fp → Fp → Bool) (Lr : Fp → Bool) : Prop where
  h1 : ∀ a, (rS (R a)).b = (S a).b
  h2 : ∀ a, Sm (S a).a (rS (R a)).a = true
  h3 : ∀ a, (Lg a != rLg (R a)) = false
  h4 : ∀ a, decide (Lg a ≥ 0) = (S a).b
  h5 : ∀ a, (S a).b = true → E (Q (S a).a) a = true ∧ Lr (S a).a = false
  h6 : ∀ a, (S (Q a)).b = true
  h7 : ∀ a, E (S (Q a)).a a = false → E (S (Q a)).a (N a) = true
  h8 : ∀ a, decide (Lg a * Lg (N a) ≤ 0) = true
  h9 : ∀ a, WrapI (Lg a * Lg (N a))

theorem roots_of (Wd : List UInt8 → Fp) (R : Fp → Fp) (Sm : Fp → Fp → Bool) (S rS : Fp → T2 Fp Bool) (Lg rLg : Fp → Int) (Q N : Fp → Fp) (E : Fp → Fp → Bool) (Lr : Fp → Bool) (ht : ∀ k, TblOK Try.prog (tblRo k Wd R Sm S rS Lg rLg Q N E Lr)) (h : RootsIs R Sm S rS Lg rLg Q N E Lr) :
    Computes A Try.prog 8 (fun _ : Bs × Unit => true) := by
  refine computes_of_runT0 Try.func8 (by kernel_rfl) (by kernel_rfl) 8 ?_
  rintro ⟨g1, _⟩ ⟨⟨x⟩, ⟨⟩⟩ W ⟨k1, _⟩
  have k1 : HasBytes W x g1 := k1
  by_cases hx : x.length ≤ 128
  · obtain ⟨a, ha⟩ : ∃ a, a = Wd (partB x 0 x.length) := ⟨_, rfl⟩
    have rest : All [(partB x 0 x.length).length < 1048576, ReadB W g1 x, AllU8 x, decide ((x.length : Int) > 128) = false, true = true] := ⟨shortB hx, readB k1, allU8 x, decide_eq_false (by omega), rfl, trivial⟩
    refine ⟨_, ht 0, ?_⟩
    have e1 := h.h1 a
    have e2 := h.h2 a
    have e3 := h.h3 a
    have e4 := h.h4 a
    have e6 := h.h6 a
    have e7 := h.h7 a
    have e8 := h.h8 a
    have e9 := h.h9 a
    cases ho : (S a).b with
    | true =>
      obtain ⟨e5, e5'⟩ := h.h5 a ho
      rw [ho] at e1 e4
      cases hb : E (S (Q a)).a a with
      | true =>
        refine ⟨saysY [(44, false), (63, false)], _, (decide (Lg a * Lg (N a) ≤ 0) = true) :: WrapI (Lg a * Lg (N a)) :: (E (S (Q a)).a a = true) :: ((S (Q a)).b = true) :: (Lr (S a).a = false) :: (E (Q (S a).a) a = true) :: (decide (Lg a ≥ 0) = true) :: ((Lg a != rLg (R a)) = false) :: (Sm (S a).a (rS (R a)).a = true) :: ((rS (R a)).b = true) :: ((S a).b = true) :: _, ?_,
          All.cons e8 (All.cons e9 (All.cons hb (All.cons e6 (All.cons e5' (All.cons e5 (All.cons e4 (All.cons e3 (All.cons e2 (All.cons e1 (All.cons ho rest)))))))))), rfl⟩
        subst ha
        kernel_rfl
      | false =>
        refine ⟨saysY [(44, false), (63, false), (77, false)], _, (decide (Lg a * Lg (N a) ≤ 0) = true) :: WrapI (Lg a * Lg (N a)) :: (E (S (Q a)).a (N a) = true) :: (E (S (Q a)).a a = false) :: ((S (Q a)).b = true) :: (Lr (S a).a = false) :: (E (Q (S a).a) a = true) :: (decide (Lg a ≥ 0) = true) :: ((Lg a != rLg (R a)) = false) :: (Sm (S a).a (rS (R a)).a = true) :: ((rS (R a)).b = true) :: ((S a).b = true) :: _, ?_,
          All.cons e8 (All.cons e9 (All.cons (e7 hb) (All.cons hb (All.cons e6 (All.cons e5' (All.cons e5 (All.cons e4 (All.cons e3 (All.cons e2 (All.cons e1 (All.cons ho rest))))))))))), rfl⟩
        subst ha
        kernel_rfl
    | false =>
      rw [ho] at e1 e4
      cases hb : E (S (Q a)).a a with
      | true =>
        refine ⟨saysY [(22, false), (28, false), (44, false), (49, false)], _, (decide (Lg a * Lg (N a) ≤ 0) = true) :: WrapI (Lg a * Lg (N a)) :: (E (S (Q a)).a a = true) :: ((S (Q a)).b = true) :: (decide (Lg a ≥ 0) = false) :: ((Lg a != rLg (R a)) = false) :: (Sm (S a).a (rS (R a)).a = true) :: ((rS (R a)).b = false) :: ((S a).b = false) :: _, ?_,
          All.cons e8 (All.cons e9 (All.cons hb (All.cons e6 (All.cons e4 (All.cons e3 (All.cons e2 (All.cons e1 (All.cons ho rest)))))))), rfl⟩
        subst ha
        kernel_rfl
      | false =>
        refine ⟨saysY [(22, false), (28, false), (44, false), (49, false), (77, false)], _, (decide (Lg a * Lg (N a) ≤ 0) = true) :: WrapI (Lg a * Lg (N a)) :: (E (S (Q a)).a (N a) = true) :: (E (S (Q a)).a a = false) :: ((S (Q a)).b = true) :: (decide (Lg a ≥ 0) = false) :: ((Lg a != rLg (R a)) = false) :: (Sm (S a).a (rS (R a)).a = true) :: ((rS (R a)).b = false) :: ((S a).b = false) :: _, ?_,
          All.cons e8 (All.cons e9 (All.cons (e7 hb) (All.cons hb (All.cons e6 (All.cons e4 (All.cons e3 (All.cons e2 (All.cons e1 (All.cons ho rest))))))))), rfl⟩
        subst ha
        kernel_rfl
  · exact ⟨_, ht 1, saysY [], true, [decide ((x.length : Int) > 128) = true, true = true], by kernel_rfl, ⟨decide_eq_true (by omega), rfl, trivial⟩, rfl⟩

end Go.Proofs.Ytbdbmcdcjejffaa

/- FpReckons, FpRoots, out of the contracts. -/
namespace Go.Proofs.Ytbdbmcdcjejffaa
open Go Go.Sh

theorem tblRk_ok (k : Nat) : TblOK Try.prog (tblRk k wideF (fun a => a) (fun a b => decide (a = b)) (fun a b => a + b) (fun a b => a + b) (fun a b => a - b) (fun a b => a - b) (fun a b => a * b) (fun a b => a * b) (fun a => a * a) (fun a => -a) (fun a => -a) invF invF (fun a b => decide (a = b)) (fun a => decide (a = 0)) (fun a => decide (a = 0))) :=
  .cons known_ok.row (.cons (lightRow_ok k) (.cons wide_ok.row (.cons ref_ok.row (.cons same_ok.row (.cons add_ok.row (.cons refFAdd_ok.row (.cons sub_ok.row (.cons refFSub_ok.row (.cons mul_ok.row (.cons refMul_ok.row (.cons sq_ok.row (.cons neg_ok.row (.cons refNeg_ok.row (.cons inv_ok.row (.cons refInv_ok.row (.cons equal_ok.row (.cons isZero_ok.row (.cons refIsZero_ok.row (.nil _)))))))))))))))))))

theorem reckons_ok : Computes A Try.prog 4 (fun _ : Bs × Bs × Unit => true) := by
  refine reckons_of _ _ _ _ _ _ _ _ _ _ _ _ _ _ _ _ _ tblRk_ok ⟨fun _ _ => decide_eq_true rfl, fun _ _ => decide_eq_true rfl, fun _ _ => decide_eq_true rfl, fun _ => decide_eq_true rfl, fun _ => decide_eq_true rfl, fun _ => decide_eq_true rfl, fun a b => eqF a b, fun _ => rfl, decide_eq_true rfl, ?_⟩
  show decide (invF 0 = 0) = true
  rw [invF_zero]
  exact decide_eq_true rfl

/-! ### Squares -/
theorem half_split {a : Fp} (h : a ≠ 0) : fpow a (PowK.n .half) * fpow a (PowK.n .half) = 1 := by
  rw [← fpow_add]
  have e : PowK.n .half + PowK.n .half = pN - 1 := by
    show (pN - 1) / 2 + (pN - 1) / 2 = pN - 1
    rw [pN_val]
  rw [e, fermatF h]
theorem half_pm {a : Fp} (h : a ≠ 0) : fpow a (PowK.n .half) = 1 ∨ fpow a (PowK.n .half) = -1 := by
  have := half_split h
  exact sq_eq (by rw [this]; grind)
theorem root_half (a : Fp) : rootR a * rootR a = a * fpow a (PowK.n .half) := by
  unfold rootR
  rw [← fpow_add]
  have e : PowK.n .quarter + PowK.n .quarter = 1 + PowK.n .half := by
    show (pN + 1) / 4 + (pN + 1) / 4 = 1 + (pN - 1) / 2
    rw [pN_val]
  rw [e, fpow_add, fpow_one]
theorem one_ne : (1 : Fp) ≠ -1 := by
  intro h
  exact absurd (congrArg Fin.val h) (by decide)
theorem one_ne0 : (1 : Fp) ≠ 0 := by
  intro h
  exact absurd (congrArg Fin.val h) (by decide)
theorem half_zero : fpow (0 : Fp) (PowK.n .half) = 0 := zero_fpow (by show 0 < (pN - 1) / 2; rw [pN_val]; decide)
theorem half_neg (a : Fp) : fpow (-a) (PowK.n .half) = -fpow a (PowK.n .half) := by
  have e : -a = -1 * a := by grind
  rw [e, mul_fpow]
  have h : fpow (-1 : Fp) (PowK.n .half) = -1 := by
    have e2 : PowK.n .half = 2 * ((pN - 3) / 4) + 1 := by
      show (pN - 1) / 2 = 2 * ((pN - 3) / 4) + 1
      rw [pN_val]
    rw [e2, fpow_succ, fpow_mul]
    have : fpow (-1 : Fp) 2 = 1 := by
      rw [show (2 : Nat) = 1 + 1 from rfl, fpow_add, fpow_one]; grind
    rw [this, one_fpow]
    grind
  rw [h]
  grind

theorem legF_zero : legF 0 = 0 := by unfold legF; rw [if_pos half_zero]
theorem legF_cases (a : Fp) : (a = 0 ∧ legF a = 0) ∨ (a ≠ 0 ∧ fpow a (PowK.n .half) = 1 ∧ legF a = 1) ∨ (a ≠ 0 ∧ fpow a (PowK.n .half) = -1 ∧ legF a = -1) := by
  by_cases h : a = 0
  · subst h; exact .inl ⟨rfl, legF_zero⟩
  · rcases half_pm h with e | e
    · refine .inr (.inl ⟨h, e, ?_⟩)
      unfold legF
      rw [e, if_neg one_ne0, if_pos rfl]
    · refine .inr (.inr ⟨h, e, ?_⟩)
      unfold legF
      rw [e, if_neg (fun h0 => one_ne0 (by have : (1 : Fp) = -(-1) := by grind
                                           rw [this, h0]; grind)), if_neg (fun h1 => one_ne h1.symm)]
theorem sqrt_leg (a : Fp) : decide (legF a ≥ 0) = (sqrtF a).b := by
  have hr := root_half a
  unfold sqrtF
  rcases legF_cases a with ⟨h, e⟩ | ⟨h, e1, e⟩ | ⟨h, e1, e⟩
  · subst h
    rw [half_zero] at hr
    have hr : rootR (0 : Fp) * rootR 0 = 0 := by rw [hr]; grind
    rw [if_pos hr, e]
    split <;> rfl
  · rw [e1] at hr
    have hr : rootR a * rootR a = a := by rw [hr]; grind
    rw [if_pos hr, e]
    split <;> rfl
  · rw [e1] at hr
    have hne : ¬ (rootR a * rootR a = a) := by
      rw [hr]
      intro h0
      have : (1 + 1) * a = 0 := by grind
      rcases mul_eq_zeroF this with h1 | h1
      · exact absurd (congrArg Fin.val h1) (by decide)
      · exact h h1
    rw [if_neg hne, e]
    rfl
theorem sqrt_right (a : Fp) (h : (sqrtF a).b = true) : (sqrtF a).a * (sqrtF a).a = a ∧ largeF (sqrtF a).a = false := by
  unfold sqrtF at h ⊢
  split
  · rename_i hr
    split
    · rename_i hl
      refine ⟨by show -rootR a * -rootR a = a; rw [← hr]; grind, ?_⟩
      show largeF (-rootR a) = false
      have hne : rootR a ≠ 0 := by
        intro h0
        rw [h0] at hl
        exact absurd hl (by rw [show largeF 0 = false from by kernel_rfl]; decide)
      rw [large_neg hne, hl]; rfl
    · rename_i hl
      exact ⟨hr, by simpa using hl⟩
  · rename_i hr
    rw [if_neg hr] at h
    cases h

theorem leg_neg (a : Fp) : legF a * legF (-a) ≤ 0 ∧ -1 ≤ legF a * legF (-a) := by
  rcases legF_cases a with ⟨h, e⟩ | ⟨h, e1, e⟩ | ⟨h, e1, e⟩
  · rw [e]; omega
  · rw [e]
    rcases legF_cases (-a) with ⟨h2, e2⟩ | ⟨h2, e3, e2⟩ | ⟨h2, e3, e2⟩
    · rw [e2]; decide
    · rw [half_neg, e1] at e3
      exact absurd e3.symm one_ne
    · rw [e2]; decide
  · rw [e]
    rcases legF_cases (-a) with ⟨h2, e2⟩ | ⟨h2, e3, e2⟩ | ⟨h2, e3, e2⟩
    · rw [e2]; decide
    · rw [e2]; decide
    · rw [half_neg, e1] at e3
      have : (1 : Fp) = -1 := by grind
      exact absurd this one_ne

theorem tblRo_ok (k : Nat) : TblOK Try.prog (tblRo k wideF (fun a => a) (fun a b => decide (a = b)) sqrtF sqrtF legF legF (fun a => a * a) (fun a => -a) (fun a b => decide (a = b)) largeF) :=
  .cons known_ok.row (.cons (lightRow_ok k) (.cons wide_ok.row (.cons ref_ok.row (.cons same_ok.row (.cons sqrt_ok.row (.cons refSqrt_ok.row (.cons legendre_ok.row (.cons refLegendre_ok.row (.cons sq_ok.row (.cons neg_ok.row (.cons equal_ok.row (.cons large_ok.row (.nil _)))))))))))))

theorem roots_ok : Computes A Try.prog 8 (fun _ : Bs × Unit => true) := by
  refine roots_of _ _ _ _ _ _ _ _ _ _ _ tblRo_ok ⟨fun _ => rfl, fun _ => decide_eq_true rfl, fun a => by simp, fun a => sqrt_leg a, fun a h => ⟨decide_eq_true (sqrt_right a h).1, (sqrt_right a h).2⟩, fun a => (sqrt_sq a).1, fun a h => ?_, fun a => decide_eq_true (leg_neg a).1, fun a => wrapI (by have := (leg_neg a).2; omega) (by have := (leg_neg a).1; omega)⟩
  rcases (sqrt_sq a).2 with e | e
  · exact absurd e (of_decide_eq_false h)
  · exact decide_eq_true e

end Go.Proofs.Ytbdbmcdcjejffaa
