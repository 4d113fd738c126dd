/- Fp2: sizes, signs, squares and roots of elements of two parts; the program's and the reference's. -/
import Derived.Test.YtbdbmcdcjejffaaGa1
import Derived.Test.YtbdbmcdcjejffaaGa0
set_option linter.unusedVariables false
set_option linter.unusedSimpArgs false
set_option linter.unusedSectionVars false
namespace Go.Proofs.Ytbdbmcdcjejffaa
open Go Go.Sh

def large2 (a : F2) : Bool := if a.2 = 0 then largeF a.1 else largeF a.2
def sgn2 (a : F2) : Int := if oddF a.1 = true then 1 else if a.1 = 0 then (if oddF a.2 = true then 1 else 0) else 0
def isSq2 (a : F2) : Bool := decide (legF (norm2 a) ≥ 0)

theorem isSq2_ok : Computes A Try.prog 114 (fun x : F2 × Unit => isSq2 x.1) :=
  computes_of_run0 (.cons norm2_ok.row (.cons legendre_ok.row (.nil _))) Try.func114 (by kernel_rfl) (by kernel_rfl) 8 (fun _ _ _ => by kernel_rfl)

section
variable (Lg Z Od : Fp → Bool)
theorem large2_of (ht : TblOK Try.prog [rowOf A 57 (fun x : Fp × Unit => Lg x.1), rowOf A 31 (fun x : Fp × Unit => Z x.1)]) : Computes A Try.prog 107 (fun x : F2 × Unit => Lg x.1.2 || (Z x.1.2 && Lg x.1.1)) := by
  refine computes_of_run ht Try.func107 (by kernel_rfl) (by kernel_rfl) 8 ?_
  rintro _ ⟨⟨a1, a2⟩, ⟨⟩⟩ W -
  cases h1 : Lg a2 with
  | true => exact ⟨says [(5, true)], _, [Lg a2 = true], (by kernel_rfl : _ = some (some true, _)), ⟨h1, trivial⟩, by simp only [h1]; rfl⟩
  | false =>
    cases h2 : Z a2 with
    | true => exact ⟨says [(5, false), (9, true)], _, [Z a2 = true, Lg a2 = false], (by kernel_rfl : _ = some (some (Lg a1), _)), ⟨h2, h1, trivial⟩, by simp only [h1, h2]; rfl⟩
    | false => exact ⟨says [(5, false), (9, false)], _, [Z a2 = false, Lg a2 = false], (by kernel_rfl : _ = some (some false, _)), ⟨h2, h1, trivial⟩, by simp only [h1, h2]; rfl⟩
theorem rLarge2_of (ht : TblOK Try.prog [rowOf A 58 (fun x : Fp × Unit => Lg x.1), rowOf A 53 (fun x : Fp × Unit => Z x.1)]) : Computes A Try.prog 108 (fun x : F2 × Unit => if Z x.1.2 = true then Lg x.1.1 else Lg x.1.2) := by
  refine computes_of_run ht Try.func108 (by kernel_rfl) (by kernel_rfl) 8 ?_
  rintro _ ⟨⟨a1, a2⟩, ⟨⟩⟩ W -
  cases h1 : Z a2 with
  | true => exact ⟨says [(5, true)], _, [Z a2 = true], (by kernel_rfl : _ = some (some (Lg a1), _)), ⟨h1, trivial⟩, by simp only [h1, if_true]⟩
  | false => exact ⟨says [(5, false)], _, [Z a2 = false], (by kernel_rfl : _ = some (some (Lg a2), _)), ⟨h1, trivial⟩, by simp only [h1, Bool.false_eq_true, if_false]⟩
theorem sgn2_of (ht : TblOK Try.prog [rowOf A 55 (fun x : Fp × Unit => Od x.1), rowOf A 31 (fun x : Fp × Unit => Z x.1)]) : Computes A Try.prog 104 (fun x : F2 × Unit => if Od x.1.1 = true then (1 : Int) else if Z x.1.1 = true then (if Od x.1.2 = true then 1 else 0) else 0) := by
  refine computes_of_run ht Try.func104 (by kernel_rfl) (by kernel_rfl) 8 ?_
  rintro _ ⟨⟨a1, a2⟩, ⟨⟩⟩ W -
  cases h1 : Od a1 with
  | true => exact ⟨says [(5, true)], _, [Od a1 = true], (by kernel_rfl : _ = some (some (1 : Int), _)), ⟨h1, trivial⟩, by simp only [h1, if_true]⟩
  | false =>
    cases h2 : Z a1 with
    | true =>
      cases h3 : Od a2 with
      | true => exact ⟨says [(5, false), (9, true), (13, true)], _, [Od a2 = true, Z a1 = true, Od a1 = false], (by kernel_rfl : _ = some (some (1 : Int), _)), ⟨h3, h2, h1, trivial⟩, by simp only [h1, h2, h3, if_true, Bool.false_eq_true, if_false]⟩
      | false => exact ⟨says [(5, false), (9, true), (13, false)], _, [Od a2 = false, Z a1 = true, Od a1 = false], (by kernel_rfl : _ = some (some (0 : Int), _)), ⟨h3, h2, h1, trivial⟩, by simp only [h1, h2, h3, if_true, Bool.false_eq_true, if_false]⟩
    | false => exact ⟨says [(5, false), (9, false)], _, [Z a1 = false, Od a1 = false], (by kernel_rfl : _ = some (some (0 : Int), _)), ⟨h2, h1, trivial⟩, by simp only [h1, h2, Bool.false_eq_true, if_false]⟩
theorem rSgn2_of (ht : TblOK Try.prog [rowOf A 56 (fun x : Fp × Unit => Od x.1), rowOf A 53 (fun x : Fp × Unit => Z x.1)]) : Computes A Try.prog 106 (fun x : F2 × Unit => if Od x.1.1 = true then (1 : Int) else if Z x.1.1 = true then (if Od x.1.2 = true then 1 else 0) else 0) := by
  refine computes_of_run ht Try.func106 (by kernel_rfl) (by kernel_rfl) 8 ?_
  rintro _ ⟨⟨a1, a2⟩, ⟨⟩⟩ W -
  cases h1 : Od a1 with
  | true => exact ⟨says [(5, true)], _, [Od a1 = true], (by kernel_rfl : _ = some (some (1 : Int), _)), ⟨h1, trivial⟩, by simp only [h1, if_true]⟩
  | false =>
    cases h2 : Z a1 with
    | true =>
      cases h3 : Od a2 with
      | true => exact ⟨says [(5, false), (9, true), (13, true)], _, [Od a2 = true, Z a1 = true, Od a1 = false], (by kernel_rfl : _ = some (some (1 : Int), _)), ⟨h3, h2, h1, trivial⟩, by simp only [h1, h2, h3, if_true, Bool.false_eq_true, if_false]⟩
      | false => exact ⟨says [(5, false), (9, true), (13, false)], _, [Od a2 = false, Z a1 = true, Od a1 = false], (by kernel_rfl : _ = some (some (0 : Int), _)), ⟨h3, h2, h1, trivial⟩, by simp only [h1, h2, h3, if_true, Bool.false_eq_true, if_false]⟩
    | false => exact ⟨says [(5, false), (9, false)], _, [Z a1 = false, Od a1 = false], (by kernel_rfl : _ = some (some (0 : Int), _)), ⟨h2, h1, trivial⟩, by simp only [h1, h2, Bool.false_eq_true, if_false]⟩
end

theorem largeF_zero : largeF 0 = false := by kernel_rfl
theorem large2_ok : Computes A Try.prog 107 (fun x : F2 × Unit => large2 x.1) :=
  Computes.eq (large2_of largeF (fun a => decide (a = 0)) (.cons large_ok.row (.cons isZero_ok.row (.nil _)))) (fun x => by
    unfold large2
    by_cases h : x.1.2 = 0
    · rw [if_pos h, h, largeF_zero, decide_eq_true rfl]; rfl
    · rw [if_neg h, decide_eq_false h]; simp)
theorem rLarge2_ok : Computes A Try.prog 108 (fun x : F2 × Unit => large2 x.1) :=
  Computes.eq (rLarge2_of largeF (fun a => decide (a = 0)) (.cons refLarge_ok.row (.cons refIsZero_ok.row (.nil _)))) (fun x => by
    unfold large2
    by_cases h : x.1.2 = 0
    · rw [if_pos h, if_pos (decide_eq_true h)]
    · rw [if_neg h, if_neg (by simpa using h)])
theorem sgn_if (a : F2) : (if oddF a.1 = true then (1 : Int) else if decide (a.1 = 0) = true then (if oddF a.2 = true then 1 else 0) else 0) = sgn2 a := by
  simp only [sgn2, decide_eq_true_eq]
theorem sgn2_ok : Computes A Try.prog 104 (fun x : F2 × Unit => sgn2 x.1) :=
  Computes.eq (sgn2_of (fun a => decide (a = 0)) oddF (.cons odd_ok.row (.cons isZero_ok.row (.nil _)))) (fun x => sgn_if x.1)
theorem rSgn2_ok : Computes A Try.prog 106 (fun x : F2 × Unit => sgn2 x.1) :=
  Computes.eq (rSgn2_of (fun a => decide (a = 0)) oddF (.cons refOdd_ok.row (.cons refIsZero_ok.row (.nil _)))) (fun x => sgn_if x.1)

/-! ### Roots -/
section
variable (S : Fp → T2 Fp Bool) (Z : Fp → Bool) (N I : Fp → Fp) (P D M : Fp → Fp → Fp) (Nm : F2 → Fp) (h : Fp)
/-- A root, as it is looked for: the parts' tests in the program's order. -/
def rootW (a : F2) : T2 F2 Bool :=
  bif Z a.2 then (bif (S a.1).b then ⟨((S a.1).a, 0), true⟩ else ⟨(0, (S (N a.1)).a), (S (N a.1)).b⟩)
  else bif (S (Nm a)).b then
    (bif (S (M (P a.1 (S (Nm a)).a) h)).b then ⟨((S (M (P a.1 (S (Nm a)).a) h)).a, M (M a.2 h) (I (S (M (P a.1 (S (Nm a)).a) h)).a)), true⟩
     else ⟨((S (M (D a.1 (S (Nm a)).a) h)).a, M (M a.2 h) (I (S (M (D a.1 (S (Nm a)).a) h)).a)), (S (M (D a.1 (S (Nm a)).a) h)).b⟩)
  else ⟨(0, 0), false⟩

theorem root2_of (T : TxK → Fp) (ht : TblOK Try.prog [rowOf A 31 (fun x : Fp × Unit => Z x.1), rowOf A 54 (fun x : Fp × Unit => S x.1), rowOf A 48 (fun x : Fp × Unit => N x.1), rowOf A 50 (fun x : Fp × Unit => I x.1),
      rowOf A 41 (fun x : Fp × Fp × Unit => P x.1 x.2.1), rowOf A 43 (fun x : Fp × Fp × Unit => D x.1 x.2.1), rowOf A 45 (fun x : Fp × Fp × Unit => M x.1 x.2.1), rowOf A 177 (fun x : F2 × Unit => Nm x.1), rowOf A 188 (fun x : TxK × Unit => T x.1)]) :
    Computes A Try.prog 181 (fun x : F2 × Unit => rootW S Z N I P D M Nm (T .half) x.1) := by
  refine computes_of_run ht Try.func181 (by kernel_rfl) (by kernel_rfl) 8 ?_
  rintro _ ⟨⟨a1, a2⟩, ⟨⟩⟩ W -
  cases h1 : Z a2 with
  | true =>
    cases h2 : (S a1).b with
    | true => exact ⟨says [(14, true), (20, true)], _, [(S a1).b = true, Z a2 = true], (by kernel_rfl : _ = some (some (T2.mk (((S a1).a, 0) : F2) true), _)), ⟨h2, h1, trivial⟩, by simp only [rootW, h1, h2, cond_true]⟩
    | false => exact ⟨says [(14, true), (20, false)], _, [(S a1).b = false, Z a2 = true], (by kernel_rfl : _ = some (some (T2.mk ((0, (S (N a1)).a) : F2) (S (N a1)).b), _)), ⟨h2, h1, trivial⟩, by simp only [rootW, h1, h2, cond_true, cond_false]⟩
  | false =>
    obtain ⟨s, hs⟩ : ∃ s, s = S (Nm (a1, a2)) := ⟨_, rfl⟩
    cases h2 : s.b with
    | false =>
      refine ⟨says [(14, false), (39, false)], _, [(S (Nm (a1, a2))).b = false, Z a2 = false], (by kernel_rfl : _ = some (some (T2.mk ((0, 0) : F2) false), _)), ⟨hs ▸ h2, h1, trivial⟩, ?_⟩
      simp only [rootW, h1, ← hs, h2, cond_false]
    | true =>
      obtain ⟨u, hu⟩ : ∃ u, u = S (M (P a1 s.a) (T .half)) := ⟨_, rfl⟩
      cases h3 : u.b with
      | true =>
        refine ⟨says [(14, false), (39, true), (53, true)], _, [(S (M (P a1 (S (Nm (a1, a2))).a) (T .half))).b = true, (S (Nm (a1, a2))).b = true, Z a2 = false], (by kernel_rfl : _ = some (some (T2.mk (((S (M (P a1 (S (Nm (a1, a2))).a) (T .half))).a, M (M a2 (T .half)) (I (S (M (P a1 (S (Nm (a1, a2))).a) (T .half))).a)) : F2) true), _)),
          ⟨by rw [← hs, ← hu]; exact h3, hs ▸ h2, h1, trivial⟩, ?_⟩
        simp only [rootW, h1, ← hs, h2, ← hu, h3, cond_true, cond_false]
      | false =>
        refine ⟨says [(14, false), (39, true), (53, false)], _, [(S (M (P a1 (S (Nm (a1, a2))).a) (T .half))).b = false, (S (Nm (a1, a2))).b = true, Z a2 = false],
          (by kernel_rfl : _ = some (some (T2.mk (((S (M (D a1 (S (Nm (a1, a2))).a) (T .half))).a, M (M a2 (T .half)) (I (S (M (D a1 (S (Nm (a1, a2))).a) (T .half))).a)) : F2) (S (M (D a1 (S (Nm (a1, a2))).a) (T .half))).b), _)),
          ⟨by rw [← hs, ← hu]; exact h3, hs ▸ h2, h1, trivial⟩, ?_⟩
        simp only [rootW, h1, ← hs, h2, ← hu, h3, cond_true, cond_false]

theorem sqrt2_of (Rt : F2 → T2 F2 Bool) (L : F2 → Bool) (N2 : F2 → F2) (ht : TblOK Try.prog [rowOf A 181 (fun x : F2 × Unit => Rt x.1), rowOf A 107 (fun x : F2 × Unit => L x.1), rowOf A 110 (fun x : F2 × Unit => N2 x.1)]) :
    Computes A Try.prog 134 (fun x : F2 × Unit => if (Rt x.1).b = true then (if L (Rt x.1).a = true then T2.mk (N2 (Rt x.1).a) true else T2.mk (Rt x.1).a true) else T2.mk zero2 false) := by
  refine computes_of_run ht Try.func134 (by kernel_rfl) (by kernel_rfl) 8 ?_
  rintro _ ⟨a, ⟨⟩⟩ W -
  cases h1 : (Rt a).b with
  | false => exact ⟨says [(10, false)], _, [(Rt a).b = false], (by kernel_rfl : _ = some (some (T2.mk zero2 false), _)), ⟨h1, trivial⟩, by simp only [h1, Bool.false_eq_true, if_false]⟩
  | true =>
    cases h2 : L (Rt a).a with
    | true => exact ⟨says [(10, true), (15, true)], _, [L (Rt a).a = true, (Rt a).b = true], (by kernel_rfl : _ = some (some (T2.mk (N2 (Rt a).a) true), _)), ⟨h2, h1, trivial⟩, by simp only [h1, h2, if_true]⟩
    | false => exact ⟨says [(10, true), (15, false)], _, [L (Rt a).a = false, (Rt a).b = true], (by kernel_rfl : _ = some (some (T2.mk (Rt a).a true), _)), ⟨h2, h1, trivial⟩, by simp only [h1, h2, if_true, Bool.false_eq_true, if_false]⟩
end

end Go.Proofs.Ytbdbmcdcjejffaa
