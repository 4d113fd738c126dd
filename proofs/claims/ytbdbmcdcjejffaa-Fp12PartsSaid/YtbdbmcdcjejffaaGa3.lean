/- Fp2: the reference's root. -/
import Derived.Test.YtbdbmcdcjejffaaGa2
set_option linter.unusedVariables false
set_option linter.unusedSimpArgs false
set_option linter.unusedSectionVars false
namespace Go.Proofs.Ytbdbmcdcjejffaa
open Go Go.Sh

/-- Words, held against one another. -/
def eqW : List UInt64 → List UInt64 → Bool
  | [], [] => true
  | x :: l, y :: r => ((x.toNat : Int) == y.toNat) && eqW l r
  | _, _ => false
def w6 (l : L6) : List UInt64 := [l.1, l.2.1, l.2.2.1, l.2.2.2.1, l.2.2.2.2.1, l.2.2.2.2.2]
theorem eqW_eq : ∀ l r : List UInt64, l.length = r.length → eqW l r = decide (l = r)
  | [], [], _ => rfl
  | x :: l, y :: r, h => by
    simp only [eqW, eqW_eq l r (by simpa using h), List.cons.injEq, Bool.decide_and]
    congr 1
    by_cases e : x = y
    · subst e; simp
    · have : (x.toNat : Int) ≠ y.toNat := fun h' => e (UInt64.toNat_inj.1 (by omega))
      simp [e, this]
  | [], _ :: _, h => by simp at h
  | _ :: _, [], h => by simp at h
theorem w6_inj {a b : L6} (h : w6 a = w6 b) : a = b := by
  obtain ⟨a0, a1, a2, a3, a4, a5⟩ := a
  obtain ⟨b0, b1, b2, b3, b4, b5⟩ := b
  simp only [w6, List.cons.injEq, and_true] at h
  obtain ⟨rfl, rfl, rfl, rfl, rfl, rfl⟩ := h
  rfl
theorem w6_len (l : L6) : (w6 l).length = 6 := rfl
/-- Elements of two parts, held against one another word by word. -/
def eqE (a b : F2) : Bool := eqW (w6 (limbs a.1) ++ w6 (limbs a.2)) (w6 (limbs b.1) ++ w6 (limbs b.2))
theorem w6_app {a b : Fp} {l r : List UInt64} : w6 (limbs a) ++ l = w6 (limbs b) ++ r ↔ a = b ∧ l = r := by
  constructor
  · intro h
    obtain ⟨h1, h2⟩ := List.append_inj h (by rw [w6_len, w6_len])
    exact ⟨limbs_inj (w6_inj h1), h2⟩
  · rintro ⟨rfl, rfl⟩; rfl
theorem eqE_eq (a b : F2) : eqE a b = decide (a = b) := by
  obtain ⟨a1, a2⟩ := a
  obtain ⟨b1, b2⟩ := b
  unfold eqE
  rw [eqW_eq _ _ (by rw [List.length_append, List.length_append, w6_len, w6_len, w6_len, w6_len])]
  show decide (w6 (limbs a1) ++ w6 (limbs a2) = w6 (limbs b1) ++ w6 (limbs b2)) = _
  have : (w6 (limbs a1) ++ w6 (limbs a2) = w6 (limbs b1) ++ w6 (limbs b2)) = ((a1, a2) = (b1, b2)) := by
    rw [w6_app, Prod.mk.injEq]
    have h2 : (w6 (limbs a2) = w6 (limbs b2)) = (a2 = b2) := propext ⟨fun h => limbs_inj (w6_inj h), fun h => by rw [h]⟩
    rw [h2]
  simp only [this]

section
variable (S : Fp → T2 Fp Bool) (Z : Fp → Bool) (N I : Fp → Fp) (P D M : Fp → Fp → Fp) (Nm : F2 → Fp) (h : Fp)
/-- A root, if there is one. -/
def candW (a : F2) : F2 :=
  bif Z a.2 then (bif (S a.1).b then ((S a.1).a, 0) else (0, (S (N a.1)).a))
  else bif (S (M (P a.1 (S (Nm a)).a) h)).b then ((S (M (P a.1 (S (Nm a)).a) h)).a, M (M a.2 h) (I (S (M (P a.1 (S (Nm a)).a) h)).a))
  else ((S (M (D a.1 (S (Nm a)).a) h)).a, M (M a.2 h) (I (S (M (D a.1 (S (Nm a)).a) h)).a))

/-- What becomes of it. -/
def tryW (M2 : F2 → F2 → F2) (L : F2 → Bool) (N2 : F2 → F2) (a r : F2) : T2 F2 Bool :=
  bif eqE (M2 r r) a then (bif L r then ⟨N2 r, true⟩ else ⟨r, true⟩) else ⟨(0, 0), false⟩

theorem rSqrt2_of (O : UInt64 → Fp) (M2 : F2 → F2 → F2) (L : F2 → Bool) (N2 : F2 → F2) (ht : TblOK Try.prog [rowOf A 53 (fun x : Fp × Unit => Z x.1), rowOf A 59 (fun x : Fp × Unit => S x.1), rowOf A 49 (fun x : Fp × Unit => N x.1), rowOf A 51 (fun x : Fp × Unit => I x.1),
      rowOf A 42 (fun x : Fp × Fp × Unit => P x.1 x.2.1), rowOf A 44 (fun x : Fp × Fp × Unit => D x.1 x.2.1), rowOf A 46 (fun x : Fp × Fp × Unit => M x.1 x.2.1), rowOf A 178 (fun x : F2 × Unit => Nm x.1), rowOf A 39 (fun x : UInt64 × Unit => O x.1),
      rowOf A 124 (fun x : F2 × F2 × Unit => M2 x.1 x.2.1), rowOf A 108 (fun x : F2 × Unit => L x.1), rowOf A 122 (fun x : F2 × Unit => N2 x.1)]) :
    Computes A Try.prog 135 (fun x : F2 × Unit => bif (!Z x.1.2 && !(S (Nm x.1)).b) then T2.mk (0, 0) false else tryW M2 L N2 x.1 (candW S Z N I P D M Nm (I (O 2)) x.1)) := by
  refine computes_of_run ht Try.func135 (by kernel_rfl) (by kernel_rfl) 8 ?_
  rintro _ ⟨⟨a1, a2⟩, ⟨⟩⟩ W -
  cases h1 : Z a2 with
  | true =>
    cases h2 : (S a1).b with
    | true =>
      obtain ⟨r, hr⟩ : ∃ r : F2, r = ((S a1).a, 0) := ⟨_, rfl⟩
      have hc : candW S Z N I P D M Nm (I (O 2)) (a1, a2) = r := by rw [hr]; simp only [candW, h1, h2, cond_true, cond_false]
      cases he : eqE (M2 r r) (a1, a2) with
      | false => exact ⟨says [(14, true), (20, true), (80, true)], T2.mk ((0, 0) : F2) false, [(!eqE (M2 ((S a1).a, 0) ((S a1).a, 0)) (a1, a2)) = true, (S a1).b = true, Z a2 = true], by kernel_rfl, ⟨by rw [← hr, he]; rfl, h2, h1, trivial⟩, by simp only [hc, tryW, he, h1, h2, cond_true, cond_false, Bool.not_true, Bool.not_false, Bool.false_and, Bool.true_and, Bool.and_false]⟩
      | true =>
        cases hl : L r with
        | true => exact ⟨says [(14, true), (20, true), (80, false), (83, true)], T2.mk (N2 ((S a1).a, 0)) true, [L ((S a1).a, 0) = true, (!eqE (M2 ((S a1).a, 0) ((S a1).a, 0)) (a1, a2)) = false, (S a1).b = true, Z a2 = true], by kernel_rfl, ⟨hr ▸ hl, by rw [← hr, he]; rfl, h2, h1, trivial⟩, by rw [← hr]; simp only [hc, tryW, he, hl, h1, h2, cond_true, cond_false, Bool.not_true, Bool.not_false, Bool.false_and, Bool.true_and, Bool.and_false]⟩
        | false => exact ⟨says [(14, true), (20, true), (80, false), (83, false)], T2.mk ((S a1).a, 0) true, [L ((S a1).a, 0) = false, (!eqE (M2 ((S a1).a, 0) ((S a1).a, 0)) (a1, a2)) = false, (S a1).b = true, Z a2 = true], by kernel_rfl, ⟨hr ▸ hl, by rw [← hr, he]; rfl, h2, h1, trivial⟩, by rw [← hr]; simp only [hc, tryW, he, hl, h1, h2, cond_true, cond_false, Bool.not_true, Bool.not_false, Bool.false_and, Bool.true_and, Bool.and_false]⟩
    | false =>
      obtain ⟨r, hr⟩ : ∃ r : F2, r = (0, (S (N a1)).a) := ⟨_, rfl⟩
      have hc : candW S Z N I P D M Nm (I (O 2)) (a1, a2) = r := by rw [hr]; simp only [candW, h1, h2, cond_true, cond_false]
      cases he : eqE (M2 r r) (a1, a2) with
      | false => exact ⟨says [(14, true), (20, false), (80, true)], T2.mk ((0, 0) : F2) false, [(!eqE (M2 (0, (S (N a1)).a) (0, (S (N a1)).a)) (a1, a2)) = true, (S a1).b = false, Z a2 = true], by kernel_rfl, ⟨by rw [← hr, he]; rfl, h2, h1, trivial⟩, by simp only [hc, tryW, he, h1, h2, cond_true, cond_false, Bool.not_true, Bool.not_false, Bool.false_and, Bool.true_and, Bool.and_false]⟩
      | true =>
        cases hl : L r with
        | true => exact ⟨says [(14, true), (20, false), (80, false), (83, true)], T2.mk (N2 (0, (S (N a1)).a)) true, [L (0, (S (N a1)).a) = true, (!eqE (M2 (0, (S (N a1)).a) (0, (S (N a1)).a)) (a1, a2)) = false, (S a1).b = false, Z a2 = true], by kernel_rfl, ⟨hr ▸ hl, by rw [← hr, he]; rfl, h2, h1, trivial⟩, by rw [← hr]; simp only [hc, tryW, he, hl, h1, h2, cond_true, cond_false, Bool.not_true, Bool.not_false, Bool.false_and, Bool.true_and, Bool.and_false]⟩
        | false => exact ⟨says [(14, true), (20, false), (80, false), (83, false)], T2.mk (0, (S (N a1)).a) true, [L (0, (S (N a1)).a) = false, (!eqE (M2 (0, (S (N a1)).a) (0, (S (N a1)).a)) (a1, a2)) = false, (S a1).b = false, Z a2 = true], by kernel_rfl, ⟨hr ▸ hl, by rw [← hr, he]; rfl, h2, h1, trivial⟩, by rw [← hr]; simp only [hc, tryW, he, hl, h1, h2, cond_true, cond_false, Bool.not_true, Bool.not_false, Bool.false_and, Bool.true_and, Bool.and_false]⟩
  | false =>
    cases h2 : (S (Nm (a1, a2))).b with
    | false => exact ⟨says [(14, false), (39, false)], T2.mk ((0, 0) : F2) false, [(S (Nm (a1, a2))).b = false, Z a2 = false], by kernel_rfl, ⟨h2, h1, trivial⟩, by simp only [h1, h2, cond_true, Bool.not_false, Bool.true_and]⟩
    | true =>
      cases h3 : (S (M (P a1 (S (Nm (a1, a2))).a) (I (O 2)))).b with
      | true =>
        obtain ⟨r, hr⟩ : ∃ r : F2, r = ((S (M (P a1 (S (Nm (a1, a2))).a) (I (O 2)))).a, M (M a2 (I (O 2))) (I (S (M (P a1 (S (Nm (a1, a2))).a) (I (O 2)))).a)) := ⟨_, rfl⟩
        have hc : candW S Z N I P D M Nm (I (O 2)) (a1, a2) = r := by rw [hr]; simp only [candW, h1, h2, h3, cond_true, cond_false]
        cases he : eqE (M2 r r) (a1, a2) with
        | false => exact ⟨says [(14, false), (39, true), (54, true), (80, true)], T2.mk ((0, 0) : F2) false, [(!eqE (M2 ((S (M (P a1 (S (Nm (a1, a2))).a) (I (O 2)))).a, M (M a2 (I (O 2))) (I (S (M (P a1 (S (Nm (a1, a2))).a) (I (O 2)))).a)) ((S (M (P a1 (S (Nm (a1, a2))).a) (I (O 2)))).a, M (M a2 (I (O 2))) (I (S (M (P a1 (S (Nm (a1, a2))).a) (I (O 2)))).a))) (a1, a2)) = true, (S (M (P a1 (S (Nm (a1, a2))).a) (I (O 2)))).b = true, (S (Nm (a1, a2))).b = true, Z a2 = false], by kernel_rfl, ⟨by rw [← hr, he]; rfl, h3, h2, h1, trivial⟩, by simp only [hc, tryW, he, h1, h2, h3, cond_true, cond_false, Bool.not_true, Bool.not_false, Bool.false_and, Bool.true_and, Bool.and_false]⟩
        | true =>
          cases hl : L r with
          | true => exact ⟨says [(14, false), (39, true), (54, true), (80, false), (83, true)], T2.mk (N2 ((S (M (P a1 (S (Nm (a1, a2))).a) (I (O 2)))).a, M (M a2 (I (O 2))) (I (S (M (P a1 (S (Nm (a1, a2))).a) (I (O 2)))).a))) true, [L ((S (M (P a1 (S (Nm (a1, a2))).a) (I (O 2)))).a, M (M a2 (I (O 2))) (I (S (M (P a1 (S (Nm (a1, a2))).a) (I (O 2)))).a)) = true, (!eqE (M2 ((S (M (P a1 (S (Nm (a1, a2))).a) (I (O 2)))).a, M (M a2 (I (O 2))) (I (S (M (P a1 (S (Nm (a1, a2))).a) (I (O 2)))).a)) ((S (M (P a1 (S (Nm (a1, a2))).a) (I (O 2)))).a, M (M a2 (I (O 2))) (I (S (M (P a1 (S (Nm (a1, a2))).a) (I (O 2)))).a))) (a1, a2)) = false, (S (M (P a1 (S (Nm (a1, a2))).a) (I (O 2)))).b = true, (S (Nm (a1, a2))).b = true, Z a2 = false], by kernel_rfl, ⟨hr ▸ hl, by rw [← hr, he]; rfl, h3, h2, h1, trivial⟩, by rw [← hr]; simp only [hc, tryW, he, hl, h1, h2, h3, cond_true, cond_false, Bool.not_true, Bool.not_false, Bool.false_and, Bool.true_and, Bool.and_false]⟩
          | false => exact ⟨says [(14, false), (39, true), (54, true), (80, false), (83, false)], T2.mk ((S (M (P a1 (S (Nm (a1, a2))).a) (I (O 2)))).a, M (M a2 (I (O 2))) (I (S (M (P a1 (S (Nm (a1, a2))).a) (I (O 2)))).a)) true, [L ((S (M (P a1 (S (Nm (a1, a2))).a) (I (O 2)))).a, M (M a2 (I (O 2))) (I (S (M (P a1 (S (Nm (a1, a2))).a) (I (O 2)))).a)) = false, (!eqE (M2 ((S (M (P a1 (S (Nm (a1, a2))).a) (I (O 2)))).a, M (M a2 (I (O 2))) (I (S (M (P a1 (S (Nm (a1, a2))).a) (I (O 2)))).a)) ((S (M (P a1 (S (Nm (a1, a2))).a) (I (O 2)))).a, M (M a2 (I (O 2))) (I (S (M (P a1 (S (Nm (a1, a2))).a) (I (O 2)))).a))) (a1, a2)) = false, (S (M (P a1 (S (Nm (a1, a2))).a) (I (O 2)))).b = true, (S (Nm (a1, a2))).b = true, Z a2 = false], by kernel_rfl, ⟨hr ▸ hl, by rw [← hr, he]; rfl, h3, h2, h1, trivial⟩, by rw [← hr]; simp only [hc, tryW, he, hl, h1, h2, h3, cond_true, cond_false, Bool.not_true, Bool.not_false, Bool.false_and, Bool.true_and, Bool.and_false]⟩
      | false =>
        obtain ⟨r, hr⟩ : ∃ r : F2, r = ((S (M (D a1 (S (Nm (a1, a2))).a) (I (O 2)))).a, M (M a2 (I (O 2))) (I (S (M (D a1 (S (Nm (a1, a2))).a) (I (O 2)))).a)) := ⟨_, rfl⟩
        have hc : candW S Z N I P D M Nm (I (O 2)) (a1, a2) = r := by rw [hr]; simp only [candW, h1, h2, h3, cond_true, cond_false]
        cases he : eqE (M2 r r) (a1, a2) with
        | false => exact ⟨says [(14, false), (39, true), (54, false), (80, true)], T2.mk ((0, 0) : F2) false, [(!eqE (M2 ((S (M (D a1 (S (Nm (a1, a2))).a) (I (O 2)))).a, M (M a2 (I (O 2))) (I (S (M (D a1 (S (Nm (a1, a2))).a) (I (O 2)))).a)) ((S (M (D a1 (S (Nm (a1, a2))).a) (I (O 2)))).a, M (M a2 (I (O 2))) (I (S (M (D a1 (S (Nm (a1, a2))).a) (I (O 2)))).a))) (a1, a2)) = true, (S (M (P a1 (S (Nm (a1, a2))).a) (I (O 2)))).b = false, (S (Nm (a1, a2))).b = true, Z a2 = false], by kernel_rfl, ⟨by rw [← hr, he]; rfl, h3, h2, h1, trivial⟩, by simp only [hc, tryW, he, h1, h2, h3, cond_true, cond_false, Bool.not_true, Bool.not_false, Bool.false_and, Bool.true_and, Bool.and_false]⟩
        | true =>
          cases hl : L r with
          | true => exact ⟨says [(14, false), (39, true), (54, false), (80, false), (83, true)], T2.mk (N2 ((S (M (D a1 (S (Nm (a1, a2))).a) (I (O 2)))).a, M (M a2 (I (O 2))) (I (S (M (D a1 (S (Nm (a1, a2))).a) (I (O 2)))).a))) true, [L ((S (M (D a1 (S (Nm (a1, a2))).a) (I (O 2)))).a, M (M a2 (I (O 2))) (I (S (M (D a1 (S (Nm (a1, a2))).a) (I (O 2)))).a)) = true, (!eqE (M2 ((S (M (D a1 (S (Nm (a1, a2))).a) (I (O 2)))).a, M (M a2 (I (O 2))) (I (S (M (D a1 (S (Nm (a1, a2))).a) (I (O 2)))).a)) ((S (M (D a1 (S (Nm (a1, a2))).a) (I (O 2)))).a, M (M a2 (I (O 2))) (I (S (M (D a1 (S (Nm (a1, a2))).a) (I (O 2)))).a))) (a1, a2)) = false, (S (M (P a1 (S (Nm (a1, a2))).a) (I (O 2)))).b = false, (S (Nm (a1, a2))).b = true, Z a2 = false], by kernel_rfl, ⟨hr ▸ hl, by rw [← hr, he]; rfl, h3, h2, h1, trivial⟩, by rw [← hr]; simp only [hc, tryW, he, hl, h1, h2, h3, cond_true, cond_false, Bool.not_true, Bool.not_false, Bool.false_and, Bool.true_and, Bool.and_false]⟩
          | false => exact ⟨says [(14, false), (39, true), (54, false), (80, false), (83, false)], T2.mk ((S (M (D a1 (S (Nm (a1, a2))).a) (I (O 2)))).a, M (M a2 (I (O 2))) (I (S (M (D a1 (S (Nm (a1, a2))).a) (I (O 2)))).a)) true, [L ((S (M (D a1 (S (Nm (a1, a2))).a) (I (O 2)))).a, M (M a2 (I (O 2))) (I (S (M (D a1 (S (Nm (a1, a2))).a) (I (O 2)))).a)) = false, (!eqE (M2 ((S (M (D a1 (S (Nm (a1, a2))).a) (I (O 2)))).a, M (M a2 (I (O 2))) (I (S (M (D a1 (S (Nm (a1, a2))).a) (I (O 2)))).a)) ((S (M (D a1 (S (Nm (a1, a2))).a) (I (O 2)))).a, M (M a2 (I (O 2))) (I (S (M (D a1 (S (Nm (a1, a2))).a) (I (O 2)))).a))) (a1, a2)) = false, (S (M (P a1 (S (Nm (a1, a2))).a) (I (O 2)))).b = false, (S (Nm (a1, a2))).b = true, Z a2 = false], by kernel_rfl, ⟨hr ▸ hl, by rw [← hr, he]; rfl, h3, h2, h1, trivial⟩, by rw [← hr]; simp only [hc, tryW, he, hl, h1, h2, h3, cond_true, cond_false, Bool.not_true, Bool.not_false, Bool.false_and, Bool.true_and, Bool.and_false]⟩
end

end Go.Proofs.Ytbdbmcdcjejffaa
