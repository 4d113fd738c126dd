/- The law of the signs. -/
import Derived.Test.YtbdbmcdcjejffaaFeV
set_option linter.unusedVariables false
set_option linter.unusedSimpArgs false
set_option linter.unusedSectionVars false
namespace Go.Proofs.Ytbdbmcdcjejffaa
open Go Go.Sh

theorem neg_val {a : Fp} (h : a ≠ 0) : (-a).val = pN - a.val := by
  have hv : a.val ≠ 0 := fun e => h (Fin.ext e)
  have hl := a.isLt
  show (pN - a.val) % pN = pN - a.val
  exact Nat.mod_eq_of_lt (by omega)
theorem odd_neg {a : Fp} (h : a ≠ 0) : oddF (-a) = !oddF a := by
  unfold oddF
  rw [neg_val h]
  have hl := a.isLt
  have hp : pN % 2 = 1 := by rw [pN_val]
  by_cases e : a.val % 2 = 1
  · rw [decide_eq_true e, decide_eq_false (by omega)]; rfl
  · rw [decide_eq_false e, decide_eq_true (by omega)]; rfl
theorem large_neg {a : Fp} (h : a ≠ 0) : largeF (-a) = !largeF a := by
  unfold largeF
  rw [neg_val h]
  have hl := a.isLt
  have hv : a.val ≠ 0 := fun e => h (Fin.ext e)
  have hp : pN % 2 = 1 := by rw [pN_val]
  by_cases e : (pN - 1) / 2 < a.val
  · rw [decide_eq_true e, decide_eq_false (by omega)]; rfl
  · rw [decide_eq_false e, decide_eq_true (by omega)]; rfl

noncomputable def tblSigns (k : Nat) (Wd : List UInt8 → Fp) (R N : Fp → Fp) (Od Lg Z rO rL : Fp → Bool) : List (Row A) :=
  [rowOf A 25 (fun _ : Unit => true), lightRow k, rowOf A 35 (fun x : Bt × Unit => Wd x.1.l), rowOf A 40 (fun x : Fp × Unit => R x.1), rowOf A 48 (fun x : Fp × Unit => N x.1),
    rowOf A 55 (fun x : Fp × Unit => Od x.1), rowOf A 57 (fun x : Fp × Unit => Lg x.1), rowOf A 31 (fun x : Fp × Unit => Z x.1),
    rowOf A 56 (fun x : Fp × Unit => rO x.1), rowOf A 58 (fun x : Fp × Unit => rL x.1)]

structure SignsIs (R N : Fp → Fp) (Od Lg Z rO rL : Fp → Bool) : Prop where
  h1 : ∀ a, rO (R a) = Od a
  h2 : ∀ a, rL (R a) = Lg a
  h3 : ∀ a, Z a = true → Od a = false ∧ Lg a = false
  h4 : ∀ a, Z a = false → Od (N a) = !Od a
  h5 : ∀ a, Z a = false → Lg (N a) = !Lg a

theorem signs_of (Wd : List UInt8 → Fp) (R N : Fp → Fp) (Od Lg Z rO rL : Fp → Bool) (ht : ∀ k, TblOK Try.prog (tblSigns k Wd R N Od Lg Z rO rL)) (h : SignsIs R N Od Lg Z rO rL) :
    Computes A Try.prog 7 (fun _ : Bs × Unit => true) := by
  refine computes_of_runT0 Try.func7 (by kernel_rfl) (by kernel_rfl) 8 ?_
  rintro ⟨g1, _⟩ ⟨⟨x⟩, ⟨⟩⟩ W ⟨k1, _⟩
  have k1 : HasBytes W x g1 := k1
  by_cases hx : x.length ≤ 128
  · obtain ⟨a, ha⟩ : ∃ a, a = Wd (partB x 0 x.length) := ⟨_, rfl⟩
    have rest : All [(partB x 0 x.length).length < 1048576, ReadB W g1 x, AllU8 x, decide ((x.length : Int) > 128) = false, true = true] := ⟨shortB hx, readB k1, allU8 x, decide_eq_false (by omega), rfl, trivial⟩
    have e1 := h.h1 a
    have e2 := h.h2 a
    refine ⟨_, ht 0, ?_⟩
    cases hz : Z a with
    | true =>
      obtain ⟨h1, h2⟩ := h.h3 a hz
      rw [h1] at e1
      rw [h2] at e2
      refine ⟨saysY [(13, false), (16, false), (20, false), (23, false), (27, true), (29, false), (33, false), (15, true)], _, (Lg a = false) :: (Od a = false) :: (Z a = true) :: (rL (R a) = false) :: (Lg a = false) :: (rO (R a) = false) :: (Od a = false) :: _, ?_, All.cons h2 (All.cons h1 (All.cons hz (All.cons e2 (All.cons h2 (All.cons e1 (All.cons h1 rest)))))), rfl⟩
      subst ha
      kernel_rfl
    | false =>
      have h4 := h.h4 a hz
      have h5 := h.h5 a hz
      cases ho : Od a with
      | true =>
        rw [ho] at e1 h4
        cases hg : Lg a with
        | true =>
          rw [hg] at e2 h5
          refine ⟨saysY [(13, true), (16, true), (20, true), (23, true), (27, false), (37, true), (40, false), (44, true), (47, false)], _, (Lg (N a) = false) :: (Lg a = true) :: (Od (N a) = false) :: (Od a = true) :: (Z a = false) :: (rL (R a) = true) :: (Lg a = true) :: (rO (R a) = true) :: (Od a = true) :: _, ?_, All.cons h5 (All.cons hg (All.cons h4 (All.cons ho (All.cons hz (All.cons e2 (All.cons hg (All.cons e1 (All.cons ho rest)))))))), rfl⟩
          subst ha
          kernel_rfl
        | false =>
          rw [hg] at e2 h5
          refine ⟨saysY [(13, true), (16, true), (20, false), (23, false), (27, false), (37, true), (40, false), (44, false), (47, true)], _, (Lg (N a) = true) :: (Lg a = false) :: (Od (N a) = false) :: (Od a = true) :: (Z a = false) :: (rL (R a) = false) :: (Lg a = false) :: (rO (R a) = true) :: (Od a = true) :: _, ?_, All.cons h5 (All.cons hg (All.cons h4 (All.cons ho (All.cons hz (All.cons e2 (All.cons hg (All.cons e1 (All.cons ho rest)))))))), rfl⟩
          subst ha
          kernel_rfl
      | false =>
        rw [ho] at e1 h4
        cases hg : Lg a with
        | true =>
          rw [hg] at e2 h5
          refine ⟨saysY [(13, false), (16, false), (20, true), (23, true), (27, false), (37, false), (40, true), (44, true), (47, false)], _, (Lg (N a) = false) :: (Lg a = true) :: (Od (N a) = true) :: (Od a = false) :: (Z a = false) :: (rL (R a) = true) :: (Lg a = true) :: (rO (R a) = false) :: (Od a = false) :: _, ?_, All.cons h5 (All.cons hg (All.cons h4 (All.cons ho (All.cons hz (All.cons e2 (All.cons hg (All.cons e1 (All.cons ho rest)))))))), rfl⟩
          subst ha
          kernel_rfl
        | false =>
          rw [hg] at e2 h5
          refine ⟨saysY [(13, false), (16, false), (20, false), (23, false), (27, false), (37, false), (40, true), (44, false), (47, true)], _, (Lg (N a) = true) :: (Lg a = false) :: (Od (N a) = true) :: (Od a = false) :: (Z a = false) :: (rL (R a) = false) :: (Lg a = false) :: (rO (R a) = false) :: (Od a = false) :: _, ?_, All.cons h5 (All.cons hg (All.cons h4 (All.cons ho (All.cons hz (All.cons e2 (All.cons hg (All.cons e1 (All.cons ho rest)))))))), rfl⟩
          subst ha
          kernel_rfl
  · exact ⟨_, ht 1, saysY [], true, [decide ((x.length : Int) > 128) = true, true = true], by kernel_rfl, ⟨decide_eq_true (by omega), rfl, trivial⟩, rfl⟩

end Go.Proofs.Ytbdbmcdcjejffaa
