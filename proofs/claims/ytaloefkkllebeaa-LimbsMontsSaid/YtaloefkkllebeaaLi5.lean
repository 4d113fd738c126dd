/- The law of sums and differences. -/
import Derived.Test.YtaloefkkllebeaaLi4
set_option linter.unusedVariables false
set_option linter.unusedSimpArgs false
set_option linter.unusedSectionVars false
namespace Go.Proofs.Ytaloefkkllebeaa
open Go Go.Sh
def eqN (x y : Num) : Bool := eqL (numL x) (numL y)
theorem eqN_self (x : Num) : eqN x x = true := by unfold eqN; rw [eqL_eq]; exact decide_eq_true rfl
theorem eqN_eq (x y : Num) : eqN x y = decide (x = y) := by
  unfold eqN
  rw [eqL_eq]
  by_cases h : x = y
  · subst h; rw [decide_eq_true rfl, decide_eq_true rfl]
  · rw [decide_eq_false h, decide_eq_false]
    intro e
    have h2 := congrArg numO e
    rw [numO_numL, numO_numL] at h2
    exact h h2
section
variable (S D : Num → Num → Num) (C W L : Num → Num → Bool)
def tblSu : List (Row A) :=
  [rowOf A 13 (fun _ : Unit => true), rowOf A 14 (fun x : Num × Num × Unit => T2.mk (S x.1 x.2.1) (Cy.mk (C x.1 x.2.1))), rowOf A 15 (fun x : Num × Num × Unit => T2.mk (D x.1 x.2.1) (Cy.mk (W x.1 x.2.1))),
    rowOf A 16 (fun x : Num × Num × Unit => T2.mk (S x.1 x.2.1) (Cy.mk (C x.1 x.2.1))), rowOf A 17 (fun x : Num × Num × Unit => T2.mk (D x.1 x.2.1) (Cy.mk (W x.1 x.2.1))), rowOf A 18 (fun x : Num × Num × Unit => L x.1 x.2.1)]
theorem cyEq (b : Bool) : ((cond b 1 0 : Int) == cond b 1 0) = true := by cases b <;> rfl
theorem sums_of (ht : TblOK Try.prog (tblSu S D C W L)) (h1 : ∀ a b, D (S a b) b = a) (h2 : ∀ a b, S (D a b) b = a) (h3 : ∀ a b, L a b = W a b) (h4 : ∀ a, L a a = false) :
    Computes A Try.prog 3 (fun _ : Num × Num × Unit => true) := by
  refine computes_of_run ht Try.func3 (by kernel_rfl) (by kernel_rfl) 8 ?_
  rintro _ ⟨a, b, ⟨⟩⟩ W0 -
  have e1 : eqN (S (D a b) b) a = true := by rw [h2]; exact eqN_self a
  have e2 : eqN (D (S a b) b) a = true := by rw [h1]; exact eqN_self a
  cases hw : W a b with
  | true =>
    refine ⟨saysY [(94, false)], true, [L a a = false, ((cond (W a b) 1 0 : Int) == 1) = true, L a b = true, eqN (S (D a b) b) a = true, eqN (D (S a b) b) a = true, ((cond (W a b) 1 0 : Int) == cond (W a b) 1 0) = true, eqN (D a b) (D a b) = true, ((cond (C a b) 1 0 : Int) == cond (C a b) 1 0) = true, eqN (S a b) (S a b) = true, true = true], by kernel_rfl,
      ⟨h4 a, by rw [hw]; rfl, by rw [h3, hw], e1, e2, cyEq _, eqN_self _, cyEq _, eqN_self _, rfl, trivial⟩, rfl⟩
  | false =>
    refine ⟨saysY [(86, false), (88, false), (94, false)], true, [L a a = false, ((cond (W a b) 1 0 : Int) == 1) = false, L a b = false, eqN (S (D a b) b) a = true, eqN (D (S a b) b) a = true, ((cond (W a b) 1 0 : Int) == cond (W a b) 1 0) = true, eqN (D a b) (D a b) = true, ((cond (C a b) 1 0 : Int) == cond (C a b) 1 0) = true, eqN (S a b) (S a b) = true, true = true], by kernel_rfl,
      ⟨h4 a, by rw [hw]; rfl, by rw [h3, hw], e1, e2, cyEq _, eqN_self _, cyEq _, eqN_self _, rfl, trivial⟩, rfl⟩
end
end Go.Proofs.Ytaloefkkllebeaa
