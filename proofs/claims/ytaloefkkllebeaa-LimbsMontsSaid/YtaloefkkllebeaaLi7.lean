/- The law of what is left by a modulus. -/
import Derived.Test.YtaloefkkllebeaaLi5
set_option linter.unusedVariables false
set_option linter.unusedSimpArgs false
set_option linter.unusedSectionVars false
namespace Go.Proofs.Ytaloefkkllebeaa
open Go Go.Sh
def tblMo (G : R64 12 → Num → Num) (L : Num → Num → Bool) : List (Row A) :=
  [rowOf A 13 (fun _ : Unit => true), rowOf A 21 (fun x : R64 12 × Num × Unit => G x.1 x.2.1), rowOf A 22 (fun x : R64 12 × Num × Unit => G x.1 x.2.1), rowOf A 18 (fun x : Num × Num × Unit => L x.1 x.2.1)]
theorem mods_of (G : R64 12 → Num → Num) (L : Num → Num → Bool) (ht : TblOK Try.prog (tblMo G L)) (h : ∀ t m, isNo m = false → L (G t m) m = true) :
    Computes A Try.prog 5 (fun _ : R64 12 × Num × Unit => true) := by
  refine computes_of_run ht Try.func5 (by kernel_rfl) (by kernel_rfl) 8 ?_
  rintro _ ⟨⟨f⟩, m, ⟨⟩⟩ W0 -
  cases hm : isNo m with
  | true => exact ⟨saysY [], true, [isNo m = true, eqN (G ⟨f⟩ m) (G ⟨f⟩ m) = true, true = true], by kernel_rfl, ⟨hm, eqN_self _, rfl, trivial⟩, rfl⟩
  | false => exact ⟨saysY [(19, false)], true, [L (G ⟨f⟩ m) m = true, isNo m = false, eqN (G ⟨f⟩ m) (G ⟨f⟩ m) = true, true = true], by kernel_rfl, ⟨h _ _ hm, hm, eqN_self _, rfl, trivial⟩, rfl⟩
theorem modN_lt (t : R64 12) (m : Num) (h : isNo m = false) : decide (modN t m < m) = true := by
  rw [isNo_eq] at h
  have h := of_decide_eq_false h
  refine decide_eq_true ?_
  show (modN t m).val < m.val
  rw [modN_val t m h]
  exact Nat.mod_lt _ (by omega)
end Go.Proofs.Ytaloefkkllebeaa
