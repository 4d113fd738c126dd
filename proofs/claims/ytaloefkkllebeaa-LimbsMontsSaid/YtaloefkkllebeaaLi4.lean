/- The examples of limbs; sums and differences. -/
import Derived.Test.YtaloefkkllebeaaLi3
set_option linter.unusedVariables false
set_option linter.unusedSimpArgs false
set_option linter.unusedSectionVars false
namespace Go.Sh
theorem fits_words : ∀ (n : Nat) {cs : List Value}, Fits (List.replicate n (.int .u64)) cs → ∃ l : List UInt64, l.length = n ∧ cs = l.map fun x => Value.int .u64 x.toNat
  | 0, [], _ => ⟨[], rfl, rfl⟩
  | 0, _ :: _, h => h.elim
  | n + 1, [], h => h.elim
  | n + 1, v :: vs, ⟨h1, h2⟩ => by
    obtain ⟨z, rfl, hw⟩ := h1
    obtain ⟨l, hl, rfl⟩ := fits_words n h2
    have hw' : (0 : Int) ≤ z ∧ z ≤ 18446744073709551615 := by simpa [Lit.wf, IntKind.min, IntKind.max, IntKind.signed, IntKind.bits] using hw
    obtain ⟨m, rfl⟩ := Int.eq_ofNat_of_zero_le hw'.1
    refine ⟨UInt64.ofNat m :: l, by simp [hl], ?_⟩
    simp only [List.map_cons]
    rw [UInt64.toNat_ofNat_of_lt' (show m < 18446744073709551616 by omega)]
instance (n : Nat) : Opens A (R64 n) where
  kds := List.replicate n (.int .u64)
  opens cs h := by
    obtain ⟨l, hl, rfl⟩ := fits_words n h
    exact ⟨⟨pickN 0 l⟩, (r64_vals l hl).symm⟩
instance : Opens A Num where
  kds := List.replicate 6 (.int .u64)
  opens cs h := by
    obtain ⟨l, hl, rfl⟩ := fits_words 6 h
    match l, hl with
    | [a, b, c, d, e, f], _ =>
      refine ⟨numO (a, b, c, d, e, f), ?_⟩
      show _ = cells6 (numL (numO (a, b, c, d, e, f)))
      rw [numL_numO]
      rfl
end Go.Sh
namespace Go.Proofs.Ytaloefkkllebeaa
open Go Go.Sh
def evalO : Nat → Nat → Dec := fun _ _ => .eval
noncomputable def tblMont0 (F : Num → Num → R64 12) (G : R64 12 → Num → Num) (H L : UInt64 → UInt64 → UInt64 → UInt64 → UInt64) (S : UInt64 → UInt64 → Cy → UInt64) (C : UInt64 → UInt64 → Cy → Cy) (o : Nat → Nat → Dec) : List (Row A) :=
  [rowOf A 19 (fun x : Num × Num × Unit => F x.1 x.2.1), rowOf A 21 (fun x : R64 12 × Num × Unit => G x.1 x.2.1), rowOf A 55 (fun x : UInt64 × UInt64 × UInt64 × UInt64 × Unit => (T2.mk (H x.1 x.2.1 x.2.2.1 x.2.2.2.1) (L x.1 x.2.1 x.2.2.1 x.2.2.2.1))),
    rowOf A 53 (fun x : UInt64 × UInt64 × Cy × Unit => (T2.mk (S x.1 x.2.1 x.2.2.1) (C x.1 x.2.1 x.2.2.1))), rowIn Try.prog [] [] o 8 58 Try.f58]
noncomputable def tblK2 : List (Row A) :=
  [rowOf A 14 (fun x : Num × Num × Unit => T2.mk (x.1 + x.2.1) (Cy.mk (carryN x.1 x.2.1))), rowOf A 15 (fun x : Num × Num × Unit => T2.mk (x.1 - x.2.1) (Cy.mk (decide (x.1 < x.2.1)))), rowOf A 27 (fun x : Bs × Unit => fromB x.1.l), rowOf A 21 (fun x : R64 12 × Num × Unit => modN x.1 x.2.1),
    rowOf A 18 (fun x : Num × Num × Unit => decide (x.1 < x.2.1)), rowIn Try.prog (tblMont0 (fun a b => n12 (a.val * b.val)) modN maddHi maddLo adcS adcC evalO) [] evalO 14 23 Try.f23, rowIn Try.prog [] [] evalO 8 52 Try.f52]
noncomputable def itsK2 : List (IRow A) := [iter Try.prog [rowIn Try.prog [] [] evalO 8 66 Try.f66] [] evalO 10 65 Try.f65]
end Go.Proofs.Ytaloefkkllebeaa
