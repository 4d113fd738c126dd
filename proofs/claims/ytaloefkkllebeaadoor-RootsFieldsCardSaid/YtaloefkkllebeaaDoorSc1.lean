/- SHA-256: pairs; rows of numbers held against one another. -/
import Derived.Test.YtaloefkkllebeaaDoorSb5
set_option linter.unusedVariables false
set_option linter.unusedSimpArgs false
set_option linter.unusedSectionVars false
namespace Go.Sh
/-- Two sums, behind one another. -/
def both (a b : Nat → UInt8) : Nat → UInt8 := pickN 0 ((List.range 32).map a ++ (List.range 32).map b)
/-- The block behind one of 64 bytes. -/
def end64 : Nat → UInt8 := pickN 0 (UInt8.ofNat 128 :: (List.replicate 55 (UInt8.ofNat 0) ++ [UInt8.ofNat 0, UInt8.ofNat 0, UInt8.ofNat 0, UInt8.ofNat 0, UInt8.ofNat 0, UInt8.ofNat 0, UInt8.ofNat 2, UInt8.ofNat 0]))
/-- Are rows of bytes the same, from i on? -/
def eqB (a b : Nat → UInt8) (i : Nat) : Nat → Bool
  | 0 => true
  | n + 1 => (((a i).toNat : Int) == ((b i).toNat : Int)) && eqB a b (i + 1) n
theorem eqB_eq (a b : Nat → UInt8) : ∀ n i, eqB a b i n = true ↔ ∀ j, j < n → a (i + j) = b (i + j)
  | 0, i => by simp [eqB]
  | n + 1, i => by
    simp only [eqB, Bool.and_eq_true, eqB_eq a b n (i + 1), beq_iff_eq]
    constructor
    · rintro ⟨h1, h2⟩ j hj
      cases j with
      | zero => exact UInt8.toNat_inj.1 (by simpa using Int.ofNat.inj h1)
      | succ j => have := h2 j (by omega); rwa [show i + 1 + j = i + (j + 1) by omega] at this
    · intro h
      refine ⟨by have := h 0 (by omega); rw [Nat.add_zero] at this; rw [this], fun j hj => ?_⟩
      have := h (j + 1) (by omega)
      rwa [show i + (j + 1) = i + 1 + j by omega] at this
theorem eqB_self (a : Nat → UInt8) (n i : Nat) : eqB a a i n = true := (eqB_eq a a n i).2 (fun _ _ => rfl)
end Go.Sh
namespace Go.Proofs.YtaloefkkllebeaaDoor
open Go Go.Sh
section
variable (Fst : Nat → UInt32) (C : (Nat → UInt32) → (Nat → UInt8) → (Nat → UInt32)) (O : (Nat → UInt32) → (Nat → UInt8))
noncomputable def tblPair : List (Row A) :=
  [addR C, rowOf A 85 (fun _ : Unit => (⟨Fst⟩ : R32 8)), rowOf A 87 (fun x : Ptr (R32 8) × Unit => (⟨O x.1.x.f⟩ : R8 32)), endingR]
theorem pair_of (ht : TblOK Tryd.prog (tblPair Fst C O)) : Computes A Tryd.prog 33 (fun x : GA (R8 32 × R8 32 × Unit) => (⟨O (C (C Fst (both x.x.1.f x.x.2.1.f)) end64)⟩ : R8 32)) := by
  refine computes_of_runT Tryd.func33 (by kernel_rfl) (by kernel_rfl) 8 ?_
  rintro _ ⟨⟨⟨a⟩, ⟨b⟩, ⟨⟩⟩⟩ W ⟨hr, _⟩
  refine ⟨_, [iter Tryd.prog [] [] (fun _ _ => .keep) 12 120 Tryd.f120], ht, .cons (iter_ok (TblOK.nil _) (ITblOK.nil _) _ 12 Tryd.func120 (by kernel_rfl) (by kernel_rfl)) (ITblOK.nil _), fun _ _ => .keep, noLoop,
    ⟨O (C (C Fst (both a b)) end64)⟩, [RoundsIn W.cell?, ∀ j, j < min 0 (64 - 0) → ∃ x, (fun q : Nat => (Atom.dummy : A)) (0 + j) = .u8 x, RoundsIn W.cell?], by kernel_rfl, ⟨hr, fun j hj => by simp at hj, hr, trivial⟩, rfl, fun body _ => loopsFor_none⟩
end
def pairR8 (a b : R8 32) : R8 32 := ⟨outF (compF (compF firstF (both a.f b.f)) end64)⟩
theorem pair_ok : Computes A Tryd.prog 33 (fun x : GA (R8 32 × R8 32 × Unit) => pairR8 x.x.1 x.x.2.1) :=
  pair_of firstF compF outF (.cons addR_ok (.cons first_ok.row (.cons bytesS_ok.row (.cons endingR_ok (.nil _)))))
theorem pair_try : Nat.beq ((pairR8 ⟨pickN 0 (List.replicate 32 (UInt8.ofNat 0))⟩ ⟨pickN 0 (List.replicate 32 (UInt8.ofNat 0))⟩).f 0).toNat 245 = true := by kernel_rfl
end Go.Proofs.YtaloefkkllebeaaDoor
