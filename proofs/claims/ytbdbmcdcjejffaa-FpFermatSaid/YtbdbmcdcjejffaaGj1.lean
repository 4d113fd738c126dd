/- The law of Fermat's powers, walked over variable functions. -/
import Derived.Test.YtbdbmcdcjejffaaFp2
set_option linter.unusedVariables false
set_option linter.unusedSimpArgs false
set_option linter.unusedSectionVars false
namespace Go.Proofs.Ytbdbmcdcjejffaa
open Go Go.Sh
/-- Bytes, put together again. -/
def packR (f : Nat → UInt8) : R8 48 := ⟨pickN 0 (listB f)⟩
noncomputable def tblFpFermat (k : Nat) (Wd : List UInt8 → Fp) (O : UInt64 → Fp) (N : Fp → Fp) (B : Fp → R8 48) (Z : Fp → Bool) (pow : Fp → List UInt8 → Fp) (Lg : Fp → Int) (hf : R8 48 → List UInt8) (E : Fp → Fp → Bool) : List (Row A) :=
  [rowOf A 25 (fun _ : Unit => true), lightRow k, rowOf A 35 (fun x : Bt × Unit => Wd x.1.l),
    rowOf A 38 (fun x : UInt64 × Unit => O x.1),
    rowOf A 48 (fun x : Fp × Unit => N x.1),
    rowOf A 32 (fun x : Fp × Unit => B x.1),
    rowOf A 31 (fun x : Fp × Unit => Z x.1),
    rowOf A 62 (fun x : Fp × Bt × Unit => pow x.1 x.2.1.l),
    rowOf A 60 (fun x : Fp × Unit => Lg x.1),
    rowOf A 65 (fun x : R8 48 × Unit => Bz.mk (hf x.1)),
    rowOf A 52 (fun x : Fp × Fp × Unit => E x.1 x.2.1)]

theorem fpFermat_of (Wd : List UInt8 → Fp) (O : UInt64 → Fp) (N : Fp → Fp) (B : Fp → R8 48) (Z : Fp → Bool) (pow : Fp → List UInt8 → Fp) (Lg : Fp → Int) (hf : R8 48 → List UInt8) (E : Fp → Fp → Bool) (ht : ∀ k, TblOK Try.prog (tblFpFermat k Wd O N B Z pow Lg hf E))
    (H0 : ∀ (a : Fp), Z a = true → (((Lg a == 0) = true) ∧ (Z (pow a (listB (B (N (O 1))).f)) = true) ∧ ((listB (B (N (O 1))).f).length < 1048576) ∧ (true = true) ∧ True))
    (H1 : ∀ (a : Fp), Z a = false → E (pow a (partB (hf (packR (B (N (O 1))).f)) 0 (hf (packR (B (N (O 1))).f)).length)) (O 1) = true → E (pow a (partB (hf (packR (B (N (O 1))).f)) 0 (hf (packR (B (N (O 1))).f)).length)) (N (O 1)) = true → (((Lg a == -1) = true) ∧ ((Lg a == 1) = true) ∧ (E (pow a (listB (B (N (O 1))).f)) (O 1) = true) ∧ ((listB (B (N (O 1))).f).length < 1048576) ∧ ((partB (hf (packR (B (N (O 1))).f)) 0 (hf (packR (B (N (O 1))).f)).length).length < 1048576) ∧ (true = true) ∧ True))
    (H2 : ∀ (a : Fp), Z a = false → E (pow a (partB (hf (packR (B (N (O 1))).f)) 0 (hf (packR (B (N (O 1))).f)).length)) (O 1) = true → E (pow a (partB (hf (packR (B (N (O 1))).f)) 0 (hf (packR (B (N (O 1))).f)).length)) (N (O 1)) = false → (((Lg a == -1) = false) ∧ ((Lg a == 1) = true) ∧ (E (pow a (listB (B (N (O 1))).f)) (O 1) = true) ∧ ((listB (B (N (O 1))).f).length < 1048576) ∧ ((partB (hf (packR (B (N (O 1))).f)) 0 (hf (packR (B (N (O 1))).f)).length).length < 1048576) ∧ (true = true) ∧ True))
    (H3 : ∀ (a : Fp), Z a = false → E (pow a (partB (hf (packR (B (N (O 1))).f)) 0 (hf (packR (B (N (O 1))).f)).length)) (O 1) = false → E (pow a (partB (hf (packR (B (N (O 1))).f)) 0 (hf (packR (B (N (O 1))).f)).length)) (N (O 1)) = true → (((Lg a == -1) = true) ∧ ((Lg a == 1) = false) ∧ (E (pow a (listB (B (N (O 1))).f)) (O 1) = true) ∧ ((listB (B (N (O 1))).f).length < 1048576) ∧ ((partB (hf (packR (B (N (O 1))).f)) 0 (hf (packR (B (N (O 1))).f)).length).length < 1048576) ∧ (true = true) ∧ True))
    (H4 : ∀ (a : Fp), Z a = false → E (pow a (partB (hf (packR (B (N (O 1))).f)) 0 (hf (packR (B (N (O 1))).f)).length)) (O 1) = false → E (pow a (partB (hf (packR (B (N (O 1))).f)) 0 (hf (packR (B (N (O 1))).f)).length)) (N (O 1)) = false → (((Lg a == -1) = false) ∧ ((Lg a == 1) = false) ∧ (E (pow a (listB (B (N (O 1))).f)) (O 1) = true) ∧ ((listB (B (N (O 1))).f).length < 1048576) ∧ ((partB (hf (packR (B (N (O 1))).f)) 0 (hf (packR (B (N (O 1))).f)).length).length < 1048576) ∧ (true = true) ∧ True)) :
    Computes A Try.prog 10 (fun _ : Bs × Unit => true) := by
  refine computes_of_runT0 Try.func10 (by kernel_rfl) (by kernel_rfl) 8 ?_
  rintro ⟨g0, _⟩ ⟨⟨x⟩, ⟨⟩⟩ W ⟨k0, _⟩
  have k0 : HasBytes W x g0 := k0
  by_cases hx : x.length ≤ 128
  · skip
    obtain ⟨a, ha'⟩ : ∃ a : Fp, a = Wd (partB x 0 x.length) := ⟨_, rfl⟩
    refine ⟨_, ht 0, ?_⟩
    cases hc0 : Z a with
    | true =>
      obtain ⟨q0, q1, q2, q3, -⟩ := H0 a hc0
      refine ⟨saysY [], true, [(Lg a == 0) = true, Z (pow a (listB (B (N (O 1))).f)) = true, (listB (B (N (O 1))).f).length < 1048576, Z a = true, (partB x 0 x.length).length < 1048576, ReadB W g0 x, AllU8 x, decide ((x.length : Int) > 128) = false, true = true], ?_, ⟨q0, q1, q2, hc0, shortB hx, readB k0, allU8 x, decide_eq_false (by omega), q3, trivial⟩, rfl⟩
      subst ha'
      kernel_rfl
    | false =>
      cases hc1 : E (pow a (partB (hf (packR (B (N (O 1))).f)) 0 (hf (packR (B (N (O 1))).f)).length)) (O 1) with
      | true =>
        cases hc2 : E (pow a (partB (hf (packR (B (N (O 1))).f)) 0 (hf (packR (B (N (O 1))).f)).length)) (N (O 1)) with
        | true =>
          obtain ⟨q0, q1, q2, q3, q4, q5, -⟩ := H1 a hc0 hc1 hc2
          refine ⟨saysY [(18, false)], true, [(Lg a == -1) = true, E (pow a (partB (hf (packR (B (N (O 1))).f)) 0 (hf (packR (B (N (O 1))).f)).length)) (N (O 1)) = true, (Lg a == 1) = true, E (pow a (partB (hf (packR (B (N (O 1))).f)) 0 (hf (packR (B (N (O 1))).f)).length)) (O 1) = true, E (pow a (listB (B (N (O 1))).f)) (O 1) = true, (listB (B (N (O 1))).f).length < 1048576, (partB (hf (packR (B (N (O 1))).f)) 0 (hf (packR (B (N (O 1))).f)).length).length < 1048576, AllU8 (hf (packR (B (N (O 1))).f)), Z a = false, (partB x 0 x.length).length < 1048576, ReadB W g0 x, AllU8 x, decide ((x.length : Int) > 128) = false, true = true], ?_, ⟨q0, hc2, q1, hc1, q2, q3, q4, allU8 _, hc0, shortB hx, readB k0, allU8 x, decide_eq_false (by omega), q5, trivial⟩, rfl⟩
          subst ha'
          kernel_rfl
        | false =>
          obtain ⟨q0, q1, q2, q3, q4, q5, -⟩ := H2 a hc0 hc1 hc2
          refine ⟨saysY [(18, false), (50, false), (53, false)], true, [(Lg a == -1) = false, E (pow a (partB (hf (packR (B (N (O 1))).f)) 0 (hf (packR (B (N (O 1))).f)).length)) (N (O 1)) = false, (Lg a == 1) = true, E (pow a (partB (hf (packR (B (N (O 1))).f)) 0 (hf (packR (B (N (O 1))).f)).length)) (O 1) = true, E (pow a (listB (B (N (O 1))).f)) (O 1) = true, (listB (B (N (O 1))).f).length < 1048576, (partB (hf (packR (B (N (O 1))).f)) 0 (hf (packR (B (N (O 1))).f)).length).length < 1048576, AllU8 (hf (packR (B (N (O 1))).f)), Z a = false, (partB x 0 x.length).length < 1048576, ReadB W g0 x, AllU8 x, decide ((x.length : Int) > 128) = false, true = true], ?_, ⟨q0, hc2, q1, hc1, q2, q3, q4, allU8 _, hc0, shortB hx, readB k0, allU8 x, decide_eq_false (by omega), q5, trivial⟩, rfl⟩
          subst ha'
          kernel_rfl
      | false =>
        cases hc2 : E (pow a (partB (hf (packR (B (N (O 1))).f)) 0 (hf (packR (B (N (O 1))).f)).length)) (N (O 1)) with
        | true =>
          obtain ⟨q0, q1, q2, q3, q4, q5, -⟩ := H3 a hc0 hc1 hc2
          refine ⟨saysY [(18, false), (40, false), (43, false)], true, [(Lg a == -1) = true, E (pow a (partB (hf (packR (B (N (O 1))).f)) 0 (hf (packR (B (N (O 1))).f)).length)) (N (O 1)) = true, (Lg a == 1) = false, E (pow a (partB (hf (packR (B (N (O 1))).f)) 0 (hf (packR (B (N (O 1))).f)).length)) (O 1) = false, E (pow a (listB (B (N (O 1))).f)) (O 1) = true, (listB (B (N (O 1))).f).length < 1048576, (partB (hf (packR (B (N (O 1))).f)) 0 (hf (packR (B (N (O 1))).f)).length).length < 1048576, AllU8 (hf (packR (B (N (O 1))).f)), Z a = false, (partB x 0 x.length).length < 1048576, ReadB W g0 x, AllU8 x, decide ((x.length : Int) > 128) = false, true = true], ?_, ⟨q0, hc2, q1, hc1, q2, q3, q4, allU8 _, hc0, shortB hx, readB k0, allU8 x, decide_eq_false (by omega), q5, trivial⟩, rfl⟩
          subst ha'
          kernel_rfl
        | false =>
          obtain ⟨q0, q1, q2, q3, q4, q5, -⟩ := H4 a hc0 hc1 hc2
          refine ⟨saysY [(18, false), (40, false), (43, false), (50, false), (53, false)], true, [(Lg a == -1) = false, E (pow a (partB (hf (packR (B (N (O 1))).f)) 0 (hf (packR (B (N (O 1))).f)).length)) (N (O 1)) = false, (Lg a == 1) = false, E (pow a (partB (hf (packR (B (N (O 1))).f)) 0 (hf (packR (B (N (O 1))).f)).length)) (O 1) = false, E (pow a (listB (B (N (O 1))).f)) (O 1) = true, (listB (B (N (O 1))).f).length < 1048576, (partB (hf (packR (B (N (O 1))).f)) 0 (hf (packR (B (N (O 1))).f)).length).length < 1048576, AllU8 (hf (packR (B (N (O 1))).f)), Z a = false, (partB x 0 x.length).length < 1048576, ReadB W g0 x, AllU8 x, decide ((x.length : Int) > 128) = false, true = true], ?_, ⟨q0, hc2, q1, hc1, q2, q3, q4, allU8 _, hc0, shortB hx, readB k0, allU8 x, decide_eq_false (by omega), q5, trivial⟩, rfl⟩
          subst ha'
          kernel_rfl
  · exact ⟨_, ht 1, saysY [], true, [decide ((x.length : Int) > 128) = true, true = true], by kernel_rfl, ⟨decide_eq_true (by omega), rfl, trivial⟩, rfl⟩
end Go.Proofs.Ytbdbmcdcjejffaa
