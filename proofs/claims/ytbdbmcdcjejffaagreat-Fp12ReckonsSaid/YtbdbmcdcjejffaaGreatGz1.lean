/- Fp12Reckons, walked over variable functions. -/
import Derived.Test.YtbdbmcdcjejffaaGreatGf2
set_option linter.unusedVariables false
set_option linter.unusedSimpArgs false
set_option linter.unusedSectionVars false
namespace Go.Proofs.YtbdbmcdcjejffaaGreat
open Go Go.Sh

noncomputable def tblFp12Reckons (k : Nat) (Tw : List UInt8 → F12) (RS : F12 → T6) (P12 : F12 → F12 → F12) (tP : T6 → T6 → T6) (D12 : F12 → F12 → F12) (tN : T6 → T6) (M12 : F12 → F12 → F12) (tM : T6 → T6 → T6) (Q12 : F12 → F12) (C12 : F12 → F12) (tC : T6 → T6) (I12 : F12 → F12) (tI : T6 → T6) (E12 : F12 → F12 → Bool) (Z12 : F12 → Bool) : List (Row A) :=
  [rowOf A 4 (fun _ : Unit => true), light7Row k, rowOf A 6 (fun x : Bt × Unit => Tw x.1.l),
    rowOf A 7 (fun x : F12 × Unit => RS x.1),
    rowOf A 8 (fun x : F12 × F12 × Unit => P12 x.1 x.2.1),
    rowOf A 9 (fun x : T6 × T6 × Unit => tP x.1 x.2.1),
    rowOf A 10 (fun x : F12 × F12 × Unit => D12 x.1 x.2.1),
    rowOf A 11 (fun x : T6 × Unit => tN x.1),
    rowOf A 12 (fun x : F12 × F12 × Unit => M12 x.1 x.2.1),
    rowOf A 13 (fun x : T6 × T6 × Unit => tM x.1 x.2.1),
    rowOf A 14 (fun x : F12 × Unit => Q12 x.1),
    rowOf A 15 (fun x : F12 × Unit => C12 x.1),
    rowOf A 16 (fun x : T6 × Unit => tC x.1),
    rowOf A 17 (fun x : F12 × Unit => I12 x.1),
    rowOf A 18 (fun x : T6 × Unit => tI x.1),
    rowOf A 19 (fun x : F12 × F12 × Unit => E12 x.1 x.2.1),
    rowOf A 20 (fun x : F12 × Unit => Z12 x.1)]

theorem fp12Reckons_of (Tw : List UInt8 → F12) (RS : F12 → T6) (P12 : F12 → F12 → F12) (tP : T6 → T6 → T6) (D12 : F12 → F12 → F12) (tN : T6 → T6) (M12 : F12 → F12 → F12) (tM : T6 → T6 → T6) (Q12 : F12 → F12) (C12 : F12 → F12) (tC : T6 → T6) (I12 : F12 → F12) (tI : T6 → T6) (E12 : F12 → F12 → Bool) (Z12 : F12 → Bool) (ht : ∀ k, TblOK Tryz.prog (tblFp12Reckons k Tw RS P12 tP D12 tN M12 tM Q12 C12 tC I12 tI E12 Z12))
    (H0 : ∀ (a : F12) (b : F12), E12 a b = true → Z12 a = true → ((Z12 (I12 (((0, 0), (0, 0), (0, 0)), ((0, 0), (0, 0), (0, 0)))) = true) ∧ (eqT (RS a) ((0, 0), (0, 0), (0, 0), (0, 0), (0, 0), (0, 0)) = true) ∧ (eqT (RS a) (RS b) = true) ∧ (eqT (RS (I12 a)) (tI (RS a)) = true) ∧ (eqT (RS (C12 a)) (tC (RS a)) = true) ∧ (eqT (RS (Q12 a)) (tM (RS a) (RS a)) = true) ∧ (eqT (RS (M12 a b)) (tM (RS a) (RS b)) = true) ∧ (eqT (RS (D12 a b)) (tP (RS a) (tN (RS b))) = true) ∧ (eqT (RS (P12 a b)) (tP (RS a) (RS b)) = true) ∧ (true = true) ∧ True))
    (H1 : ∀ (a : F12) (b : F12), E12 a b = true → Z12 a = false → ((Z12 (I12 (((0, 0), (0, 0), (0, 0)), ((0, 0), (0, 0), (0, 0)))) = true) ∧ (eqT (RS a) ((0, 0), (0, 0), (0, 0), (0, 0), (0, 0), (0, 0)) = false) ∧ (eqT (RS a) (RS b) = true) ∧ (eqT (RS (I12 a)) (tI (RS a)) = true) ∧ (eqT (RS (C12 a)) (tC (RS a)) = true) ∧ (eqT (RS (Q12 a)) (tM (RS a) (RS a)) = true) ∧ (eqT (RS (M12 a b)) (tM (RS a) (RS b)) = true) ∧ (eqT (RS (D12 a b)) (tP (RS a) (tN (RS b))) = true) ∧ (eqT (RS (P12 a b)) (tP (RS a) (RS b)) = true) ∧ (true = true) ∧ True))
    (H2 : ∀ (a : F12) (b : F12), E12 a b = false → Z12 a = true → ((Z12 (I12 (((0, 0), (0, 0), (0, 0)), ((0, 0), (0, 0), (0, 0)))) = true) ∧ (eqT (RS a) ((0, 0), (0, 0), (0, 0), (0, 0), (0, 0), (0, 0)) = true) ∧ (eqT (RS a) (RS b) = false) ∧ (eqT (RS (I12 a)) (tI (RS a)) = true) ∧ (eqT (RS (C12 a)) (tC (RS a)) = true) ∧ (eqT (RS (Q12 a)) (tM (RS a) (RS a)) = true) ∧ (eqT (RS (M12 a b)) (tM (RS a) (RS b)) = true) ∧ (eqT (RS (D12 a b)) (tP (RS a) (tN (RS b))) = true) ∧ (eqT (RS (P12 a b)) (tP (RS a) (RS b)) = true) ∧ (true = true) ∧ True))
    (H3 : ∀ (a : F12) (b : F12), E12 a b = false → Z12 a = false → ((Z12 (I12 (((0, 0), (0, 0), (0, 0)), ((0, 0), (0, 0), (0, 0)))) = true) ∧ (eqT (RS a) ((0, 0), (0, 0), (0, 0), (0, 0), (0, 0), (0, 0)) = false) ∧ (eqT (RS a) (RS b) = false) ∧ (eqT (RS (I12 a)) (tI (RS a)) = true) ∧ (eqT (RS (C12 a)) (tC (RS a)) = true) ∧ (eqT (RS (Q12 a)) (tM (RS a) (RS a)) = true) ∧ (eqT (RS (M12 a b)) (tM (RS a) (RS b)) = true) ∧ (eqT (RS (D12 a b)) (tP (RS a) (tN (RS b))) = true) ∧ (eqT (RS (P12 a b)) (tP (RS a) (RS b)) = true) ∧ (true = true) ∧ True)) :
    Computes A Tryz.prog 3 (fun _ : Bs × Bs × Unit => true) := by
  refine computes_of_runT0 Tryz.func3 (by kernel_rfl) (by kernel_rfl) 8 ?_
  rintro ⟨g0, g1, _⟩ ⟨⟨x⟩, ⟨y⟩, ⟨⟩⟩ W ⟨k0, k1, _⟩
  have k0 : HasBytes W x g0 := k0
  have k1 : HasBytes W y g1 := k1
  by_cases hx : x.length ≤ 200
  · skip
    by_cases hy : y.length ≤ 200
    · skip
      obtain ⟨a, ha'⟩ : ∃ a : F12, a = Tw (partB x 0 x.length) := ⟨_, rfl⟩
      obtain ⟨b, hb'⟩ : ∃ b : F12, b = Tw (partB y 0 y.length) := ⟨_, rfl⟩
      refine ⟨_, ht 0, ?_⟩
      cases hc0 : E12 a b with
      | true =>
        cases hc1 : Z12 a with
        | true =>
          obtain ⟨q0, q1, q2, q3, q4, q5, q6, q7, q8, q9, -⟩ := H0 a b hc0 hc1
          refine ⟨saysY [], true, [Z12 (I12 (((0, 0), (0, 0), (0, 0)), ((0, 0), (0, 0), (0, 0)))) = true, eqT (RS a) ((0, 0), (0, 0), (0, 0), (0, 0), (0, 0), (0, 0)) = true, Z12 a = true, eqT (RS a) (RS b) = true, E12 a b = true, eqT (RS (I12 a)) (tI (RS a)) = true, eqT (RS (C12 a)) (tC (RS a)) = true, eqT (RS (Q12 a)) (tM (RS a) (RS a)) = true, eqT (RS (M12 a b)) (tM (RS a) (RS b)) = true, eqT (RS (D12 a b)) (tP (RS a) (tN (RS b))) = true, eqT (RS (P12 a b)) (tP (RS a) (RS b)) = true, (partB y 0 y.length).length < 1048576, ReadB W g1 y, AllU8 y, (partB x 0 x.length).length < 1048576, ReadB W g0 x, AllU8 x, decide ((y.length : Int) > 200) = false, decide ((x.length : Int) > 200) = false, true = true], ?_, ⟨q0, q1, hc1, q2, hc0, q3, q4, q5, q6, q7, q8, shortL hy, readB k1, allU8 y, shortL hx, readB k0, allU8 x, decide_eq_false (by omega), decide_eq_false (by omega), q9, trivial⟩, rfl⟩
          subst ha' hb'
          kernel_rfl
        | false =>
          obtain ⟨q0, q1, q2, q3, q4, q5, q6, q7, q8, q9, -⟩ := H1 a b hc0 hc1
          refine ⟨saysY [(90, false), (93, false)], true, [Z12 (I12 (((0, 0), (0, 0), (0, 0)), ((0, 0), (0, 0), (0, 0)))) = true, eqT (RS a) ((0, 0), (0, 0), (0, 0), (0, 0), (0, 0), (0, 0)) = false, Z12 a = false, eqT (RS a) (RS b) = true, E12 a b = true, eqT (RS (I12 a)) (tI (RS a)) = true, eqT (RS (C12 a)) (tC (RS a)) = true, eqT (RS (Q12 a)) (tM (RS a) (RS a)) = true, eqT (RS (M12 a b)) (tM (RS a) (RS b)) = true, eqT (RS (D12 a b)) (tP (RS a) (tN (RS b))) = true, eqT (RS (P12 a b)) (tP (RS a) (RS b)) = true, (partB y 0 y.length).length < 1048576, ReadB W g1 y, AllU8 y, (partB x 0 x.length).length < 1048576, ReadB W g0 x, AllU8 x, decide ((y.length : Int) > 200) = false, decide ((x.length : Int) > 200) = false, true = true], ?_, ⟨q0, q1, hc1, q2, hc0, q3, q4, q5, q6, q7, q8, shortL hy, readB k1, allU8 y, shortL hx, readB k0, allU8 x, decide_eq_false (by omega), decide_eq_false (by omega), q9, trivial⟩, rfl⟩
          subst ha' hb'
          kernel_rfl
      | false =>
        cases hc1 : Z12 a with
        | true =>
          obtain ⟨q0, q1, q2, q3, q4, q5, q6, q7, q8, q9, -⟩ := H2 a b hc0 hc1
          refine ⟨saysY [(82, false), (85, false)], true, [Z12 (I12 (((0, 0), (0, 0), (0, 0)), ((0, 0), (0, 0), (0, 0)))) = true, eqT (RS a) ((0, 0), (0, 0), (0, 0), (0, 0), (0, 0), (0, 0)) = true, Z12 a = true, eqT (RS a) (RS b) = false, E12 a b = false, eqT (RS (I12 a)) (tI (RS a)) = true, eqT (RS (C12 a)) (tC (RS a)) = true, eqT (RS (Q12 a)) (tM (RS a) (RS a)) = true, eqT (RS (M12 a b)) (tM (RS a) (RS b)) = true, eqT (RS (D12 a b)) (tP (RS a) (tN (RS b))) = true, eqT (RS (P12 a b)) (tP (RS a) (RS b)) = true, (partB y 0 y.length).length < 1048576, ReadB W g1 y, AllU8 y, (partB x 0 x.length).length < 1048576, ReadB W g0 x, AllU8 x, decide ((y.length : Int) > 200) = false, decide ((x.length : Int) > 200) = false, true = true], ?_, ⟨q0, q1, hc1, q2, hc0, q3, q4, q5, q6, q7, q8, shortL hy, readB k1, allU8 y, shortL hx, readB k0, allU8 x, decide_eq_false (by omega), decide_eq_false (by omega), q9, trivial⟩, rfl⟩
          subst ha' hb'
          kernel_rfl
        | false =>
          obtain ⟨q0, q1, q2, q3, q4, q5, q6, q7, q8, q9, -⟩ := H3 a b hc0 hc1
          refine ⟨saysY [(82, false), (85, false), (90, false), (93, false)], true, [Z12 (I12 (((0, 0), (0, 0), (0, 0)), ((0, 0), (0, 0), (0, 0)))) = true, eqT (RS a) ((0, 0), (0, 0), (0, 0), (0, 0), (0, 0), (0, 0)) = false, Z12 a = false, eqT (RS a) (RS b) = false, E12 a b = false, eqT (RS (I12 a)) (tI (RS a)) = true, eqT (RS (C12 a)) (tC (RS a)) = true, eqT (RS (Q12 a)) (tM (RS a) (RS a)) = true, eqT (RS (M12 a b)) (tM (RS a) (RS b)) = true, eqT (RS (D12 a b)) (tP (RS a) (tN (RS b))) = true, eqT (RS (P12 a b)) (tP (RS a) (RS b)) = true, (partB y 0 y.length).length < 1048576, ReadB W g1 y, AllU8 y, (partB x 0 x.length).length < 1048576, ReadB W g0 x, AllU8 x, decide ((y.length : Int) > 200) = false, decide ((x.length : Int) > 200) = false, true = true], ?_, ⟨q0, q1, hc1, q2, hc0, q3, q4, q5, q6, q7, q8, shortL hy, readB k1, allU8 y, shortL hx, readB k0, allU8 x, decide_eq_false (by omega), decide_eq_false (by omega), q9, trivial⟩, rfl⟩
          subst ha' hb'
          kernel_rfl
    · exact ⟨_, ht 2, saysY [], true, [decide ((y.length : Int) > 200) = true, decide ((x.length : Int) > 200) = false, true = true], by kernel_rfl, ⟨decide_eq_true (by omega), decide_eq_false (by omega), rfl, trivial⟩, rfl⟩
  · exact ⟨_, ht 1, saysY [], true, [decide ((x.length : Int) > 200) = true, true = true], by kernel_rfl, ⟨decide_eq_true (by omega), rfl, trivial⟩, rfl⟩

end Go.Proofs.YtbdbmcdcjejffaaGreat
