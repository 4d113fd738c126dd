/- The laws of powers of p, walked over variable functions. -/
import Derived.Test.YtbdbmcdcjejffaaGf2
import Derived.Test.YtbdbmcdcjejffaaGg1
set_option linter.unusedVariables false
set_option linter.unusedSimpArgs false
set_option linter.unusedSectionVars false
namespace Go.Proofs.Ytbdbmcdcjejffaa
open Go Go.Sh

noncomputable def tblFp6Frobs (k : Nat) (Sx : List UInt8 → F6) (fr6 : F6 → Int → F6) (E6 : F6 → F6 → Bool) (M6 : F6 → F6 → F6) (P6 : F6 → F6 → F6) (RS : F6 → T6) (tfr : T6 → T6) : List (Row A) :=
  [rowOf A 66 (fun _ : Unit => true), light6Row k, rowOf A 68 (fun x : Bt × Unit => Sx x.1.l),
    rowOf A 88 (fun x : F6 × Int × Unit => fr6 x.1 x.2.1),
    rowOf A 70 (fun x : F6 × F6 × Unit => E6 x.1 x.2.1),
    rowOf A 71 (fun x : F6 × F6 × Unit => M6 x.1 x.2.1),
    rowOf A 69 (fun x : F6 × F6 × Unit => P6 x.1 x.2.1),
    rowOf A 77 (fun x : F6 × Unit => RS x.1),
    rowOf A 89 (fun x : T6 × I1 × Unit => tfr x.1)]

theorem fp6Frobs_of (Sx : List UInt8 → F6) (fr6 : F6 → Int → F6) (E6 : F6 → F6 → Bool) (M6 : F6 → F6 → F6) (P6 : F6 → F6 → F6) (RS : F6 → T6) (tfr : T6 → T6) (ht : ∀ k, TblOK Try.prog (tblFp6Frobs k Sx fr6 E6 M6 P6 RS tfr))
    (H0 : ∀ (a : F6) (b : F6) (n : Int) (m : Int), decide (n.tmod 6 < 0) = true → decide (m.tmod 6 < 0) = true → ((eqT (RS (fr6 a 1)) (tfr (RS a)) = true) ∧ (E6 (fr6 (P6 a b) ((n.tmod 6) + 6)) (P6 (fr6 a ((n.tmod 6) + 6)) (fr6 b ((n.tmod 6) + 6))) = true) ∧ (E6 (fr6 (M6 a b) ((n.tmod 6) + 6)) (M6 (fr6 a ((n.tmod 6) + 6)) (fr6 b ((n.tmod 6) + 6))) = true) ∧ (E6 (fr6 (fr6 a ((n.tmod 6) + 6)) ((m.tmod 6) + 6)) (fr6 a (((n.tmod 6) + 6) + ((m.tmod 6) + 6))) = true) ∧ (WrapI (((n.tmod 6) + 6) + ((m.tmod 6) + 6))) ∧ (E6 (fr6 a 0) a = true) ∧ (E6 (fr6 a n) (fr6 a ((n.tmod 6) + 6)) = true) ∧ (WrapI ((m.tmod 6) + 6)) ∧ (WrapI ((n.tmod 6) + 6)) ∧ (true = true) ∧ True))
    (H1 : ∀ (a : F6) (b : F6) (n : Int) (m : Int), decide (n.tmod 6 < 0) = true → decide (m.tmod 6 < 0) = false → ((eqT (RS (fr6 a 1)) (tfr (RS a)) = true) ∧ (E6 (fr6 (P6 a b) ((n.tmod 6) + 6)) (P6 (fr6 a ((n.tmod 6) + 6)) (fr6 b ((n.tmod 6) + 6))) = true) ∧ (E6 (fr6 (M6 a b) ((n.tmod 6) + 6)) (M6 (fr6 a ((n.tmod 6) + 6)) (fr6 b ((n.tmod 6) + 6))) = true) ∧ (E6 (fr6 (fr6 a ((n.tmod 6) + 6)) (m.tmod 6)) (fr6 a (((n.tmod 6) + 6) + (m.tmod 6))) = true) ∧ (WrapI (((n.tmod 6) + 6) + (m.tmod 6))) ∧ (E6 (fr6 a 0) a = true) ∧ (E6 (fr6 a n) (fr6 a ((n.tmod 6) + 6)) = true) ∧ (WrapI ((n.tmod 6) + 6)) ∧ (true = true) ∧ True))
    (H2 : ∀ (a : F6) (b : F6) (n : Int) (m : Int), decide (n.tmod 6 < 0) = false → decide (m.tmod 6 < 0) = true → ((eqT (RS (fr6 a 1)) (tfr (RS a)) = true) ∧ (E6 (fr6 (P6 a b) (n.tmod 6)) (P6 (fr6 a (n.tmod 6)) (fr6 b (n.tmod 6))) = true) ∧ (E6 (fr6 (M6 a b) (n.tmod 6)) (M6 (fr6 a (n.tmod 6)) (fr6 b (n.tmod 6))) = true) ∧ (E6 (fr6 (fr6 a (n.tmod 6)) ((m.tmod 6) + 6)) (fr6 a ((n.tmod 6) + ((m.tmod 6) + 6))) = true) ∧ (WrapI ((n.tmod 6) + ((m.tmod 6) + 6))) ∧ (E6 (fr6 a 0) a = true) ∧ (E6 (fr6 a n) (fr6 a (n.tmod 6)) = true) ∧ (WrapI ((m.tmod 6) + 6)) ∧ (true = true) ∧ True))
    (H3 : ∀ (a : F6) (b : F6) (n : Int) (m : Int), decide (n.tmod 6 < 0) = false → decide (m.tmod 6 < 0) = false → ((eqT (RS (fr6 a 1)) (tfr (RS a)) = true) ∧ (E6 (fr6 (P6 a b) (n.tmod 6)) (P6 (fr6 a (n.tmod 6)) (fr6 b (n.tmod 6))) = true) ∧ (E6 (fr6 (M6 a b) (n.tmod 6)) (M6 (fr6 a (n.tmod 6)) (fr6 b (n.tmod 6))) = true) ∧ (E6 (fr6 (fr6 a (n.tmod 6)) (m.tmod 6)) (fr6 a ((n.tmod 6) + (m.tmod 6))) = true) ∧ (WrapI ((n.tmod 6) + (m.tmod 6))) ∧ (E6 (fr6 a 0) a = true) ∧ (E6 (fr6 a n) (fr6 a (n.tmod 6)) = true) ∧ (true = true) ∧ True)) :
    Computes A Try.prog 13 (fun _ : Bs × Bs × Int × Int × Unit => true) := by
  refine computes_of_runT0 Try.func13 (by kernel_rfl) (by kernel_rfl) 8 ?_
  rintro ⟨g0, g1, _, _, _⟩ ⟨⟨x⟩, ⟨y⟩, n, m, ⟨⟩⟩ W ⟨k0, k1, _, _, _⟩
  have k0 : HasBytes W x g0 := k0
  have k1 : HasBytes W y g1 := k1
  by_cases hx : x.length ≤ 200
  · skip
    by_cases hy : y.length ≤ 200
    · skip
      obtain ⟨a, ha'⟩ : ∃ a : F6, a = Sx (partB x 0 x.length) := ⟨_, rfl⟩
      obtain ⟨b, hb'⟩ : ∃ b : F6, b = Sx (partB y 0 y.length) := ⟨_, rfl⟩
      refine ⟨_, ht 0, ?_⟩
      cases hc0 : decide (n.tmod 6 < 0) with
      | true =>
        cases hc1 : decide (m.tmod 6 < 0) with
        | true =>
          obtain ⟨q0, q1, q2, q3, q4, q5, q6, q7, q8, q9, -⟩ := H0 a b n m hc0 hc1
          refine ⟨saysY [], true, [eqT (RS (fr6 a 1)) (tfr (RS a)) = true, E6 (fr6 (P6 a b) ((n.tmod 6) + 6)) (P6 (fr6 a ((n.tmod 6) + 6)) (fr6 b ((n.tmod 6) + 6))) = true, E6 (fr6 (M6 a b) ((n.tmod 6) + 6)) (M6 (fr6 a ((n.tmod 6) + 6)) (fr6 b ((n.tmod 6) + 6))) = true, E6 (fr6 (fr6 a ((n.tmod 6) + 6)) ((m.tmod 6) + 6)) (fr6 a (((n.tmod 6) + 6) + ((m.tmod 6) + 6))) = true, WrapI (((n.tmod 6) + 6) + ((m.tmod 6) + 6)), E6 (fr6 a 0) a = true, E6 (fr6 a n) (fr6 a ((n.tmod 6) + 6)) = true, WrapI ((m.tmod 6) + 6), decide (m.tmod 6 < 0) = true, WrapI ((n.tmod 6) + 6), decide (n.tmod 6 < 0) = true, (partB y 0 y.length).length < 1048576, ReadB W g1 y, AllU8 y, (partB x 0 x.length).length < 1048576, ReadB W g0 x, AllU8 x, decide ((y.length : Int) > 200) = false, decide ((x.length : Int) > 200) = false, true = true], ?_, ⟨q0, q1, q2, q3, q4, q5, q6, q7, hc1, q8, hc0, shortL hy, readB k1, allU8 y, shortL hx, readB k0, allU8 x, decide_eq_false (by omega), decide_eq_false (by omega), q9, trivial⟩, rfl⟩
          subst ha' hb'
          kernel_rfl
        | false =>
          obtain ⟨q0, q1, q2, q3, q4, q5, q6, q7, q8, -⟩ := H1 a b n m hc0 hc1
          refine ⟨saysY [(33, false)], true, [eqT (RS (fr6 a 1)) (tfr (RS a)) = true, E6 (fr6 (P6 a b) ((n.tmod 6) + 6)) (P6 (fr6 a ((n.tmod 6) + 6)) (fr6 b ((n.tmod 6) + 6))) = true, E6 (fr6 (M6 a b) ((n.tmod 6) + 6)) (M6 (fr6 a ((n.tmod 6) + 6)) (fr6 b ((n.tmod 6) + 6))) = true, E6 (fr6 (fr6 a ((n.tmod 6) + 6)) (m.tmod 6)) (fr6 a (((n.tmod 6) + 6) + (m.tmod 6))) = true, WrapI (((n.tmod 6) + 6) + (m.tmod 6)), E6 (fr6 a 0) a = true, E6 (fr6 a n) (fr6 a ((n.tmod 6) + 6)) = true, decide (m.tmod 6 < 0) = false, WrapI ((n.tmod 6) + 6), decide (n.tmod 6 < 0) = true, (partB y 0 y.length).length < 1048576, ReadB W g1 y, AllU8 y, (partB x 0 x.length).length < 1048576, ReadB W g0 x, AllU8 x, decide ((y.length : Int) > 200) = false, decide ((x.length : Int) > 200) = false, true = true], ?_, ⟨q0, q1, q2, q3, q4, q5, q6, hc1, q7, hc0, shortL hy, readB k1, allU8 y, shortL hx, readB k0, allU8 x, decide_eq_false (by omega), decide_eq_false (by omega), q8, trivial⟩, rfl⟩
          subst ha' hb'
          kernel_rfl
      | false =>
        cases hc1 : decide (m.tmod 6 < 0) with
        | true =>
          obtain ⟨q0, q1, q2, q3, q4, q5, q6, q7, q8, -⟩ := H2 a b n m hc0 hc1
          refine ⟨saysY [(27, false)], true, [eqT (RS (fr6 a 1)) (tfr (RS a)) = true, E6 (fr6 (P6 a b) (n.tmod 6)) (P6 (fr6 a (n.tmod 6)) (fr6 b (n.tmod 6))) = true, E6 (fr6 (M6 a b) (n.tmod 6)) (M6 (fr6 a (n.tmod 6)) (fr6 b (n.tmod 6))) = true, E6 (fr6 (fr6 a (n.tmod 6)) ((m.tmod 6) + 6)) (fr6 a ((n.tmod 6) + ((m.tmod 6) + 6))) = true, WrapI ((n.tmod 6) + ((m.tmod 6) + 6)), E6 (fr6 a 0) a = true, E6 (fr6 a n) (fr6 a (n.tmod 6)) = true, WrapI ((m.tmod 6) + 6), decide (m.tmod 6 < 0) = true, decide (n.tmod 6 < 0) = false, (partB y 0 y.length).length < 1048576, ReadB W g1 y, AllU8 y, (partB x 0 x.length).length < 1048576, ReadB W g0 x, AllU8 x, decide ((y.length : Int) > 200) = false, decide ((x.length : Int) > 200) = false, true = true], ?_, ⟨q0, q1, q2, q3, q4, q5, q6, q7, hc1, hc0, shortL hy, readB k1, allU8 y, shortL hx, readB k0, allU8 x, decide_eq_false (by omega), decide_eq_false (by omega), q8, trivial⟩, rfl⟩
          subst ha' hb'
          kernel_rfl
        | false =>
          obtain ⟨q0, q1, q2, q3, q4, q5, q6, q7, -⟩ := H3 a b n m hc0 hc1
          refine ⟨saysY [(27, false), (33, false)], true, [eqT (RS (fr6 a 1)) (tfr (RS a)) = true, E6 (fr6 (P6 a b) (n.tmod 6)) (P6 (fr6 a (n.tmod 6)) (fr6 b (n.tmod 6))) = true, E6 (fr6 (M6 a b) (n.tmod 6)) (M6 (fr6 a (n.tmod 6)) (fr6 b (n.tmod 6))) = true, E6 (fr6 (fr6 a (n.tmod 6)) (m.tmod 6)) (fr6 a ((n.tmod 6) + (m.tmod 6))) = true, WrapI ((n.tmod 6) + (m.tmod 6)), E6 (fr6 a 0) a = true, E6 (fr6 a n) (fr6 a (n.tmod 6)) = true, decide (m.tmod 6 < 0) = false, decide (n.tmod 6 < 0) = false, (partB y 0 y.length).length < 1048576, ReadB W g1 y, AllU8 y, (partB x 0 x.length).length < 1048576, ReadB W g0 x, AllU8 x, decide ((y.length : Int) > 200) = false, decide ((x.length : Int) > 200) = false, true = true], ?_, ⟨q0, q1, q2, q3, q4, q5, q6, hc1, hc0, shortL hy, readB k1, allU8 y, shortL hx, readB k0, allU8 x, decide_eq_false (by omega), decide_eq_false (by omega), q7, trivial⟩, rfl⟩
          subst ha' hb'
          kernel_rfl
    · exact ⟨_, ht 2, saysY [], true, [decide ((y.length : Int) > 200) = true, decide ((x.length : Int) > 200) = false, true = true], by kernel_rfl, ⟨decide_eq_true (by omega), decide_eq_false (by omega), rfl, trivial⟩, rfl⟩
  · exact ⟨_, ht 1, saysY [], true, [decide ((x.length : Int) > 200) = true, true = true], by kernel_rfl, ⟨decide_eq_true (by omega), rfl, trivial⟩, rfl⟩

noncomputable def tblFp12Frobs (k : Nat) (Tw : List UInt8 → F12) (fr12 : F12 → Int → F12) (E12 : F12 → F12 → Bool) (C12 : F12 → F12) (M12 : F12 → F12 → F12) (RS : F12 → T6) (tfr : T6 → T6) : List (Row A) :=
  [rowOf A 90 (fun _ : Unit => true), light7Row k, rowOf A 92 (fun x : Bt × Unit => Tw x.1.l),
    rowOf A 143 (fun x : F12 × Int × Unit => fr12 x.1 x.2.1),
    rowOf A 95 (fun x : F12 × F12 × Unit => E12 x.1 x.2.1),
    rowOf A 94 (fun x : F12 × Unit => C12 x.1),
    rowOf A 93 (fun x : F12 × F12 × Unit => M12 x.1 x.2.1),
    rowOf A 131 (fun x : F12 × Unit => RS x.1),
    rowOf A 89 (fun x : T6 × I1 × Unit => tfr x.1)]

theorem fp12Frobs_of (Tw : List UInt8 → F12) (fr12 : F12 → Int → F12) (E12 : F12 → F12 → Bool) (C12 : F12 → F12) (M12 : F12 → F12 → F12) (RS : F12 → T6) (tfr : T6 → T6) (ht : ∀ k, TblOK Try.prog (tblFp12Frobs k Tw fr12 E12 C12 M12 RS tfr))
    (H0 : ∀ (a : F12) (b : F12) (n : Int) (m : Int), decide (n.tmod 12 < 0) = true → decide (m.tmod 12 < 0) = true → ((eqT (RS (fr12 a 1)) (tfr (RS a)) = true) ∧ (E12 (fr12 (M12 a b) ((n.tmod 12) + 12)) (M12 (fr12 a ((n.tmod 12) + 12)) (fr12 b ((n.tmod 12) + 12))) = true) ∧ (E12 (fr12 (fr12 a ((n.tmod 12) + 12)) ((m.tmod 12) + 12)) (fr12 a (((n.tmod 12) + 12) + ((m.tmod 12) + 12))) = true) ∧ (WrapI (((n.tmod 12) + 12) + ((m.tmod 12) + 12))) ∧ (E12 (fr12 a 6) (C12 a) = true) ∧ (E12 (fr12 a 0) a = true) ∧ (E12 (fr12 a n) (fr12 a ((n.tmod 12) + 12)) = true) ∧ (WrapI ((m.tmod 12) + 12)) ∧ (WrapI ((n.tmod 12) + 12)) ∧ (true = true) ∧ True))
    (H1 : ∀ (a : F12) (b : F12) (n : Int) (m : Int), decide (n.tmod 12 < 0) = true → decide (m.tmod 12 < 0) = false → ((eqT (RS (fr12 a 1)) (tfr (RS a)) = true) ∧ (E12 (fr12 (M12 a b) ((n.tmod 12) + 12)) (M12 (fr12 a ((n.tmod 12) + 12)) (fr12 b ((n.tmod 12) + 12))) = true) ∧ (E12 (fr12 (fr12 a ((n.tmod 12) + 12)) (m.tmod 12)) (fr12 a (((n.tmod 12) + 12) + (m.tmod 12))) = true) ∧ (WrapI (((n.tmod 12) + 12) + (m.tmod 12))) ∧ (E12 (fr12 a 6) (C12 a) = true) ∧ (E12 (fr12 a 0) a = true) ∧ (E12 (fr12 a n) (fr12 a ((n.tmod 12) + 12)) = true) ∧ (WrapI ((n.tmod 12) + 12)) ∧ (true = true) ∧ True))
    (H2 : ∀ (a : F12) (b : F12) (n : Int) (m : Int), decide (n.tmod 12 < 0) = false → decide (m.tmod 12 < 0) = true → ((eqT (RS (fr12 a 1)) (tfr (RS a)) = true) ∧ (E12 (fr12 (M12 a b) (n.tmod 12)) (M12 (fr12 a (n.tmod 12)) (fr12 b (n.tmod 12))) = true) ∧ (E12 (fr12 (fr12 a (n.tmod 12)) ((m.tmod 12) + 12)) (fr12 a ((n.tmod 12) + ((m.tmod 12) + 12))) = true) ∧ (WrapI ((n.tmod 12) + ((m.tmod 12) + 12))) ∧ (E12 (fr12 a 6) (C12 a) = true) ∧ (E12 (fr12 a 0) a = true) ∧ (E12 (fr12 a n) (fr12 a (n.tmod 12)) = true) ∧ (WrapI ((m.tmod 12) + 12)) ∧ (true = true) ∧ True))
    (H3 : ∀ (a : F12) (b : F12) (n : Int) (m : Int), decide (n.tmod 12 < 0) = false → decide (m.tmod 12 < 0) = false → ((eqT (RS (fr12 a 1)) (tfr (RS a)) = true) ∧ (E12 (fr12 (M12 a b) (n.tmod 12)) (M12 (fr12 a (n.tmod 12)) (fr12 b (n.tmod 12))) = true) ∧ (E12 (fr12 (fr12 a (n.tmod 12)) (m.tmod 12)) (fr12 a ((n.tmod 12) + (m.tmod 12))) = true) ∧ (WrapI ((n.tmod 12) + (m.tmod 12))) ∧ (E12 (fr12 a 6) (C12 a) = true) ∧ (E12 (fr12 a 0) a = true) ∧ (E12 (fr12 a n) (fr12 a (n.tmod 12)) = true) ∧ (true = true) ∧ True)) :
    Computes A Try.prog 24 (fun _ : Bs × Bs × Int × Int × Unit => true) := by
  refine computes_of_runT0 Try.func24 (by kernel_rfl) (by kernel_rfl) 8 ?_
  rintro ⟨g0, g1, _, _, _⟩ ⟨⟨x⟩, ⟨y⟩, n, m, ⟨⟩⟩ W ⟨k0, k1, _, _, _⟩
  have k0 : HasBytes W x g0 := k0
  have k1 : HasBytes W y g1 := k1
  by_cases hx : x.length ≤ 200
  · skip
    by_cases hy : y.length ≤ 200
    · skip
      obtain ⟨a, ha'⟩ : ∃ a : F12, a = Tw (partB x 0 x.length) := ⟨_, rfl⟩
      obtain ⟨b, hb'⟩ : ∃ b : F12, b = Tw (partB y 0 y.length) := ⟨_, rfl⟩
      refine ⟨_, ht 0, ?_⟩
      cases hc0 : decide (n.tmod 12 < 0) with
      | true =>
        cases hc1 : decide (m.tmod 12 < 0) with
        | true =>
          obtain ⟨q0, q1, q2, q3, q4, q5, q6, q7, q8, q9, -⟩ := H0 a b n m hc0 hc1
          refine ⟨saysY [], true, [eqT (RS (fr12 a 1)) (tfr (RS a)) = true, E12 (fr12 (M12 a b) ((n.tmod 12) + 12)) (M12 (fr12 a ((n.tmod 12) + 12)) (fr12 b ((n.tmod 12) + 12))) = true, E12 (fr12 (fr12 a ((n.tmod 12) + 12)) ((m.tmod 12) + 12)) (fr12 a (((n.tmod 12) + 12) + ((m.tmod 12) + 12))) = true, WrapI (((n.tmod 12) + 12) + ((m.tmod 12) + 12)), E12 (fr12 a 6) (C12 a) = true, E12 (fr12 a 0) a = true, E12 (fr12 a n) (fr12 a ((n.tmod 12) + 12)) = true, WrapI ((m.tmod 12) + 12), decide (m.tmod 12 < 0) = true, WrapI ((n.tmod 12) + 12), decide (n.tmod 12 < 0) = true, (partB y 0 y.length).length < 1048576, ReadB W g1 y, AllU8 y, (partB x 0 x.length).length < 1048576, ReadB W g0 x, AllU8 x, decide ((y.length : Int) > 200) = false, decide ((x.length : Int) > 200) = false, true = true], ?_, ⟨q0, q1, q2, q3, q4, q5, q6, q7, hc1, q8, hc0, shortL hy, readB k1, allU8 y, shortL hx, readB k0, allU8 x, decide_eq_false (by omega), decide_eq_false (by omega), q9, trivial⟩, rfl⟩
          subst ha' hb'
          kernel_rfl
        | false =>
          obtain ⟨q0, q1, q2, q3, q4, q5, q6, q7, q8, -⟩ := H1 a b n m hc0 hc1
          refine ⟨saysY [(33, false)], true, [eqT (RS (fr12 a 1)) (tfr (RS a)) = true, E12 (fr12 (M12 a b) ((n.tmod 12) + 12)) (M12 (fr12 a ((n.tmod 12) + 12)) (fr12 b ((n.tmod 12) + 12))) = true, E12 (fr12 (fr12 a ((n.tmod 12) + 12)) (m.tmod 12)) (fr12 a (((n.tmod 12) + 12) + (m.tmod 12))) = true, WrapI (((n.tmod 12) + 12) + (m.tmod 12)), E12 (fr12 a 6) (C12 a) = true, E12 (fr12 a 0) a = true, E12 (fr12 a n) (fr12 a ((n.tmod 12) + 12)) = true, decide (m.tmod 12 < 0) = false, WrapI ((n.tmod 12) + 12), decide (n.tmod 12 < 0) = true, (partB y 0 y.length).length < 1048576, ReadB W g1 y, AllU8 y, (partB x 0 x.length).length < 1048576, ReadB W g0 x, AllU8 x, decide ((y.length : Int) > 200) = false, decide ((x.length : Int) > 200) = false, true = true], ?_, ⟨q0, q1, q2, q3, q4, q5, q6, hc1, q7, hc0, shortL hy, readB k1, allU8 y, shortL hx, readB k0, allU8 x, decide_eq_false (by omega), decide_eq_false (by omega), q8, trivial⟩, rfl⟩
          subst ha' hb'
          kernel_rfl
      | false =>
        cases hc1 : decide (m.tmod 12 < 0) with
        | true =>
          obtain ⟨q0, q1, q2, q3, q4, q5, q6, q7, q8, -⟩ := H2 a b n m hc0 hc1
          refine ⟨saysY [(27, false)], true, [eqT (RS (fr12 a 1)) (tfr (RS a)) = true, E12 (fr12 (M12 a b) (n.tmod 12)) (M12 (fr12 a (n.tmod 12)) (fr12 b (n.tmod 12))) = true, E12 (fr12 (fr12 a (n.tmod 12)) ((m.tmod 12) + 12)) (fr12 a ((n.tmod 12) + ((m.tmod 12) + 12))) = true, WrapI ((n.tmod 12) + ((m.tmod 12) + 12)), E12 (fr12 a 6) (C12 a) = true, E12 (fr12 a 0) a = true, E12 (fr12 a n) (fr12 a (n.tmod 12)) = true, WrapI ((m.tmod 12) + 12), decide (m.tmod 12 < 0) = true, decide (n.tmod 12 < 0) = false, (partB y 0 y.length).length < 1048576, ReadB W g1 y, AllU8 y, (partB x 0 x.length).length < 1048576, ReadB W g0 x, AllU8 x, decide ((y.length : Int) > 200) = false, decide ((x.length : Int) > 200) = false, true = true], ?_, ⟨q0, q1, q2, q3, q4, q5, q6, q7, hc1, hc0, shortL hy, readB k1, allU8 y, shortL hx, readB k0, allU8 x, decide_eq_false (by omega), decide_eq_false (by omega), q8, trivial⟩, rfl⟩
          subst ha' hb'
          kernel_rfl
        | false =>
          obtain ⟨q0, q1, q2, q3, q4, q5, q6, q7, -⟩ := H3 a b n m hc0 hc1
          refine ⟨saysY [(27, false), (33, false)], true, [eqT (RS (fr12 a 1)) (tfr (RS a)) = true, E12 (fr12 (M12 a b) (n.tmod 12)) (M12 (fr12 a (n.tmod 12)) (fr12 b (n.tmod 12))) = true, E12 (fr12 (fr12 a (n.tmod 12)) (m.tmod 12)) (fr12 a ((n.tmod 12) + (m.tmod 12))) = true, WrapI ((n.tmod 12) + (m.tmod 12)), E12 (fr12 a 6) (C12 a) = true, E12 (fr12 a 0) a = true, E12 (fr12 a n) (fr12 a (n.tmod 12)) = true, decide (m.tmod 12 < 0) = false, decide (n.tmod 12 < 0) = false, (partB y 0 y.length).length < 1048576, ReadB W g1 y, AllU8 y, (partB x 0 x.length).length < 1048576, ReadB W g0 x, AllU8 x, decide ((y.length : Int) > 200) = false, decide ((x.length : Int) > 200) = false, true = true], ?_, ⟨q0, q1, q2, q3, q4, q5, q6, hc1, hc0, shortL hy, readB k1, allU8 y, shortL hx, readB k0, allU8 x, decide_eq_false (by omega), decide_eq_false (by omega), q7, trivial⟩, rfl⟩
          subst ha' hb'
          kernel_rfl
    · exact ⟨_, ht 2, saysY [], true, [decide ((y.length : Int) > 200) = true, decide ((x.length : Int) > 200) = false, true = true], by kernel_rfl, ⟨decide_eq_true (by omega), decide_eq_false (by omega), rfl, trivial⟩, rfl⟩
  · exact ⟨_, ht 1, saysY [], true, [decide ((x.length : Int) > 200) = true, true = true], by kernel_rfl, ⟨decide_eq_true (by omega), rfl, trivial⟩, rfl⟩

end Go.Proofs.Ytbdbmcdcjejffaa
