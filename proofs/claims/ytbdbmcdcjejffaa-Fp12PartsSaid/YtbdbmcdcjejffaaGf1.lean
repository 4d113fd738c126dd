/- The laws of fp6 and fp12, walked over variable functions. -/
import Derived.Test.YtbdbmcdcjejffaaGe6
set_option linter.unusedVariables false
set_option linter.unusedSimpArgs false
set_option linter.unusedSectionVars false
namespace Go.Proofs.Ytbdbmcdcjejffaa
open Go Go.Sh

def tblKnown6 (O6 : F6) (V6 : F6 → F6) (M6 : F6 → F6 → F6) (Sl : UInt64 → UInt64 → F2) (E6 : F6 → F6 → Bool) (Q6 : F6 → F6) (I6 : F6 → F6) (rSl : UInt64 → UInt64 → F2) (Sm : F2 → F2 → Bool) : List (Row A) :=
  [rowOf A 73 (fun _ : Unit => O6),
    rowOf A 85 (fun x : F6 × Unit => V6 x.1),
    rowOf A 71 (fun x : F6 × F6 × Unit => M6 x.1 x.2.1),
    rowOf A 166 (fun x : UInt64 × UInt64 × Unit => Sl x.1 x.2.1),
    rowOf A 70 (fun x : F6 × F6 × Unit => E6 x.1 x.2.1),
    rowOf A 82 (fun x : F6 × Unit => Q6 x.1),
    rowOf A 75 (fun x : F6 × Unit => I6 x.1),
    rowOf A 168 (fun x : UInt64 × UInt64 × Unit => rSl x.1 x.2.1),
    rowOf A 167 (fun x : F2 × F2 × Unit => Sm x.1 x.2.1)]
theorem known6_of (O6 : F6) (V6 : F6 → F6) (M6 : F6 → F6 → F6) (Sl : UInt64 → UInt64 → F2) (E6 : F6 → F6 → Bool) (Q6 : F6 → F6) (I6 : F6 → F6) (rSl : UInt64 → UInt64 → F2) (Sm : F2 → F2 → Bool) (ht : TblOK Try.prog (tblKnown6 O6 V6 M6 Sl E6 Q6 I6 rSl Sm))
    (H0 : (Sm (Sl 1 2) (rSl 1 2) = true) ∧ (E6 (M6 (V6 O6) (I6 (V6 O6))) O6 = true) ∧ (E6 (Q6 (V6 O6)) ((0, 0), (0, 0), Sl 1 0) = true) ∧ (E6 (M6 (M6 (V6 O6) (V6 O6)) (V6 O6)) (Sl 1 1, (0, 0), (0, 0)) = true) ∧ True) :
    Computes A Try.prog 66 (fun _ : Unit => true) := by
  refine computes_of_run ht Try.func66 (by kernel_rfl) (by kernel_rfl) 8 ?_
  rintro ⟨⟩ ⟨⟩ W -
  obtain ⟨q0, q1, q2, q3, -⟩ := H0
  exact ⟨saysY [], _, [Sm (Sl 1 2) (rSl 1 2) = true, E6 (M6 (V6 O6) (I6 (V6 O6))) O6 = true, E6 (Q6 (V6 O6)) ((0, 0), (0, 0), Sl 1 0) = true, E6 (M6 (M6 (V6 O6) (V6 O6)) (V6 O6)) (Sl 1 1, (0, 0), (0, 0)) = true], (by kernel_rfl : _ = some (some true, _)), ⟨q0, q1, q2, q3, trivial⟩, rfl⟩

noncomputable def tblFp6Laws (k : Nat) (Sx : List UInt8 → F6) (P6 : F6 → F6 → F6) (E6 : F6 → F6 → Bool) (M6 : F6 → F6 → F6) (D6 : F6 → F6 → F6) (O6 : F6) (Z6 : F6 → Bool) (I6 : F6 → F6) : List (Row A) :=
  [rowOf A 66 (fun _ : Unit => true), light6Row k, rowOf A 68 (fun x : Bt × Unit => Sx x.1.l),
    rowOf A 69 (fun x : F6 × F6 × Unit => P6 x.1 x.2.1),
    rowOf A 70 (fun x : F6 × F6 × Unit => E6 x.1 x.2.1),
    rowOf A 71 (fun x : F6 × F6 × Unit => M6 x.1 x.2.1),
    rowOf A 72 (fun x : F6 × F6 × Unit => D6 x.1 x.2.1),
    rowOf A 73 (fun _ : Unit => O6),
    rowOf A 74 (fun x : F6 × Unit => Z6 x.1),
    rowOf A 75 (fun x : F6 × Unit => I6 x.1)]

theorem fp6Laws_of (Sx : List UInt8 → F6) (P6 : F6 → F6 → F6) (E6 : F6 → F6 → Bool) (M6 : F6 → F6 → F6) (D6 : F6 → F6 → F6) (O6 : F6) (Z6 : F6 → Bool) (I6 : F6 → F6) (ht : ∀ k, TblOK Try.prog (tblFp6Laws k Sx P6 E6 M6 D6 O6 Z6 I6))
    (H0 : ∀ (a : F6) (b : F6) (c : F6), Z6 a = true → ((E6 (M6 a O6) a = true) ∧ (E6 (P6 (D6 a b) b) a = true) ∧ (E6 (M6 a (P6 b c)) (P6 (M6 a b) (M6 a c)) = true) ∧ (E6 (M6 a (M6 b c)) (M6 (M6 a b) c) = true) ∧ (E6 (P6 a (P6 b c)) (P6 (P6 a b) c) = true) ∧ (E6 (M6 a b) (M6 b a) = true) ∧ (E6 (P6 a b) (P6 b a) = true) ∧ (true = true) ∧ True))
    (H1 : ∀ (a : F6) (b : F6) (c : F6), Z6 a = false → ((E6 (M6 a (I6 a)) O6 = true) ∧ (E6 (M6 a O6) a = true) ∧ (E6 (P6 (D6 a b) b) a = true) ∧ (E6 (M6 a (P6 b c)) (P6 (M6 a b) (M6 a c)) = true) ∧ (E6 (M6 a (M6 b c)) (M6 (M6 a b) c) = true) ∧ (E6 (P6 a (P6 b c)) (P6 (P6 a b) c) = true) ∧ (E6 (M6 a b) (M6 b a) = true) ∧ (E6 (P6 a b) (P6 b a) = true) ∧ (true = true) ∧ True)) :
    Computes A Try.prog 11 (fun _ : Bs × Bs × Bs × Unit => true) := by
  refine computes_of_runT0 Try.func11 (by kernel_rfl) (by kernel_rfl) 8 ?_
  rintro ⟨g0, g1, g2, _⟩ ⟨⟨x⟩, ⟨y⟩, ⟨z⟩, ⟨⟩⟩ W ⟨k0, k1, k2, _⟩
  have k0 : HasBytes W x g0 := k0
  have k1 : HasBytes W y g1 := k1
  have k2 : HasBytes W z g2 := k2
  by_cases hx : x.length ≤ 200
  · skip
    by_cases hy : y.length ≤ 200
    · skip
      by_cases hz : z.length ≤ 200
      · skip
        obtain ⟨a, ha'⟩ : ∃ a : F6, a = Sx (partB x 0 x.length) := ⟨_, rfl⟩
        obtain ⟨b, hb'⟩ : ∃ b : F6, b = Sx (partB y 0 y.length) := ⟨_, rfl⟩
        obtain ⟨c, hc'⟩ : ∃ c : F6, c = Sx (partB z 0 z.length) := ⟨_, rfl⟩
        refine ⟨_, ht 0, ?_⟩
        cases hc0 : Z6 a with
        | true =>
          obtain ⟨q0, q1, q2, q3, q4, q5, q6, q7, -⟩ := H0 a b c hc0
          refine ⟨saysY [], true, [Z6 a = true, E6 (M6 a O6) a = true, E6 (P6 (D6 a b) b) a = true, E6 (M6 a (P6 b c)) (P6 (M6 a b) (M6 a c)) = true, E6 (M6 a (M6 b c)) (M6 (M6 a b) c) = true, E6 (P6 a (P6 b c)) (P6 (P6 a b) c) = true, E6 (M6 a b) (M6 b a) = true, E6 (P6 a b) (P6 b a) = true, (partB z 0 z.length).length < 1048576, ReadB W g2 z, AllU8 z, (partB y 0 y.length).length < 1048576, ReadB W g1 y, AllU8 y, (partB x 0 x.length).length < 1048576, ReadB W g0 x, AllU8 x, decide ((z.length : Int) > 200) = false, decide ((y.length : Int) > 200) = false, decide ((x.length : Int) > 200) = false, true = true], ?_, ⟨hc0, q0, q1, q2, q3, q4, q5, q6, shortL hz, readB k2, allU8 z, shortL hy, readB k1, allU8 y, shortL hx, readB k0, allU8 x, decide_eq_false (by omega), decide_eq_false (by omega), decide_eq_false (by omega), q7, trivial⟩, rfl⟩
          subst ha' hb' hc'
          kernel_rfl
        | false =>
          obtain ⟨q0, q1, q2, q3, q4, q5, q6, q7, q8, -⟩ := H1 a b c hc0
          refine ⟨saysY [(101, false)], true, [E6 (M6 a (I6 a)) O6 = true, Z6 a = false, E6 (M6 a O6) a = true, E6 (P6 (D6 a b) b) a = true, E6 (M6 a (P6 b c)) (P6 (M6 a b) (M6 a c)) = true, E6 (M6 a (M6 b c)) (M6 (M6 a b) c) = true, E6 (P6 a (P6 b c)) (P6 (P6 a b) c) = true, E6 (M6 a b) (M6 b a) = true, E6 (P6 a b) (P6 b a) = true, (partB z 0 z.length).length < 1048576, ReadB W g2 z, AllU8 z, (partB y 0 y.length).length < 1048576, ReadB W g1 y, AllU8 y, (partB x 0 x.length).length < 1048576, ReadB W g0 x, AllU8 x, decide ((z.length : Int) > 200) = false, decide ((y.length : Int) > 200) = false, decide ((x.length : Int) > 200) = false, true = true], ?_, ⟨q0, hc0, q1, q2, q3, q4, q5, q6, q7, shortL hz, readB k2, allU8 z, shortL hy, readB k1, allU8 y, shortL hx, readB k0, allU8 x, decide_eq_false (by omega), decide_eq_false (by omega), decide_eq_false (by omega), q8, trivial⟩, rfl⟩
          subst ha' hb' hc'
          kernel_rfl
      · exact ⟨_, ht 3, saysY [], true, [decide ((z.length : Int) > 200) = true, decide ((y.length : Int) > 200) = false, decide ((x.length : Int) > 200) = false, true = true], by kernel_rfl, ⟨decide_eq_true (by omega), decide_eq_false (by omega), decide_eq_false (by omega), rfl, trivial⟩, rfl⟩
    · exact ⟨_, ht 2, saysY [], true, [decide ((y.length : Int) > 200) = true, decide ((x.length : Int) > 200) = false, true = true], by kernel_rfl, ⟨decide_eq_true (by omega), decide_eq_false (by omega), rfl, trivial⟩, rfl⟩
  · exact ⟨_, ht 1, saysY [], true, [decide ((x.length : Int) > 200) = true, true = true], by kernel_rfl, ⟨decide_eq_true (by omega), rfl, trivial⟩, rfl⟩

noncomputable def tblFp6Reckons (k : Nat) (Sx : List UInt8 → F6) (Nm : List UInt8 → F2) (RS : F6 → T6) (P6 : F6 → F6 → F6) (tP : T6 → T6 → T6) (D6 : F6 → F6 → F6) (tN : T6 → T6) (N6 : F6 → F6) (M6 : F6 → F6 → F6) (tM : T6 → T6 → T6) (Q6 : F6 → F6) (S6 : F6 → F2 → F6) (R : F2 → F2) (V6 : F6 → F6) (rO2 : F2) (I6 : F6 → F6) (tI : T6 → T6) (E6 : F6 → F6 → Bool) (Z6 : F6 → Bool) : List (Row A) :=
  [rowOf A 66 (fun _ : Unit => true), light6Row k, rowOf A 68 (fun x : Bt × Unit => Sx x.1.l),
    rowOf A 76 (fun x : Bt × Unit => Nm x.1.l),
    rowOf A 77 (fun x : F6 × Unit => RS x.1),
    rowOf A 69 (fun x : F6 × F6 × Unit => P6 x.1 x.2.1),
    rowOf A 78 (fun x : T6 × T6 × Unit => tP x.1 x.2.1),
    rowOf A 72 (fun x : F6 × F6 × Unit => D6 x.1 x.2.1),
    rowOf A 79 (fun x : T6 × Unit => tN x.1),
    rowOf A 80 (fun x : F6 × Unit => N6 x.1),
    rowOf A 71 (fun x : F6 × F6 × Unit => M6 x.1 x.2.1),
    rowOf A 81 (fun x : T6 × T6 × Unit => tM x.1 x.2.1),
    rowOf A 82 (fun x : F6 × Unit => Q6 x.1),
    rowOf A 83 (fun x : F6 × F2 × Unit => S6 x.1 x.2.1),
    rowOf A 84 (fun x : F2 × Unit => R x.1),
    rowOf A 85 (fun x : F6 × Unit => V6 x.1),
    rowOf A 86 (fun _ : Unit => rO2),
    rowOf A 75 (fun x : F6 × Unit => I6 x.1),
    rowOf A 87 (fun x : T6 × Unit => tI x.1),
    rowOf A 70 (fun x : F6 × F6 × Unit => E6 x.1 x.2.1),
    rowOf A 74 (fun x : F6 × Unit => Z6 x.1)]

theorem fp6Reckons_of (Sx : List UInt8 → F6) (Nm : List UInt8 → F2) (RS : F6 → T6) (P6 : F6 → F6 → F6) (tP : T6 → T6 → T6) (D6 : F6 → F6 → F6) (tN : T6 → T6) (N6 : F6 → F6) (M6 : F6 → F6 → F6) (tM : T6 → T6 → T6) (Q6 : F6 → F6) (S6 : F6 → F2 → F6) (R : F2 → F2) (V6 : F6 → F6) (rO2 : F2) (I6 : F6 → F6) (tI : T6 → T6) (E6 : F6 → F6 → Bool) (Z6 : F6 → Bool) (ht : ∀ k, TblOK Try.prog (tblFp6Reckons k Sx Nm RS P6 tP D6 tN N6 M6 tM Q6 S6 R V6 rO2 I6 tI E6 Z6))
    (H0 : ∀ (a : F6) (b : F6) (c : F2), E6 a b = true → Z6 a = true → ((Z6 (I6 ((0, 0), (0, 0), (0, 0))) = true) ∧ (eqT (RS a) ((0, 0), (0, 0), (0, 0), (0, 0), (0, 0), (0, 0)) = true) ∧ (eqT (RS a) (RS b) = true) ∧ (eqT (RS (I6 a)) (tI (RS a)) = true) ∧ (eqT (RS (V6 a)) (tM (RS a) ((0, 0), (0, 0), rO2, (0, 0), (0, 0), (0, 0))) = true) ∧ (eqT (RS (S6 a c)) (tM (RS a) (R c, (0, 0), (0, 0), (0, 0), (0, 0), (0, 0))) = true) ∧ (eqT (RS (Q6 a)) (tM (RS a) (RS a)) = true) ∧ (eqT (RS (M6 a b)) (tM (RS a) (RS b)) = true) ∧ (eqT (RS (N6 a)) (tN (RS a)) = true) ∧ (eqT (RS (D6 a b)) (tP (RS a) (tN (RS b))) = true) ∧ (eqT (RS (P6 a b)) (tP (RS a) (RS b)) = true) ∧ (true = true) ∧ True))
    (H1 : ∀ (a : F6) (b : F6) (c : F2), E6 a b = true → Z6 a = false → ((Z6 (I6 ((0, 0), (0, 0), (0, 0))) = true) ∧ (eqT (RS a) ((0, 0), (0, 0), (0, 0), (0, 0), (0, 0), (0, 0)) = false) ∧ (eqT (RS a) (RS b) = true) ∧ (eqT (RS (I6 a)) (tI (RS a)) = true) ∧ (eqT (RS (V6 a)) (tM (RS a) ((0, 0), (0, 0), rO2, (0, 0), (0, 0), (0, 0))) = true) ∧ (eqT (RS (S6 a c)) (tM (RS a) (R c, (0, 0), (0, 0), (0, 0), (0, 0), (0, 0))) = true) ∧ (eqT (RS (Q6 a)) (tM (RS a) (RS a)) = true) ∧ (eqT (RS (M6 a b)) (tM (RS a) (RS b)) = true) ∧ (eqT (RS (N6 a)) (tN (RS a)) = true) ∧ (eqT (RS (D6 a b)) (tP (RS a) (tN (RS b))) = true) ∧ (eqT (RS (P6 a b)) (tP (RS a) (RS b)) = true) ∧ (true = true) ∧ True))
    (H2 : ∀ (a : F6) (b : F6) (c : F2), E6 a b = false → Z6 a = true → ((Z6 (I6 ((0, 0), (0, 0), (0, 0))) = true) ∧ (eqT (RS a) ((0, 0), (0, 0), (0, 0), (0, 0), (0, 0), (0, 0)) = true) ∧ (eqT (RS a) (RS b) = false) ∧ (eqT (RS (I6 a)) (tI (RS a)) = true) ∧ (eqT (RS (V6 a)) (tM (RS a) ((0, 0), (0, 0), rO2, (0, 0), (0, 0), (0, 0))) = true) ∧ (eqT (RS (S6 a c)) (tM (RS a) (R c, (0, 0), (0, 0), (0, 0), (0, 0), (0, 0))) = true) ∧ (eqT (RS (Q6 a)) (tM (RS a) (RS a)) = true) ∧ (eqT (RS (M6 a b)) (tM (RS a) (RS b)) = true) ∧ (eqT (RS (N6 a)) (tN (RS a)) = true) ∧ (eqT (RS (D6 a b)) (tP (RS a) (tN (RS b))) = true) ∧ (eqT (RS (P6 a b)) (tP (RS a) (RS b)) = true) ∧ (true = true) ∧ True))
    (H3 : ∀ (a : F6) (b : F6) (c : F2), E6 a b = false → Z6 a = false → ((Z6 (I6 ((0, 0), (0, 0), (0, 0))) = true) ∧ (eqT (RS a) ((0, 0), (0, 0), (0, 0), (0, 0), (0, 0), (0, 0)) = false) ∧ (eqT (RS a) (RS b) = false) ∧ (eqT (RS (I6 a)) (tI (RS a)) = true) ∧ (eqT (RS (V6 a)) (tM (RS a) ((0, 0), (0, 0), rO2, (0, 0), (0, 0), (0, 0))) = true) ∧ (eqT (RS (S6 a c)) (tM (RS a) (R c, (0, 0), (0, 0), (0, 0), (0, 0), (0, 0))) = true) ∧ (eqT (RS (Q6 a)) (tM (RS a) (RS a)) = true) ∧ (eqT (RS (M6 a b)) (tM (RS a) (RS b)) = true) ∧ (eqT (RS (N6 a)) (tN (RS a)) = true) ∧ (eqT (RS (D6 a b)) (tP (RS a) (tN (RS b))) = true) ∧ (eqT (RS (P6 a b)) (tP (RS a) (RS b)) = true) ∧ (true = true) ∧ True)) :
    Computes A Try.prog 12 (fun _ : Bs × Bs × Bs × Unit => true) := by
  refine computes_of_runT0 Try.func12 (by kernel_rfl) (by kernel_rfl) 8 ?_
  rintro ⟨g0, g1, g2, _⟩ ⟨⟨x⟩, ⟨y⟩, ⟨z⟩, ⟨⟩⟩ W ⟨k0, k1, k2, _⟩
  have k0 : HasBytes W x g0 := k0
  have k1 : HasBytes W y g1 := k1
  have k2 : HasBytes W z g2 := k2
  by_cases hx : x.length ≤ 200
  · skip
    by_cases hy : y.length ≤ 200
    · skip
      by_cases hz : z.length ≤ 200
      · skip
        obtain ⟨a, ha'⟩ : ∃ a : F6, a = Sx (partB x 0 x.length) := ⟨_, rfl⟩
        obtain ⟨b, hb'⟩ : ∃ b : F6, b = Sx (partB y 0 y.length) := ⟨_, rfl⟩
        obtain ⟨c, hc'⟩ : ∃ c : F2, c = Nm (partB z 0 z.length) := ⟨_, rfl⟩
        refine ⟨_, ht 0, ?_⟩
        cases hc0 : E6 a b with
        | true =>
          cases hc1 : Z6 a with
          | true =>
            obtain ⟨q0, q1, q2, q3, q4, q5, q6, q7, q8, q9, q10, q11, -⟩ := H0 a b c hc0 hc1
            refine ⟨saysY [], true, [Z6 (I6 ((0, 0), (0, 0), (0, 0))) = true, eqT (RS a) ((0, 0), (0, 0), (0, 0), (0, 0), (0, 0), (0, 0)) = true, Z6 a = true, eqT (RS a) (RS b) = true, E6 a b = true, eqT (RS (I6 a)) (tI (RS a)) = true, eqT (RS (V6 a)) (tM (RS a) ((0, 0), (0, 0), rO2, (0, 0), (0, 0), (0, 0))) = true, eqT (RS (S6 a c)) (tM (RS a) (R c, (0, 0), (0, 0), (0, 0), (0, 0), (0, 0))) = true, eqT (RS (Q6 a)) (tM (RS a) (RS a)) = true, eqT (RS (M6 a b)) (tM (RS a) (RS b)) = true, eqT (RS (N6 a)) (tN (RS a)) = true, eqT (RS (D6 a b)) (tP (RS a) (tN (RS b))) = true, eqT (RS (P6 a b)) (tP (RS a) (RS b)) = true, (partB z 0 z.length).length < 1048576, ReadB W g2 z, AllU8 z, (partB y 0 y.length).length < 1048576, ReadB W g1 y, AllU8 y, (partB x 0 x.length).length < 1048576, ReadB W g0 x, AllU8 x, decide ((z.length : Int) > 200) = false, decide ((y.length : Int) > 200) = false, decide ((x.length : Int) > 200) = false, true = true], ?_, ⟨q0, q1, hc1, q2, hc0, q3, q4, q5, q6, q7, q8, q9, q10, shortL hz, readB k2, allU8 z, shortL hy, readB k1, allU8 y, shortL hx, readB k0, allU8 x, decide_eq_false (by omega), decide_eq_false (by omega), decide_eq_false (by omega), q11, trivial⟩, rfl⟩
            subst ha' hb' hc'
            kernel_rfl
          | false =>
            obtain ⟨q0, q1, q2, q3, q4, q5, q6, q7, q8, q9, q10, q11, -⟩ := H1 a b c hc0 hc1
            refine ⟨saysY [(118, false), (121, false)], true, [Z6 (I6 ((0, 0), (0, 0), (0, 0))) = true, eqT (RS a) ((0, 0), (0, 0), (0, 0), (0, 0), (0, 0), (0, 0)) = false, Z6 a = false, eqT (RS a) (RS b) = true, E6 a b = true, eqT (RS (I6 a)) (tI (RS a)) = true, eqT (RS (V6 a)) (tM (RS a) ((0, 0), (0, 0), rO2, (0, 0), (0, 0), (0, 0))) = true, eqT (RS (S6 a c)) (tM (RS a) (R c, (0, 0), (0, 0), (0, 0), (0, 0), (0, 0))) = true, eqT (RS (Q6 a)) (tM (RS a) (RS a)) = true, eqT (RS (M6 a b)) (tM (RS a) (RS b)) = true, eqT (RS (N6 a)) (tN (RS a)) = true, eqT (RS (D6 a b)) (tP (RS a) (tN (RS b))) = true, eqT (RS (P6 a b)) (tP (RS a) (RS b)) = true, (partB z 0 z.length).length < 1048576, ReadB W g2 z, AllU8 z, (partB y 0 y.length).length < 1048576, ReadB W g1 y, AllU8 y, (partB x 0 x.length).length < 1048576, ReadB W g0 x, AllU8 x, decide ((z.length : Int) > 200) = false, decide ((y.length : Int) > 200) = false, decide ((x.length : Int) > 200) = false, true = true], ?_, ⟨q0, q1, hc1, q2, hc0, q3, q4, q5, q6, q7, q8, q9, q10, shortL hz, readB k2, allU8 z, shortL hy, readB k1, allU8 y, shortL hx, readB k0, allU8 x, decide_eq_false (by omega), decide_eq_false (by omega), decide_eq_false (by omega), q11, trivial⟩, rfl⟩
            subst ha' hb' hc'
            kernel_rfl
        | false =>
          cases hc1 : Z6 a with
          | true =>
            obtain ⟨q0, q1, q2, q3, q4, q5, q6, q7, q8, q9, q10, q11, -⟩ := H2 a b c hc0 hc1
            refine ⟨saysY [(110, false), (113, false)], true, [Z6 (I6 ((0, 0), (0, 0), (0, 0))) = true, eqT (RS a) ((0, 0), (0, 0), (0, 0), (0, 0), (0, 0), (0, 0)) = true, Z6 a = true, eqT (RS a) (RS b) = false, E6 a b = false, eqT (RS (I6 a)) (tI (RS a)) = true, eqT (RS (V6 a)) (tM (RS a) ((0, 0), (0, 0), rO2, (0, 0), (0, 0), (0, 0))) = true, eqT (RS (S6 a c)) (tM (RS a) (R c, (0, 0), (0, 0), (0, 0), (0, 0), (0, 0))) = true, eqT (RS (Q6 a)) (tM (RS a) (RS a)) = true, eqT (RS (M6 a b)) (tM (RS a) (RS b)) = true, eqT (RS (N6 a)) (tN (RS a)) = true, eqT (RS (D6 a b)) (tP (RS a) (tN (RS b))) = true, eqT (RS (P6 a b)) (tP (RS a) (RS b)) = true, (partB z 0 z.length).length < 1048576, ReadB W g2 z, AllU8 z, (partB y 0 y.length).length < 1048576, ReadB W g1 y, AllU8 y, (partB x 0 x.length).length < 1048576, ReadB W g0 x, AllU8 x, decide ((z.length : Int) > 200) = false, decide ((y.length : Int) > 200) = false, decide ((x.length : Int) > 200) = false, true = true], ?_, ⟨q0, q1, hc1, q2, hc0, q3, q4, q5, q6, q7, q8, q9, q10, shortL hz, readB k2, allU8 z, shortL hy, readB k1, allU8 y, shortL hx, readB k0, allU8 x, decide_eq_false (by omega), decide_eq_false (by omega), decide_eq_false (by omega), q11, trivial⟩, rfl⟩
            subst ha' hb' hc'
            kernel_rfl
          | false =>
            obtain ⟨q0, q1, q2, q3, q4, q5, q6, q7, q8, q9, q10, q11, -⟩ := H3 a b c hc0 hc1
            refine ⟨saysY [(110, false), (113, false), (118, false), (121, false)], true, [Z6 (I6 ((0, 0), (0, 0), (0, 0))) = true, eqT (RS a) ((0, 0), (0, 0), (0, 0), (0, 0), (0, 0), (0, 0)) = false, Z6 a = false, eqT (RS a) (RS b) = false, E6 a b = false, eqT (RS (I6 a)) (tI (RS a)) = true, eqT (RS (V6 a)) (tM (RS a) ((0, 0), (0, 0), rO2, (0, 0), (0, 0), (0, 0))) = true, eqT (RS (S6 a c)) (tM (RS a) (R c, (0, 0), (0, 0), (0, 0), (0, 0), (0, 0))) = true, eqT (RS (Q6 a)) (tM (RS a) (RS a)) = true, eqT (RS (M6 a b)) (tM (RS a) (RS b)) = true, eqT (RS (N6 a)) (tN (RS a)) = true, eqT (RS (D6 a b)) (tP (RS a) (tN (RS b))) = true, eqT (RS (P6 a b)) (tP (RS a) (RS b)) = true, (partB z 0 z.length).length < 1048576, ReadB W g2 z, AllU8 z, (partB y 0 y.length).length < 1048576, ReadB W g1 y, AllU8 y, (partB x 0 x.length).length < 1048576, ReadB W g0 x, AllU8 x, decide ((z.length : Int) > 200) = false, decide ((y.length : Int) > 200) = false, decide ((x.length : Int) > 200) = false, true = true], ?_, ⟨q0, q1, hc1, q2, hc0, q3, q4, q5, q6, q7, q8, q9, q10, shortL hz, readB k2, allU8 z, shortL hy, readB k1, allU8 y, shortL hx, readB k0, allU8 x, decide_eq_false (by omega), decide_eq_false (by omega), decide_eq_false (by omega), q11, trivial⟩, rfl⟩
            subst ha' hb' hc'
            kernel_rfl
      · exact ⟨_, ht 3, saysY [], true, [decide ((z.length : Int) > 200) = true, decide ((y.length : Int) > 200) = false, decide ((x.length : Int) > 200) = false, true = true], by kernel_rfl, ⟨decide_eq_true (by omega), decide_eq_false (by omega), decide_eq_false (by omega), rfl, trivial⟩, rfl⟩
    · exact ⟨_, ht 2, saysY [], true, [decide ((y.length : Int) > 200) = true, decide ((x.length : Int) > 200) = false, true = true], by kernel_rfl, ⟨decide_eq_true (by omega), decide_eq_false (by omega), rfl, trivial⟩, rfl⟩
  · exact ⟨_, ht 1, saysY [], true, [decide ((x.length : Int) > 200) = true, true = true], by kernel_rfl, ⟨decide_eq_true (by omega), rfl, trivial⟩, rfl⟩

def tblKnown7 (O6 : F6) (Q12 : F12 → F12) (M12 : F12 → F12 → F12) (Sl : UInt64 → UInt64 → F2) (E12 : F12 → F12 → Bool) (I12 : F12 → F12) (O12 : F12) (C12 : F12 → F12) (P12 : F12 → F12 → F12) (Z12 : F12 → Bool) (rSl : UInt64 → UInt64 → F2) (Sm : F2 → F2 → Bool) : List (Row A) :=
  [rowOf A 73 (fun _ : Unit => O6),
    rowOf A 141 (fun x : F12 × Unit => Q12 x.1),
    rowOf A 93 (fun x : F12 × F12 × Unit => M12 x.1 x.2.1),
    rowOf A 174 (fun x : UInt64 × UInt64 × Unit => Sl x.1 x.2.1),
    rowOf A 95 (fun x : F12 × F12 × Unit => E12 x.1 x.2.1),
    rowOf A 97 (fun x : F12 × Unit => I12 x.1),
    rowOf A 98 (fun _ : Unit => O12),
    rowOf A 94 (fun x : F12 × Unit => C12 x.1),
    rowOf A 99 (fun x : F12 × F12 × Unit => P12 x.1 x.2.1),
    rowOf A 96 (fun x : F12 × Unit => Z12 x.1),
    rowOf A 168 (fun x : UInt64 × UInt64 × Unit => rSl x.1 x.2.1),
    rowOf A 133 (fun x : F2 × F2 × Unit => Sm x.1 x.2.1)]
theorem known7_of (O6 : F6) (Q12 : F12 → F12) (M12 : F12 → F12 → F12) (Sl : UInt64 → UInt64 → F2) (E12 : F12 → F12 → Bool) (I12 : F12 → F12) (O12 : F12) (C12 : F12 → F12) (P12 : F12 → F12 → F12) (Z12 : F12 → Bool) (rSl : UInt64 → UInt64 → F2) (Sm : F2 → F2 → Bool) (ht : TblOK Try.prog (tblKnown7 O6 Q12 M12 Sl E12 I12 O12 C12 P12 Z12 rSl Sm))
    (H0 : (Sm (Sl 1 2) (rSl 1 2) = true) ∧ (Z12 (P12 (C12 (((0, 0), (0, 0), (0, 0)), O6)) (((0, 0), (0, 0), (0, 0)), O6)) = true) ∧ (E12 (M12 (((0, 0), (0, 0), (0, 0)), O6) (I12 (((0, 0), (0, 0), (0, 0)), O6))) O12 = true) ∧ (E12 (M12 (M12 (Q12 (((0, 0), (0, 0), (0, 0)), O6)) (Q12 (((0, 0), (0, 0), (0, 0)), O6))) (Q12 (((0, 0), (0, 0), (0, 0)), O6))) ((Sl 1 1, (0, 0), (0, 0)), ((0, 0), (0, 0), (0, 0))) = true) ∧ True) :
    Computes A Try.prog 90 (fun _ : Unit => true) := by
  refine computes_of_run ht Try.func90 (by kernel_rfl) (by kernel_rfl) 8 ?_
  rintro ⟨⟩ ⟨⟩ W -
  obtain ⟨q0, q1, q2, q3, -⟩ := H0
  exact ⟨saysY [], _, [Sm (Sl 1 2) (rSl 1 2) = true, Z12 (P12 (C12 (((0, 0), (0, 0), (0, 0)), O6)) (((0, 0), (0, 0), (0, 0)), O6)) = true, E12 (M12 (((0, 0), (0, 0), (0, 0)), O6) (I12 (((0, 0), (0, 0), (0, 0)), O6))) O12 = true, E12 (M12 (M12 (Q12 (((0, 0), (0, 0), (0, 0)), O6)) (Q12 (((0, 0), (0, 0), (0, 0)), O6))) (Q12 (((0, 0), (0, 0), (0, 0)), O6))) ((Sl 1 1, (0, 0), (0, 0)), ((0, 0), (0, 0), (0, 0))) = true], (by kernel_rfl : _ = some (some true, _)), ⟨q0, q1, q2, q3, trivial⟩, rfl⟩

noncomputable def tblFp12Laws (k : Nat) (Tw : List UInt8 → F12) (M12 : F12 → F12 → F12) (E12 : F12 → F12 → Bool) (P12 : F12 → F12 → F12) (D12 : F12 → F12 → F12) (O12 : F12) (Z12 : F12 → Bool) (I12 : F12 → F12) : List (Row A) :=
  [rowOf A 90 (fun _ : Unit => true), light7Row k, rowOf A 92 (fun x : Bt × Unit => Tw x.1.l),
    rowOf A 93 (fun x : F12 × F12 × Unit => M12 x.1 x.2.1),
    rowOf A 95 (fun x : F12 × F12 × Unit => E12 x.1 x.2.1),
    rowOf A 99 (fun x : F12 × F12 × Unit => P12 x.1 x.2.1),
    rowOf A 100 (fun x : F12 × F12 × Unit => D12 x.1 x.2.1),
    rowOf A 98 (fun _ : Unit => O12),
    rowOf A 96 (fun x : F12 × Unit => Z12 x.1),
    rowOf A 97 (fun x : F12 × Unit => I12 x.1)]

theorem fp12Laws_of (Tw : List UInt8 → F12) (M12 : F12 → F12 → F12) (E12 : F12 → F12 → Bool) (P12 : F12 → F12 → F12) (D12 : F12 → F12 → F12) (O12 : F12) (Z12 : F12 → Bool) (I12 : F12 → F12) (ht : ∀ k, TblOK Try.prog (tblFp12Laws k Tw M12 E12 P12 D12 O12 Z12 I12))
    (H0 : ∀ (a : F12) (b : F12) (c : F12), Z12 a = true → ((E12 (M12 a O12) a = true) ∧ (E12 (P12 (D12 a b) b) a = true) ∧ (E12 (M12 a (P12 b c)) (P12 (M12 a b) (M12 a c)) = true) ∧ (E12 (M12 a (M12 b c)) (M12 (M12 a b) c) = true) ∧ (E12 (P12 a (P12 b c)) (P12 (P12 a b) c) = true) ∧ (E12 (M12 a b) (M12 b a) = true) ∧ (true = true) ∧ True))
    (H1 : ∀ (a : F12) (b : F12) (c : F12), Z12 a = false → ((E12 (M12 a (I12 a)) O12 = true) ∧ (E12 (M12 a O12) a = true) ∧ (E12 (P12 (D12 a b) b) a = true) ∧ (E12 (M12 a (P12 b c)) (P12 (M12 a b) (M12 a c)) = true) ∧ (E12 (M12 a (M12 b c)) (M12 (M12 a b) c) = true) ∧ (E12 (P12 a (P12 b c)) (P12 (P12 a b) c) = true) ∧ (E12 (M12 a b) (M12 b a) = true) ∧ (true = true) ∧ True)) :
    Computes A Try.prog 15 (fun _ : Bs × Bs × Bs × Unit => true) := by
  refine computes_of_runT0 Try.func15 (by kernel_rfl) (by kernel_rfl) 8 ?_
  rintro ⟨g0, g1, g2, _⟩ ⟨⟨x⟩, ⟨y⟩, ⟨z⟩, ⟨⟩⟩ W ⟨k0, k1, k2, _⟩
  have k0 : HasBytes W x g0 := k0
  have k1 : HasBytes W y g1 := k1
  have k2 : HasBytes W z g2 := k2
  by_cases hx : x.length ≤ 200
  · skip
    by_cases hy : y.length ≤ 200
    · skip
      by_cases hz : z.length ≤ 200
      · skip
        obtain ⟨a, ha'⟩ : ∃ a : F12, a = Tw (partB x 0 x.length) := ⟨_, rfl⟩
        obtain ⟨b, hb'⟩ : ∃ b : F12, b = Tw (partB y 0 y.length) := ⟨_, rfl⟩
        obtain ⟨c, hc'⟩ : ∃ c : F12, c = Tw (partB z 0 z.length) := ⟨_, rfl⟩
        refine ⟨_, ht 0, ?_⟩
        cases hc0 : Z12 a with
        | true =>
          obtain ⟨q0, q1, q2, q3, q4, q5, q6, -⟩ := H0 a b c hc0
          refine ⟨saysY [], true, [Z12 a = true, E12 (M12 a O12) a = true, E12 (P12 (D12 a b) b) a = true, E12 (M12 a (P12 b c)) (P12 (M12 a b) (M12 a c)) = true, E12 (M12 a (M12 b c)) (M12 (M12 a b) c) = true, E12 (P12 a (P12 b c)) (P12 (P12 a b) c) = true, E12 (M12 a b) (M12 b a) = true, (partB z 0 z.length).length < 1048576, ReadB W g2 z, AllU8 z, (partB y 0 y.length).length < 1048576, ReadB W g1 y, AllU8 y, (partB x 0 x.length).length < 1048576, ReadB W g0 x, AllU8 x, decide ((z.length : Int) > 200) = false, decide ((y.length : Int) > 200) = false, decide ((x.length : Int) > 200) = false, true = true], ?_, ⟨hc0, q0, q1, q2, q3, q4, q5, shortL hz, readB k2, allU8 z, shortL hy, readB k1, allU8 y, shortL hx, readB k0, allU8 x, decide_eq_false (by omega), decide_eq_false (by omega), decide_eq_false (by omega), q6, trivial⟩, rfl⟩
          subst ha' hb' hc'
          kernel_rfl
        | false =>
          obtain ⟨q0, q1, q2, q3, q4, q5, q6, q7, -⟩ := H1 a b c hc0
          refine ⟨saysY [(92, false)], true, [E12 (M12 a (I12 a)) O12 = true, Z12 a = false, E12 (M12 a O12) a = true, E12 (P12 (D12 a b) b) a = true, E12 (M12 a (P12 b c)) (P12 (M12 a b) (M12 a c)) = true, E12 (M12 a (M12 b c)) (M12 (M12 a b) c) = true, E12 (P12 a (P12 b c)) (P12 (P12 a b) c) = true, E12 (M12 a b) (M12 b a) = true, (partB z 0 z.length).length < 1048576, ReadB W g2 z, AllU8 z, (partB y 0 y.length).length < 1048576, ReadB W g1 y, AllU8 y, (partB x 0 x.length).length < 1048576, ReadB W g0 x, AllU8 x, decide ((z.length : Int) > 200) = false, decide ((y.length : Int) > 200) = false, decide ((x.length : Int) > 200) = false, true = true], ?_, ⟨q0, hc0, q1, q2, q3, q4, q5, q6, shortL hz, readB k2, allU8 z, shortL hy, readB k1, allU8 y, shortL hx, readB k0, allU8 x, decide_eq_false (by omega), decide_eq_false (by omega), decide_eq_false (by omega), q7, trivial⟩, rfl⟩
          subst ha' hb' hc'
          kernel_rfl
      · exact ⟨_, ht 3, saysY [], true, [decide ((z.length : Int) > 200) = true, decide ((y.length : Int) > 200) = false, decide ((x.length : Int) > 200) = false, true = true], by kernel_rfl, ⟨decide_eq_true (by omega), decide_eq_false (by omega), decide_eq_false (by omega), rfl, trivial⟩, rfl⟩
    · exact ⟨_, ht 2, saysY [], true, [decide ((y.length : Int) > 200) = true, decide ((x.length : Int) > 200) = false, true = true], by kernel_rfl, ⟨decide_eq_true (by omega), decide_eq_false (by omega), rfl, trivial⟩, rfl⟩
  · exact ⟨_, ht 1, saysY [], true, [decide ((x.length : Int) > 200) = true, true = true], by kernel_rfl, ⟨decide_eq_true (by omega), rfl, trivial⟩, rfl⟩

noncomputable def tblFp12Norms (k : Nat) (Tw : List UInt8 → F12) (C12 : F12 → F12) (M12 : F12 → F12 → F12) (Z6 : F6 → Bool) (E12 : F12 → F12 → Bool) (Z12 : F12 → Bool) (I12 : F12 → F12) (O12 : F12) : List (Row A) :=
  [rowOf A 90 (fun _ : Unit => true), light7Row k, rowOf A 92 (fun x : Bt × Unit => Tw x.1.l),
    rowOf A 94 (fun x : F12 × Unit => C12 x.1),
    rowOf A 93 (fun x : F12 × F12 × Unit => M12 x.1 x.2.1),
    rowOf A 74 (fun x : F6 × Unit => Z6 x.1),
    rowOf A 95 (fun x : F12 × F12 × Unit => E12 x.1 x.2.1),
    rowOf A 96 (fun x : F12 × Unit => Z12 x.1),
    rowOf A 97 (fun x : F12 × Unit => I12 x.1),
    rowOf A 98 (fun _ : Unit => O12)]

theorem fp12Norms_of (Tw : List UInt8 → F12) (C12 : F12 → F12) (M12 : F12 → F12 → F12) (Z6 : F6 → Bool) (E12 : F12 → F12 → Bool) (Z12 : F12 → Bool) (I12 : F12 → F12) (O12 : F12) (ht : ∀ k, TblOK Try.prog (tblFp12Norms k Tw C12 M12 Z6 E12 Z12 I12 O12))
    (H0 : ∀ (a : F12) (b : F12), Z12 a = true → ((Z12 (M12 a (C12 a)) = true) ∧ (E12 (C12 (C12 a)) a = true) ∧ (E12 (C12 (M12 a b)) (M12 (C12 a) (C12 b)) = true) ∧ (Z6 ((M12 a (C12 a)).2) = true) ∧ (true = true) ∧ True))
    (H1 : ∀ (a : F12) (b : F12), Z12 a = false → ((E12 (C12 (M12 a (I12 (C12 a)))) (I12 (M12 a (I12 (C12 a)))) = true) ∧ (E12 (M12 (C12 (M12 a (I12 (C12 a)))) (M12 a (I12 (C12 a)))) O12 = true) ∧ (E12 (C12 (C12 a)) a = true) ∧ (E12 (C12 (M12 a b)) (M12 (C12 a) (C12 b)) = true) ∧ (Z6 ((M12 a (C12 a)).2) = true) ∧ (true = true) ∧ True)) :
    Computes A Try.prog 14 (fun _ : Bs × Bs × Unit => true) := by
  refine computes_of_runT0 Try.func14 (by kernel_rfl) (by kernel_rfl) 8 ?_
  rintro ⟨g0, g1, _⟩ ⟨⟨x⟩, ⟨y⟩, ⟨⟩⟩ W ⟨k0, k1, _⟩
  have k0 : HasBytes W x g0 := k0
  have k1 : HasBytes W y g1 := k1
  by_cases hx : x.length ≤ 200
  · skip
    by_cases hy : y.length ≤ 200
    · skip
      obtain ⟨a, ha'⟩ : ∃ a : F12, a = Tw (partB x 0 x.length) := ⟨_, rfl⟩
      obtain ⟨b, hb'⟩ : ∃ b : F12, b = Tw (partB y 0 y.length) := ⟨_, rfl⟩
      refine ⟨_, ht 0, ?_⟩
      cases hc0 : Z12 a with
      | true =>
        obtain ⟨q0, q1, q2, q3, q4, -⟩ := H0 a b hc0
        refine ⟨saysY [], true, [Z12 (M12 a (C12 a)) = true, Z12 a = true, E12 (C12 (C12 a)) a = true, E12 (C12 (M12 a b)) (M12 (C12 a) (C12 b)) = true, Z6 ((M12 a (C12 a)).2) = true, (partB y 0 y.length).length < 1048576, ReadB W g1 y, AllU8 y, (partB x 0 x.length).length < 1048576, ReadB W g0 x, AllU8 x, decide ((y.length : Int) > 200) = false, decide ((x.length : Int) > 200) = false, true = true], ?_, ⟨q0, hc0, q1, q2, q3, shortL hy, readB k1, allU8 y, shortL hx, readB k0, allU8 x, decide_eq_false (by omega), decide_eq_false (by omega), q4, trivial⟩, rfl⟩
        subst ha' hb'
        kernel_rfl
      | false =>
        obtain ⟨q0, q1, q2, q3, q4, q5, -⟩ := H1 a b hc0
        refine ⟨saysY [(50, false)], true, [E12 (C12 (M12 a (I12 (C12 a)))) (I12 (M12 a (I12 (C12 a)))) = true, E12 (M12 (C12 (M12 a (I12 (C12 a)))) (M12 a (I12 (C12 a)))) O12 = true, Z12 a = false, E12 (C12 (C12 a)) a = true, E12 (C12 (M12 a b)) (M12 (C12 a) (C12 b)) = true, Z6 ((M12 a (C12 a)).2) = true, (partB y 0 y.length).length < 1048576, ReadB W g1 y, AllU8 y, (partB x 0 x.length).length < 1048576, ReadB W g0 x, AllU8 x, decide ((y.length : Int) > 200) = false, decide ((x.length : Int) > 200) = false, true = true], ?_, ⟨q0, q1, hc0, q2, q3, q4, shortL hy, readB k1, allU8 y, shortL hx, readB k0, allU8 x, decide_eq_false (by omega), decide_eq_false (by omega), q5, trivial⟩, rfl⟩
        subst ha' hb'
        kernel_rfl
    · exact ⟨_, ht 2, saysY [], true, [decide ((y.length : Int) > 200) = true, decide ((x.length : Int) > 200) = false, true = true], by kernel_rfl, ⟨decide_eq_true (by omega), decide_eq_false (by omega), rfl, trivial⟩, rfl⟩
  · exact ⟨_, ht 1, saysY [], true, [decide ((x.length : Int) > 200) = true, true = true], by kernel_rfl, ⟨decide_eq_true (by omega), rfl, trivial⟩, rfl⟩

end Go.Proofs.Ytbdbmcdcjejffaa
