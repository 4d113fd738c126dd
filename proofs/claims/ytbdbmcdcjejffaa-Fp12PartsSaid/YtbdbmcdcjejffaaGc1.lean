/- The laws of fp2, walked over variable functions: norms, signs, reckoning, roots. -/
import Derived.Test.YtbdbmcdcjejffaaGb1
set_option linter.unusedVariables false
set_option linter.unusedSimpArgs false
set_option linter.unusedSectionVars false
namespace Go.Proofs.Ytbdbmcdcjejffaa
open Go Go.Sh

theorem shortL {x : List UInt8} (h : x.length ≤ 200) : (partB x 0 x.length).length < 1048576 := by rw [partB_all]; omega
/-- The lesser one of a length and a hundred, as it is taken. -/
def minL (l : List UInt8) : Int := if (100 : Int) < (l.length : Int) then 100 else (l.length : Int)
theorem minL_eq (l : List UInt8) : minL l = ((min 100 l.length : Nat) : Int) := by
  unfold minL
  split <;> omega
theorem min_cap {W : World} {g : Spot} {l : List UInt8} (h : HasBytes W l g) : 0 ≤ minL l ∧ minL l ≤ g.c := by
  have := h.1
  rw [minL_eq]; omega
theorem min_le (l : List UInt8) : 0 + (minL l).toNat ≤ l.length := by rw [minL_eq]; omega
theorem min_lt (l : List UInt8) : (minL l).toNat < 1048576 := by rw [minL_eq]; omega

noncomputable def tblFp2Norms (k : Nat) (Nm : List UInt8 → F2) (C2 : F2 → F2) (M2 : F2 → F2 → F2) (Z : Fp → Bool) (Q : Fp → Fp) (P : Fp → Fp → Fp) (E : Fp → Fp → Bool) (E2 : F2 → F2 → Bool) (K2 : F2 → Bool) (Lg : Fp → Int) (O : UInt64 → Fp) (S2 : F2 → Fp → F2) (P2 : F2 → F2 → F2) : List (Row A) :=
  [rowOf A 101 (fun _ : Unit => true), light5Row k, rowOf A 103 (fun x : Bt × Unit => Nm x.1.l),
    rowOf A 112 (fun x : F2 × Unit => C2 x.1),
    rowOf A 111 (fun x : F2 × F2 × Unit => M2 x.1 x.2.1),
    rowOf A 31 (fun x : Fp × Unit => Z x.1),
    rowOf A 47 (fun x : Fp × Unit => Q x.1),
    rowOf A 41 (fun x : Fp × Fp × Unit => P x.1 x.2.1),
    rowOf A 52 (fun x : Fp × Fp × Unit => E x.1 x.2.1),
    rowOf A 113 (fun x : F2 × F2 × Unit => E2 x.1 x.2.1),
    rowOf A 114 (fun x : F2 × Unit => K2 x.1),
    rowOf A 60 (fun x : Fp × Unit => Lg x.1),
    rowOf A 38 (fun x : UInt64 × Unit => O x.1),
    rowOf A 115 (fun x : F2 × Fp × Unit => S2 x.1 x.2.1),
    rowOf A 116 (fun x : F2 × F2 × Unit => P2 x.1 x.2.1)]

theorem fp2Norms_of (Nm : List UInt8 → F2) (C2 : F2 → F2) (M2 : F2 → F2 → F2) (Z : Fp → Bool) (Q : Fp → Fp) (P : Fp → Fp → Fp) (E : Fp → Fp → Bool) (E2 : F2 → F2 → Bool) (K2 : F2 → Bool) (Lg : Fp → Int) (O : UInt64 → Fp) (S2 : F2 → Fp → F2) (P2 : F2 → F2 → F2) (ht : ∀ k, TblOK Try.prog (tblFp2Norms k Nm C2 M2 Z Q P E E2 K2 Lg O S2 P2))
    (H0 : ∀ (a : F2) (b : F2), K2 a = true → ((E2 (S2 a (O 3)) (P2 (P2 a a) a) = true) ∧ (decide (Lg ((M2 a (C2 a)).1) ≥ 0) = true) ∧ (E2 (M2 (M2 a b) (C2 (M2 a b))) (M2 (M2 a (C2 a)) (M2 b (C2 b))) = true) ∧ (E ((M2 a (C2 a)).1) (P (Q a.1) (Q a.2)) = true) ∧ (Z ((M2 a (C2 a)).2) = true) ∧ (true = true) ∧ True))
    (H1 : ∀ (a : F2) (b : F2), K2 a = false → ((E2 (S2 a (O 3)) (P2 (P2 a a) a) = true) ∧ (decide (Lg ((M2 a (C2 a)).1) ≥ 0) = false) ∧ (E2 (M2 (M2 a b) (C2 (M2 a b))) (M2 (M2 a (C2 a)) (M2 b (C2 b))) = true) ∧ (E ((M2 a (C2 a)).1) (P (Q a.1) (Q a.2)) = true) ∧ (Z ((M2 a (C2 a)).2) = true) ∧ (true = true) ∧ True)) :
    Computes A Try.prog 17 (fun _ : Bs × Bs × Unit => true) := by
  refine computes_of_runT0 Try.func17 (by kernel_rfl) (by kernel_rfl) 8 ?_
  rintro ⟨g0, g1, _⟩ ⟨⟨x⟩, ⟨y⟩, ⟨⟩⟩ W ⟨k0, k1, _⟩
  have k0 : HasBytes W x g0 := k0
  have k1 : HasBytes W y g1 := k1
  by_cases hx : x.length ≤ 200
  · skip
    by_cases hy : y.length ≤ 200
    · skip
      obtain ⟨a, ha'⟩ : ∃ a : F2, a = Nm (partB x 0 x.length) := ⟨_, rfl⟩
      obtain ⟨b, hb'⟩ : ∃ b : F2, b = Nm (partB y 0 y.length) := ⟨_, rfl⟩
      refine ⟨_, ht 0, ?_⟩
      cases hc0 : K2 a with
      | true =>
        obtain ⟨q0, q1, q2, q3, q4, q5, -⟩ := H0 a b hc0
        refine ⟨saysY [], true, [E2 (S2 a (O 3)) (P2 (P2 a a) a) = true, decide (Lg ((M2 a (C2 a)).1) ≥ 0) = true, K2 a = true, E2 (M2 (M2 a b) (C2 (M2 a b))) (M2 (M2 a (C2 a)) (M2 b (C2 b))) = true, E ((M2 a (C2 a)).1) (P (Q a.1) (Q a.2)) = true, Z ((M2 a (C2 a)).2) = true, (partB y 0 y.length).length < 1048576, ReadB W g1 y, AllU8 y, (partB x 0 x.length).length < 1048576, ReadB W g0 x, AllU8 x, decide ((y.length : Int) > 200) = false, decide ((x.length : Int) > 200) = false, true = true], ?_, ⟨q0, q1, hc0, q2, q3, q4, shortL hy, readB k1, allU8 y, shortL hx, readB k0, allU8 x, decide_eq_false (by omega), decide_eq_false (by omega), q5, trivial⟩, rfl⟩
        subst ha' hb'
        kernel_rfl
      | false =>
        obtain ⟨q0, q1, q2, q3, q4, q5, -⟩ := H1 a b hc0
        refine ⟨saysY [(61, false), (65, false)], true, [E2 (S2 a (O 3)) (P2 (P2 a a) a) = true, decide (Lg ((M2 a (C2 a)).1) ≥ 0) = false, K2 a = false, E2 (M2 (M2 a b) (C2 (M2 a b))) (M2 (M2 a (C2 a)) (M2 b (C2 b))) = true, E ((M2 a (C2 a)).1) (P (Q a.1) (Q a.2)) = true, Z ((M2 a (C2 a)).2) = true, (partB y 0 y.length).length < 1048576, ReadB W g1 y, AllU8 y, (partB x 0 x.length).length < 1048576, ReadB W g0 x, AllU8 x, decide ((y.length : Int) > 200) = false, decide ((x.length : Int) > 200) = false, true = true], ?_, ⟨q0, q1, hc0, q2, q3, q4, shortL hy, readB k1, allU8 y, shortL hx, readB k0, allU8 x, decide_eq_false (by omega), decide_eq_false (by omega), q5, trivial⟩, rfl⟩
        subst ha' hb'
        kernel_rfl
    · exact ⟨_, ht 2, saysY [], true, [decide ((y.length : Int) > 200) = true, decide ((x.length : Int) > 200) = false, true = true], by kernel_rfl, ⟨decide_eq_true (by omega), decide_eq_false (by omega), rfl, trivial⟩, rfl⟩
  · exact ⟨_, ht 1, saysY [], true, [decide ((x.length : Int) > 200) = true, true = true], by kernel_rfl, ⟨decide_eq_true (by omega), rfl, trivial⟩, rfl⟩

noncomputable def tblFp2Reckons (k : Nat) (Nm : List UInt8 → F2) (R : F2 → F2) (Wd : List UInt8 → Fp) (Pt : Fp → Fp) (P2 : F2 → F2 → F2) (rP2 : F2 → F2 → F2) (Sm : F2 → F2 → Bool) (D2 : F2 → F2 → F2) (rD2 : F2 → F2 → F2) (N2 : F2 → F2) (rN2 : F2 → F2) (C2 : F2 → F2) (rC2 : F2 → F2) (M2 : F2 → F2 → F2) (rM2 : F2 → F2 → F2) (Q2 : F2 → F2) (I2 : F2 → F2) (rI2 : F2 → F2) (X2 : F2 → F2) (rX2 : F2 → F2) (S2 : F2 → Fp → F2) (rM : Fp → Fp → Fp) (E2 : F2 → F2 → Bool) (Z2 : F2 → Bool) (rZ2 : F2 → Bool) : List (Row A) :=
  [rowOf A 101 (fun _ : Unit => true), light5Row k, rowOf A 103 (fun x : Bt × Unit => Nm x.1.l),
    rowOf A 105 (fun x : F2 × Unit => R x.1),
    rowOf A 35 (fun x : Bt × Unit => Wd x.1.l),
    rowOf A 117 (fun x : Fp × Unit => Pt x.1),
    rowOf A 116 (fun x : F2 × F2 × Unit => P2 x.1 x.2.1),
    rowOf A 119 (fun x : F2 × F2 × Unit => rP2 x.1 x.2.1),
    rowOf A 118 (fun x : F2 × F2 × Unit => Sm x.1 x.2.1),
    rowOf A 120 (fun x : F2 × F2 × Unit => D2 x.1 x.2.1),
    rowOf A 121 (fun x : F2 × F2 × Unit => rD2 x.1 x.2.1),
    rowOf A 110 (fun x : F2 × Unit => N2 x.1),
    rowOf A 122 (fun x : F2 × Unit => rN2 x.1),
    rowOf A 112 (fun x : F2 × Unit => C2 x.1),
    rowOf A 123 (fun x : F2 × Unit => rC2 x.1),
    rowOf A 111 (fun x : F2 × F2 × Unit => M2 x.1 x.2.1),
    rowOf A 124 (fun x : F2 × F2 × Unit => rM2 x.1 x.2.1),
    rowOf A 125 (fun x : F2 × Unit => Q2 x.1),
    rowOf A 126 (fun x : F2 × Unit => I2 x.1),
    rowOf A 127 (fun x : F2 × Unit => rI2 x.1),
    rowOf A 128 (fun x : F2 × Unit => X2 x.1),
    rowOf A 129 (fun x : F2 × Unit => rX2 x.1),
    rowOf A 115 (fun x : F2 × Fp × Unit => S2 x.1 x.2.1),
    rowOf A 46 (fun x : Fp × Fp × Unit => rM x.1 x.2.1),
    rowOf A 113 (fun x : F2 × F2 × Unit => E2 x.1 x.2.1),
    rowOf A 109 (fun x : F2 × Unit => Z2 x.1),
    rowOf A 130 (fun x : F2 × Unit => rZ2 x.1)]

theorem fp2Reckons_of (Nm : List UInt8 → F2) (R : F2 → F2) (Wd : List UInt8 → Fp) (Pt : Fp → Fp) (P2 : F2 → F2 → F2) (rP2 : F2 → F2 → F2) (Sm : F2 → F2 → Bool) (D2 : F2 → F2 → F2) (rD2 : F2 → F2 → F2) (N2 : F2 → F2) (rN2 : F2 → F2) (C2 : F2 → F2) (rC2 : F2 → F2) (M2 : F2 → F2 → F2) (rM2 : F2 → F2 → F2) (Q2 : F2 → F2) (I2 : F2 → F2) (rI2 : F2 → F2) (X2 : F2 → F2) (rX2 : F2 → F2) (S2 : F2 → Fp → F2) (rM : Fp → Fp → Fp) (E2 : F2 → F2 → Bool) (Z2 : F2 → Bool) (rZ2 : F2 → Bool) (ht : ∀ k, TblOK Try.prog (tblFp2Reckons k Nm R Wd Pt P2 rP2 Sm D2 rD2 N2 rN2 C2 rC2 M2 rM2 Q2 I2 rI2 X2 rX2 S2 rM E2 Z2 rZ2))
    (H0 : ∀ (a : F2) (b : F2) (c : Fp), E2 a b = true → Z2 a = true → ((Z2 (I2 (0, 0)) = true) ∧ (Z2 (0, 0) = true) ∧ (rZ2 (R a) = true) ∧ (eqE (R a) (R b) = true) ∧ (Sm (S2 a c) (rM ((R a).1) (Pt c), rM ((R a).2) (Pt c)) = true) ∧ (Sm (X2 a) (rX2 (R a)) = true) ∧ (Sm (I2 a) (rI2 (R a)) = true) ∧ (Sm (Q2 a) (rM2 (R a) (R a)) = true) ∧ (Sm (M2 a b) (rM2 (R a) (R b)) = true) ∧ (Sm (C2 a) (rC2 (R a)) = true) ∧ (Sm (N2 a) (rN2 (R a)) = true) ∧ (Sm (D2 a b) (rD2 (R a) (R b)) = true) ∧ (Sm (P2 a b) (rP2 (R a) (R b)) = true) ∧ (true = true) ∧ True))
    (H1 : ∀ (a : F2) (b : F2) (c : Fp), E2 a b = true → Z2 a = false → ((Z2 (I2 (0, 0)) = true) ∧ (Z2 (0, 0) = true) ∧ (rZ2 (R a) = false) ∧ (eqE (R a) (R b) = true) ∧ (Sm (S2 a c) (rM ((R a).1) (Pt c), rM ((R a).2) (Pt c)) = true) ∧ (Sm (X2 a) (rX2 (R a)) = true) ∧ (Sm (I2 a) (rI2 (R a)) = true) ∧ (Sm (Q2 a) (rM2 (R a) (R a)) = true) ∧ (Sm (M2 a b) (rM2 (R a) (R b)) = true) ∧ (Sm (C2 a) (rC2 (R a)) = true) ∧ (Sm (N2 a) (rN2 (R a)) = true) ∧ (Sm (D2 a b) (rD2 (R a) (R b)) = true) ∧ (Sm (P2 a b) (rP2 (R a) (R b)) = true) ∧ (true = true) ∧ True))
    (H2 : ∀ (a : F2) (b : F2) (c : Fp), E2 a b = false → Z2 a = true → ((Z2 (I2 (0, 0)) = true) ∧ (Z2 (0, 0) = true) ∧ (rZ2 (R a) = true) ∧ (eqE (R a) (R b) = false) ∧ (Sm (S2 a c) (rM ((R a).1) (Pt c), rM ((R a).2) (Pt c)) = true) ∧ (Sm (X2 a) (rX2 (R a)) = true) ∧ (Sm (I2 a) (rI2 (R a)) = true) ∧ (Sm (Q2 a) (rM2 (R a) (R a)) = true) ∧ (Sm (M2 a b) (rM2 (R a) (R b)) = true) ∧ (Sm (C2 a) (rC2 (R a)) = true) ∧ (Sm (N2 a) (rN2 (R a)) = true) ∧ (Sm (D2 a b) (rD2 (R a) (R b)) = true) ∧ (Sm (P2 a b) (rP2 (R a) (R b)) = true) ∧ (true = true) ∧ True))
    (H3 : ∀ (a : F2) (b : F2) (c : Fp), E2 a b = false → Z2 a = false → ((Z2 (I2 (0, 0)) = true) ∧ (Z2 (0, 0) = true) ∧ (rZ2 (R a) = false) ∧ (eqE (R a) (R b) = false) ∧ (Sm (S2 a c) (rM ((R a).1) (Pt c), rM ((R a).2) (Pt c)) = true) ∧ (Sm (X2 a) (rX2 (R a)) = true) ∧ (Sm (I2 a) (rI2 (R a)) = true) ∧ (Sm (Q2 a) (rM2 (R a) (R a)) = true) ∧ (Sm (M2 a b) (rM2 (R a) (R b)) = true) ∧ (Sm (C2 a) (rC2 (R a)) = true) ∧ (Sm (N2 a) (rN2 (R a)) = true) ∧ (Sm (D2 a b) (rD2 (R a) (R b)) = true) ∧ (Sm (P2 a b) (rP2 (R a) (R b)) = true) ∧ (true = true) ∧ True)) :
    Computes A Try.prog 18 (fun _ : Bs × Bs × Bs × Unit => true) := by
  refine computes_of_runT0 Try.func18 (by kernel_rfl) (by kernel_rfl) 8 ?_
  rintro ⟨g0, g1, g2, _⟩ ⟨⟨x⟩, ⟨y⟩, ⟨z⟩, ⟨⟩⟩ W ⟨k0, k1, k2, _⟩
  have k0 : HasBytes W x g0 := k0
  have k1 : HasBytes W y g1 := k1
  have k2 : HasBytes W z g2 := k2
  by_cases hx : x.length ≤ 200
  · skip
    by_cases hy : y.length ≤ 200
    · skip
      by_cases hz : z.length ≤ 200
      · skip
        obtain ⟨a, ha'⟩ : ∃ a : F2, a = Nm (partB x 0 x.length) := ⟨_, rfl⟩
        obtain ⟨b, hb'⟩ : ∃ b : F2, b = Nm (partB y 0 y.length) := ⟨_, rfl⟩
        obtain ⟨c, hc'⟩ : ∃ c : Fp, c = Wd (partB z 0 (minL z).toNat) := ⟨_, rfl⟩
        refine ⟨_, ht 0, ?_⟩
        cases hc0 : E2 a b with
        | true =>
          cases hc1 : Z2 a with
          | true =>
            obtain ⟨q0, q1, q2, q3, q4, q5, q6, q7, q8, q9, q10, q11, q12, q13, -⟩ := H0 a b c hc0 hc1
            refine ⟨saysY [], true, [Z2 (I2 (0, 0)) = true, Z2 (0, 0) = true, rZ2 (R a) = true, Z2 a = true, eqE (R a) (R b) = true, E2 a b = true, Sm (S2 a c) (rM ((R a).1) (Pt c), rM ((R a).2) (Pt c)) = true, Sm (X2 a) (rX2 (R a)) = true, Sm (I2 a) (rI2 (R a)) = true, Sm (Q2 a) (rM2 (R a) (R a)) = true, Sm (M2 a b) (rM2 (R a) (R b)) = true, Sm (C2 a) (rC2 (R a)) = true, Sm (N2 a) (rN2 (R a)) = true, Sm (D2 a b) (rD2 (R a) (R b)) = true, Sm (P2 a b) (rP2 (R a) (R b)) = true, (partB z 0 (minL z).toNat).length < 1048576, ReadAt W g2 z 0 (minL z).toNat, U8At z 0 (minL z).toNat, 0 ≤ minL z ∧ minL z ≤ g2.c, (partB y 0 y.length).length < 1048576, ReadB W g1 y, AllU8 y, (partB x 0 x.length).length < 1048576, ReadB W g0 x, AllU8 x, decide ((z.length : Int) > 200) = false, decide ((y.length : Int) > 200) = false, decide ((x.length : Int) > 200) = false, true = true], ?_, ⟨q0, q1, q2, hc1, q3, hc0, q4, q5, q6, q7, q8, q9, q10, q11, q12, by rw [partB_len]; exact min_lt _, readAt k2 (min_le _), u8At _ _ _, min_cap k2, shortL hy, readB k1, allU8 y, shortL hx, readB k0, allU8 x, decide_eq_false (by omega), decide_eq_false (by omega), decide_eq_false (by omega), q13, trivial⟩, rfl⟩
            subst ha' hb' hc'
            kernel_rfl
          | false =>
            obtain ⟨q0, q1, q2, q3, q4, q5, q6, q7, q8, q9, q10, q11, q12, q13, -⟩ := H1 a b c hc0 hc1
            refine ⟨saysY [(125, false), (127, false)], true, [Z2 (I2 (0, 0)) = true, Z2 (0, 0) = true, rZ2 (R a) = false, Z2 a = false, eqE (R a) (R b) = true, E2 a b = true, Sm (S2 a c) (rM ((R a).1) (Pt c), rM ((R a).2) (Pt c)) = true, Sm (X2 a) (rX2 (R a)) = true, Sm (I2 a) (rI2 (R a)) = true, Sm (Q2 a) (rM2 (R a) (R a)) = true, Sm (M2 a b) (rM2 (R a) (R b)) = true, Sm (C2 a) (rC2 (R a)) = true, Sm (N2 a) (rN2 (R a)) = true, Sm (D2 a b) (rD2 (R a) (R b)) = true, Sm (P2 a b) (rP2 (R a) (R b)) = true, (partB z 0 (minL z).toNat).length < 1048576, ReadAt W g2 z 0 (minL z).toNat, U8At z 0 (minL z).toNat, 0 ≤ minL z ∧ minL z ≤ g2.c, (partB y 0 y.length).length < 1048576, ReadB W g1 y, AllU8 y, (partB x 0 x.length).length < 1048576, ReadB W g0 x, AllU8 x, decide ((z.length : Int) > 200) = false, decide ((y.length : Int) > 200) = false, decide ((x.length : Int) > 200) = false, true = true], ?_, ⟨q0, q1, q2, hc1, q3, hc0, q4, q5, q6, q7, q8, q9, q10, q11, q12, by rw [partB_len]; exact min_lt _, readAt k2 (min_le _), u8At _ _ _, min_cap k2, shortL hy, readB k1, allU8 y, shortL hx, readB k0, allU8 x, decide_eq_false (by omega), decide_eq_false (by omega), decide_eq_false (by omega), q13, trivial⟩, rfl⟩
            subst ha' hb' hc'
            kernel_rfl
        | false =>
          cases hc1 : Z2 a with
          | true =>
            obtain ⟨q0, q1, q2, q3, q4, q5, q6, q7, q8, q9, q10, q11, q12, q13, -⟩ := H2 a b c hc0 hc1
            refine ⟨saysY [(117, false), (120, false)], true, [Z2 (I2 (0, 0)) = true, Z2 (0, 0) = true, rZ2 (R a) = true, Z2 a = true, eqE (R a) (R b) = false, E2 a b = false, Sm (S2 a c) (rM ((R a).1) (Pt c), rM ((R a).2) (Pt c)) = true, Sm (X2 a) (rX2 (R a)) = true, Sm (I2 a) (rI2 (R a)) = true, Sm (Q2 a) (rM2 (R a) (R a)) = true, Sm (M2 a b) (rM2 (R a) (R b)) = true, Sm (C2 a) (rC2 (R a)) = true, Sm (N2 a) (rN2 (R a)) = true, Sm (D2 a b) (rD2 (R a) (R b)) = true, Sm (P2 a b) (rP2 (R a) (R b)) = true, (partB z 0 (minL z).toNat).length < 1048576, ReadAt W g2 z 0 (minL z).toNat, U8At z 0 (minL z).toNat, 0 ≤ minL z ∧ minL z ≤ g2.c, (partB y 0 y.length).length < 1048576, ReadB W g1 y, AllU8 y, (partB x 0 x.length).length < 1048576, ReadB W g0 x, AllU8 x, decide ((z.length : Int) > 200) = false, decide ((y.length : Int) > 200) = false, decide ((x.length : Int) > 200) = false, true = true], ?_, ⟨q0, q1, q2, hc1, q3, hc0, q4, q5, q6, q7, q8, q9, q10, q11, q12, by rw [partB_len]; exact min_lt _, readAt k2 (min_le _), u8At _ _ _, min_cap k2, shortL hy, readB k1, allU8 y, shortL hx, readB k0, allU8 x, decide_eq_false (by omega), decide_eq_false (by omega), decide_eq_false (by omega), q13, trivial⟩, rfl⟩
            subst ha' hb' hc'
            kernel_rfl
          | false =>
            obtain ⟨q0, q1, q2, q3, q4, q5, q6, q7, q8, q9, q10, q11, q12, q13, -⟩ := H3 a b c hc0 hc1
            refine ⟨saysY [(117, false), (120, false), (125, false), (127, false)], true, [Z2 (I2 (0, 0)) = true, Z2 (0, 0) = true, rZ2 (R a) = false, Z2 a = false, eqE (R a) (R b) = false, E2 a b = false, Sm (S2 a c) (rM ((R a).1) (Pt c), rM ((R a).2) (Pt c)) = true, Sm (X2 a) (rX2 (R a)) = true, Sm (I2 a) (rI2 (R a)) = true, Sm (Q2 a) (rM2 (R a) (R a)) = true, Sm (M2 a b) (rM2 (R a) (R b)) = true, Sm (C2 a) (rC2 (R a)) = true, Sm (N2 a) (rN2 (R a)) = true, Sm (D2 a b) (rD2 (R a) (R b)) = true, Sm (P2 a b) (rP2 (R a) (R b)) = true, (partB z 0 (minL z).toNat).length < 1048576, ReadAt W g2 z 0 (minL z).toNat, U8At z 0 (minL z).toNat, 0 ≤ minL z ∧ minL z ≤ g2.c, (partB y 0 y.length).length < 1048576, ReadB W g1 y, AllU8 y, (partB x 0 x.length).length < 1048576, ReadB W g0 x, AllU8 x, decide ((z.length : Int) > 200) = false, decide ((y.length : Int) > 200) = false, decide ((x.length : Int) > 200) = false, true = true], ?_, ⟨q0, q1, q2, hc1, q3, hc0, q4, q5, q6, q7, q8, q9, q10, q11, q12, by rw [partB_len]; exact min_lt _, readAt k2 (min_le _), u8At _ _ _, min_cap k2, shortL hy, readB k1, allU8 y, shortL hx, readB k0, allU8 x, decide_eq_false (by omega), decide_eq_false (by omega), decide_eq_false (by omega), q13, trivial⟩, rfl⟩
            subst ha' hb' hc'
            kernel_rfl
      · exact ⟨_, ht 3, saysY [], true, [decide ((z.length : Int) > 200) = true, decide ((y.length : Int) > 200) = false, decide ((x.length : Int) > 200) = false, true = true], by kernel_rfl, ⟨decide_eq_true (by omega), decide_eq_false (by omega), decide_eq_false (by omega), rfl, trivial⟩, rfl⟩
    · exact ⟨_, ht 2, saysY [], true, [decide ((y.length : Int) > 200) = true, decide ((x.length : Int) > 200) = false, true = true], by kernel_rfl, ⟨decide_eq_true (by omega), decide_eq_false (by omega), rfl, trivial⟩, rfl⟩
  · exact ⟨_, ht 1, saysY [], true, [decide ((x.length : Int) > 200) = true, true = true], by kernel_rfl, ⟨decide_eq_true (by omega), rfl, trivial⟩, rfl⟩

noncomputable def tblFp2Signs (k : Nat) (Nm : List UInt8 → F2) (G2 : F2 → Int) (R : F2 → F2) (rG2 : F2 → Int) (L2 : F2 → Bool) (rL2 : F2 → Bool) (Z2 : F2 → Bool) (N2 : F2 → F2) : List (Row A) :=
  [rowOf A 101 (fun _ : Unit => true), light5Row k, rowOf A 103 (fun x : Bt × Unit => Nm x.1.l),
    rowOf A 104 (fun x : F2 × Unit => G2 x.1),
    rowOf A 105 (fun x : F2 × Unit => R x.1),
    rowOf A 106 (fun x : F2 × Unit => rG2 x.1),
    rowOf A 107 (fun x : F2 × Unit => L2 x.1),
    rowOf A 108 (fun x : F2 × Unit => rL2 x.1),
    rowOf A 109 (fun x : F2 × Unit => Z2 x.1),
    rowOf A 110 (fun x : F2 × Unit => N2 x.1)]

theorem fp2Signs_of (Nm : List UInt8 → F2) (G2 : F2 → Int) (R : F2 → F2) (rG2 : F2 → Int) (L2 : F2 → Bool) (rL2 : F2 → Bool) (Z2 : F2 → Bool) (N2 : F2 → F2) (ht : ∀ k, TblOK Try.prog (tblFp2Signs k Nm G2 R rG2 L2 rL2 Z2 N2))
    (H0 : ∀ (a : F2) (real : Bool) (turned : Bool), real = true → turned = true → L2 (0, a.1) = true → ((((G2 (0, a.1)) + (G2 (N2 (0, a.1))) == 1) = true) ∧ (WrapI ((G2 (0, a.1)) + (G2 (N2 (0, a.1))))) ∧ (L2 (N2 (0, a.1)) = false) ∧ (Z2 (0, a.1) = false) ∧ (rL2 (R (0, a.1)) = true) ∧ ((G2 (0, a.1) != rG2 (R (0, a.1))) = false) ∧ (true = true) ∧ True))
    (H1 : ∀ (a : F2) (real : Bool) (turned : Bool), real = true → turned = true → L2 (0, a.1) = false → Z2 (0, a.1) = true → (((G2 (0, a.1) == 0) = true) ∧ (rL2 (R (0, a.1)) = false) ∧ ((G2 (0, a.1) != rG2 (R (0, a.1))) = false) ∧ (true = true) ∧ True))
    (H2 : ∀ (a : F2) (real : Bool) (turned : Bool), real = true → turned = true → L2 (0, a.1) = false → Z2 (0, a.1) = false → ((((G2 (0, a.1)) + (G2 (N2 (0, a.1))) == 1) = true) ∧ (WrapI ((G2 (0, a.1)) + (G2 (N2 (0, a.1))))) ∧ (L2 (N2 (0, a.1)) = true) ∧ (rL2 (R (0, a.1)) = false) ∧ ((G2 (0, a.1) != rG2 (R (0, a.1))) = false) ∧ (true = true) ∧ True))
    (H3 : ∀ (a : F2) (real : Bool) (turned : Bool), real = true → turned = false → L2 (a.1, 0) = true → ((((G2 (a.1, 0)) + (G2 (N2 (a.1, 0))) == 1) = true) ∧ (WrapI ((G2 (a.1, 0)) + (G2 (N2 (a.1, 0))))) ∧ (L2 (N2 (a.1, 0)) = false) ∧ (Z2 (a.1, 0) = false) ∧ (rL2 (R (a.1, 0)) = true) ∧ ((G2 (a.1, 0) != rG2 (R (a.1, 0))) = false) ∧ (true = true) ∧ True))
    (H4 : ∀ (a : F2) (real : Bool) (turned : Bool), real = true → turned = false → L2 (a.1, 0) = false → Z2 (a.1, 0) = true → (((G2 (a.1, 0) == 0) = true) ∧ (rL2 (R (a.1, 0)) = false) ∧ ((G2 (a.1, 0) != rG2 (R (a.1, 0))) = false) ∧ (true = true) ∧ True))
    (H5 : ∀ (a : F2) (real : Bool) (turned : Bool), real = true → turned = false → L2 (a.1, 0) = false → Z2 (a.1, 0) = false → ((((G2 (a.1, 0)) + (G2 (N2 (a.1, 0))) == 1) = true) ∧ (WrapI ((G2 (a.1, 0)) + (G2 (N2 (a.1, 0))))) ∧ (L2 (N2 (a.1, 0)) = true) ∧ (rL2 (R (a.1, 0)) = false) ∧ ((G2 (a.1, 0) != rG2 (R (a.1, 0))) = false) ∧ (true = true) ∧ True))
    (H6 : ∀ (a : F2) (real : Bool) (turned : Bool), real = false → turned = true → L2 (a.2, a.1) = true → ((((G2 (a.2, a.1)) + (G2 (N2 (a.2, a.1))) == 1) = true) ∧ (WrapI ((G2 (a.2, a.1)) + (G2 (N2 (a.2, a.1))))) ∧ (L2 (N2 (a.2, a.1)) = false) ∧ (Z2 (a.2, a.1) = false) ∧ (rL2 (R (a.2, a.1)) = true) ∧ ((G2 (a.2, a.1) != rG2 (R (a.2, a.1))) = false) ∧ (true = true) ∧ True))
    (H7 : ∀ (a : F2) (real : Bool) (turned : Bool), real = false → turned = true → L2 (a.2, a.1) = false → Z2 (a.2, a.1) = true → (((G2 (a.2, a.1) == 0) = true) ∧ (rL2 (R (a.2, a.1)) = false) ∧ ((G2 (a.2, a.1) != rG2 (R (a.2, a.1))) = false) ∧ (true = true) ∧ True))
    (H8 : ∀ (a : F2) (real : Bool) (turned : Bool), real = false → turned = true → L2 (a.2, a.1) = false → Z2 (a.2, a.1) = false → ((((G2 (a.2, a.1)) + (G2 (N2 (a.2, a.1))) == 1) = true) ∧ (WrapI ((G2 (a.2, a.1)) + (G2 (N2 (a.2, a.1))))) ∧ (L2 (N2 (a.2, a.1)) = true) ∧ (rL2 (R (a.2, a.1)) = false) ∧ ((G2 (a.2, a.1) != rG2 (R (a.2, a.1))) = false) ∧ (true = true) ∧ True))
    (H9 : ∀ (a : F2) (real : Bool) (turned : Bool), real = false → turned = false → L2 a = true → ((((G2 a) + (G2 (N2 a)) == 1) = true) ∧ (WrapI ((G2 a) + (G2 (N2 a)))) ∧ (L2 (N2 a) = false) ∧ (Z2 a = false) ∧ (rL2 (R a) = true) ∧ ((G2 a != rG2 (R a)) = false) ∧ (true = true) ∧ True))
    (H10 : ∀ (a : F2) (real : Bool) (turned : Bool), real = false → turned = false → L2 a = false → Z2 a = true → (((G2 a == 0) = true) ∧ (rL2 (R a) = false) ∧ ((G2 a != rG2 (R a)) = false) ∧ (true = true) ∧ True))
    (H11 : ∀ (a : F2) (real : Bool) (turned : Bool), real = false → turned = false → L2 a = false → Z2 a = false → ((((G2 a) + (G2 (N2 a)) == 1) = true) ∧ (WrapI ((G2 a) + (G2 (N2 a)))) ∧ (L2 (N2 a) = true) ∧ (rL2 (R a) = false) ∧ ((G2 a != rG2 (R a)) = false) ∧ (true = true) ∧ True)) :
    Computes A Try.prog 16 (fun _ : Bs × Bool × Bool × Unit => true) := by
  refine computes_of_runT0 Try.func16 (by kernel_rfl) (by kernel_rfl) 8 ?_
  rintro ⟨g0, _, _, _⟩ ⟨⟨x⟩, real, turned, ⟨⟩⟩ W ⟨k0, _, _, _⟩
  have k0 : HasBytes W x g0 := k0
  by_cases hx : x.length ≤ 200
  · skip
    obtain ⟨a, ha'⟩ : ∃ a : F2, a = Nm (partB x 0 x.length) := ⟨_, rfl⟩
    refine ⟨_, ht 0, ?_⟩
    rcases Bool.eq_false_or_eq_true real with hc0 | hc0
    · skip
      rcases Bool.eq_false_or_eq_true turned with hc1 | hc1
      · skip
        cases hc2 : L2 (0, a.1) with
        | true =>
          obtain ⟨q0, q1, q2, q3, q4, q5, q6, -⟩ := H0 a real turned hc0 hc1 hc2
          refine ⟨saysY [(31, false), (41, false), (54, false)], true, [((G2 (0, a.1)) + (G2 (N2 (0, a.1))) == 1) = true, WrapI ((G2 (0, a.1)) + (G2 (N2 (0, a.1)))), L2 (N2 (0, a.1)) = false, L2 (0, a.1) = true, Z2 (0, a.1) = false, rL2 (R (0, a.1)) = true, L2 (0, a.1) = true, (G2 (0, a.1) != rG2 (R (0, a.1))) = false, turned = true, real = true, (partB x 0 x.length).length < 1048576, ReadB W g0 x, AllU8 x, decide ((x.length : Int) > 200) = false, true = true], ?_, ⟨q0, q1, q2, hc2, q3, q4, hc2, q5, hc1, hc0, shortL hx, readB k0, allU8 x, decide_eq_false (by omega), q6, trivial⟩, rfl⟩
          subst ha'
          kernel_rfl
        | false =>
          cases hc3 : Z2 (0, a.1) with
          | true =>
            obtain ⟨q0, q1, q2, q3, -⟩ := H1 a real turned hc0 hc1 hc2 hc3
            refine ⟨saysY [(31, false), (34, false), (37, false), (47, false)], true, [L2 (0, a.1) = false, (G2 (0, a.1) == 0) = true, Z2 (0, a.1) = true, rL2 (R (0, a.1)) = false, L2 (0, a.1) = false, (G2 (0, a.1) != rG2 (R (0, a.1))) = false, turned = true, real = true, (partB x 0 x.length).length < 1048576, ReadB W g0 x, AllU8 x, decide ((x.length : Int) > 200) = false, true = true], ?_, ⟨hc2, q0, hc3, q1, hc2, q2, hc1, hc0, shortL hx, readB k0, allU8 x, decide_eq_false (by omega), q3, trivial⟩, rfl⟩
            subst ha'
            kernel_rfl
          | false =>
            obtain ⟨q0, q1, q2, q3, q4, q5, -⟩ := H2 a real turned hc0 hc1 hc2 hc3
            refine ⟨saysY [(31, false), (34, false), (37, false), (41, false), (51, false)], true, [((G2 (0, a.1)) + (G2 (N2 (0, a.1))) == 1) = true, WrapI ((G2 (0, a.1)) + (G2 (N2 (0, a.1)))), L2 (N2 (0, a.1)) = true, L2 (0, a.1) = false, Z2 (0, a.1) = false, rL2 (R (0, a.1)) = false, L2 (0, a.1) = false, (G2 (0, a.1) != rG2 (R (0, a.1))) = false, turned = true, real = true, (partB x 0 x.length).length < 1048576, ReadB W g0 x, AllU8 x, decide ((x.length : Int) > 200) = false, true = true], ?_, ⟨q0, q1, q2, hc2, hc3, q3, hc2, q4, hc1, hc0, shortL hx, readB k0, allU8 x, decide_eq_false (by omega), q5, trivial⟩, rfl⟩
            subst ha'
            kernel_rfl
      · skip
        cases hc2 : L2 (a.1, 0) with
        | true =>
          obtain ⟨q0, q1, q2, q3, q4, q5, q6, -⟩ := H3 a real turned hc0 hc1 hc2
          refine ⟨saysY [(19, false), (31, false), (41, false), (54, false)], true, [((G2 (a.1, 0)) + (G2 (N2 (a.1, 0))) == 1) = true, WrapI ((G2 (a.1, 0)) + (G2 (N2 (a.1, 0)))), L2 (N2 (a.1, 0)) = false, L2 (a.1, 0) = true, Z2 (a.1, 0) = false, rL2 (R (a.1, 0)) = true, L2 (a.1, 0) = true, (G2 (a.1, 0) != rG2 (R (a.1, 0))) = false, turned = false, real = true, (partB x 0 x.length).length < 1048576, ReadB W g0 x, AllU8 x, decide ((x.length : Int) > 200) = false, true = true], ?_, ⟨q0, q1, q2, hc2, q3, q4, hc2, q5, hc1, hc0, shortL hx, readB k0, allU8 x, decide_eq_false (by omega), q6, trivial⟩, rfl⟩
          subst ha'
          kernel_rfl
        | false =>
          cases hc3 : Z2 (a.1, 0) with
          | true =>
            obtain ⟨q0, q1, q2, q3, -⟩ := H4 a real turned hc0 hc1 hc2 hc3
            refine ⟨saysY [(19, false), (31, false), (34, false), (37, false), (47, false)], true, [L2 (a.1, 0) = false, (G2 (a.1, 0) == 0) = true, Z2 (a.1, 0) = true, rL2 (R (a.1, 0)) = false, L2 (a.1, 0) = false, (G2 (a.1, 0) != rG2 (R (a.1, 0))) = false, turned = false, real = true, (partB x 0 x.length).length < 1048576, ReadB W g0 x, AllU8 x, decide ((x.length : Int) > 200) = false, true = true], ?_, ⟨hc2, q0, hc3, q1, hc2, q2, hc1, hc0, shortL hx, readB k0, allU8 x, decide_eq_false (by omega), q3, trivial⟩, rfl⟩
            subst ha'
            kernel_rfl
          | false =>
            obtain ⟨q0, q1, q2, q3, q4, q5, -⟩ := H5 a real turned hc0 hc1 hc2 hc3
            refine ⟨saysY [(19, false), (31, false), (34, false), (37, false), (41, false), (51, false)], true, [((G2 (a.1, 0)) + (G2 (N2 (a.1, 0))) == 1) = true, WrapI ((G2 (a.1, 0)) + (G2 (N2 (a.1, 0)))), L2 (N2 (a.1, 0)) = true, L2 (a.1, 0) = false, Z2 (a.1, 0) = false, rL2 (R (a.1, 0)) = false, L2 (a.1, 0) = false, (G2 (a.1, 0) != rG2 (R (a.1, 0))) = false, turned = false, real = true, (partB x 0 x.length).length < 1048576, ReadB W g0 x, AllU8 x, decide ((x.length : Int) > 200) = false, true = true], ?_, ⟨q0, q1, q2, hc2, hc3, q3, hc2, q4, hc1, hc0, shortL hx, readB k0, allU8 x, decide_eq_false (by omega), q5, trivial⟩, rfl⟩
            subst ha'
            kernel_rfl
    · skip
      rcases Bool.eq_false_or_eq_true turned with hc1 | hc1
      · skip
        cases hc2 : L2 (a.2, a.1) with
        | true =>
          obtain ⟨q0, q1, q2, q3, q4, q5, q6, -⟩ := H6 a real turned hc0 hc1 hc2
          refine ⟨saysY [(16, false), (31, false), (41, false), (54, false)], true, [((G2 (a.2, a.1)) + (G2 (N2 (a.2, a.1))) == 1) = true, WrapI ((G2 (a.2, a.1)) + (G2 (N2 (a.2, a.1)))), L2 (N2 (a.2, a.1)) = false, L2 (a.2, a.1) = true, Z2 (a.2, a.1) = false, rL2 (R (a.2, a.1)) = true, L2 (a.2, a.1) = true, (G2 (a.2, a.1) != rG2 (R (a.2, a.1))) = false, turned = true, real = false, (partB x 0 x.length).length < 1048576, ReadB W g0 x, AllU8 x, decide ((x.length : Int) > 200) = false, true = true], ?_, ⟨q0, q1, q2, hc2, q3, q4, hc2, q5, hc1, hc0, shortL hx, readB k0, allU8 x, decide_eq_false (by omega), q6, trivial⟩, rfl⟩
          subst ha'
          kernel_rfl
        | false =>
          cases hc3 : Z2 (a.2, a.1) with
          | true =>
            obtain ⟨q0, q1, q2, q3, -⟩ := H7 a real turned hc0 hc1 hc2 hc3
            refine ⟨saysY [(16, false), (31, false), (34, false), (37, false), (47, false)], true, [L2 (a.2, a.1) = false, (G2 (a.2, a.1) == 0) = true, Z2 (a.2, a.1) = true, rL2 (R (a.2, a.1)) = false, L2 (a.2, a.1) = false, (G2 (a.2, a.1) != rG2 (R (a.2, a.1))) = false, turned = true, real = false, (partB x 0 x.length).length < 1048576, ReadB W g0 x, AllU8 x, decide ((x.length : Int) > 200) = false, true = true], ?_, ⟨hc2, q0, hc3, q1, hc2, q2, hc1, hc0, shortL hx, readB k0, allU8 x, decide_eq_false (by omega), q3, trivial⟩, rfl⟩
            subst ha'
            kernel_rfl
          | false =>
            obtain ⟨q0, q1, q2, q3, q4, q5, -⟩ := H8 a real turned hc0 hc1 hc2 hc3
            refine ⟨saysY [(16, false), (31, false), (34, false), (37, false), (41, false), (51, false)], true, [((G2 (a.2, a.1)) + (G2 (N2 (a.2, a.1))) == 1) = true, WrapI ((G2 (a.2, a.1)) + (G2 (N2 (a.2, a.1)))), L2 (N2 (a.2, a.1)) = true, L2 (a.2, a.1) = false, Z2 (a.2, a.1) = false, rL2 (R (a.2, a.1)) = false, L2 (a.2, a.1) = false, (G2 (a.2, a.1) != rG2 (R (a.2, a.1))) = false, turned = true, real = false, (partB x 0 x.length).length < 1048576, ReadB W g0 x, AllU8 x, decide ((x.length : Int) > 200) = false, true = true], ?_, ⟨q0, q1, q2, hc2, hc3, q3, hc2, q4, hc1, hc0, shortL hx, readB k0, allU8 x, decide_eq_false (by omega), q5, trivial⟩, rfl⟩
            subst ha'
            kernel_rfl
      · skip
        cases hc2 : L2 a with
        | true =>
          obtain ⟨q0, q1, q2, q3, q4, q5, q6, -⟩ := H9 a real turned hc0 hc1 hc2
          refine ⟨saysY [(16, false), (19, false), (31, false), (41, false), (54, false)], true, [((G2 a) + (G2 (N2 a)) == 1) = true, WrapI ((G2 a) + (G2 (N2 a))), L2 (N2 a) = false, L2 a = true, Z2 a = false, rL2 (R a) = true, L2 a = true, (G2 a != rG2 (R a)) = false, turned = false, real = false, (partB x 0 x.length).length < 1048576, ReadB W g0 x, AllU8 x, decide ((x.length : Int) > 200) = false, true = true], ?_, ⟨q0, q1, q2, hc2, q3, q4, hc2, q5, hc1, hc0, shortL hx, readB k0, allU8 x, decide_eq_false (by omega), q6, trivial⟩, rfl⟩
          subst ha'
          kernel_rfl
        | false =>
          cases hc3 : Z2 a with
          | true =>
            obtain ⟨q0, q1, q2, q3, -⟩ := H10 a real turned hc0 hc1 hc2 hc3
            refine ⟨saysY [(16, false), (19, false), (31, false), (34, false), (37, false), (47, false)], true, [L2 a = false, (G2 a == 0) = true, Z2 a = true, rL2 (R a) = false, L2 a = false, (G2 a != rG2 (R a)) = false, turned = false, real = false, (partB x 0 x.length).length < 1048576, ReadB W g0 x, AllU8 x, decide ((x.length : Int) > 200) = false, true = true], ?_, ⟨hc2, q0, hc3, q1, hc2, q2, hc1, hc0, shortL hx, readB k0, allU8 x, decide_eq_false (by omega), q3, trivial⟩, rfl⟩
            subst ha'
            kernel_rfl
          | false =>
            obtain ⟨q0, q1, q2, q3, q4, q5, -⟩ := H11 a real turned hc0 hc1 hc2 hc3
            refine ⟨saysY [(16, false), (19, false), (31, false), (34, false), (37, false), (41, false), (51, false)], true, [((G2 a) + (G2 (N2 a)) == 1) = true, WrapI ((G2 a) + (G2 (N2 a))), L2 (N2 a) = true, L2 a = false, Z2 a = false, rL2 (R a) = false, L2 a = false, (G2 a != rG2 (R a)) = false, turned = false, real = false, (partB x 0 x.length).length < 1048576, ReadB W g0 x, AllU8 x, decide ((x.length : Int) > 200) = false, true = true], ?_, ⟨q0, q1, q2, hc2, hc3, q3, hc2, q4, hc1, hc0, shortL hx, readB k0, allU8 x, decide_eq_false (by omega), q5, trivial⟩, rfl⟩
            subst ha'
            kernel_rfl
  · exact ⟨_, ht 1, saysY [], true, [decide ((x.length : Int) > 200) = true, true = true], by kernel_rfl, ⟨decide_eq_true (by omega), rfl, trivial⟩, rfl⟩

noncomputable def tblFp2Roots (k : Nat) (Nm : List UInt8 → F2) (W2 : F2 → T2 F2 Bool) (R : F2 → F2) (rW2 : F2 → T2 F2 Bool) (Sm : F2 → F2 → Bool) (K2 : F2 → Bool) (Q2 : F2 → F2) (E2 : F2 → F2 → Bool) (L2 : F2 → Bool) (N2 : F2 → F2) : List (Row A) :=
  [rowOf A 101 (fun _ : Unit => true), light5Row k, rowOf A 103 (fun x : Bt × Unit => Nm x.1.l),
    rowOf A 134 (fun x : F2 × Unit => W2 x.1),
    rowOf A 105 (fun x : F2 × Unit => R x.1),
    rowOf A 135 (fun x : F2 × Unit => rW2 x.1),
    rowOf A 118 (fun x : F2 × F2 × Unit => Sm x.1 x.2.1),
    rowOf A 114 (fun x : F2 × Unit => K2 x.1),
    rowOf A 125 (fun x : F2 × Unit => Q2 x.1),
    rowOf A 113 (fun x : F2 × F2 × Unit => E2 x.1 x.2.1),
    rowOf A 107 (fun x : F2 × Unit => L2 x.1),
    rowOf A 110 (fun x : F2 × Unit => N2 x.1)]

theorem fp2Roots_of (Nm : List UInt8 → F2) (W2 : F2 → T2 F2 Bool) (R : F2 → F2) (rW2 : F2 → T2 F2 Bool) (Sm : F2 → F2 → Bool) (K2 : F2 → Bool) (Q2 : F2 → F2) (E2 : F2 → F2 → Bool) (L2 : F2 → Bool) (N2 : F2 → F2) (ht : ∀ k, TblOK Try.prog (tblFp2Roots k Nm W2 R rW2 Sm K2 Q2 E2 L2 N2))
    (H0 : ∀ (a : F2) (real : Bool) (turned : Bool), real = true → turned = true → (W2 (0, a.1)).b = true → E2 ((W2 (Q2 (0, a.1))).a) (0, a.1) = true → ((K2 (Q2 (0, a.1)) = true) ∧ ((W2 (Q2 (0, a.1))).b = true) ∧ (L2 ((W2 (0, a.1)).a) = false) ∧ (E2 (Q2 ((W2 (0, a.1)).a)) (0, a.1) = true) ∧ (K2 (0, a.1) = true) ∧ (Sm ((W2 (0, a.1)).a) ((rW2 (R (0, a.1))).a) = true) ∧ ((rW2 (R (0, a.1))).b = true) ∧ (true = true) ∧ True))
    (H1 : ∀ (a : F2) (real : Bool) (turned : Bool), real = true → turned = true → (W2 (0, a.1)).b = true → E2 ((W2 (Q2 (0, a.1))).a) (0, a.1) = false → ((K2 (Q2 (0, a.1)) = true) ∧ (E2 ((W2 (Q2 (0, a.1))).a) (N2 (0, a.1)) = true) ∧ ((W2 (Q2 (0, a.1))).b = true) ∧ (L2 ((W2 (0, a.1)).a) = false) ∧ (E2 (Q2 ((W2 (0, a.1)).a)) (0, a.1) = true) ∧ (K2 (0, a.1) = true) ∧ (Sm ((W2 (0, a.1)).a) ((rW2 (R (0, a.1))).a) = true) ∧ ((rW2 (R (0, a.1))).b = true) ∧ (true = true) ∧ True))
    (H2 : ∀ (a : F2) (real : Bool) (turned : Bool), real = true → turned = true → (W2 (0, a.1)).b = false → E2 ((W2 (Q2 (0, a.1))).a) (0, a.1) = true → ((K2 (Q2 (0, a.1)) = true) ∧ ((W2 (Q2 (0, a.1))).b = true) ∧ (K2 (0, a.1) = false) ∧ (Sm ((W2 (0, a.1)).a) ((rW2 (R (0, a.1))).a) = true) ∧ ((rW2 (R (0, a.1))).b = false) ∧ (true = true) ∧ True))
    (H3 : ∀ (a : F2) (real : Bool) (turned : Bool), real = true → turned = true → (W2 (0, a.1)).b = false → E2 ((W2 (Q2 (0, a.1))).a) (0, a.1) = false → ((K2 (Q2 (0, a.1)) = true) ∧ (E2 ((W2 (Q2 (0, a.1))).a) (N2 (0, a.1)) = true) ∧ ((W2 (Q2 (0, a.1))).b = true) ∧ (K2 (0, a.1) = false) ∧ (Sm ((W2 (0, a.1)).a) ((rW2 (R (0, a.1))).a) = true) ∧ ((rW2 (R (0, a.1))).b = false) ∧ (true = true) ∧ True))
    (H4 : ∀ (a : F2) (real : Bool) (turned : Bool), real = true → turned = false → (W2 (a.1, 0)).b = true → E2 ((W2 (Q2 (a.1, 0))).a) (a.1, 0) = true → ((K2 (Q2 (a.1, 0)) = true) ∧ ((W2 (Q2 (a.1, 0))).b = true) ∧ (L2 ((W2 (a.1, 0)).a) = false) ∧ (E2 (Q2 ((W2 (a.1, 0)).a)) (a.1, 0) = true) ∧ (K2 (a.1, 0) = true) ∧ (Sm ((W2 (a.1, 0)).a) ((rW2 (R (a.1, 0))).a) = true) ∧ ((rW2 (R (a.1, 0))).b = true) ∧ (true = true) ∧ True))
    (H5 : ∀ (a : F2) (real : Bool) (turned : Bool), real = true → turned = false → (W2 (a.1, 0)).b = true → E2 ((W2 (Q2 (a.1, 0))).a) (a.1, 0) = false → ((K2 (Q2 (a.1, 0)) = true) ∧ (E2 ((W2 (Q2 (a.1, 0))).a) (N2 (a.1, 0)) = true) ∧ ((W2 (Q2 (a.1, 0))).b = true) ∧ (L2 ((W2 (a.1, 0)).a) = false) ∧ (E2 (Q2 ((W2 (a.1, 0)).a)) (a.1, 0) = true) ∧ (K2 (a.1, 0) = true) ∧ (Sm ((W2 (a.1, 0)).a) ((rW2 (R (a.1, 0))).a) = true) ∧ ((rW2 (R (a.1, 0))).b = true) ∧ (true = true) ∧ True))
    (H6 : ∀ (a : F2) (real : Bool) (turned : Bool), real = true → turned = false → (W2 (a.1, 0)).b = false → E2 ((W2 (Q2 (a.1, 0))).a) (a.1, 0) = true → ((K2 (Q2 (a.1, 0)) = true) ∧ ((W2 (Q2 (a.1, 0))).b = true) ∧ (K2 (a.1, 0) = false) ∧ (Sm ((W2 (a.1, 0)).a) ((rW2 (R (a.1, 0))).a) = true) ∧ ((rW2 (R (a.1, 0))).b = false) ∧ (true = true) ∧ True))
    (H7 : ∀ (a : F2) (real : Bool) (turned : Bool), real = true → turned = false → (W2 (a.1, 0)).b = false → E2 ((W2 (Q2 (a.1, 0))).a) (a.1, 0) = false → ((K2 (Q2 (a.1, 0)) = true) ∧ (E2 ((W2 (Q2 (a.1, 0))).a) (N2 (a.1, 0)) = true) ∧ ((W2 (Q2 (a.1, 0))).b = true) ∧ (K2 (a.1, 0) = false) ∧ (Sm ((W2 (a.1, 0)).a) ((rW2 (R (a.1, 0))).a) = true) ∧ ((rW2 (R (a.1, 0))).b = false) ∧ (true = true) ∧ True))
    (H8 : ∀ (a : F2) (real : Bool) (turned : Bool), real = false → turned = true → (W2 (a.2, a.1)).b = true → E2 ((W2 (Q2 (a.2, a.1))).a) (a.2, a.1) = true → ((K2 (Q2 (a.2, a.1)) = true) ∧ ((W2 (Q2 (a.2, a.1))).b = true) ∧ (L2 ((W2 (a.2, a.1)).a) = false) ∧ (E2 (Q2 ((W2 (a.2, a.1)).a)) (a.2, a.1) = true) ∧ (K2 (a.2, a.1) = true) ∧ (Sm ((W2 (a.2, a.1)).a) ((rW2 (R (a.2, a.1))).a) = true) ∧ ((rW2 (R (a.2, a.1))).b = true) ∧ (true = true) ∧ True))
    (H9 : ∀ (a : F2) (real : Bool) (turned : Bool), real = false → turned = true → (W2 (a.2, a.1)).b = true → E2 ((W2 (Q2 (a.2, a.1))).a) (a.2, a.1) = false → ((K2 (Q2 (a.2, a.1)) = true) ∧ (E2 ((W2 (Q2 (a.2, a.1))).a) (N2 (a.2, a.1)) = true) ∧ ((W2 (Q2 (a.2, a.1))).b = true) ∧ (L2 ((W2 (a.2, a.1)).a) = false) ∧ (E2 (Q2 ((W2 (a.2, a.1)).a)) (a.2, a.1) = true) ∧ (K2 (a.2, a.1) = true) ∧ (Sm ((W2 (a.2, a.1)).a) ((rW2 (R (a.2, a.1))).a) = true) ∧ ((rW2 (R (a.2, a.1))).b = true) ∧ (true = true) ∧ True))
    (H10 : ∀ (a : F2) (real : Bool) (turned : Bool), real = false → turned = true → (W2 (a.2, a.1)).b = false → E2 ((W2 (Q2 (a.2, a.1))).a) (a.2, a.1) = true → ((K2 (Q2 (a.2, a.1)) = true) ∧ ((W2 (Q2 (a.2, a.1))).b = true) ∧ (K2 (a.2, a.1) = false) ∧ (Sm ((W2 (a.2, a.1)).a) ((rW2 (R (a.2, a.1))).a) = true) ∧ ((rW2 (R (a.2, a.1))).b = false) ∧ (true = true) ∧ True))
    (H11 : ∀ (a : F2) (real : Bool) (turned : Bool), real = false → turned = true → (W2 (a.2, a.1)).b = false → E2 ((W2 (Q2 (a.2, a.1))).a) (a.2, a.1) = false → ((K2 (Q2 (a.2, a.1)) = true) ∧ (E2 ((W2 (Q2 (a.2, a.1))).a) (N2 (a.2, a.1)) = true) ∧ ((W2 (Q2 (a.2, a.1))).b = true) ∧ (K2 (a.2, a.1) = false) ∧ (Sm ((W2 (a.2, a.1)).a) ((rW2 (R (a.2, a.1))).a) = true) ∧ ((rW2 (R (a.2, a.1))).b = false) ∧ (true = true) ∧ True))
    (H12 : ∀ (a : F2) (real : Bool) (turned : Bool), real = false → turned = false → (W2 a).b = true → E2 ((W2 (Q2 a)).a) a = true → ((K2 (Q2 a) = true) ∧ ((W2 (Q2 a)).b = true) ∧ (L2 ((W2 a).a) = false) ∧ (E2 (Q2 ((W2 a).a)) a = true) ∧ (K2 a = true) ∧ (Sm ((W2 a).a) ((rW2 (R a)).a) = true) ∧ ((rW2 (R a)).b = true) ∧ (true = true) ∧ True))
    (H13 : ∀ (a : F2) (real : Bool) (turned : Bool), real = false → turned = false → (W2 a).b = true → E2 ((W2 (Q2 a)).a) a = false → ((K2 (Q2 a) = true) ∧ (E2 ((W2 (Q2 a)).a) (N2 a) = true) ∧ ((W2 (Q2 a)).b = true) ∧ (L2 ((W2 a).a) = false) ∧ (E2 (Q2 ((W2 a).a)) a = true) ∧ (K2 a = true) ∧ (Sm ((W2 a).a) ((rW2 (R a)).a) = true) ∧ ((rW2 (R a)).b = true) ∧ (true = true) ∧ True))
    (H14 : ∀ (a : F2) (real : Bool) (turned : Bool), real = false → turned = false → (W2 a).b = false → E2 ((W2 (Q2 a)).a) a = true → ((K2 (Q2 a) = true) ∧ ((W2 (Q2 a)).b = true) ∧ (K2 a = false) ∧ (Sm ((W2 a).a) ((rW2 (R a)).a) = true) ∧ ((rW2 (R a)).b = false) ∧ (true = true) ∧ True))
    (H15 : ∀ (a : F2) (real : Bool) (turned : Bool), real = false → turned = false → (W2 a).b = false → E2 ((W2 (Q2 a)).a) a = false → ((K2 (Q2 a) = true) ∧ (E2 ((W2 (Q2 a)).a) (N2 a) = true) ∧ ((W2 (Q2 a)).b = true) ∧ (K2 a = false) ∧ (Sm ((W2 a).a) ((rW2 (R a)).a) = true) ∧ ((rW2 (R a)).b = false) ∧ (true = true) ∧ True)) :
    Computes A Try.prog 20 (fun _ : Bs × Bool × Bool × Unit => true) := by
  refine computes_of_runT0 Try.func20 (by kernel_rfl) (by kernel_rfl) 8 ?_
  rintro ⟨g0, _, _, _⟩ ⟨⟨x⟩, real, turned, ⟨⟩⟩ W ⟨k0, _, _, _⟩
  have k0 : HasBytes W x g0 := k0
  by_cases hx : x.length ≤ 200
  · skip
    obtain ⟨a, ha'⟩ : ∃ a : F2, a = Nm (partB x 0 x.length) := ⟨_, rfl⟩
    refine ⟨_, ht 0, ?_⟩
    rcases Bool.eq_false_or_eq_true real with hc0 | hc0
    · skip
      rcases Bool.eq_false_or_eq_true turned with hc1 | hc1
      · skip
        cases hc2 : (W2 (0, a.1)).b with
        | true =>
          cases hc3 : E2 ((W2 (Q2 (0, a.1))).a) (0, a.1) with
          | true =>
            obtain ⟨q0, q1, q2, q3, q4, q5, q6, q7, -⟩ := H0 a real turned hc0 hc1 hc2 hc3
            refine ⟨saysY [(68, false)], true, [K2 (Q2 (0, a.1)) = true, E2 ((W2 (Q2 (0, a.1))).a) (0, a.1) = true, (W2 (Q2 (0, a.1))).b = true, L2 ((W2 (0, a.1)).a) = false, E2 (Q2 ((W2 (0, a.1)).a)) (0, a.1) = true, K2 (0, a.1) = true, Sm ((W2 (0, a.1)).a) ((rW2 (R (0, a.1))).a) = true, (rW2 (R (0, a.1))).b = true, (W2 (0, a.1)).b = true, turned = true, real = true, (partB x 0 x.length).length < 1048576, ReadB W g0 x, AllU8 x, decide ((x.length : Int) > 200) = false, true = true], ?_, ⟨q0, hc3, q1, q2, q3, q4, q5, q6, hc2, hc1, hc0, shortL hx, readB k0, allU8 x, decide_eq_false (by omega), q7, trivial⟩, rfl⟩
            subst ha'
            kernel_rfl
          | false =>
            obtain ⟨q0, q1, q2, q3, q4, q5, q6, q7, q8, -⟩ := H1 a real turned hc0 hc1 hc2 hc3
            refine ⟨saysY [(68, false), (82, false)], true, [K2 (Q2 (0, a.1)) = true, E2 ((W2 (Q2 (0, a.1))).a) (N2 (0, a.1)) = true, E2 ((W2 (Q2 (0, a.1))).a) (0, a.1) = false, (W2 (Q2 (0, a.1))).b = true, L2 ((W2 (0, a.1)).a) = false, E2 (Q2 ((W2 (0, a.1)).a)) (0, a.1) = true, K2 (0, a.1) = true, Sm ((W2 (0, a.1)).a) ((rW2 (R (0, a.1))).a) = true, (rW2 (R (0, a.1))).b = true, (W2 (0, a.1)).b = true, turned = true, real = true, (partB x 0 x.length).length < 1048576, ReadB W g0 x, AllU8 x, decide ((x.length : Int) > 200) = false, true = true], ?_, ⟨q0, q1, hc3, q2, q3, q4, q5, q6, q7, hc2, hc1, hc0, shortL hx, readB k0, allU8 x, decide_eq_false (by omega), q8, trivial⟩, rfl⟩
            subst ha'
            kernel_rfl
        | false =>
          cases hc3 : E2 ((W2 (Q2 (0, a.1))).a) (0, a.1) with
          | true =>
            obtain ⟨q0, q1, q2, q3, q4, q5, -⟩ := H2 a real turned hc0 hc1 hc2 hc3
            refine ⟨saysY [(36, false), (42, false), (54, false)], true, [K2 (Q2 (0, a.1)) = true, E2 ((W2 (Q2 (0, a.1))).a) (0, a.1) = true, (W2 (Q2 (0, a.1))).b = true, K2 (0, a.1) = false, Sm ((W2 (0, a.1)).a) ((rW2 (R (0, a.1))).a) = true, (rW2 (R (0, a.1))).b = false, (W2 (0, a.1)).b = false, turned = true, real = true, (partB x 0 x.length).length < 1048576, ReadB W g0 x, AllU8 x, decide ((x.length : Int) > 200) = false, true = true], ?_, ⟨q0, hc3, q1, q2, q3, q4, hc2, hc1, hc0, shortL hx, readB k0, allU8 x, decide_eq_false (by omega), q5, trivial⟩, rfl⟩
            subst ha'
            kernel_rfl
          | false =>
            obtain ⟨q0, q1, q2, q3, q4, q5, q6, -⟩ := H3 a real turned hc0 hc1 hc2 hc3
            refine ⟨saysY [(36, false), (42, false), (54, false), (82, false)], true, [K2 (Q2 (0, a.1)) = true, E2 ((W2 (Q2 (0, a.1))).a) (N2 (0, a.1)) = true, E2 ((W2 (Q2 (0, a.1))).a) (0, a.1) = false, (W2 (Q2 (0, a.1))).b = true, K2 (0, a.1) = false, Sm ((W2 (0, a.1)).a) ((rW2 (R (0, a.1))).a) = true, (rW2 (R (0, a.1))).b = false, (W2 (0, a.1)).b = false, turned = true, real = true, (partB x 0 x.length).length < 1048576, ReadB W g0 x, AllU8 x, decide ((x.length : Int) > 200) = false, true = true], ?_, ⟨q0, q1, hc3, q2, q3, q4, q5, hc2, hc1, hc0, shortL hx, readB k0, allU8 x, decide_eq_false (by omega), q6, trivial⟩, rfl⟩
            subst ha'
            kernel_rfl
      · skip
        cases hc2 : (W2 (a.1, 0)).b with
        | true =>
          cases hc3 : E2 ((W2 (Q2 (a.1, 0))).a) (a.1, 0) with
          | true =>
            obtain ⟨q0, q1, q2, q3, q4, q5, q6, q7, -⟩ := H4 a real turned hc0 hc1 hc2 hc3
            refine ⟨saysY [(25, false), (68, false)], true, [K2 (Q2 (a.1, 0)) = true, E2 ((W2 (Q2 (a.1, 0))).a) (a.1, 0) = true, (W2 (Q2 (a.1, 0))).b = true, L2 ((W2 (a.1, 0)).a) = false, E2 (Q2 ((W2 (a.1, 0)).a)) (a.1, 0) = true, K2 (a.1, 0) = true, Sm ((W2 (a.1, 0)).a) ((rW2 (R (a.1, 0))).a) = true, (rW2 (R (a.1, 0))).b = true, (W2 (a.1, 0)).b = true, turned = false, real = true, (partB x 0 x.length).length < 1048576, ReadB W g0 x, AllU8 x, decide ((x.length : Int) > 200) = false, true = true], ?_, ⟨q0, hc3, q1, q2, q3, q4, q5, q6, hc2, hc1, hc0, shortL hx, readB k0, allU8 x, decide_eq_false (by omega), q7, trivial⟩, rfl⟩
            subst ha'
            kernel_rfl
          | false =>
            obtain ⟨q0, q1, q2, q3, q4, q5, q6, q7, q8, -⟩ := H5 a real turned hc0 hc1 hc2 hc3
            refine ⟨saysY [(25, false), (68, false), (82, false)], true, [K2 (Q2 (a.1, 0)) = true, E2 ((W2 (Q2 (a.1, 0))).a) (N2 (a.1, 0)) = true, E2 ((W2 (Q2 (a.1, 0))).a) (a.1, 0) = false, (W2 (Q2 (a.1, 0))).b = true, L2 ((W2 (a.1, 0)).a) = false, E2 (Q2 ((W2 (a.1, 0)).a)) (a.1, 0) = true, K2 (a.1, 0) = true, Sm ((W2 (a.1, 0)).a) ((rW2 (R (a.1, 0))).a) = true, (rW2 (R (a.1, 0))).b = true, (W2 (a.1, 0)).b = true, turned = false, real = true, (partB x 0 x.length).length < 1048576, ReadB W g0 x, AllU8 x, decide ((x.length : Int) > 200) = false, true = true], ?_, ⟨q0, q1, hc3, q2, q3, q4, q5, q6, q7, hc2, hc1, hc0, shortL hx, readB k0, allU8 x, decide_eq_false (by omega), q8, trivial⟩, rfl⟩
            subst ha'
            kernel_rfl
        | false =>
          cases hc3 : E2 ((W2 (Q2 (a.1, 0))).a) (a.1, 0) with
          | true =>
            obtain ⟨q0, q1, q2, q3, q4, q5, -⟩ := H6 a real turned hc0 hc1 hc2 hc3
            refine ⟨saysY [(25, false), (36, false), (42, false), (54, false)], true, [K2 (Q2 (a.1, 0)) = true, E2 ((W2 (Q2 (a.1, 0))).a) (a.1, 0) = true, (W2 (Q2 (a.1, 0))).b = true, K2 (a.1, 0) = false, Sm ((W2 (a.1, 0)).a) ((rW2 (R (a.1, 0))).a) = true, (rW2 (R (a.1, 0))).b = false, (W2 (a.1, 0)).b = false, turned = false, real = true, (partB x 0 x.length).length < 1048576, ReadB W g0 x, AllU8 x, decide ((x.length : Int) > 200) = false, true = true], ?_, ⟨q0, hc3, q1, q2, q3, q4, hc2, hc1, hc0, shortL hx, readB k0, allU8 x, decide_eq_false (by omega), q5, trivial⟩, rfl⟩
            subst ha'
            kernel_rfl
          | false =>
            obtain ⟨q0, q1, q2, q3, q4, q5, q6, -⟩ := H7 a real turned hc0 hc1 hc2 hc3
            refine ⟨saysY [(25, false), (36, false), (42, false), (54, false), (82, false)], true, [K2 (Q2 (a.1, 0)) = true, E2 ((W2 (Q2 (a.1, 0))).a) (N2 (a.1, 0)) = true, E2 ((W2 (Q2 (a.1, 0))).a) (a.1, 0) = false, (W2 (Q2 (a.1, 0))).b = true, K2 (a.1, 0) = false, Sm ((W2 (a.1, 0)).a) ((rW2 (R (a.1, 0))).a) = true, (rW2 (R (a.1, 0))).b = false, (W2 (a.1, 0)).b = false, turned = false, real = true, (partB x 0 x.length).length < 1048576, ReadB W g0 x, AllU8 x, decide ((x.length : Int) > 200) = false, true = true], ?_, ⟨q0, q1, hc3, q2, q3, q4, q5, hc2, hc1, hc0, shortL hx, readB k0, allU8 x, decide_eq_false (by omega), q6, trivial⟩, rfl⟩
            subst ha'
            kernel_rfl
    · skip
      rcases Bool.eq_false_or_eq_true turned with hc1 | hc1
      · skip
        cases hc2 : (W2 (a.2, a.1)).b with
        | true =>
          cases hc3 : E2 ((W2 (Q2 (a.2, a.1))).a) (a.2, a.1) with
          | true =>
            obtain ⟨q0, q1, q2, q3, q4, q5, q6, q7, -⟩ := H8 a real turned hc0 hc1 hc2 hc3
            refine ⟨saysY [(22, false), (68, false)], true, [K2 (Q2 (a.2, a.1)) = true, E2 ((W2 (Q2 (a.2, a.1))).a) (a.2, a.1) = true, (W2 (Q2 (a.2, a.1))).b = true, L2 ((W2 (a.2, a.1)).a) = false, E2 (Q2 ((W2 (a.2, a.1)).a)) (a.2, a.1) = true, K2 (a.2, a.1) = true, Sm ((W2 (a.2, a.1)).a) ((rW2 (R (a.2, a.1))).a) = true, (rW2 (R (a.2, a.1))).b = true, (W2 (a.2, a.1)).b = true, turned = true, real = false, (partB x 0 x.length).length < 1048576, ReadB W g0 x, AllU8 x, decide ((x.length : Int) > 200) = false, true = true], ?_, ⟨q0, hc3, q1, q2, q3, q4, q5, q6, hc2, hc1, hc0, shortL hx, readB k0, allU8 x, decide_eq_false (by omega), q7, trivial⟩, rfl⟩
            subst ha'
            kernel_rfl
          | false =>
            obtain ⟨q0, q1, q2, q3, q4, q5, q6, q7, q8, -⟩ := H9 a real turned hc0 hc1 hc2 hc3
            refine ⟨saysY [(22, false), (68, false), (82, false)], true, [K2 (Q2 (a.2, a.1)) = true, E2 ((W2 (Q2 (a.2, a.1))).a) (N2 (a.2, a.1)) = true, E2 ((W2 (Q2 (a.2, a.1))).a) (a.2, a.1) = false, (W2 (Q2 (a.2, a.1))).b = true, L2 ((W2 (a.2, a.1)).a) = false, E2 (Q2 ((W2 (a.2, a.1)).a)) (a.2, a.1) = true, K2 (a.2, a.1) = true, Sm ((W2 (a.2, a.1)).a) ((rW2 (R (a.2, a.1))).a) = true, (rW2 (R (a.2, a.1))).b = true, (W2 (a.2, a.1)).b = true, turned = true, real = false, (partB x 0 x.length).length < 1048576, ReadB W g0 x, AllU8 x, decide ((x.length : Int) > 200) = false, true = true], ?_, ⟨q0, q1, hc3, q2, q3, q4, q5, q6, q7, hc2, hc1, hc0, shortL hx, readB k0, allU8 x, decide_eq_false (by omega), q8, trivial⟩, rfl⟩
            subst ha'
            kernel_rfl
        | false =>
          cases hc3 : E2 ((W2 (Q2 (a.2, a.1))).a) (a.2, a.1) with
          | true =>
            obtain ⟨q0, q1, q2, q3, q4, q5, -⟩ := H10 a real turned hc0 hc1 hc2 hc3
            refine ⟨saysY [(22, false), (36, false), (42, false), (54, false)], true, [K2 (Q2 (a.2, a.1)) = true, E2 ((W2 (Q2 (a.2, a.1))).a) (a.2, a.1) = true, (W2 (Q2 (a.2, a.1))).b = true, K2 (a.2, a.1) = false, Sm ((W2 (a.2, a.1)).a) ((rW2 (R (a.2, a.1))).a) = true, (rW2 (R (a.2, a.1))).b = false, (W2 (a.2, a.1)).b = false, turned = true, real = false, (partB x 0 x.length).length < 1048576, ReadB W g0 x, AllU8 x, decide ((x.length : Int) > 200) = false, true = true], ?_, ⟨q0, hc3, q1, q2, q3, q4, hc2, hc1, hc0, shortL hx, readB k0, allU8 x, decide_eq_false (by omega), q5, trivial⟩, rfl⟩
            subst ha'
            kernel_rfl
          | false =>
            obtain ⟨q0, q1, q2, q3, q4, q5, q6, -⟩ := H11 a real turned hc0 hc1 hc2 hc3
            refine ⟨saysY [(22, false), (36, false), (42, false), (54, false), (82, false)], true, [K2 (Q2 (a.2, a.1)) = true, E2 ((W2 (Q2 (a.2, a.1))).a) (N2 (a.2, a.1)) = true, E2 ((W2 (Q2 (a.2, a.1))).a) (a.2, a.1) = false, (W2 (Q2 (a.2, a.1))).b = true, K2 (a.2, a.1) = false, Sm ((W2 (a.2, a.1)).a) ((rW2 (R (a.2, a.1))).a) = true, (rW2 (R (a.2, a.1))).b = false, (W2 (a.2, a.1)).b = false, turned = true, real = false, (partB x 0 x.length).length < 1048576, ReadB W g0 x, AllU8 x, decide ((x.length : Int) > 200) = false, true = true], ?_, ⟨q0, q1, hc3, q2, q3, q4, q5, hc2, hc1, hc0, shortL hx, readB k0, allU8 x, decide_eq_false (by omega), q6, trivial⟩, rfl⟩
            subst ha'
            kernel_rfl
      · skip
        cases hc2 : (W2 a).b with
        | true =>
          cases hc3 : E2 ((W2 (Q2 a)).a) a with
          | true =>
            obtain ⟨q0, q1, q2, q3, q4, q5, q6, q7, -⟩ := H12 a real turned hc0 hc1 hc2 hc3
            refine ⟨saysY [(22, false), (25, false), (68, false)], true, [K2 (Q2 a) = true, E2 ((W2 (Q2 a)).a) a = true, (W2 (Q2 a)).b = true, L2 ((W2 a).a) = false, E2 (Q2 ((W2 a).a)) a = true, K2 a = true, Sm ((W2 a).a) ((rW2 (R a)).a) = true, (rW2 (R a)).b = true, (W2 a).b = true, turned = false, real = false, (partB x 0 x.length).length < 1048576, ReadB W g0 x, AllU8 x, decide ((x.length : Int) > 200) = false, true = true], ?_, ⟨q0, hc3, q1, q2, q3, q4, q5, q6, hc2, hc1, hc0, shortL hx, readB k0, allU8 x, decide_eq_false (by omega), q7, trivial⟩, rfl⟩
            subst ha'
            kernel_rfl
          | false =>
            obtain ⟨q0, q1, q2, q3, q4, q5, q6, q7, q8, -⟩ := H13 a real turned hc0 hc1 hc2 hc3
            refine ⟨saysY [(22, false), (25, false), (68, false), (82, false)], true, [K2 (Q2 a) = true, E2 ((W2 (Q2 a)).a) (N2 a) = true, E2 ((W2 (Q2 a)).a) a = false, (W2 (Q2 a)).b = true, L2 ((W2 a).a) = false, E2 (Q2 ((W2 a).a)) a = true, K2 a = true, Sm ((W2 a).a) ((rW2 (R a)).a) = true, (rW2 (R a)).b = true, (W2 a).b = true, turned = false, real = false, (partB x 0 x.length).length < 1048576, ReadB W g0 x, AllU8 x, decide ((x.length : Int) > 200) = false, true = true], ?_, ⟨q0, q1, hc3, q2, q3, q4, q5, q6, q7, hc2, hc1, hc0, shortL hx, readB k0, allU8 x, decide_eq_false (by omega), q8, trivial⟩, rfl⟩
            subst ha'
            kernel_rfl
        | false =>
          cases hc3 : E2 ((W2 (Q2 a)).a) a with
          | true =>
            obtain ⟨q0, q1, q2, q3, q4, q5, -⟩ := H14 a real turned hc0 hc1 hc2 hc3
            refine ⟨saysY [(22, false), (25, false), (36, false), (42, false), (54, false)], true, [K2 (Q2 a) = true, E2 ((W2 (Q2 a)).a) a = true, (W2 (Q2 a)).b = true, K2 a = false, Sm ((W2 a).a) ((rW2 (R a)).a) = true, (rW2 (R a)).b = false, (W2 a).b = false, turned = false, real = false, (partB x 0 x.length).length < 1048576, ReadB W g0 x, AllU8 x, decide ((x.length : Int) > 200) = false, true = true], ?_, ⟨q0, hc3, q1, q2, q3, q4, hc2, hc1, hc0, shortL hx, readB k0, allU8 x, decide_eq_false (by omega), q5, trivial⟩, rfl⟩
            subst ha'
            kernel_rfl
          | false =>
            obtain ⟨q0, q1, q2, q3, q4, q5, q6, -⟩ := H15 a real turned hc0 hc1 hc2 hc3
            refine ⟨saysY [(22, false), (25, false), (36, false), (42, false), (54, false), (82, false)], true, [K2 (Q2 a) = true, E2 ((W2 (Q2 a)).a) (N2 a) = true, E2 ((W2 (Q2 a)).a) a = false, (W2 (Q2 a)).b = true, K2 a = false, Sm ((W2 a).a) ((rW2 (R a)).a) = true, (rW2 (R a)).b = false, (W2 a).b = false, turned = false, real = false, (partB x 0 x.length).length < 1048576, ReadB W g0 x, AllU8 x, decide ((x.length : Int) > 200) = false, true = true], ?_, ⟨q0, q1, hc3, q2, q3, q4, q5, hc2, hc1, hc0, shortL hx, readB k0, allU8 x, decide_eq_false (by omega), q6, trivial⟩, rfl⟩
            subst ha'
            kernel_rfl
  · exact ⟨_, ht 1, saysY [], true, [decide ((x.length : Int) > 200) = true, true = true], by kernel_rfl, ⟨decide_eq_true (by omega), rfl, trivial⟩, rfl⟩

def tblKnown5 (Sl : UInt64 → UInt64 → F2) (W2 : F2 → T2 F2 Bool) (M2 : F2 → F2 → F2) (O2 : F2) (N2 : F2 → F2) (E2 : F2 → F2 → Bool) (Q2 : F2 → F2) (L2 : F2 → Bool) (I2 : F2 → F2) (X2 : F2 → F2) (G2 : F2 → Int) : List (Row A) :=
  [rowOf A 176 (fun x : UInt64 × UInt64 × Unit => Sl x.1 x.2.1),
    rowOf A 134 (fun x : F2 × Unit => W2 x.1),
    rowOf A 111 (fun x : F2 × F2 × Unit => M2 x.1 x.2.1),
    rowOf A 137 (fun _ : Unit => O2),
    rowOf A 110 (fun x : F2 × Unit => N2 x.1),
    rowOf A 113 (fun x : F2 × F2 × Unit => E2 x.1 x.2.1),
    rowOf A 125 (fun x : F2 × Unit => Q2 x.1),
    rowOf A 107 (fun x : F2 × Unit => L2 x.1),
    rowOf A 126 (fun x : F2 × Unit => I2 x.1),
    rowOf A 128 (fun x : F2 × Unit => X2 x.1),
    rowOf A 104 (fun x : F2 × Unit => G2 x.1)]
theorem known5_of (Sl : UInt64 → UInt64 → F2) (W2 : F2 → T2 F2 Bool) (M2 : F2 → F2 → F2) (O2 : F2) (N2 : F2 → F2) (E2 : F2 → F2 → Bool) (Q2 : F2 → F2) (L2 : F2 → Bool) (I2 : F2 → F2) (X2 : F2 → F2) (G2 : F2 → Int) (ht : TblOK Try.prog (tblKnown5 Sl W2 M2 O2 N2 E2 Q2 L2 I2 X2 G2))
    (H0 : ((G2 (Sl 2 1) == 0) = true) ∧ ((G2 (Sl 0 1) == 1) = true) ∧ ((G2 (Sl 1 2) == 1) = true) ∧ (E2 (X2 (Sl 1 0)) (Sl 1 1) = true) ∧ (E2 (M2 (Sl 3 4) (I2 (Sl 3 4))) O2 = true) ∧ (L2 ((W2 (Sl 0 2)).a) = false) ∧ (E2 (Q2 ((W2 (Sl 0 2)).a)) (Sl 0 2) = true) ∧ (E2 (M2 (Sl 0 1) (Sl 0 1)) (N2 O2) = true) ∧ ((W2 (Sl 0 2)).b = true) ∧ True) :
    Computes A Try.prog 101 (fun _ : Unit => true) := by
  refine computes_of_run ht Try.func101 (by kernel_rfl) (by kernel_rfl) 8 ?_
  rintro ⟨⟩ ⟨⟩ W -
  obtain ⟨q0, q1, q2, q3, q4, q5, q6, q7, q8, -⟩ := H0
  exact ⟨saysY [(27, false)], _, [(G2 (Sl 2 1) == 0) = true, (G2 (Sl 0 1) == 1) = true, (G2 (Sl 1 2) == 1) = true, E2 (X2 (Sl 1 0)) (Sl 1 1) = true, E2 (M2 (Sl 3 4) (I2 (Sl 3 4))) O2 = true, L2 ((W2 (Sl 0 2)).a) = false, E2 (Q2 ((W2 (Sl 0 2)).a)) (Sl 0 2) = true, E2 (M2 (Sl 0 1) (Sl 0 1)) (N2 O2) = true, (W2 (Sl 0 2)).b = true], (by kernel_rfl : _ = some (some true, _)), ⟨q0, q1, q2, q3, q4, q5, q6, q7, q8, trivial⟩, rfl⟩

end Go.Proofs.Ytbdbmcdcjejffaa
