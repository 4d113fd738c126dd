/- The laws of fp2, walked over variable functions: powers, the field. -/
import Derived.Test.YtbdbmcdcjejffaaGd2
set_option linter.unusedVariables false
set_option linter.unusedSimpArgs false
set_option linter.unusedSectionVars false
namespace Go.Proofs.Ytbdbmcdcjejffaa
open Go Go.Sh
theorem shortE {e : List UInt8} (h : decide ((e.length : Int) > 60) = false) : (partB e 0 e.length).length < 1048576 := by
  have := of_decide_eq_false h
  rw [partB_all]; omega

noncomputable def tblFp2Laws (k : Nat) (Nm : List UInt8 → F2) (Pm : Num) (B8 : Num → R8 48) (P2 : F2 → F2 → F2) (E2 : F2 → F2 → Bool) (M2 : F2 → F2 → F2) (D2 : F2 → F2 → F2) (O2 : F2) (Z2 : F2 → Bool) (I2 : F2 → F2) (pow2 : F2 → List UInt8 → F2) (C2 : F2 → F2) : List (Row A) :=
  [rowOf A 101 (fun _ : Unit => true), light5Row k, rowOf A 103 (fun x : Bt × Unit => Nm x.1.l),
    rowOf A 30 (fun _ : Unit => Pm),
    rowOf A 136 (fun x : Num × Unit => B8 x.1),
    rowOf A 116 (fun x : F2 × F2 × Unit => P2 x.1 x.2.1),
    rowOf A 113 (fun x : F2 × F2 × Unit => E2 x.1 x.2.1),
    rowOf A 111 (fun x : F2 × F2 × Unit => M2 x.1 x.2.1),
    rowOf A 120 (fun x : F2 × F2 × Unit => D2 x.1 x.2.1),
    rowOf A 137 (fun _ : Unit => O2),
    rowOf A 109 (fun x : F2 × Unit => Z2 x.1),
    rowOf A 126 (fun x : F2 × Unit => I2 x.1),
    rowOf A 138 (fun x : F2 × Bt × Unit => pow2 x.1 x.2.1.l),
    rowOf A 112 (fun x : F2 × Unit => C2 x.1)]

theorem fp2Laws_of (Nm : List UInt8 → F2) (Pm : Num) (B8 : Num → R8 48) (P2 : F2 → F2 → F2) (E2 : F2 → F2 → Bool) (M2 : F2 → F2 → F2) (D2 : F2 → F2 → F2) (O2 : F2) (Z2 : F2 → Bool) (I2 : F2 → F2) (pow2 : F2 → List UInt8 → F2) (C2 : F2 → F2) (ht : ∀ k, TblOK Try.prog (tblFp2Laws k Nm Pm B8 P2 E2 M2 D2 O2 Z2 I2 pow2 C2))
    (H0 : ∀ (a : F2) (b : F2) (c : F2), Z2 a = true → ((E2 (C2 (M2 a b)) (M2 (C2 a) (C2 b)) = true) ∧ (E2 (pow2 a (listB (B8 Pm).f)) (C2 a) = true) ∧ ((listB (B8 Pm).f).length < 1048576) ∧ (E2 (M2 a O2) a = true) ∧ (E2 (P2 (D2 a b) b) a = true) ∧ (E2 (M2 a (P2 b c)) (P2 (M2 a b) (M2 a c)) = true) ∧ (E2 (M2 a (M2 b c)) (M2 (M2 a b) c) = true) ∧ (E2 (P2 a (P2 b c)) (P2 (P2 a b) c) = true) ∧ (E2 (M2 a b) (M2 b a) = true) ∧ (E2 (P2 a b) (P2 b a) = true) ∧ (true = true) ∧ True))
    (H1 : ∀ (a : F2) (b : F2) (c : F2), Z2 a = false → ((E2 (C2 (M2 a b)) (M2 (C2 a) (C2 b)) = true) ∧ (E2 (pow2 a (listB (B8 Pm).f)) (C2 a) = true) ∧ ((listB (B8 Pm).f).length < 1048576) ∧ (E2 (M2 a (I2 a)) O2 = true) ∧ (E2 (M2 a O2) a = true) ∧ (E2 (P2 (D2 a b) b) a = true) ∧ (E2 (M2 a (P2 b c)) (P2 (M2 a b) (M2 a c)) = true) ∧ (E2 (M2 a (M2 b c)) (M2 (M2 a b) c) = true) ∧ (E2 (P2 a (P2 b c)) (P2 (P2 a b) c) = true) ∧ (E2 (M2 a b) (M2 b a) = true) ∧ (E2 (P2 a b) (P2 b a) = true) ∧ (true = true) ∧ True)) :
    Computes A Try.prog 21 (fun _ : Bs × Bs × Bs × Unit => true) := by
  refine computes_of_runT0 Try.func21 (by kernel_rfl) (by kernel_rfl) 8 ?_
  rintro ⟨g0, g1, g2, _⟩ ⟨⟨x⟩, ⟨y⟩, ⟨z⟩, ⟨⟩⟩ W ⟨k0, k1, k2, _⟩
  have k0 : HasBytes W x g0 := k0
  have k1 : HasBytes W y g1 := k1
  have k2 : HasBytes W z g2 := k2
  by_cases hx : x.length ≤ 200
  · skip
    by_cases hy : y.length ≤ 200
    · skip
      by_cases hz : z.length ≤ 200
      · skip
        obtain ⟨a, ha'⟩ : ∃ a : F2, a = Nm (partB x 0 x.length) := ⟨_, rfl⟩
        obtain ⟨b, hb'⟩ : ∃ b : F2, b = Nm (partB y 0 y.length) := ⟨_, rfl⟩
        obtain ⟨c, hc'⟩ : ∃ c : F2, c = Nm (partB z 0 z.length) := ⟨_, rfl⟩
        refine ⟨_, ht 0, ?_⟩
        cases hc0 : Z2 a with
        | true =>
          obtain ⟨q0, q1, q2, q3, q4, q5, q6, q7, q8, q9, q10, -⟩ := H0 a b c hc0
          refine ⟨saysY [], true, [E2 (C2 (M2 a b)) (M2 (C2 a) (C2 b)) = true, E2 (pow2 a (listB (B8 Pm).f)) (C2 a) = true, (listB (B8 Pm).f).length < 1048576, Z2 a = true, E2 (M2 a O2) a = true, E2 (P2 (D2 a b) b) a = true, E2 (M2 a (P2 b c)) (P2 (M2 a b) (M2 a c)) = true, E2 (M2 a (M2 b c)) (M2 (M2 a b) c) = true, E2 (P2 a (P2 b c)) (P2 (P2 a b) c) = true, E2 (M2 a b) (M2 b a) = true, E2 (P2 a b) (P2 b a) = true, (partB z 0 z.length).length < 1048576, ReadB W g2 z, AllU8 z, (partB y 0 y.length).length < 1048576, ReadB W g1 y, AllU8 y, (partB x 0 x.length).length < 1048576, ReadB W g0 x, AllU8 x, decide ((z.length : Int) > 200) = false, decide ((y.length : Int) > 200) = false, decide ((x.length : Int) > 200) = false, true = true], ?_, ⟨q0, q1, q2, hc0, q3, q4, q5, q6, q7, q8, q9, shortL hz, readB k2, allU8 z, shortL hy, readB k1, allU8 y, shortL hx, readB k0, allU8 x, decide_eq_false (by omega), decide_eq_false (by omega), decide_eq_false (by omega), q10, trivial⟩, rfl⟩
          subst ha' hb' hc'
          kernel_rfl
        | false =>
          obtain ⟨q0, q1, q2, q3, q4, q5, q6, q7, q8, q9, q10, q11, -⟩ := H1 a b c hc0
          refine ⟨saysY [(104, false)], true, [E2 (C2 (M2 a b)) (M2 (C2 a) (C2 b)) = true, E2 (pow2 a (listB (B8 Pm).f)) (C2 a) = true, (listB (B8 Pm).f).length < 1048576, E2 (M2 a (I2 a)) O2 = true, Z2 a = false, E2 (M2 a O2) a = true, E2 (P2 (D2 a b) b) a = true, E2 (M2 a (P2 b c)) (P2 (M2 a b) (M2 a c)) = true, E2 (M2 a (M2 b c)) (M2 (M2 a b) c) = true, E2 (P2 a (P2 b c)) (P2 (P2 a b) c) = true, E2 (M2 a b) (M2 b a) = true, E2 (P2 a b) (P2 b a) = true, (partB z 0 z.length).length < 1048576, ReadB W g2 z, AllU8 z, (partB y 0 y.length).length < 1048576, ReadB W g1 y, AllU8 y, (partB x 0 x.length).length < 1048576, ReadB W g0 x, AllU8 x, decide ((z.length : Int) > 200) = false, decide ((y.length : Int) > 200) = false, decide ((x.length : Int) > 200) = false, true = true], ?_, ⟨q0, q1, q2, q3, hc0, q4, q5, q6, q7, q8, q9, q10, shortL hz, readB k2, allU8 z, shortL hy, readB k1, allU8 y, shortL hx, readB k0, allU8 x, decide_eq_false (by omega), decide_eq_false (by omega), decide_eq_false (by omega), q11, trivial⟩, rfl⟩
          subst ha' hb' hc'
          kernel_rfl
      · exact ⟨_, ht 3, saysY [], true, [decide ((z.length : Int) > 200) = true, decide ((y.length : Int) > 200) = false, decide ((x.length : Int) > 200) = false, true = true], by kernel_rfl, ⟨decide_eq_true (by omega), decide_eq_false (by omega), decide_eq_false (by omega), rfl, trivial⟩, rfl⟩
    · exact ⟨_, ht 2, saysY [], true, [decide ((y.length : Int) > 200) = true, decide ((x.length : Int) > 200) = false, true = true], by kernel_rfl, ⟨decide_eq_true (by omega), decide_eq_false (by omega), rfl, trivial⟩, rfl⟩
  · exact ⟨_, ht 1, saysY [], true, [decide ((x.length : Int) > 200) = true, true = true], by kernel_rfl, ⟨decide_eq_true (by omega), rfl, trivial⟩, rfl⟩

end Go.Proofs.Ytbdbmcdcjejffaa
