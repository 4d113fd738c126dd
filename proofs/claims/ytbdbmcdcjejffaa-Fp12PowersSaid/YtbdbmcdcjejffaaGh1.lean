/- The laws of powers, walked over variable functions. -/
import Derived.Test.YtbdbmcdcjejffaaGg3
set_option linter.unusedVariables false
set_option linter.unusedSimpArgs false
set_option linter.unusedSectionVars false
namespace Go.Proofs.Ytbdbmcdcjejffaa
open Go Go.Sh
/-- Bytes of literals are bytes. -/
def litF (x : At FB) (l : List (At FB)) : Nat → At FB := fun j => ((x :: l)[j]?).getD x
abbrev LitU8 (h : UInt8) (t : List UInt8) : Prop := ∀ j, j < t.length + 1 → isU8 (litF (.u8 h) (t.map fun y => At.u8 y) (0 + j)) = true
theorem litU8 (h : UInt8) (t : List UInt8) : LitU8 h t := by
  intro j hj
  unfold litF
  have e : (At.u8 h : At FB) :: (t.map fun y => At.u8 y) = (h :: t).map fun y => At.u8 y := rfl
  rw [e, List.getElem?_map]
  cases (h :: t)[0 + j]? <;> rfl
theorem shortN {e : List UInt8} {n : Int} (h : decide ((e.length : Int) > n) = false) (hn : n ≤ 60) : (partB e 0 e.length).length < 1048576 := by
  have := of_decide_eq_false h
  rw [partB_all]; omega

noncomputable def tblFp2Powers (k : Nat) (Nm : List UInt8 → F2) (pow2 : F2 → List UInt8 → F2) (R : F2 → F2) (rpow2 : F2 → List UInt8 → F2) (Sm : F2 → F2 → Bool) (O2 : F2) (E2 : F2 → F2 → Bool) (Q2 : F2 → F2) : List (Row A) :=
  [rowOf A 101 (fun _ : Unit => true), light5Row k, rowOf A 103 (fun x : Bt × Unit => Nm x.1.l),
    rowOf A 138 (fun x : F2 × Bt × Unit => pow2 x.1 x.2.1.l),
    rowOf A 105 (fun x : F2 × Unit => R x.1),
    rowOf A 142 (fun x : F2 × Bt × Unit => rpow2 x.1 x.2.1.l),
    rowOf A 118 (fun x : F2 × F2 × Unit => Sm x.1 x.2.1),
    rowOf A 137 (fun _ : Unit => O2),
    rowOf A 113 (fun x : F2 × F2 × Unit => E2 x.1 x.2.1),
    rowOf A 125 (fun x : F2 × Unit => Q2 x.1)]

theorem fp2Powers_of (Nm : List UInt8 → F2) (pow2 : F2 → List UInt8 → F2) (R : F2 → F2) (rpow2 : F2 → List UInt8 → F2) (Sm : F2 → F2 → Bool) (O2 : F2) (E2 : F2 → F2 → Bool) (Q2 : F2 → F2) (ht : ∀ k, TblOK Try.prog (tblFp2Powers k Nm pow2 R rpow2 Sm O2 E2 Q2))
    (H0 : ∀ (a : F2) (ee : List UInt8) (e : List UInt8), decide ((e.length : Int) > 60) = true → ((true = true) ∧ True))
    (H1 : ∀ (a : F2) (ee : List UInt8) (e : List UInt8), decide ((e.length : Int) > 60) = false → ((E2 (pow2 a ([UInt8.ofNat 2])) (Q2 a) = true) ∧ (E2 (pow2 a ([] : List UInt8)) O2 = true) ∧ (Sm (pow2 a ee) (rpow2 (R a) ee) = true) ∧ (true = true) ∧ True)) :
    Computes A Try.prog 23 (fun _ : Bs × Bs × Unit => true) := by
  refine computes_of_runT0 Try.func23 (by kernel_rfl) (by kernel_rfl) 8 ?_
  rintro ⟨g0, g1, _⟩ ⟨⟨x⟩, ⟨e⟩, ⟨⟩⟩ W ⟨k0, k1, _⟩
  have k0 : HasBytes W x g0 := k0
  have k1 : HasBytes W e g1 := k1
  by_cases hx : x.length ≤ 200
  · skip
    obtain ⟨a, ha'⟩ : ∃ a : F2, a = Nm (partB x 0 x.length) := ⟨_, rfl⟩
    obtain ⟨ee, hee'⟩ : ∃ ee : List UInt8, ee = partB e 0 e.length := ⟨_, rfl⟩
    refine ⟨_, ht 0, ?_⟩
    cases hc0 : decide ((e.length : Int) > 60) with
    | true =>
      obtain ⟨q0, -⟩ := H0 a ee e hc0
      refine ⟨saysY [], true, [decide ((e.length : Int) > 60) = true, decide ((x.length : Int) > 200) = false, true = true], ?_, ⟨hc0, decide_eq_false (by omega), q0, trivial⟩, rfl⟩
      subst ha' hee'
      kernel_rfl
    | false =>
      obtain ⟨q0, q1, q2, q3, -⟩ := H1 a ee e hc0
      refine ⟨saysY [(15, false)], true, [E2 (pow2 a ([UInt8.ofNat 2])) (Q2 a) = true, ([UInt8.ofNat 2]).length < 1048576, LitU8 (UInt8.ofNat 2) [], E2 (pow2 a ([] : List UInt8)) O2 = true, ([] : List UInt8).length < 1048576, Sm (pow2 a ee) (rpow2 (R a) ee) = true, (partB e 0 e.length).length < 1048576, ReadB W g1 e, AllU8 e, (partB e 0 e.length).length < 1048576, ReadB W g1 e, AllU8 e, (partB x 0 x.length).length < 1048576, ReadB W g0 x, AllU8 x, decide ((e.length : Int) > 60) = false, decide ((x.length : Int) > 200) = false, true = true], ?_, ⟨q0, by decide, litU8 _ _, q1, by decide, q2, shortN (by assumption) (by decide), readB k1, allU8 e, shortN (by assumption) (by decide), readB k1, allU8 e, shortL hx, readB k0, allU8 x, hc0, decide_eq_false (by omega), q3, trivial⟩, rfl⟩
      subst ha' hee'
      kernel_rfl
  · exact ⟨_, ht 1, saysY [], true, [decide ((x.length : Int) > 200) = true, true = true], by kernel_rfl, ⟨decide_eq_true (by omega), rfl, trivial⟩, rfl⟩

noncomputable def tblFp12Powers (k : Nat) (Tw : List UInt8 → F12) (pow12 : F12 → List UInt8 → F12) (RS : F12 → T6) (tpow : T6 → List UInt8 → T6) (O12 : F12) (E12 : F12 → F12 → Bool) (Q12 : F12 → F12) (M12 : F12 → F12 → F12) : List (Row A) :=
  [rowOf A 90 (fun _ : Unit => true), light7Row k, rowOf A 92 (fun x : Bt × Unit => Tw x.1.l),
    rowOf A 139 (fun x : F12 × Bt × Unit => pow12 x.1 x.2.1.l),
    rowOf A 131 (fun x : F12 × Unit => RS x.1),
    rowOf A 140 (fun x : T6 × Bt × Unit => tpow x.1 x.2.1.l),
    rowOf A 98 (fun _ : Unit => O12),
    rowOf A 95 (fun x : F12 × F12 × Unit => E12 x.1 x.2.1),
    rowOf A 141 (fun x : F12 × Unit => Q12 x.1),
    rowOf A 93 (fun x : F12 × F12 × Unit => M12 x.1 x.2.1)]

theorem fp12Powers_of (Tw : List UInt8 → F12) (pow12 : F12 → List UInt8 → F12) (RS : F12 → T6) (tpow : T6 → List UInt8 → T6) (O12 : F12) (E12 : F12 → F12 → Bool) (Q12 : F12 → F12) (M12 : F12 → F12 → F12) (ht : ∀ k, TblOK Try.prog (tblFp12Powers k Tw pow12 RS tpow O12 E12 Q12 M12))
    (H0 : ∀ (a : F12) (ee : List UInt8) (e : List UInt8), decide ((e.length : Int) > 40) = true → ((true = true) ∧ True))
    (H1 : ∀ (a : F12) (ee : List UInt8) (e : List UInt8), decide ((e.length : Int) > 40) = false → ((E12 (pow12 a ([UInt8.ofNat 0, UInt8.ofNat 3])) (M12 (Q12 a) a) = true) ∧ (E12 (pow12 a ([] : List UInt8)) O12 = true) ∧ (eqT (RS (pow12 a ee)) (tpow (RS a) ee) = true) ∧ (true = true) ∧ True)) :
    Computes A Try.prog 22 (fun _ : Bs × Bs × Unit => true) := by
  refine computes_of_runT0 Try.func22 (by kernel_rfl) (by kernel_rfl) 8 ?_
  rintro ⟨g0, g1, _⟩ ⟨⟨x⟩, ⟨e⟩, ⟨⟩⟩ W ⟨k0, k1, _⟩
  have k0 : HasBytes W x g0 := k0
  have k1 : HasBytes W e g1 := k1
  by_cases hx : x.length ≤ 200
  · skip
    obtain ⟨a, ha'⟩ : ∃ a : F12, a = Tw (partB x 0 x.length) := ⟨_, rfl⟩
    obtain ⟨ee, hee'⟩ : ∃ ee : List UInt8, ee = partB e 0 e.length := ⟨_, rfl⟩
    refine ⟨_, ht 0, ?_⟩
    cases hc0 : decide ((e.length : Int) > 40) with
    | true =>
      obtain ⟨q0, -⟩ := H0 a ee e hc0
      refine ⟨saysY [], true, [decide ((e.length : Int) > 40) = true, decide ((x.length : Int) > 200) = false, true = true], ?_, ⟨hc0, decide_eq_false (by omega), q0, trivial⟩, rfl⟩
      subst ha' hee'
      kernel_rfl
    | false =>
      obtain ⟨q0, q1, q2, q3, -⟩ := H1 a ee e hc0
      refine ⟨saysY [(15, false)], true, [E12 (pow12 a ([UInt8.ofNat 0, UInt8.ofNat 3])) (M12 (Q12 a) a) = true, ([UInt8.ofNat 0, UInt8.ofNat 3]).length < 1048576, LitU8 (UInt8.ofNat 0) [UInt8.ofNat 3], E12 (pow12 a ([] : List UInt8)) O12 = true, ([] : List UInt8).length < 1048576, eqT (RS (pow12 a ee)) (tpow (RS a) ee) = true, (partB e 0 e.length).length < 1048576, ReadB W g1 e, AllU8 e, (partB e 0 e.length).length < 1048576, ReadB W g1 e, AllU8 e, (partB x 0 x.length).length < 1048576, ReadB W g0 x, AllU8 x, decide ((e.length : Int) > 40) = false, decide ((x.length : Int) > 200) = false, true = true], ?_, ⟨q0, by decide, litU8 _ _, q1, by decide, q2, shortN (by assumption) (by decide), readB k1, allU8 e, shortN (by assumption) (by decide), readB k1, allU8 e, shortL hx, readB k0, allU8 x, hc0, decide_eq_false (by omega), q3, trivial⟩, rfl⟩
      subst ha' hee'
      kernel_rfl
  · exact ⟨_, ht 1, saysY [], true, [decide ((x.length : Int) > 200) = true, true = true], by kernel_rfl, ⟨decide_eq_true (by omega), rfl, trivial⟩, rfl⟩

end Go.Proofs.Ytbdbmcdcjejffaa
