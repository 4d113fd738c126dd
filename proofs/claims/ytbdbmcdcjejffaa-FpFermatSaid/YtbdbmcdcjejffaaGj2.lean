/- Half of a number as bytes; the law of Fermat's powers. -/
import Derived.Test.YtbdbmcdcjejffaaGj0
import Derived.Test.YtbdbmcdcjejffaaGj1
set_option linter.unusedVariables false
set_option linter.unusedSimpArgs false
set_option linter.unusedSectionVars false
namespace Go.Proofs.Ytbdbmcdcjejffaa
open Go Go.Sh
def halfB (x : UInt8) (c : Int) : UInt8 := UInt8.ofNat (((BitVec.ofInt IntKind.u8.bits ((UInt8.ofNat (x.toNat / 2 ^ min 1 IntKind.u8.bits)).toNat : Int) ||| BitVec.ofInt IntKind.u8.bits c).toNat : Int) % 256).toNat
def carryB (x : UInt8) : UInt8 := UInt8.ofNat (((x.toNat : Int) * 2 ^ min 7 IntKind.u8.bits) % 256).toNat
def halfS (f : Nat → UInt8) : List UInt8 := (List.range 47).map fun i => halfB (f (i + 1)) ((carryB (f i)).toNat : Int)
def halfL (f : Nat → UInt8) : List UInt8 := halfB (f 0) 0 :: halfS f
theorem half_ok : Computes A Try.prog 65 (fun x : R8 48 × Unit => Bz.mk (halfL x.1.f)) := by
  refine computes_of_run (TblOK.nil _) Try.func65 (by kernel_rfl) (by kernel_rfl) 60 ?_
  rintro _ ⟨⟨f⟩, ⟨⟩⟩ W -
  exact ⟨fun _ _ => .keep, Bz.mk (halfL f), [], by kernel_rfl, trivial, rfl⟩
theorem half_num : numB (partB (halfL (packR (bytesN (-fpOf 1).val).f).f) 0 (halfL (packR (bytesN (-fpOf 1).val).f).f).length) = PowK.n .half := by kernel_rfl
theorem all_num : numB (listB (bytesN (-fpOf 1).val).f) = pN - 1 := by kernel_rfl
theorem tblFpFermat_ok (k : Nat) : TblOK Try.prog (tblFpFermat k wideF fpOf (fun a => -a) (fun a => bytesN a.val) (fun a => decide (a = 0)) (fun a l => fpow a (numB l)) legF (fun m => halfL m.f) (fun a b => decide (a = b))) :=
  .cons known_ok.row (.cons (lightRow_ok k) (.cons wide_ok.row (.cons of_ok.row (.cons neg_ok.row (.cons bytes_ok.row (.cons isZero_ok.row (.cons pow_ok.row (.cons legendre_ok.row (.cons half_ok.row (.cons equal_ok.row (.nil _)))))))))))
theorem one_ne_neg : ¬ ((1 : Fp) = -1) := by
  intro h
  exact absurd (congrArg Fin.val h) (by decide)
theorem fermat_ok : Computes A Try.prog 10 (fun _ : Bs × Unit => true) := by
  have o1 : fpOf 1 = 1 := by kernel_rfl
  have l1 : (listB (bytesN (-fpOf 1).val).f).length < 1048576 := by simp [listB]
  have l2 : (partB (halfL (packR (bytesN (-fpOf 1).val).f).f) 0 (halfL (packR (bytesN (-fpOf 1).val).f).f).length).length < 1048576 := by
    rw [partB_all]
    simp [halfL, halfS]
  have nz : ∀ {a : Fp}, decide (a = 0) = false → a ≠ 0 := fun h => of_decide_eq_false h
  have pm : ∀ a : Fp, a ≠ 0 → fpow a (numB (listB (bytesN (-fpOf 1).val).f)) = fpOf 1 := fun a h => by rw [all_num, fermatF h, o1]
  refine fpFermat_of _ _ _ _ _ _ _ _ _ tblFpFermat_ok ?_ ?_ ?_ ?_ ?_
  · intro a h
    have h := of_decide_eq_true h
    subst h
    refine ⟨?_, ?_, l1, rfl, trivial⟩
    · rw [legF_zero]; rfl
    · refine decide_eq_true ?_
      show fpow 0 (numB (listB (bytesN (-fpOf 1).val).f)) = 0
      rw [all_num]
      exact zero_fpow (by rw [pN_val]; omega)
  all_goals
    intro a h h1 h2
    have h := nz h
    have hp := pm a h
    have hl := legF_cases a
    simp only [half_num, o1] at h1 h2
  · have h1 := of_decide_eq_true h1
    have h2 := of_decide_eq_true h2
    exact absurd (h1.symm.trans h2) one_ne_neg
  · have h1 := of_decide_eq_true h1
    rcases hl with ⟨e, _⟩ | ⟨_, _, e⟩ | ⟨_, e, _⟩
    · exact absurd e h
    · exact ⟨by rw [e]; rfl, by rw [e]; rfl, decide_eq_true hp, l1, l2, rfl, trivial⟩
    · exact absurd (h1.symm.trans e) one_ne_neg
  · have h2 := of_decide_eq_true h2
    rcases hl with ⟨e, _⟩ | ⟨_, e, _⟩ | ⟨_, _, e⟩
    · exact absurd e h
    · exact absurd (e.symm.trans h2) one_ne_neg
    · exact ⟨by rw [e]; rfl, by rw [e]; rfl, decide_eq_true hp, l1, l2, rfl, trivial⟩
  · have h1 := of_decide_eq_false h1
    have h2 := of_decide_eq_false h2
    rcases hl with ⟨e, _⟩ | ⟨_, e, _⟩ | ⟨_, e, _⟩
    · exact absurd e h
    · exact absurd e h1
    · exact absurd e h2
end Go.Proofs.Ytbdbmcdcjejffaa
