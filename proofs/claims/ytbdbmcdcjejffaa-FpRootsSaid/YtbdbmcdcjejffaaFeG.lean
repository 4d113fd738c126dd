/- Fp and numbers: the functions without loops that are told. -/
import Derived.Test.YtbdbmcdcjejffaaFeF
import Derived.Test.YtbdbmcdcjejffaaFmC
set_option linter.unusedVariables false
set_option linter.unusedSimpArgs false
set_option linter.unusedSectionVars false
namespace Go.Proofs.Ytbdbmcdcjejffaa
open Go Go.Sh

theorem limbsSubL_ok : Computes A Try.prog 183 (fun x : L6 × L6 × Unit => T2.mk (sub6 x.1 x.2.1) (subTop x.1 x.2.1)) :=
  computes_of_run0 tblC_ok Try.func183 (by kernel_rfl) (by kernel_rfl) 8 (fun _ _ _ => by kernel_rfl)
theorem refSubL_ok : Computes A Try.prog 148 (fun x : L6 × L6 × Unit => T2.mk (sub6 x.1 x.2.1) (subTop x.1 x.2.1)) :=
  computes_of_run0 tblC_ok Try.func148 (by kernel_rfl) (by kernel_rfl) 8 (fun _ _ _ => by kernel_rfl)
theorem refAddL_ok : Computes A Try.prog 158 (fun x : L6 × L6 × Unit => T2.mk (add6 x.1 x.2.1) (addTop x.1 x.2.1)) :=
  computes_of_run0 tblC_ok Try.func158 (by kernel_rfl) (by kernel_rfl) 8 (fun _ _ _ => by kernel_rfl)

theorem val6_numL (a : Num) : val6 (numL a) = a.val := val6_lim6 (by rw [w384]; exact a.isLt)
theorem sub6_num (a b : Num) : sub6 (numL a) (numL b) = numL (a - b) ∧ subTop (numL a) (numL b) = ⟨decide (a < b)⟩ := by
  have h := sub6_val (numL a) (numL b)
  rw [val6_numL, val6_numL] at h
  have h1 := val6_lt' (sub6 (numL a) (numL b))
  have h2 := Cy.n_on (subTop (numL a) (numL b))
  have ha := a.isLt
  have hb := b.isLt
  have e : (a - b).val = (39402006196394479212279040100143613805079739270465446667948293404245721771497210611414266254884915640806627990306816 - b.val + a.val) % 39402006196394479212279040100143613805079739270465446667948293404245721771497210611414266254884915640806627990306816 := Fin.val_sub a b
  constructor
  · apply val6_inj
    rw [val6_numL, e]
    cases hc : (subTop (numL a) (numL b)).on <;> rw [hc] at h2 <;> simp at h2 <;> rw [h2] at h <;> omega
  · have : (subTop (numL a) (numL b)).on = decide (a < b) := by
      show _ = decide (a.val < b.val)
      cases hc : (subTop (numL a) (numL b)).on <;> rw [hc] at h2 <;> simp at h2 <;> rw [h2] at h
      · exact (decide_eq_false (by omega)).symm
      · exact (decide_eq_true (by omega)).symm
    rw [← this]

theorem limbsSub_ok : Computes A Try.prog 183 (fun x : Num × Num × Unit => T2.mk (x.1 - x.2.1) (Cy.mk (decide (x.1 < x.2.1)))) :=
  limbsSubL_ok.as (fun x => (numL x.1, numL x.2.1, ())) (fun _ _ _ _ => ⟨((), (), ()), ⟨trivial, trivial, trivial⟩, rfl⟩) (fun x => by rw [(sub6_num x.1 x.2.1).1, (sub6_num x.1 x.2.1).2]; rfl)
theorem refSub_ok : Computes A Try.prog 148 (fun x : Num × Num × Unit => T2.mk (x.1 - x.2.1) (Cy.mk (decide (x.1 < x.2.1)))) :=
  refSubL_ok.as (fun x => (numL x.1, numL x.2.1, ())) (fun _ _ _ _ => ⟨((), (), ()), ⟨trivial, trivial, trivial⟩, rfl⟩) (fun x => by rw [(sub6_num x.1 x.2.1).1, (sub6_num x.1 x.2.1).2]; rfl)

theorem add6_num (a b : Num) : add6 (numL a) (numL b) = numL (a + b) ∧ addTop (numL a) (numL b) = ⟨decide (39402006196394479212279040100143613805079739270465446667948293404245721771497210611414266254884915640806627990306816 ≤ a.val + b.val)⟩ := by
  have h := add6_val (numL a) (numL b)
  rw [val6_numL, val6_numL] at h
  have h1 := val6_lt' (add6 (numL a) (numL b))
  have h2 := Cy.n_on (addTop (numL a) (numL b))
  have ha := a.isLt
  have hb := b.isLt
  have e : (a + b).val = (a.val + b.val) % 39402006196394479212279040100143613805079739270465446667948293404245721771497210611414266254884915640806627990306816 := Fin.val_add a b
  constructor
  · apply val6_inj
    rw [val6_numL, e]
    cases hc : (addTop (numL a) (numL b)).on <;> rw [hc] at h2 <;> simp at h2 <;> rw [h2] at h <;> omega
  · have : (addTop (numL a) (numL b)).on = decide (39402006196394479212279040100143613805079739270465446667948293404245721771497210611414266254884915640806627990306816 ≤ a.val + b.val) := by
      cases hc : (addTop (numL a) (numL b)).on <;> rw [hc] at h2 <;> simp at h2 <;> rw [h2] at h
      · exact (decide_eq_false (by omega)).symm
      · exact (decide_eq_true (by omega)).symm
    rw [← this]
theorem refAdd_ok : Computes A Try.prog 158 (fun x : Num × Num × Unit => T2.mk (x.1 + x.2.1) (Cy.mk (decide (39402006196394479212279040100143613805079739270465446667948293404245721771497210611414266254884915640806627990306816 ≤ x.1.val + x.2.1.val)))) :=
  refAddL_ok.as (fun x => (numL x.1, numL x.2.1, ())) (fun _ _ _ _ => ⟨((), (), ()), ⟨trivial, trivial, trivial⟩, rfl⟩) (fun x => by rw [(add6_num x.1 x.2.1).1, (add6_num x.1 x.2.1).2]; rfl)

def tblD : List (Row A) := [rowOf A 183 (fun x : Num × Num × Unit => T2.mk (x.1 - x.2.1) (Cy.mk (decide (x.1 < x.2.1)))), rowOf A 148 (fun x : Num × Num × Unit => T2.mk (x.1 - x.2.1) (Cy.mk (decide (x.1 < x.2.1))))]
theorem tblD_ok : TblOK Try.prog tblD := .cons limbsSub_ok.row (.cons refSub_ok.row (.nil _))

theorem cy_one (b : Bool) : ((cond b 1 0 : Int) == 1) = b := by cases b <;> rfl
theorem Computes.eq {Γ R : Type} [Args A Γ] [Res A R] {g : FuncId} {f f' : Γ → R} (h : Computes A Try.prog g f) (e : ∀ x, f x = f' x) : Computes A Try.prog g f' := by
  have : f = f' := funext e
  rw [← this]; exact h

theorem limbsLess_ok : Computes A Try.prog 145 (fun x : Num × Num × Unit => decide (x.1 < x.2.1)) :=
  Computes.eq (f := fun x : Num × Num × Unit => ((cond (decide (x.1 < x.2.1)) 1 0 : Int) == 1)) (computes_of_run0 tblD_ok Try.func145 (by kernel_rfl) (by kernel_rfl) 8 (fun _ _ _ => by kernel_rfl)) (fun _ => cy_one _)
theorem refLess_ok : Computes A Try.prog 29 (fun x : Num × Num × Unit => decide (x.1 < x.2.1)) :=
  Computes.eq (f := fun x : Num × Num × Unit => ((cond (decide (x.1 < x.2.1)) 1 0 : Int) == 1)) (computes_of_run0 tblD_ok Try.func29 (by kernel_rfl) (by kernel_rfl) 8 (fun _ _ _ => by kernel_rfl)) (fun _ => cy_one _)

/-- p as a number. -/
def pNum : Num := ⟨pN, by have := pN_lt; rwa [w384] at this⟩
theorem prime_ok : Computes A Try.prog 146 (fun _ : Unit => pNum) :=
  Computes.eq (f := fun _ => numO p6) (computes_of_run0 tblD_ok Try.func146 (by kernel_rfl) (by kernel_rfl) 8 (fun _ _ _ => by kernel_rfl)) (fun _ => Fin.ext val6_p6)
theorem refP_ok : Computes A Try.prog 30 (fun _ : Unit => pNum) :=
  Computes.eq (f := fun _ => numO p6) (computes_of_run0 tblD_ok Try.func30 (by kernel_rfl) (by kernel_rfl) 8 (fun _ _ _ => by kernel_rfl)) (fun _ => Fin.ext val6_p6)

/-- 2^384, and its inverse, in the field. -/
def rF : Fp := ⟨r384 % pN, Nat.mod_lt _ (by decide)⟩
def iF : Fp := ofMont 1
theorem one_ok : Computes A Try.prog 163 (fun _ : Unit => (1 : Fp)) :=
  computes_of_run0 tblD_ok Try.func163 (by kernel_rfl) (by kernel_rfl) 8 (fun _ _ _ => by kernel_rfl)
theorem refOne_ok : Computes A Try.prog 164 (fun _ : Unit => (1 : Fp)) :=
  computes_of_run0 tblD_ok Try.func164 (by kernel_rfl) (by kernel_rfl) 8 (fun _ _ _ => by kernel_rfl)
theorem square_ok : Computes A Try.prog 184 (fun _ : Unit => rF) :=
  computes_of_run0 tblD_ok Try.func184 (by kernel_rfl) (by kernel_rfl) 8 (fun _ _ _ => by kernel_rfl)
theorem refTwo_ok : Computes A Try.prog 153 (fun _ : Unit => rF) :=
  computes_of_run0 tblD_ok Try.func153 (by kernel_rfl) (by kernel_rfl) 8 (fun _ _ _ => by kernel_rfl)

end Go.Proofs.Ytbdbmcdcjejffaa
