/- The laws of sums, of what is left. -/
import Derived.Test.YtaloefkkllebeaaLi6
import Derived.Test.YtaloefkkllebeaaLi7
set_option linter.unusedVariables false
set_option linter.unusedSimpArgs false
set_option linter.unusedSectionVars false
namespace Go.Proofs.Ytaloefkkllebeaa
open Go Go.Sh
theorem known2_ok : Computes A Try.prog 13 (fun _ : Unit => true) := by
  refine computes_of_runW tblK2_ok itsK2_ok Try.func13 (by kernel_rfl) (by kernel_rfl) 8 ?_
  rintro ⟨⟩ ⟨⟩ W -
  exact ⟨evalO, noLoop, true, [], by kernel_rfl, trivial, rfl, fun body _ => loopsFor_none⟩
theorem subSum (a b : Num) : a + b - b = a := by
  apply Fin.ext
  have e : ∀ a c : Num, (a - c).val = (39402006196394479212279040100143613805079739270465446667948293404245721771497210611414266254884915640806627990306816 - c.val + a.val) % 39402006196394479212279040100143613805079739270465446667948293404245721771497210611414266254884915640806627990306816 := fun a c => Fin.sub_def a c ▸ rfl
  have h : (a + b).val = (a.val + b.val) % 39402006196394479212279040100143613805079739270465446667948293404245721771497210611414266254884915640806627990306816 := Fin.val_add a b
  have ha := a.isLt
  have hb := b.isLt
  rw [e, h]
  omega
theorem sumSub (a b : Num) : a - b + b = a := by
  apply Fin.ext
  have e : ∀ a c : Num, (a - c).val = (39402006196394479212279040100143613805079739270465446667948293404245721771497210611414266254884915640806627990306816 - c.val + a.val) % 39402006196394479212279040100143613805079739270465446667948293404245721771497210611414266254884915640806627990306816 := fun a c => Fin.sub_def a c ▸ rfl
  have h : ∀ a b : Num, (a + b).val = (a.val + b.val) % 39402006196394479212279040100143613805079739270465446667948293404245721771497210611414266254884915640806627990306816 := fun a b => Fin.val_add a b
  have ha := a.isLt
  have hb := b.isLt
  rw [h, e]
  omega
theorem limbsSums_ok : Computes A Try.prog 3 (fun _ : Num × Num × Unit => true) :=
  sums_of addF subF carryN ltF ltF (.cons known2_ok.row (.cons limbsAdd_ok.row (.cons limbsSub_ok.row (.cons refAdd_ok.row (.cons refSub_ok.row (.cons limbsLess_ok.row (.nil _))))))) subSum sumSub (fun _ _ => rfl) (fun a => decide_eq_false (Nat.lt_irrefl a.val))
theorem limbsMods_ok : Computes A Try.prog 5 (fun _ : R64 12 × Num × Unit => true) :=
  mods_of modN ltF (.cons known2_ok.row (.cons limbsMod_ok.row (.cons refMod_ok.row (.cons limbsLess_ok.row (.nil _))))) modN_lt
end Go.Proofs.Ytaloefkkllebeaa
