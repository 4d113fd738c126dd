/- SHA-256: the examples hold. -/
import Derived.Test.YtaloefkkllebeaaDoorSc2
set_option linter.unusedVariables false
set_option linter.unusedSimpArgs false
set_option linter.unusedSectionVars false
namespace Go.Proofs.YtaloefkkllebeaaDoor
open Go Go.Sh
/-- All tests hold, but for those of a list. -/
def saysY (l : List (Nat × Bool)) : Nat → Nat → Dec := fun _ t =>
  match l with
  | [] => .take true
  | (d, b) :: r => match Nat.beq d t with | true => .take b | false => saysY r 0 t
def zR : R8 32 := ⟨pickN 0 (List.replicate 32 (UInt8.ofNat 0))⟩
theorem known_of (S : List UInt8 → R8 32) (Pr : R8 32 → R8 32 → R8 32) (ht : TblOK Tryd.prog (tblKn S Pr)) (h0 : ((((S abc).f 0).toNat : Int) == 186) = true) (h1 : ((((S abc).f 1).toNat : Int) == 120) = true) (h31 : ((((S abc).f 31).toNat : Int) == 173) = true)
    (hp : ((((Pr zR zR).f 0).toNat : Int) == 245) = true) : Computes A Tryd.prog 24 (fun _ : GA Unit => true) := by
  have hn : ((((S abc).f 0).toNat : Int) != 186) = false := by rw [bne, h0]; rfl
  have hi : ITblOK (A := A) Tryd.prog itKn := .cons (iter_ok (.cons endingR_ok (.nil _)) itE_ok _ 8 Tryd.func117 (by kernel_rfl) (by kernel_rfl)) (ITblOK.nil _)
  refine computes_of_runW ht hi Tryd.func24 (by kernel_rfl) (by kernel_rfl) 8 ?_
  rintro _ ⟨⟨⟩⟩ W ⟨hr, _⟩
  exact ⟨saysY [(10, false), (15, false)], noLoop, true, [((((Pr zR zR).f 0).toNat : Int) == 245) = true, RoundsIn W.cell?, eqB (S abc).f (S abc).f 0 32 = true, RoundsIn W.cell?, ((((S abc).f 31).toNat : Int) == 173) = true, ((((S abc).f 1).toNat : Int) == 120) = true, ((((S abc).f 0).toNat : Int) == 186) = true, ((((S abc).f 0).toNat : Int) != 186) = false, RoundsIn W.cell?], by kernel_rfl,
    ⟨hp, hr, eqB_self _ _ _, hr, h31, h1, h0, hn, hr, trivial⟩, rfl, fun body _ => loopsFor_none⟩
theorem abc0 : ((((sumL abc).f 0).toNat : Int) == 186) = true := by kernel_rfl
theorem abc1 : ((((sumL abc).f 1).toNat : Int) == 120) = true := by kernel_rfl
theorem abc31 : ((((sumL abc).f 31).toNat : Int) == 173) = true := by kernel_rfl
theorem pair0 : ((((pairR8 zR zR).f 0).toNat : Int) == 245) = true := by kernel_rfl
theorem hsumR_ok : RowOK Tryd.prog (readRow (A := A) 37 42 [0] (fun (d : Habc) (_ : GA Unit) => sumL abc)) := (hsum_abc compF outF tblPair_ok).read
theorem known_ok : Computes A Tryd.prog 24 (fun _ : GA Unit => true) :=
  known_of sumL pairR8 (.cons sum_ok.row (.cons pair_ok.row (.cons blocksR_ok (.cons writeR_ok (.cons hsumR_ok (.nil _)))))) abc0 abc1 abc31 pair0
end Go.Proofs.YtaloefkkllebeaaDoor
