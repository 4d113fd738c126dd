/- MerkleBranches, proved with the one condition that its row lists (the rounds' words of SHA-256 are laid, tied to the program's text): for every input the law answers true and every argument reads behind the call as it read before. -/
import Derived.Test.YtaloefkkllebeaaDoorSm5
import Derived.Test.YtaloefkkllebeaaDoorSd1
import Derived.SevenTiedAt
set_option linter.unusedVariables false
set_option linter.unusedSimpArgs false
set_option linter.unusedSectionVars false
set_option maxRecDepth 100000
namespace Go.Proofs.YtaloefkkllebeaaDoor
open Go Go.Sh Go.RowKit

theorem merkleBranches_lifted (os : Os) (started : os.Started) (H : Type) (enc : TypeId × Value → H) :
    ReturnsInHanded {} Tryd.checked os 12 .any (fun w args => (Rows.merkleBranchesSpec.pre enc Tryd.prog Tryd.f12 [] false w args ∧ laidMetH Tryd.prog laidL w) ∧ sizedMet enc Tryd.prog Tryd.f12 (OpenSpec.ofChange Rows.merkleBranchesSpec) false w args)
      (Rows.merkleBranchesSpec.post enc Tryd.prog Tryd.f12 false true false false) :=
  law_returnsL (tb := 4) merkleBranches_ok 8 (by kernel_rfl) started Tryd.func12 (by kernel_rfl) (by kernel_rfl) (by kernel_rfl) (by kernel_rfl) rfl (by kernel_rfl) (by kernel_rfl)
    (fun ds h => by match ds, h with | [a, b, c], _ => rfl) #[spotVal 0 ⟨none, 0⟩, .int .i64 0, .int .u64 0] (by kernel_rfl) (by kernel_rfl) (by kernel_rfl) (by kernel_rfl) (by kernel_rfl)
    (by rw [MakeChecks.laidMetH_plain _ _ _ (by kernel_rfl)]; exact laidMet_of_run' 8 (by kernel_rfl) (by kernel_rfl))

theorem merkleBranches_facts : joinedFacts Tryd.prog 12 Tryd.f12 Rows.merkleBranchesSpec Rows.merkleBranchesRow = true := by
  have h1 : (Rows.merkleBranchesRow.inPlace == Tryd.prog.inPlace 12) = true := by kernel_rfl
  have h2 : (Rows.merkleBranchesRow.unfollowed == Tryd.prog.unfollowed 12) = true := by kernel_rfl
  have h3 : (Rows.merkleBranchesRow.recurses == Tryd.prog.recurses 12) = true := by kernel_rfl
  have h4 : (Rows.merkleBranchesRow.named == Tryd.prog.varsNamed 12) = true := by kernel_rfl
  have h5 : (Rows.merkleBranchesRow.lifted == Tryd.prog.liftsFinal) = true := Tryd.lifts
  have h6 : (Tryd.prog.make == some Rows.merkleBranchesRow.make) = true := Tryd.made
  have h7 : (Rows.merkleBranchesRow.plainKeys == Tryd.prog.plainKeys) = true := Tryd.plain
  unfold joinedFacts
  rw [Tryd.isLaid, Tryd.isRowed, h1, h2, h3, h4, Tryd.isHeard, Tryd.mayIn, h5, h6, h7]
  show _ = true
  kernel_rfl

theorem merkleBranches_holds : Rows.MerkleBranchesSaid :=
  OpenClaim.holds_of_wide 12 Tryd.f12 rfl rfl rfl rfl rfl rfl rfl ⟨rfl, rfl, rfl, rfl, rfl⟩ rfl rfl rfl rfl rfl (by kernel_rfl) Tryd.func12 merkleBranches_facts
    (of_decide_eq_true (by kernel_rfl)) (by unfold Func.isWrapper; rw [if_neg (of_decide_eq_true (by kernel_rfl))]; exact ⟨rfl, rfl⟩)
    (fun os started H enc _ => merkleBranches_lifted os started H enc)

theorem merkleBranches_plainArgs : (Tryd.f12.params.toList.all fun t => !Tryd.prog.wantsStandIn t) = true := by kernel_rfl

theorem merkleBranches_named : Tryd.pinned.checked.prog.funcNamed Rows.merkleBranchesRow.func = some 12 := by kernel_rfl
theorem merkleBranches_wf : Rows.merkleBranchesRow.wfByText (OpenSpec.ofChange Rows.merkleBranchesSpec) = true := by kernel_rfl
theorem merkleBranches_goes : false = Rows.merkleBranchesRow.goesBy Tryd.pinned.checked.prog := by kernel_rfl
theorem merkleBranches_bare (f : FuncId) (fn : Func) (hf : Tryd.pinned.checked.prog.funcNamed Rows.merkleBranchesRow.func = some f) (hfn : Tryd.pinned.checked.prog.funcs[f]? = some fn) :
    false = Tryd.pinned.checked.prog.looks [] ∧ ∀ (j : Nat) t, fn.params[j]? = some t → Tryd.pinned.checked.prog.wantsStandIn t = false := by
  obtain rfl : f = 12 := (Option.some.inj (merkleBranches_named.symm.trans hf)).symm
  have e : some fn = some Tryd.f12 := hfn.symm.trans Tryd.func12
  obtain rfl := Option.some.inj e
  refine ⟨Tryd.noLooks, fun j t ht => ?_⟩
  have hm : t ∈ Tryd.f12.params.toList := List.mem_of_getElem? (by rw [Array.getElem?_toList]; exact ht)
  have h1 := List.all_eq_true.1 merkleBranches_plainArgs t hm
  have h2 : Tryd.prog.wantsStandIn t = false := by
    cases hw : Tryd.prog.wantsStandIn t with
    | false => rfl
    | true => rw [hw] at h1; cases h1
  exact h2

theorem merkleBranches_card : Rows.MerkleBranchesCardSaid :=
  Claim7.holds_tied_plain_at .later [] [.data] true (true, "a23171884e622362953752ea66e2d222cf2acf89889b4c7ca8ff3d91595b85ed") false
    merkleBranches_holds (fun _ h => by cases h) merkleBranches_wf (fun _ h => by cases h) merkleBranches_row_tie rfl ⟨rfl, rfl⟩ Tryd.isMain rfl merkleBranches_bare merkleBranches_goes
end Go.Proofs.YtaloefkkllebeaaDoor
