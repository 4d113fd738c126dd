/- MerkleSteps, proved with the one condition that its row lists (the rounds' words of SHA-256 are laid, tied to the program's text): for every input the law answers true and every argument reads behind the call as it read before. -/
import Derived.Test.YtaloefkkllebeaaDoorSn3
import Derived.Test.YtaloefkkllebeaaDoorSd1
import Derived.SevenTiedAt
set_option linter.unusedVariables false
set_option linter.unusedSimpArgs false
set_option linter.unusedSectionVars false
set_option maxRecDepth 100000
namespace Go.Proofs.YtaloefkkllebeaaDoor
open Go Go.Sh Go.RowKit

theorem merkleSteps_lifted (os : Os) (started : os.Started) (H : Type) (enc : TypeId × Value → H) :
    ReturnsInHanded {} Tryd.checked os 14 .any (fun w args => (Rows.merkleStepsSpec.pre enc Tryd.prog Tryd.f14 [] false w args ∧ laidMetH Tryd.prog laidL w) ∧ sizedMet enc Tryd.prog Tryd.f14 (OpenSpec.ofChange Rows.merkleStepsSpec) false w args)
      (Rows.merkleStepsSpec.post enc Tryd.prog Tryd.f14 false true false false) :=
  law_returnsL (tb := 4) merkleSteps_ok 8 (by kernel_rfl) started Tryd.func14 (by kernel_rfl) (by kernel_rfl) (by kernel_rfl) (by kernel_rfl) rfl (by kernel_rfl) (by kernel_rfl)
    (fun ds h => by match ds, h with | [a, b, c], _ => rfl) #[.int .u64 0, .int .i64 0, .int .i64 0] (by kernel_rfl) (by kernel_rfl) (by kernel_rfl) (by kernel_rfl) (by kernel_rfl)
    (by rw [MakeChecks.laidMetH_plain _ _ _ (by kernel_rfl)]; exact laidMet_of_run' 8 (by kernel_rfl) (by kernel_rfl))

theorem merkleSteps_facts : joinedFacts Tryd.prog 14 Tryd.f14 Rows.merkleStepsSpec Rows.merkleStepsRow = true := by
  have h1 : (Rows.merkleStepsRow.inPlace == Tryd.prog.inPlace 14) = true := by kernel_rfl
  have h2 : (Rows.merkleStepsRow.unfollowed == Tryd.prog.unfollowed 14) = true := by kernel_rfl
  have h3 : (Rows.merkleStepsRow.recurses == Tryd.prog.recurses 14) = true := by kernel_rfl
  have h4 : (Rows.merkleStepsRow.named == Tryd.prog.varsNamed 14) = true := by kernel_rfl
  have h5 : (Rows.merkleStepsRow.lifted == Tryd.prog.liftsFinal) = true := Tryd.lifts
  have h6 : (Tryd.prog.make == some Rows.merkleStepsRow.make) = true := Tryd.made
  have h7 : (Rows.merkleStepsRow.plainKeys == Tryd.prog.plainKeys) = true := Tryd.plain
  unfold joinedFacts
  rw [Tryd.isLaid, Tryd.isRowed, h1, h2, h3, h4, Tryd.isHeard, Tryd.mayIn, h5, h6, h7]
  show _ = true
  kernel_rfl

theorem merkleSteps_holds : Rows.MerkleStepsSaid :=
  OpenClaim.holds_of_wide 14 Tryd.f14 rfl rfl rfl rfl rfl rfl rfl ⟨rfl, rfl, rfl, rfl, rfl⟩ rfl rfl rfl rfl rfl (by kernel_rfl) Tryd.func14 merkleSteps_facts
    (of_decide_eq_true (by kernel_rfl)) (by unfold Func.isWrapper; rw [if_neg (of_decide_eq_true (by kernel_rfl))]; exact ⟨rfl, rfl⟩)
    (fun os started H enc _ => merkleSteps_lifted os started H enc)

theorem merkleSteps_plainArgs : (Tryd.f14.params.toList.all fun t => !Tryd.prog.wantsStandIn t) = true := by kernel_rfl

theorem merkleSteps_named : Tryd.pinned.checked.prog.funcNamed Rows.merkleStepsRow.func = some 14 := by kernel_rfl
theorem merkleSteps_wf : Rows.merkleStepsRow.wfByText (OpenSpec.ofChange Rows.merkleStepsSpec) = true := by kernel_rfl
theorem merkleSteps_goes : false = Rows.merkleStepsRow.goesBy Tryd.pinned.checked.prog := by kernel_rfl
theorem merkleSteps_bare (f : FuncId) (fn : Func) (hf : Tryd.pinned.checked.prog.funcNamed Rows.merkleStepsRow.func = some f) (hfn : Tryd.pinned.checked.prog.funcs[f]? = some fn) :
    false = Tryd.pinned.checked.prog.looks [] ∧ ∀ (j : Nat) t, fn.params[j]? = some t → Tryd.pinned.checked.prog.wantsStandIn t = false := by
  obtain rfl : f = 14 := (Option.some.inj (merkleSteps_named.symm.trans hf)).symm
  have e : some fn = some Tryd.f14 := hfn.symm.trans Tryd.func14
  obtain rfl := Option.some.inj e
  refine ⟨Tryd.noLooks, fun j t ht => ?_⟩
  have hm : t ∈ Tryd.f14.params.toList := List.mem_of_getElem? (by rw [Array.getElem?_toList]; exact ht)
  have h1 := List.all_eq_true.1 merkleSteps_plainArgs t hm
  have h2 : Tryd.prog.wantsStandIn t = false := by
    cases hw : Tryd.prog.wantsStandIn t with
    | false => rfl
    | true => rw [hw] at h1; cases h1
  exact h2

theorem merkleSteps_card : Rows.MerkleStepsCardSaid :=
  Claim7.holds_tied_plain_at .later [] [.data] true (true, "a23171884e622362953752ea66e2d222cf2acf89889b4c7ca8ff3d91595b85ed") false
    merkleSteps_holds (fun _ h => by cases h) merkleSteps_wf (fun _ h => by cases h) merkleSteps_row_tie rfl ⟨rfl, rfl⟩ Tryd.isMain rfl merkleSteps_bare merkleSteps_goes
end Go.Proofs.YtaloefkkllebeaaDoor
