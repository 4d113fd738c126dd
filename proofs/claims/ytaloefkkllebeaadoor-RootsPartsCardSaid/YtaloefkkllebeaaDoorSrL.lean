/- RootsParts, proved with the one condition that its row lists (the rounds' words of SHA-256 are laid, tied to the program's text): for every input the law answers true and every argument reads behind the call as it read before. -/
import Derived.Test.YtaloefkkllebeaaDoorTr
import Derived.Test.YtaloefkkllebeaaDoorSd1
import Derived.SevenTiedAt
set_option linter.unusedVariables false
set_option linter.unusedSimpArgs false
set_option linter.unusedSectionVars false
set_option maxRecDepth 100000
namespace Go.Proofs.YtaloefkkllebeaaDoor
open Go Go.Sh Go.RowKit

theorem rootsParts_lifted (os : Os) (started : os.Started) (H : Type) (enc : TypeId × Value → H) :
    ReturnsInHanded {} Tryd.checked os 10 .any (fun w args => (Rows.rootsPartsSpec.pre enc Tryd.prog Tryd.f10 [] false w args ∧ laidMetH Tryd.prog laidL w) ∧ sizedMet enc Tryd.prog Tryd.f10 (OpenSpec.ofChange Rows.rootsPartsSpec) false w args)
      (Rows.rootsPartsSpec.post enc Tryd.prog Tryd.f10 false true false false) :=
  law_returnsL (tb := 4) rootsParts_ok 8 (by kernel_rfl) started Tryd.func10 (by kernel_rfl) (by kernel_rfl) (by kernel_rfl) (by kernel_rfl) rfl (by kernel_rfl) (by kernel_rfl)
    (fun ds h => by match ds, h with | [a, b], _ => rfl) #[.agg #[.int .u8 0, .int .u8 0, .int .u8 0, .int .u8 0, .int .u8 0, .int .u8 0, .int .u8 0, .int .u8 0, .int .u8 0, .int .u8 0, .int .u8 0, .int .u8 0, .int .u8 0, .int .u8 0, .int .u8 0, .int .u8 0, .int .u8 0, .int .u8 0, .int .u8 0, .int .u8 0, .int .u8 0, .int .u8 0, .int .u8 0, .int .u8 0, .int .u8 0, .int .u8 0, .int .u8 0, .int .u8 0, .int .u8 0, .int .u8 0, .int .u8 0, .int .u8 0, .int .u8 0, .int .u8 0, .int .u8 0, .int .u8 0, .int .u8 0, .int .u8 0, .int .u8 0, .int .u8 0, .int .u8 0, .int .u8 0, .int .u8 0, .int .u8 0, .int .u8 0, .int .u8 0, .int .u8 0, .int .u8 0], .agg #[spotVal 0 ⟨none, 0⟩, .int .u8 0, .int .u8 0, .int .u8 0, .int .u8 0, .int .u8 0, .int .u8 0, .int .u8 0, .int .u8 0, .int .u8 0, .int .u8 0, .int .u8 0, .int .u8 0, .int .u8 0, .int .u8 0, .int .u8 0, .int .u8 0, .int .u8 0, .int .u8 0, .int .u8 0, .int .u8 0, .int .u8 0, .int .u8 0, .int .u8 0, .int .u8 0, .int .u8 0, .int .u8 0, .int .u8 0, .int .u8 0, .int .u8 0, .int .u8 0, .int .u8 0, .int .u8 0, .int .u8 0, .int .u8 0, .int .u8 0, .int .u8 0, .int .u8 0, .int .u8 0, .int .u8 0, .int .u8 0, .int .u8 0, .int .u8 0, .int .u8 0, .int .u8 0, .int .u8 0, .int .u8 0, .int .u8 0, .int .u8 0, .int .u8 0, .int .u8 0, .int .u8 0, .int .u8 0, .int .u8 0, .int .u8 0, .int .u8 0, .int .u8 0, .int .u8 0, .int .u8 0, .int .u8 0, .int .u8 0, .int .u8 0, .int .u8 0, .int .u8 0, .int .u8 0, .int .u8 0, .int .u8 0, .int .u8 0, .int .u8 0, .int .u8 0, .int .u8 0, .int .u8 0, .int .u8 0, .int .u8 0, .int .u8 0, .int .u8 0, .int .u8 0, .int .u8 0, .int .u8 0, .int .u8 0, .int .u8 0, .int .u8 0, .int .u8 0, .int .u8 0, .int .u8 0, .int .u8 0, .int .u8 0, .int .u8 0, .int .u8 0, .int .u8 0, .int .u8 0, .int .u8 0, .int .u8 0, .int .u8 0, .int .u8 0, .int .u8 0, .int .u8 0]] (by kernel_rfl) (by kernel_rfl) (by kernel_rfl) (by kernel_rfl) (by kernel_rfl)
    (by rw [MakeChecks.laidMetH_plain _ _ _ (by kernel_rfl)]; exact laidMet_of_run' 8 (by kernel_rfl) (by kernel_rfl))

theorem rootsParts_facts : joinedFacts Tryd.prog 10 Tryd.f10 Rows.rootsPartsSpec Rows.rootsPartsRow = true := by
  have h1 : (Rows.rootsPartsRow.inPlace == Tryd.prog.inPlace 10) = true := by kernel_rfl
  have h2 : (Rows.rootsPartsRow.unfollowed == Tryd.prog.unfollowed 10) = true := by kernel_rfl
  have h3 : (Rows.rootsPartsRow.recurses == Tryd.prog.recurses 10) = true := by kernel_rfl
  have h4 : (Rows.rootsPartsRow.named == Tryd.prog.varsNamed 10) = true := by kernel_rfl
  have h5 : (Rows.rootsPartsRow.lifted == Tryd.prog.liftsFinal) = true := Tryd.lifts
  have h6 : (Tryd.prog.make == some Rows.rootsPartsRow.make) = true := Tryd.made
  have h7 : (Rows.rootsPartsRow.plainKeys == Tryd.prog.plainKeys) = true := Tryd.plain
  unfold joinedFacts
  rw [Tryd.isLaid, Tryd.isRowed, h1, h2, h3, h4, Tryd.isHeard, Tryd.mayIn, h5, h6, h7]
  show _ = true
  kernel_rfl

theorem rootsParts_holds : Rows.RootsPartsSaid :=
  OpenClaim.holds_of_wide 10 Tryd.f10 rfl rfl rfl rfl rfl rfl rfl ⟨rfl, rfl, rfl, rfl, rfl⟩ rfl rfl rfl rfl rfl (by kernel_rfl) Tryd.func10 rootsParts_facts
    (of_decide_eq_true (by kernel_rfl)) (by unfold Func.isWrapper; rw [if_neg (of_decide_eq_true (by kernel_rfl))]; exact ⟨rfl, rfl⟩)
    (fun os started H enc _ => rootsParts_lifted os started H enc)

theorem rootsParts_plainArgs : (Tryd.f10.params.toList.all fun t => !Tryd.prog.wantsStandIn t) = true := by kernel_rfl

theorem rootsParts_named : Tryd.pinned.checked.prog.funcNamed Rows.rootsPartsRow.func = some 10 := by kernel_rfl
theorem rootsParts_wf : Rows.rootsPartsRow.wfByText (OpenSpec.ofChange Rows.rootsPartsSpec) = true := by kernel_rfl
theorem rootsParts_goes : false = Rows.rootsPartsRow.goesBy Tryd.pinned.checked.prog := by kernel_rfl
theorem rootsParts_bare (f : FuncId) (fn : Func) (hf : Tryd.pinned.checked.prog.funcNamed Rows.rootsPartsRow.func = some f) (hfn : Tryd.pinned.checked.prog.funcs[f]? = some fn) :
    false = Tryd.pinned.checked.prog.looks [] ∧ ∀ (j : Nat) t, fn.params[j]? = some t → Tryd.pinned.checked.prog.wantsStandIn t = false := by
  obtain rfl : f = 10 := (Option.some.inj (rootsParts_named.symm.trans hf)).symm
  have e : some fn = some Tryd.f10 := hfn.symm.trans Tryd.func10
  obtain rfl := Option.some.inj e
  refine ⟨Tryd.noLooks, fun j t ht => ?_⟩
  have hm : t ∈ Tryd.f10.params.toList := List.mem_of_getElem? (by rw [Array.getElem?_toList]; exact ht)
  have h1 := List.all_eq_true.1 rootsParts_plainArgs t hm
  have h2 : Tryd.prog.wantsStandIn t = false := by
    cases hw : Tryd.prog.wantsStandIn t with
    | false => rfl
    | true => rw [hw] at h1; cases h1
  exact h2

theorem rootsParts_card : Rows.RootsPartsCardSaid :=
  Claim7.holds_tied_plain_at .later [] [.data] true (true, "a23171884e622362953752ea66e2d222cf2acf89889b4c7ca8ff3d91595b85ed") false
    rootsParts_holds (fun _ h => by cases h) rootsParts_wf (fun _ h => by cases h) rootsParts_row_tie rfl ⟨rfl, rfl⟩ Tryd.isMain rfl rootsParts_bare rootsParts_goes
end Go.Proofs.YtaloefkkllebeaaDoor
