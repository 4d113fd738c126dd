/- ShaSums, proved with the one condition that its row lists (the rounds' words of SHA-256 are laid, tied to the program's text): for every input the law answers true and every argument reads behind the call as it read before. -/
import Derived.Test.YtaloefkkllebeaaDoorSe1
import Derived.Test.YtaloefkkllebeaaDoorSd1
import Derived.SevenTiedAt
set_option linter.unusedVariables false
set_option linter.unusedSimpArgs false
set_option linter.unusedSectionVars false
set_option maxRecDepth 100000
namespace Go.Proofs.YtaloefkkllebeaaDoor
open Go Go.Sh Go.RowKit

theorem shaSums_lifted (os : Os) (started : os.Started) (H : Type) (enc : TypeId × Value → H) :
    ReturnsInHanded {} Tryd.checked os 3 .any (fun w args => (Rows.shaSumsSpec.pre enc Tryd.prog Tryd.f3 [] false w args ∧ laidMetH Tryd.prog laidL w) ∧ sizedMet enc Tryd.prog Tryd.f3 (OpenSpec.ofChange Rows.shaSumsSpec) false w args)
      (Rows.shaSumsSpec.post enc Tryd.prog Tryd.f3 false true false false) :=
  law_returnsL (tb := 4) shaSums_ok 8 (by kernel_rfl) started Tryd.func3 (by kernel_rfl) (by kernel_rfl) (by kernel_rfl) (by kernel_rfl) rfl (by kernel_rfl) (by kernel_rfl)
    (fun ds h => by match ds, h with | [a], _ => rfl) #[spotVal 0 ⟨none, 0⟩] (by kernel_rfl) (by kernel_rfl) (by kernel_rfl) (by kernel_rfl) (by kernel_rfl)
    (by rw [MakeChecks.laidMetH_plain _ _ _ (by kernel_rfl)]; exact laidMet_of_run' 8 (by kernel_rfl) (by kernel_rfl))

theorem shaSums_facts : joinedFacts Tryd.prog 3 Tryd.f3 Rows.shaSumsSpec Rows.shaSumsRow = true := by
  have h1 : (Rows.shaSumsRow.inPlace == Tryd.prog.inPlace 3) = true := by kernel_rfl
  have h2 : (Rows.shaSumsRow.unfollowed == Tryd.prog.unfollowed 3) = true := by kernel_rfl
  have h3 : (Rows.shaSumsRow.recurses == Tryd.prog.recurses 3) = true := by kernel_rfl
  have h4 : (Rows.shaSumsRow.named == Tryd.prog.varsNamed 3) = true := by kernel_rfl
  have h5 : (Rows.shaSumsRow.lifted == Tryd.prog.liftsFinal) = true := Tryd.lifts
  have h6 : (Tryd.prog.make == some Rows.shaSumsRow.make) = true := Tryd.made
  have h7 : (Rows.shaSumsRow.plainKeys == Tryd.prog.plainKeys) = true := Tryd.plain
  unfold joinedFacts
  rw [Tryd.isLaid, Tryd.isRowed, h1, h2, h3, h4, Tryd.isHeard, Tryd.mayIn, h5, h6, h7]
  show _ = true
  kernel_rfl

theorem shaSums_holds : Rows.ShaSumsSaid :=
  OpenClaim.holds_of_wide 3 Tryd.f3 rfl rfl rfl rfl rfl rfl rfl ⟨rfl, rfl, rfl, rfl, rfl⟩ rfl rfl rfl rfl rfl (by kernel_rfl) Tryd.func3 shaSums_facts
    (of_decide_eq_true (by kernel_rfl)) (by unfold Func.isWrapper; rw [if_neg (of_decide_eq_true (by kernel_rfl))]; exact ⟨rfl, rfl⟩)
    (fun os started H enc _ => shaSums_lifted os started H enc)

theorem shaSums_plainArgs : (Tryd.f3.params.toList.all fun t => !Tryd.prog.wantsStandIn t) = true := by kernel_rfl

theorem shaSums_named : Tryd.pinned.checked.prog.funcNamed Rows.shaSumsRow.func = some 3 := by kernel_rfl
theorem shaSums_wf : Rows.shaSumsRow.wfByText (OpenSpec.ofChange Rows.shaSumsSpec) = true := by kernel_rfl
theorem shaSums_goes : false = Rows.shaSumsRow.goesBy Tryd.pinned.checked.prog := by kernel_rfl
theorem shaSums_bare (f : FuncId) (fn : Func) (hf : Tryd.pinned.checked.prog.funcNamed Rows.shaSumsRow.func = some f) (hfn : Tryd.pinned.checked.prog.funcs[f]? = some fn) :
    false = Tryd.pinned.checked.prog.looks [] ∧ ∀ (j : Nat) t, fn.params[j]? = some t → Tryd.pinned.checked.prog.wantsStandIn t = false := by
  obtain rfl : f = 3 := (Option.some.inj (shaSums_named.symm.trans hf)).symm
  have e : some fn = some Tryd.f3 := hfn.symm.trans Tryd.func3
  obtain rfl := Option.some.inj e
  refine ⟨Tryd.noLooks, fun j t ht => ?_⟩
  have hm : t ∈ Tryd.f3.params.toList := List.mem_of_getElem? (by rw [Array.getElem?_toList]; exact ht)
  have h1 := List.all_eq_true.1 shaSums_plainArgs t hm
  have h2 : Tryd.prog.wantsStandIn t = false := by
    cases hw : Tryd.prog.wantsStandIn t with
    | false => rfl
    | true => rw [hw] at h1; cases h1
  exact h2

theorem shaSums_card : Rows.ShaSumsCardSaid :=
  Claim7.holds_tied_plain_at .later [] [.data] true (true, "a23171884e622362953752ea66e2d222cf2acf89889b4c7ca8ff3d91595b85ed") false
    shaSums_holds (fun _ h => by cases h) shaSums_wf (fun _ h => by cases h) shaSums_row_tie rfl ⟨rfl, rfl⟩ Tryd.isMain rfl shaSums_bare shaSums_goes
end Go.Proofs.YtaloefkkllebeaaDoor
