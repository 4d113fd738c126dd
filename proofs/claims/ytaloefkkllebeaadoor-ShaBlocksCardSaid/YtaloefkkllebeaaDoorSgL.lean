/- ShaBlocks, proved with the one condition that its row lists (the rounds' words of SHA-256 are laid, tied to the program's text): for every input the law answers true and every argument reads behind the call as it read before. -/
import Derived.Test.YtaloefkkllebeaaDoorSg3
import Derived.Test.YtaloefkkllebeaaDoorSd1
import Derived.SevenTiedAt
set_option linter.unusedVariables false
set_option linter.unusedSimpArgs false
set_option linter.unusedSectionVars false
set_option maxRecDepth 100000
namespace Go.Proofs.YtaloefkkllebeaaDoor
open Go Go.Sh Go.RowKit

theorem shaBlocks_lifted (os : Os) (started : os.Started) (H : Type) (enc : TypeId × Value → H) :
    ReturnsInHanded {} Tryd.checked os 4 .any (fun w args => (Rows.shaBlocksSpec.pre enc Tryd.prog Tryd.f4 [] false w args ∧ laidMetH Tryd.prog laidL w) ∧ sizedMet enc Tryd.prog Tryd.f4 (OpenSpec.ofChange Rows.shaBlocksSpec) false w args)
      (Rows.shaBlocksSpec.post enc Tryd.prog Tryd.f4 false true false false) :=
  law_returnsL (tb := 4) shaBlocks_ok 8 (by kernel_rfl) started Tryd.func4 (by kernel_rfl) (by kernel_rfl) (by kernel_rfl) (by kernel_rfl) rfl (by kernel_rfl) (by kernel_rfl)
    (fun ds h => by match ds, h with | [a, b], _ => rfl) #[spotVal 0 ⟨none, 0⟩, .int .i64 0] (by kernel_rfl) (by kernel_rfl) (by kernel_rfl) (by kernel_rfl) (by kernel_rfl)
    (by rw [MakeChecks.laidMetH_plain _ _ _ (by kernel_rfl)]; exact laidMet_of_run' 8 (by kernel_rfl) (by kernel_rfl))

theorem shaBlocks_facts : joinedFacts Tryd.prog 4 Tryd.f4 Rows.shaBlocksSpec Rows.shaBlocksRow = true := by
  have h1 : (Rows.shaBlocksRow.inPlace == Tryd.prog.inPlace 4) = true := by kernel_rfl
  have h2 : (Rows.shaBlocksRow.unfollowed == Tryd.prog.unfollowed 4) = true := by kernel_rfl
  have h3 : (Rows.shaBlocksRow.recurses == Tryd.prog.recurses 4) = true := by kernel_rfl
  have h4 : (Rows.shaBlocksRow.named == Tryd.prog.varsNamed 4) = true := by kernel_rfl
  have h5 : (Rows.shaBlocksRow.lifted == Tryd.prog.liftsFinal) = true := Tryd.lifts
  have h6 : (Tryd.prog.make == some Rows.shaBlocksRow.make) = true := Tryd.made
  have h7 : (Rows.shaBlocksRow.plainKeys == Tryd.prog.plainKeys) = true := Tryd.plain
  unfold joinedFacts
  rw [Tryd.isLaid, Tryd.isRowed, h1, h2, h3, h4, Tryd.isHeard, Tryd.mayIn, h5, h6, h7]
  show _ = true
  kernel_rfl

theorem shaBlocks_holds : Rows.ShaBlocksSaid :=
  OpenClaim.holds_of_wide 4 Tryd.f4 rfl rfl rfl rfl rfl rfl rfl ⟨rfl, rfl, rfl, rfl, rfl⟩ rfl rfl rfl rfl rfl (by kernel_rfl) Tryd.func4 shaBlocks_facts
    (of_decide_eq_true (by kernel_rfl)) (by unfold Func.isWrapper; rw [if_neg (of_decide_eq_true (by kernel_rfl))]; exact ⟨rfl, rfl⟩)
    (fun os started H enc _ => shaBlocks_lifted os started H enc)

theorem shaBlocks_plainArgs : (Tryd.f4.params.toList.all fun t => !Tryd.prog.wantsStandIn t) = true := by kernel_rfl

theorem shaBlocks_named : Tryd.pinned.checked.prog.funcNamed Rows.shaBlocksRow.func = some 4 := by kernel_rfl
theorem shaBlocks_wf : Rows.shaBlocksRow.wfByText (OpenSpec.ofChange Rows.shaBlocksSpec) = true := by kernel_rfl
theorem shaBlocks_goes : false = Rows.shaBlocksRow.goesBy Tryd.pinned.checked.prog := by kernel_rfl
theorem shaBlocks_bare (f : FuncId) (fn : Func) (hf : Tryd.pinned.checked.prog.funcNamed Rows.shaBlocksRow.func = some f) (hfn : Tryd.pinned.checked.prog.funcs[f]? = some fn) :
    false = Tryd.pinned.checked.prog.looks [] ∧ ∀ (j : Nat) t, fn.params[j]? = some t → Tryd.pinned.checked.prog.wantsStandIn t = false := by
  obtain rfl : f = 4 := (Option.some.inj (shaBlocks_named.symm.trans hf)).symm
  have e : some fn = some Tryd.f4 := hfn.symm.trans Tryd.func4
  obtain rfl := Option.some.inj e
  refine ⟨Tryd.noLooks, fun j t ht => ?_⟩
  have hm : t ∈ Tryd.f4.params.toList := List.mem_of_getElem? (by rw [Array.getElem?_toList]; exact ht)
  have h1 := List.all_eq_true.1 shaBlocks_plainArgs t hm
  have h2 : Tryd.prog.wantsStandIn t = false := by
    cases hw : Tryd.prog.wantsStandIn t with
    | false => rfl
    | true => rw [hw] at h1; cases h1
  exact h2

theorem shaBlocks_card : Rows.ShaBlocksCardSaid :=
  Claim7.holds_tied_plain_at .later [] [.data] true (true, "a23171884e622362953752ea66e2d222cf2acf89889b4c7ca8ff3d91595b85ed") false
    shaBlocks_holds (fun _ h => by cases h) shaBlocks_wf (fun _ h => by cases h) shaBlocks_row_tie rfl ⟨rfl, rfl⟩ Tryd.isMain rfl shaBlocks_bare shaBlocks_goes
end Go.Proofs.YtaloefkkllebeaaDoor
