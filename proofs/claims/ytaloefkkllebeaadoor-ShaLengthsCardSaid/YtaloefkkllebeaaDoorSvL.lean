/- ShaLengths, proved with the one condition that its row lists (the rounds' words of SHA-256 are laid, tied to the program's text): for every input the law answers true and every argument reads behind the call as it read before. -/
import Derived.Test.YtaloefkkllebeaaDoorSv1
import Derived.Test.YtaloefkkllebeaaDoorSd1
import Derived.SevenTiedAt
set_option linter.unusedVariables false
set_option linter.unusedSimpArgs false
set_option linter.unusedSectionVars false
set_option maxRecDepth 100000
namespace Go.Proofs.YtaloefkkllebeaaDoor
open Go Go.Sh Go.RowKit

theorem shaLengths_lifted (os : Os) (started : os.Started) (H : Type) (enc : TypeId × Value → H) :
    ReturnsInHanded {} Tryd.checked os 7 .any (fun w args => (Rows.shaLengthsSpec.pre enc Tryd.prog Tryd.f7 [] false w args ∧ laidMetH Tryd.prog laidL w) ∧ sizedMet enc Tryd.prog Tryd.f7 (OpenSpec.ofChange Rows.shaLengthsSpec) false w args)
      (Rows.shaLengthsSpec.post enc Tryd.prog Tryd.f7 false true false false) :=
  law_returnsL (tb := 4) shaLengths_ok 8 (by kernel_rfl) started Tryd.func7 (by kernel_rfl) (by kernel_rfl) (by kernel_rfl) (by kernel_rfl) rfl (by kernel_rfl) (by kernel_rfl)
    (fun ds h => by match ds, h with | [a, b], _ => rfl) #[.int .i64 0, .int .u8 0] (by kernel_rfl) (by kernel_rfl) (by kernel_rfl) (by kernel_rfl) (by kernel_rfl)
    (by rw [MakeChecks.laidMetH_plain _ _ _ (by kernel_rfl)]; exact laidMet_of_run' 8 (by kernel_rfl) (by kernel_rfl))

theorem shaLengths_facts : joinedFacts Tryd.prog 7 Tryd.f7 Rows.shaLengthsSpec Rows.shaLengthsRow = true := by
  have h1 : (Rows.shaLengthsRow.inPlace == Tryd.prog.inPlace 7) = true := by kernel_rfl
  have h2 : (Rows.shaLengthsRow.unfollowed == Tryd.prog.unfollowed 7) = true := by kernel_rfl
  have h3 : (Rows.shaLengthsRow.recurses == Tryd.prog.recurses 7) = true := by kernel_rfl
  have h4 : (Rows.shaLengthsRow.named == Tryd.prog.varsNamed 7) = true := by kernel_rfl
  have h5 : (Rows.shaLengthsRow.lifted == Tryd.prog.liftsFinal) = true := Tryd.lifts
  have h6 : (Tryd.prog.make == some Rows.shaLengthsRow.make) = true := Tryd.made
  have h7 : (Rows.shaLengthsRow.plainKeys == Tryd.prog.plainKeys) = true := Tryd.plain
  unfold joinedFacts
  rw [Tryd.isLaid, Tryd.isRowed, h1, h2, h3, h4, Tryd.isHeard, Tryd.mayIn, h5, h6, h7]
  show _ = true
  kernel_rfl

theorem shaLengths_holds : Rows.ShaLengthsSaid :=
  OpenClaim.holds_of_wide 7 Tryd.f7 rfl rfl rfl rfl rfl rfl rfl ⟨rfl, rfl, rfl, rfl, rfl⟩ rfl rfl rfl rfl rfl (by kernel_rfl) Tryd.func7 shaLengths_facts
    (of_decide_eq_true (by kernel_rfl)) (by unfold Func.isWrapper; rw [if_neg (of_decide_eq_true (by kernel_rfl))]; exact ⟨rfl, rfl⟩)
    (fun os started H enc _ => shaLengths_lifted os started H enc)

theorem shaLengths_plainArgs : (Tryd.f7.params.toList.all fun t => !Tryd.prog.wantsStandIn t) = true := by kernel_rfl

theorem shaLengths_named : Tryd.pinned.checked.prog.funcNamed Rows.shaLengthsRow.func = some 7 := by kernel_rfl
theorem shaLengths_wf : Rows.shaLengthsRow.wfByText (OpenSpec.ofChange Rows.shaLengthsSpec) = true := by kernel_rfl
theorem shaLengths_goes : false = Rows.shaLengthsRow.goesBy Tryd.pinned.checked.prog := by kernel_rfl
theorem shaLengths_bare (f : FuncId) (fn : Func) (hf : Tryd.pinned.checked.prog.funcNamed Rows.shaLengthsRow.func = some f) (hfn : Tryd.pinned.checked.prog.funcs[f]? = some fn) :
    false = Tryd.pinned.checked.prog.looks [] ∧ ∀ (j : Nat) t, fn.params[j]? = some t → Tryd.pinned.checked.prog.wantsStandIn t = false := by
  obtain rfl : f = 7 := (Option.some.inj (shaLengths_named.symm.trans hf)).symm
  have e : some fn = some Tryd.f7 := hfn.symm.trans Tryd.func7
  obtain rfl := Option.some.inj e
  refine ⟨Tryd.noLooks, fun j t ht => ?_⟩
  have hm : t ∈ Tryd.f7.params.toList := List.mem_of_getElem? (by rw [Array.getElem?_toList]; exact ht)
  have h1 := List.all_eq_true.1 shaLengths_plainArgs t hm
  have h2 : Tryd.prog.wantsStandIn t = false := by
    cases hw : Tryd.prog.wantsStandIn t with
    | false => rfl
    | true => rw [hw] at h1; cases h1
  exact h2

theorem shaLengths_card : Rows.ShaLengthsCardSaid :=
  Claim7.holds_tied_plain_at .later [] [.data] true (true, "a23171884e622362953752ea66e2d222cf2acf89889b4c7ca8ff3d91595b85ed") false
    shaLengths_holds (fun _ h => by cases h) shaLengths_wf (fun _ h => by cases h) shaLengths_row_tie rfl ⟨rfl, rfl⟩ Tryd.isMain rfl shaLengths_bare shaLengths_goes
end Go.Proofs.YtaloefkkllebeaaDoor
