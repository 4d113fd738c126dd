/- DomainHangs, proved with the one condition that its row lists (the rounds' words of SHA-256 are laid, tied to the program's text): for every input the law answers true and every argument reads behind the call as it read before. -/
import Derived.Test.YtaloefkkllebeaaDoorSu4
import Derived.Test.YtaloefkkllebeaaDoorSd1
import Derived.SevenTiedAt
set_option linter.unusedVariables false
set_option linter.unusedSimpArgs false
set_option linter.unusedSectionVars false
set_option maxRecDepth 100000
namespace Go.Proofs.YtaloefkkllebeaaDoor
open Go Go.Sh Go.RowKit

theorem domainHangs_lifted (os : Os) (started : os.Started) (H : Type) (enc : TypeId × Value → H) :
    ReturnsInHanded {} Tryd.checked os 19 .any (fun w args => (Rows.domainHangsSpec.pre enc Tryd.prog Tryd.f19 [] false w args ∧ laidMetH Tryd.prog laidL w) ∧ sizedMet enc Tryd.prog Tryd.f19 (OpenSpec.ofChange Rows.domainHangsSpec) false w args)
      (Rows.domainHangsSpec.post enc Tryd.prog Tryd.f19 false true false false) :=
  law_returnsL (tb := 4) domainHangs_ok 8 (by kernel_rfl) started Tryd.func19 (by kernel_rfl) (by kernel_rfl) (by kernel_rfl) (by kernel_rfl) rfl (by kernel_rfl) (by kernel_rfl)
    (fun ds h => by match ds, h with | [a, b, c, d], _ => rfl) #[.agg #[.int .u8 0, .int .u8 0, .int .u8 0, .int .u8 0, .int .u8 0, .int .u8 0, .int .u8 0, .int .u8 0, .int .u8 0, .int .u8 0, .int .u8 0, .int .u8 0, .int .u8 0, .int .u8 0, .int .u8 0, .int .u8 0, .int .u8 0, .int .u8 0, .int .u8 0, .int .u8 0, .int .u8 0, .int .u8 0, .int .u8 0, .int .u8 0, .int .u8 0, .int .u8 0, .int .u8 0, .int .u8 0, .int .u8 0, .int .u8 0, .int .u8 0, .int .u8 0, .int .u8 0, .int .u8 0, .int .u8 0, .int .u8 0, .int .u64 0, .int .u64 0, .int .i64 0], .agg #[.int .u64 0, .int .u64 0, .int .u8 0, .int .u8 0, .int .u8 0, .int .u8 0, .int .u8 0, .int .u8 0, .int .u8 0, .int .u8 0, .int .u8 0, .int .u8 0, .int .u8 0, .int .u8 0, .int .u8 0, .int .u8 0, .int .u8 0, .int .u8 0, .int .u8 0, .int .u8 0, .int .u8 0, .int .u8 0, .int .u8 0, .int .u8 0, .int .u8 0, .int .u8 0, .int .u8 0, .int .u8 0, .int .u8 0, .int .u8 0, .int .u8 0, .int .u8 0, .int .u8 0, .int .u8 0, .int .u8 0, .int .u8 0, .int .u8 0, .int .u8 0, .int .u8 0, .int .u8 0, .int .u8 0, .int .u8 0, .int .u8 0, .int .u8 0, .int .u8 0, .int .u8 0, .int .u8 0, .int .u8 0, .int .u8 0, .int .u8 0, .int .u8 0, .int .u8 0, .int .u8 0, .int .u8 0, .int .u8 0, .int .u8 0, .int .u8 0, .int .u8 0, .int .u8 0, .int .u8 0, .int .u8 0, .int .u8 0, .int .u8 0, .int .u8 0, .int .u8 0, .int .u8 0, .int .u8 0, .int .u8 0, .int .u8 0, .int .u8 0, .int .u8 0, .int .u8 0, .int .u8 0, .int .u8 0, .int .u8 0, .int .u8 0, .int .u8 0, .int .u8 0, .int .u8 0, .int .u8 0, .int .u8 0, .int .u8 0, .int .u8 0, .int .u8 0, .int .u8 0, .int .u8 0, .int .u8 0, .int .u8 0, .int .u8 0, .int .u8 0, .int .u8 0, .int .u8 0, .int .u8 0, .int .u8 0, .int .u8 0, .int .u8 0, .int .u8 0, .int .u8 0], .int .i64 0, .int .i64 0] (by kernel_rfl) (by kernel_rfl) (by kernel_rfl) (by kernel_rfl) (by kernel_rfl)
    (by rw [MakeChecks.laidMetH_plain _ _ _ (by kernel_rfl)]; exact laidMet_of_run' 8 (by kernel_rfl) (by kernel_rfl))

theorem domainHangs_facts : joinedFacts Tryd.prog 19 Tryd.f19 Rows.domainHangsSpec Rows.domainHangsRow = true := by
  have h1 : (Rows.domainHangsRow.inPlace == Tryd.prog.inPlace 19) = true := by kernel_rfl
  have h2 : (Rows.domainHangsRow.unfollowed == Tryd.prog.unfollowed 19) = true := by kernel_rfl
  have h3 : (Rows.domainHangsRow.recurses == Tryd.prog.recurses 19) = true := by kernel_rfl
  have h4 : (Rows.domainHangsRow.named == Tryd.prog.varsNamed 19) = true := by kernel_rfl
  have h5 : (Rows.domainHangsRow.lifted == Tryd.prog.liftsFinal) = true := Tryd.lifts
  have h6 : (Tryd.prog.make == some Rows.domainHangsRow.make) = true := Tryd.made
  have h7 : (Rows.domainHangsRow.plainKeys == Tryd.prog.plainKeys) = true := Tryd.plain
  unfold joinedFacts
  rw [Tryd.isLaid, Tryd.isRowed, h1, h2, h3, h4, Tryd.isHeard, Tryd.mayIn, h5, h6, h7]
  show _ = true
  kernel_rfl

theorem domainHangs_holds : Rows.DomainHangsSaid :=
  OpenClaim.holds_of_wide 19 Tryd.f19 rfl rfl rfl rfl rfl rfl rfl ⟨rfl, rfl, rfl, rfl, rfl⟩ rfl rfl rfl rfl rfl (by kernel_rfl) Tryd.func19 domainHangs_facts
    (of_decide_eq_true (by kernel_rfl)) (by unfold Func.isWrapper; rw [if_neg (of_decide_eq_true (by kernel_rfl))]; exact ⟨rfl, rfl⟩)
    (fun os started H enc _ => domainHangs_lifted os started H enc)

theorem domainHangs_plainArgs : (Tryd.f19.params.toList.all fun t => !Tryd.prog.wantsStandIn t) = true := by kernel_rfl

theorem domainHangs_named : Tryd.pinned.checked.prog.funcNamed Rows.domainHangsRow.func = some 19 := by kernel_rfl
theorem domainHangs_wf : Rows.domainHangsRow.wfByText (OpenSpec.ofChange Rows.domainHangsSpec) = true := by kernel_rfl
theorem domainHangs_goes : false = Rows.domainHangsRow.goesBy Tryd.pinned.checked.prog := by kernel_rfl
theorem domainHangs_bare (f : FuncId) (fn : Func) (hf : Tryd.pinned.checked.prog.funcNamed Rows.domainHangsRow.func = some f) (hfn : Tryd.pinned.checked.prog.funcs[f]? = some fn) :
    false = Tryd.pinned.checked.prog.looks [] ∧ ∀ (j : Nat) t, fn.params[j]? = some t → Tryd.pinned.checked.prog.wantsStandIn t = false := by
  obtain rfl : f = 19 := (Option.some.inj (domainHangs_named.symm.trans hf)).symm
  have e : some fn = some Tryd.f19 := hfn.symm.trans Tryd.func19
  obtain rfl := Option.some.inj e
  refine ⟨Tryd.noLooks, fun j t ht => ?_⟩
  have hm : t ∈ Tryd.f19.params.toList := List.mem_of_getElem? (by rw [Array.getElem?_toList]; exact ht)
  have h1 := List.all_eq_true.1 domainHangs_plainArgs t hm
  have h2 : Tryd.prog.wantsStandIn t = false := by
    cases hw : Tryd.prog.wantsStandIn t with
    | false => rfl
    | true => rw [hw] at h1; cases h1
  exact h2

theorem domainHangs_card : Rows.DomainHangsCardSaid :=
  Claim7.holds_tied_plain_at .later [] [.data] true (true, "a23171884e622362953752ea66e2d222cf2acf89889b4c7ca8ff3d91595b85ed") false
    domainHangs_holds (fun _ h => by cases h) domainHangs_wf (fun _ h => by cases h) domainHangs_row_tie rfl ⟨rfl, rfl⟩ Tryd.isMain rfl domainHangs_bare domainHangs_goes
end Go.Proofs.YtaloefkkllebeaaDoor
