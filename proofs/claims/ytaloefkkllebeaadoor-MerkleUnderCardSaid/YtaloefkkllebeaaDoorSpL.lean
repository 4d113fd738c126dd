/- MerkleUnder, proved with the one condition that its row lists (the rounds' words of SHA-256 are laid, tied to the program's text): for every input the law answers true and every argument reads behind the call as it read before. -/
import Derived.Test.YtaloefkkllebeaaDoorSp4
import Derived.Test.YtaloefkkllebeaaDoorSd1
import Derived.SevenTiedAt
set_option linter.unusedVariables false
set_option linter.unusedSimpArgs false
set_option linter.unusedSectionVars false
set_option maxRecDepth 100000
namespace Go.Proofs.YtaloefkkllebeaaDoor
open Go Go.Sh Go.RowKit

theorem merkleUnder_lifted (os : Os) (started : os.Started) (H : Type) (enc : TypeId × Value → H) :
    ReturnsInHanded {} Tryd.checked os 17 .any (fun w args => (Rows.merkleUnderSpec.pre enc Tryd.prog Tryd.f17 [] false w args ∧ laidMetH Tryd.prog laidL w) ∧ sizedMet enc Tryd.prog Tryd.f17 (OpenSpec.ofChange Rows.merkleUnderSpec) false w args)
      (Rows.merkleUnderSpec.post enc Tryd.prog Tryd.f17 false true false false) :=
  law_returnsL (tb := 4) merkleUnder_ok 8 (by kernel_rfl) started Tryd.func17 (by kernel_rfl) (by kernel_rfl) (by kernel_rfl) (by kernel_rfl) rfl (by kernel_rfl) (by kernel_rfl)
    (fun ds h => by match ds, h with | [a, b, c, d], _ => rfl) #[spotVal 0 ⟨none, 0⟩, spotVal 0 ⟨none, 0⟩, .int .i64 0, .int .u64 0] (by kernel_rfl) (by kernel_rfl) (by kernel_rfl) (by kernel_rfl) (by kernel_rfl)
    (by rw [MakeChecks.laidMetH_plain _ _ _ (by kernel_rfl)]; exact laidMet_of_run' 8 (by kernel_rfl) (by kernel_rfl))

theorem merkleUnder_facts : joinedFacts Tryd.prog 17 Tryd.f17 Rows.merkleUnderSpec Rows.merkleUnderRow = true := by
  have h1 : (Rows.merkleUnderRow.inPlace == Tryd.prog.inPlace 17) = true := by kernel_rfl
  have h2 : (Rows.merkleUnderRow.unfollowed == Tryd.prog.unfollowed 17) = true := by kernel_rfl
  have h3 : (Rows.merkleUnderRow.recurses == Tryd.prog.recurses 17) = true := by kernel_rfl
  have h4 : (Rows.merkleUnderRow.named == Tryd.prog.varsNamed 17) = true := by kernel_rfl
  have h5 : (Rows.merkleUnderRow.lifted == Tryd.prog.liftsFinal) = true := Tryd.lifts
  have h6 : (Tryd.prog.make == some Rows.merkleUnderRow.make) = true := Tryd.made
  have h7 : (Rows.merkleUnderRow.plainKeys == Tryd.prog.plainKeys) = true := Tryd.plain
  unfold joinedFacts
  rw [Tryd.isLaid, Tryd.isRowed, h1, h2, h3, h4, Tryd.isHeard, Tryd.mayIn, h5, h6, h7]
  show _ = true
  kernel_rfl

theorem merkleUnder_holds : Rows.MerkleUnderSaid :=
  OpenClaim.holds_of_wide 17 Tryd.f17 rfl rfl rfl rfl rfl rfl rfl ⟨rfl, rfl, rfl, rfl, rfl⟩ rfl rfl rfl rfl rfl (by kernel_rfl) Tryd.func17 merkleUnder_facts
    (of_decide_eq_true (by kernel_rfl)) (by unfold Func.isWrapper; rw [if_neg (of_decide_eq_true (by kernel_rfl))]; exact ⟨rfl, rfl⟩)
    (fun os started H enc _ => merkleUnder_lifted os started H enc)

theorem merkleUnder_plainArgs : (Tryd.f17.params.toList.all fun t => !Tryd.prog.wantsStandIn t) = true := by kernel_rfl

theorem merkleUnder_named : Tryd.pinned.checked.prog.funcNamed Rows.merkleUnderRow.func = some 17 := by kernel_rfl
theorem merkleUnder_wf : Rows.merkleUnderRow.wfByText (OpenSpec.ofChange Rows.merkleUnderSpec) = true := by kernel_rfl
theorem merkleUnder_goes : false = Rows.merkleUnderRow.goesBy Tryd.pinned.checked.prog := by kernel_rfl
theorem merkleUnder_bare (f : FuncId) (fn : Func) (hf : Tryd.pinned.checked.prog.funcNamed Rows.merkleUnderRow.func = some f) (hfn : Tryd.pinned.checked.prog.funcs[f]? = some fn) :
    false = Tryd.pinned.checked.prog.looks [] ∧ ∀ (j : Nat) t, fn.params[j]? = some t → Tryd.pinned.checked.prog.wantsStandIn t = false := by
  obtain rfl : f = 17 := (Option.some.inj (merkleUnder_named.symm.trans hf)).symm
  have e : some fn = some Tryd.f17 := hfn.symm.trans Tryd.func17
  obtain rfl := Option.some.inj e
  refine ⟨Tryd.noLooks, fun j t ht => ?_⟩
  have hm : t ∈ Tryd.f17.params.toList := List.mem_of_getElem? (by rw [Array.getElem?_toList]; exact ht)
  have h1 := List.all_eq_true.1 merkleUnder_plainArgs t hm
  have h2 : Tryd.prog.wantsStandIn t = false := by
    cases hw : Tryd.prog.wantsStandIn t with
    | false => rfl
    | true => rw [hw] at h1; cases h1
  exact h2

theorem merkleUnder_card : Rows.MerkleUnderCardSaid :=
  Claim7.holds_tied_plain_at .later [] [.data] true (true, "a23171884e622362953752ea66e2d222cf2acf89889b4c7ca8ff3d91595b85ed") false
    merkleUnder_holds (fun _ h => by cases h) merkleUnder_wf (fun _ h => by cases h) merkleUnder_row_tie rfl ⟨rfl, rfl⟩ Tryd.isMain rfl merkleUnder_bare merkleUnder_goes
end Go.Proofs.YtaloefkkllebeaaDoor
