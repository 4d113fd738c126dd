/- MerkleGrows, proved with the one condition that its row lists (the rounds' words of SHA-256 are laid, tied to the program's text): for every input the law answers true and every argument reads behind the call as it read before. -/
import Derived.Test.YtaloefkkllebeaaDoorSo1
import Derived.Test.YtaloefkkllebeaaDoorSd1
import Derived.SevenTiedAt
set_option linter.unusedVariables false
set_option linter.unusedSimpArgs false
set_option linter.unusedSectionVars false
set_option maxRecDepth 100000
namespace Go.Proofs.YtaloefkkllebeaaDoor
open Go Go.Sh Go.RowKit

theorem merkleGrows_lifted (os : Os) (started : os.Started) (H : Type) (enc : TypeId × Value → H) :
    ReturnsInHanded {} Tryd.checked os 15 .any (fun w args => (Rows.merkleGrowsSpec.pre enc Tryd.prog Tryd.f15 [] false w args ∧ laidMetH Tryd.prog laidL w) ∧ sizedMet enc Tryd.prog Tryd.f15 (OpenSpec.ofChange Rows.merkleGrowsSpec) false w args)
      (Rows.merkleGrowsSpec.post enc Tryd.prog Tryd.f15 false true false false) :=
  law_returnsL (tb := 4) merkleGrows_ok 8 (by kernel_rfl) started Tryd.func15 (by kernel_rfl) (by kernel_rfl) (by kernel_rfl) (by kernel_rfl) rfl (by kernel_rfl) (by kernel_rfl)
    (fun ds h => by match ds, h with | [a, b, c], _ => rfl) #[spotVal 0 ⟨none, 0⟩, .int .i64 0, .int .i64 0] (by kernel_rfl) (by kernel_rfl) (by kernel_rfl) (by kernel_rfl) (by kernel_rfl)
    (by rw [MakeChecks.laidMetH_plain _ _ _ (by kernel_rfl)]; exact laidMet_of_run' 8 (by kernel_rfl) (by kernel_rfl))

theorem merkleGrows_facts : joinedFacts Tryd.prog 15 Tryd.f15 Rows.merkleGrowsSpec Rows.merkleGrowsRow = true := by
  have h1 : (Rows.merkleGrowsRow.inPlace == Tryd.prog.inPlace 15) = true := by kernel_rfl
  have h2 : (Rows.merkleGrowsRow.unfollowed == Tryd.prog.unfollowed 15) = true := by kernel_rfl
  have h3 : (Rows.merkleGrowsRow.recurses == Tryd.prog.recurses 15) = true := by kernel_rfl
  have h4 : (Rows.merkleGrowsRow.named == Tryd.prog.varsNamed 15) = true := by kernel_rfl
  have h5 : (Rows.merkleGrowsRow.lifted == Tryd.prog.liftsFinal) = true := Tryd.lifts
  have h6 : (Tryd.prog.make == some Rows.merkleGrowsRow.make) = true := Tryd.made
  have h7 : (Rows.merkleGrowsRow.plainKeys == Tryd.prog.plainKeys) = true := Tryd.plain
  unfold joinedFacts
  rw [Tryd.isLaid, Tryd.isRowed, h1, h2, h3, h4, Tryd.isHeard, Tryd.mayIn, h5, h6, h7]
  show _ = true
  kernel_rfl

theorem merkleGrows_holds : Rows.MerkleGrowsSaid :=
  OpenClaim.holds_of_wide 15 Tryd.f15 rfl rfl rfl rfl rfl rfl rfl ⟨rfl, rfl, rfl, rfl, rfl⟩ rfl rfl rfl rfl rfl (by kernel_rfl) Tryd.func15 merkleGrows_facts
    (of_decide_eq_true (by kernel_rfl)) (by unfold Func.isWrapper; rw [if_neg (of_decide_eq_true (by kernel_rfl))]; exact ⟨rfl, rfl⟩)
    (fun os started H enc _ => merkleGrows_lifted os started H enc)

theorem merkleGrows_plainArgs : (Tryd.f15.params.toList.all fun t => !Tryd.prog.wantsStandIn t) = true := by kernel_rfl

theorem merkleGrows_named : Tryd.pinned.checked.prog.funcNamed Rows.merkleGrowsRow.func = some 15 := by kernel_rfl
theorem merkleGrows_wf : Rows.merkleGrowsRow.wfByText (OpenSpec.ofChange Rows.merkleGrowsSpec) = true := by kernel_rfl
theorem merkleGrows_goes : false = Rows.merkleGrowsRow.goesBy Tryd.pinned.checked.prog := by kernel_rfl
theorem merkleGrows_bare (f : FuncId) (fn : Func) (hf : Tryd.pinned.checked.prog.funcNamed Rows.merkleGrowsRow.func = some f) (hfn : Tryd.pinned.checked.prog.funcs[f]? = some fn) :
    false = Tryd.pinned.checked.prog.looks [] ∧ ∀ (j : Nat) t, fn.params[j]? = some t → Tryd.pinned.checked.prog.wantsStandIn t = false := by
  obtain rfl : f = 15 := (Option.some.inj (merkleGrows_named.symm.trans hf)).symm
  have e : some fn = some Tryd.f15 := hfn.symm.trans Tryd.func15
  obtain rfl := Option.some.inj e
  refine ⟨Tryd.noLooks, fun j t ht => ?_⟩
  have hm : t ∈ Tryd.f15.params.toList := List.mem_of_getElem? (by rw [Array.getElem?_toList]; exact ht)
  have h1 := List.all_eq_true.1 merkleGrows_plainArgs t hm
  have h2 : Tryd.prog.wantsStandIn t = false := by
    cases hw : Tryd.prog.wantsStandIn t with
    | false => rfl
    | true => rw [hw] at h1; cases h1
  exact h2

theorem merkleGrows_card : Rows.MerkleGrowsCardSaid :=
  Claim7.holds_tied_plain_at .later [] [.data] true (true, "a23171884e622362953752ea66e2d222cf2acf89889b4c7ca8ff3d91595b85ed") false
    merkleGrows_holds (fun _ h => by cases h) merkleGrows_wf (fun _ h => by cases h) merkleGrows_row_tie rfl ⟨rfl, rfl⟩ Tryd.isMain rfl merkleGrows_bare merkleGrows_goes
end Go.Proofs.YtaloefkkllebeaaDoor
