/- MerkleAll, proved with the one condition that its row lists (the rounds' words of SHA-256 are laid, tied to the program's text): for every input the law answers true and every argument reads behind the call as it read before. -/
import Derived.Test.YtaloefkkllebeaaDoorSk5
import Derived.Test.YtaloefkkllebeaaDoorSd1
import Derived.SevenTiedAt
set_option linter.unusedVariables false
set_option linter.unusedSimpArgs false
set_option linter.unusedSectionVars false
set_option maxRecDepth 100000
namespace Go.Proofs.YtaloefkkllebeaaDoor
open Go Go.Sh Go.RowKit

theorem merkleAll_lifted (os : Os) (started : os.Started) (H : Type) (enc : TypeId × Value → H) :
    ReturnsInHanded {} Tryd.checked os 16 .any (fun w args => (Rows.merkleAllSpec.pre enc Tryd.prog Tryd.f16 [] false w args ∧ laidMetH Tryd.prog laidL w) ∧ sizedMet enc Tryd.prog Tryd.f16 (OpenSpec.ofChange Rows.merkleAllSpec) false w args)
      (Rows.merkleAllSpec.post enc Tryd.prog Tryd.f16 false true false false) :=
  law_returnsL (tb := 4) merkleAll_ok 8 (by kernel_rfl) started Tryd.func16 (by kernel_rfl) (by kernel_rfl) (by kernel_rfl) (by kernel_rfl) rfl (by kernel_rfl) (by kernel_rfl)
    (fun ds h => by match ds, h with | [a, b, c], _ => rfl) #[spotVal 0 ⟨none, 0⟩, .int .i64 0, .int .u64 0] (by kernel_rfl) (by kernel_rfl) (by kernel_rfl) (by kernel_rfl) (by kernel_rfl)
    (by rw [MakeChecks.laidMetH_plain _ _ _ (by kernel_rfl)]; exact laidMet_of_run' 8 (by kernel_rfl) (by kernel_rfl))

theorem merkleAll_facts : joinedFacts Tryd.prog 16 Tryd.f16 Rows.merkleAllSpec Rows.merkleAllRow = true := by
  have h1 : (Rows.merkleAllRow.inPlace == Tryd.prog.inPlace 16) = true := by kernel_rfl
  have h2 : (Rows.merkleAllRow.unfollowed == Tryd.prog.unfollowed 16) = true := by kernel_rfl
  have h3 : (Rows.merkleAllRow.recurses == Tryd.prog.recurses 16) = true := by kernel_rfl
  have h4 : (Rows.merkleAllRow.named == Tryd.prog.varsNamed 16) = true := by kernel_rfl
  have h5 : (Rows.merkleAllRow.lifted == Tryd.prog.liftsFinal) = true := Tryd.lifts
  have h6 : (Tryd.prog.make == some Rows.merkleAllRow.make) = true := Tryd.made
  have h7 : (Rows.merkleAllRow.plainKeys == Tryd.prog.plainKeys) = true := Tryd.plain
  unfold joinedFacts
  rw [Tryd.isLaid, Tryd.isRowed, h1, h2, h3, h4, Tryd.isHeard, Tryd.mayIn, h5, h6, h7]
  show _ = true
  kernel_rfl

theorem merkleAll_holds : Rows.MerkleAllSaid :=
  OpenClaim.holds_of_wide 16 Tryd.f16 rfl rfl rfl rfl rfl rfl rfl ⟨rfl, rfl, rfl, rfl, rfl⟩ rfl rfl rfl rfl rfl (by kernel_rfl) Tryd.func16 merkleAll_facts
    (of_decide_eq_true (by kernel_rfl)) (by unfold Func.isWrapper; rw [if_neg (of_decide_eq_true (by kernel_rfl))]; exact ⟨rfl, rfl⟩)
    (fun os started H enc _ => merkleAll_lifted os started H enc)

theorem merkleAll_plainArgs : (Tryd.f16.params.toList.all fun t => !Tryd.prog.wantsStandIn t) = true := by kernel_rfl

theorem merkleAll_named : Tryd.pinned.checked.prog.funcNamed Rows.merkleAllRow.func = some 16 := by kernel_rfl
theorem merkleAll_wf : Rows.merkleAllRow.wfByText (OpenSpec.ofChange Rows.merkleAllSpec) = true := by kernel_rfl
theorem merkleAll_goes : false = Rows.merkleAllRow.goesBy Tryd.pinned.checked.prog := by kernel_rfl
theorem merkleAll_bare (f : FuncId) (fn : Func) (hf : Tryd.pinned.checked.prog.funcNamed Rows.merkleAllRow.func = some f) (hfn : Tryd.pinned.checked.prog.funcs[f]? = some fn) :
    false = Tryd.pinned.checked.prog.looks [] ∧ ∀ (j : Nat) t, fn.params[j]? = some t → Tryd.pinned.checked.prog.wantsStandIn t = false := by
  obtain rfl : f = 16 := (Option.some.inj (merkleAll_named.symm.trans hf)).symm
  have e : some fn = some Tryd.f16 := hfn.symm.trans Tryd.func16
  obtain rfl := Option.some.inj e
  refine ⟨Tryd.noLooks, fun j t ht => ?_⟩
  have hm : t ∈ Tryd.f16.params.toList := List.mem_of_getElem? (by rw [Array.getElem?_toList]; exact ht)
  have h1 := List.all_eq_true.1 merkleAll_plainArgs t hm
  have h2 : Tryd.prog.wantsStandIn t = false := by
    cases hw : Tryd.prog.wantsStandIn t with
    | false => rfl
    | true => rw [hw] at h1; cases h1
  exact h2

theorem merkleAll_card : Rows.MerkleAllCardSaid :=
  Claim7.holds_tied_plain_at .later [] [.data] true (true, "a23171884e622362953752ea66e2d222cf2acf89889b4c7ca8ff3d91595b85ed") false
    merkleAll_holds (fun _ h => by cases h) merkleAll_wf (fun _ h => by cases h) merkleAll_row_tie rfl ⟨rfl, rfl⟩ Tryd.isMain rfl merkleAll_bare merkleAll_goes
end Go.Proofs.YtaloefkkllebeaaDoor
