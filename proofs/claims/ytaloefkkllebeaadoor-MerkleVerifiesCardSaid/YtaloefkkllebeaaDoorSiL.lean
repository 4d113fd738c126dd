/- MerkleVerifies, proved with the one condition that its row lists (the rounds' words of SHA-256 are laid, tied to the program's text): for every input the law answers true and every argument reads behind the call as it read before. -/
import Derived.Test.YtaloefkkllebeaaDoorSi4
import Derived.Test.YtaloefkkllebeaaDoorSd1
import Derived.SevenTiedAt
set_option linter.unusedVariables false
set_option linter.unusedSimpArgs false
set_option linter.unusedSectionVars false
set_option maxRecDepth 100000
namespace Go.Proofs.YtaloefkkllebeaaDoor
open Go Go.Sh Go.RowKit

theorem merkleVerifies_lifted (os : Os) (started : os.Started) (H : Type) (enc : TypeId × Value → H) :
    ReturnsInHanded {} Tryd.checked os 13 .any (fun w args => (Rows.merkleVerifiesSpec.pre enc Tryd.prog Tryd.f13 [] false w args ∧ laidMetH Tryd.prog laidL w) ∧ sizedMet enc Tryd.prog Tryd.f13 (OpenSpec.ofChange Rows.merkleVerifiesSpec) false w args)
      (Rows.merkleVerifiesSpec.post enc Tryd.prog Tryd.f13 false true false false) :=
  law_returnsL (tb := 4) merkleVerifies_ok 8 (by kernel_rfl) started Tryd.func13 (by kernel_rfl) (by kernel_rfl) (by kernel_rfl) (by kernel_rfl) rfl (by kernel_rfl) (by kernel_rfl)
    (fun ds h => by match ds, h with | [a, b, c, d, e], _ => rfl) #[.agg #[.int .u8 0, .int .u8 0, .int .u8 0, .int .u8 0, .int .u8 0, .int .u8 0, .int .u8 0, .int .u8 0, .int .u8 0, .int .u8 0, .int .u8 0, .int .u8 0, .int .u8 0, .int .u8 0, .int .u8 0, .int .u8 0, .int .u8 0, .int .u8 0, .int .u8 0, .int .u8 0, .int .u8 0, .int .u8 0, .int .u8 0, .int .u8 0, .int .u8 0, .int .u8 0, .int .u8 0, .int .u8 0, .int .u8 0, .int .u8 0, .int .u8 0, .int .u8 0], spotVal 0 ⟨none, 0⟩, .int .u64 0, .agg #[.int .u8 0, .int .u8 0, .int .u8 0, .int .u8 0, .int .u8 0, .int .u8 0, .int .u8 0, .int .u8 0, .int .u8 0, .int .u8 0, .int .u8 0, .int .u8 0, .int .u8 0, .int .u8 0, .int .u8 0, .int .u8 0, .int .u8 0, .int .u8 0, .int .u8 0, .int .u8 0, .int .u8 0, .int .u8 0, .int .u8 0, .int .u8 0, .int .u8 0, .int .u8 0, .int .u8 0, .int .u8 0, .int .u8 0, .int .u8 0, .int .u8 0, .int .u8 0], .bool false] (by kernel_rfl) (by kernel_rfl) (by kernel_rfl) (by kernel_rfl) (by kernel_rfl)
    (by rw [MakeChecks.laidMetH_plain _ _ _ (by kernel_rfl)]; exact laidMet_of_run' 8 (by kernel_rfl) (by kernel_rfl))

theorem merkleVerifies_facts : joinedFacts Tryd.prog 13 Tryd.f13 Rows.merkleVerifiesSpec Rows.merkleVerifiesRow = true := by
  have h1 : (Rows.merkleVerifiesRow.inPlace == Tryd.prog.inPlace 13) = true := by kernel_rfl
  have h2 : (Rows.merkleVerifiesRow.unfollowed == Tryd.prog.unfollowed 13) = true := by kernel_rfl
  have h3 : (Rows.merkleVerifiesRow.recurses == Tryd.prog.recurses 13) = true := by kernel_rfl
  have h4 : (Rows.merkleVerifiesRow.named == Tryd.prog.varsNamed 13) = true := by kernel_rfl
  have h5 : (Rows.merkleVerifiesRow.lifted == Tryd.prog.liftsFinal) = true := Tryd.lifts
  have h6 : (Tryd.prog.make == some Rows.merkleVerifiesRow.make) = true := Tryd.made
  have h7 : (Rows.merkleVerifiesRow.plainKeys == Tryd.prog.plainKeys) = true := Tryd.plain
  unfold joinedFacts
  rw [Tryd.isLaid, Tryd.isRowed, h1, h2, h3, h4, Tryd.isHeard, Tryd.mayIn, h5, h6, h7]
  show _ = true
  kernel_rfl

theorem merkleVerifies_holds : Rows.MerkleVerifiesSaid :=
  OpenClaim.holds_of_wide 13 Tryd.f13 rfl rfl rfl rfl rfl rfl rfl ⟨rfl, rfl, rfl, rfl, rfl⟩ rfl rfl rfl rfl rfl (by kernel_rfl) Tryd.func13 merkleVerifies_facts
    (of_decide_eq_true (by kernel_rfl)) (by unfold Func.isWrapper; rw [if_neg (of_decide_eq_true (by kernel_rfl))]; exact ⟨rfl, rfl⟩)
    (fun os started H enc _ => merkleVerifies_lifted os started H enc)

theorem merkleVerifies_plainArgs : (Tryd.f13.params.toList.all fun t => !Tryd.prog.wantsStandIn t) = true := by kernel_rfl

theorem merkleVerifies_named : Tryd.pinned.checked.prog.funcNamed Rows.merkleVerifiesRow.func = some 13 := by kernel_rfl
theorem merkleVerifies_wf : Rows.merkleVerifiesRow.wfByText (OpenSpec.ofChange Rows.merkleVerifiesSpec) = true := by kernel_rfl
theorem merkleVerifies_goes : false = Rows.merkleVerifiesRow.goesBy Tryd.pinned.checked.prog := by kernel_rfl
theorem merkleVerifies_bare (f : FuncId) (fn : Func) (hf : Tryd.pinned.checked.prog.funcNamed Rows.merkleVerifiesRow.func = some f) (hfn : Tryd.pinned.checked.prog.funcs[f]? = some fn) :
    false = Tryd.pinned.checked.prog.looks [] ∧ ∀ (j : Nat) t, fn.params[j]? = some t → Tryd.pinned.checked.prog.wantsStandIn t = false := by
  obtain rfl : f = 13 := (Option.some.inj (merkleVerifies_named.symm.trans hf)).symm
  have e : some fn = some Tryd.f13 := hfn.symm.trans Tryd.func13
  obtain rfl := Option.some.inj e
  refine ⟨Tryd.noLooks, fun j t ht => ?_⟩
  have hm : t ∈ Tryd.f13.params.toList := List.mem_of_getElem? (by rw [Array.getElem?_toList]; exact ht)
  have h1 := List.all_eq_true.1 merkleVerifies_plainArgs t hm
  have h2 : Tryd.prog.wantsStandIn t = false := by
    cases hw : Tryd.prog.wantsStandIn t with
    | false => rfl
    | true => rw [hw] at h1; cases h1
  exact h2

theorem merkleVerifies_card : Rows.MerkleVerifiesCardSaid :=
  Claim7.holds_tied_plain_at .later [] [.data] true (true, "a23171884e622362953752ea66e2d222cf2acf89889b4c7ca8ff3d91595b85ed") false
    merkleVerifies_holds (fun _ h => by cases h) merkleVerifies_wf (fun _ h => by cases h) merkleVerifies_row_tie rfl ⟨rfl, rfl⟩ Tryd.isMain rfl merkleVerifies_bare merkleVerifies_goes
end Go.Proofs.YtaloefkkllebeaaDoor
