/- MerkleRoots, proved with the one condition that its row lists (the rounds' words of SHA-256 are laid, tied to the program's text): for every input the law answers true and every argument reads behind the call as it read before. -/
import Derived.Test.YtaloefkkllebeaaDoorSj7
import Derived.Test.YtaloefkkllebeaaDoorSd1
import Derived.SevenTiedAt
set_option linter.unusedVariables false
set_option linter.unusedSimpArgs false
set_option linter.unusedSectionVars false
set_option maxRecDepth 100000
namespace Go.Proofs.YtaloefkkllebeaaDoor
open Go Go.Sh Go.RowKit

theorem merkleRoots_lifted (os : Os) (started : os.Started) (H : Type) (enc : TypeId × Value → H) :
    ReturnsInHanded {} Tryd.checked os 11 .any (fun w args => (Rows.merkleRootsSpec.pre enc Tryd.prog Tryd.f11 [] false w args ∧ laidMetH Tryd.prog laidL w) ∧ sizedMet enc Tryd.prog Tryd.f11 (OpenSpec.ofChange Rows.merkleRootsSpec) false w args)
      (Rows.merkleRootsSpec.post enc Tryd.prog Tryd.f11 false true false false) :=
  law_returnsL (tb := 4) merkleRoots_ok 8 (by kernel_rfl) started Tryd.func11 (by kernel_rfl) (by kernel_rfl) (by kernel_rfl) (by kernel_rfl) rfl (by kernel_rfl) (by kernel_rfl)
    (fun ds h => by match ds, h with | [a, b, c], _ => rfl) #[spotVal 0 ⟨none, 0⟩, .int .i64 0, .int .i64 0] (by kernel_rfl) (by kernel_rfl) (by kernel_rfl) (by kernel_rfl) (by kernel_rfl)
    (by rw [MakeChecks.laidMetH_plain _ _ _ (by kernel_rfl)]; exact laidMet_of_run' 8 (by kernel_rfl) (by kernel_rfl))

theorem merkleRoots_facts : joinedFacts Tryd.prog 11 Tryd.f11 Rows.merkleRootsSpec Rows.merkleRootsRow = true := by
  have h1 : (Rows.merkleRootsRow.inPlace == Tryd.prog.inPlace 11) = true := by kernel_rfl
  have h2 : (Rows.merkleRootsRow.unfollowed == Tryd.prog.unfollowed 11) = true := by kernel_rfl
  have h3 : (Rows.merkleRootsRow.recurses == Tryd.prog.recurses 11) = true := by kernel_rfl
  have h4 : (Rows.merkleRootsRow.named == Tryd.prog.varsNamed 11) = true := by kernel_rfl
  have h5 : (Rows.merkleRootsRow.lifted == Tryd.prog.liftsFinal) = true := Tryd.lifts
  have h6 : (Tryd.prog.make == some Rows.merkleRootsRow.make) = true := Tryd.made
  have h7 : (Rows.merkleRootsRow.plainKeys == Tryd.prog.plainKeys) = true := Tryd.plain
  unfold joinedFacts
  rw [Tryd.isLaid, Tryd.isRowed, h1, h2, h3, h4, Tryd.isHeard, Tryd.mayIn, h5, h6, h7]
  show _ = true
  kernel_rfl

theorem merkleRoots_holds : Rows.MerkleRootsSaid :=
  OpenClaim.holds_of_wide 11 Tryd.f11 rfl rfl rfl rfl rfl rfl rfl ⟨rfl, rfl, rfl, rfl, rfl⟩ rfl rfl rfl rfl rfl (by kernel_rfl) Tryd.func11 merkleRoots_facts
    (of_decide_eq_true (by kernel_rfl)) (by unfold Func.isWrapper; rw [if_neg (of_decide_eq_true (by kernel_rfl))]; exact ⟨rfl, rfl⟩)
    (fun os started H enc _ => merkleRoots_lifted os started H enc)

theorem merkleRoots_plainArgs : (Tryd.f11.params.toList.all fun t => !Tryd.prog.wantsStandIn t) = true := by kernel_rfl

theorem merkleRoots_named : Tryd.pinned.checked.prog.funcNamed Rows.merkleRootsRow.func = some 11 := by kernel_rfl
theorem merkleRoots_wf : Rows.merkleRootsRow.wfByText (OpenSpec.ofChange Rows.merkleRootsSpec) = true := by kernel_rfl
theorem merkleRoots_goes : false = Rows.merkleRootsRow.goesBy Tryd.pinned.checked.prog := by kernel_rfl
theorem merkleRoots_bare (f : FuncId) (fn : Func) (hf : Tryd.pinned.checked.prog.funcNamed Rows.merkleRootsRow.func = some f) (hfn : Tryd.pinned.checked.prog.funcs[f]? = some fn) :
    false = Tryd.pinned.checked.prog.looks [] ∧ ∀ (j : Nat) t, fn.params[j]? = some t → Tryd.pinned.checked.prog.wantsStandIn t = false := by
  obtain rfl : f = 11 := (Option.some.inj (merkleRoots_named.symm.trans hf)).symm
  have e : some fn = some Tryd.f11 := hfn.symm.trans Tryd.func11
  obtain rfl := Option.some.inj e
  refine ⟨Tryd.noLooks, fun j t ht => ?_⟩
  have hm : t ∈ Tryd.f11.params.toList := List.mem_of_getElem? (by rw [Array.getElem?_toList]; exact ht)
  have h1 := List.all_eq_true.1 merkleRoots_plainArgs t hm
  have h2 : Tryd.prog.wantsStandIn t = false := by
    cases hw : Tryd.prog.wantsStandIn t with
    | false => rfl
    | true => rw [hw] at h1; cases h1
  exact h2

theorem merkleRoots_card : Rows.MerkleRootsCardSaid :=
  Claim7.holds_tied_plain_at .later [] [.data] true (true, "a23171884e622362953752ea66e2d222cf2acf89889b4c7ca8ff3d91595b85ed") false
    merkleRoots_holds (fun _ h => by cases h) merkleRoots_wf (fun _ h => by cases h) merkleRoots_row_tie rfl ⟨rfl, rfl⟩ Tryd.isMain rfl merkleRoots_bare merkleRoots_goes
end Go.Proofs.YtaloefkkllebeaaDoor
