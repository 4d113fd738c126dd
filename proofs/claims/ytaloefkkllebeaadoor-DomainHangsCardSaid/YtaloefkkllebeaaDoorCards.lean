/-
  DERIVED. GIVEN WITH THE SEED: THE CARDS: each row of YtaloefkkllebeaaDoorRows.lean that lists a variable, with what it lists TIED to the program's text (the seventh form; the later family's looks); each row that meets fmt, with fmt's text TOLD by the authors' own Lean function (tested against real Go, not proved from fmt's source: count such statements apart). THE CARD IS WHAT COUNTS. Prove the row's statement (the work); the ties are given (YtaloefkkllebeaaDoorTie.lean); close each card by the builder's one call (the guide's Derived/Test/ToyasCard.lean, 'card_holds'). Laid BY PROGRAM, IN A SANDBOX (cutbox-door.mjs). By AI agents, Wed Nov 11 2026. No macro, syntax, notation, axiom, sorry.
-/
import Derived.Test.YtaloefkkllebeaaDoorRows
import GoSem.ClaimSeven
namespace Go.Proofs.YtaloefkkllebeaaDoor
namespace Rows

/-- THE TIED CARD OF 'pharoslaw1.ShaSums'. -/
def shaSumsCard : Claim7 := { stood := { row := shaSumsRow, standIns := [], harness := (true, "a23171884e622362953752ea66e2d222cf2acf89889b4c7ca8ff3d91595b85ed"), looks := false }, kinds := [], alts := [], laidByText := true, laidKinds := [.data], laidTests := true, laidLooks := .later }
def ShaSumsCardSaid : Prop := Claim7.holds Tryd.pinned (.plain (OpenSpec.ofChange shaSumsSpec)) shaSumsCard

/-- THE TIED CARD OF 'pharoslaw1.ShaBlocks'. -/
def shaBlocksCard : Claim7 := { stood := { row := shaBlocksRow, standIns := [], harness := (true, "a23171884e622362953752ea66e2d222cf2acf89889b4c7ca8ff3d91595b85ed"), looks := false }, kinds := [], alts := [], laidByText := true, laidKinds := [.data], laidTests := true, laidLooks := .later }
def ShaBlocksCardSaid : Prop := Claim7.holds Tryd.pinned (.plain (OpenSpec.ofChange shaBlocksSpec)) shaBlocksCard

/-- THE TIED CARD OF 'pharoslaw1.ShaPairs'. -/
def shaPairsCard : Claim7 := { stood := { row := shaPairsRow, standIns := [], harness := (true, "a23171884e622362953752ea66e2d222cf2acf89889b4c7ca8ff3d91595b85ed"), looks := false }, kinds := [], alts := [], laidByText := true, laidKinds := [.data], laidTests := true, laidLooks := .later }
def ShaPairsCardSaid : Prop := Claim7.holds Tryd.pinned (.plain (OpenSpec.ofChange shaPairsSpec)) shaPairsCard

/-- THE TIED CARD OF 'pharoslaw1.ShaPieces'. -/
def shaPiecesCard : Claim7 := { stood := { row := shaPiecesRow, standIns := [], harness := (true, "a23171884e622362953752ea66e2d222cf2acf89889b4c7ca8ff3d91595b85ed"), looks := false }, kinds := [], alts := [], laidByText := true, laidKinds := [.data], laidTests := true, laidLooks := .later }
def ShaPiecesCardSaid : Prop := Claim7.holds Tryd.pinned (.plain (OpenSpec.ofChange shaPiecesSpec)) shaPiecesCard

/-- THE TIED CARD OF 'pharoslaw1.ShaLengths'. -/
def shaLengthsCard : Claim7 := { stood := { row := shaLengthsRow, standIns := [], harness := (true, "a23171884e622362953752ea66e2d222cf2acf89889b4c7ca8ff3d91595b85ed"), looks := false }, kinds := [], alts := [], laidByText := true, laidKinds := [.data], laidTests := true, laidLooks := .later }
def ShaLengthsCardSaid : Prop := Claim7.holds Tryd.pinned (.plain (OpenSpec.ofChange shaLengthsSpec)) shaLengthsCard

/-- THE TIED CARD OF 'pharoslaw20.RootsFields'. -/
def rootsFieldsCard : Claim7 := { stood := { row := rootsFieldsRow, standIns := [], harness := (true, "a23171884e622362953752ea66e2d222cf2acf89889b4c7ca8ff3d91595b85ed"), looks := false }, kinds := [], alts := [], laidByText := true, laidKinds := [.data], laidTests := true, laidLooks := .later }
def RootsFieldsCardSaid : Prop := Claim7.holds Tryd.pinned (.plain (OpenSpec.ofChange rootsFieldsSpec)) rootsFieldsCard

/-- THE TIED CARD OF 'pharoslaw20.RootsTell'. -/
def rootsTellCard : Claim7 := { stood := { row := rootsTellRow, standIns := [], harness := (true, "a23171884e622362953752ea66e2d222cf2acf89889b4c7ca8ff3d91595b85ed"), looks := false }, kinds := [], alts := [], laidByText := true, laidKinds := [.data], laidTests := true, laidLooks := .later }
def RootsTellCardSaid : Prop := Claim7.holds Tryd.pinned (.plain (OpenSpec.ofChange rootsTellSpec)) rootsTellCard

/-- THE TIED CARD OF 'pharoslaw20.RootsParts'. -/
def rootsPartsCard : Claim7 := { stood := { row := rootsPartsRow, standIns := [], harness := (true, "a23171884e622362953752ea66e2d222cf2acf89889b4c7ca8ff3d91595b85ed"), looks := false }, kinds := [], alts := [], laidByText := true, laidKinds := [.data], laidTests := true, laidLooks := .later }
def RootsPartsCardSaid : Prop := Claim7.holds Tryd.pinned (.plain (OpenSpec.ofChange rootsPartsSpec)) rootsPartsCard

/-- THE TIED CARD OF 'pharoslaw18.MerkleRoots'. -/
def merkleRootsCard : Claim7 := { stood := { row := merkleRootsRow, standIns := [], harness := (true, "a23171884e622362953752ea66e2d222cf2acf89889b4c7ca8ff3d91595b85ed"), looks := false }, kinds := [], alts := [], laidByText := true, laidKinds := [.data], laidTests := true, laidLooks := .later }
def MerkleRootsCardSaid : Prop := Claim7.holds Tryd.pinned (.plain (OpenSpec.ofChange merkleRootsSpec)) merkleRootsCard

/-- THE TIED CARD OF 'pharoslaw18.MerkleBranches'. -/
def merkleBranchesCard : Claim7 := { stood := { row := merkleBranchesRow, standIns := [], harness := (true, "a23171884e622362953752ea66e2d222cf2acf89889b4c7ca8ff3d91595b85ed"), looks := false }, kinds := [], alts := [], laidByText := true, laidKinds := [.data], laidTests := true, laidLooks := .later }
def MerkleBranchesCardSaid : Prop := Claim7.holds Tryd.pinned (.plain (OpenSpec.ofChange merkleBranchesSpec)) merkleBranchesCard

/-- THE TIED CARD OF 'pharoslaw18.MerkleVerifies'. -/
def merkleVerifiesCard : Claim7 := { stood := { row := merkleVerifiesRow, standIns := [], harness := (true, "a23171884e622362953752ea66e2d222cf2acf89889b4c7ca8ff3d91595b85ed"), looks := false }, kinds := [], alts := [], laidByText := true, laidKinds := [.data], laidTests := true, laidLooks := .later }
def MerkleVerifiesCardSaid : Prop := Claim7.holds Tryd.pinned (.plain (OpenSpec.ofChange merkleVerifiesSpec)) merkleVerifiesCard

/-- THE TIED CARD OF 'pharoslaw18.MerkleSteps'. -/
def merkleStepsCard : Claim7 := { stood := { row := merkleStepsRow, standIns := [], harness := (true, "a23171884e622362953752ea66e2d222cf2acf89889b4c7ca8ff3d91595b85ed"), looks := false }, kinds := [], alts := [], laidByText := true, laidKinds := [.data], laidTests := true, laidLooks := .later }
def MerkleStepsCardSaid : Prop := Claim7.holds Tryd.pinned (.plain (OpenSpec.ofChange merkleStepsSpec)) merkleStepsCard

/-- THE TIED CARD OF 'pharoslaw18.MerkleGrows'. -/
def merkleGrowsCard : Claim7 := { stood := { row := merkleGrowsRow, standIns := [], harness := (true, "a23171884e622362953752ea66e2d222cf2acf89889b4c7ca8ff3d91595b85ed"), looks := false }, kinds := [], alts := [], laidByText := true, laidKinds := [.data], laidTests := true, laidLooks := .later }
def MerkleGrowsCardSaid : Prop := Claim7.holds Tryd.pinned (.plain (OpenSpec.ofChange merkleGrowsSpec)) merkleGrowsCard

/-- THE TIED CARD OF 'pharoslaw18.MerkleAll'. -/
def merkleAllCard : Claim7 := { stood := { row := merkleAllRow, standIns := [], harness := (true, "a23171884e622362953752ea66e2d222cf2acf89889b4c7ca8ff3d91595b85ed"), looks := false }, kinds := [], alts := [], laidByText := true, laidKinds := [.data], laidTests := true, laidLooks := .later }
def MerkleAllCardSaid : Prop := Claim7.holds Tryd.pinned (.plain (OpenSpec.ofChange merkleAllSpec)) merkleAllCard

/-- THE TIED CARD OF 'pharoslaw18.MerkleUnder'. -/
def merkleUnderCard : Claim7 := { stood := { row := merkleUnderRow, standIns := [], harness := (true, "a23171884e622362953752ea66e2d222cf2acf89889b4c7ca8ff3d91595b85ed"), looks := false }, kinds := [], alts := [], laidByText := true, laidKinds := [.data], laidTests := true, laidLooks := .later }
def MerkleUnderCardSaid : Prop := Claim7.holds Tryd.pinned (.plain (OpenSpec.ofChange merkleUnderSpec)) merkleUnderCard

/-- THE TIED CARD OF 'pharoslaw22.DomainTells'. -/
def domainTellsCard : Claim7 := { stood := { row := domainTellsRow, standIns := [], harness := (true, "a23171884e622362953752ea66e2d222cf2acf89889b4c7ca8ff3d91595b85ed"), looks := false }, kinds := [], alts := [], laidByText := true, laidKinds := [.data], laidTests := true, laidLooks := .later }
def DomainTellsCardSaid : Prop := Claim7.holds Tryd.pinned (.plain (OpenSpec.ofChange domainTellsSpec)) domainTellsCard

/-- THE TIED CARD OF 'pharoslaw22.DomainHangs'. -/
def domainHangsCard : Claim7 := { stood := { row := domainHangsRow, standIns := [], harness := (true, "a23171884e622362953752ea66e2d222cf2acf89889b4c7ca8ff3d91595b85ed"), looks := false }, kinds := [], alts := [], laidByText := true, laidKinds := [.data], laidTests := true, laidLooks := .later }
def DomainHangsCardSaid : Prop := Claim7.holds Tryd.pinned (.plain (OpenSpec.ofChange domainHangsSpec)) domainHangsCard

/-- THE TIED CARD OF 'pharoslaw13.XmdExpands'. -/
def xmdExpandsCard : Claim7 := { stood := { row := xmdExpandsRow, standIns := [], harness := (true, "a23171884e622362953752ea66e2d222cf2acf89889b4c7ca8ff3d91595b85ed"), looks := false }, kinds := [], alts := [], laidByText := true, laidKinds := [.data], laidTests := true, laidLooks := .later }
def XmdExpandsCardSaid : Prop := Claim7.holds Tryd.pinned (.plain (OpenSpec.ofChange xmdExpandsSpec)) xmdExpandsCard

/-- THE TIED CARD OF 'pharoslaw13.XmdLengths'. -/
def xmdLengthsCard : Claim7 := { stood := { row := xmdLengthsRow, standIns := [], harness := (true, "a23171884e622362953752ea66e2d222cf2acf89889b4c7ca8ff3d91595b85ed"), looks := false }, kinds := [], alts := [], laidByText := true, laidKinds := [.data], laidTests := true, laidLooks := .later }
def XmdLengthsCardSaid : Prop := Claim7.holds Tryd.pinned (.plain (OpenSpec.ofChange xmdLengthsSpec)) xmdLengthsCard

/-- THE TIED CARD OF 'pharoslaw13.XmdFields'. -/
def xmdFieldsCard : Claim7 := { stood := { row := xmdFieldsRow, standIns := [], harness := (true, "a23171884e622362953752ea66e2d222cf2acf89889b4c7ca8ff3d91595b85ed"), looks := false }, kinds := [], alts := [], laidByText := true, laidKinds := [.data], laidTests := true, laidLooks := .later }
def XmdFieldsCardSaid : Prop := Claim7.holds Tryd.pinned (.plain (OpenSpec.ofChange xmdFieldsSpec)) xmdFieldsCard

/-- THE TIED CARD OF 'pharoslaw26.TextHeaders'. -/
def textHeadersCard : Claim7 := { stood := { row := textHeadersRow, standIns := [], harness := (true, "a23171884e622362953752ea66e2d222cf2acf89889b4c7ca8ff3d91595b85ed"), looks := false }, kinds := [], alts := [], laidByText := true, laidKinds := [.data, .data, .data, .data], laidTests := true, laidLooks := .later }
def TextHeadersCardSaid : Prop := Claim7.holds Tryd.pinned (.plain (OpenSpec.ofChange textHeadersSpec)) textHeadersCard

/-- THE SECOND FORM's CARD OF 'pharoslaw1.ShaSums'. -/
def shaSumsUptoCard : Claim7 := { stood := { row := shaSumsUptoRow, standIns := [], harness := (true, "a23171884e622362953752ea66e2d222cf2acf89889b4c7ca8ff3d91595b85ed"), looks := false }, kinds := [], alts := [], laidByText := true, laidKinds := [.data], laidTests := true, laidLooks := .later }
def ShaSumsUptoCardSaid : Prop := Claim7.holds Tryd.pinned (.plain (OpenSpec.upto shaSumsSpec)) shaSumsUptoCard

/-- THE SECOND FORM's CARD OF 'pharoslaw1.ShaBlocks'. -/
def shaBlocksUptoCard : Claim7 := { stood := { row := shaBlocksUptoRow, standIns := [], harness := (true, "a23171884e622362953752ea66e2d222cf2acf89889b4c7ca8ff3d91595b85ed"), looks := false }, kinds := [], alts := [], laidByText := true, laidKinds := [.data], laidTests := true, laidLooks := .later }
def ShaBlocksUptoCardSaid : Prop := Claim7.holds Tryd.pinned (.plain (OpenSpec.upto shaBlocksSpec)) shaBlocksUptoCard

/-- THE SECOND FORM's CARD OF 'pharoslaw1.ShaPairs'. -/
def shaPairsUptoCard : Claim7 := { stood := { row := shaPairsUptoRow, standIns := [], harness := (true, "a23171884e622362953752ea66e2d222cf2acf89889b4c7ca8ff3d91595b85ed"), looks := false }, kinds := [], alts := [], laidByText := true, laidKinds := [.data], laidTests := true, laidLooks := .later }
def ShaPairsUptoCardSaid : Prop := Claim7.holds Tryd.pinned (.plain (OpenSpec.upto shaPairsSpec)) shaPairsUptoCard

/-- THE SECOND FORM's CARD OF 'pharoslaw1.ShaPieces'. -/
def shaPiecesUptoCard : Claim7 := { stood := { row := shaPiecesUptoRow, standIns := [], harness := (true, "a23171884e622362953752ea66e2d222cf2acf89889b4c7ca8ff3d91595b85ed"), looks := false }, kinds := [], alts := [], laidByText := true, laidKinds := [.data], laidTests := true, laidLooks := .later }
def ShaPiecesUptoCardSaid : Prop := Claim7.holds Tryd.pinned (.plain (OpenSpec.upto shaPiecesSpec)) shaPiecesUptoCard

/-- THE SECOND FORM's CARD OF 'pharoslaw1.ShaLengths'. -/
def shaLengthsUptoCard : Claim7 := { stood := { row := shaLengthsUptoRow, standIns := [], harness := (true, "a23171884e622362953752ea66e2d222cf2acf89889b4c7ca8ff3d91595b85ed"), looks := false }, kinds := [], alts := [], laidByText := true, laidKinds := [.data], laidTests := true, laidLooks := .later }
def ShaLengthsUptoCardSaid : Prop := Claim7.holds Tryd.pinned (.plain (OpenSpec.upto shaLengthsSpec)) shaLengthsUptoCard

/-- THE SECOND FORM's CARD OF 'pharoslaw20.RootsFields'. -/
def rootsFieldsUptoCard : Claim7 := { stood := { row := rootsFieldsUptoRow, standIns := [], harness := (true, "a23171884e622362953752ea66e2d222cf2acf89889b4c7ca8ff3d91595b85ed"), looks := false }, kinds := [], alts := [], laidByText := true, laidKinds := [.data], laidTests := true, laidLooks := .later }
def RootsFieldsUptoCardSaid : Prop := Claim7.holds Tryd.pinned (.plain (OpenSpec.upto rootsFieldsSpec)) rootsFieldsUptoCard

/-- THE SECOND FORM's CARD OF 'pharoslaw20.RootsTell'. -/
def rootsTellUptoCard : Claim7 := { stood := { row := rootsTellUptoRow, standIns := [], harness := (true, "a23171884e622362953752ea66e2d222cf2acf89889b4c7ca8ff3d91595b85ed"), looks := false }, kinds := [], alts := [], laidByText := true, laidKinds := [.data], laidTests := true, laidLooks := .later }
def RootsTellUptoCardSaid : Prop := Claim7.holds Tryd.pinned (.plain (OpenSpec.upto rootsTellSpec)) rootsTellUptoCard

/-- THE SECOND FORM's CARD OF 'pharoslaw20.RootsParts'. -/
def rootsPartsUptoCard : Claim7 := { stood := { row := rootsPartsUptoRow, standIns := [], harness := (true, "a23171884e622362953752ea66e2d222cf2acf89889b4c7ca8ff3d91595b85ed"), looks := false }, kinds := [], alts := [], laidByText := true, laidKinds := [.data], laidTests := true, laidLooks := .later }
def RootsPartsUptoCardSaid : Prop := Claim7.holds Tryd.pinned (.plain (OpenSpec.upto rootsPartsSpec)) rootsPartsUptoCard

/-- THE SECOND FORM's CARD OF 'pharoslaw18.MerkleRoots'. -/
def merkleRootsUptoCard : Claim7 := { stood := { row := merkleRootsUptoRow, standIns := [], harness := (true, "a23171884e622362953752ea66e2d222cf2acf89889b4c7ca8ff3d91595b85ed"), looks := false }, kinds := [], alts := [], laidByText := true, laidKinds := [.data], laidTests := true, laidLooks := .later }
def MerkleRootsUptoCardSaid : Prop := Claim7.holds Tryd.pinned (.plain (OpenSpec.upto merkleRootsSpec)) merkleRootsUptoCard

/-- THE SECOND FORM's CARD OF 'pharoslaw18.MerkleBranches'. -/
def merkleBranchesUptoCard : Claim7 := { stood := { row := merkleBranchesUptoRow, standIns := [], harness := (true, "a23171884e622362953752ea66e2d222cf2acf89889b4c7ca8ff3d91595b85ed"), looks := false }, kinds := [], alts := [], laidByText := true, laidKinds := [.data], laidTests := true, laidLooks := .later }
def MerkleBranchesUptoCardSaid : Prop := Claim7.holds Tryd.pinned (.plain (OpenSpec.upto merkleBranchesSpec)) merkleBranchesUptoCard

/-- THE SECOND FORM's CARD OF 'pharoslaw18.MerkleVerifies'. -/
def merkleVerifiesUptoCard : Claim7 := { stood := { row := merkleVerifiesUptoRow, standIns := [], harness := (true, "a23171884e622362953752ea66e2d222cf2acf89889b4c7ca8ff3d91595b85ed"), looks := false }, kinds := [], alts := [], laidByText := true, laidKinds := [.data], laidTests := true, laidLooks := .later }
def MerkleVerifiesUptoCardSaid : Prop := Claim7.holds Tryd.pinned (.plain (OpenSpec.upto merkleVerifiesSpec)) merkleVerifiesUptoCard

/-- THE SECOND FORM's CARD OF 'pharoslaw18.MerkleSteps'. -/
def merkleStepsUptoCard : Claim7 := { stood := { row := merkleStepsUptoRow, standIns := [], harness := (true, "a23171884e622362953752ea66e2d222cf2acf89889b4c7ca8ff3d91595b85ed"), looks := false }, kinds := [], alts := [], laidByText := true, laidKinds := [.data], laidTests := true, laidLooks := .later }
def MerkleStepsUptoCardSaid : Prop := Claim7.holds Tryd.pinned (.plain (OpenSpec.upto merkleStepsSpec)) merkleStepsUptoCard

/-- THE SECOND FORM's CARD OF 'pharoslaw18.MerkleGrows'. -/
def merkleGrowsUptoCard : Claim7 := { stood := { row := merkleGrowsUptoRow, standIns := [], harness := (true, "a23171884e622362953752ea66e2d222cf2acf89889b4c7ca8ff3d91595b85ed"), looks := false }, kinds := [], alts := [], laidByText := true, laidKinds := [.data], laidTests := true, laidLooks := .later }
def MerkleGrowsUptoCardSaid : Prop := Claim7.holds Tryd.pinned (.plain (OpenSpec.upto merkleGrowsSpec)) merkleGrowsUptoCard

/-- THE SECOND FORM's CARD OF 'pharoslaw18.MerkleAll'. -/
def merkleAllUptoCard : Claim7 := { stood := { row := merkleAllUptoRow, standIns := [], harness := (true, "a23171884e622362953752ea66e2d222cf2acf89889b4c7ca8ff3d91595b85ed"), looks := false }, kinds := [], alts := [], laidByText := true, laidKinds := [.data], laidTests := true, laidLooks := .later }
def MerkleAllUptoCardSaid : Prop := Claim7.holds Tryd.pinned (.plain (OpenSpec.upto merkleAllSpec)) merkleAllUptoCard

/-- THE SECOND FORM's CARD OF 'pharoslaw18.MerkleUnder'. -/
def merkleUnderUptoCard : Claim7 := { stood := { row := merkleUnderUptoRow, standIns := [], harness := (true, "a23171884e622362953752ea66e2d222cf2acf89889b4c7ca8ff3d91595b85ed"), looks := false }, kinds := [], alts := [], laidByText := true, laidKinds := [.data], laidTests := true, laidLooks := .later }
def MerkleUnderUptoCardSaid : Prop := Claim7.holds Tryd.pinned (.plain (OpenSpec.upto merkleUnderSpec)) merkleUnderUptoCard

/-- THE SECOND FORM's CARD OF 'pharoslaw22.DomainTells'. -/
def domainTellsUptoCard : Claim7 := { stood := { row := domainTellsUptoRow, standIns := [], harness := (true, "a23171884e622362953752ea66e2d222cf2acf89889b4c7ca8ff3d91595b85ed"), looks := false }, kinds := [], alts := [], laidByText := true, laidKinds := [.data], laidTests := true, laidLooks := .later }
def DomainTellsUptoCardSaid : Prop := Claim7.holds Tryd.pinned (.plain (OpenSpec.upto domainTellsSpec)) domainTellsUptoCard

/-- THE SECOND FORM's CARD OF 'pharoslaw22.DomainHangs'. -/
def domainHangsUptoCard : Claim7 := { stood := { row := domainHangsUptoRow, standIns := [], harness := (true, "a23171884e622362953752ea66e2d222cf2acf89889b4c7ca8ff3d91595b85ed"), looks := false }, kinds := [], alts := [], laidByText := true, laidKinds := [.data], laidTests := true, laidLooks := .later }
def DomainHangsUptoCardSaid : Prop := Claim7.holds Tryd.pinned (.plain (OpenSpec.upto domainHangsSpec)) domainHangsUptoCard

/-- THE SECOND FORM's CARD OF 'pharoslaw13.XmdExpands'. -/
def xmdExpandsUptoCard : Claim7 := { stood := { row := xmdExpandsUptoRow, standIns := [], harness := (true, "a23171884e622362953752ea66e2d222cf2acf89889b4c7ca8ff3d91595b85ed"), looks := false }, kinds := [], alts := [], laidByText := true, laidKinds := [.data], laidTests := true, laidLooks := .later }
def XmdExpandsUptoCardSaid : Prop := Claim7.holds Tryd.pinned (.plain (OpenSpec.upto xmdExpandsSpec)) xmdExpandsUptoCard

/-- THE SECOND FORM's CARD OF 'pharoslaw13.XmdLengths'. -/
def xmdLengthsUptoCard : Claim7 := { stood := { row := xmdLengthsUptoRow, standIns := [], harness := (true, "a23171884e622362953752ea66e2d222cf2acf89889b4c7ca8ff3d91595b85ed"), looks := false }, kinds := [], alts := [], laidByText := true, laidKinds := [.data], laidTests := true, laidLooks := .later }
def XmdLengthsUptoCardSaid : Prop := Claim7.holds Tryd.pinned (.plain (OpenSpec.upto xmdLengthsSpec)) xmdLengthsUptoCard

/-- THE SECOND FORM's CARD OF 'pharoslaw13.XmdFields'. -/
def xmdFieldsUptoCard : Claim7 := { stood := { row := xmdFieldsUptoRow, standIns := [], harness := (true, "a23171884e622362953752ea66e2d222cf2acf89889b4c7ca8ff3d91595b85ed"), looks := false }, kinds := [], alts := [], laidByText := true, laidKinds := [.data], laidTests := true, laidLooks := .later }
def XmdFieldsUptoCardSaid : Prop := Claim7.holds Tryd.pinned (.plain (OpenSpec.upto xmdFieldsSpec)) xmdFieldsUptoCard

/-- THE SECOND FORM's CARD OF 'pharoslaw26.TextHeaders'. -/
def textHeadersUptoCard : Claim7 := { stood := { row := textHeadersUptoRow, standIns := [], harness := (true, "a23171884e622362953752ea66e2d222cf2acf89889b4c7ca8ff3d91595b85ed"), looks := false }, kinds := [], alts := [], laidByText := true, laidKinds := [.data, .data, .data, .data], laidTests := true, laidLooks := .later }
def TextHeadersUptoCardSaid : Prop := Claim7.holds Tryd.pinned (.plain (OpenSpec.upto textHeadersSpec)) textHeadersUptoCard
end Rows
end Go.Proofs.YtaloefkkllebeaaDoor
