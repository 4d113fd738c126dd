/-
  NARROWER THAN 'FOR EVERY INPUT', by the rows' own cells (each row's printed sentence says how): ShaSums: laid · ShaBlocks: laid · ShaPairs: laid · ShaPieces: laid · ShaLengths: laid · RootsFields: laid · RootsTell: laid · RootsParts: laid · MerkleRoots: laid · MerkleBranches: laid · MerkleVerifies: laid · MerkleSteps: laid · MerkleGrows: laid · MerkleAll: laid · MerkleUnder: laid · DomainTells: laid · DomainHangs: laid · XmdExpands: laid · XmdLengths: laid · XmdFields: laid · TextHeaders: laid.
  DERIVED. THE GIVEN ROWS OF THIS SEAT. 21 by the template 'for every input the law returns true; each argument reads behind the call as it read before'; 0 by the template 'total and deterministic' (their statements: YtaloefkkllebeaaDoorTotals.lean).
  GIVEN WITH THE SEED: the statements are not yours to turn. If you find one false, say at which input.
  Laid BY PROGRAM, IN A SANDBOX (cutbox-rows.mjs): the forced cells as the released guide's own fill.sh prints them over the translation ec7b2bbd58fe2d2f… (all of the seat's roots in one cut). By AI agents, Wed Nov 11 2026. No macro, syntax, notation, axiom, sorry.
-/
import Derived.Test.YtaloefkkllebeaaDoorChecked
import GoSem.Claim
import GoSem.ClaimJoined
import GoSem.ClaimMapViews
import Derived.JoinedTies
import Derived.KernelRfl
namespace Go.Proofs.YtaloefkkllebeaaDoor
/- THE CELL 'sum', in the pinned program and in every row, IS THE sha256 OF THE DUMP (.gsa) THAT YtaloefkkllebeaaDoorProg.lean LOADS. Nothing in Lean hashes anything: it is a label: what it is worth is what the hold of that sum in a sandbox is worth. -/
noncomputable def Tryd.pinned : Pinned := { name := "ytaloefkkllebeaadoor", sum := "ec7b2bbd58fe2d2ff5e2ef19e675424b64aa151d960928b861d75ef219af42cc", checked := Tryd.checked }
namespace Rows
def none {H : Type} : Left H := { results := [], args := [] }

/- WHAT THE LISTED PACKAGE-LEVEL VARIABLES READ AS WHEN THE CALL BEGINS. Each datum BY PROGRAM (the guide's laid-datum.mjs) off the statement by which the dump's own 'gosem.cut.vars' lays the variable. In a bare row this is a premise. The card (YtaloefkkllebeaaDoorCards.lean) ties it to the program's text. -/
def laid_pharos_sha_rounds {H : Type} : DataW H := .agg [.lit (.int .u32 1116352408), .lit (.int .u32 1899447441), .lit (.int .u32 3049323471), .lit (.int .u32 3921009573), .lit (.int .u32 961987163), .lit (.int .u32 1508970993), .lit (.int .u32 2453635748), .lit (.int .u32 2870763221), .lit (.int .u32 3624381080), .lit (.int .u32 310598401), .lit (.int .u32 607225278), .lit (.int .u32 1426881987), .lit (.int .u32 1925078388), .lit (.int .u32 2162078206), .lit (.int .u32 2614888103), .lit (.int .u32 3248222580), .lit (.int .u32 3835390401), .lit (.int .u32 4022224774), .lit (.int .u32 264347078), .lit (.int .u32 604807628), .lit (.int .u32 770255983), .lit (.int .u32 1249150122), .lit (.int .u32 1555081692), .lit (.int .u32 1996064986), .lit (.int .u32 2554220882), .lit (.int .u32 2821834349), .lit (.int .u32 2952996808), .lit (.int .u32 3210313671), .lit (.int .u32 3336571891), .lit (.int .u32 3584528711), .lit (.int .u32 113926993), .lit (.int .u32 338241895), .lit (.int .u32 666307205), .lit (.int .u32 773529912), .lit (.int .u32 1294757372), .lit (.int .u32 1396182291), .lit (.int .u32 1695183700), .lit (.int .u32 1986661051), .lit (.int .u32 2177026350), .lit (.int .u32 2456956037), .lit (.int .u32 2730485921), .lit (.int .u32 2820302411), .lit (.int .u32 3259730800), .lit (.int .u32 3345764771), .lit (.int .u32 3516065817), .lit (.int .u32 3600352804), .lit (.int .u32 4094571909), .lit (.int .u32 275423344), .lit (.int .u32 430227734), .lit (.int .u32 506948616), .lit (.int .u32 659060556), .lit (.int .u32 883997877), .lit (.int .u32 958139571), .lit (.int .u32 1322822218), .lit (.int .u32 1537002063), .lit (.int .u32 1747873779), .lit (.int .u32 1955562222), .lit (.int .u32 2024104815), .lit (.int .u32 2227730452), .lit (.int .u32 2361852424), .lit (.int .u32 2428436474), .lit (.int .u32 2756734187), .lit (.int .u32 3204031479), .lit (.int .u32 3329325298)]
def laid_math_bits_deBruijn32tab {H : Type} : DataW H := .agg [.lit (.int .u8 0), .lit (.int .u8 1), .lit (.int .u8 28), .lit (.int .u8 2), .lit (.int .u8 29), .lit (.int .u8 14), .lit (.int .u8 24), .lit (.int .u8 3), .lit (.int .u8 30), .lit (.int .u8 22), .lit (.int .u8 20), .lit (.int .u8 15), .lit (.int .u8 25), .lit (.int .u8 17), .lit (.int .u8 4), .lit (.int .u8 8), .lit (.int .u8 31), .lit (.int .u8 27), .lit (.int .u8 13), .lit (.int .u8 23), .lit (.int .u8 21), .lit (.int .u8 19), .lit (.int .u8 16), .lit (.int .u8 7), .lit (.int .u8 26), .lit (.int .u8 12), .lit (.int .u8 18), .lit (.int .u8 6), .lit (.int .u8 11), .lit (.int .u8 5), .lit (.int .u8 10), .lit (.int .u8 9)]
def laid_math_bits_deBruijn64tab {H : Type} : DataW H := .agg [.lit (.int .u8 0), .lit (.int .u8 1), .lit (.int .u8 56), .lit (.int .u8 2), .lit (.int .u8 57), .lit (.int .u8 49), .lit (.int .u8 28), .lit (.int .u8 3), .lit (.int .u8 61), .lit (.int .u8 58), .lit (.int .u8 42), .lit (.int .u8 50), .lit (.int .u8 38), .lit (.int .u8 29), .lit (.int .u8 17), .lit (.int .u8 4), .lit (.int .u8 62), .lit (.int .u8 47), .lit (.int .u8 59), .lit (.int .u8 36), .lit (.int .u8 45), .lit (.int .u8 43), .lit (.int .u8 51), .lit (.int .u8 22), .lit (.int .u8 53), .lit (.int .u8 39), .lit (.int .u8 33), .lit (.int .u8 30), .lit (.int .u8 24), .lit (.int .u8 18), .lit (.int .u8 12), .lit (.int .u8 5), .lit (.int .u8 63), .lit (.int .u8 55), .lit (.int .u8 48), .lit (.int .u8 27), .lit (.int .u8 60), .lit (.int .u8 41), .lit (.int .u8 37), .lit (.int .u8 16), .lit (.int .u8 46), .lit (.int .u8 35), .lit (.int .u8 44), .lit (.int .u8 21), .lit (.int .u8 52), .lit (.int .u8 32), .lit (.int .u8 23), .lit (.int .u8 11), .lit (.int .u8 54), .lit (.int .u8 26), .lit (.int .u8 40), .lit (.int .u8 15), .lit (.int .u8 34), .lit (.int .u8 20), .lit (.int .u8 31), .lit (.int .u8 10), .lit (.int .u8 25), .lit (.int .u8 14), .lit (.int .u8 19), .lit (.int .u8 9), .lit (.int .u8 13), .lit (.int .u8 8), .lit (.int .u8 7), .lit (.int .u8 6)]
def laid_internal_strconv_uint64pow10 {H : Type} : DataW H := .agg [.lit (.int .u64 1), .lit (.int .u64 10), .lit (.int .u64 100), .lit (.int .u64 1000), .lit (.int .u64 10000), .lit (.int .u64 100000), .lit (.int .u64 1000000), .lit (.int .u64 10000000), .lit (.int .u64 100000000), .lit (.int .u64 1000000000), .lit (.int .u64 10000000000), .lit (.int .u64 100000000000), .lit (.int .u64 1000000000000), .lit (.int .u64 10000000000000), .lit (.int .u64 100000000000000), .lit (.int .u64 1000000000000000), .lit (.int .u64 10000000000000000), .lit (.int .u64 100000000000000000), .lit (.int .u64 1000000000000000000), .lit (.int .u64 10000000000000000000)]

/-- 'pharoslaw1.ShaSums': WHATEVER THE INPUT: true; the input reads as it did. -/
def shaSumsSpec : ChangeSpec := { name := "shaSums", fn := fun _ => fun
  | [d] => { results := [.lit (.bool true)], args := [d] }
  | _ => none }
def shaSumsRow : OpenClaim := { program := "ytaloefkkllebeaadoor", sum := "ec7b2bbd58fe2d2ff5e2ef19e675424b64aa151d960928b861d75ef219af42cc", func := "pharos/pharoslaw1.ShaSums", spec := "shaSums", unfollowed := true, recurses := true, named := ["pharos/sha.rounds"], apart := false, laid := [("pharos/sha.rounds", laid_pharos_sha_rounds)] }
def ShaSumsSaid : Prop := shaSumsRow.holds Tryd.pinned (OpenSpec.ofChange shaSumsSpec)

/-- ITS FALSE NEIGHBOUR: 'it returns false'. Refute it at one input. -/
def shaSumsWrong : ChangeSpec := { name := "shaSums", fn := fun _ => fun
  | [d] => { results := [.lit (.bool false)], args := [d] }
  | _ => none }
def ShaSumsWrongFalsely : Prop := shaSumsRow.holds Tryd.pinned (OpenSpec.ofChange shaSumsWrong)

/-- 'pharoslaw1.ShaBlocks': WHATEVER THE INPUT: true; the input reads as it did. -/
def shaBlocksSpec : ChangeSpec := { name := "shaBlocks", fn := fun _ => fun
  | [d1, d2] => { results := [.lit (.bool true)], args := [d1, d2] }
  | _ => none }
def shaBlocksRow : OpenClaim := { program := "ytaloefkkllebeaadoor", sum := "ec7b2bbd58fe2d2ff5e2ef19e675424b64aa151d960928b861d75ef219af42cc", func := "pharos/pharoslaw1.ShaBlocks", spec := "shaBlocks", unfollowed := true, recurses := true, named := ["pharos/sha.rounds"], apart := false, laid := [("pharos/sha.rounds", laid_pharos_sha_rounds)] }
def ShaBlocksSaid : Prop := shaBlocksRow.holds Tryd.pinned (OpenSpec.ofChange shaBlocksSpec)

/-- ITS FALSE NEIGHBOUR: 'it returns false'. Refute it at one input. -/
def shaBlocksWrong : ChangeSpec := { name := "shaBlocks", fn := fun _ => fun
  | [d1, d2] => { results := [.lit (.bool false)], args := [d1, d2] }
  | _ => none }
def ShaBlocksWrongFalsely : Prop := shaBlocksRow.holds Tryd.pinned (OpenSpec.ofChange shaBlocksWrong)

/-- 'pharoslaw1.ShaPairs': WHATEVER THE INPUT: true; the input reads as it did. -/
def shaPairsSpec : ChangeSpec := { name := "shaPairs", fn := fun _ => fun
  | [d1, d2] => { results := [.lit (.bool true)], args := [d1, d2] }
  | _ => none }
def shaPairsRow : OpenClaim := { program := "ytaloefkkllebeaadoor", sum := "ec7b2bbd58fe2d2ff5e2ef19e675424b64aa151d960928b861d75ef219af42cc", func := "pharos/pharoslaw1.ShaPairs", spec := "shaPairs", unfollowed := true, recurses := true, named := ["pharos/sha.rounds"], apart := false, laid := [("pharos/sha.rounds", laid_pharos_sha_rounds)] }
def ShaPairsSaid : Prop := shaPairsRow.holds Tryd.pinned (OpenSpec.ofChange shaPairsSpec)

/-- ITS FALSE NEIGHBOUR: 'it returns false'. Refute it at one input. -/
def shaPairsWrong : ChangeSpec := { name := "shaPairs", fn := fun _ => fun
  | [d1, d2] => { results := [.lit (.bool false)], args := [d1, d2] }
  | _ => none }
def ShaPairsWrongFalsely : Prop := shaPairsRow.holds Tryd.pinned (OpenSpec.ofChange shaPairsWrong)

/-- 'pharoslaw1.ShaPieces': WHATEVER THE INPUT: true; the input reads as it did. -/
def shaPiecesSpec : ChangeSpec := { name := "shaPieces", fn := fun _ => fun
  | [d1, d2] => { results := [.lit (.bool true)], args := [d1, d2] }
  | _ => none }
def shaPiecesRow : OpenClaim := { program := "ytaloefkkllebeaadoor", sum := "ec7b2bbd58fe2d2ff5e2ef19e675424b64aa151d960928b861d75ef219af42cc", func := "pharos/pharoslaw1.ShaPieces", spec := "shaPieces", unfollowed := true, recurses := true, named := ["pharos/sha.rounds"], apart := false, laid := [("pharos/sha.rounds", laid_pharos_sha_rounds)] }
def ShaPiecesSaid : Prop := shaPiecesRow.holds Tryd.pinned (OpenSpec.ofChange shaPiecesSpec)

/-- ITS FALSE NEIGHBOUR: 'it returns false'. Refute it at one input. -/
def shaPiecesWrong : ChangeSpec := { name := "shaPieces", fn := fun _ => fun
  | [d1, d2] => { results := [.lit (.bool false)], args := [d1, d2] }
  | _ => none }
def ShaPiecesWrongFalsely : Prop := shaPiecesRow.holds Tryd.pinned (OpenSpec.ofChange shaPiecesWrong)

/-- 'pharoslaw1.ShaLengths': WHATEVER THE INPUT: true; the input reads as it did. -/
def shaLengthsSpec : ChangeSpec := { name := "shaLengths", fn := fun _ => fun
  | [d1, d2] => { results := [.lit (.bool true)], args := [d1, d2] }
  | _ => none }
def shaLengthsRow : OpenClaim := { program := "ytaloefkkllebeaadoor", sum := "ec7b2bbd58fe2d2ff5e2ef19e675424b64aa151d960928b861d75ef219af42cc", func := "pharos/pharoslaw1.ShaLengths", spec := "shaLengths", unfollowed := true, recurses := true, named := ["pharos/sha.rounds"], apart := false, laid := [("pharos/sha.rounds", laid_pharos_sha_rounds)] }
def ShaLengthsSaid : Prop := shaLengthsRow.holds Tryd.pinned (OpenSpec.ofChange shaLengthsSpec)

/-- ITS FALSE NEIGHBOUR: 'it returns false'. Refute it at one input. -/
def shaLengthsWrong : ChangeSpec := { name := "shaLengths", fn := fun _ => fun
  | [d1, d2] => { results := [.lit (.bool false)], args := [d1, d2] }
  | _ => none }
def ShaLengthsWrongFalsely : Prop := shaLengthsRow.holds Tryd.pinned (OpenSpec.ofChange shaLengthsWrong)

/-- 'pharoslaw20.RootsFields': WHATEVER THE INPUT: true; the input reads as it did. -/
def rootsFieldsSpec : ChangeSpec := { name := "rootsFields", fn := fun _ => fun
  | [d1, d2] => { results := [.lit (.bool true)], args := [d1, d2] }
  | _ => none }
def rootsFieldsRow : OpenClaim := { program := "ytaloefkkllebeaadoor", sum := "ec7b2bbd58fe2d2ff5e2ef19e675424b64aa151d960928b861d75ef219af42cc", func := "pharos/pharoslaw20.RootsFields", spec := "rootsFields", unfollowed := true, recurses := true, named := ["pharos/sha.rounds"], apart := false, laid := [("pharos/sha.rounds", laid_pharos_sha_rounds)] }
def RootsFieldsSaid : Prop := rootsFieldsRow.holds Tryd.pinned (OpenSpec.ofChange rootsFieldsSpec)

/-- ITS FALSE NEIGHBOUR: 'it returns false'. Refute it at one input. -/
def rootsFieldsWrong : ChangeSpec := { name := "rootsFields", fn := fun _ => fun
  | [d1, d2] => { results := [.lit (.bool false)], args := [d1, d2] }
  | _ => none }
def RootsFieldsWrongFalsely : Prop := rootsFieldsRow.holds Tryd.pinned (OpenSpec.ofChange rootsFieldsWrong)

/-- 'pharoslaw20.RootsTell': WHATEVER THE INPUT: true; the input reads as it did. -/
def rootsTellSpec : ChangeSpec := { name := "rootsTell", fn := fun _ => fun
  | [d1, d2, d3] => { results := [.lit (.bool true)], args := [d1, d2, d3] }
  | _ => none }
def rootsTellRow : OpenClaim := { program := "ytaloefkkllebeaadoor", sum := "ec7b2bbd58fe2d2ff5e2ef19e675424b64aa151d960928b861d75ef219af42cc", func := "pharos/pharoslaw20.RootsTell", spec := "rootsTell", unfollowed := true, recurses := true, named := ["pharos/sha.rounds"], apart := false, laid := [("pharos/sha.rounds", laid_pharos_sha_rounds)] }
def RootsTellSaid : Prop := rootsTellRow.holds Tryd.pinned (OpenSpec.ofChange rootsTellSpec)

/-- ITS FALSE NEIGHBOUR: 'it returns false'. Refute it at one input. -/
def rootsTellWrong : ChangeSpec := { name := "rootsTell", fn := fun _ => fun
  | [d1, d2, d3] => { results := [.lit (.bool false)], args := [d1, d2, d3] }
  | _ => none }
def RootsTellWrongFalsely : Prop := rootsTellRow.holds Tryd.pinned (OpenSpec.ofChange rootsTellWrong)

/-- 'pharoslaw20.RootsParts': WHATEVER THE INPUT: true; the input reads as it did. -/
def rootsPartsSpec : ChangeSpec := { name := "rootsParts", fn := fun _ => fun
  | [d1, d2] => { results := [.lit (.bool true)], args := [d1, d2] }
  | _ => none }
def rootsPartsRow : OpenClaim := { program := "ytaloefkkllebeaadoor", sum := "ec7b2bbd58fe2d2ff5e2ef19e675424b64aa151d960928b861d75ef219af42cc", func := "pharos/pharoslaw20.RootsParts", spec := "rootsParts", unfollowed := true, recurses := true, named := ["pharos/sha.rounds"], apart := false, laid := [("pharos/sha.rounds", laid_pharos_sha_rounds)] }
def RootsPartsSaid : Prop := rootsPartsRow.holds Tryd.pinned (OpenSpec.ofChange rootsPartsSpec)

/-- ITS FALSE NEIGHBOUR: 'it returns false'. Refute it at one input. -/
def rootsPartsWrong : ChangeSpec := { name := "rootsParts", fn := fun _ => fun
  | [d1, d2] => { results := [.lit (.bool false)], args := [d1, d2] }
  | _ => none }
def RootsPartsWrongFalsely : Prop := rootsPartsRow.holds Tryd.pinned (OpenSpec.ofChange rootsPartsWrong)

/-- 'pharoslaw18.MerkleRoots': WHATEVER THE INPUT: true; the input reads as it did. -/
def merkleRootsSpec : ChangeSpec := { name := "merkleRoots", fn := fun _ => fun
  | [d1, d2, d3] => { results := [.lit (.bool true)], args := [d1, d2, d3] }
  | _ => none }
def merkleRootsRow : OpenClaim := { program := "ytaloefkkllebeaadoor", sum := "ec7b2bbd58fe2d2ff5e2ef19e675424b64aa151d960928b861d75ef219af42cc", func := "pharos/pharoslaw18.MerkleRoots", spec := "merkleRoots", unfollowed := true, recurses := true, named := ["pharos/sha.rounds"], apart := false, laid := [("pharos/sha.rounds", laid_pharos_sha_rounds)] }
def MerkleRootsSaid : Prop := merkleRootsRow.holds Tryd.pinned (OpenSpec.ofChange merkleRootsSpec)

/-- ITS FALSE NEIGHBOUR: 'it returns false'. Refute it at one input. -/
def merkleRootsWrong : ChangeSpec := { name := "merkleRoots", fn := fun _ => fun
  | [d1, d2, d3] => { results := [.lit (.bool false)], args := [d1, d2, d3] }
  | _ => none }
def MerkleRootsWrongFalsely : Prop := merkleRootsRow.holds Tryd.pinned (OpenSpec.ofChange merkleRootsWrong)

/-- 'pharoslaw18.MerkleBranches': WHATEVER THE INPUT: true; the input reads as it did. -/
def merkleBranchesSpec : ChangeSpec := { name := "merkleBranches", fn := fun _ => fun
  | [d1, d2, d3] => { results := [.lit (.bool true)], args := [d1, d2, d3] }
  | _ => none }
def merkleBranchesRow : OpenClaim := { program := "ytaloefkkllebeaadoor", sum := "ec7b2bbd58fe2d2ff5e2ef19e675424b64aa151d960928b861d75ef219af42cc", func := "pharos/pharoslaw18.MerkleBranches", spec := "merkleBranches", unfollowed := true, recurses := true, named := ["pharos/sha.rounds"], apart := false, laid := [("pharos/sha.rounds", laid_pharos_sha_rounds)] }
def MerkleBranchesSaid : Prop := merkleBranchesRow.holds Tryd.pinned (OpenSpec.ofChange merkleBranchesSpec)

/-- ITS FALSE NEIGHBOUR: 'it returns false'. Refute it at one input. -/
def merkleBranchesWrong : ChangeSpec := { name := "merkleBranches", fn := fun _ => fun
  | [d1, d2, d3] => { results := [.lit (.bool false)], args := [d1, d2, d3] }
  | _ => none }
def MerkleBranchesWrongFalsely : Prop := merkleBranchesRow.holds Tryd.pinned (OpenSpec.ofChange merkleBranchesWrong)

/-- 'pharoslaw18.MerkleVerifies': WHATEVER THE INPUT: true; the input reads as it did. -/
def merkleVerifiesSpec : ChangeSpec := { name := "merkleVerifies", fn := fun _ => fun
  | [d1, d2, d3, d4, d5] => { results := [.lit (.bool true)], args := [d1, d2, d3, d4, d5] }
  | _ => none }
def merkleVerifiesRow : OpenClaim := { program := "ytaloefkkllebeaadoor", sum := "ec7b2bbd58fe2d2ff5e2ef19e675424b64aa151d960928b861d75ef219af42cc", func := "pharos/pharoslaw18.MerkleVerifies", spec := "merkleVerifies", unfollowed := true, recurses := true, named := ["pharos/sha.rounds"], apart := false, laid := [("pharos/sha.rounds", laid_pharos_sha_rounds)] }
def MerkleVerifiesSaid : Prop := merkleVerifiesRow.holds Tryd.pinned (OpenSpec.ofChange merkleVerifiesSpec)

/-- ITS FALSE NEIGHBOUR: 'it returns false'. Refute it at one input. -/
def merkleVerifiesWrong : ChangeSpec := { name := "merkleVerifies", fn := fun _ => fun
  | [d1, d2, d3, d4, d5] => { results := [.lit (.bool false)], args := [d1, d2, d3, d4, d5] }
  | _ => none }
def MerkleVerifiesWrongFalsely : Prop := merkleVerifiesRow.holds Tryd.pinned (OpenSpec.ofChange merkleVerifiesWrong)

/-- 'pharoslaw18.MerkleSteps': WHATEVER THE INPUT: true; the input reads as it did. -/
def merkleStepsSpec : ChangeSpec := { name := "merkleSteps", fn := fun _ => fun
  | [d1, d2, d3] => { results := [.lit (.bool true)], args := [d1, d2, d3] }
  | _ => none }
def merkleStepsRow : OpenClaim := { program := "ytaloefkkllebeaadoor", sum := "ec7b2bbd58fe2d2ff5e2ef19e675424b64aa151d960928b861d75ef219af42cc", func := "pharos/pharoslaw18.MerkleSteps", spec := "merkleSteps", unfollowed := true, recurses := true, named := ["pharos/sha.rounds"], apart := false, laid := [("pharos/sha.rounds", laid_pharos_sha_rounds)] }
def MerkleStepsSaid : Prop := merkleStepsRow.holds Tryd.pinned (OpenSpec.ofChange merkleStepsSpec)

/-- ITS FALSE NEIGHBOUR: 'it returns false'. Refute it at one input. -/
def merkleStepsWrong : ChangeSpec := { name := "merkleSteps", fn := fun _ => fun
  | [d1, d2, d3] => { results := [.lit (.bool false)], args := [d1, d2, d3] }
  | _ => none }
def MerkleStepsWrongFalsely : Prop := merkleStepsRow.holds Tryd.pinned (OpenSpec.ofChange merkleStepsWrong)

/-- 'pharoslaw18.MerkleGrows': WHATEVER THE INPUT: true; the input reads as it did. -/
def merkleGrowsSpec : ChangeSpec := { name := "merkleGrows", fn := fun _ => fun
  | [d1, d2, d3] => { results := [.lit (.bool true)], args := [d1, d2, d3] }
  | _ => none }
def merkleGrowsRow : OpenClaim := { program := "ytaloefkkllebeaadoor", sum := "ec7b2bbd58fe2d2ff5e2ef19e675424b64aa151d960928b861d75ef219af42cc", func := "pharos/pharoslaw18.MerkleGrows", spec := "merkleGrows", unfollowed := true, recurses := true, named := ["pharos/sha.rounds"], apart := false, laid := [("pharos/sha.rounds", laid_pharos_sha_rounds)] }
def MerkleGrowsSaid : Prop := merkleGrowsRow.holds Tryd.pinned (OpenSpec.ofChange merkleGrowsSpec)

/-- ITS FALSE NEIGHBOUR: 'it returns false'. Refute it at one input. -/
def merkleGrowsWrong : ChangeSpec := { name := "merkleGrows", fn := fun _ => fun
  | [d1, d2, d3] => { results := [.lit (.bool false)], args := [d1, d2, d3] }
  | _ => none }
def MerkleGrowsWrongFalsely : Prop := merkleGrowsRow.holds Tryd.pinned (OpenSpec.ofChange merkleGrowsWrong)

/-- 'pharoslaw18.MerkleAll': WHATEVER THE INPUT: true; the input reads as it did. -/
def merkleAllSpec : ChangeSpec := { name := "merkleAll", fn := fun _ => fun
  | [d1, d2, d3] => { results := [.lit (.bool true)], args := [d1, d2, d3] }
  | _ => none }
def merkleAllRow : OpenClaim := { program := "ytaloefkkllebeaadoor", sum := "ec7b2bbd58fe2d2ff5e2ef19e675424b64aa151d960928b861d75ef219af42cc", func := "pharos/pharoslaw18.MerkleAll", spec := "merkleAll", unfollowed := true, recurses := true, named := ["pharos/sha.rounds"], apart := false, laid := [("pharos/sha.rounds", laid_pharos_sha_rounds)] }
def MerkleAllSaid : Prop := merkleAllRow.holds Tryd.pinned (OpenSpec.ofChange merkleAllSpec)

/-- ITS FALSE NEIGHBOUR: 'it returns false'. Refute it at one input. -/
def merkleAllWrong : ChangeSpec := { name := "merkleAll", fn := fun _ => fun
  | [d1, d2, d3] => { results := [.lit (.bool false)], args := [d1, d2, d3] }
  | _ => none }
def MerkleAllWrongFalsely : Prop := merkleAllRow.holds Tryd.pinned (OpenSpec.ofChange merkleAllWrong)

/-- 'pharoslaw18.MerkleUnder': WHATEVER THE INPUT: true; the input reads as it did. -/
def merkleUnderSpec : ChangeSpec := { name := "merkleUnder", fn := fun _ => fun
  | [d1, d2, d3, d4] => { results := [.lit (.bool true)], args := [d1, d2, d3, d4] }
  | _ => none }
def merkleUnderRow : OpenClaim := { program := "ytaloefkkllebeaadoor", sum := "ec7b2bbd58fe2d2ff5e2ef19e675424b64aa151d960928b861d75ef219af42cc", func := "pharos/pharoslaw18.MerkleUnder", spec := "merkleUnder", unfollowed := true, recurses := true, named := ["pharos/sha.rounds"], apart := false, laid := [("pharos/sha.rounds", laid_pharos_sha_rounds)] }
def MerkleUnderSaid : Prop := merkleUnderRow.holds Tryd.pinned (OpenSpec.ofChange merkleUnderSpec)

/-- ITS FALSE NEIGHBOUR: 'it returns false'. Refute it at one input. -/
def merkleUnderWrong : ChangeSpec := { name := "merkleUnder", fn := fun _ => fun
  | [d1, d2, d3, d4] => { results := [.lit (.bool false)], args := [d1, d2, d3, d4] }
  | _ => none }
def MerkleUnderWrongFalsely : Prop := merkleUnderRow.holds Tryd.pinned (OpenSpec.ofChange merkleUnderWrong)

/-- 'pharoslaw22.DomainTells': WHATEVER THE INPUT: true; the input reads as it did. -/
def domainTellsSpec : ChangeSpec := { name := "domainTells", fn := fun _ => fun
  | [d1, d2, d3, d4, d5] => { results := [.lit (.bool true)], args := [d1, d2, d3, d4, d5] }
  | _ => none }
def domainTellsRow : OpenClaim := { program := "ytaloefkkllebeaadoor", sum := "ec7b2bbd58fe2d2ff5e2ef19e675424b64aa151d960928b861d75ef219af42cc", func := "pharos/pharoslaw22.DomainTells", spec := "domainTells", unfollowed := true, recurses := true, named := ["pharos/sha.rounds"], apart := false, laid := [("pharos/sha.rounds", laid_pharos_sha_rounds)] }
def DomainTellsSaid : Prop := domainTellsRow.holds Tryd.pinned (OpenSpec.ofChange domainTellsSpec)

/-- ITS FALSE NEIGHBOUR: 'it returns false'. Refute it at one input. -/
def domainTellsWrong : ChangeSpec := { name := "domainTells", fn := fun _ => fun
  | [d1, d2, d3, d4, d5] => { results := [.lit (.bool false)], args := [d1, d2, d3, d4, d5] }
  | _ => none }
def DomainTellsWrongFalsely : Prop := domainTellsRow.holds Tryd.pinned (OpenSpec.ofChange domainTellsWrong)

/-- 'pharoslaw22.DomainHangs': WHATEVER THE INPUT: true; the input reads as it did. -/
def domainHangsSpec : ChangeSpec := { name := "domainHangs", fn := fun _ => fun
  | [d1, d2, d3, d4] => { results := [.lit (.bool true)], args := [d1, d2, d3, d4] }
  | _ => none }
def domainHangsRow : OpenClaim := { program := "ytaloefkkllebeaadoor", sum := "ec7b2bbd58fe2d2ff5e2ef19e675424b64aa151d960928b861d75ef219af42cc", func := "pharos/pharoslaw22.DomainHangs", spec := "domainHangs", unfollowed := true, recurses := true, named := ["pharos/sha.rounds"], apart := false, laid := [("pharos/sha.rounds", laid_pharos_sha_rounds)] }
def DomainHangsSaid : Prop := domainHangsRow.holds Tryd.pinned (OpenSpec.ofChange domainHangsSpec)

/-- ITS FALSE NEIGHBOUR: 'it returns false'. Refute it at one input. -/
def domainHangsWrong : ChangeSpec := { name := "domainHangs", fn := fun _ => fun
  | [d1, d2, d3, d4] => { results := [.lit (.bool false)], args := [d1, d2, d3, d4] }
  | _ => none }
def DomainHangsWrongFalsely : Prop := domainHangsRow.holds Tryd.pinned (OpenSpec.ofChange domainHangsWrong)

/-- 'pharoslaw13.XmdExpands': WHATEVER THE INPUT: true; the input reads as it did. -/
def xmdExpandsSpec : ChangeSpec := { name := "xmdExpands", fn := fun _ => fun
  | [d1, d2, d3] => { results := [.lit (.bool true)], args := [d1, d2, d3] }
  | _ => none }
def xmdExpandsRow : OpenClaim := { program := "ytaloefkkllebeaadoor", sum := "ec7b2bbd58fe2d2ff5e2ef19e675424b64aa151d960928b861d75ef219af42cc", func := "pharos/pharoslaw13.XmdExpands", spec := "xmdExpands", inPlace := ["math/bits.Add64", "math/bits.Sub64"], unfollowed := true, recurses := true, named := ["pharos/sha.rounds"], apart := false, laid := [("pharos/sha.rounds", laid_pharos_sha_rounds)] }
def XmdExpandsSaid : Prop := xmdExpandsRow.holds Tryd.pinned (OpenSpec.ofChange xmdExpandsSpec)

/-- ITS FALSE NEIGHBOUR: 'it returns false'. Refute it at one input. -/
def xmdExpandsWrong : ChangeSpec := { name := "xmdExpands", fn := fun _ => fun
  | [d1, d2, d3] => { results := [.lit (.bool false)], args := [d1, d2, d3] }
  | _ => none }
def XmdExpandsWrongFalsely : Prop := xmdExpandsRow.holds Tryd.pinned (OpenSpec.ofChange xmdExpandsWrong)

/-- 'pharoslaw13.XmdLengths': WHATEVER THE INPUT: true; the input reads as it did. -/
def xmdLengthsSpec : ChangeSpec := { name := "xmdLengths", fn := fun _ => fun
  | [d1, d2, d3, d4] => { results := [.lit (.bool true)], args := [d1, d2, d3, d4] }
  | _ => none }
def xmdLengthsRow : OpenClaim := { program := "ytaloefkkllebeaadoor", sum := "ec7b2bbd58fe2d2ff5e2ef19e675424b64aa151d960928b861d75ef219af42cc", func := "pharos/pharoslaw13.XmdLengths", spec := "xmdLengths", inPlace := ["math/bits.Add64", "math/bits.Sub64"], unfollowed := true, recurses := true, named := ["pharos/sha.rounds"], apart := false, laid := [("pharos/sha.rounds", laid_pharos_sha_rounds)] }
def XmdLengthsSaid : Prop := xmdLengthsRow.holds Tryd.pinned (OpenSpec.ofChange xmdLengthsSpec)

/-- ITS FALSE NEIGHBOUR: 'it returns false'. Refute it at one input. -/
def xmdLengthsWrong : ChangeSpec := { name := "xmdLengths", fn := fun _ => fun
  | [d1, d2, d3, d4] => { results := [.lit (.bool false)], args := [d1, d2, d3, d4] }
  | _ => none }
def XmdLengthsWrongFalsely : Prop := xmdLengthsRow.holds Tryd.pinned (OpenSpec.ofChange xmdLengthsWrong)

/-- 'pharoslaw13.XmdFields': WHATEVER THE INPUT: true; the input reads as it did. -/
def xmdFieldsSpec : ChangeSpec := { name := "xmdFields", fn := fun _ => fun
  | [d1, d2, d3] => { results := [.lit (.bool true)], args := [d1, d2, d3] }
  | _ => none }
def xmdFieldsRow : OpenClaim := { program := "ytaloefkkllebeaadoor", sum := "ec7b2bbd58fe2d2ff5e2ef19e675424b64aa151d960928b861d75ef219af42cc", func := "pharos/pharoslaw13.XmdFields", spec := "xmdFields", inPlace := ["math/bits.Add64", "math/bits.Sub64"], unfollowed := true, recurses := true, named := ["pharos/sha.rounds"], apart := false, laid := [("pharos/sha.rounds", laid_pharos_sha_rounds)] }
def XmdFieldsSaid : Prop := xmdFieldsRow.holds Tryd.pinned (OpenSpec.ofChange xmdFieldsSpec)

/-- ITS FALSE NEIGHBOUR: 'it returns false'. Refute it at one input. -/
def xmdFieldsWrong : ChangeSpec := { name := "xmdFields", fn := fun _ => fun
  | [d1, d2, d3] => { results := [.lit (.bool false)], args := [d1, d2, d3] }
  | _ => none }
def XmdFieldsWrongFalsely : Prop := xmdFieldsRow.holds Tryd.pinned (OpenSpec.ofChange xmdFieldsWrong)

/-- 'pharoslaw26.TextHeaders': WHATEVER THE INPUT: true; the input reads as it did. -/
def textHeadersSpec : ChangeSpec := { name := "textHeaders", fn := fun _ => fun
  | [d1, d2, d3] => { results := [.lit (.bool true)], args := [d1, d2, d3] }
  | _ => none }
def textHeadersRow : OpenClaim := { program := "ytaloefkkllebeaadoor", sum := "ec7b2bbd58fe2d2ff5e2ef19e675424b64aa151d960928b861d75ef219af42cc", func := "pharos/pharoslaw26.TextHeaders", spec := "textHeaders", inPlace := ["internal/abi.NoEscape", "internal/bytealg.MakeNoZero"], unfollowed := true, recurses := true, named := ["pharos/sha.rounds", "internal/strconv.uint64pow10", "math/bits.deBruijn32tab", "math/bits.deBruijn64tab"], apart := false, laid := [("math/bits.deBruijn32tab", laid_math_bits_deBruijn32tab), ("math/bits.deBruijn64tab", laid_math_bits_deBruijn64tab), ("internal/strconv.uint64pow10", laid_internal_strconv_uint64pow10), ("pharos/sha.rounds", laid_pharos_sha_rounds)] }
def TextHeadersSaid : Prop := textHeadersRow.holds Tryd.pinned (OpenSpec.ofChange textHeadersSpec)

/-- ITS FALSE NEIGHBOUR: 'it returns false'. Refute it at one input. -/
def textHeadersWrong : ChangeSpec := { name := "textHeaders", fn := fun _ => fun
  | [d1, d2, d3] => { results := [.lit (.bool false)], args := [d1, d2, d3] }
  | _ => none }
def TextHeadersWrongFalsely : Prop := textHeadersRow.holds Tryd.pinned (OpenSpec.ofChange textHeadersWrong)

/- THE SECOND FORM. 'bulk': how many values and letters a reading holds, each counted each time it is reached (what is shared counts as often as it is met; a slice's spare places count too). A statement '..UptoSaid' is the law's where the arguments, and the package variables that the reading takes, are together of bulk at most 1048576: NARROWER than '..Said'. Prove '..Said' where nothing that the law and all that it calls make is longer than what came in: it says more and counts as full. Else prove '..UptoSaid'. A law counts once. -/
mutual
def uptoBulk {H : Type} : DataW H → Nat
  | .lit (.string bytes) => bytes.length + 1
  | .lit _ => 1
  | .nil => 1
  | .ptr d => uptoBulk d + 1
  | .slice elems spare => uptoBulkAll elems + uptoBulkAll spare + 1
  | .agg parts => uptoBulkAll parts + 1
  | .iface _ d => uptoBulk d + 1
  | .map entries => uptoBulkEntries entries + 1
  | .held _ => 1
def uptoBulkAll {H : Type} : List (DataW H) → Nat
  | [] => 0
  | d :: r => uptoBulk d + uptoBulkAll r
def uptoBulkEntries {H : Type} : List (Lit × DataW H) → Nat
  | [] => 0
  | x :: r => uptoBulkEntry x + uptoBulkEntries r
def uptoBulkEntry {H : Type} : Lit × DataW H → Nat
  | (.string bytes, d) => bytes.length + uptoBulk d + 1
  | (_, d) => uptoBulk d + 1
 end
def uptoSmall : (H : Type) → List (DataW H) → Bool := fun _ ds => decide (uptoBulkAll ds ≤ 1048576)
def OpenSpec.upto (s : _root_.Go.ChangeSpec) : _root_.Go.OpenSpec := { _root_.Go.OpenSpec.ofChange s with cond := some uptoSmall }

/-- 'pharoslaw1.ShaSums', WHERE WHAT IT READS IS OF BULK AT MOST 1048576: true; the input reads as it did. -/
def shaSumsUptoRow : OpenClaim := { program := "ytaloefkkllebeaadoor", sum := "ec7b2bbd58fe2d2ff5e2ef19e675424b64aa151d960928b861d75ef219af42cc", func := "pharos/pharoslaw1.ShaSums", spec := "shaSums", unfollowed := true, recurses := true, named := ["pharos/sha.rounds"], apart := false, laid := [("pharos/sha.rounds", laid_pharos_sha_rounds)], narrowed := true }
def ShaSumsUptoSaid : Prop := shaSumsUptoRow.holds Tryd.pinned (OpenSpec.upto shaSumsSpec)

/-- 'pharoslaw1.ShaBlocks', WHERE WHAT IT READS IS OF BULK AT MOST 1048576: true; the input reads as it did. -/
def shaBlocksUptoRow : OpenClaim := { program := "ytaloefkkllebeaadoor", sum := "ec7b2bbd58fe2d2ff5e2ef19e675424b64aa151d960928b861d75ef219af42cc", func := "pharos/pharoslaw1.ShaBlocks", spec := "shaBlocks", unfollowed := true, recurses := true, named := ["pharos/sha.rounds"], apart := false, laid := [("pharos/sha.rounds", laid_pharos_sha_rounds)], narrowed := true }
def ShaBlocksUptoSaid : Prop := shaBlocksUptoRow.holds Tryd.pinned (OpenSpec.upto shaBlocksSpec)

/-- 'pharoslaw1.ShaPairs', WHERE WHAT IT READS IS OF BULK AT MOST 1048576: true; the input reads as it did. -/
def shaPairsUptoRow : OpenClaim := { program := "ytaloefkkllebeaadoor", sum := "ec7b2bbd58fe2d2ff5e2ef19e675424b64aa151d960928b861d75ef219af42cc", func := "pharos/pharoslaw1.ShaPairs", spec := "shaPairs", unfollowed := true, recurses := true, named := ["pharos/sha.rounds"], apart := false, laid := [("pharos/sha.rounds", laid_pharos_sha_rounds)], narrowed := true }
def ShaPairsUptoSaid : Prop := shaPairsUptoRow.holds Tryd.pinned (OpenSpec.upto shaPairsSpec)

/-- 'pharoslaw1.ShaPieces', WHERE WHAT IT READS IS OF BULK AT MOST 1048576: true; the input reads as it did. -/
def shaPiecesUptoRow : OpenClaim := { program := "ytaloefkkllebeaadoor", sum := "ec7b2bbd58fe2d2ff5e2ef19e675424b64aa151d960928b861d75ef219af42cc", func := "pharos/pharoslaw1.ShaPieces", spec := "shaPieces", unfollowed := true, recurses := true, named := ["pharos/sha.rounds"], apart := false, laid := [("pharos/sha.rounds", laid_pharos_sha_rounds)], narrowed := true }
def ShaPiecesUptoSaid : Prop := shaPiecesUptoRow.holds Tryd.pinned (OpenSpec.upto shaPiecesSpec)

/-- 'pharoslaw1.ShaLengths', WHERE WHAT IT READS IS OF BULK AT MOST 1048576: true; the input reads as it did. -/
def shaLengthsUptoRow : OpenClaim := { program := "ytaloefkkllebeaadoor", sum := "ec7b2bbd58fe2d2ff5e2ef19e675424b64aa151d960928b861d75ef219af42cc", func := "pharos/pharoslaw1.ShaLengths", spec := "shaLengths", unfollowed := true, recurses := true, named := ["pharos/sha.rounds"], apart := false, laid := [("pharos/sha.rounds", laid_pharos_sha_rounds)], narrowed := true }
def ShaLengthsUptoSaid : Prop := shaLengthsUptoRow.holds Tryd.pinned (OpenSpec.upto shaLengthsSpec)

/-- 'pharoslaw20.RootsFields', WHERE WHAT IT READS IS OF BULK AT MOST 1048576: true; the input reads as it did. -/
def rootsFieldsUptoRow : OpenClaim := { program := "ytaloefkkllebeaadoor", sum := "ec7b2bbd58fe2d2ff5e2ef19e675424b64aa151d960928b861d75ef219af42cc", func := "pharos/pharoslaw20.RootsFields", spec := "rootsFields", unfollowed := true, recurses := true, named := ["pharos/sha.rounds"], apart := false, laid := [("pharos/sha.rounds", laid_pharos_sha_rounds)], narrowed := true }
def RootsFieldsUptoSaid : Prop := rootsFieldsUptoRow.holds Tryd.pinned (OpenSpec.upto rootsFieldsSpec)

/-- 'pharoslaw20.RootsTell', WHERE WHAT IT READS IS OF BULK AT MOST 1048576: true; the input reads as it did. -/
def rootsTellUptoRow : OpenClaim := { program := "ytaloefkkllebeaadoor", sum := "ec7b2bbd58fe2d2ff5e2ef19e675424b64aa151d960928b861d75ef219af42cc", func := "pharos/pharoslaw20.RootsTell", spec := "rootsTell", unfollowed := true, recurses := true, named := ["pharos/sha.rounds"], apart := false, laid := [("pharos/sha.rounds", laid_pharos_sha_rounds)], narrowed := true }
def RootsTellUptoSaid : Prop := rootsTellUptoRow.holds Tryd.pinned (OpenSpec.upto rootsTellSpec)

/-- 'pharoslaw20.RootsParts', WHERE WHAT IT READS IS OF BULK AT MOST 1048576: true; the input reads as it did. -/
def rootsPartsUptoRow : OpenClaim := { program := "ytaloefkkllebeaadoor", sum := "ec7b2bbd58fe2d2ff5e2ef19e675424b64aa151d960928b861d75ef219af42cc", func := "pharos/pharoslaw20.RootsParts", spec := "rootsParts", unfollowed := true, recurses := true, named := ["pharos/sha.rounds"], apart := false, laid := [("pharos/sha.rounds", laid_pharos_sha_rounds)], narrowed := true }
def RootsPartsUptoSaid : Prop := rootsPartsUptoRow.holds Tryd.pinned (OpenSpec.upto rootsPartsSpec)

/-- 'pharoslaw18.MerkleRoots', WHERE WHAT IT READS IS OF BULK AT MOST 1048576: true; the input reads as it did. -/
def merkleRootsUptoRow : OpenClaim := { program := "ytaloefkkllebeaadoor", sum := "ec7b2bbd58fe2d2ff5e2ef19e675424b64aa151d960928b861d75ef219af42cc", func := "pharos/pharoslaw18.MerkleRoots", spec := "merkleRoots", unfollowed := true, recurses := true, named := ["pharos/sha.rounds"], apart := false, laid := [("pharos/sha.rounds", laid_pharos_sha_rounds)], narrowed := true }
def MerkleRootsUptoSaid : Prop := merkleRootsUptoRow.holds Tryd.pinned (OpenSpec.upto merkleRootsSpec)

/-- 'pharoslaw18.MerkleBranches', WHERE WHAT IT READS IS OF BULK AT MOST 1048576: true; the input reads as it did. -/
def merkleBranchesUptoRow : OpenClaim := { program := "ytaloefkkllebeaadoor", sum := "ec7b2bbd58fe2d2ff5e2ef19e675424b64aa151d960928b861d75ef219af42cc", func := "pharos/pharoslaw18.MerkleBranches", spec := "merkleBranches", unfollowed := true, recurses := true, named := ["pharos/sha.rounds"], apart := false, laid := [("pharos/sha.rounds", laid_pharos_sha_rounds)], narrowed := true }
def MerkleBranchesUptoSaid : Prop := merkleBranchesUptoRow.holds Tryd.pinned (OpenSpec.upto merkleBranchesSpec)

/-- 'pharoslaw18.MerkleVerifies', WHERE WHAT IT READS IS OF BULK AT MOST 1048576: true; the input reads as it did. -/
def merkleVerifiesUptoRow : OpenClaim := { program := "ytaloefkkllebeaadoor", sum := "ec7b2bbd58fe2d2ff5e2ef19e675424b64aa151d960928b861d75ef219af42cc", func := "pharos/pharoslaw18.MerkleVerifies", spec := "merkleVerifies", unfollowed := true, recurses := true, named := ["pharos/sha.rounds"], apart := false, laid := [("pharos/sha.rounds", laid_pharos_sha_rounds)], narrowed := true }
def MerkleVerifiesUptoSaid : Prop := merkleVerifiesUptoRow.holds Tryd.pinned (OpenSpec.upto merkleVerifiesSpec)

/-- 'pharoslaw18.MerkleSteps', WHERE WHAT IT READS IS OF BULK AT MOST 1048576: true; the input reads as it did. -/
def merkleStepsUptoRow : OpenClaim := { program := "ytaloefkkllebeaadoor", sum := "ec7b2bbd58fe2d2ff5e2ef19e675424b64aa151d960928b861d75ef219af42cc", func := "pharos/pharoslaw18.MerkleSteps", spec := "merkleSteps", unfollowed := true, recurses := true, named := ["pharos/sha.rounds"], apart := false, laid := [("pharos/sha.rounds", laid_pharos_sha_rounds)], narrowed := true }
def MerkleStepsUptoSaid : Prop := merkleStepsUptoRow.holds Tryd.pinned (OpenSpec.upto merkleStepsSpec)

/-- 'pharoslaw18.MerkleGrows', WHERE WHAT IT READS IS OF BULK AT MOST 1048576: true; the input reads as it did. -/
def merkleGrowsUptoRow : OpenClaim := { program := "ytaloefkkllebeaadoor", sum := "ec7b2bbd58fe2d2ff5e2ef19e675424b64aa151d960928b861d75ef219af42cc", func := "pharos/pharoslaw18.MerkleGrows", spec := "merkleGrows", unfollowed := true, recurses := true, named := ["pharos/sha.rounds"], apart := false, laid := [("pharos/sha.rounds", laid_pharos_sha_rounds)], narrowed := true }
def MerkleGrowsUptoSaid : Prop := merkleGrowsUptoRow.holds Tryd.pinned (OpenSpec.upto merkleGrowsSpec)

/-- 'pharoslaw18.MerkleAll', WHERE WHAT IT READS IS OF BULK AT MOST 1048576: true; the input reads as it did. -/
def merkleAllUptoRow : OpenClaim := { program := "ytaloefkkllebeaadoor", sum := "ec7b2bbd58fe2d2ff5e2ef19e675424b64aa151d960928b861d75ef219af42cc", func := "pharos/pharoslaw18.MerkleAll", spec := "merkleAll", unfollowed := true, recurses := true, named := ["pharos/sha.rounds"], apart := false, laid := [("pharos/sha.rounds", laid_pharos_sha_rounds)], narrowed := true }
def MerkleAllUptoSaid : Prop := merkleAllUptoRow.holds Tryd.pinned (OpenSpec.upto merkleAllSpec)

/-- 'pharoslaw18.MerkleUnder', WHERE WHAT IT READS IS OF BULK AT MOST 1048576: true; the input reads as it did. -/
def merkleUnderUptoRow : OpenClaim := { program := "ytaloefkkllebeaadoor", sum := "ec7b2bbd58fe2d2ff5e2ef19e675424b64aa151d960928b861d75ef219af42cc", func := "pharos/pharoslaw18.MerkleUnder", spec := "merkleUnder", unfollowed := true, recurses := true, named := ["pharos/sha.rounds"], apart := false, laid := [("pharos/sha.rounds", laid_pharos_sha_rounds)], narrowed := true }
def MerkleUnderUptoSaid : Prop := merkleUnderUptoRow.holds Tryd.pinned (OpenSpec.upto merkleUnderSpec)

/-- 'pharoslaw22.DomainTells', WHERE WHAT IT READS IS OF BULK AT MOST 1048576: true; the input reads as it did. -/
def domainTellsUptoRow : OpenClaim := { program := "ytaloefkkllebeaadoor", sum := "ec7b2bbd58fe2d2ff5e2ef19e675424b64aa151d960928b861d75ef219af42cc", func := "pharos/pharoslaw22.DomainTells", spec := "domainTells", unfollowed := true, recurses := true, named := ["pharos/sha.rounds"], apart := false, laid := [("pharos/sha.rounds", laid_pharos_sha_rounds)], narrowed := true }
def DomainTellsUptoSaid : Prop := domainTellsUptoRow.holds Tryd.pinned (OpenSpec.upto domainTellsSpec)

/-- 'pharoslaw22.DomainHangs', WHERE WHAT IT READS IS OF BULK AT MOST 1048576: true; the input reads as it did. -/
def domainHangsUptoRow : OpenClaim := { program := "ytaloefkkllebeaadoor", sum := "ec7b2bbd58fe2d2ff5e2ef19e675424b64aa151d960928b861d75ef219af42cc", func := "pharos/pharoslaw22.DomainHangs", spec := "domainHangs", unfollowed := true, recurses := true, named := ["pharos/sha.rounds"], apart := false, laid := [("pharos/sha.rounds", laid_pharos_sha_rounds)], narrowed := true }
def DomainHangsUptoSaid : Prop := domainHangsUptoRow.holds Tryd.pinned (OpenSpec.upto domainHangsSpec)

/-- 'pharoslaw13.XmdExpands', WHERE WHAT IT READS IS OF BULK AT MOST 1048576: true; the input reads as it did. -/
def xmdExpandsUptoRow : OpenClaim := { program := "ytaloefkkllebeaadoor", sum := "ec7b2bbd58fe2d2ff5e2ef19e675424b64aa151d960928b861d75ef219af42cc", func := "pharos/pharoslaw13.XmdExpands", spec := "xmdExpands", inPlace := ["math/bits.Add64", "math/bits.Sub64"], unfollowed := true, recurses := true, named := ["pharos/sha.rounds"], apart := false, laid := [("pharos/sha.rounds", laid_pharos_sha_rounds)], narrowed := true }
def XmdExpandsUptoSaid : Prop := xmdExpandsUptoRow.holds Tryd.pinned (OpenSpec.upto xmdExpandsSpec)

/-- 'pharoslaw13.XmdLengths', WHERE WHAT IT READS IS OF BULK AT MOST 1048576: true; the input reads as it did. -/
def xmdLengthsUptoRow : OpenClaim := { program := "ytaloefkkllebeaadoor", sum := "ec7b2bbd58fe2d2ff5e2ef19e675424b64aa151d960928b861d75ef219af42cc", func := "pharos/pharoslaw13.XmdLengths", spec := "xmdLengths", inPlace := ["math/bits.Add64", "math/bits.Sub64"], unfollowed := true, recurses := true, named := ["pharos/sha.rounds"], apart := false, laid := [("pharos/sha.rounds", laid_pharos_sha_rounds)], narrowed := true }
def XmdLengthsUptoSaid : Prop := xmdLengthsUptoRow.holds Tryd.pinned (OpenSpec.upto xmdLengthsSpec)

/-- 'pharoslaw13.XmdFields', WHERE WHAT IT READS IS OF BULK AT MOST 1048576: true; the input reads as it did. -/
def xmdFieldsUptoRow : OpenClaim := { program := "ytaloefkkllebeaadoor", sum := "ec7b2bbd58fe2d2ff5e2ef19e675424b64aa151d960928b861d75ef219af42cc", func := "pharos/pharoslaw13.XmdFields", spec := "xmdFields", inPlace := ["math/bits.Add64", "math/bits.Sub64"], unfollowed := true, recurses := true, named := ["pharos/sha.rounds"], apart := false, laid := [("pharos/sha.rounds", laid_pharos_sha_rounds)], narrowed := true }
def XmdFieldsUptoSaid : Prop := xmdFieldsUptoRow.holds Tryd.pinned (OpenSpec.upto xmdFieldsSpec)

/-- 'pharoslaw26.TextHeaders', WHERE WHAT IT READS IS OF BULK AT MOST 1048576: true; the input reads as it did. -/
def textHeadersUptoRow : OpenClaim := { program := "ytaloefkkllebeaadoor", sum := "ec7b2bbd58fe2d2ff5e2ef19e675424b64aa151d960928b861d75ef219af42cc", func := "pharos/pharoslaw26.TextHeaders", spec := "textHeaders", inPlace := ["internal/abi.NoEscape", "internal/bytealg.MakeNoZero"], unfollowed := true, recurses := true, named := ["pharos/sha.rounds", "internal/strconv.uint64pow10", "math/bits.deBruijn32tab", "math/bits.deBruijn64tab"], apart := false, laid := [("math/bits.deBruijn32tab", laid_math_bits_deBruijn32tab), ("math/bits.deBruijn64tab", laid_math_bits_deBruijn64tab), ("internal/strconv.uint64pow10", laid_internal_strconv_uint64pow10), ("pharos/sha.rounds", laid_pharos_sha_rounds)], narrowed := true }
def TextHeadersUptoSaid : Prop := textHeadersUptoRow.holds Tryd.pinned (OpenSpec.upto textHeadersSpec)

end Rows
end Go.Proofs.YtaloefkkllebeaaDoor
