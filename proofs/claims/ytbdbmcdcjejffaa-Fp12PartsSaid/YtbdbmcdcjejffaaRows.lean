/-
  No cell of these rows narrows 'for every input' (looked for: loops, veiled, ifaces, maps, wideKeys, modest, calm, conditions, laid).
  DERIVED. THE GIVEN ROWS OF THIS SEAT. 22 by the template 'for every input the law returns true; each argument reads behind the call as it read before'; 0 by the template 'total and deterministic' (their statements: YtbdbmcdcjejffaaTotals.lean).
  GIVEN WITH THE SEED: the statements are not yours to turn. If you find one false, say at which input.
  Laid BY PROGRAM, IN A SANDBOX (cutbox-rows.mjs): the forced cells as the released guide's own fill.sh prints them over the translation 403deec4cc99ff86… (all of the seat's roots in one cut). By AI agents, Wed Nov 11 2026. No macro, syntax, notation, axiom, sorry.
-/
import Derived.Test.YtbdbmcdcjejffaaChecked
import GoSem.Claim
import GoSem.ClaimJoined
import GoSem.ClaimMapViews
import Derived.JoinedTies
import Derived.KernelRfl
namespace Go.Proofs.Ytbdbmcdcjejffaa
/- THE CELL 'sum', in the pinned program and in every row, IS THE sha256 OF THE DUMP (.gsa) THAT YtbdbmcdcjejffaaProg.lean LOADS. Nothing in Lean hashes anything: it is a label: what it is worth is what the hold of that sum in a sandbox is worth. -/
noncomputable def Try.pinned : Pinned := { name := "ytbdbmcdcjejffaa", sum := "403deec4cc99ff8683c1a47c4d31c88e47f628d340efa9164cff94b94d54981b", checked := Try.checked }
namespace Rows
def none {H : Type} : Left H := { results := [], args := [] }

/-- 'pharoslaw3.FpBytes': WHATEVER THE INPUT: true; the input reads as it did. -/
def fpBytesSpec : ChangeSpec := { name := "fpBytes", fn := fun _ => fun
  | [d1, d2, d3] => { results := [.lit (.bool true)], args := [d1, d2, d3] }
  | _ => none }
def fpBytesRow : OpenClaim := { program := "ytbdbmcdcjejffaa", sum := "403deec4cc99ff8683c1a47c4d31c88e47f628d340efa9164cff94b94d54981b", func := "pharos/pharoslaw3.FpBytes", spec := "fpBytes", inPlace := ["math/bits.Add64", "math/bits.Sub64"], apart := false }
def FpBytesSaid : Prop := fpBytesRow.holds Try.pinned (OpenSpec.ofChange fpBytesSpec)

/-- ITS FALSE NEIGHBOUR: 'it returns false'. Refute it at one input. -/
def fpBytesWrong : ChangeSpec := { name := "fpBytes", fn := fun _ => fun
  | [d1, d2, d3] => { results := [.lit (.bool false)], args := [d1, d2, d3] }
  | _ => none }
def FpBytesWrongFalsely : Prop := fpBytesRow.holds Try.pinned (OpenSpec.ofChange fpBytesWrong)

/-- 'pharoslaw3.FpReckons': WHATEVER THE INPUT: true; the input reads as it did. -/
def fpReckonsSpec : ChangeSpec := { name := "fpReckons", fn := fun _ => fun
  | [d1, d2] => { results := [.lit (.bool true)], args := [d1, d2] }
  | _ => none }
def fpReckonsRow : OpenClaim := { program := "ytbdbmcdcjejffaa", sum := "403deec4cc99ff8683c1a47c4d31c88e47f628d340efa9164cff94b94d54981b", func := "pharos/pharoslaw3.FpReckons", spec := "fpReckons", inPlace := ["math/bits.Add64", "math/bits.Sub64"], apart := false }
def FpReckonsSaid : Prop := fpReckonsRow.holds Try.pinned (OpenSpec.ofChange fpReckonsSpec)

/-- ITS FALSE NEIGHBOUR: 'it returns false'. Refute it at one input. -/
def fpReckonsWrong : ChangeSpec := { name := "fpReckons", fn := fun _ => fun
  | [d1, d2] => { results := [.lit (.bool false)], args := [d1, d2] }
  | _ => none }
def FpReckonsWrongFalsely : Prop := fpReckonsRow.holds Try.pinned (OpenSpec.ofChange fpReckonsWrong)

/-- 'pharoslaw3.FpLaws': WHATEVER THE INPUT: true; the input reads as it did. -/
def fpLawsSpec : ChangeSpec := { name := "fpLaws", fn := fun _ => fun
  | [d1, d2, d3] => { results := [.lit (.bool true)], args := [d1, d2, d3] }
  | _ => none }
def fpLawsRow : OpenClaim := { program := "ytbdbmcdcjejffaa", sum := "403deec4cc99ff8683c1a47c4d31c88e47f628d340efa9164cff94b94d54981b", func := "pharos/pharoslaw3.FpLaws", spec := "fpLaws", inPlace := ["math/bits.Add64", "math/bits.Sub64"], apart := false }
def FpLawsSaid : Prop := fpLawsRow.holds Try.pinned (OpenSpec.ofChange fpLawsSpec)

/-- ITS FALSE NEIGHBOUR: 'it returns false'. Refute it at one input. -/
def fpLawsWrong : ChangeSpec := { name := "fpLaws", fn := fun _ => fun
  | [d1, d2, d3] => { results := [.lit (.bool false)], args := [d1, d2, d3] }
  | _ => none }
def FpLawsWrongFalsely : Prop := fpLawsRow.holds Try.pinned (OpenSpec.ofChange fpLawsWrong)

/-- 'pharoslaw3.FpSolves': WHATEVER THE INPUT: true; the input reads as it did. -/
def fpSolvesSpec : ChangeSpec := { name := "fpSolves", fn := fun _ => fun
  | [d1, d2] => { results := [.lit (.bool true)], args := [d1, d2] }
  | _ => none }
def fpSolvesRow : OpenClaim := { program := "ytbdbmcdcjejffaa", sum := "403deec4cc99ff8683c1a47c4d31c88e47f628d340efa9164cff94b94d54981b", func := "pharos/pharoslaw3.FpSolves", spec := "fpSolves", inPlace := ["math/bits.Add64", "math/bits.Sub64"], apart := false }
def FpSolvesSaid : Prop := fpSolvesRow.holds Try.pinned (OpenSpec.ofChange fpSolvesSpec)

/-- ITS FALSE NEIGHBOUR: 'it returns false'. Refute it at one input. -/
def fpSolvesWrong : ChangeSpec := { name := "fpSolves", fn := fun _ => fun
  | [d1, d2] => { results := [.lit (.bool false)], args := [d1, d2] }
  | _ => none }
def FpSolvesWrongFalsely : Prop := fpSolvesRow.holds Try.pinned (OpenSpec.ofChange fpSolvesWrong)

/-- 'pharoslaw3.FpSigns': WHATEVER THE INPUT: true; the input reads as it did. -/
def fpSignsSpec : ChangeSpec := { name := "fpSigns", fn := fun _ => fun
  | [d] => { results := [.lit (.bool true)], args := [d] }
  | _ => none }
def fpSignsRow : OpenClaim := { program := "ytbdbmcdcjejffaa", sum := "403deec4cc99ff8683c1a47c4d31c88e47f628d340efa9164cff94b94d54981b", func := "pharos/pharoslaw3.FpSigns", spec := "fpSigns", inPlace := ["math/bits.Add64", "math/bits.Sub64"], apart := false }
def FpSignsSaid : Prop := fpSignsRow.holds Try.pinned (OpenSpec.ofChange fpSignsSpec)

/-- ITS FALSE NEIGHBOUR: 'it returns false'. Refute it at one input. -/
def fpSignsWrong : ChangeSpec := { name := "fpSigns", fn := fun _ => fun
  | [d] => { results := [.lit (.bool false)], args := [d] }
  | _ => none }
def FpSignsWrongFalsely : Prop := fpSignsRow.holds Try.pinned (OpenSpec.ofChange fpSignsWrong)

/-- 'pharoslaw3.FpRoots': WHATEVER THE INPUT: true; the input reads as it did. -/
def fpRootsSpec : ChangeSpec := { name := "fpRoots", fn := fun _ => fun
  | [d] => { results := [.lit (.bool true)], args := [d] }
  | _ => none }
def fpRootsRow : OpenClaim := { program := "ytbdbmcdcjejffaa", sum := "403deec4cc99ff8683c1a47c4d31c88e47f628d340efa9164cff94b94d54981b", func := "pharos/pharoslaw3.FpRoots", spec := "fpRoots", inPlace := ["math/bits.Add64", "math/bits.Sub64"], apart := false }
def FpRootsSaid : Prop := fpRootsRow.holds Try.pinned (OpenSpec.ofChange fpRootsSpec)

/-- ITS FALSE NEIGHBOUR: 'it returns false'. Refute it at one input. -/
def fpRootsWrong : ChangeSpec := { name := "fpRoots", fn := fun _ => fun
  | [d] => { results := [.lit (.bool false)], args := [d] }
  | _ => none }
def FpRootsWrongFalsely : Prop := fpRootsRow.holds Try.pinned (OpenSpec.ofChange fpRootsWrong)

/-- 'pharoslaw3.FpPowers': WHATEVER THE INPUT: true; the input reads as it did. -/
def fpPowersSpec : ChangeSpec := { name := "fpPowers", fn := fun _ => fun
  | [d1, d2, d3] => { results := [.lit (.bool true)], args := [d1, d2, d3] }
  | _ => none }
def fpPowersRow : OpenClaim := { program := "ytbdbmcdcjejffaa", sum := "403deec4cc99ff8683c1a47c4d31c88e47f628d340efa9164cff94b94d54981b", func := "pharos/pharoslaw3.FpPowers", spec := "fpPowers", inPlace := ["math/bits.Add64", "math/bits.Sub64"], unfollowed := true, recurses := true, apart := false }
def FpPowersSaid : Prop := fpPowersRow.holds Try.pinned (OpenSpec.ofChange fpPowersSpec)

/-- ITS FALSE NEIGHBOUR: 'it returns false'. Refute it at one input. -/
def fpPowersWrong : ChangeSpec := { name := "fpPowers", fn := fun _ => fun
  | [d1, d2, d3] => { results := [.lit (.bool false)], args := [d1, d2, d3] }
  | _ => none }
def FpPowersWrongFalsely : Prop := fpPowersRow.holds Try.pinned (OpenSpec.ofChange fpPowersWrong)

/-- 'pharoslaw3.FpFermat': WHATEVER THE INPUT: true; the input reads as it did. -/
def fpFermatSpec : ChangeSpec := { name := "fpFermat", fn := fun _ => fun
  | [d] => { results := [.lit (.bool true)], args := [d] }
  | _ => none }
def fpFermatRow : OpenClaim := { program := "ytbdbmcdcjejffaa", sum := "403deec4cc99ff8683c1a47c4d31c88e47f628d340efa9164cff94b94d54981b", func := "pharos/pharoslaw3.FpFermat", spec := "fpFermat", inPlace := ["math/bits.Add64", "math/bits.Sub64"], unfollowed := true, recurses := true, apart := false }
def FpFermatSaid : Prop := fpFermatRow.holds Try.pinned (OpenSpec.ofChange fpFermatSpec)

/-- ITS FALSE NEIGHBOUR: 'it returns false'. Refute it at one input. -/
def fpFermatWrong : ChangeSpec := { name := "fpFermat", fn := fun _ => fun
  | [d] => { results := [.lit (.bool false)], args := [d] }
  | _ => none }
def FpFermatWrongFalsely : Prop := fpFermatRow.holds Try.pinned (OpenSpec.ofChange fpFermatWrong)

/-- 'pharoslaw6.Fp6Laws': WHATEVER THE INPUT: true; the input reads as it did. -/
def fp6LawsSpec : ChangeSpec := { name := "fp6Laws", fn := fun _ => fun
  | [d1, d2, d3] => { results := [.lit (.bool true)], args := [d1, d2, d3] }
  | _ => none }
def fp6LawsRow : OpenClaim := { program := "ytbdbmcdcjejffaa", sum := "403deec4cc99ff8683c1a47c4d31c88e47f628d340efa9164cff94b94d54981b", func := "pharos/pharoslaw6.Fp6Laws", spec := "fp6Laws", inPlace := ["math/bits.Add64", "math/bits.Sub64"], unfollowed := true, recurses := true, apart := false }
def Fp6LawsSaid : Prop := fp6LawsRow.holds Try.pinned (OpenSpec.ofChange fp6LawsSpec)

/-- ITS FALSE NEIGHBOUR: 'it returns false'. Refute it at one input. -/
def fp6LawsWrong : ChangeSpec := { name := "fp6Laws", fn := fun _ => fun
  | [d1, d2, d3] => { results := [.lit (.bool false)], args := [d1, d2, d3] }
  | _ => none }
def Fp6LawsWrongFalsely : Prop := fp6LawsRow.holds Try.pinned (OpenSpec.ofChange fp6LawsWrong)

/-- 'pharoslaw6.Fp6Reckons': WHATEVER THE INPUT: true; the input reads as it did. -/
def fp6ReckonsSpec : ChangeSpec := { name := "fp6Reckons", fn := fun _ => fun
  | [d1, d2, d3] => { results := [.lit (.bool true)], args := [d1, d2, d3] }
  | _ => none }
def fp6ReckonsRow : OpenClaim := { program := "ytbdbmcdcjejffaa", sum := "403deec4cc99ff8683c1a47c4d31c88e47f628d340efa9164cff94b94d54981b", func := "pharos/pharoslaw6.Fp6Reckons", spec := "fp6Reckons", inPlace := ["math/bits.Add64", "math/bits.Sub64"], unfollowed := true, recurses := true, apart := false }
def Fp6ReckonsSaid : Prop := fp6ReckonsRow.holds Try.pinned (OpenSpec.ofChange fp6ReckonsSpec)

/-- ITS FALSE NEIGHBOUR: 'it returns false'. Refute it at one input. -/
def fp6ReckonsWrong : ChangeSpec := { name := "fp6Reckons", fn := fun _ => fun
  | [d1, d2, d3] => { results := [.lit (.bool false)], args := [d1, d2, d3] }
  | _ => none }
def Fp6ReckonsWrongFalsely : Prop := fp6ReckonsRow.holds Try.pinned (OpenSpec.ofChange fp6ReckonsWrong)

/-- 'pharoslaw6.Fp6Frobs': WHATEVER THE INPUT: true; the input reads as it did. -/
def fp6FrobsSpec : ChangeSpec := { name := "fp6Frobs", fn := fun _ => fun
  | [d1, d2, d3, d4] => { results := [.lit (.bool true)], args := [d1, d2, d3, d4] }
  | _ => none }
def fp6FrobsRow : OpenClaim := { program := "ytbdbmcdcjejffaa", sum := "403deec4cc99ff8683c1a47c4d31c88e47f628d340efa9164cff94b94d54981b", func := "pharos/pharoslaw6.Fp6Frobs", spec := "fp6Frobs", inPlace := ["math/bits.Add64", "math/bits.Sub64"], apart := false }
def Fp6FrobsSaid : Prop := fp6FrobsRow.holds Try.pinned (OpenSpec.ofChange fp6FrobsSpec)

/-- ITS FALSE NEIGHBOUR: 'it returns false'. Refute it at one input. -/
def fp6FrobsWrong : ChangeSpec := { name := "fp6Frobs", fn := fun _ => fun
  | [d1, d2, d3, d4] => { results := [.lit (.bool false)], args := [d1, d2, d3, d4] }
  | _ => none }
def Fp6FrobsWrongFalsely : Prop := fp6FrobsRow.holds Try.pinned (OpenSpec.ofChange fp6FrobsWrong)

/-- 'pharoslaw7.Fp12Norms': WHATEVER THE INPUT: true; the input reads as it did. -/
def fp12NormsSpec : ChangeSpec := { name := "fp12Norms", fn := fun _ => fun
  | [d1, d2] => { results := [.lit (.bool true)], args := [d1, d2] }
  | _ => none }
def fp12NormsRow : OpenClaim := { program := "ytbdbmcdcjejffaa", sum := "403deec4cc99ff8683c1a47c4d31c88e47f628d340efa9164cff94b94d54981b", func := "pharos/pharoslaw7.Fp12Norms", spec := "fp12Norms", inPlace := ["math/bits.Add64", "math/bits.Sub64"], unfollowed := true, recurses := true, apart := false }
def Fp12NormsSaid : Prop := fp12NormsRow.holds Try.pinned (OpenSpec.ofChange fp12NormsSpec)

/-- ITS FALSE NEIGHBOUR: 'it returns false'. Refute it at one input. -/
def fp12NormsWrong : ChangeSpec := { name := "fp12Norms", fn := fun _ => fun
  | [d1, d2] => { results := [.lit (.bool false)], args := [d1, d2] }
  | _ => none }
def Fp12NormsWrongFalsely : Prop := fp12NormsRow.holds Try.pinned (OpenSpec.ofChange fp12NormsWrong)

/-- 'pharoslaw7.Fp12Laws': WHATEVER THE INPUT: true; the input reads as it did. -/
def fp12LawsSpec : ChangeSpec := { name := "fp12Laws", fn := fun _ => fun
  | [d1, d2, d3] => { results := [.lit (.bool true)], args := [d1, d2, d3] }
  | _ => none }
def fp12LawsRow : OpenClaim := { program := "ytbdbmcdcjejffaa", sum := "403deec4cc99ff8683c1a47c4d31c88e47f628d340efa9164cff94b94d54981b", func := "pharos/pharoslaw7.Fp12Laws", spec := "fp12Laws", inPlace := ["math/bits.Add64", "math/bits.Sub64"], unfollowed := true, recurses := true, apart := false }
def Fp12LawsSaid : Prop := fp12LawsRow.holds Try.pinned (OpenSpec.ofChange fp12LawsSpec)

/-- ITS FALSE NEIGHBOUR: 'it returns false'. Refute it at one input. -/
def fp12LawsWrong : ChangeSpec := { name := "fp12Laws", fn := fun _ => fun
  | [d1, d2, d3] => { results := [.lit (.bool false)], args := [d1, d2, d3] }
  | _ => none }
def Fp12LawsWrongFalsely : Prop := fp12LawsRow.holds Try.pinned (OpenSpec.ofChange fp12LawsWrong)

/-- 'pharoslaw5.Fp2Signs': WHATEVER THE INPUT: true; the input reads as it did. -/
def fp2SignsSpec : ChangeSpec := { name := "fp2Signs", fn := fun _ => fun
  | [d1, d2, d3] => { results := [.lit (.bool true)], args := [d1, d2, d3] }
  | _ => none }
def fp2SignsRow : OpenClaim := { program := "ytbdbmcdcjejffaa", sum := "403deec4cc99ff8683c1a47c4d31c88e47f628d340efa9164cff94b94d54981b", func := "pharos/pharoslaw5.Fp2Signs", spec := "fp2Signs", inPlace := ["math/bits.Add64", "math/bits.Sub64"], apart := false }
def Fp2SignsSaid : Prop := fp2SignsRow.holds Try.pinned (OpenSpec.ofChange fp2SignsSpec)

/-- ITS FALSE NEIGHBOUR: 'it returns false'. Refute it at one input. -/
def fp2SignsWrong : ChangeSpec := { name := "fp2Signs", fn := fun _ => fun
  | [d1, d2, d3] => { results := [.lit (.bool false)], args := [d1, d2, d3] }
  | _ => none }
def Fp2SignsWrongFalsely : Prop := fp2SignsRow.holds Try.pinned (OpenSpec.ofChange fp2SignsWrong)

/-- 'pharoslaw5.Fp2Norms': WHATEVER THE INPUT: true; the input reads as it did. -/
def fp2NormsSpec : ChangeSpec := { name := "fp2Norms", fn := fun _ => fun
  | [d1, d2] => { results := [.lit (.bool true)], args := [d1, d2] }
  | _ => none }
def fp2NormsRow : OpenClaim := { program := "ytbdbmcdcjejffaa", sum := "403deec4cc99ff8683c1a47c4d31c88e47f628d340efa9164cff94b94d54981b", func := "pharos/pharoslaw5.Fp2Norms", spec := "fp2Norms", inPlace := ["math/bits.Add64", "math/bits.Sub64"], apart := false }
def Fp2NormsSaid : Prop := fp2NormsRow.holds Try.pinned (OpenSpec.ofChange fp2NormsSpec)

/-- ITS FALSE NEIGHBOUR: 'it returns false'. Refute it at one input. -/
def fp2NormsWrong : ChangeSpec := { name := "fp2Norms", fn := fun _ => fun
  | [d1, d2] => { results := [.lit (.bool false)], args := [d1, d2] }
  | _ => none }
def Fp2NormsWrongFalsely : Prop := fp2NormsRow.holds Try.pinned (OpenSpec.ofChange fp2NormsWrong)

/-- 'pharoslaw5.Fp2Reckons': WHATEVER THE INPUT: true; the input reads as it did. -/
def fp2ReckonsSpec : ChangeSpec := { name := "fp2Reckons", fn := fun _ => fun
  | [d1, d2, d3] => { results := [.lit (.bool true)], args := [d1, d2, d3] }
  | _ => none }
def fp2ReckonsRow : OpenClaim := { program := "ytbdbmcdcjejffaa", sum := "403deec4cc99ff8683c1a47c4d31c88e47f628d340efa9164cff94b94d54981b", func := "pharos/pharoslaw5.Fp2Reckons", spec := "fp2Reckons", inPlace := ["math/bits.Add64", "math/bits.Sub64"], apart := false }
def Fp2ReckonsSaid : Prop := fp2ReckonsRow.holds Try.pinned (OpenSpec.ofChange fp2ReckonsSpec)

/-- ITS FALSE NEIGHBOUR: 'it returns false'. Refute it at one input. -/
def fp2ReckonsWrong : ChangeSpec := { name := "fp2Reckons", fn := fun _ => fun
  | [d1, d2, d3] => { results := [.lit (.bool false)], args := [d1, d2, d3] }
  | _ => none }
def Fp2ReckonsWrongFalsely : Prop := fp2ReckonsRow.holds Try.pinned (OpenSpec.ofChange fp2ReckonsWrong)

/-- 'pharoslaw7.Fp12Parts': WHATEVER THE INPUT: true; the input reads as it did. -/
def fp12PartsSpec : ChangeSpec := { name := "fp12Parts", fn := fun _ => fun
  | [d1, d2] => { results := [.lit (.bool true)], args := [d1, d2] }
  | _ => none }
def fp12PartsRow : OpenClaim := { program := "ytbdbmcdcjejffaa", sum := "403deec4cc99ff8683c1a47c4d31c88e47f628d340efa9164cff94b94d54981b", func := "pharos/pharoslaw7.Fp12Parts", spec := "fp12Parts", inPlace := ["math/bits.Add64", "math/bits.Sub64"], unfollowed := true, recurses := true, apart := false }
def Fp12PartsSaid : Prop := fp12PartsRow.holds Try.pinned (OpenSpec.ofChange fp12PartsSpec)

/-- ITS FALSE NEIGHBOUR: 'it returns false'. Refute it at one input. -/
def fp12PartsWrong : ChangeSpec := { name := "fp12Parts", fn := fun _ => fun
  | [d1, d2] => { results := [.lit (.bool false)], args := [d1, d2] }
  | _ => none }
def Fp12PartsWrongFalsely : Prop := fp12PartsRow.holds Try.pinned (OpenSpec.ofChange fp12PartsWrong)

/-- 'pharoslaw5.Fp2Roots': WHATEVER THE INPUT: true; the input reads as it did. -/
def fp2RootsSpec : ChangeSpec := { name := "fp2Roots", fn := fun _ => fun
  | [d1, d2, d3] => { results := [.lit (.bool true)], args := [d1, d2, d3] }
  | _ => none }
def fp2RootsRow : OpenClaim := { program := "ytbdbmcdcjejffaa", sum := "403deec4cc99ff8683c1a47c4d31c88e47f628d340efa9164cff94b94d54981b", func := "pharos/pharoslaw5.Fp2Roots", spec := "fp2Roots", inPlace := ["math/bits.Add64", "math/bits.Sub64"], apart := false }
def Fp2RootsSaid : Prop := fp2RootsRow.holds Try.pinned (OpenSpec.ofChange fp2RootsSpec)

/-- ITS FALSE NEIGHBOUR: 'it returns false'. Refute it at one input. -/
def fp2RootsWrong : ChangeSpec := { name := "fp2Roots", fn := fun _ => fun
  | [d1, d2, d3] => { results := [.lit (.bool false)], args := [d1, d2, d3] }
  | _ => none }
def Fp2RootsWrongFalsely : Prop := fp2RootsRow.holds Try.pinned (OpenSpec.ofChange fp2RootsWrong)

/-- 'pharoslaw5.Fp2Laws': WHATEVER THE INPUT: true; the input reads as it did. -/
def fp2LawsSpec : ChangeSpec := { name := "fp2Laws", fn := fun _ => fun
  | [d1, d2, d3] => { results := [.lit (.bool true)], args := [d1, d2, d3] }
  | _ => none }
def fp2LawsRow : OpenClaim := { program := "ytbdbmcdcjejffaa", sum := "403deec4cc99ff8683c1a47c4d31c88e47f628d340efa9164cff94b94d54981b", func := "pharos/pharoslaw5.Fp2Laws", spec := "fp2Laws", inPlace := ["math/bits.Add64", "math/bits.Sub64"], unfollowed := true, recurses := true, apart := false }
def Fp2LawsSaid : Prop := fp2LawsRow.holds Try.pinned (OpenSpec.ofChange fp2LawsSpec)

/-- ITS FALSE NEIGHBOUR: 'it returns false'. Refute it at one input. -/
def fp2LawsWrong : ChangeSpec := { name := "fp2Laws", fn := fun _ => fun
  | [d1, d2, d3] => { results := [.lit (.bool false)], args := [d1, d2, d3] }
  | _ => none }
def Fp2LawsWrongFalsely : Prop := fp2LawsRow.holds Try.pinned (OpenSpec.ofChange fp2LawsWrong)

/-- 'pharoslaw7.Fp12Powers': WHATEVER THE INPUT: true; the input reads as it did. -/
def fp12PowersSpec : ChangeSpec := { name := "fp12Powers", fn := fun _ => fun
  | [d1, d2] => { results := [.lit (.bool true)], args := [d1, d2] }
  | _ => none }
def fp12PowersRow : OpenClaim := { program := "ytbdbmcdcjejffaa", sum := "403deec4cc99ff8683c1a47c4d31c88e47f628d340efa9164cff94b94d54981b", func := "pharos/pharoslaw7.Fp12Powers", spec := "fp12Powers", inPlace := ["math/bits.Add64", "math/bits.Sub64"], unfollowed := true, recurses := true, apart := false }
def Fp12PowersSaid : Prop := fp12PowersRow.holds Try.pinned (OpenSpec.ofChange fp12PowersSpec)

/-- ITS FALSE NEIGHBOUR: 'it returns false'. Refute it at one input. -/
def fp12PowersWrong : ChangeSpec := { name := "fp12Powers", fn := fun _ => fun
  | [d1, d2] => { results := [.lit (.bool false)], args := [d1, d2] }
  | _ => none }
def Fp12PowersWrongFalsely : Prop := fp12PowersRow.holds Try.pinned (OpenSpec.ofChange fp12PowersWrong)

/-- 'pharoslaw5.Fp2Powers': WHATEVER THE INPUT: true; the input reads as it did. -/
def fp2PowersSpec : ChangeSpec := { name := "fp2Powers", fn := fun _ => fun
  | [d1, d2] => { results := [.lit (.bool true)], args := [d1, d2] }
  | _ => none }
def fp2PowersRow : OpenClaim := { program := "ytbdbmcdcjejffaa", sum := "403deec4cc99ff8683c1a47c4d31c88e47f628d340efa9164cff94b94d54981b", func := "pharos/pharoslaw5.Fp2Powers", spec := "fp2Powers", inPlace := ["math/bits.Add64", "math/bits.Sub64"], unfollowed := true, recurses := true, apart := false }
def Fp2PowersSaid : Prop := fp2PowersRow.holds Try.pinned (OpenSpec.ofChange fp2PowersSpec)

/-- ITS FALSE NEIGHBOUR: 'it returns false'. Refute it at one input. -/
def fp2PowersWrong : ChangeSpec := { name := "fp2Powers", fn := fun _ => fun
  | [d1, d2] => { results := [.lit (.bool false)], args := [d1, d2] }
  | _ => none }
def Fp2PowersWrongFalsely : Prop := fp2PowersRow.holds Try.pinned (OpenSpec.ofChange fp2PowersWrong)

/-- 'pharoslaw7.Fp12Frobs': WHATEVER THE INPUT: true; the input reads as it did. -/
def fp12FrobsSpec : ChangeSpec := { name := "fp12Frobs", fn := fun _ => fun
  | [d1, d2, d3, d4] => { results := [.lit (.bool true)], args := [d1, d2, d3, d4] }
  | _ => none }
def fp12FrobsRow : OpenClaim := { program := "ytbdbmcdcjejffaa", sum := "403deec4cc99ff8683c1a47c4d31c88e47f628d340efa9164cff94b94d54981b", func := "pharos/pharoslaw7.Fp12Frobs", spec := "fp12Frobs", inPlace := ["math/bits.Add64", "math/bits.Sub64"], unfollowed := true, recurses := true, apart := false }
def Fp12FrobsSaid : Prop := fp12FrobsRow.holds Try.pinned (OpenSpec.ofChange fp12FrobsSpec)

/-- ITS FALSE NEIGHBOUR: 'it returns false'. Refute it at one input. -/
def fp12FrobsWrong : ChangeSpec := { name := "fp12Frobs", fn := fun _ => fun
  | [d1, d2, d3, d4] => { results := [.lit (.bool false)], args := [d1, d2, d3, d4] }
  | _ => none }
def Fp12FrobsWrongFalsely : Prop := fp12FrobsRow.holds Try.pinned (OpenSpec.ofChange fp12FrobsWrong)

/- THE SECOND FORM. 'bulk': how many values and letters a reading holds, each counted each time it is reached (what is shared counts as often as it is met; a slice's spare places count too). A statement '..UptoSaid' is the law's where the arguments, and the package variables that the reading takes, are together of bulk at most 1048576: NARROWER than '..Said'. Prove '..Said' where nothing that the law and all that it calls make is longer than what came in: it says more and counts as full. Else prove '..UptoSaid'. A law counts once. -/
mutual
def uptoBulk {H : Type} : DataW H → Nat
  | .lit (.string bytes) => bytes.length + 1
  | .lit _ => 1
  | .nil => 1
  | .ptr d => uptoBulk d + 1
  | .slice elems spare => uptoBulkAll elems + uptoBulkAll spare + 1
  | .agg parts => uptoBulkAll parts + 1
  | .iface _ d => uptoBulk d + 1
  | .map entries => uptoBulkEntries entries + 1
  | .held _ => 1
def uptoBulkAll {H : Type} : List (DataW H) → Nat
  | [] => 0
  | d :: r => uptoBulk d + uptoBulkAll r
def uptoBulkEntries {H : Type} : List (Lit × DataW H) → Nat
  | [] => 0
  | x :: r => uptoBulkEntry x + uptoBulkEntries r
def uptoBulkEntry {H : Type} : Lit × DataW H → Nat
  | (.string bytes, d) => bytes.length + uptoBulk d + 1
  | (_, d) => uptoBulk d + 1
 end
def uptoSmall : (H : Type) → List (DataW H) → Bool := fun _ ds => decide (uptoBulkAll ds ≤ 1048576)
def OpenSpec.upto (s : _root_.Go.ChangeSpec) : _root_.Go.OpenSpec := { _root_.Go.OpenSpec.ofChange s with cond := some uptoSmall }

/-- 'pharoslaw3.FpBytes', WHERE WHAT IT READS IS OF BULK AT MOST 1048576: true; the input reads as it did. -/
def fpBytesUptoRow : OpenClaim := { program := "ytbdbmcdcjejffaa", sum := "403deec4cc99ff8683c1a47c4d31c88e47f628d340efa9164cff94b94d54981b", func := "pharos/pharoslaw3.FpBytes", spec := "fpBytes", inPlace := ["math/bits.Add64", "math/bits.Sub64"], apart := false, narrowed := true }
def FpBytesUptoSaid : Prop := fpBytesUptoRow.holds Try.pinned (OpenSpec.upto fpBytesSpec)

/-- 'pharoslaw3.FpReckons', WHERE WHAT IT READS IS OF BULK AT MOST 1048576: true; the input reads as it did. -/
def fpReckonsUptoRow : OpenClaim := { program := "ytbdbmcdcjejffaa", sum := "403deec4cc99ff8683c1a47c4d31c88e47f628d340efa9164cff94b94d54981b", func := "pharos/pharoslaw3.FpReckons", spec := "fpReckons", inPlace := ["math/bits.Add64", "math/bits.Sub64"], apart := false, narrowed := true }
def FpReckonsUptoSaid : Prop := fpReckonsUptoRow.holds Try.pinned (OpenSpec.upto fpReckonsSpec)

/-- 'pharoslaw3.FpLaws', WHERE WHAT IT READS IS OF BULK AT MOST 1048576: true; the input reads as it did. -/
def fpLawsUptoRow : OpenClaim := { program := "ytbdbmcdcjejffaa", sum := "403deec4cc99ff8683c1a47c4d31c88e47f628d340efa9164cff94b94d54981b", func := "pharos/pharoslaw3.FpLaws", spec := "fpLaws", inPlace := ["math/bits.Add64", "math/bits.Sub64"], apart := false, narrowed := true }
def FpLawsUptoSaid : Prop := fpLawsUptoRow.holds Try.pinned (OpenSpec.upto fpLawsSpec)

/-- 'pharoslaw3.FpSolves', WHERE WHAT IT READS IS OF BULK AT MOST 1048576: true; the input reads as it did. -/
def fpSolvesUptoRow : OpenClaim := { program := "ytbdbmcdcjejffaa", sum := "403deec4cc99ff8683c1a47c4d31c88e47f628d340efa9164cff94b94d54981b", func := "pharos/pharoslaw3.FpSolves", spec := "fpSolves", inPlace := ["math/bits.Add64", "math/bits.Sub64"], apart := false, narrowed := true }
def FpSolvesUptoSaid : Prop := fpSolvesUptoRow.holds Try.pinned (OpenSpec.upto fpSolvesSpec)

/-- 'pharoslaw3.FpSigns', WHERE WHAT IT READS IS OF BULK AT MOST 1048576: true; the input reads as it did. -/
def fpSignsUptoRow : OpenClaim := { program := "ytbdbmcdcjejffaa", sum := "403deec4cc99ff8683c1a47c4d31c88e47f628d340efa9164cff94b94d54981b", func := "pharos/pharoslaw3.FpSigns", spec := "fpSigns", inPlace := ["math/bits.Add64", "math/bits.Sub64"], apart := false, narrowed := true }
def FpSignsUptoSaid : Prop := fpSignsUptoRow.holds Try.pinned (OpenSpec.upto fpSignsSpec)

/-- 'pharoslaw3.FpRoots', WHERE WHAT IT READS IS OF BULK AT MOST 1048576: true; the input reads as it did. -/
def fpRootsUptoRow : OpenClaim := { program := "ytbdbmcdcjejffaa", sum := "403deec4cc99ff8683c1a47c4d31c88e47f628d340efa9164cff94b94d54981b", func := "pharos/pharoslaw3.FpRoots", spec := "fpRoots", inPlace := ["math/bits.Add64", "math/bits.Sub64"], apart := false, narrowed := true }
def FpRootsUptoSaid : Prop := fpRootsUptoRow.holds Try.pinned (OpenSpec.upto fpRootsSpec)

/-- 'pharoslaw3.FpPowers', WHERE WHAT IT READS IS OF BULK AT MOST 1048576: true; the input reads as it did. -/
def fpPowersUptoRow : OpenClaim := { program := "ytbdbmcdcjejffaa", sum := "403deec4cc99ff8683c1a47c4d31c88e47f628d340efa9164cff94b94d54981b", func := "pharos/pharoslaw3.FpPowers", spec := "fpPowers", inPlace := ["math/bits.Add64", "math/bits.Sub64"], unfollowed := true, recurses := true, apart := false, narrowed := true }
def FpPowersUptoSaid : Prop := fpPowersUptoRow.holds Try.pinned (OpenSpec.upto fpPowersSpec)

/-- 'pharoslaw3.FpFermat', WHERE WHAT IT READS IS OF BULK AT MOST 1048576: true; the input reads as it did. -/
def fpFermatUptoRow : OpenClaim := { program := "ytbdbmcdcjejffaa", sum := "403deec4cc99ff8683c1a47c4d31c88e47f628d340efa9164cff94b94d54981b", func := "pharos/pharoslaw3.FpFermat", spec := "fpFermat", inPlace := ["math/bits.Add64", "math/bits.Sub64"], unfollowed := true, recurses := true, apart := false, narrowed := true }
def FpFermatUptoSaid : Prop := fpFermatUptoRow.holds Try.pinned (OpenSpec.upto fpFermatSpec)

/-- 'pharoslaw6.Fp6Laws', WHERE WHAT IT READS IS OF BULK AT MOST 1048576: true; the input reads as it did. -/
def fp6LawsUptoRow : OpenClaim := { program := "ytbdbmcdcjejffaa", sum := "403deec4cc99ff8683c1a47c4d31c88e47f628d340efa9164cff94b94d54981b", func := "pharos/pharoslaw6.Fp6Laws", spec := "fp6Laws", inPlace := ["math/bits.Add64", "math/bits.Sub64"], unfollowed := true, recurses := true, apart := false, narrowed := true }
def Fp6LawsUptoSaid : Prop := fp6LawsUptoRow.holds Try.pinned (OpenSpec.upto fp6LawsSpec)

/-- 'pharoslaw6.Fp6Reckons', WHERE WHAT IT READS IS OF BULK AT MOST 1048576: true; the input reads as it did. -/
def fp6ReckonsUptoRow : OpenClaim := { program := "ytbdbmcdcjejffaa", sum := "403deec4cc99ff8683c1a47c4d31c88e47f628d340efa9164cff94b94d54981b", func := "pharos/pharoslaw6.Fp6Reckons", spec := "fp6Reckons", inPlace := ["math/bits.Add64", "math/bits.Sub64"], unfollowed := true, recurses := true, apart := false, narrowed := true }
def Fp6ReckonsUptoSaid : Prop := fp6ReckonsUptoRow.holds Try.pinned (OpenSpec.upto fp6ReckonsSpec)

/-- 'pharoslaw6.Fp6Frobs', WHERE WHAT IT READS IS OF BULK AT MOST 1048576: true; the input reads as it did. -/
def fp6FrobsUptoRow : OpenClaim := { program := "ytbdbmcdcjejffaa", sum := "403deec4cc99ff8683c1a47c4d31c88e47f628d340efa9164cff94b94d54981b", func := "pharos/pharoslaw6.Fp6Frobs", spec := "fp6Frobs", inPlace := ["math/bits.Add64", "math/bits.Sub64"], apart := false, narrowed := true }
def Fp6FrobsUptoSaid : Prop := fp6FrobsUptoRow.holds Try.pinned (OpenSpec.upto fp6FrobsSpec)

/-- 'pharoslaw7.Fp12Norms', WHERE WHAT IT READS IS OF BULK AT MOST 1048576: true; the input reads as it did. -/
def fp12NormsUptoRow : OpenClaim := { program := "ytbdbmcdcjejffaa", sum := "403deec4cc99ff8683c1a47c4d31c88e47f628d340efa9164cff94b94d54981b", func := "pharos/pharoslaw7.Fp12Norms", spec := "fp12Norms", inPlace := ["math/bits.Add64", "math/bits.Sub64"], unfollowed := true, recurses := true, apart := false, narrowed := true }
def Fp12NormsUptoSaid : Prop := fp12NormsUptoRow.holds Try.pinned (OpenSpec.upto fp12NormsSpec)

/-- 'pharoslaw7.Fp12Laws', WHERE WHAT IT READS IS OF BULK AT MOST 1048576: true; the input reads as it did. -/
def fp12LawsUptoRow : OpenClaim := { program := "ytbdbmcdcjejffaa", sum := "403deec4cc99ff8683c1a47c4d31c88e47f628d340efa9164cff94b94d54981b", func := "pharos/pharoslaw7.Fp12Laws", spec := "fp12Laws", inPlace := ["math/bits.Add64", "math/bits.Sub64"], unfollowed := true, recurses := true, apart := false, narrowed := true }
def Fp12LawsUptoSaid : Prop := fp12LawsUptoRow.holds Try.pinned (OpenSpec.upto fp12LawsSpec)

/-- 'pharoslaw5.Fp2Signs', WHERE WHAT IT READS IS OF BULK AT MOST 1048576: true; the input reads as it did. -/
def fp2SignsUptoRow : OpenClaim := { program := "ytbdbmcdcjejffaa", sum := "403deec4cc99ff8683c1a47c4d31c88e47f628d340efa9164cff94b94d54981b", func := "pharos/pharoslaw5.Fp2Signs", spec := "fp2Signs", inPlace := ["math/bits.Add64", "math/bits.Sub64"], apart := false, narrowed := true }
def Fp2SignsUptoSaid : Prop := fp2SignsUptoRow.holds Try.pinned (OpenSpec.upto fp2SignsSpec)

/-- 'pharoslaw5.Fp2Norms', WHERE WHAT IT READS IS OF BULK AT MOST 1048576: true; the input reads as it did. -/
def fp2NormsUptoRow : OpenClaim := { program := "ytbdbmcdcjejffaa", sum := "403deec4cc99ff8683c1a47c4d31c88e47f628d340efa9164cff94b94d54981b", func := "pharos/pharoslaw5.Fp2Norms", spec := "fp2Norms", inPlace := ["math/bits.Add64", "math/bits.Sub64"], apart := false, narrowed := true }
def Fp2NormsUptoSaid : Prop := fp2NormsUptoRow.holds Try.pinned (OpenSpec.upto fp2NormsSpec)

/-- 'pharoslaw5.Fp2Reckons', WHERE WHAT IT READS IS OF BULK AT MOST 1048576: true; the input reads as it did. -/
def fp2ReckonsUptoRow : OpenClaim := { program := "ytbdbmcdcjejffaa", sum := "403deec4cc99ff8683c1a47c4d31c88e47f628d340efa9164cff94b94d54981b", func := "pharos/pharoslaw5.Fp2Reckons", spec := "fp2Reckons", inPlace := ["math/bits.Add64", "math/bits.Sub64"], apart := false, narrowed := true }
def Fp2ReckonsUptoSaid : Prop := fp2ReckonsUptoRow.holds Try.pinned (OpenSpec.upto fp2ReckonsSpec)

/-- 'pharoslaw7.Fp12Parts', WHERE WHAT IT READS IS OF BULK AT MOST 1048576: true; the input reads as it did. -/
def fp12PartsUptoRow : OpenClaim := { program := "ytbdbmcdcjejffaa", sum := "403deec4cc99ff8683c1a47c4d31c88e47f628d340efa9164cff94b94d54981b", func := "pharos/pharoslaw7.Fp12Parts", spec := "fp12Parts", inPlace := ["math/bits.Add64", "math/bits.Sub64"], unfollowed := true, recurses := true, apart := false, narrowed := true }
def Fp12PartsUptoSaid : Prop := fp12PartsUptoRow.holds Try.pinned (OpenSpec.upto fp12PartsSpec)

/-- 'pharoslaw5.Fp2Roots', WHERE WHAT IT READS IS OF BULK AT MOST 1048576: true; the input reads as it did. -/
def fp2RootsUptoRow : OpenClaim := { program := "ytbdbmcdcjejffaa", sum := "403deec4cc99ff8683c1a47c4d31c88e47f628d340efa9164cff94b94d54981b", func := "pharos/pharoslaw5.Fp2Roots", spec := "fp2Roots", inPlace := ["math/bits.Add64", "math/bits.Sub64"], apart := false, narrowed := true }
def Fp2RootsUptoSaid : Prop := fp2RootsUptoRow.holds Try.pinned (OpenSpec.upto fp2RootsSpec)

/-- 'pharoslaw5.Fp2Laws', WHERE WHAT IT READS IS OF BULK AT MOST 1048576: true; the input reads as it did. -/
def fp2LawsUptoRow : OpenClaim := { program := "ytbdbmcdcjejffaa", sum := "403deec4cc99ff8683c1a47c4d31c88e47f628d340efa9164cff94b94d54981b", func := "pharos/pharoslaw5.Fp2Laws", spec := "fp2Laws", inPlace := ["math/bits.Add64", "math/bits.Sub64"], unfollowed := true, recurses := true, apart := false, narrowed := true }
def Fp2LawsUptoSaid : Prop := fp2LawsUptoRow.holds Try.pinned (OpenSpec.upto fp2LawsSpec)

/-- 'pharoslaw7.Fp12Powers', WHERE WHAT IT READS IS OF BULK AT MOST 1048576: true; the input reads as it did. -/
def fp12PowersUptoRow : OpenClaim := { program := "ytbdbmcdcjejffaa", sum := "403deec4cc99ff8683c1a47c4d31c88e47f628d340efa9164cff94b94d54981b", func := "pharos/pharoslaw7.Fp12Powers", spec := "fp12Powers", inPlace := ["math/bits.Add64", "math/bits.Sub64"], unfollowed := true, recurses := true, apart := false, narrowed := true }
def Fp12PowersUptoSaid : Prop := fp12PowersUptoRow.holds Try.pinned (OpenSpec.upto fp12PowersSpec)

/-- 'pharoslaw5.Fp2Powers', WHERE WHAT IT READS IS OF BULK AT MOST 1048576: true; the input reads as it did. -/
def fp2PowersUptoRow : OpenClaim := { program := "ytbdbmcdcjejffaa", sum := "403deec4cc99ff8683c1a47c4d31c88e47f628d340efa9164cff94b94d54981b", func := "pharos/pharoslaw5.Fp2Powers", spec := "fp2Powers", inPlace := ["math/bits.Add64", "math/bits.Sub64"], unfollowed := true, recurses := true, apart := false, narrowed := true }
def Fp2PowersUptoSaid : Prop := fp2PowersUptoRow.holds Try.pinned (OpenSpec.upto fp2PowersSpec)

/-- 'pharoslaw7.Fp12Frobs', WHERE WHAT IT READS IS OF BULK AT MOST 1048576: true; the input reads as it did. -/
def fp12FrobsUptoRow : OpenClaim := { program := "ytbdbmcdcjejffaa", sum := "403deec4cc99ff8683c1a47c4d31c88e47f628d340efa9164cff94b94d54981b", func := "pharos/pharoslaw7.Fp12Frobs", spec := "fp12Frobs", inPlace := ["math/bits.Add64", "math/bits.Sub64"], unfollowed := true, recurses := true, apart := false, narrowed := true }
def Fp12FrobsUptoSaid : Prop := fp12FrobsUptoRow.holds Try.pinned (OpenSpec.upto fp12FrobsSpec)

end Rows
end Go.Proofs.Ytbdbmcdcjejffaa
