/-
  No cell of these rows narrows 'for every input' (looked for: loops, veiled, ifaces, maps, wideKeys, modest, calm, conditions, laid).
  DERIVED. THE GIVEN ROWS OF THIS SEAT. 10 by the template 'for every input the law returns true; each argument reads behind the call as it read before'; 0 by the template 'total and deterministic' (their statements: YtaloefkkllebeaaTotals.lean).
  GIVEN WITH THE SEED: the statements are not yours to turn. If you find one false, say at which input.
  Laid BY PROGRAM, IN A SANDBOX (cutbox-rows.mjs): the forced cells as the released guide's own fill.sh prints them over the translation 6832bac11050f4d3… (all of the seat's roots in one cut). By AI agents, Wed Nov 11 2026. No macro, syntax, notation, axiom, sorry.
-/
import Derived.Test.YtaloefkkllebeaaChecked
import GoSem.Claim
import GoSem.ClaimJoined
import GoSem.ClaimMapViews
import Derived.JoinedTies
import Derived.KernelRfl
namespace Go.Proofs.Ytaloefkkllebeaa
/- THE CELL 'sum', in the pinned program and in every row, IS THE sha256 OF THE DUMP (.gsa) THAT YtaloefkkllebeaaProg.lean LOADS. Nothing in Lean hashes anything: it is a label: what it is worth is what the hold of that sum in a sandbox is worth. -/
noncomputable def Try.pinned : Pinned := { name := "ytaloefkkllebeaa", sum := "6832bac11050f4d3b6c74fc72d57514faa532a81bde939a779f74bdf07beb1d6", checked := Try.checked }
namespace Rows
def none {H : Type} : Left H := { results := [], args := [] }

/-- 'pharoslaw2.LimbsSums': WHATEVER THE INPUT: true; the input reads as it did. -/
def limbsSumsSpec : ChangeSpec := { name := "limbsSums", fn := fun _ => fun
  | [d1, d2] => { results := [.lit (.bool true)], args := [d1, d2] }
  | _ => none }
def limbsSumsRow : OpenClaim := { program := "ytaloefkkllebeaa", sum := "6832bac11050f4d3b6c74fc72d57514faa532a81bde939a779f74bdf07beb1d6", func := "pharos/pharoslaw2.LimbsSums", spec := "limbsSums", inPlace := ["math/bits.Sub64", "math/bits.Add64"], unfollowed := true, recurses := true, apart := false }
def LimbsSumsSaid : Prop := limbsSumsRow.holds Try.pinned (OpenSpec.ofChange limbsSumsSpec)

/-- ITS FALSE NEIGHBOUR: 'it returns false'. Refute it at one input. -/
def limbsSumsWrong : ChangeSpec := { name := "limbsSums", fn := fun _ => fun
  | [d1, d2] => { results := [.lit (.bool false)], args := [d1, d2] }
  | _ => none }
def LimbsSumsWrongFalsely : Prop := limbsSumsRow.holds Try.pinned (OpenSpec.ofChange limbsSumsWrong)

/-- 'pharoslaw2.LimbsProducts': WHATEVER THE INPUT: true; the input reads as it did. -/
def limbsProductsSpec : ChangeSpec := { name := "limbsProducts", fn := fun _ => fun
  | [d1, d2, d3] => { results := [.lit (.bool true)], args := [d1, d2, d3] }
  | _ => none }
def limbsProductsRow : OpenClaim := { program := "ytaloefkkllebeaa", sum := "6832bac11050f4d3b6c74fc72d57514faa532a81bde939a779f74bdf07beb1d6", func := "pharos/pharoslaw2.LimbsProducts", spec := "limbsProducts", inPlace := ["math/bits.Sub64", "math/bits.Add64"], unfollowed := true, recurses := true, apart := false }
def LimbsProductsSaid : Prop := limbsProductsRow.holds Try.pinned (OpenSpec.ofChange limbsProductsSpec)

/-- ITS FALSE NEIGHBOUR: 'it returns false'. Refute it at one input. -/
def limbsProductsWrong : ChangeSpec := { name := "limbsProducts", fn := fun _ => fun
  | [d1, d2, d3] => { results := [.lit (.bool false)], args := [d1, d2, d3] }
  | _ => none }
def LimbsProductsWrongFalsely : Prop := limbsProductsRow.holds Try.pinned (OpenSpec.ofChange limbsProductsWrong)

/-- 'pharoslaw2.LimbsMods': WHATEVER THE INPUT: true; the input reads as it did. -/
def limbsModsSpec : ChangeSpec := { name := "limbsMods", fn := fun _ => fun
  | [d1, d2] => { results := [.lit (.bool true)], args := [d1, d2] }
  | _ => none }
def limbsModsRow : OpenClaim := { program := "ytaloefkkllebeaa", sum := "6832bac11050f4d3b6c74fc72d57514faa532a81bde939a779f74bdf07beb1d6", func := "pharos/pharoslaw2.LimbsMods", spec := "limbsMods", inPlace := ["math/bits.Sub64", "math/bits.Add64"], unfollowed := true, recurses := true, apart := false }
def LimbsModsSaid : Prop := limbsModsRow.holds Try.pinned (OpenSpec.ofChange limbsModsSpec)

/-- ITS FALSE NEIGHBOUR: 'it returns false'. Refute it at one input. -/
def limbsModsWrong : ChangeSpec := { name := "limbsMods", fn := fun _ => fun
  | [d1, d2] => { results := [.lit (.bool false)], args := [d1, d2] }
  | _ => none }
def LimbsModsWrongFalsely : Prop := limbsModsRow.holds Try.pinned (OpenSpec.ofChange limbsModsWrong)

/-- 'pharoslaw2.LimbsMonts': WHATEVER THE INPUT: true; the input reads as it did. -/
def limbsMontsSpec : ChangeSpec := { name := "limbsMonts", fn := fun _ => fun
  | [d1, d2, d3] => { results := [.lit (.bool true)], args := [d1, d2, d3] }
  | _ => none }
def limbsMontsRow : OpenClaim := { program := "ytaloefkkllebeaa", sum := "6832bac11050f4d3b6c74fc72d57514faa532a81bde939a779f74bdf07beb1d6", func := "pharos/pharoslaw2.LimbsMonts", spec := "limbsMonts", inPlace := ["math/bits.Sub64", "math/bits.Add64"], unfollowed := true, recurses := true, apart := false }
def LimbsMontsSaid : Prop := limbsMontsRow.holds Try.pinned (OpenSpec.ofChange limbsMontsSpec)

/-- ITS FALSE NEIGHBOUR: 'it returns false'. Refute it at one input. -/
def limbsMontsWrong : ChangeSpec := { name := "limbsMonts", fn := fun _ => fun
  | [d1, d2, d3] => { results := [.lit (.bool false)], args := [d1, d2, d3] }
  | _ => none }
def LimbsMontsWrongFalsely : Prop := limbsMontsRow.holds Try.pinned (OpenSpec.ofChange limbsMontsWrong)

/-- 'pharoslaw2.LimbsBits': WHATEVER THE INPUT: true; the input reads as it did. -/
def limbsBitsSpec : ChangeSpec := { name := "limbsBits", fn := fun _ => fun
  | [d1, d2] => { results := [.lit (.bool true)], args := [d1, d2] }
  | _ => none }
def limbsBitsRow : OpenClaim := { program := "ytaloefkkllebeaa", sum := "6832bac11050f4d3b6c74fc72d57514faa532a81bde939a779f74bdf07beb1d6", func := "pharos/pharoslaw2.LimbsBits", spec := "limbsBits", inPlace := ["math/bits.Sub64", "math/bits.Add64"], unfollowed := true, recurses := true, apart := false }
def LimbsBitsSaid : Prop := limbsBitsRow.holds Try.pinned (OpenSpec.ofChange limbsBitsSpec)

/-- ITS FALSE NEIGHBOUR: 'it returns false'. Refute it at one input. -/
def limbsBitsWrong : ChangeSpec := { name := "limbsBits", fn := fun _ => fun
  | [d1, d2] => { results := [.lit (.bool false)], args := [d1, d2] }
  | _ => none }
def LimbsBitsWrongFalsely : Prop := limbsBitsRow.holds Try.pinned (OpenSpec.ofChange limbsBitsWrong)

/-- 'pharoslaw2.LimbsBytes': WHATEVER THE INPUT: true; the input reads as it did. -/
def limbsBytesSpec : ChangeSpec := { name := "limbsBytes", fn := fun _ => fun
  | [d1, d2] => { results := [.lit (.bool true)], args := [d1, d2] }
  | _ => none }
def limbsBytesRow : OpenClaim := { program := "ytaloefkkllebeaa", sum := "6832bac11050f4d3b6c74fc72d57514faa532a81bde939a779f74bdf07beb1d6", func := "pharos/pharoslaw2.LimbsBytes", spec := "limbsBytes", inPlace := ["math/bits.Sub64", "math/bits.Add64"], unfollowed := true, recurses := true, apart := false }
def LimbsBytesSaid : Prop := limbsBytesRow.holds Try.pinned (OpenSpec.ofChange limbsBytesSpec)

/-- ITS FALSE NEIGHBOUR: 'it returns false'. Refute it at one input. -/
def limbsBytesWrong : ChangeSpec := { name := "limbsBytes", fn := fun _ => fun
  | [d1, d2] => { results := [.lit (.bool false)], args := [d1, d2] }
  | _ => none }
def LimbsBytesWrongFalsely : Prop := limbsBytesRow.holds Try.pinned (OpenSpec.ofChange limbsBytesWrong)

/-- 'pharoslaw4.FrBytes': WHATEVER THE INPUT: true; the input reads as it did. -/
def frBytesSpec : ChangeSpec := { name := "frBytes", fn := fun _ => fun
  | [d1, d2, d3] => { results := [.lit (.bool true)], args := [d1, d2, d3] }
  | _ => none }
def frBytesRow : OpenClaim := { program := "ytaloefkkllebeaa", sum := "6832bac11050f4d3b6c74fc72d57514faa532a81bde939a779f74bdf07beb1d6", func := "pharos/pharoslaw4.FrBytes", spec := "frBytes", inPlace := ["math/bits.Add64", "math/bits.Sub64"], unfollowed := true, recurses := true, apart := false }
def FrBytesSaid : Prop := frBytesRow.holds Try.pinned (OpenSpec.ofChange frBytesSpec)

/-- ITS FALSE NEIGHBOUR: 'it returns false'. Refute it at one input. -/
def frBytesWrong : ChangeSpec := { name := "frBytes", fn := fun _ => fun
  | [d1, d2, d3] => { results := [.lit (.bool false)], args := [d1, d2, d3] }
  | _ => none }
def FrBytesWrongFalsely : Prop := frBytesRow.holds Try.pinned (OpenSpec.ofChange frBytesWrong)

/-- 'pharoslaw4.FrBits': WHATEVER THE INPUT: true; the input reads as it did. -/
def frBitsSpec : ChangeSpec := { name := "frBits", fn := fun _ => fun
  | [d1, d2] => { results := [.lit (.bool true)], args := [d1, d2] }
  | _ => none }
def frBitsRow : OpenClaim := { program := "ytaloefkkllebeaa", sum := "6832bac11050f4d3b6c74fc72d57514faa532a81bde939a779f74bdf07beb1d6", func := "pharos/pharoslaw4.FrBits", spec := "frBits", inPlace := ["math/bits.Add64", "math/bits.Sub64"], unfollowed := true, recurses := true, apart := false }
def FrBitsSaid : Prop := frBitsRow.holds Try.pinned (OpenSpec.ofChange frBitsSpec)

/-- ITS FALSE NEIGHBOUR: 'it returns false'. Refute it at one input. -/
def frBitsWrong : ChangeSpec := { name := "frBits", fn := fun _ => fun
  | [d1, d2] => { results := [.lit (.bool false)], args := [d1, d2] }
  | _ => none }
def FrBitsWrongFalsely : Prop := frBitsRow.holds Try.pinned (OpenSpec.ofChange frBitsWrong)

/-- 'pharoslaw4.FrReckons': WHATEVER THE INPUT: true; the input reads as it did. -/
def frReckonsSpec : ChangeSpec := { name := "frReckons", fn := fun _ => fun
  | [d1, d2] => { results := [.lit (.bool true)], args := [d1, d2] }
  | _ => none }
def frReckonsRow : OpenClaim := { program := "ytaloefkkllebeaa", sum := "6832bac11050f4d3b6c74fc72d57514faa532a81bde939a779f74bdf07beb1d6", func := "pharos/pharoslaw4.FrReckons", spec := "frReckons", inPlace := ["math/bits.Add64", "math/bits.Sub64"], unfollowed := true, recurses := true, apart := false }
def FrReckonsSaid : Prop := frReckonsRow.holds Try.pinned (OpenSpec.ofChange frReckonsSpec)

/-- ITS FALSE NEIGHBOUR: 'it returns false'. Refute it at one input. -/
def frReckonsWrong : ChangeSpec := { name := "frReckons", fn := fun _ => fun
  | [d1, d2] => { results := [.lit (.bool false)], args := [d1, d2] }
  | _ => none }
def FrReckonsWrongFalsely : Prop := frReckonsRow.holds Try.pinned (OpenSpec.ofChange frReckonsWrong)

/-- 'pharoslaw4.FrLaws': WHATEVER THE INPUT: true; the input reads as it did. -/
def frLawsSpec : ChangeSpec := { name := "frLaws", fn := fun _ => fun
  | [d1, d2, d3] => { results := [.lit (.bool true)], args := [d1, d2, d3] }
  | _ => none }
def frLawsRow : OpenClaim := { program := "ytaloefkkllebeaa", sum := "6832bac11050f4d3b6c74fc72d57514faa532a81bde939a779f74bdf07beb1d6", func := "pharos/pharoslaw4.FrLaws", spec := "frLaws", inPlace := ["math/bits.Add64", "math/bits.Sub64"], unfollowed := true, recurses := true, apart := false }
def FrLawsSaid : Prop := frLawsRow.holds Try.pinned (OpenSpec.ofChange frLawsSpec)

/-- ITS FALSE NEIGHBOUR: 'it returns false'. Refute it at one input. -/
def frLawsWrong : ChangeSpec := { name := "frLaws", fn := fun _ => fun
  | [d1, d2, d3] => { results := [.lit (.bool false)], args := [d1, d2, d3] }
  | _ => none }
def FrLawsWrongFalsely : Prop := frLawsRow.holds Try.pinned (OpenSpec.ofChange frLawsWrong)

/- THE SECOND FORM. 'bulk': how many values and letters a reading holds, each counted each time it is reached (what is shared counts as often as it is met; a slice's spare places count too). A statement '..UptoSaid' is the law's where the arguments, and the package variables that the reading takes, are together of bulk at most 1048576: NARROWER than '..Said'. Prove '..Said' where nothing that the law and all that it calls make is longer than what came in: it says more and counts as full. Else prove '..UptoSaid'. A law counts once. -/
mutual
def uptoBulk {H : Type} : DataW H → Nat
  | .lit (.string bytes) => bytes.length + 1
  | .lit _ => 1
  | .nil => 1
  | .ptr d => uptoBulk d + 1
  | .slice elems spare => uptoBulkAll elems + uptoBulkAll spare + 1
  | .agg parts => uptoBulkAll parts + 1
  | .iface _ d => uptoBulk d + 1
  | .map entries => uptoBulkEntries entries + 1
  | .held _ => 1
def uptoBulkAll {H : Type} : List (DataW H) → Nat
  | [] => 0
  | d :: r => uptoBulk d + uptoBulkAll r
def uptoBulkEntries {H : Type} : List (Lit × DataW H) → Nat
  | [] => 0
  | x :: r => uptoBulkEntry x + uptoBulkEntries r
def uptoBulkEntry {H : Type} : Lit × DataW H → Nat
  | (.string bytes, d) => bytes.length + uptoBulk d + 1
  | (_, d) => uptoBulk d + 1
 end
def uptoSmall : (H : Type) → List (DataW H) → Bool := fun _ ds => decide (uptoBulkAll ds ≤ 1048576)
def OpenSpec.upto (s : _root_.Go.ChangeSpec) : _root_.Go.OpenSpec := { _root_.Go.OpenSpec.ofChange s with cond := some uptoSmall }

/-- 'pharoslaw2.LimbsSums', WHERE WHAT IT READS IS OF BULK AT MOST 1048576: true; the input reads as it did. -/
def limbsSumsUptoRow : OpenClaim := { program := "ytaloefkkllebeaa", sum := "6832bac11050f4d3b6c74fc72d57514faa532a81bde939a779f74bdf07beb1d6", func := "pharos/pharoslaw2.LimbsSums", spec := "limbsSums", inPlace := ["math/bits.Sub64", "math/bits.Add64"], unfollowed := true, recurses := true, apart := false, narrowed := true }
def LimbsSumsUptoSaid : Prop := limbsSumsUptoRow.holds Try.pinned (OpenSpec.upto limbsSumsSpec)

/-- 'pharoslaw2.LimbsProducts', WHERE WHAT IT READS IS OF BULK AT MOST 1048576: true; the input reads as it did. -/
def limbsProductsUptoRow : OpenClaim := { program := "ytaloefkkllebeaa", sum := "6832bac11050f4d3b6c74fc72d57514faa532a81bde939a779f74bdf07beb1d6", func := "pharos/pharoslaw2.LimbsProducts", spec := "limbsProducts", inPlace := ["math/bits.Sub64", "math/bits.Add64"], unfollowed := true, recurses := true, apart := false, narrowed := true }
def LimbsProductsUptoSaid : Prop := limbsProductsUptoRow.holds Try.pinned (OpenSpec.upto limbsProductsSpec)

/-- 'pharoslaw2.LimbsMods', WHERE WHAT IT READS IS OF BULK AT MOST 1048576: true; the input reads as it did. -/
def limbsModsUptoRow : OpenClaim := { program := "ytaloefkkllebeaa", sum := "6832bac11050f4d3b6c74fc72d57514faa532a81bde939a779f74bdf07beb1d6", func := "pharos/pharoslaw2.LimbsMods", spec := "limbsMods", inPlace := ["math/bits.Sub64", "math/bits.Add64"], unfollowed := true, recurses := true, apart := false, narrowed := true }
def LimbsModsUptoSaid : Prop := limbsModsUptoRow.holds Try.pinned (OpenSpec.upto limbsModsSpec)

/-- 'pharoslaw2.LimbsMonts', WHERE WHAT IT READS IS OF BULK AT MOST 1048576: true; the input reads as it did. -/
def limbsMontsUptoRow : OpenClaim := { program := "ytaloefkkllebeaa", sum := "6832bac11050f4d3b6c74fc72d57514faa532a81bde939a779f74bdf07beb1d6", func := "pharos/pharoslaw2.LimbsMonts", spec := "limbsMonts", inPlace := ["math/bits.Sub64", "math/bits.Add64"], unfollowed := true, recurses := true, apart := false, narrowed := true }
def LimbsMontsUptoSaid : Prop := limbsMontsUptoRow.holds Try.pinned (OpenSpec.upto limbsMontsSpec)

/-- 'pharoslaw2.LimbsBits', WHERE WHAT IT READS IS OF BULK AT MOST 1048576: true; the input reads as it did. -/
def limbsBitsUptoRow : OpenClaim := { program := "ytaloefkkllebeaa", sum := "6832bac11050f4d3b6c74fc72d57514faa532a81bde939a779f74bdf07beb1d6", func := "pharos/pharoslaw2.LimbsBits", spec := "limbsBits", inPlace := ["math/bits.Sub64", "math/bits.Add64"], unfollowed := true, recurses := true, apart := false, narrowed := true }
def LimbsBitsUptoSaid : Prop := limbsBitsUptoRow.holds Try.pinned (OpenSpec.upto limbsBitsSpec)

/-- 'pharoslaw2.LimbsBytes', WHERE WHAT IT READS IS OF BULK AT MOST 1048576: true; the input reads as it did. -/
def limbsBytesUptoRow : OpenClaim := { program := "ytaloefkkllebeaa", sum := "6832bac11050f4d3b6c74fc72d57514faa532a81bde939a779f74bdf07beb1d6", func := "pharos/pharoslaw2.LimbsBytes", spec := "limbsBytes", inPlace := ["math/bits.Sub64", "math/bits.Add64"], unfollowed := true, recurses := true, apart := false, narrowed := true }
def LimbsBytesUptoSaid : Prop := limbsBytesUptoRow.holds Try.pinned (OpenSpec.upto limbsBytesSpec)

/-- 'pharoslaw4.FrBytes', WHERE WHAT IT READS IS OF BULK AT MOST 1048576: true; the input reads as it did. -/
def frBytesUptoRow : OpenClaim := { program := "ytaloefkkllebeaa", sum := "6832bac11050f4d3b6c74fc72d57514faa532a81bde939a779f74bdf07beb1d6", func := "pharos/pharoslaw4.FrBytes", spec := "frBytes", inPlace := ["math/bits.Add64", "math/bits.Sub64"], unfollowed := true, recurses := true, apart := false, narrowed := true }
def FrBytesUptoSaid : Prop := frBytesUptoRow.holds Try.pinned (OpenSpec.upto frBytesSpec)

/-- 'pharoslaw4.FrBits', WHERE WHAT IT READS IS OF BULK AT MOST 1048576: true; the input reads as it did. -/
def frBitsUptoRow : OpenClaim := { program := "ytaloefkkllebeaa", sum := "6832bac11050f4d3b6c74fc72d57514faa532a81bde939a779f74bdf07beb1d6", func := "pharos/pharoslaw4.FrBits", spec := "frBits", inPlace := ["math/bits.Add64", "math/bits.Sub64"], unfollowed := true, recurses := true, apart := false, narrowed := true }
def FrBitsUptoSaid : Prop := frBitsUptoRow.holds Try.pinned (OpenSpec.upto frBitsSpec)

/-- 'pharoslaw4.FrReckons', WHERE WHAT IT READS IS OF BULK AT MOST 1048576: true; the input reads as it did. -/
def frReckonsUptoRow : OpenClaim := { program := "ytaloefkkllebeaa", sum := "6832bac11050f4d3b6c74fc72d57514faa532a81bde939a779f74bdf07beb1d6", func := "pharos/pharoslaw4.FrReckons", spec := "frReckons", inPlace := ["math/bits.Add64", "math/bits.Sub64"], unfollowed := true, recurses := true, apart := false, narrowed := true }
def FrReckonsUptoSaid : Prop := frReckonsUptoRow.holds Try.pinned (OpenSpec.upto frReckonsSpec)

/-- 'pharoslaw4.FrLaws', WHERE WHAT IT READS IS OF BULK AT MOST 1048576: true; the input reads as it did. -/
def frLawsUptoRow : OpenClaim := { program := "ytaloefkkllebeaa", sum := "6832bac11050f4d3b6c74fc72d57514faa532a81bde939a779f74bdf07beb1d6", func := "pharos/pharoslaw4.FrLaws", spec := "frLaws", inPlace := ["math/bits.Add64", "math/bits.Sub64"], unfollowed := true, recurses := true, apart := false, narrowed := true }
def FrLawsUptoSaid : Prop := frLawsUptoRow.holds Try.pinned (OpenSpec.upto frLawsSpec)

end Rows
end Go.Proofs.Ytaloefkkllebeaa
