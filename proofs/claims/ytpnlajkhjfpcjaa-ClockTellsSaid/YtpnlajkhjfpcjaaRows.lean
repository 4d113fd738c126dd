/-
  No cell of these rows narrows 'for every input' (looked for: loops, veiled, ifaces, maps, wideKeys, modest, calm, conditions, laid).
  DERIVED. THE GIVEN ROWS OF THIS SEAT. 4 by the template 'for every input the law returns true; each argument reads behind the call as it read before'; 0 by the template 'total and deterministic' (their statements: YtpnlajkhjfpcjaaTotals.lean).
  GIVEN WITH THE SEED: the statements are not yours to turn. If you find one false, say at which input.
  Laid BY PROGRAM, IN A SANDBOX (cutbox-rows.mjs): the forced cells as the released guide's own fill.sh prints them over the translation 45083211547ff032… (all of the seat's roots in one cut). By AI agents, Wed Nov 11 2026. No macro, syntax, notation, axiom, sorry.
-/
import Derived.Test.YtpnlajkhjfpcjaaChecked
import GoSem.Claim
import GoSem.ClaimJoined
import GoSem.ClaimMapViews
import Derived.JoinedTies
import Derived.KernelRfl
namespace Go.Proofs.Ytpnlajkhjfpcjaa
/- THE CELL 'sum', in the pinned program and in every row, IS THE sha256 OF THE DUMP (.gsa) THAT YtpnlajkhjfpcjaaProg.lean LOADS. Nothing in Lean hashes anything: it is a label: what it is worth is what the hold of that sum in a sandbox is worth. -/
noncomputable def Try.pinned : Pinned := { name := "ytpnlajkhjfpcjaa", sum := "45083211547ff032d56010d6f2fc7b845943b9f8508de2712ff2a58c77d865b0", checked := Try.checked }
namespace Rows
def none {H : Type} : Left H := { results := [], args := [] }

/-- 'pharoslaw21.ClockTells': WHATEVER THE INPUT: true; the input reads as it did. -/
def clockTellsSpec : ChangeSpec := { name := "clockTells", fn := fun _ => fun
  | [d1, d2] => { results := [.lit (.bool true)], args := [d1, d2] }
  | _ => none }
def clockTellsRow : OpenClaim := { program := "ytpnlajkhjfpcjaa", sum := "45083211547ff032d56010d6f2fc7b845943b9f8508de2712ff2a58c77d865b0", func := "pharos/pharoslaw21.ClockTells", spec := "clockTells", inPlace := ["math/bits.Add64"], apart := false }
def ClockTellsSaid : Prop := clockTellsRow.holds Try.pinned (OpenSpec.ofChange clockTellsSpec)

/-- ITS FALSE NEIGHBOUR: 'it returns false'. Refute it at one input. -/
def clockTellsWrong : ChangeSpec := { name := "clockTells", fn := fun _ => fun
  | [d1, d2] => { results := [.lit (.bool false)], args := [d1, d2] }
  | _ => none }
def ClockTellsWrongFalsely : Prop := clockTellsRow.holds Try.pinned (OpenSpec.ofChange clockTellsWrong)

/-- 'pharoslaw21.ClockDeadlines': WHATEVER THE INPUT: true; the input reads as it did. -/
def clockDeadlinesSpec : ChangeSpec := { name := "clockDeadlines", fn := fun _ => fun
  | [d1, d2, d3] => { results := [.lit (.bool true)], args := [d1, d2, d3] }
  | _ => none }
def clockDeadlinesRow : OpenClaim := { program := "ytpnlajkhjfpcjaa", sum := "45083211547ff032d56010d6f2fc7b845943b9f8508de2712ff2a58c77d865b0", func := "pharos/pharoslaw21.ClockDeadlines", spec := "clockDeadlines", inPlace := ["math/bits.Add64"], apart := false }
def ClockDeadlinesSaid : Prop := clockDeadlinesRow.holds Try.pinned (OpenSpec.ofChange clockDeadlinesSpec)

/-- ITS FALSE NEIGHBOUR: 'it returns false'. Refute it at one input. -/
def clockDeadlinesWrong : ChangeSpec := { name := "clockDeadlines", fn := fun _ => fun
  | [d1, d2, d3] => { results := [.lit (.bool false)], args := [d1, d2, d3] }
  | _ => none }
def ClockDeadlinesWrongFalsely : Prop := clockDeadlinesRow.holds Try.pinned (OpenSpec.ofChange clockDeadlinesWrong)

/-- 'pharoslaw21.ClockThresholds': WHATEVER THE INPUT: true; the input reads as it did. -/
def clockThresholdsSpec : ChangeSpec := { name := "clockThresholds", fn := fun _ => fun
  | [d1, d2] => { results := [.lit (.bool true)], args := [d1, d2] }
  | _ => none }
def clockThresholdsRow : OpenClaim := { program := "ytpnlajkhjfpcjaa", sum := "45083211547ff032d56010d6f2fc7b845943b9f8508de2712ff2a58c77d865b0", func := "pharos/pharoslaw21.ClockThresholds", spec := "clockThresholds", inPlace := ["math/bits.Add64"], apart := false }
def ClockThresholdsSaid : Prop := clockThresholdsRow.holds Try.pinned (OpenSpec.ofChange clockThresholdsSpec)

/-- ITS FALSE NEIGHBOUR: 'it returns false'. Refute it at one input. -/
def clockThresholdsWrong : ChangeSpec := { name := "clockThresholds", fn := fun _ => fun
  | [d1, d2] => { results := [.lit (.bool false)], args := [d1, d2] }
  | _ => none }
def ClockThresholdsWrongFalsely : Prop := clockThresholdsRow.holds Try.pinned (OpenSpec.ofChange clockThresholdsWrong)

/-- 'pharoslaw21.ClockPeriods': WHATEVER THE INPUT: true; the input reads as it did. -/
def clockPeriodsSpec : ChangeSpec := { name := "clockPeriods", fn := fun _ => fun
  | [d1, d2] => { results := [.lit (.bool true)], args := [d1, d2] }
  | _ => none }
def clockPeriodsRow : OpenClaim := { program := "ytpnlajkhjfpcjaa", sum := "45083211547ff032d56010d6f2fc7b845943b9f8508de2712ff2a58c77d865b0", func := "pharos/pharoslaw21.ClockPeriods", spec := "clockPeriods", inPlace := ["math/bits.Add64"], apart := false }
def ClockPeriodsSaid : Prop := clockPeriodsRow.holds Try.pinned (OpenSpec.ofChange clockPeriodsSpec)

/-- ITS FALSE NEIGHBOUR: 'it returns false'. Refute it at one input. -/
def clockPeriodsWrong : ChangeSpec := { name := "clockPeriods", fn := fun _ => fun
  | [d1, d2] => { results := [.lit (.bool false)], args := [d1, d2] }
  | _ => none }
def ClockPeriodsWrongFalsely : Prop := clockPeriodsRow.holds Try.pinned (OpenSpec.ofChange clockPeriodsWrong)

/- THE SECOND FORM. 'bulk': how many values and letters a reading holds, each counted each time it is reached (what is shared counts as often as it is met; a slice's spare places count too). A statement '..UptoSaid' is the law's where the arguments, and the package variables that the reading takes, are together of bulk at most 1048576: NARROWER than '..Said'. Prove '..Said' where nothing that the law and all that it calls make is longer than what came in: it says more and counts as full. Else prove '..UptoSaid'. A law counts once. -/
mutual
def uptoBulk {H : Type} : DataW H → Nat
  | .lit (.string bytes) => bytes.length + 1
  | .lit _ => 1
  | .nil => 1
  | .ptr d => uptoBulk d + 1
  | .slice elems spare => uptoBulkAll elems + uptoBulkAll spare + 1
  | .agg parts => uptoBulkAll parts + 1
  | .iface _ d => uptoBulk d + 1
  | .map entries => uptoBulkEntries entries + 1
  | .held _ => 1
def uptoBulkAll {H : Type} : List (DataW H) → Nat
  | [] => 0
  | d :: r => uptoBulk d + uptoBulkAll r
def uptoBulkEntries {H : Type} : List (Lit × DataW H) → Nat
  | [] => 0
  | x :: r => uptoBulkEntry x + uptoBulkEntries r
def uptoBulkEntry {H : Type} : Lit × DataW H → Nat
  | (.string bytes, d) => bytes.length + uptoBulk d + 1
  | (_, d) => uptoBulk d + 1
 end
def uptoSmall : (H : Type) → List (DataW H) → Bool := fun _ ds => decide (uptoBulkAll ds ≤ 1048576)
def OpenSpec.upto (s : _root_.Go.ChangeSpec) : _root_.Go.OpenSpec := { _root_.Go.OpenSpec.ofChange s with cond := some uptoSmall }

/-- 'pharoslaw21.ClockTells', WHERE WHAT IT READS IS OF BULK AT MOST 1048576: true; the input reads as it did. -/
def clockTellsUptoRow : OpenClaim := { program := "ytpnlajkhjfpcjaa", sum := "45083211547ff032d56010d6f2fc7b845943b9f8508de2712ff2a58c77d865b0", func := "pharos/pharoslaw21.ClockTells", spec := "clockTells", inPlace := ["math/bits.Add64"], apart := false, narrowed := true }
def ClockTellsUptoSaid : Prop := clockTellsUptoRow.holds Try.pinned (OpenSpec.upto clockTellsSpec)

/-- 'pharoslaw21.ClockDeadlines', WHERE WHAT IT READS IS OF BULK AT MOST 1048576: true; the input reads as it did. -/
def clockDeadlinesUptoRow : OpenClaim := { program := "ytpnlajkhjfpcjaa", sum := "45083211547ff032d56010d6f2fc7b845943b9f8508de2712ff2a58c77d865b0", func := "pharos/pharoslaw21.ClockDeadlines", spec := "clockDeadlines", inPlace := ["math/bits.Add64"], apart := false, narrowed := true }
def ClockDeadlinesUptoSaid : Prop := clockDeadlinesUptoRow.holds Try.pinned (OpenSpec.upto clockDeadlinesSpec)

/-- 'pharoslaw21.ClockThresholds', WHERE WHAT IT READS IS OF BULK AT MOST 1048576: true; the input reads as it did. -/
def clockThresholdsUptoRow : OpenClaim := { program := "ytpnlajkhjfpcjaa", sum := "45083211547ff032d56010d6f2fc7b845943b9f8508de2712ff2a58c77d865b0", func := "pharos/pharoslaw21.ClockThresholds", spec := "clockThresholds", inPlace := ["math/bits.Add64"], apart := false, narrowed := true }
def ClockThresholdsUptoSaid : Prop := clockThresholdsUptoRow.holds Try.pinned (OpenSpec.upto clockThresholdsSpec)

/-- 'pharoslaw21.ClockPeriods', WHERE WHAT IT READS IS OF BULK AT MOST 1048576: true; the input reads as it did. -/
def clockPeriodsUptoRow : OpenClaim := { program := "ytpnlajkhjfpcjaa", sum := "45083211547ff032d56010d6f2fc7b845943b9f8508de2712ff2a58c77d865b0", func := "pharos/pharoslaw21.ClockPeriods", spec := "clockPeriods", inPlace := ["math/bits.Add64"], apart := false, narrowed := true }
def ClockPeriodsUptoSaid : Prop := clockPeriodsUptoRow.holds Try.pinned (OpenSpec.upto clockPeriodsSpec)

end Rows
end Go.Proofs.Ytpnlajkhjfpcjaa
