/- Bytes held against one another. -/
import Derived.Test.YtaloefkkllebeaaFe5
set_option linter.unusedVariables false
set_option linter.unusedSimpArgs false
set_option linter.unusedSectionVars false
namespace Go.Proofs.Ytaloefkkllebeaa
open Go Go.Sh
def bytesOf (l : List UInt8) : List UInt8 := (List.range l.length).map fun q => u8of (byteAt (B := FB) l (0 + q))
theorem bytesOf_eq (l : List UInt8) : bytesOf l = l := by
  have := bytes_part (B := FB) l (i := 0) (n := l.length) (by omega)
  simpa [bytesOf] using this
abbrev AllB (l : List UInt8) : Prop := ∀ q, q < l.length → Atom.isByte (byteAt (B := FB) l (0 + q)) = true
theorem sameBytes_ok : Computes A Try.prog 31 (fun x : Bs × Bs × Unit => x.1.l == x.2.1.l) := by
  refine computes_of_run (TblOK.nil _) Try.func31 (by kernel_rfl) (by kernel_rfl) 4 ?_
  rintro ⟨g1, g2, _⟩ ⟨⟨x⟩, ⟨y⟩, ⟨⟩⟩ W ⟨k1, k2, _⟩
  have k1 : HasBytes W x g1 := k1
  have k2 : HasBytes W y g2 := k2
  refine ⟨fun _ _ => .keep, (bytesOf x == bytesOf y), [AllB y, Reads W.cell? g2.a (byteAt (B := FB) y) 0 y.length, AllB x, Reads W.cell? g1.a (byteAt (B := FB) x) 0 x.length], by kernel_rfl, ⟨fun _ _ => rfl, reads_bytes k2 (by omega), fun _ _ => rfl, reads_bytes k1 (by omega), trivial⟩, ?_⟩
  rw [bytesOf_eq, bytesOf_eq]
end Go.Proofs.Ytaloefkkllebeaa
