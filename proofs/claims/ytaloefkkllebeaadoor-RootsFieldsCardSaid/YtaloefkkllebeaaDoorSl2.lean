/- Roots: a header's. -/
import Derived.Test.YtaloefkkllebeaaDoorSl1
set_option linter.unusedVariables false
set_option linter.unusedSimpArgs false
set_option linter.unusedSectionVars false
set_option maxRecDepth 100000
namespace Go.Sh
/-- Bytes in place of a chunk's first. -/
def spl8 (l : List UInt8) : Nat → UInt8 := fun j =>
  match Nat.blt j (min l.length (32 - 0)) with
  | true => (match (byteAt l (0 + j) : A) with | .u8 x => x | _ => 0)
  | false => pickN 0 (List.replicate 32 (UInt8.ofNat 0)) j
def refChunkV (n : UInt64) : R8 32 := ⟨spl8 (bytes8 n)⟩
abbrev Hd := UInt64 × UInt64 × R8 32 × R8 32 × R8 32
def lits (f : Nat → UInt8) : List A := (List.range 32).map fun i => .u8 (f i)
/-- Five rows behind one another. -/
def row5 (a b c d e : Nat → UInt8) : List A := lits a ++ (lits b ++ (lits c ++ (lits d ++ lits e)))
def hdF (a b c d e : Nat → UInt8) : Nat → A := fun j => ((row5 a b c d e)[j]?).getD (.u8 (a 0))
def hdL (a b c d e : Nat → UInt8) : List (R8 32) := cutR 32 (fun j => u8of (hdF a b c d e (0 + j))) 5
theorem lits_u8 (f : Nat → UInt8) : ∀ x ∈ lits f, isU8 x = true := by
  intro x hx
  unfold lits at hx
  obtain ⟨i, _, rfl⟩ := List.mem_map.1 hx
  rfl
theorem hdF_u8 (a b c d e : Nat → UInt8) (j : Nat) : isU8 (hdF a b c d e j) = true := by
  unfold hdF
  cases h : (row5 a b c d e)[j]? with
  | none => rfl
  | some x =>
    have hx := List.mem_of_getElem? h
    unfold row5 at hx
    simp only [List.mem_append] at hx
    rcases hx with hx | hx | hx | hx | hx <;> exact lits_u8 _ _ hx
theorem nm_hd (a b c d e : Nat → UInt8) : nm (hdL a b c d e) = [⟨elR a 0⟩, ⟨elR b 0⟩, ⟨elR c 0⟩, ⟨elR d 0⟩, ⟨elR e 0⟩] := by kernel_rfl
theorem hdL_len (a b c d e : Nat → UInt8) : (hdL a b c d e).length = 5 := cutR_len _ _ _
theorem chunk_same (n : UInt64) : elR (refChunkV n).f 0 = elR (chunkV n).f 0 := by kernel_rfl
end Go.Sh
namespace Go.Proofs.YtaloefkkllebeaaDoor
open Go Go.Sh
theorem refChunk_ok : Computes A Tryd.prog 40 (fun x : UInt64 × Unit => refChunkV x.1) := by
  refine computes_of_run (tbl := tblCh) (.cons uint_ok.row (.nil _)) Tryd.func40 (by kernel_rfl) (by kernel_rfl) 20 ?_
  rintro _ ⟨n, ⟨⟩⟩ W -
  exact ⟨fun _ _ => .keep, refChunkV n, [∀ j, j < min (bytes8 n).length (32 - 0) → ∃ x, (fun q => byteAt (B := FB) (bytes8 n) (0 + q)) j = .u8 x], by kernel_rfl, ⟨fun j _ => ⟨_, rfl⟩, trivial⟩, rfl⟩
def ofV (RV : RVT) (l : List (R8 32)) : R8 32 := (RV (lC l) (l.length : Int)).a
noncomputable def tblOf (RV : RVT) : List (Row A) := [rowOf A 53 (fun x : GA (Rt 32 × Int × Unit) => RV x.x.1.l x.x.2.1)]
theorem of_of {RV : RVT} (ht : TblOK Tryd.prog (tblOf RV)) : Computes A Tryd.prog 92 (fun x : GA (Rt 32 × Unit) => ofV RV x.x.1.l) := by
  refine computes_of_run ht Tryd.func92 (by kernel_rfl) (by kernel_rfl) 6 ?_
  rintro ⟨g, _⟩ ⟨⟨⟨l⟩, ⟨⟩⟩⟩ W ⟨hr, ⟨hg, hn⟩, _⟩
  have hG : HasRows W l g := hg
  have hN : l.length < 1048576 := hn
  have rd : Reads W.cell? g.a (rsAt (l := l)) 0 (l.length * 32) := reads_rows (n := 32) hG (by omega)
  exact ⟨fun _ _ => .keep, ofV RV l, [RoundsIn W.cell?, (lC l).length < 1048576, Reads W.cell? g.a (rsAt l) 0 (l.length * 32), lU l], by kernel_rfl, ⟨hr, by rw [lC_len]; exact hN, rd, lU_ok l, trivial⟩, rfl⟩
noncomputable def tblHd (Ch : UInt64 → R8 32) (Of : List (R8 32) → R8 32) : List (Row A) := [rowOf A 94 (fun x : UInt64 × Unit => Ch x.1), rowOf A 92 (fun x : GA (Rt 32 × Unit) => Of x.x.1.l)]
def headL (Ch : UInt64 → R8 32) (x : Hd) : List (R8 32) := hdL (Ch x.1).f (Ch x.2.1).f x.2.2.1.f x.2.2.2.1.f x.2.2.2.2.f
theorem header_of {Ch : UInt64 → R8 32} {Of : List (R8 32) → R8 32} (ht : TblOK Tryd.prog (tblHd Ch Of)) : Computes A Tryd.prog 43 (fun x : GA (Hd × Unit) => Of (headL Ch x.x.1)) := by
  refine computes_of_run ht Tryd.func43 (by kernel_rfl) (by kernel_rfl) 6 ?_
  rintro _ ⟨⟨⟨s, p, ⟨c⟩, ⟨d⟩, ⟨e⟩⟩, ⟨⟩⟩⟩ W ⟨hr, _⟩
  exact ⟨fun _ _ => .keep, Of (headL Ch (s, p, ⟨c⟩, ⟨d⟩, ⟨e⟩)), [RoundsIn W.cell?, (hdL (Ch s).f (Ch p).f c d e).length < 1048576, ∀ j, j < 5 * 32 → isU8 (hdF (Ch s).f (Ch p).f c d e (0 + j)) = true], by kernel_rfl, ⟨hr, by rw [hdL_len]; decide, fun j _ => hdF_u8 _ _ _ _ _ _, trivial⟩, rfl⟩
end Go.Proofs.YtaloefkkllebeaaDoor
