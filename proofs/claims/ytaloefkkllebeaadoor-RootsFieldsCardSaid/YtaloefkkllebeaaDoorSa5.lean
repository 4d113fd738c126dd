/- SHA-256: the first state, a state's bytes; the reference's table. -/
import Derived.Test.YtaloefkkllebeaaDoorSa4
set_option linter.unusedVariables false
set_option linter.unusedSimpArgs false
set_option linter.unusedSectionVars false
namespace Go.Sh
def firstL : List UInt32 := [UInt32.ofNat 1779033703, UInt32.ofNat 3144134277, UInt32.ofNat 1013904242, UInt32.ofNat 2773480762, UInt32.ofNat 1359893119, UInt32.ofNat 2600822924, UInt32.ofNat 528734635, UInt32.ofNat 1541459225]
def firstF : Nat → UInt32 := pickN 0 firstL
end Go.Sh
namespace Go.Proofs.YtaloefkkllebeaaDoor
open Go Go.Sh
theorem first_ok : Computes A Tryd.prog 85 (fun _ : Unit => (⟨firstF⟩ : R32 8)) :=
  computes_of_run0 (TblOK.nil _) Tryd.func85 (by kernel_rfl) (by kernel_rfl) 4 (fun _ _ _ => by kernel_rfl)
theorem bytesS_ok : Computes A Tryd.prog 87 (fun x : Ptr (R32 8) × Unit => (⟨outF x.1.x.f⟩ : R8 32)) := by
  refine computes_of_run (TblOK.nil _) Tryd.func87 (by kernel_rfl) (by kernel_rfl) 10 ?_
  rintro ⟨a, _⟩ ⟨⟨⟨f⟩⟩, ⟨⟩⟩ W ⟨hg, _⟩
  have hr : ∀ i, i < 8 → Reads W.cell? (some a) (fun j => (.u32 (f j) : A)) i 1 := by
    intro i hi b hb j hj
    obtain rfl := Option.some.inj hb
    exact hg (i + j) (show i + j < 8 by omega)
  refine ⟨fun _ _ => .keep, ⟨outF f⟩, [Reads W.cell? (some a) (fun j => (.u32 (f j) : A)) 7 1, IX 7 8, Reads W.cell? (some a) (fun j => (.u32 (f j) : A)) 6 1, IX 6 8, Reads W.cell? (some a) (fun j => (.u32 (f j) : A)) 5 1, IX 5 8, Reads W.cell? (some a) (fun j => (.u32 (f j) : A)) 4 1, IX 4 8,
    Reads W.cell? (some a) (fun j => (.u32 (f j) : A)) 3 1, IX 3 8, Reads W.cell? (some a) (fun j => (.u32 (f j) : A)) 2 1, IX 2 8, Reads W.cell? (some a) (fun j => (.u32 (f j) : A)) 1 1, IX 1 8, Reads W.cell? (some a) (fun j => (.u32 (f j) : A)) 0 1, IX 0 8], by kernel_rfl, ?_, rfl⟩
  refine ⟨hr 7 (by omega), ⟨by decide, by decide⟩, hr 6 (by omega), ⟨by decide, by decide⟩, hr 5 (by omega), ⟨by decide, by decide⟩, hr 4 (by omega), ⟨by decide, by decide⟩, hr 3 (by omega), ⟨by decide, by decide⟩, hr 2 (by omega), ⟨by decide, by decide⟩, hr 1 (by omega), ⟨by decide, by decide⟩, hr 0 (by omega), ⟨by decide, by decide⟩, trivial⟩
end Go.Proofs.YtaloefkkllebeaaDoor
