/- SHA-256: pairs, by the reference and by the sum of both behind one another. -/
import Derived.Test.YtaloefkkllebeaaDoorSe1
set_option linter.unusedVariables false
set_option linter.unusedSimpArgs false
set_option linter.unusedSectionVars false
namespace Go.Sh
def cellsG (f : Nat → UInt8) : Nat → A := fun q => (((List.range 32).map fun i => (At.u8 (f i) : A))[q]?).getD (At.u8 (f 0))
def bothG (f g : Nat → UInt8) : Nat → A := catF (fun q => cellsG f (0 + q)) 32 (cellsG g) 0
def bothL (f g : Nat → UInt8) : List UInt8 := (List.range 64).map fun j => u8of (bothG f g (0 + j))
theorem bothL_eq (f g : Nat → UInt8) : bothL f g = (List.range 32).map f ++ (List.range 32).map g := rfl
theorem cellsG_u8 (f : Nat → UInt8) (q : Nat) : isU8 (cellsG f q) = true := by
  unfold cellsG
  rw [List.getElem?_map]
  cases (List.range 32)[q]? <;> rfl
theorem bothG_u8 (f g : Nat → UInt8) (n : Nat) : ∀ j, j < n → isU8 (bothG f g (0 + j)) = true := by
  intro j _
  unfold bothG catF
  split
  · exact cellsG_u8 f _
  · exact cellsG_u8 g _
def bothH (f g : Nat → UInt8) : Nat → A := catF (cellsG f) 32 (cellsG g) 0
def bothM (f g : Nat → UInt8) : List UInt8 := (List.range 64).map fun j => u8of (bothH f g (0 + j))
theorem bothM_eq (f g : Nat → UInt8) : bothM f g = bothL f g := rfl
theorem bothH_u8 (f g : Nat → UInt8) (n : Nat) : ∀ j, j < n → isU8 (bothH f g (0 + j)) = true := by
  intro j _
  unfold bothH catF
  split
  · exact cellsG_u8 f _
  · exact cellsG_u8 g _
end Go.Sh
namespace Go.Proofs.YtaloefkkllebeaaDoor
open Go Go.Sh
noncomputable def tblMp (S : List UInt8 → R8 32) : List (Row A) := [rowOf A 28 (fun x : Ptr Mk × Bt × Unit => S x.2.1.l)]
theorem makerPair_of (S : List UInt8 → R8 32) (ht : TblOK Tryd.prog (tblMp S)) :
    Computes A Tryd.prog 34 (fun x : Ptr Mk × R8 32 × R8 32 × Unit => (⟨(S (bothL x.2.1.f x.2.2.1.f)).f⟩ : R8 32)) := by
  refine computes_of_run ht Tryd.func34 (by kernel_rfl) (by kernel_rfl) 8 ?_
  rintro ⟨a, _⟩ ⟨⟨m⟩, ⟨f⟩, ⟨g⟩, ⟨⟩⟩ W ⟨ha, _⟩
  have hT : HasTab W a := by
    intro i n hin b hb j hj
    obtain rfl := Option.some.inj hb
    exact ha (i + j) (show i + j < 72 by omega)
  refine ⟨fun _ _ => .keep, ⟨(S (bothL f g)).f⟩, [ReadT W.cell? a 0 72, TabsAre, (bothL f g).length < 1048576, ∀ j, j < 64 → isU8 (bothG f g (0 + j)) = true, 1 = 1 ∧ (32 : Nat) = 32 ∧ Sh.Bears 64 1, Sh.Bears 32 1], by kernel_rfl, ⟨hT _ _ (by omega), tabsAre, by simp [bothL], bothG_u8 f g 64, ⟨rfl, rfl, bears (by omega)⟩, bears (by omega), trivial⟩, rfl⟩
noncomputable def tblSp (S : List UInt8 → R8 32) (Pr Qr : R8 32 → R8 32 → R8 32) : List (Row A) :=
  [rowOf A 24 (fun _ : GA Unit => true), rowOf A 26 (fun x : GA (Bs × Unit) => S x.x.1.l), rowOf A 33 (fun x : GA (R8 32 × R8 32 × Unit) => Pr x.x.1 x.x.2.1),
    rowOf A 27 (fun _ : Unit => (⟨.mk⟩ : Pz Mk)), rowOf A 34 (fun x : Ptr Mk × R8 32 × R8 32 × Unit => Qr x.2.1 x.2.2.1)]
theorem shaPairs_of (S : List UInt8 → R8 32) (Pr Qr : R8 32 → R8 32 → R8 32) (ht : TblOK Tryd.prog (tblSp S Pr Qr)) (h1 : ∀ f g, (Pr ⟨f⟩ ⟨g⟩).f = (S (bothM f g)).f) (h2 : ∀ f g, (Pr ⟨f⟩ ⟨g⟩).f = (Qr ⟨f⟩ ⟨g⟩).f) :
    Computes A Tryd.prog 5 (fun _ : GA (R8 32 × R8 32 × Unit) => true) := by
  refine computes_of_run ht Tryd.func5 (by kernel_rfl) (by kernel_rfl) 8 ?_
  rintro ⟨_⟩ ⟨⟨⟨f⟩, ⟨g⟩, ⟨⟩⟩⟩ W ⟨hr, _⟩
  have e1 : eqB (Pr ⟨f⟩ ⟨g⟩).f (S (bothM f g)).f 0 32 = true := by rw [h1]; exact eqB_self _ _ _
  have e2 : eqB (Pr ⟨f⟩ ⟨g⟩).f (Qr ⟨f⟩ ⟨g⟩).f 0 32 = true := by rw [h2]; exact eqB_self _ _ _
  exact ⟨saysY [], true, [eqB (Pr ⟨f⟩ ⟨g⟩).f (Qr ⟨f⟩ ⟨g⟩).f 0 32 = true, TabsAre, RoundsIn W.cell?, eqB (Pr ⟨f⟩ ⟨g⟩).f (S (bothM f g)).f 0 32 = true, RoundsIn W.cell?, ∀ j, j < 64 → isU8 (bothH f g (0 + j)) = true, 0 < 32 ∧ Sh.Bears 64 1, RoundsIn W.cell?, true = true, RoundsIn W.cell?], by kernel_rfl,
    ⟨e2, tabsAre, hr, e1, hr, bothH_u8 f g 64, ⟨by decide, bears (by omega)⟩, hr, rfl, hr, trivial⟩, rfl⟩
end Go.Proofs.YtaloefkkllebeaaDoor
