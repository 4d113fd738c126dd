/- Trees: branches are taken, or not, as the reference says. -/
import Derived.Test.YtaloefkkllebeaaDoorSi3
set_option linter.unusedVariables false
set_option linter.unusedSimpArgs false
set_option linter.unusedSectionVars false
set_option maxRecDepth 100000
namespace Go.Proofs.YtaloefkkllebeaaDoor
open Go Go.Sh
abbrev VQT := (Nat → UInt8) → (Nat → UInt8) → List (R8 32) → UInt64 → Bool
noncomputable def tblF13 (Fo : (Nat → UInt8) → List (R8 32) → UInt64 → R8 32) (VQ VR : VQT) : List (Row A) :=
  [rowOf A 51 (fun _ : GA Unit => true), rowOf A 39 (fun _ : Unit => (⟨.mk⟩ : Hz Mk)), rowOf A 60 (fun x : Hs Mk × R8 32 × Rt 32 × UInt64 × Unit => Fo x.2.1.f x.2.2.1.l x.2.2.2.1),
    rowOf A 59 (fun x : GA (R8 32 × Rt 32 × UInt64 × R8 32 × Unit) => VQ x.x.1.f x.x.2.2.2.1.f x.x.2.1.l x.x.2.2.1), rowOf A 61 (fun x : Hs Mk × R8 32 × Rt 32 × UInt64 × R8 32 × Unit => VR x.2.1.f x.2.2.2.2.1.f x.2.2.1.l x.2.2.2.1)]
/-- A slice's rows, as a call of it reads them. -/
def lC (l : List (R8 32)) : List (R8 32) := cutR 32 (fun j => u8of (rsAt l (0 + j))) l.length
theorem lC_len (l : List (R8 32)) : (lC l).length = l.length := cutR_len _ _ _
def lU (l : List (R8 32)) : Prop := ∀ j, j < l.length * 32 → isU8 (rsAt l (0 + j)) = true
theorem lU_ok (l : List (R8 32)) : lU l := fun _ _ => rfl
theorem merkleVerifies_of {Fo : (Nat → UInt8) → List (R8 32) → UInt64 → R8 32} {VQ VR : VQT} (ht : TblOK Tryd.prog (tblF13 Fo VQ VR)) (hE : ∀ f r l ix, l.length < 1048576 → VQ f r l ix = VR f r l ix) :
    Computes A Tryd.prog 13 (fun _ : GA (R8 32 × Rs 32 × UInt64 × R8 32 × Bool × Unit) => true) := by
  refine computes_of_runT Tryd.func13 (by kernel_rfl) (by kernel_rfl) 8 ?_
  rintro ⟨_, g, _⟩ ⟨⟨⟨f⟩, ⟨l⟩, ix, ⟨r⟩, b, ⟨⟩⟩⟩ W ⟨hr, _, hg, _⟩
  have hg : HasRows W l g := hg
  have rd : Reads W.cell? g.a (rsAt (l := l)) 0 (l.length * 32) := reads_rows hg (by omega)
  cases h70 : decide ((l.length : Int) > 70) with
  | true =>
    exact ⟨_, _, ht, ITblOK.nil _, saysY [], noLoop, true, [decide ((l.length : Int) > 70) = true, true = true, RoundsIn W.cell?], by kernel_rfl, ⟨h70, rfl, hr, trivial⟩, rfl, fun body _ => loopsFor_none⟩
  | false =>
    have hl : (lC l).length < 1048576 := by
      have := of_decide_eq_false h70
      rw [lC_len]
      omega
    cases b with
    | false =>
      have e := hE f r (lC l) ix hl
      cases hv : VQ f r (lC l) ix with
      | true =>
        have hw : VR f r (lC l) ix = true := by rw [← e]; exact hv
        exact ⟨_, _, ht, ITblOK.nil _, saysY [(16, false), (18, false)], noLoop, true, [VR f r (lC l) ix = true, TabsAre, (lC l).length < 1048576, Reads W.cell? g.a (rsAt l) 0 (l.length * 32), lU l, VQ f r (lC l) ix = true, RoundsIn W.cell?, (lC l).length < 1048576, Reads W.cell? g.a (rsAt l) 0 (l.length * 32), lU l, false = false, decide ((l.length : Int) > 70) = false, true = true, RoundsIn W.cell?], by kernel_rfl,
          ⟨hw, tabsAre, hl, rd, lU_ok l, hv, hr, hl, rd, lU_ok l, rfl, h70, rfl, hr, trivial⟩, rfl, fun body _ => loopsFor_none⟩
      | false =>
        have hw : VR f r (lC l) ix = false := by rw [← e]; exact hv
        exact ⟨_, _, ht, ITblOK.nil _, saysY [(16, false), (18, false), (28, false), (34, false)], noLoop, true, [VR f r (lC l) ix = false, TabsAre, (lC l).length < 1048576, Reads W.cell? g.a (rsAt l) 0 (l.length * 32), lU l, VQ f r (lC l) ix = false, RoundsIn W.cell?, (lC l).length < 1048576, Reads W.cell? g.a (rsAt l) 0 (l.length * 32), lU l, false = false, decide ((l.length : Int) > 70) = false, true = true, RoundsIn W.cell?], by kernel_rfl,
          ⟨hw, tabsAre, hl, rd, lU_ok l, hv, hr, hl, rd, lU_ok l, rfl, h70, rfl, hr, trivial⟩, rfl, fun body _ => loopsFor_none⟩
    | true =>
      have e := hE f (Fo f (lC l) ix).f (lC l) ix hl
      cases hv : VQ f (Fo f (lC l) ix).f (lC l) ix with
      | true =>
        have hw : VR f (Fo f (lC l) ix).f (lC l) ix = true := by rw [← e]; exact hv
        exact ⟨_, _, ht, ITblOK.nil _, saysY [(16, false)], noLoop, true, [VR f (Fo f (lC l) ix).f (lC l) ix = true, TabsAre, (lC l).length < 1048576, Reads W.cell? g.a (rsAt l) 0 (l.length * 32), lU l, VQ f (Fo f (lC l) ix).f (lC l) ix = true, RoundsIn W.cell?, (lC l).length < 1048576, Reads W.cell? g.a (rsAt l) 0 (l.length * 32), lU l, TabsAre, (lC l).length < 1048576, Reads W.cell? g.a (rsAt l) 0 (l.length * 32), lU l, true = true, decide ((l.length : Int) > 70) = false, true = true, RoundsIn W.cell?], by kernel_rfl,
          ⟨hw, tabsAre, hl, rd, lU_ok l, hv, hr, hl, rd, lU_ok l, tabsAre, hl, rd, lU_ok l, rfl, h70, rfl, hr, trivial⟩, rfl, fun body _ => loopsFor_none⟩
      | false =>
        have hw : VR f (Fo f (lC l) ix).f (lC l) ix = false := by rw [← e]; exact hv
        exact ⟨_, _, ht, ITblOK.nil _, saysY [(16, false), (28, false), (34, false)], noLoop, true, [VR f (Fo f (lC l) ix).f (lC l) ix = false, TabsAre, (lC l).length < 1048576, Reads W.cell? g.a (rsAt l) 0 (l.length * 32), lU l, VQ f (Fo f (lC l) ix).f (lC l) ix = false, RoundsIn W.cell?, (lC l).length < 1048576, Reads W.cell? g.a (rsAt l) 0 (l.length * 32), lU l, TabsAre, (lC l).length < 1048576, Reads W.cell? g.a (rsAt l) 0 (l.length * 32), lU l, true = true, decide ((l.length : Int) > 70) = false, true = true, RoundsIn W.cell?], by kernel_rfl,
          ⟨hw, tabsAre, hl, rd, lU_ok l, hv, hr, hl, rd, lU_ok l, tabsAre, hl, rd, lU_ok l, rfl, h70, rfl, hr, trivial⟩, rfl, fun body _ => loopsFor_none⟩
theorem merkleVerifies_ok : Computes A Tryd.prog 13 (fun _ : GA (R8 32 × Rs 32 × UInt64 × R8 32 × Bool × Unit) => true) :=
  merkleVerifies_of (Fo := fun f l ix => ⟨foldV pairR8 l ix f l.length⟩) (VQ := merQ pairR8) (VR := verQ pairR8) (.cons known18_ok.row (.cons hasher_ok.row (.cons fold_ok.row (.cons verify_ok.row (.cons refVerify_ok.row (.nil _)))))) (fun f r l ix h => merQ_eq pairR8 f r l ix h)
end Go.Proofs.YtaloefkkllebeaaDoor
