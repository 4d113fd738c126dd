/- Trees, by the reference: Tree's contract, by induction on the depth; Root. -/
import Derived.Test.YtaloefkkllebeaaDoorSj2
set_option linter.unusedVariables false
set_option linter.unusedSimpArgs false
set_option linter.unusedSectionVars false
namespace Go.Sh
/-- Where a tree is split. -/
def hI (l : List (R8 32)) (d : Nat) : Int := extI false (l.length : Int) (pow2W ((d : Int) - 1))
def halfN (l : List (R8 32)) (d : Nat) : Nat := (hI l d).toNat
def loL (l : List (R8 32)) (d : Nat) : List (R8 32) := cutR 32 (fun j => u8of (rsAt l (0 + j))) (halfN l d - 0)
def hiL (l : List (R8 32)) (d : Nat) : List (R8 32) := cutR 32 (fun j => u8of (rsAt l (halfN l d * 32 + 0 + j))) (l.length - halfN l d)
theorem pow2W_pred {d : Nat} (h : d + 1 ≤ 62) : pow2W (((d + 1 : Nat) : Int) - 1) = (2 : Int) ^ d := by
  have e : ((d + 1 : Nat) : Int) - 1 = (d : Int) := by omega
  rw [e, pow2W_eq (by omega)]
theorem hI_ok {l : List (R8 32)} {d : Nat} (h : d + 1 ≤ 62) : 0 ≤ hI l (d + 1) ∧ hI l (d + 1) ≤ (l.length : Int) ∧ halfN l (d + 1) = min l.length (2 ^ d) := by
  have hp := two_pow_le (i := d) (by omega)
  have e : ((2 : Int) ^ d) = ((2 ^ d : Nat) : Int) := by rw [Int.natCast_pow]; rfl
  unfold halfN hI extI
  rw [pow2W_pred h]
  rw [e] at hp ⊢
  simp only [Bool.false_eq_true, if_false]
  split <;> omega
theorem nm_lo {l : List (R8 32)} {d : Nat} (h : d + 1 ≤ 62) : nm (loL l (d + 1)) = (nm l).take (2 ^ d) := by
  have hh := (hI_ok (l := l) h).2.2
  unfold loL
  rw [Nat.sub_zero, nm_cut _ l 0 (halfN l (d + 1)) (by omega) (fun j hj => by show rsB l (0 + j) = _; congr 1), List.drop_zero, hh]
  rcases Nat.le_total l.length (2 ^ d) with h1 | h1
  · rw [Nat.min_eq_left h1, List.take_of_length_le (by rw [nm_len]; exact Nat.le_refl _), List.take_of_length_le (by rw [nm_len]; exact h1)]
  · rw [Nat.min_eq_right h1]
theorem nm_hi {l : List (R8 32)} {d : Nat} (h : d + 1 ≤ 62) : nm (hiL l (d + 1)) = (nm l).drop (2 ^ d) := by
  have hh := (hI_ok (l := l) h).2.2
  unfold hiL
  rw [nm_cut _ l (halfN l (d + 1)) (l.length - halfN l (d + 1)) (by omega) (fun j hj => by show rsB l (halfN l (d + 1) * 32 + 0 + j) = _; rw [Nat.add_zero]), hh]
  rcases Nat.le_total l.length (2 ^ d) with h1 | h1
  · rw [Nat.min_eq_left h1, List.drop_eq_nil_of_le (by rw [nm_len]; exact Nat.le_refl _), List.drop_eq_nil_of_le (by rw [nm_len]; exact h1)]
    simp
  · rw [Nat.min_eq_right h1, List.take_of_length_le (by rw [List.length_drop, nm_len]; exact Nat.le_refl _)]
theorem lo_len (l : List (R8 32)) (d : Nat) : (loL l d).length = halfN l d := by unfold loL; rw [cutR_len, Nat.sub_zero]
theorem hi_len (l : List (R8 32)) (d : Nat) : (hiL l d).length = l.length - halfN l d := by unfold hiL; rw [cutR_len]
end Go.Sh
namespace Go.Proofs.YtaloefkkllebeaaDoor
open Go Go.Sh
theorem treeN_up (Pr : R8 32 → R8 32 → R8 32) {l : List (R8 32)} {d : Nat} (h : d + 1 ≤ 62) : treeN Pr l (d + 1) = Pr (treeN Pr (loL l (d + 1)) d) (treeN Pr (hiL l (d + 1)) d) := by
  unfold treeN
  rw [nm_lo h, nm_hi h]
  rfl
section
variable {Pr : R8 32 → R8 32 → R8 32}
noncomputable def tblT0 (Pr : R8 32 → R8 32 → R8 32) : List (Row A) :=
  [rowOf A 34 (fun x : Ptr Mk × R8 32 × R8 32 × Unit => Pr x.2.1 x.2.2.1), rowOf A 41 (fun x : Hs Mk × Int × Unit => zK Pr zR (zrN x.2.1))]
theorem tree_of (h0 : RowOK Tryd.prog (rowOf A 34 (fun x : Ptr Mk × R8 32 × R8 32 × Unit => Pr x.2.1 x.2.2.1))) (h1 : RowOK Tryd.prog (rowOf A 41 (fun x : Hs Mk × Int × Unit => zK Pr zR (zrN x.2.1)))) :
    ∀ b, b ≤ 62 → Computes A Tryd.prog 45 (fun x : Hs Mk × Rt 32 × Dp b × Unit => treeN Pr x.2.1.l x.2.2.1.n) := by
  intro b
  induction b with
  | zero =>
    intro hb
    refine computes_of_runT Tryd.func45 (by kernel_rfl) (by kernel_rfl) 8 ?_
    rintro ⟨a, g, _⟩ ⟨⟨m⟩, ⟨l⟩, ⟨d⟩, ⟨⟩⟩ W ⟨ha, ⟨hg, hn⟩, hd, _⟩
    have hG : HasRows W l g := hg
    have hN : l.length < 1048576 := hn
    have hd : d ≤ 0 := hd
    obtain rfl : d = 0 := by omega
    have rt : ReadT W.cell? a 0 72 := by
      intro b hb j hj
      obtain rfl := Option.some.inj hb
      exact ha (0 + j) (show 0 + j < 72 by omega)
    cases hl : ((l.length : Int) == 0) with
    | true =>
      have e : l = [] := by
        have := eq_of_beq hl
        exact List.eq_nil_of_length_eq_zero (by omega)
      refine ⟨tblT0 Pr, _, .cons h0 (.cons h1 (.nil _)), ITblOK.nil _, saysY [], noLoop, zK Pr zR (zrN ((0 : Nat) : Int)), [ReadT W.cell? a 0 72, TabsAre, ((l.length : Int) == 0) = true], by kernel_rfl, ⟨rt, tabsAre, hl, trivial⟩, ?_, fun body _ => loopsFor_none⟩
      subst e
      rfl
    | false =>
      have hp : 0 < l.length := by
        rcases Nat.eq_zero_or_pos l.length with h | h
        · rw [h] at hl; exact absurd hl (by decide)
        · exact h
      have rd : Reads W.cell? g.a (rsAt (l := l)) 0 32 := reads_rows (n := 32) hG (by omega)
      refine ⟨tblT0 Pr, _, .cons h0 (.cons h1 (.nil _)), ITblOK.nil _, saysY [(10, false)], noLoop, ⟨elL l 0⟩, [Reads W.cell? g.a (rsAt l) 0 32, IX 0 l.length, (((0 : Nat) : Int) == 0) = true, ((l.length : Int) == 0) = false], by kernel_rfl, ⟨rd, ⟨by decide, by omega⟩, rfl, hl, trivial⟩, ?_, fun body _ => loopsFor_none⟩
      exact (nm_at l 0 hp zR).symm
  | succ b ih =>
    intro hb
    have ih := ih (by omega)
    refine computes_of_runT Tryd.func45 (by kernel_rfl) (by kernel_rfl) 8 ?_
    rintro ⟨a, g, _⟩ ⟨⟨m⟩, ⟨l⟩, ⟨d⟩, ⟨⟩⟩ W ⟨ha, ⟨hg, hn⟩, hd, _⟩
    have hG : HasRows W l g := hg
    have hN : l.length < 1048576 := hn
    have hd : d ≤ b + 1 := hd
    have rt : ReadT W.cell? a 0 72 := by
      intro b hb j hj
      obtain rfl := Option.some.inj hb
      exact ha (0 + j) (show 0 + j < 72 by omega)
    cases hl : ((l.length : Int) == 0) with
    | true =>
      have e : l = [] := by
        have := eq_of_beq hl
        exact List.eq_nil_of_length_eq_zero (by omega)
      refine ⟨tblT0 Pr, _, .cons h0 (.cons h1 (.nil _)), ITblOK.nil _, saysY [], noLoop, zK Pr zR (zrN (d : Int)), [ReadT W.cell? a 0 72, TabsAre, ((l.length : Int) == 0) = true], by kernel_rfl, ⟨rt, tabsAre, hl, trivial⟩, ?_, fun body _ => loopsFor_none⟩
      subst e
      have hz : zrN (d : Int) = d := by rw [zrN_eq]; omega
      rw [hz]
      exact (treeT_nil Pr zR d).symm
    | false =>
      have hp : 0 < l.length := by
        rcases Nat.eq_zero_or_pos l.length with h | h
        · rw [h] at hl; exact absurd hl (by decide)
        · exact h
      cases d with
      | zero =>
        have rd : Reads W.cell? g.a (rsAt (l := l)) 0 32 := reads_rows (n := 32) hG (by omega)
        refine ⟨tblT0 Pr, _, .cons h0 (.cons h1 (.nil _)), ITblOK.nil _, saysY [(10, false)], noLoop, ⟨elL l 0⟩, [Reads W.cell? g.a (rsAt l) 0 32, IX 0 l.length, (((0 : Nat) : Int) == 0) = true, ((l.length : Int) == 0) = false], by kernel_rfl, ⟨rd, ⟨by decide, by omega⟩, rfl, hl, trivial⟩, ?_, fun body _ => loopsFor_none⟩
        exact (nm_at l 0 hp zR).symm
      | succ d =>
        obtain ⟨k1, k2, k3⟩ := hI_ok (l := l) (d := d) (by omega)
        have kc : hI l (d + 1) ≤ (g.c : Int) := by have := hG.1; omega
        have hpw := two_pow_le (i := d) (by omega)
        have w1 : WrapI (((d + 1 : Nat) : Int) - 1) := wI (by omega) (by omega)
        have w2 : WrapI (pow2W (((d + 1 : Nat) : Int) - 1)) := by rw [pow2W_pred (by omega)]; exact wI (by omega) (by omega)
        have dz : (((d + 1 : Nat) : Int) == 0) = false := by rw [beq_eq_false_iff_ne]; omega
        have d63 : decide (((d + 1 : Nat) : Int) < 63) = true := decide_eq_true (by omega)
        have dp : (0 : Int) ≤ ((d + 1 : Nat) : Int) - 1 ∧ ((d + 1 : Nat) : Int) - 1 ≤ (b : Int) := by omega
        have n1 : (loL l (d + 1)).length < 1048576 := by rw [lo_len]; omega
        have n2 : (hiL l (d + 1)).length < 1048576 := by rw [hi_len]; omega
        have r1 : Reads W.cell? g.a (rsAt (l := l)) 0 ((halfN l (d + 1) - 0) * 32) := reads_rows (n := 32) hG (by omega)
        have r2 : Reads W.cell? g.a (rsAt (l := l)) (halfN l (d + 1) * 32 + 0) ((l.length - halfN l (d + 1)) * 32) := reads_rows (n := 32) hG (by omega)
        refine ⟨tblTr Pr b, _, .cons h0 (.cons h1 (.cons ih.row (.nil _))), ITblOK.nil _, saysY [(10, false), (15, false)], noLoop, Pr (treeN Pr (loL l (d + 1)) (((d + 1 : Nat) : Int) - 1).toNat) (treeN Pr (hiL l (d + 1)) (((d + 1 : Nat) : Int) - 1).toNat),
          [ReadT W.cell? a 0 72, TabsAre, ReadT W.cell? a 0 72, TabsAre, (hiL l (d + 1)).length < 1048576, Reads W.cell? g.a (rsAt l) (halfN l (d + 1) * 32 + 0) ((l.length - halfN l (d + 1)) * 32), ∀ j, j < (l.length - halfN l (d + 1)) * 32 → isU8 (rsAt l (halfN l (d + 1) * 32 + 0 + j)) = true,
            (0 : Int) ≤ ((d + 1 : Nat) : Int) - 1 ∧ ((d + 1 : Nat) : Int) - 1 ≤ (b : Int), WrapI (((d + 1 : Nat) : Int) - 1), 0 ≤ hI l (d + 1) ∧ hI l (d + 1) ≤ (l.length : Int),
            ReadT W.cell? a 0 72, TabsAre, (loL l (d + 1)).length < 1048576, Reads W.cell? g.a (rsAt l) 0 ((halfN l (d + 1) - 0) * 32), ∀ j, j < (halfN l (d + 1) - 0) * 32 → isU8 (rsAt l (0 + j)) = true,
            (0 : Int) ≤ ((d + 1 : Nat) : Int) - 1 ∧ ((d + 1 : Nat) : Int) - 1 ≤ (b : Int), WrapI (((d + 1 : Nat) : Int) - 1), 0 ≤ hI l (d + 1) ∧ hI l (d + 1) ≤ (g.c : Int), WrapI (pow2W (((d + 1 : Nat) : Int) - 1)), (0 : Int) ≤ ((d + 1 : Nat) : Int) - 1, WrapI (((d + 1 : Nat) : Int) - 1),
            decide (((d + 1 : Nat) : Int) < 63) = true, (((d + 1 : Nat) : Int) == 0) = false, ((l.length : Int) == 0) = false], by kernel_rfl,
          ⟨rt, tabsAre, rt, tabsAre, n2, r2, fun _ _ => rfl, dp, w1, ⟨k1, k2⟩, rt, tabsAre, n1, r1, fun _ _ => rfl, dp, w1, ⟨k1, kc⟩, w2, by omega, w1, d63, dz, hl, trivial⟩, ?_, fun body _ => loopsFor_none⟩
        have e : (((d + 1 : Nat) : Int) - 1).toNat = d := by omega
        rw [e]
        exact (treeN_up Pr (by omega)).symm
end
theorem tree_ok : Computes A Tryd.prog 45 (fun x : Hs Mk × Rt 32 × Dp 62 × Unit => treeN pairR8 x.2.1.l x.2.2.1.n) := tree_of makerPair_ok.row refZero_ok.row 62 (Nat.le_refl _)
end Go.Proofs.YtaloefkkllebeaaDoor
