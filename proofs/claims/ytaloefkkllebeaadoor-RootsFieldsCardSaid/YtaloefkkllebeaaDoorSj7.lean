/- Trees: the law of roots. -/
import Derived.Test.YtaloefkkllebeaaDoorSj6
import Derived.Test.YtaloefkkllebeaaDoorSi4
set_option linter.unusedVariables false
set_option linter.unusedSimpArgs false
set_option linter.unusedSectionVars false
namespace Go.Proofs.YtaloefkkllebeaaDoor
open Go Go.Sh
theorem nm_lC (l : List (R8 32)) : nm (lC l) = nm l := by
  unfold lC
  rw [nm_cut _ l 0 l.length (by omega) (fun j hj => by show rsB l (0 + j) = _; congr 1), List.drop_zero, List.take_of_length_le (by rw [nm_len]; exact Nat.le_refl _)]
def rootRV (Pr : R8 32 → R8 32 → R8 32) (l : List (R8 32)) (lim : Int) : T2 (R8 32) Int := match decide ((l.length : Int) > maxI lim) with | true => ⟨zR, 180⟩ | false => ⟨treeN Pr (lC l) (depQ lim), 0⟩
noncomputable def tblRR (Pr : R8 32 → R8 32 → R8 32) : List (Row A) := [rowOf A 46 (fun x : Int × Unit => ((depQ x.1 : Nat) : Int)), rowOf A 45 (fun x : Hs Mk × Rt 32 × Dp 62 × Unit => treeN Pr x.2.1.l x.2.2.1.n)]
theorem refRoot_of {Pr : R8 32 → R8 32 → R8 32} (ht : TblOK Tryd.prog (tblRR Pr)) : Computes A Tryd.prog 54 (fun x : Hs Mk × Rt 32 × Int × Unit => rootRV Pr x.2.1.l x.2.2.1) := by
  refine computes_of_run ht Tryd.func54 (by kernel_rfl) (by kernel_rfl) 6 ?_
  rintro ⟨a, g, _⟩ ⟨⟨m⟩, ⟨l⟩, lim, ⟨⟩⟩ W ⟨ha, ⟨hg, hn⟩, _⟩
  have hG : HasRows W l g := hg
  have hN : l.length < 1048576 := hn
  have rt : ReadT W.cell? a 0 72 := by
    intro b hb j hj
    obtain rfl := Option.some.inj hb
    exact ha (0 + j) (show 0 + j < 72 by omega)
  have hd := depQ_le lim
  show ∃ orc y vc, _ ∧ _ ∧ y = rootRV Pr l lim
  unfold rootRV
  cases hl : decide ((l.length : Int) > maxI lim) with
  | true => exact ⟨saysY [], ⟨zR, 180⟩, [decide ((l.length : Int) > maxI lim) = true], by kernel_rfl, ⟨hl, trivial⟩, rfl⟩
  | false =>
    have rd : Reads W.cell? g.a (rsAt (l := l)) 0 (l.length * 32) := reads_rows (n := 32) hG (by omega)
    exact ⟨saysY [(12, false)], ⟨treeN Pr (lC l) (depQ lim), 0⟩, [ReadT W.cell? a 0 72, TabsAre, (lC l).length < 1048576, Reads W.cell? g.a (rsAt l) 0 (l.length * 32), lU l, (0 : Int) ≤ (depQ lim : Int) ∧ (depQ lim : Int) ≤ ((62 : Nat) : Int), decide ((l.length : Int) > maxI lim) = false], by kernel_rfl,
      ⟨rt, tabsAre, by rw [lC_len]; exact hN, rd, lU_ok l, by omega, hl, trivial⟩, rfl⟩
theorem refRoot_ok : Computes A Tryd.prog 54 (fun x : Hs Mk × Rt 32 × Int × Unit => rootRV pairR8 x.2.1.l x.2.2.1) := refRoot_of (.cons refDepth_ok.row (.cons tree_ok.row (.nil _)))
theorem roots_same (Pr : R8 32 → R8 32 → R8 32) (l : List (R8 32)) (lim : Int) (h : l.length ≤ 60) : rootV Pr l lim = rootRV Pr l (extI false lim 4611686018427387904) := by
  have em : maxI lim = max lim 0 := by unfold maxI extI; simp only [if_true]; split <;> omega
  have ee : extI false lim 4611686018427387904 = min lim 4611686018427387904 := by unfold extI; simp only [Bool.false_eq_true, if_false]; split <;> omega
  have em' : maxI (min lim 4611686018427387904) = max (min lim 4611686018427387904) 0 := by unfold maxI extI; simp only [if_true]; split <;> omega
  unfold rootV rootRV
  rw [ee, em, em']
  have hd : dR lim = depQ (min lim 4611686018427387904) := by
    unfold dR
    rw [em]
    symm
    refine depQ_uniq (depQ_le _) (fun i hi => ?_) (fun hc => ?_)
    · obtain ⟨h1, h2⟩ := depQ_lt _ hi
      have hp := two_pow_le (i := i) (by omega)
      have hq : (2 : Int) ^ i < 4611686018427387904 := by
        have e : ((2 : Int) ^ i) = (((2 : Nat) ^ i : Nat) : Int) := by rw [Int.natCast_pow]; rfl
        have h3 : (2 : Nat) ^ i < 2 ^ 62 := Nat.pow_lt_pow_right (by decide) h1
        rw [e]
        have h4 : (2 : Nat) ^ 62 = 4611686018427387904 := by decide
        omega
      omega
    · exact depQ_end _ ⟨hc.1, by have := hc.2; omega⟩
  have e2 : treeN Pr (lC l) (depQ (min lim 4611686018427387904)) = treeN Pr l (dR lim) := by unfold treeN; rw [nm_lC, hd]
  rw [e2]
  by_cases h1 : (l.length : Int) > max lim 0
  · rw [decide_eq_true h1, decide_eq_true (show (l.length : Int) > max (min lim 4611686018427387904) 0 by omega)]
  · rw [decide_eq_false h1, decide_eq_false (show ¬ (l.length : Int) > max (min lim 4611686018427387904) 0 by omega)]
theorem zeros_same (Pr : R8 32 → R8 32 → R8 32) (d : Int) : zK Pr zR (zeN d) = zK Pr zR (zrN (maxI d)) := by
  have e : zeN d = zrN (maxI d) := by
    have em : maxI d = max d 0 := by unfold maxI extI; simp only [if_true]; split <;> omega
    unfold zeN
    rw [mmI_eq, zrN_eq, em]
  rw [e]
noncomputable def lightRow : Row A := rowIn Tryd.prog [] [] (fun _ _ => .keep) 4 52 Tryd.f52
theorem lightRow_ok : RowOK Tryd.prog lightRow := rowIn_ok (TblOK.nil _) (ITblOK.nil _) _ 4 Tryd.func52 (by kernel_rfl) (by kernel_rfl)
abbrev RVT := List (R8 32) → Int → T2 (R8 32) Int
noncomputable def tblF11 (RV RR : RVT) (Z ZR : Int → R8 32) : List (Row A) :=
  [rowOf A 51 (fun _ : GA Unit => true), lightRow, rowOf A 39 (fun _ : Unit => (⟨.mk⟩ : Hz Mk)), rowOf A 53 (fun x : GA (Rt 32 × Int × Unit) => RV x.x.1.l x.x.2.1),
    rowOf A 54 (fun x : Hs Mk × Rt 32 × Int × Unit => RR x.2.1.l x.2.2.1), rowOf A 55 (fun x : GA (Int × Unit) => Z x.x.1), rowOf A 41 (fun x : Hs Mk × Int × Unit => ZR x.2.1)]
theorem merkleRoots_of {RV RR : RVT} {Z ZR : Int → R8 32} (ht : TblOK Tryd.prog (tblF11 RV RR Z ZR)) (h1 : ∀ l lim, l.length ≤ 60 → RV l lim = RR l (extI false lim 4611686018427387904)) (h2 : ∀ d, Z d = ZR (maxI d)) :
    Computes A Tryd.prog 11 (fun _ : GA (Rs 32 × Int × Int × Unit) => true) := by
  refine computes_of_runT Tryd.func11 (by kernel_rfl) (by kernel_rfl) 8 ?_
  rintro ⟨g, _⟩ ⟨⟨⟨l⟩, lim, d, ⟨⟩⟩⟩ W ⟨hr, hg, _⟩
  have hG : HasRows W l g := hg
  have rd : Reads W.cell? g.a (rsAt (l := l)) 0 (l.length * 32) := reads_rows (n := 32) hG (by omega)
  cases h60 : decide ((l.length : Int) ≤ 60) with
  | false =>
    exact ⟨_, _, ht, ITblOK.nil _, saysY [(15, false)], noLoop, true, [decide ((l.length : Int) ≤ 60) = false, true = true, RoundsIn W.cell?], by kernel_rfl, ⟨h60, rfl, hr, trivial⟩, rfl, fun body _ => loopsFor_none⟩
  | true =>
    have hl : l.length ≤ 60 := by have := of_decide_eq_true h60; omega
    have hlc : (lC l).length < 1048576 := by rw [lC_len]; omega
    have e1 := h1 (lC l) lim (by rw [lC_len]; exact hl)
    have e2 := h2 d
    have k1 : ((RV (lC l) lim).b == (RR (lC l) (extI false lim 4611686018427387904)).b) = true := by rw [e1]; exact beq_self_eq_true _
    have k2 : eqB (RV (lC l) lim).a.f (RR (lC l) (extI false lim 4611686018427387904)).a.f 0 32 = true := by rw [e1]; exact eqB_self _ _ _
    have k3 : eqB (Z d).f (ZR (maxI d)).f 0 32 = true := by rw [e2]; exact eqB_self _ _ _
    exact ⟨_, _, ht, ITblOK.nil _, saysY [], noLoop, true, [eqB (Z d).f (ZR (maxI d)).f 0 32 = true, TabsAre, RoundsIn W.cell?, eqB (RV (lC l) lim).a.f (RR (lC l) (extI false lim 4611686018427387904)).a.f 0 32 = true, ((RV (lC l) lim).b == (RR (lC l) (extI false lim 4611686018427387904)).b) = true,
      TabsAre, (lC l).length < 1048576, Reads W.cell? g.a (rsAt l) 0 (l.length * 32), lU l, RoundsIn W.cell?, (lC l).length < 1048576, Reads W.cell? g.a (rsAt l) 0 (l.length * 32), lU l, decide ((l.length : Int) ≤ 60) = true, true = true, RoundsIn W.cell?], by kernel_rfl,
      ⟨k3, tabsAre, hr, k2, k1, tabsAre, hlc, rd, lU_ok l, hr, hlc, rd, lU_ok l, h60, rfl, hr, trivial⟩, rfl, fun body _ => loopsFor_none⟩
theorem merkleRoots_ok : Computes A Tryd.prog 11 (fun _ : GA (Rs 32 × Int × Int × Unit) => true) :=
  merkleRoots_of (RV := rootV pairR8) (RR := rootRV pairR8) (Z := fun d => zK pairR8 zR (zeN d)) (ZR := fun d => zK pairR8 zR (zrN d)) (.cons known18_ok.row (.cons lightRow_ok (.cons hasher_ok.row (.cons root_ok.row (.cons refRoot_ok.row (.cons zero_ok.row (.cons refZero_ok.row (.nil _)))))))) (fun l lim h => roots_same pairR8 l lim h) (fun d => zeros_same pairR8 d)
end Go.Proofs.YtaloefkkllebeaaDoor
