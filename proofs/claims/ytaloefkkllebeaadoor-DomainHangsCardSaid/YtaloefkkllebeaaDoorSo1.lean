/- Trees: noughts behind the chunks say nothing; the law. -/
import Derived.Test.YtaloefkkllebeaaDoorTk
set_option linter.unusedVariables false
set_option linter.unusedSimpArgs false
set_option linter.unusedSectionVars false
set_option maxRecDepth 100000
namespace Go.Proofs.YtaloefkkllebeaaDoor
open Go Go.Sh
def zG : Nat → A := fun q => ((List.replicate 32 (At.u8 (UInt8.ofNat 0) : A))[q % 32]?).getD (At.u8 (UInt8.ofNat 0))
def gF (l : List (R8 32)) : Nat → A := catF (fun q => rsAt l (0 + q)) (timesN l.length 32) zG 0
/-- Rows with noughts behind them. -/
def lG (l : List (R8 32)) (n : Nat) : List (R8 32) := cutR 32 (fun j => u8of (gF l (0 + j))) (l.length + n)
theorem zG_at (q : Nat) : zG q = .u8 (UInt8.ofNat 0) := by
  unfold zG
  rw [List.getElem?_replicate]
  split <;> rfl
theorem gF_at (l : List (R8 32)) (j : Nat) : gF l j = .u8 (if j < l.length * 32 then rsB l j else UInt8.ofNat 0) := by
  unfold gF
  simp only [catF, timesN_eq]
  by_cases h : j < l.length * 32
  · have hb : j.blt (l.length * 32) = true := by rw [Nat.blt_eq]; exact h
    rw [hb, if_pos h]
    show (At.u8 (rsB l (0 + j)) : A) = _
    rw [Nat.zero_add]
  · have hb : j.blt (l.length * 32) = false := by rw [Bool.eq_false_iff, ne_eq, Nat.blt_eq]; exact h
    rw [hb, if_neg h]
    exact zG_at _
theorem lG_len (l : List (R8 32)) (n : Nat) : (lG l n).length = l.length + n := cutR_len _ _ _
theorem lG_at (l : List (R8 32)) (n i j : Nat) (hi : i < l.length + n) (hj : j < 32) : rsB (lG l n) (i * 32 + j) = if i * 32 + j < l.length * 32 then rsB l (i * 32 + j) else UInt8.ofNat 0 := by
  unfold lG
  rw [cutR_at _ _ _ _ (by omega), Nat.zero_add, gF_at]
  rfl
theorem lG_row (l : List (R8 32)) (n i : Nat) : (nm (lG l n)).getD i zR = (nm l).getD i zR := by
  by_cases h1 : i < l.length
  · rw [nm_at _ _ (by rw [lG_len]; omega), nm_at _ _ h1]
    congr 1
    unfold elL
    refine elR_congr (fun j hj => ?_)
    rw [lG_at l n i j (by omega) hj, if_pos (by omega)]
  · have e2 : (nm l).getD i zR = zR := by rw [List.getD_eq_getElem?_getD, List.getElem?_eq_none (by rw [nm_len]; omega)]; rfl
    rw [e2]
    by_cases h2 : i < l.length + n
    · rw [nm_at _ _ (by rw [lG_len]; exact h2)]
      have e3 : elL (lG l n) i = elR zR.f 0 := by
        unfold elL
        refine elR_congr (fun j hj => ?_)
        rw [lG_at l n i j h2 hj, if_neg (by omega), Nat.zero_add]
        match j, hj with
        | 0, _ | 1, _ | 2, _ | 3, _ | 4, _ | 5, _ | 6, _ | 7, _ | 8, _ | 9, _ | 10, _ | 11, _ | 12, _ | 13, _ | 14, _ | 15, _ | 16, _ | 17, _ | 18, _ | 19, _ | 20, _ | 21, _ | 22, _ | 23, _ | 24, _ | 25, _ | 26, _ | 27, _ | 28, _ | 29, _ | 30, _ | 31, _ => rfl
        | j + 32, h => exact absurd h (by omega)
      have e4 : elR zR.f 0 = zR.f := by kernel_rfl
      rw [e3, e4]
    · rw [List.getD_eq_getElem?_getD, List.getElem?_eq_none (by rw [nm_len, lG_len]; omega)]
      rfl
theorem tree_grow (Pr : R8 32 → R8 32 → R8 32) (l : List (R8 32)) (n d : Nat) : treeN Pr (lG l n) d = treeN Pr l d := treeT_congr Pr zR d _ _ (fun i => lG_row l n i)
theorem maxI_pos {x : Int} (h : 0 ≤ x) : maxI x = x := by
  unfold maxI extI
  simp only [if_true]
  split <;> omega
theorem rootV_ok (Pr : R8 32 → R8 32 → R8 32) (l : List (R8 32)) {lim : Int} (h0 : 0 ≤ lim) (h : (l.length : Int) ≤ lim) : rootV Pr l lim = ⟨treeN Pr l (depQ lim), 0⟩ := by
  unfold rootV dR
  rw [maxI_pos h0, decide_eq_false (by omega)]
/-- What the law asks. -/
theorem grow_facts (Pr : R8 32 → R8 32 → R8 32) (l : List (R8 32)) (hl : l.length ≤ 60) (L : Int) (h1 : (l.length : Int) ≤ L) (h2 : L ≤ 159) (n : Nat) (hn : (l.length : Int) + (n : Int) ≤ L) :
    rootV Pr (lC l) L = ⟨treeN Pr l (depQ L), 0⟩ ∧ rootV Pr (lG l n) L = ⟨treeN Pr l (depQ L), 0⟩ ∧ rootV Pr (lC l) (pow2W ((depQ L : Int) + 1)) = ⟨Pr (treeN Pr l (depQ L)) (zK Pr zR (zrN (depQ L : Int))), 0⟩ ∧ depQ L ≤ 8 := by
  have hC : ∀ d, treeN Pr (lC l) d = treeN Pr l d := fun d => by unfold treeN; rw [nm_lC]
  have hd8 : depQ L ≤ 8 := by
    rcases Nat.lt_or_ge 8 (depQ L) with h | h
    · have h3 := (depQ_lt L h).2
      have e : ((2 : Int) ^ 8) = 256 := by decide
      omega
    · exact h
  have hend := depQ_end L
  generalize hD : depQ L = D at hd8 hend
  have ep : ((2 : Int) ^ D) = ((2 ^ D : Nat) : Int) := by rw [Int.natCast_pow]; rfl
  have hle : L ≤ ((2 ^ D : Nat) : Int) := by
    rcases Int.lt_or_le ((2 ^ D : Nat) : Int) L with h | h
    · exact absurd ⟨by omega, by rw [ep]; exact h⟩ hend
    · exact h
  have e1 : rootV Pr (lC l) L = ⟨treeN Pr l D, 0⟩ := by rw [rootV_ok Pr _ (by omega) (by rw [lC_len]; exact h1), hD, hC]
  have e2 : rootV Pr (lG l n) L = ⟨treeN Pr l D, 0⟩ := by rw [rootV_ok Pr _ (by omega) (by rw [lG_len]; omega), hD, tree_grow]
  have ePow : pow2W ((D : Int) + 1) = (2 : Int) ^ (D + 1) := by
    have : (D : Int) + 1 = ((D + 1 : Nat) : Int) := by omega
    rw [this, pow2W_eq (by omega)]
  have ep1 : ((2 : Int) ^ (D + 1)) = ((2 ^ (D + 1) : Nat) : Int) := by rw [Int.natCast_pow]; rfl
  have hpp : (2 : Nat) ^ (D + 1) = 2 ^ D + 2 ^ D := by rw [Nat.pow_succ]; omega
  have hdep : depQ ((2 : Int) ^ (D + 1)) = D + 1 := by
    refine depQ_uniq (by omega) (fun i hi => ?_) (fun h => absurd h.2 (by omega))
    have e3 : ((2 : Int) ^ i) = ((2 ^ i : Nat) : Int) := by rw [Int.natCast_pow]; rfl
    have := Nat.pow_lt_pow_right (a := 2) (by decide) hi
    rw [ep1, e3]
    omega
  have hz : zrN (D : Int) = D := by rw [zrN_eq]; omega
  have e3 : rootV Pr (lC l) (pow2W ((D : Int) + 1)) = ⟨Pr (treeN Pr l D) (zK Pr zR (zrN (D : Int))), 0⟩ := by
    rw [ePow, rootV_ok Pr _ (by rw [ep1]; omega) (by rw [lC_len, ep1, hpp]; omega), hdep, hC, hz]
    have e4 : treeN Pr l (D + 1) = Pr (treeN Pr l D) (zK Pr zR D) := by
      show treeT Pr zR (nm l) (D + 1) = _
      show Pr _ _ = _
      rw [List.take_of_length_le (by rw [nm_len]; omega), List.drop_eq_nil_of_le (by rw [nm_len]; omega), treeT_nil]
      rfl
    rw [e4]
  exact ⟨e1, e2, e3, hd8⟩
noncomputable def tblF15 (RV : RVT) (ZR : Int → R8 32) (Pm : R8 32 → R8 32 → R8 32) : List (Row A) :=
  [rowOf A 51 (fun _ : GA Unit => true), lightRow, rowOf A 31 (fun x : Int × Ps × Unit => placeV x.1 x.2.1.z), rowOf A 39 (fun _ : Unit => (⟨.mk⟩ : Hz Mk)), rowOf A 53 (fun x : GA (Rt 32 × Int × Unit) => RV x.x.1.l x.x.2.1),
    rowOf A 46 (fun x : Int × Unit => ((depQ x.1 : Nat) : Int)), rowOf A 41 (fun x : Hs Mk × Int × Unit => ZR x.2.1), rowOf A 34 (fun x : Ptr Mk × R8 32 × R8 32 × Unit => Pm x.2.1 x.2.2.1)]
theorem merkleGrows_of {RV : RVT} {ZR : Int → R8 32} {Pm : R8 32 → R8 32 → R8 32} (ht : TblOK Tryd.prog (tblF15 RV ZR Pm))
    (hF : ∀ (l : List (R8 32)) (L : Int) (n : Nat), l.length ≤ 60 → (l.length : Int) ≤ L → L ≤ 159 → (l.length : Int) + (n : Int) ≤ L → (RV (lC l) L).b = 0 ∧ (RV (lG l n) L).b = 0 ∧ (RV (lC l) (pow2W ((depQ L : Int) + 1))).b = 0 ∧ eqB (RV (lC l) L).a.f (RV (lG l n) L).a.f 0 32 = true ∧
      eqB (RV (lC l) (pow2W ((depQ L : Int) + 1))).a.f (Pm (RV (lC l) L).a (ZR (depQ L : Int))).f 0 32 = true ∧ depQ L ≤ 8) :
    Computes A Tryd.prog 15 (fun _ : GA (Rs 32 × Int × Int × Unit) => true) := by
  refine computes_of_runT Tryd.func15 (by kernel_rfl) (by kernel_rfl) 6 ?_
  rintro ⟨g, _⟩ ⟨⟨⟨l⟩, mo, li, ⟨⟩⟩⟩ W ⟨hr, hg, _⟩
  have hG : HasRows W l g := hg
  cases h60 : decide ((l.length : Int) ≤ 60) with
  | false =>
    exact ⟨_, _, ht, ITblOK.nil _, saysY [(17, false)], noLoop, true, [decide ((l.length : Int) ≤ 60) = false, true = true, RoundsIn W.cell?], by kernel_rfl, ⟨h60, rfl, hr, trivial⟩, rfl, fun body _ => loopsFor_none⟩
  | true =>
    have hl : l.length ≤ 60 := by have := of_decide_eq_true h60; omega
    obtain ⟨p1, p2⟩ := placeV_ok li (n := 100) (by decide)
    obtain ⟨L, hL⟩ : ∃ L, L = (l.length : Int) + placeV li 100 := ⟨_, rfl⟩
    obtain ⟨m1, m2⟩ := placeV_ok mo (n := L - (l.length : Int) + 1) (by omega)
    obtain ⟨x, hx⟩ : ∃ x, x = placeV mo (L - (l.length : Int) + 1) := ⟨_, rfl⟩
    rw [← hx] at m1 m2
    have hxn : ((x.toNat : Nat) : Int) = x := Int.toNat_of_nonneg m1
    obtain ⟨b1, b2, b3, q1, q2, hd⟩ := hF l L x.toNat hl (by omega) (by omega) (by omega)
    have rd : Reads W.cell? g.a (rsAt (l := l)) 0 (l.length * 32) := reads_rows (n := 32) hG (by omega)
    have hlc : (lC l).length < 1048576 := by rw [lC_len]; omega
    have hlg : (lG l x.toNat).length < 1048576 := by rw [lG_len]; omega
    have hpw := two_pow_le (i := depQ L + 1) (by omega)
    have ePow : pow2W ((depQ L : Int) + 1) = (2 : Int) ^ (depQ L + 1) := by
      have : (depQ L : Int) + 1 = ((depQ L + 1 : Nat) : Int) := by omega
      rw [this, pow2W_eq (by omega)]
    have wp : WrapI (pow2W ((depQ L : Int) + 1)) := by rw [ePow]; exact wI (by omega) (by omega)
    have ug : ∀ j, j < (l.length + x.toNat) * 32 → isU8 (gF l (0 + j)) = true := fun j _ => by rw [gF_at]; rfl
    have bb1 : Sh.Bears l.length 32 := by unfold Sh.Bears maxLen; omega
    have bb2 : 1 = 1 ∧ timesN l.length 32 = timesN l.length 32 ∧ Sh.Bears (l.length + x.toNat) 32 := ⟨rfl, rfl, by unfold Sh.Bears maxLen; omega⟩
    have s0 : (((RV (lC l) L).b + (RV (lG l x.toNat) L).b + (RV (lC l) (pow2W ((depQ L : Int) + 1))).b) == 0) = true := by rw [b1, b2, b3]; rfl
    have s1 : WrapI ((RV (lC l) L).b + (RV (lG l x.toNat) L).b) := by rw [b1, b2]; exact wI (by omega) (by omega)
    have s2 : WrapI ((RV (lC l) L).b + (RV (lG l x.toNat) L).b + (RV (lC l) (pow2W ((depQ L : Int) + 1))).b) := by rw [b1, b2, b3]; exact wI (by omega) (by omega)
    subst hx
    subst hL
    exact ⟨_, _, ht, ITblOK.nil _, saysY [], noLoop, true, [eqB (RV (lC l) (pow2W ((depQ ((l.length : Int) + placeV li 100) : Int) + 1))).a.f (Pm (RV (lC l) ((l.length : Int) + placeV li 100)).a (ZR (depQ ((l.length : Int) + placeV li 100) : Int))).f 0 32 = true, TabsAre, TabsAre, eqB (RV (lC l) ((l.length : Int) + placeV li 100)).a.f (RV (lG l (placeV mo (((l.length : Int) + placeV li 100) - (l.length : Int) + 1)).toNat) ((l.length : Int) + placeV li 100)).a.f 0 32 = true, (((RV (lC l) ((l.length : Int) + placeV li 100)).b + (RV (lG l (placeV mo (((l.length : Int) + placeV li 100) - (l.length : Int) + 1)).toNat) ((l.length : Int) + placeV li 100)).b + (RV (lC l) (pow2W ((depQ ((l.length : Int) + placeV li 100) : Int) + 1))).b) == 0) = true, WrapI ((RV (lC l) ((l.length : Int) + placeV li 100)).b + (RV (lG l (placeV mo (((l.length : Int) + placeV li 100) - (l.length : Int) + 1)).toNat) ((l.length : Int) + placeV li 100)).b + (RV (lC l) (pow2W ((depQ ((l.length : Int) + placeV li 100) : Int) + 1))).b), WrapI ((RV (lC l) ((l.length : Int) + placeV li 100)).b + (RV (lG l (placeV mo (((l.length : Int) + placeV li 100) - (l.length : Int) + 1)).toNat) ((l.length : Int) + placeV li 100)).b), RoundsIn W.cell?, (lC l).length < 1048576, Reads W.cell? g.a (rsAt l) 0 (l.length * 32), lU l, WrapI (pow2W ((depQ ((l.length : Int) + placeV li 100) : Int) + 1)), 0 ≤ (depQ ((l.length : Int) + placeV li 100) : Int) + 1, WrapI ((depQ ((l.length : Int) + placeV li 100) : Int) + 1), RoundsIn W.cell?, (lG l (placeV mo (((l.length : Int) + placeV li 100) - (l.length : Int) + 1)).toNat).length < 1048576, ∀ j, j < (l.length + (placeV mo (((l.length : Int) + placeV li 100) - (l.length : Int) + 1)).toNat) * 32 → isU8 (gF l (0 + j)) = true, 1 = 1 ∧ timesN l.length 32 = timesN l.length 32 ∧ Sh.Bears (l.length + (placeV mo (((l.length : Int) + placeV li 100) - (l.length : Int) + 1)).toNat) 32, 0 ≤ (placeV mo (((l.length : Int) + placeV li 100) - (l.length : Int) + 1)) ∧ (placeV mo (((l.length : Int) + placeV li 100) - (l.length : Int) + 1)) ≤ 9223372036854775807, Sh.Bears l.length 32, Reads W.cell? g.a (rsAt l) 0 (l.length * 32), RoundsIn W.cell?, (lC l).length < 1048576, Reads W.cell? g.a (rsAt l) 0 (l.length * 32), lU l, 0 < ((l.length : Int) + placeV li 100) - (l.length : Int) + 1 ∧ ((l.length : Int) + placeV li 100) - (l.length : Int) + 1 ≤ 4611686018427387904, WrapI (((l.length : Int) + placeV li 100) - (l.length : Int) + 1), WrapI (((l.length : Int) + placeV li 100) - (l.length : Int)), WrapI ((l.length : Int) + placeV li 100), (0 : Int) < 100 ∧ (100 : Int) ≤ 4611686018427387904, decide ((l.length : Int) ≤ 60) = true, true = true, RoundsIn W.cell?], by kernel_rfl, ⟨q2, tabsAre, tabsAre, q1, s0, s2, s1, hr, hlc, rd, lU_ok l, wp, by omega, wI (by omega) (by omega), hr, hlg, ug, bb2, ⟨m1, by omega⟩, bb1, rd, hr, hlc, rd, lU_ok l, ⟨by omega, by omega⟩, wI (by omega) (by omega), wI (by omega) (by omega), wI (by omega) (by omega), ⟨by decide, by decide⟩, h60, rfl, hr, trivial⟩, rfl, fun body _ => loopsFor_none⟩
theorem merkleGrows_ok : Computes A Tryd.prog 15 (fun _ : GA (Rs 32 × Int × Int × Unit) => true) := by
  refine merkleGrows_of (RV := rootV pairR8) (ZR := fun d => zK pairR8 zR (zrN d)) (Pm := pairR8)
    (.cons known18_ok.row (.cons lightRow_ok (.cons place_ok.row (.cons hasher_ok.row (.cons root_ok.row (.cons refDepth_ok.row (.cons refZero_ok.row (.cons makerPair_ok.row (.nil _))))))))) (fun l L n hl h1 h2 h3 => ?_)
  obtain ⟨e1, e2, e3, e4⟩ := grow_facts pairR8 l hl L h1 h2 n h3
  rw [e1, e2, e3]
  exact ⟨rfl, rfl, rfl, eqB_self _ _ _, eqB_self _ _ _, e4⟩
end Go.Proofs.YtaloefkkllebeaaDoor
