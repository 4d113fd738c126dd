/- Trees: the law of all leaves. -/
import Derived.Test.YtaloefkkllebeaaDoorSk4
set_option linter.unusedVariables false
set_option linter.unusedSimpArgs false
set_option linter.unusedSectionVars false
namespace Go.Proofs.YtaloefkkllebeaaDoor
open Go Go.Sh
def hhI (l : List (R8 32)) (D : Int) : Int := extI false (l.length : Int) (pow2W D)
def mH (l : List (R8 32)) (D : Int) : Nat := (hhI l D).toNat - 0
theorem hhI_ok (l : List (R8 32)) {d : Nat} (h : d ≤ 62) : 0 ≤ hhI l (d : Int) ∧ hhI l (d : Int) ≤ (l.length : Int) ∧ mH l (d : Int) = min l.length (2 ^ d) := by
  have e : ((2 : Int) ^ d) = ((2 ^ d : Nat) : Int) := by rw [Int.natCast_pow]; rfl
  have hp := pow_lt64 h
  unfold mH hhI extI
  rw [pow2W_eq (by omega), e]
  simp only [Bool.false_eq_true, if_false]
  generalize (2 : Nat) ^ d = p at hp
  split <;> omega
theorem merkleAll_of {RV : RVT} {VQ VR : VQT} {Bv : BvT} {T : TrT} (ht : TblOK Tryd.prog (tblF16 RV VQ VR Bv T)) (hE : ∀ f r b ix, b.length < 1048576 → VQ f r b ix = VR f r b ix) (hB : ∀ l ix d, (Bv l ix d).length = d)
    (hA : ∀ l (d : Nat), l.length ≤ 60 → d < 5 → (∀ i, i < mH l (d : Int) → VQ (elL l i) (T (lM l (mH l (d : Int))) d).f (lC (Bv (lM l (mH l (d : Int))) (cvU (i : Int)) d)) (cvU (i : Int)) = true) ∧ RV (lM l (mH l (d : Int))) (pow2W (d : Int)) = ⟨T (lM l (mH l (d : Int))) d, 0⟩) :
    Computes A Tryd.prog 16 (fun _ : GA (Rs 32 × Int × UInt64 × Unit) => true) := by
  refine computes_of_runT Tryd.func16 (by kernel_rfl) (by kernel_rfl) 6 ?_
  rintro ⟨g, _⟩ ⟨⟨⟨l⟩, k, o, ⟨⟩⟩⟩ W ⟨hr, hg, _⟩
  have hG : HasRows W l g := hg
  cases h60 : decide ((l.length : Int) ≤ 60) with
  | false =>
    exact ⟨_, _, ht, ITblOK.nil _, saysY [(16, false)], noLoop, true, [decide ((l.length : Int) ≤ 60) = false, true = true, RoundsIn W.cell?], by kernel_rfl, ⟨h60, rfl, hr, trivial⟩, rfl, fun body _ => loopsFor_none⟩
  | true =>
    have hl : l.length ≤ 60 := by have := of_decide_eq_true h60; omega
    obtain ⟨p1, p2⟩ := placeV_ok k (n := 5) (by decide)
    obtain ⟨d, hd⟩ := Int.eq_ofNat_of_zero_le p1
    have hd5 : d < 5 := by omega
    obtain ⟨q1, q2, q3⟩ := hhI_ok l (d := d) (by omega)
    rw [← hd] at q1 q2 q3
    obtain ⟨a1, a2⟩ := hA l d hl hd5
    have ed : (placeV k 5).toNat = d := by omega
    rw [← hd, ← ed] at a1 a2
    have hm : mH l (placeV k 5) ≤ l.length := by rw [q3]; exact Nat.min_le_left _ _
    have hN : l.length < 1048576 := by omega
    have hs : SoundFor Tryd.prog W.cell? [] (.loop (loopNo Tryd.f16 10)) (allS g l (mH l (placeV k 5)) (g.c - 0) (placeV k 5) o (T (lM l (mH l (placeV k 5))) (placeV k 5).toNat).f 0) (.exit 0) (allS g l (mH l (placeV k 5)) (g.c - 0) (placeV k 5) o (T (lM l (mH l (placeV k 5))) (placeV k 5).toNat).f (mH l (placeV k 5))) := fun c e1 e2 e3 e4 =>
      loopAt (c := c) (inv := fun i => allS g l (mH l (placeV k 5)) (g.c - 0) (placeV k 5) o (T (lM l (mH l (placeV k 5))) (placeV k 5).toNat).f i) (N := mH l (placeV k 5)) (by simp)
        (fun i hi => allS_one ht hr g hG hm hN (g.c - 0) (D := placeV k 5) ⟨p1, by omega⟩ o _ a1 (fun f b ix hb => hE f _ b ix hb) (fun ix => by rw [hB]; omega) e1 e2 e3 e4 i hi)
        (allS_end ht hr g hG hm hN (g.c - 0) (D := placeV k 5) ⟨p1, by omega⟩ o _ a1 (fun f b ix hb => hE f _ b ix hb) (fun ix => by rw [hB]; omega) e1 e2 e3 e4)
    have hpw := two_pow_le (i := d) (by omega)
    have ePow : pow2W (placeV k 5) = (2 : Int) ^ d := by rw [hd, pow2W_eq (by omega)]
    have w : WrapI (pow2W (placeV k 5)) := by rw [ePow]; exact wI (by omega) (by omega)
    have k1 : eqB (RV (lM l (mH l (placeV k 5))) (pow2W (placeV k 5))).a.f (T (lM l (mH l (placeV k 5))) (placeV k 5).toNat).f 0 32 = true := by rw [a2]; exact eqB_self _ _ _
    have k2 : ((RV (lM l (mH l (placeV k 5))) (pow2W (placeV k 5))).b == 0) = true := by rw [a2]; rfl
    have lm : (lM l (mH l (placeV k 5))).length < 1048576 := by rw [lM_len]; omega
    have rd : Reads W.cell? g.a (rsAt (l := l)) 0 (mH l (placeV k 5) * 32) := reads_rows (n := 32) hG (by omega)
    have um : ∀ j, j < mH l (placeV k 5) * 32 → isU8 (rsAt l (0 + j)) = true := fun _ _ => rfl
    have gc := hG.1
    refine ⟨_, _, ht, ITblOK.nil _, saysY [], lps [(10, allS g l (mH l (placeV k 5)) (g.c - 0) (placeV k 5) o (T (lM l (mH l (placeV k 5))) (placeV k 5).toNat).f 0, .exit 0, allS g l (mH l (placeV k 5)) (g.c - 0) (placeV k 5) o (T (lM l (mH l (placeV k 5))) (placeV k 5).toNat).f (mH l (placeV k 5)))], true,
      [eqB (RV (lM l (mH l (placeV k 5))) (pow2W (placeV k 5))).a.f (T (lM l (mH l (placeV k 5))) (placeV k 5).toNat).f 0 32 = true, ((RV (lM l (mH l (placeV k 5))) (pow2W (placeV k 5))).b == 0) = true, RoundsIn W.cell?, (lM l (mH l (placeV k 5))).length < 1048576, Reads W.cell? g.a (rsAt l) 0 (mH l (placeV k 5) * 32), ∀ j, j < mH l (placeV k 5) * 32 → isU8 (rsAt l (0 + j)) = true,
        WrapI (pow2W (placeV k 5)), 0 ≤ placeV k 5, ToldIs (allS g l (mH l (placeV k 5)) (g.c - 0) (placeV k 5) o (T (lM l (mH l (placeV k 5))) (placeV k 5).toNat).f 0), TabsAre, (lM l (mH l (placeV k 5))).length < 1048576, Reads W.cell? g.a (rsAt l) 0 (mH l (placeV k 5) * 32), ∀ j, j < mH l (placeV k 5) * 32 → isU8 (rsAt l (0 + j)) = true,
        0 ≤ placeV k 5 ∧ placeV k 5 ≤ ((62 : Nat) : Int), 0 ≤ hhI l (placeV k 5) ∧ hhI l (placeV k 5) ≤ (g.c : Int), WrapI (pow2W (placeV k 5)), 0 ≤ placeV k 5, (0 : Int) < 5 ∧ (5 : Int) ≤ 4611686018427387904, decide ((l.length : Int) ≤ 60) = true, true = true, RoundsIn W.cell?], by kernel_rfl,
      ⟨k1, k2, hr, lm, rd, um, w, p1, toldIs _, tabsAre, lm, rd, um, ⟨p1, by omega⟩, ⟨q1, by omega⟩, w, p1, ⟨by decide, by decide⟩, h60, rfl, hr, trivial⟩, rfl, fun body hb => ?_⟩
    obtain rfl := Option.some.inj hb
    exact LoopsFor.cons (by kernel_rfl) hs LoopsFor.nil
/-- What the law asks of a tree. -/
theorem all_facts (Pr : R8 32 → R8 32 → R8 32) (hc : Cut Pr) (l : List (R8 32)) (d : Nat) (hl : l.length ≤ 60) (hd : d < 5) :
    (∀ i, i < mH l (d : Int) → merQ Pr (elL l i) (treeN Pr (lM l (mH l (d : Int))) d).f (lC (branchV Pr (lM l (mH l (d : Int))) (cvU (i : Int)) d)) (cvU (i : Int)) = true) ∧ rootV Pr (lM l (mH l (d : Int))) (pow2W (d : Int)) = ⟨treeN Pr (lM l (mH l (d : Int))) d, 0⟩ := by
  obtain ⟨q1, q2, q3⟩ := hhI_ok l (d := d) (by omega)
  have hm : mH l (d : Int) ≤ l.length := by rw [q3]; exact Nat.min_le_left _ _
  have hm2 : mH l (d : Int) ≤ 2 ^ d := by rw [q3]; exact Nat.min_le_right _ _
  revert hm hm2
  generalize mH l (d : Int) = m
  intro hm hm2
  have e2 : ((2 : Int) ^ d) = ((2 ^ d : Nat) : Int) := by rw [Int.natCast_pow]; rfl
  have hp := pow_lt64 (d := d) (by omega)
  refine ⟨fun i hi => ?_, ?_⟩
  · have hi64 : (cvU (i : Int)).toNat = i := cvU_nat' (by omega)
    have hmod : (cvU (i : Int)).toNat = (cvU (i : Int)).toNat % 2 ^ d := by rw [hi64, Nat.mod_eq_of_lt (by omega)]
    have h := branch_proves Pr hc (l := lM l m) (by rw [lM_len]; omega) (cvU (i : Int)) (cvU (i : Int)) (d := d) (by omega) hmod
    have hleaf : (nodeT Pr zR (roomL (lM l m) d) 0 (cvU (i : Int)).toNat).f = elL l i := by
      rw [hi64]
      unfold nodeT roomL
      show ((List.drop (i * 1) _).getD 0 zR).f = _
      rw [Nat.mul_one, List.getD_eq_getElem?_getD, List.getElem?_drop, Nat.add_zero, List.getElem?_take, if_pos (by omega), nm_lM l hm, List.getElem?_take, if_pos hi, ← List.getD_eq_getElem?_getD, nm_at l i (by omega)]
    rw [hleaf] at h
    exact h
  · unfold rootV
    have hmax : maxI (pow2W (d : Int)) = (2 : Int) ^ d := by
      rw [pow2W_eq (by omega)]
      have := two_pow_le (i := d) (by omega)
      unfold maxI extI
      simp only [if_true]
      split <;> omega
    rw [hmax, decide_eq_false (by rw [lM_len]; omega)]
    have hdep : dR (pow2W (d : Int)) = d := by
      unfold dR
      rw [hmax]
      refine depQ_uniq (by omega) (fun i hi => ?_) (fun h => absurd h.2 (by omega))
      have e3 : ((2 : Int) ^ i) = ((2 ^ i : Nat) : Int) := by rw [Int.natCast_pow]; rfl
      have := Nat.pow_lt_pow_right (a := 2) (by decide) hi
      rw [e2, e3]
      omega
    rw [hdep]
theorem merkleAll_ok : Computes A Tryd.prog 16 (fun _ : GA (Rs 32 × Int × UInt64 × Unit) => true) :=
  merkleAll_of (RV := rootV pairR8) (VQ := merQ pairR8) (VR := verQ pairR8) (Bv := branchV pairR8) (T := treeN pairR8)
    (.cons known18_ok.row (.cons lightRow_ok (.cons place_ok.row (.cons hasher_ok.row (.cons tree_ok.row (.cons branch_ok.row (.cons verify_ok.row (.cons refVerify_ok.row (.cons root_ok.row (.nil _))))))))))
    (fun f r b ix hb => merQ_eq pairR8 f r b ix hb) (fun l ix d => branchV_len pairR8 l ix d) (fun l d hl hd => all_facts pairR8 pair_cut l d hl hd)
end Go.Proofs.YtaloefkkllebeaaDoor
