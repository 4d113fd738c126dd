/- Trees: the law of branches. -/
import Derived.Test.YtaloefkkllebeaaDoorSm3
set_option linter.unusedVariables false
set_option linter.unusedSimpArgs false
set_option linter.unusedSectionVars false
namespace Go.Proofs.YtaloefkkllebeaaDoor
open Go Go.Sh
section
variable (W : World) (g : Spot) (l : List (R8 32)) (k : Int) (ix : UInt64) (VQ : VQT) (Bv : BvT) (T : TrT) (RB : List (R8 32) → UInt64 → List (R8 32)) (RO : List (R8 32) → List (R8 32) → Bool) (z : Int) (K P : Nat) (M : Int)
/-- What must hold of the first calls. -/
def vcT : List Prop :=
  [0 ≤ hP l P ∧ hP l P ≤ (g.c : Int), (((Bv (lC l) ix K).length : Int) != (K : Int)) = false, RO (lC (Bv (lC l) ix K)) (lC (RB (lC l) ix)) = true, (lC (Bv (lC l) ix K)).length < 1048576, lU (Bv (lC l) ix K), (lC (RB (lC l) ix)).length < 1048576, lU (RB (lC l) ix), TabsAre, (lC l).length < 1048576, Reads W.cell? g.a (rsAt l) 0 (l.length * 32), lU l,
    RoundsIn W.cell?, (lC l).length < 1048576, Reads W.cell? g.a (rsAt l) 0 (l.length * 32), lU l, (0 : Int) ≤ (K : Int) ∧ (K : Int) ≤ ((9 : Nat) : Int), k.tmod 9 = z, decide ((l.length : Int) ≤ 60) = true, true = true, RoundsIn W.cell?]
/-- Of those behind. -/
def vcM (leaf : Nat → UInt8) (rest : List Prop) : List Prop :=
  RoundsIn W.cell? :: ((lC (Bv (lC l) ix K)).length < 1048576) :: lU (Bv (lC l) ix K) :: (VQ leaf (T (lM l (mP l P)) K).f (lC (Bv (lC l) ix K)) (atM M ix) = true) :: RoundsIn W.cell? :: ((lC (Bv (lC l) ix K)).length < 1048576) :: lU (Bv (lC l) ix K) :: TabsAre :: ((lM l (mP l P)).length < 1048576) ::
    Reads W.cell? g.a (rsAt l) 0 (mP l P * 32) :: (∀ j, j < mP l P * 32 → isU8 (rsAt l (0 + j)) = true) :: ((0 : Int) ≤ (K : Int) ∧ (K : Int) ≤ ((62 : Nat) : Int)) :: rest
theorem vcT_all {W : World} {g : Spot} {l : List (R8 32)} {k : Int} {ix : UInt64} {Bv : BvT} {RB : List (R8 32) → UInt64 → List (R8 32)} {RO : List (R8 32) → List (R8 32) → Bool} {z : Int} {K P : Nat} (hr : RoundsIn W.cell?) (hG : HasRows W l g) (hl : l.length ≤ 60) (hK : K ≤ 8) (hB : ∀ l ix d, (Bv l ix d).length = d) (hRB : ∀ l ix, (RB l ix).length = K)
    (hz : k.tmod 9 = z) (h60 : decide ((l.length : Int) ≤ 60) = true) (f1 : RO (lC (Bv (lC l) ix K)) (lC (RB (lC l) ix)) = true) : All (vcT W g l k ix Bv RB RO z K P) := by
  obtain ⟨q1, q2, q3⟩ := hP_ok l P
  have gc := hG.1
  have rd : Reads W.cell? g.a (rsAt (l := l)) 0 (l.length * 32) := reads_rows (n := 32) hG (by omega)
  have hlc : (lC l).length < 1048576 := by rw [lC_len]; omega
  have ne : (((Bv (lC l) ix K).length : Int) != (K : Int)) = false := by rw [hB]; simp
  have b1 : (lC (Bv (lC l) ix K)).length < 1048576 := by rw [lC_len, hB]; omega
  have b2 : (lC (RB (lC l) ix)).length < 1048576 := by rw [lC_len, hRB]; omega
  exact ⟨⟨q1, by omega⟩, ne, f1, b1, lU_ok _, b2, lU_ok _, tabsAre, hlc, rd, lU_ok l, hr, hlc, rd, lU_ok l, by omega, hz, h60, rfl, hr, trivial⟩
theorem vcM_all {W : World} {g : Spot} {l : List (R8 32)} {ix : UInt64} {VQ : VQT} {Bv : BvT} {T : TrT} {K P : Nat} {M : Int} {leaf : Nat → UInt8} {rest : List Prop} (hr : RoundsIn W.cell?) (hG : HasRows W l g) (hl : l.length ≤ 60) (hK : K ≤ 8) (hB : ∀ l ix d, (Bv l ix d).length = d)
    (f2 : VQ leaf (T (lM l (mP l P)) K).f (lC (Bv (lC l) ix K)) (atM M ix) = true) (hrest : All rest) : All (vcM W g l ix VQ Bv T K P M leaf rest) := by
  obtain ⟨q1, q2, q3⟩ := hP_ok l P
  have hm : mP l P ≤ l.length := by rw [q3]; exact Nat.min_le_left _ _
  have b1 : (lC (Bv (lC l) ix K)).length < 1048576 := by rw [lC_len, hB]; omega
  have rd : Reads W.cell? g.a (rsAt (l := l)) 0 (mP l P * 32) := reads_rows (n := 32) hG (by omega)
  exact ⟨hr, b1, lU_ok _, f2, hr, b1, lU_ok _, tabsAre, by rw [lM_len]; omega, rd, fun _ _ => rfl, by omega, hrest⟩
end
section
variable {VQ : VQT} {Bv : BvT} {T : TrT} {RB : Nat → List (R8 32) → UInt64 → List (R8 32)} {RO : List (R8 32) → List (R8 32) → Bool} (hB : ∀ l ix d, (Bv l ix d).length = d) (hRB : ∀ K l ix, (RB K l ix).length = K)
  (hF : ∀ l ix (K P : Nat) (M : Int), l.length ≤ 60 → K ≤ 8 → P = 2 ^ K → M = (P : Int) - 1 → RO (lC (Bv (lC l) ix K)) (lC (RB K (lC l) ix)) = true ∧ VQ (leafV l (atM M ix) (mP l P)) (T (lM l (mP l P)) K).f (lC (Bv (lC l) ix K)) (atM M ix) = true ∧
    VQ (leafV l (atM M ix) (mP l P)) (T (lM l (mP l P)) K).f (lC (Bv (lC l) ix K)) ix = ((ix.toNat : Int) == ((atM M ix).toNat : Int)))
  {W : World} {g : Spot} {l : List (R8 32)} (k : Int) (ix : UInt64) (hr : RoundsIn W.cell?) (hG : HasRows W l g) (hl : l.length ≤ 60) (h60 : decide ((l.length : Int) ≤ 60) = true)
include hB hRB hF hr hG hl h60
theorem mb_n8 (hz : k.tmod 9 = (-8)) : ∃ orc vc, (run (cfgW Tryd.prog (tblF12 (-8) 1 VQ Bv T (RB 1) RO) [] orc W.cell? noLoop [] noYield) 8 Tryd.f12 (Args.tvs (A := A) (Γ := GA (Rs 32 × Int × UInt64 × Unit)) (g, (), (), ()) ⟨(⟨l⟩, k, ix, ())⟩) []).map (retOf (R := Bool)) = some (some true, vc) ∧ All vc := by
  obtain ⟨f1, f2, f3⟩ := hF l ix 1 2 1 hl (by decide) (by decide) (by decide)
  cases hlt : decide (((atM 1 ix).toNat : Int) < ((cvU (mP l 2 : Int)).toNat : Int)) with
  | true =>
    have el : leafV l (atM 1 ix) (mP l 2) = elL l (atM 1 ix).toNat := by unfold leafV; rw [hlt]
    rw [el] at f2 f3
    have hm : mP l 2 ≤ l.length := by rw [(hP_ok l 2).2.2]; exact Nat.min_le_left _ _
    have hlt' : (atM 1 ix).toNat < mP l 2 := by have h := of_decide_eq_true hlt; rw [cvU_nat' (i := mP l 2) (by omega)] at h; omega
    have ra : Reads W.cell? g.a (rsAt (l := l)) ((atM 1 ix).toNat * 32) 32 := reads_rows (n := 32) hG (by omega)
    have ia : IX ((atM 1 ix).toNat : Int) (mP l 2) := ⟨by omega, by omega⟩
    cases he : ((ix.toNat : Int) == ((atM 1 ix).toNat : Int)) with
    | true =>
      rw [he] at f3
      exact ⟨saysY [(36, false)], (((ix.toNat : Int) == ((atM 1 ix).toNat : Int)) = true) :: (VQ (elL l (atM 1 ix).toNat) (T (lM l (mP l 2)) 1).f (lC (Bv (lC l) ix 1)) ix = true) :: vcM W g l ix VQ Bv T 1 2 1 (elL l (atM 1 ix).toNat) (Reads W.cell? g.a (rsAt l) ((atM 1 ix).toNat * 32) 32 :: IX ((atM 1 ix).toNat : Int) (mP l 2) :: (decide (((atM 1 ix).toNat : Int) < ((cvU (mP l 2 : Int)).toNat : Int)) = true) :: vcT W g l k ix Bv (RB 1) RO (-8) 1 2), by kernel_rfl, he, f3, vcM_all hr hG hl (by decide) hB f2 ⟨ra, ia, hlt, vcT_all hr hG hl (by decide) hB (hRB 1) hz h60 f1⟩⟩
    | false =>
      rw [he] at f3
      exact ⟨saysY [(36, false), (73, false), (76, false)], (((ix.toNat : Int) == ((atM 1 ix).toNat : Int)) = false) :: (VQ (elL l (atM 1 ix).toNat) (T (lM l (mP l 2)) 1).f (lC (Bv (lC l) ix 1)) ix = false) :: vcM W g l ix VQ Bv T 1 2 1 (elL l (atM 1 ix).toNat) (Reads W.cell? g.a (rsAt l) ((atM 1 ix).toNat * 32) 32 :: IX ((atM 1 ix).toNat : Int) (mP l 2) :: (decide (((atM 1 ix).toNat : Int) < ((cvU (mP l 2 : Int)).toNat : Int)) = true) :: vcT W g l k ix Bv (RB 1) RO (-8) 1 2), by kernel_rfl, he, f3, vcM_all hr hG hl (by decide) hB f2 ⟨ra, ia, hlt, vcT_all hr hG hl (by decide) hB (hRB 1) hz h60 f1⟩⟩
  | false =>
    have el : leafV l (atM 1 ix) (mP l 2) = zR.f := by unfold leafV; rw [hlt]
    rw [el] at f2 f3
    cases he : ((ix.toNat : Int) == ((atM 1 ix).toNat : Int)) with
    | true =>
      rw [he] at f3
      exact ⟨saysY [(36, false), (54, false)], (((ix.toNat : Int) == ((atM 1 ix).toNat : Int)) = true) :: (VQ zR.f (T (lM l (mP l 2)) 1).f (lC (Bv (lC l) ix 1)) ix = true) :: vcM W g l ix VQ Bv T 1 2 1 zR.f ((decide (((atM 1 ix).toNat : Int) < ((cvU (mP l 2 : Int)).toNat : Int)) = false) :: vcT W g l k ix Bv (RB 1) RO (-8) 1 2), by kernel_rfl, he, f3, vcM_all hr hG hl (by decide) hB f2 ⟨hlt, vcT_all hr hG hl (by decide) hB (hRB 1) hz h60 f1⟩⟩
    | false =>
      rw [he] at f3
      exact ⟨saysY [(36, false), (54, false), (73, false), (76, false)], (((ix.toNat : Int) == ((atM 1 ix).toNat : Int)) = false) :: (VQ zR.f (T (lM l (mP l 2)) 1).f (lC (Bv (lC l) ix 1)) ix = false) :: vcM W g l ix VQ Bv T 1 2 1 zR.f ((decide (((atM 1 ix).toNat : Int) < ((cvU (mP l 2 : Int)).toNat : Int)) = false) :: vcT W g l k ix Bv (RB 1) RO (-8) 1 2), by kernel_rfl, he, f3, vcM_all hr hG hl (by decide) hB f2 ⟨hlt, vcT_all hr hG hl (by decide) hB (hRB 1) hz h60 f1⟩⟩
theorem mb_n7 (hz : k.tmod 9 = (-7)) : ∃ orc vc, (run (cfgW Tryd.prog (tblF12 (-7) 2 VQ Bv T (RB 2) RO) [] orc W.cell? noLoop [] noYield) 8 Tryd.f12 (Args.tvs (A := A) (Γ := GA (Rs 32 × Int × UInt64 × Unit)) (g, (), (), ()) ⟨(⟨l⟩, k, ix, ())⟩) []).map (retOf (R := Bool)) = some (some true, vc) ∧ All vc := by
  obtain ⟨f1, f2, f3⟩ := hF l ix 2 4 3 hl (by decide) (by decide) (by decide)
  cases hlt : decide (((atM 3 ix).toNat : Int) < ((cvU (mP l 4 : Int)).toNat : Int)) with
  | true =>
    have el : leafV l (atM 3 ix) (mP l 4) = elL l (atM 3 ix).toNat := by unfold leafV; rw [hlt]
    rw [el] at f2 f3
    have hm : mP l 4 ≤ l.length := by rw [(hP_ok l 4).2.2]; exact Nat.min_le_left _ _
    have hlt' : (atM 3 ix).toNat < mP l 4 := by have h := of_decide_eq_true hlt; rw [cvU_nat' (i := mP l 4) (by omega)] at h; omega
    have ra : Reads W.cell? g.a (rsAt (l := l)) ((atM 3 ix).toNat * 32) 32 := reads_rows (n := 32) hG (by omega)
    have ia : IX ((atM 3 ix).toNat : Int) (mP l 4) := ⟨by omega, by omega⟩
    cases he : ((ix.toNat : Int) == ((atM 3 ix).toNat : Int)) with
    | true =>
      rw [he] at f3
      exact ⟨saysY [(36, false)], (((ix.toNat : Int) == ((atM 3 ix).toNat : Int)) = true) :: (VQ (elL l (atM 3 ix).toNat) (T (lM l (mP l 4)) 2).f (lC (Bv (lC l) ix 2)) ix = true) :: vcM W g l ix VQ Bv T 2 4 3 (elL l (atM 3 ix).toNat) (Reads W.cell? g.a (rsAt l) ((atM 3 ix).toNat * 32) 32 :: IX ((atM 3 ix).toNat : Int) (mP l 4) :: (decide (((atM 3 ix).toNat : Int) < ((cvU (mP l 4 : Int)).toNat : Int)) = true) :: vcT W g l k ix Bv (RB 2) RO (-7) 2 4), by kernel_rfl, he, f3, vcM_all hr hG hl (by decide) hB f2 ⟨ra, ia, hlt, vcT_all hr hG hl (by decide) hB (hRB 2) hz h60 f1⟩⟩
    | false =>
      rw [he] at f3
      exact ⟨saysY [(36, false), (73, false), (76, false)], (((ix.toNat : Int) == ((atM 3 ix).toNat : Int)) = false) :: (VQ (elL l (atM 3 ix).toNat) (T (lM l (mP l 4)) 2).f (lC (Bv (lC l) ix 2)) ix = false) :: vcM W g l ix VQ Bv T 2 4 3 (elL l (atM 3 ix).toNat) (Reads W.cell? g.a (rsAt l) ((atM 3 ix).toNat * 32) 32 :: IX ((atM 3 ix).toNat : Int) (mP l 4) :: (decide (((atM 3 ix).toNat : Int) < ((cvU (mP l 4 : Int)).toNat : Int)) = true) :: vcT W g l k ix Bv (RB 2) RO (-7) 2 4), by kernel_rfl, he, f3, vcM_all hr hG hl (by decide) hB f2 ⟨ra, ia, hlt, vcT_all hr hG hl (by decide) hB (hRB 2) hz h60 f1⟩⟩
  | false =>
    have el : leafV l (atM 3 ix) (mP l 4) = zR.f := by unfold leafV; rw [hlt]
    rw [el] at f2 f3
    cases he : ((ix.toNat : Int) == ((atM 3 ix).toNat : Int)) with
    | true =>
      rw [he] at f3
      exact ⟨saysY [(36, false), (54, false)], (((ix.toNat : Int) == ((atM 3 ix).toNat : Int)) = true) :: (VQ zR.f (T (lM l (mP l 4)) 2).f (lC (Bv (lC l) ix 2)) ix = true) :: vcM W g l ix VQ Bv T 2 4 3 zR.f ((decide (((atM 3 ix).toNat : Int) < ((cvU (mP l 4 : Int)).toNat : Int)) = false) :: vcT W g l k ix Bv (RB 2) RO (-7) 2 4), by kernel_rfl, he, f3, vcM_all hr hG hl (by decide) hB f2 ⟨hlt, vcT_all hr hG hl (by decide) hB (hRB 2) hz h60 f1⟩⟩
    | false =>
      rw [he] at f3
      exact ⟨saysY [(36, false), (54, false), (73, false), (76, false)], (((ix.toNat : Int) == ((atM 3 ix).toNat : Int)) = false) :: (VQ zR.f (T (lM l (mP l 4)) 2).f (lC (Bv (lC l) ix 2)) ix = false) :: vcM W g l ix VQ Bv T 2 4 3 zR.f ((decide (((atM 3 ix).toNat : Int) < ((cvU (mP l 4 : Int)).toNat : Int)) = false) :: vcT W g l k ix Bv (RB 2) RO (-7) 2 4), by kernel_rfl, he, f3, vcM_all hr hG hl (by decide) hB f2 ⟨hlt, vcT_all hr hG hl (by decide) hB (hRB 2) hz h60 f1⟩⟩
theorem mb_n6 (hz : k.tmod 9 = (-6)) : ∃ orc vc, (run (cfgW Tryd.prog (tblF12 (-6) 3 VQ Bv T (RB 3) RO) [] orc W.cell? noLoop [] noYield) 8 Tryd.f12 (Args.tvs (A := A) (Γ := GA (Rs 32 × Int × UInt64 × Unit)) (g, (), (), ()) ⟨(⟨l⟩, k, ix, ())⟩) []).map (retOf (R := Bool)) = some (some true, vc) ∧ All vc := by
  obtain ⟨f1, f2, f3⟩ := hF l ix 3 8 7 hl (by decide) (by decide) (by decide)
  cases hlt : decide (((atM 7 ix).toNat : Int) < ((cvU (mP l 8 : Int)).toNat : Int)) with
  | true =>
    have el : leafV l (atM 7 ix) (mP l 8) = elL l (atM 7 ix).toNat := by unfold leafV; rw [hlt]
    rw [el] at f2 f3
    have hm : mP l 8 ≤ l.length := by rw [(hP_ok l 8).2.2]; exact Nat.min_le_left _ _
    have hlt' : (atM 7 ix).toNat < mP l 8 := by have h := of_decide_eq_true hlt; rw [cvU_nat' (i := mP l 8) (by omega)] at h; omega
    have ra : Reads W.cell? g.a (rsAt (l := l)) ((atM 7 ix).toNat * 32) 32 := reads_rows (n := 32) hG (by omega)
    have ia : IX ((atM 7 ix).toNat : Int) (mP l 8) := ⟨by omega, by omega⟩
    cases he : ((ix.toNat : Int) == ((atM 7 ix).toNat : Int)) with
    | true =>
      rw [he] at f3
      exact ⟨saysY [(36, false)], (((ix.toNat : Int) == ((atM 7 ix).toNat : Int)) = true) :: (VQ (elL l (atM 7 ix).toNat) (T (lM l (mP l 8)) 3).f (lC (Bv (lC l) ix 3)) ix = true) :: vcM W g l ix VQ Bv T 3 8 7 (elL l (atM 7 ix).toNat) (Reads W.cell? g.a (rsAt l) ((atM 7 ix).toNat * 32) 32 :: IX ((atM 7 ix).toNat : Int) (mP l 8) :: (decide (((atM 7 ix).toNat : Int) < ((cvU (mP l 8 : Int)).toNat : Int)) = true) :: vcT W g l k ix Bv (RB 3) RO (-6) 3 8), by kernel_rfl, he, f3, vcM_all hr hG hl (by decide) hB f2 ⟨ra, ia, hlt, vcT_all hr hG hl (by decide) hB (hRB 3) hz h60 f1⟩⟩
    | false =>
      rw [he] at f3
      exact ⟨saysY [(36, false), (73, false), (76, false)], (((ix.toNat : Int) == ((atM 7 ix).toNat : Int)) = false) :: (VQ (elL l (atM 7 ix).toNat) (T (lM l (mP l 8)) 3).f (lC (Bv (lC l) ix 3)) ix = false) :: vcM W g l ix VQ Bv T 3 8 7 (elL l (atM 7 ix).toNat) (Reads W.cell? g.a (rsAt l) ((atM 7 ix).toNat * 32) 32 :: IX ((atM 7 ix).toNat : Int) (mP l 8) :: (decide (((atM 7 ix).toNat : Int) < ((cvU (mP l 8 : Int)).toNat : Int)) = true) :: vcT W g l k ix Bv (RB 3) RO (-6) 3 8), by kernel_rfl, he, f3, vcM_all hr hG hl (by decide) hB f2 ⟨ra, ia, hlt, vcT_all hr hG hl (by decide) hB (hRB 3) hz h60 f1⟩⟩
  | false =>
    have el : leafV l (atM 7 ix) (mP l 8) = zR.f := by unfold leafV; rw [hlt]
    rw [el] at f2 f3
    cases he : ((ix.toNat : Int) == ((atM 7 ix).toNat : Int)) with
    | true =>
      rw [he] at f3
      exact ⟨saysY [(36, false), (54, false)], (((ix.toNat : Int) == ((atM 7 ix).toNat : Int)) = true) :: (VQ zR.f (T (lM l (mP l 8)) 3).f (lC (Bv (lC l) ix 3)) ix = true) :: vcM W g l ix VQ Bv T 3 8 7 zR.f ((decide (((atM 7 ix).toNat : Int) < ((cvU (mP l 8 : Int)).toNat : Int)) = false) :: vcT W g l k ix Bv (RB 3) RO (-6) 3 8), by kernel_rfl, he, f3, vcM_all hr hG hl (by decide) hB f2 ⟨hlt, vcT_all hr hG hl (by decide) hB (hRB 3) hz h60 f1⟩⟩
    | false =>
      rw [he] at f3
      exact ⟨saysY [(36, false), (54, false), (73, false), (76, false)], (((ix.toNat : Int) == ((atM 7 ix).toNat : Int)) = false) :: (VQ zR.f (T (lM l (mP l 8)) 3).f (lC (Bv (lC l) ix 3)) ix = false) :: vcM W g l ix VQ Bv T 3 8 7 zR.f ((decide (((atM 7 ix).toNat : Int) < ((cvU (mP l 8 : Int)).toNat : Int)) = false) :: vcT W g l k ix Bv (RB 3) RO (-6) 3 8), by kernel_rfl, he, f3, vcM_all hr hG hl (by decide) hB f2 ⟨hlt, vcT_all hr hG hl (by decide) hB (hRB 3) hz h60 f1⟩⟩
theorem mb_n5 (hz : k.tmod 9 = (-5)) : ∃ orc vc, (run (cfgW Tryd.prog (tblF12 (-5) 4 VQ Bv T (RB 4) RO) [] orc W.cell? noLoop [] noYield) 8 Tryd.f12 (Args.tvs (A := A) (Γ := GA (Rs 32 × Int × UInt64 × Unit)) (g, (), (), ()) ⟨(⟨l⟩, k, ix, ())⟩) []).map (retOf (R := Bool)) = some (some true, vc) ∧ All vc := by
  obtain ⟨f1, f2, f3⟩ := hF l ix 4 16 15 hl (by decide) (by decide) (by decide)
  cases hlt : decide (((atM 15 ix).toNat : Int) < ((cvU (mP l 16 : Int)).toNat : Int)) with
  | true =>
    have el : leafV l (atM 15 ix) (mP l 16) = elL l (atM 15 ix).toNat := by unfold leafV; rw [hlt]
    rw [el] at f2 f3
    have hm : mP l 16 ≤ l.length := by rw [(hP_ok l 16).2.2]; exact Nat.min_le_left _ _
    have hlt' : (atM 15 ix).toNat < mP l 16 := by have h := of_decide_eq_true hlt; rw [cvU_nat' (i := mP l 16) (by omega)] at h; omega
    have ra : Reads W.cell? g.a (rsAt (l := l)) ((atM 15 ix).toNat * 32) 32 := reads_rows (n := 32) hG (by omega)
    have ia : IX ((atM 15 ix).toNat : Int) (mP l 16) := ⟨by omega, by omega⟩
    cases he : ((ix.toNat : Int) == ((atM 15 ix).toNat : Int)) with
    | true =>
      rw [he] at f3
      exact ⟨saysY [(36, false)], (((ix.toNat : Int) == ((atM 15 ix).toNat : Int)) = true) :: (VQ (elL l (atM 15 ix).toNat) (T (lM l (mP l 16)) 4).f (lC (Bv (lC l) ix 4)) ix = true) :: vcM W g l ix VQ Bv T 4 16 15 (elL l (atM 15 ix).toNat) (Reads W.cell? g.a (rsAt l) ((atM 15 ix).toNat * 32) 32 :: IX ((atM 15 ix).toNat : Int) (mP l 16) :: (decide (((atM 15 ix).toNat : Int) < ((cvU (mP l 16 : Int)).toNat : Int)) = true) :: vcT W g l k ix Bv (RB 4) RO (-5) 4 16), by kernel_rfl, he, f3, vcM_all hr hG hl (by decide) hB f2 ⟨ra, ia, hlt, vcT_all hr hG hl (by decide) hB (hRB 4) hz h60 f1⟩⟩
    | false =>
      rw [he] at f3
      exact ⟨saysY [(36, false), (73, false), (76, false)], (((ix.toNat : Int) == ((atM 15 ix).toNat : Int)) = false) :: (VQ (elL l (atM 15 ix).toNat) (T (lM l (mP l 16)) 4).f (lC (Bv (lC l) ix 4)) ix = false) :: vcM W g l ix VQ Bv T 4 16 15 (elL l (atM 15 ix).toNat) (Reads W.cell? g.a (rsAt l) ((atM 15 ix).toNat * 32) 32 :: IX ((atM 15 ix).toNat : Int) (mP l 16) :: (decide (((atM 15 ix).toNat : Int) < ((cvU (mP l 16 : Int)).toNat : Int)) = true) :: vcT W g l k ix Bv (RB 4) RO (-5) 4 16), by kernel_rfl, he, f3, vcM_all hr hG hl (by decide) hB f2 ⟨ra, ia, hlt, vcT_all hr hG hl (by decide) hB (hRB 4) hz h60 f1⟩⟩
  | false =>
    have el : leafV l (atM 15 ix) (mP l 16) = zR.f := by unfold leafV; rw [hlt]
    rw [el] at f2 f3
    cases he : ((ix.toNat : Int) == ((atM 15 ix).toNat : Int)) with
    | true =>
      rw [he] at f3
      exact ⟨saysY [(36, false), (54, false)], (((ix.toNat : Int) == ((atM 15 ix).toNat : Int)) = true) :: (VQ zR.f (T (lM l (mP l 16)) 4).f (lC (Bv (lC l) ix 4)) ix = true) :: vcM W g l ix VQ Bv T 4 16 15 zR.f ((decide (((atM 15 ix).toNat : Int) < ((cvU (mP l 16 : Int)).toNat : Int)) = false) :: vcT W g l k ix Bv (RB 4) RO (-5) 4 16), by kernel_rfl, he, f3, vcM_all hr hG hl (by decide) hB f2 ⟨hlt, vcT_all hr hG hl (by decide) hB (hRB 4) hz h60 f1⟩⟩
    | false =>
      rw [he] at f3
      exact ⟨saysY [(36, false), (54, false), (73, false), (76, false)], (((ix.toNat : Int) == ((atM 15 ix).toNat : Int)) = false) :: (VQ zR.f (T (lM l (mP l 16)) 4).f (lC (Bv (lC l) ix 4)) ix = false) :: vcM W g l ix VQ Bv T 4 16 15 zR.f ((decide (((atM 15 ix).toNat : Int) < ((cvU (mP l 16 : Int)).toNat : Int)) = false) :: vcT W g l k ix Bv (RB 4) RO (-5) 4 16), by kernel_rfl, he, f3, vcM_all hr hG hl (by decide) hB f2 ⟨hlt, vcT_all hr hG hl (by decide) hB (hRB 4) hz h60 f1⟩⟩
theorem mb_n4 (hz : k.tmod 9 = (-4)) : ∃ orc vc, (run (cfgW Tryd.prog (tblF12 (-4) 5 VQ Bv T (RB 5) RO) [] orc W.cell? noLoop [] noYield) 8 Tryd.f12 (Args.tvs (A := A) (Γ := GA (Rs 32 × Int × UInt64 × Unit)) (g, (), (), ()) ⟨(⟨l⟩, k, ix, ())⟩) []).map (retOf (R := Bool)) = some (some true, vc) ∧ All vc := by
  obtain ⟨f1, f2, f3⟩ := hF l ix 5 32 31 hl (by decide) (by decide) (by decide)
  cases hlt : decide (((atM 31 ix).toNat : Int) < ((cvU (mP l 32 : Int)).toNat : Int)) with
  | true =>
    have el : leafV l (atM 31 ix) (mP l 32) = elL l (atM 31 ix).toNat := by unfold leafV; rw [hlt]
    rw [el] at f2 f3
    have hm : mP l 32 ≤ l.length := by rw [(hP_ok l 32).2.2]; exact Nat.min_le_left _ _
    have hlt' : (atM 31 ix).toNat < mP l 32 := by have h := of_decide_eq_true hlt; rw [cvU_nat' (i := mP l 32) (by omega)] at h; omega
    have ra : Reads W.cell? g.a (rsAt (l := l)) ((atM 31 ix).toNat * 32) 32 := reads_rows (n := 32) hG (by omega)
    have ia : IX ((atM 31 ix).toNat : Int) (mP l 32) := ⟨by omega, by omega⟩
    cases he : ((ix.toNat : Int) == ((atM 31 ix).toNat : Int)) with
    | true =>
      rw [he] at f3
      exact ⟨saysY [(36, false)], (((ix.toNat : Int) == ((atM 31 ix).toNat : Int)) = true) :: (VQ (elL l (atM 31 ix).toNat) (T (lM l (mP l 32)) 5).f (lC (Bv (lC l) ix 5)) ix = true) :: vcM W g l ix VQ Bv T 5 32 31 (elL l (atM 31 ix).toNat) (Reads W.cell? g.a (rsAt l) ((atM 31 ix).toNat * 32) 32 :: IX ((atM 31 ix).toNat : Int) (mP l 32) :: (decide (((atM 31 ix).toNat : Int) < ((cvU (mP l 32 : Int)).toNat : Int)) = true) :: vcT W g l k ix Bv (RB 5) RO (-4) 5 32), by kernel_rfl, he, f3, vcM_all hr hG hl (by decide) hB f2 ⟨ra, ia, hlt, vcT_all hr hG hl (by decide) hB (hRB 5) hz h60 f1⟩⟩
    | false =>
      rw [he] at f3
      exact ⟨saysY [(36, false), (73, false), (76, false)], (((ix.toNat : Int) == ((atM 31 ix).toNat : Int)) = false) :: (VQ (elL l (atM 31 ix).toNat) (T (lM l (mP l 32)) 5).f (lC (Bv (lC l) ix 5)) ix = false) :: vcM W g l ix VQ Bv T 5 32 31 (elL l (atM 31 ix).toNat) (Reads W.cell? g.a (rsAt l) ((atM 31 ix).toNat * 32) 32 :: IX ((atM 31 ix).toNat : Int) (mP l 32) :: (decide (((atM 31 ix).toNat : Int) < ((cvU (mP l 32 : Int)).toNat : Int)) = true) :: vcT W g l k ix Bv (RB 5) RO (-4) 5 32), by kernel_rfl, he, f3, vcM_all hr hG hl (by decide) hB f2 ⟨ra, ia, hlt, vcT_all hr hG hl (by decide) hB (hRB 5) hz h60 f1⟩⟩
  | false =>
    have el : leafV l (atM 31 ix) (mP l 32) = zR.f := by unfold leafV; rw [hlt]
    rw [el] at f2 f3
    cases he : ((ix.toNat : Int) == ((atM 31 ix).toNat : Int)) with
    | true =>
      rw [he] at f3
      exact ⟨saysY [(36, false), (54, false)], (((ix.toNat : Int) == ((atM 31 ix).toNat : Int)) = true) :: (VQ zR.f (T (lM l (mP l 32)) 5).f (lC (Bv (lC l) ix 5)) ix = true) :: vcM W g l ix VQ Bv T 5 32 31 zR.f ((decide (((atM 31 ix).toNat : Int) < ((cvU (mP l 32 : Int)).toNat : Int)) = false) :: vcT W g l k ix Bv (RB 5) RO (-4) 5 32), by kernel_rfl, he, f3, vcM_all hr hG hl (by decide) hB f2 ⟨hlt, vcT_all hr hG hl (by decide) hB (hRB 5) hz h60 f1⟩⟩
    | false =>
      rw [he] at f3
      exact ⟨saysY [(36, false), (54, false), (73, false), (76, false)], (((ix.toNat : Int) == ((atM 31 ix).toNat : Int)) = false) :: (VQ zR.f (T (lM l (mP l 32)) 5).f (lC (Bv (lC l) ix 5)) ix = false) :: vcM W g l ix VQ Bv T 5 32 31 zR.f ((decide (((atM 31 ix).toNat : Int) < ((cvU (mP l 32 : Int)).toNat : Int)) = false) :: vcT W g l k ix Bv (RB 5) RO (-4) 5 32), by kernel_rfl, he, f3, vcM_all hr hG hl (by decide) hB f2 ⟨hlt, vcT_all hr hG hl (by decide) hB (hRB 5) hz h60 f1⟩⟩
theorem mb_n3 (hz : k.tmod 9 = (-3)) : ∃ orc vc, (run (cfgW Tryd.prog (tblF12 (-3) 6 VQ Bv T (RB 6) RO) [] orc W.cell? noLoop [] noYield) 8 Tryd.f12 (Args.tvs (A := A) (Γ := GA (Rs 32 × Int × UInt64 × Unit)) (g, (), (), ()) ⟨(⟨l⟩, k, ix, ())⟩) []).map (retOf (R := Bool)) = some (some true, vc) ∧ All vc := by
  obtain ⟨f1, f2, f3⟩ := hF l ix 6 64 63 hl (by decide) (by decide) (by decide)
  cases hlt : decide (((atM 63 ix).toNat : Int) < ((cvU (mP l 64 : Int)).toNat : Int)) with
  | true =>
    have el : leafV l (atM 63 ix) (mP l 64) = elL l (atM 63 ix).toNat := by unfold leafV; rw [hlt]
    rw [el] at f2 f3
    have hm : mP l 64 ≤ l.length := by rw [(hP_ok l 64).2.2]; exact Nat.min_le_left _ _
    have hlt' : (atM 63 ix).toNat < mP l 64 := by have h := of_decide_eq_true hlt; rw [cvU_nat' (i := mP l 64) (by omega)] at h; omega
    have ra : Reads W.cell? g.a (rsAt (l := l)) ((atM 63 ix).toNat * 32) 32 := reads_rows (n := 32) hG (by omega)
    have ia : IX ((atM 63 ix).toNat : Int) (mP l 64) := ⟨by omega, by omega⟩
    cases he : ((ix.toNat : Int) == ((atM 63 ix).toNat : Int)) with
    | true =>
      rw [he] at f3
      exact ⟨saysY [(36, false)], (((ix.toNat : Int) == ((atM 63 ix).toNat : Int)) = true) :: (VQ (elL l (atM 63 ix).toNat) (T (lM l (mP l 64)) 6).f (lC (Bv (lC l) ix 6)) ix = true) :: vcM W g l ix VQ Bv T 6 64 63 (elL l (atM 63 ix).toNat) (Reads W.cell? g.a (rsAt l) ((atM 63 ix).toNat * 32) 32 :: IX ((atM 63 ix).toNat : Int) (mP l 64) :: (decide (((atM 63 ix).toNat : Int) < ((cvU (mP l 64 : Int)).toNat : Int)) = true) :: vcT W g l k ix Bv (RB 6) RO (-3) 6 64), by kernel_rfl, he, f3, vcM_all hr hG hl (by decide) hB f2 ⟨ra, ia, hlt, vcT_all hr hG hl (by decide) hB (hRB 6) hz h60 f1⟩⟩
    | false =>
      rw [he] at f3
      exact ⟨saysY [(36, false), (73, false), (76, false)], (((ix.toNat : Int) == ((atM 63 ix).toNat : Int)) = false) :: (VQ (elL l (atM 63 ix).toNat) (T (lM l (mP l 64)) 6).f (lC (Bv (lC l) ix 6)) ix = false) :: vcM W g l ix VQ Bv T 6 64 63 (elL l (atM 63 ix).toNat) (Reads W.cell? g.a (rsAt l) ((atM 63 ix).toNat * 32) 32 :: IX ((atM 63 ix).toNat : Int) (mP l 64) :: (decide (((atM 63 ix).toNat : Int) < ((cvU (mP l 64 : Int)).toNat : Int)) = true) :: vcT W g l k ix Bv (RB 6) RO (-3) 6 64), by kernel_rfl, he, f3, vcM_all hr hG hl (by decide) hB f2 ⟨ra, ia, hlt, vcT_all hr hG hl (by decide) hB (hRB 6) hz h60 f1⟩⟩
  | false =>
    have el : leafV l (atM 63 ix) (mP l 64) = zR.f := by unfold leafV; rw [hlt]
    rw [el] at f2 f3
    cases he : ((ix.toNat : Int) == ((atM 63 ix).toNat : Int)) with
    | true =>
      rw [he] at f3
      exact ⟨saysY [(36, false), (54, false)], (((ix.toNat : Int) == ((atM 63 ix).toNat : Int)) = true) :: (VQ zR.f (T (lM l (mP l 64)) 6).f (lC (Bv (lC l) ix 6)) ix = true) :: vcM W g l ix VQ Bv T 6 64 63 zR.f ((decide (((atM 63 ix).toNat : Int) < ((cvU (mP l 64 : Int)).toNat : Int)) = false) :: vcT W g l k ix Bv (RB 6) RO (-3) 6 64), by kernel_rfl, he, f3, vcM_all hr hG hl (by decide) hB f2 ⟨hlt, vcT_all hr hG hl (by decide) hB (hRB 6) hz h60 f1⟩⟩
    | false =>
      rw [he] at f3
      exact ⟨saysY [(36, false), (54, false), (73, false), (76, false)], (((ix.toNat : Int) == ((atM 63 ix).toNat : Int)) = false) :: (VQ zR.f (T (lM l (mP l 64)) 6).f (lC (Bv (lC l) ix 6)) ix = false) :: vcM W g l ix VQ Bv T 6 64 63 zR.f ((decide (((atM 63 ix).toNat : Int) < ((cvU (mP l 64 : Int)).toNat : Int)) = false) :: vcT W g l k ix Bv (RB 6) RO (-3) 6 64), by kernel_rfl, he, f3, vcM_all hr hG hl (by decide) hB f2 ⟨hlt, vcT_all hr hG hl (by decide) hB (hRB 6) hz h60 f1⟩⟩
theorem mb_n2 (hz : k.tmod 9 = (-2)) : ∃ orc vc, (run (cfgW Tryd.prog (tblF12 (-2) 7 VQ Bv T (RB 7) RO) [] orc W.cell? noLoop [] noYield) 8 Tryd.f12 (Args.tvs (A := A) (Γ := GA (Rs 32 × Int × UInt64 × Unit)) (g, (), (), ()) ⟨(⟨l⟩, k, ix, ())⟩) []).map (retOf (R := Bool)) = some (some true, vc) ∧ All vc := by
  obtain ⟨f1, f2, f3⟩ := hF l ix 7 128 127 hl (by decide) (by decide) (by decide)
  cases hlt : decide (((atM 127 ix).toNat : Int) < ((cvU (mP l 128 : Int)).toNat : Int)) with
  | true =>
    have el : leafV l (atM 127 ix) (mP l 128) = elL l (atM 127 ix).toNat := by unfold leafV; rw [hlt]
    rw [el] at f2 f3
    have hm : mP l 128 ≤ l.length := by rw [(hP_ok l 128).2.2]; exact Nat.min_le_left _ _
    have hlt' : (atM 127 ix).toNat < mP l 128 := by have h := of_decide_eq_true hlt; rw [cvU_nat' (i := mP l 128) (by omega)] at h; omega
    have ra : Reads W.cell? g.a (rsAt (l := l)) ((atM 127 ix).toNat * 32) 32 := reads_rows (n := 32) hG (by omega)
    have ia : IX ((atM 127 ix).toNat : Int) (mP l 128) := ⟨by omega, by omega⟩
    cases he : ((ix.toNat : Int) == ((atM 127 ix).toNat : Int)) with
    | true =>
      rw [he] at f3
      exact ⟨saysY [(36, false)], (((ix.toNat : Int) == ((atM 127 ix).toNat : Int)) = true) :: (VQ (elL l (atM 127 ix).toNat) (T (lM l (mP l 128)) 7).f (lC (Bv (lC l) ix 7)) ix = true) :: vcM W g l ix VQ Bv T 7 128 127 (elL l (atM 127 ix).toNat) (Reads W.cell? g.a (rsAt l) ((atM 127 ix).toNat * 32) 32 :: IX ((atM 127 ix).toNat : Int) (mP l 128) :: (decide (((atM 127 ix).toNat : Int) < ((cvU (mP l 128 : Int)).toNat : Int)) = true) :: vcT W g l k ix Bv (RB 7) RO (-2) 7 128), by kernel_rfl, he, f3, vcM_all hr hG hl (by decide) hB f2 ⟨ra, ia, hlt, vcT_all hr hG hl (by decide) hB (hRB 7) hz h60 f1⟩⟩
    | false =>
      rw [he] at f3
      exact ⟨saysY [(36, false), (73, false), (76, false)], (((ix.toNat : Int) == ((atM 127 ix).toNat : Int)) = false) :: (VQ (elL l (atM 127 ix).toNat) (T (lM l (mP l 128)) 7).f (lC (Bv (lC l) ix 7)) ix = false) :: vcM W g l ix VQ Bv T 7 128 127 (elL l (atM 127 ix).toNat) (Reads W.cell? g.a (rsAt l) ((atM 127 ix).toNat * 32) 32 :: IX ((atM 127 ix).toNat : Int) (mP l 128) :: (decide (((atM 127 ix).toNat : Int) < ((cvU (mP l 128 : Int)).toNat : Int)) = true) :: vcT W g l k ix Bv (RB 7) RO (-2) 7 128), by kernel_rfl, he, f3, vcM_all hr hG hl (by decide) hB f2 ⟨ra, ia, hlt, vcT_all hr hG hl (by decide) hB (hRB 7) hz h60 f1⟩⟩
  | false =>
    have el : leafV l (atM 127 ix) (mP l 128) = zR.f := by unfold leafV; rw [hlt]
    rw [el] at f2 f3
    cases he : ((ix.toNat : Int) == ((atM 127 ix).toNat : Int)) with
    | true =>
      rw [he] at f3
      exact ⟨saysY [(36, false), (54, false)], (((ix.toNat : Int) == ((atM 127 ix).toNat : Int)) = true) :: (VQ zR.f (T (lM l (mP l 128)) 7).f (lC (Bv (lC l) ix 7)) ix = true) :: vcM W g l ix VQ Bv T 7 128 127 zR.f ((decide (((atM 127 ix).toNat : Int) < ((cvU (mP l 128 : Int)).toNat : Int)) = false) :: vcT W g l k ix Bv (RB 7) RO (-2) 7 128), by kernel_rfl, he, f3, vcM_all hr hG hl (by decide) hB f2 ⟨hlt, vcT_all hr hG hl (by decide) hB (hRB 7) hz h60 f1⟩⟩
    | false =>
      rw [he] at f3
      exact ⟨saysY [(36, false), (54, false), (73, false), (76, false)], (((ix.toNat : Int) == ((atM 127 ix).toNat : Int)) = false) :: (VQ zR.f (T (lM l (mP l 128)) 7).f (lC (Bv (lC l) ix 7)) ix = false) :: vcM W g l ix VQ Bv T 7 128 127 zR.f ((decide (((atM 127 ix).toNat : Int) < ((cvU (mP l 128 : Int)).toNat : Int)) = false) :: vcT W g l k ix Bv (RB 7) RO (-2) 7 128), by kernel_rfl, he, f3, vcM_all hr hG hl (by decide) hB f2 ⟨hlt, vcT_all hr hG hl (by decide) hB (hRB 7) hz h60 f1⟩⟩
theorem mb_n1 (hz : k.tmod 9 = (-1)) : ∃ orc vc, (run (cfgW Tryd.prog (tblF12 (-1) 8 VQ Bv T (RB 8) RO) [] orc W.cell? noLoop [] noYield) 8 Tryd.f12 (Args.tvs (A := A) (Γ := GA (Rs 32 × Int × UInt64 × Unit)) (g, (), (), ()) ⟨(⟨l⟩, k, ix, ())⟩) []).map (retOf (R := Bool)) = some (some true, vc) ∧ All vc := by
  obtain ⟨f1, f2, f3⟩ := hF l ix 8 256 255 hl (by decide) (by decide) (by decide)
  cases hlt : decide (((atM 255 ix).toNat : Int) < ((cvU (mP l 256 : Int)).toNat : Int)) with
  | true =>
    have el : leafV l (atM 255 ix) (mP l 256) = elL l (atM 255 ix).toNat := by unfold leafV; rw [hlt]
    rw [el] at f2 f3
    have hm : mP l 256 ≤ l.length := by rw [(hP_ok l 256).2.2]; exact Nat.min_le_left _ _
    have hlt' : (atM 255 ix).toNat < mP l 256 := by have h := of_decide_eq_true hlt; rw [cvU_nat' (i := mP l 256) (by omega)] at h; omega
    have ra : Reads W.cell? g.a (rsAt (l := l)) ((atM 255 ix).toNat * 32) 32 := reads_rows (n := 32) hG (by omega)
    have ia : IX ((atM 255 ix).toNat : Int) (mP l 256) := ⟨by omega, by omega⟩
    cases he : ((ix.toNat : Int) == ((atM 255 ix).toNat : Int)) with
    | true =>
      rw [he] at f3
      exact ⟨saysY [(36, false)], (((ix.toNat : Int) == ((atM 255 ix).toNat : Int)) = true) :: (VQ (elL l (atM 255 ix).toNat) (T (lM l (mP l 256)) 8).f (lC (Bv (lC l) ix 8)) ix = true) :: vcM W g l ix VQ Bv T 8 256 255 (elL l (atM 255 ix).toNat) (Reads W.cell? g.a (rsAt l) ((atM 255 ix).toNat * 32) 32 :: IX ((atM 255 ix).toNat : Int) (mP l 256) :: (decide (((atM 255 ix).toNat : Int) < ((cvU (mP l 256 : Int)).toNat : Int)) = true) :: vcT W g l k ix Bv (RB 8) RO (-1) 8 256), by kernel_rfl, he, f3, vcM_all hr hG hl (by decide) hB f2 ⟨ra, ia, hlt, vcT_all hr hG hl (by decide) hB (hRB 8) hz h60 f1⟩⟩
    | false =>
      rw [he] at f3
      exact ⟨saysY [(36, false), (73, false), (76, false)], (((ix.toNat : Int) == ((atM 255 ix).toNat : Int)) = false) :: (VQ (elL l (atM 255 ix).toNat) (T (lM l (mP l 256)) 8).f (lC (Bv (lC l) ix 8)) ix = false) :: vcM W g l ix VQ Bv T 8 256 255 (elL l (atM 255 ix).toNat) (Reads W.cell? g.a (rsAt l) ((atM 255 ix).toNat * 32) 32 :: IX ((atM 255 ix).toNat : Int) (mP l 256) :: (decide (((atM 255 ix).toNat : Int) < ((cvU (mP l 256 : Int)).toNat : Int)) = true) :: vcT W g l k ix Bv (RB 8) RO (-1) 8 256), by kernel_rfl, he, f3, vcM_all hr hG hl (by decide) hB f2 ⟨ra, ia, hlt, vcT_all hr hG hl (by decide) hB (hRB 8) hz h60 f1⟩⟩
  | false =>
    have el : leafV l (atM 255 ix) (mP l 256) = zR.f := by unfold leafV; rw [hlt]
    rw [el] at f2 f3
    cases he : ((ix.toNat : Int) == ((atM 255 ix).toNat : Int)) with
    | true =>
      rw [he] at f3
      exact ⟨saysY [(36, false), (54, false)], (((ix.toNat : Int) == ((atM 255 ix).toNat : Int)) = true) :: (VQ zR.f (T (lM l (mP l 256)) 8).f (lC (Bv (lC l) ix 8)) ix = true) :: vcM W g l ix VQ Bv T 8 256 255 zR.f ((decide (((atM 255 ix).toNat : Int) < ((cvU (mP l 256 : Int)).toNat : Int)) = false) :: vcT W g l k ix Bv (RB 8) RO (-1) 8 256), by kernel_rfl, he, f3, vcM_all hr hG hl (by decide) hB f2 ⟨hlt, vcT_all hr hG hl (by decide) hB (hRB 8) hz h60 f1⟩⟩
    | false =>
      rw [he] at f3
      exact ⟨saysY [(36, false), (54, false), (73, false), (76, false)], (((ix.toNat : Int) == ((atM 255 ix).toNat : Int)) = false) :: (VQ zR.f (T (lM l (mP l 256)) 8).f (lC (Bv (lC l) ix 8)) ix = false) :: vcM W g l ix VQ Bv T 8 256 255 zR.f ((decide (((atM 255 ix).toNat : Int) < ((cvU (mP l 256 : Int)).toNat : Int)) = false) :: vcT W g l k ix Bv (RB 8) RO (-1) 8 256), by kernel_rfl, he, f3, vcM_all hr hG hl (by decide) hB f2 ⟨hlt, vcT_all hr hG hl (by decide) hB (hRB 8) hz h60 f1⟩⟩
theorem mb_p0 (hz : k.tmod 9 = 0) : ∃ orc vc, (run (cfgW Tryd.prog (tblF12 0 0 VQ Bv T (RB 0) RO) [] orc W.cell? noLoop [] noYield) 8 Tryd.f12 (Args.tvs (A := A) (Γ := GA (Rs 32 × Int × UInt64 × Unit)) (g, (), (), ()) ⟨(⟨l⟩, k, ix, ())⟩) []).map (retOf (R := Bool)) = some (some true, vc) ∧ All vc := by
  obtain ⟨f1, f2, f3⟩ := hF l ix 0 1 0 hl (by decide) (by decide) (by decide)
  cases hlt : decide (((atM 0 ix).toNat : Int) < ((cvU (mP l 1 : Int)).toNat : Int)) with
  | true =>
    have el : leafV l (atM 0 ix) (mP l 1) = elL l (atM 0 ix).toNat := by unfold leafV; rw [hlt]
    rw [el] at f2 f3
    have hm : mP l 1 ≤ l.length := by rw [(hP_ok l 1).2.2]; exact Nat.min_le_left _ _
    have hlt' : (atM 0 ix).toNat < mP l 1 := by have h := of_decide_eq_true hlt; rw [cvU_nat' (i := mP l 1) (by omega)] at h; omega
    have ra : Reads W.cell? g.a (rsAt (l := l)) ((atM 0 ix).toNat * 32) 32 := reads_rows (n := 32) hG (by omega)
    have ia : IX ((atM 0 ix).toNat : Int) (mP l 1) := ⟨by omega, by omega⟩
    cases he : ((ix.toNat : Int) == ((atM 0 ix).toNat : Int)) with
    | true =>
      rw [he] at f3
      exact ⟨saysY [(36, false)], (((ix.toNat : Int) == ((atM 0 ix).toNat : Int)) = true) :: (VQ (elL l (atM 0 ix).toNat) (T (lM l (mP l 1)) 0).f (lC (Bv (lC l) ix 0)) ix = true) :: vcM W g l ix VQ Bv T 0 1 0 (elL l (atM 0 ix).toNat) (Reads W.cell? g.a (rsAt l) ((atM 0 ix).toNat * 32) 32 :: IX ((atM 0 ix).toNat : Int) (mP l 1) :: (decide (((atM 0 ix).toNat : Int) < ((cvU (mP l 1 : Int)).toNat : Int)) = true) :: vcT W g l k ix Bv (RB 0) RO 0 0 1), by kernel_rfl, he, f3, vcM_all hr hG hl (by decide) hB f2 ⟨ra, ia, hlt, vcT_all hr hG hl (by decide) hB (hRB 0) hz h60 f1⟩⟩
    | false =>
      rw [he] at f3
      exact ⟨saysY [(36, false), (73, false), (76, false)], (((ix.toNat : Int) == ((atM 0 ix).toNat : Int)) = false) :: (VQ (elL l (atM 0 ix).toNat) (T (lM l (mP l 1)) 0).f (lC (Bv (lC l) ix 0)) ix = false) :: vcM W g l ix VQ Bv T 0 1 0 (elL l (atM 0 ix).toNat) (Reads W.cell? g.a (rsAt l) ((atM 0 ix).toNat * 32) 32 :: IX ((atM 0 ix).toNat : Int) (mP l 1) :: (decide (((atM 0 ix).toNat : Int) < ((cvU (mP l 1 : Int)).toNat : Int)) = true) :: vcT W g l k ix Bv (RB 0) RO 0 0 1), by kernel_rfl, he, f3, vcM_all hr hG hl (by decide) hB f2 ⟨ra, ia, hlt, vcT_all hr hG hl (by decide) hB (hRB 0) hz h60 f1⟩⟩
  | false =>
    have el : leafV l (atM 0 ix) (mP l 1) = zR.f := by unfold leafV; rw [hlt]
    rw [el] at f2 f3
    cases he : ((ix.toNat : Int) == ((atM 0 ix).toNat : Int)) with
    | true =>
      rw [he] at f3
      exact ⟨saysY [(36, false), (54, false)], (((ix.toNat : Int) == ((atM 0 ix).toNat : Int)) = true) :: (VQ zR.f (T (lM l (mP l 1)) 0).f (lC (Bv (lC l) ix 0)) ix = true) :: vcM W g l ix VQ Bv T 0 1 0 zR.f ((decide (((atM 0 ix).toNat : Int) < ((cvU (mP l 1 : Int)).toNat : Int)) = false) :: vcT W g l k ix Bv (RB 0) RO 0 0 1), by kernel_rfl, he, f3, vcM_all hr hG hl (by decide) hB f2 ⟨hlt, vcT_all hr hG hl (by decide) hB (hRB 0) hz h60 f1⟩⟩
    | false =>
      rw [he] at f3
      exact ⟨saysY [(36, false), (54, false), (73, false), (76, false)], (((ix.toNat : Int) == ((atM 0 ix).toNat : Int)) = false) :: (VQ zR.f (T (lM l (mP l 1)) 0).f (lC (Bv (lC l) ix 0)) ix = false) :: vcM W g l ix VQ Bv T 0 1 0 zR.f ((decide (((atM 0 ix).toNat : Int) < ((cvU (mP l 1 : Int)).toNat : Int)) = false) :: vcT W g l k ix Bv (RB 0) RO 0 0 1), by kernel_rfl, he, f3, vcM_all hr hG hl (by decide) hB f2 ⟨hlt, vcT_all hr hG hl (by decide) hB (hRB 0) hz h60 f1⟩⟩
theorem mb_p1 (hz : k.tmod 9 = 1) : ∃ orc vc, (run (cfgW Tryd.prog (tblF12 1 1 VQ Bv T (RB 1) RO) [] orc W.cell? noLoop [] noYield) 8 Tryd.f12 (Args.tvs (A := A) (Γ := GA (Rs 32 × Int × UInt64 × Unit)) (g, (), (), ()) ⟨(⟨l⟩, k, ix, ())⟩) []).map (retOf (R := Bool)) = some (some true, vc) ∧ All vc := by
  obtain ⟨f1, f2, f3⟩ := hF l ix 1 2 1 hl (by decide) (by decide) (by decide)
  cases hlt : decide (((atM 1 ix).toNat : Int) < ((cvU (mP l 2 : Int)).toNat : Int)) with
  | true =>
    have el : leafV l (atM 1 ix) (mP l 2) = elL l (atM 1 ix).toNat := by unfold leafV; rw [hlt]
    rw [el] at f2 f3
    have hm : mP l 2 ≤ l.length := by rw [(hP_ok l 2).2.2]; exact Nat.min_le_left _ _
    have hlt' : (atM 1 ix).toNat < mP l 2 := by have h := of_decide_eq_true hlt; rw [cvU_nat' (i := mP l 2) (by omega)] at h; omega
    have ra : Reads W.cell? g.a (rsAt (l := l)) ((atM 1 ix).toNat * 32) 32 := reads_rows (n := 32) hG (by omega)
    have ia : IX ((atM 1 ix).toNat : Int) (mP l 2) := ⟨by omega, by omega⟩
    cases he : ((ix.toNat : Int) == ((atM 1 ix).toNat : Int)) with
    | true =>
      rw [he] at f3
      exact ⟨saysY [(36, false)], (((ix.toNat : Int) == ((atM 1 ix).toNat : Int)) = true) :: (VQ (elL l (atM 1 ix).toNat) (T (lM l (mP l 2)) 1).f (lC (Bv (lC l) ix 1)) ix = true) :: vcM W g l ix VQ Bv T 1 2 1 (elL l (atM 1 ix).toNat) (Reads W.cell? g.a (rsAt l) ((atM 1 ix).toNat * 32) 32 :: IX ((atM 1 ix).toNat : Int) (mP l 2) :: (decide (((atM 1 ix).toNat : Int) < ((cvU (mP l 2 : Int)).toNat : Int)) = true) :: vcT W g l k ix Bv (RB 1) RO 1 1 2), by kernel_rfl, he, f3, vcM_all hr hG hl (by decide) hB f2 ⟨ra, ia, hlt, vcT_all hr hG hl (by decide) hB (hRB 1) hz h60 f1⟩⟩
    | false =>
      rw [he] at f3
      exact ⟨saysY [(36, false), (73, false), (76, false)], (((ix.toNat : Int) == ((atM 1 ix).toNat : Int)) = false) :: (VQ (elL l (atM 1 ix).toNat) (T (lM l (mP l 2)) 1).f (lC (Bv (lC l) ix 1)) ix = false) :: vcM W g l ix VQ Bv T 1 2 1 (elL l (atM 1 ix).toNat) (Reads W.cell? g.a (rsAt l) ((atM 1 ix).toNat * 32) 32 :: IX ((atM 1 ix).toNat : Int) (mP l 2) :: (decide (((atM 1 ix).toNat : Int) < ((cvU (mP l 2 : Int)).toNat : Int)) = true) :: vcT W g l k ix Bv (RB 1) RO 1 1 2), by kernel_rfl, he, f3, vcM_all hr hG hl (by decide) hB f2 ⟨ra, ia, hlt, vcT_all hr hG hl (by decide) hB (hRB 1) hz h60 f1⟩⟩
  | false =>
    have el : leafV l (atM 1 ix) (mP l 2) = zR.f := by unfold leafV; rw [hlt]
    rw [el] at f2 f3
    cases he : ((ix.toNat : Int) == ((atM 1 ix).toNat : Int)) with
    | true =>
      rw [he] at f3
      exact ⟨saysY [(36, false), (54, false)], (((ix.toNat : Int) == ((atM 1 ix).toNat : Int)) = true) :: (VQ zR.f (T (lM l (mP l 2)) 1).f (lC (Bv (lC l) ix 1)) ix = true) :: vcM W g l ix VQ Bv T 1 2 1 zR.f ((decide (((atM 1 ix).toNat : Int) < ((cvU (mP l 2 : Int)).toNat : Int)) = false) :: vcT W g l k ix Bv (RB 1) RO 1 1 2), by kernel_rfl, he, f3, vcM_all hr hG hl (by decide) hB f2 ⟨hlt, vcT_all hr hG hl (by decide) hB (hRB 1) hz h60 f1⟩⟩
    | false =>
      rw [he] at f3
      exact ⟨saysY [(36, false), (54, false), (73, false), (76, false)], (((ix.toNat : Int) == ((atM 1 ix).toNat : Int)) = false) :: (VQ zR.f (T (lM l (mP l 2)) 1).f (lC (Bv (lC l) ix 1)) ix = false) :: vcM W g l ix VQ Bv T 1 2 1 zR.f ((decide (((atM 1 ix).toNat : Int) < ((cvU (mP l 2 : Int)).toNat : Int)) = false) :: vcT W g l k ix Bv (RB 1) RO 1 1 2), by kernel_rfl, he, f3, vcM_all hr hG hl (by decide) hB f2 ⟨hlt, vcT_all hr hG hl (by decide) hB (hRB 1) hz h60 f1⟩⟩
theorem mb_p2 (hz : k.tmod 9 = 2) : ∃ orc vc, (run (cfgW Tryd.prog (tblF12 2 2 VQ Bv T (RB 2) RO) [] orc W.cell? noLoop [] noYield) 8 Tryd.f12 (Args.tvs (A := A) (Γ := GA (Rs 32 × Int × UInt64 × Unit)) (g, (), (), ()) ⟨(⟨l⟩, k, ix, ())⟩) []).map (retOf (R := Bool)) = some (some true, vc) ∧ All vc := by
  obtain ⟨f1, f2, f3⟩ := hF l ix 2 4 3 hl (by decide) (by decide) (by decide)
  cases hlt : decide (((atM 3 ix).toNat : Int) < ((cvU (mP l 4 : Int)).toNat : Int)) with
  | true =>
    have el : leafV l (atM 3 ix) (mP l 4) = elL l (atM 3 ix).toNat := by unfold leafV; rw [hlt]
    rw [el] at f2 f3
    have hm : mP l 4 ≤ l.length := by rw [(hP_ok l 4).2.2]; exact Nat.min_le_left _ _
    have hlt' : (atM 3 ix).toNat < mP l 4 := by have h := of_decide_eq_true hlt; rw [cvU_nat' (i := mP l 4) (by omega)] at h; omega
    have ra : Reads W.cell? g.a (rsAt (l := l)) ((atM 3 ix).toNat * 32) 32 := reads_rows (n := 32) hG (by omega)
    have ia : IX ((atM 3 ix).toNat : Int) (mP l 4) := ⟨by omega, by omega⟩
    cases he : ((ix.toNat : Int) == ((atM 3 ix).toNat : Int)) with
    | true =>
      rw [he] at f3
      exact ⟨saysY [(36, false)], (((ix.toNat : Int) == ((atM 3 ix).toNat : Int)) = true) :: (VQ (elL l (atM 3 ix).toNat) (T (lM l (mP l 4)) 2).f (lC (Bv (lC l) ix 2)) ix = true) :: vcM W g l ix VQ Bv T 2 4 3 (elL l (atM 3 ix).toNat) (Reads W.cell? g.a (rsAt l) ((atM 3 ix).toNat * 32) 32 :: IX ((atM 3 ix).toNat : Int) (mP l 4) :: (decide (((atM 3 ix).toNat : Int) < ((cvU (mP l 4 : Int)).toNat : Int)) = true) :: vcT W g l k ix Bv (RB 2) RO 2 2 4), by kernel_rfl, he, f3, vcM_all hr hG hl (by decide) hB f2 ⟨ra, ia, hlt, vcT_all hr hG hl (by decide) hB (hRB 2) hz h60 f1⟩⟩
    | false =>
      rw [he] at f3
      exact ⟨saysY [(36, false), (73, false), (76, false)], (((ix.toNat : Int) == ((atM 3 ix).toNat : Int)) = false) :: (VQ (elL l (atM 3 ix).toNat) (T (lM l (mP l 4)) 2).f (lC (Bv (lC l) ix 2)) ix = false) :: vcM W g l ix VQ Bv T 2 4 3 (elL l (atM 3 ix).toNat) (Reads W.cell? g.a (rsAt l) ((atM 3 ix).toNat * 32) 32 :: IX ((atM 3 ix).toNat : Int) (mP l 4) :: (decide (((atM 3 ix).toNat : Int) < ((cvU (mP l 4 : Int)).toNat : Int)) = true) :: vcT W g l k ix Bv (RB 2) RO 2 2 4), by kernel_rfl, he, f3, vcM_all hr hG hl (by decide) hB f2 ⟨ra, ia, hlt, vcT_all hr hG hl (by decide) hB (hRB 2) hz h60 f1⟩⟩
  | false =>
    have el : leafV l (atM 3 ix) (mP l 4) = zR.f := by unfold leafV; rw [hlt]
    rw [el] at f2 f3
    cases he : ((ix.toNat : Int) == ((atM 3 ix).toNat : Int)) with
    | true =>
      rw [he] at f3
      exact ⟨saysY [(36, false), (54, false)], (((ix.toNat : Int) == ((atM 3 ix).toNat : Int)) = true) :: (VQ zR.f (T (lM l (mP l 4)) 2).f (lC (Bv (lC l) ix 2)) ix = true) :: vcM W g l ix VQ Bv T 2 4 3 zR.f ((decide (((atM 3 ix).toNat : Int) < ((cvU (mP l 4 : Int)).toNat : Int)) = false) :: vcT W g l k ix Bv (RB 2) RO 2 2 4), by kernel_rfl, he, f3, vcM_all hr hG hl (by decide) hB f2 ⟨hlt, vcT_all hr hG hl (by decide) hB (hRB 2) hz h60 f1⟩⟩
    | false =>
      rw [he] at f3
      exact ⟨saysY [(36, false), (54, false), (73, false), (76, false)], (((ix.toNat : Int) == ((atM 3 ix).toNat : Int)) = false) :: (VQ zR.f (T (lM l (mP l 4)) 2).f (lC (Bv (lC l) ix 2)) ix = false) :: vcM W g l ix VQ Bv T 2 4 3 zR.f ((decide (((atM 3 ix).toNat : Int) < ((cvU (mP l 4 : Int)).toNat : Int)) = false) :: vcT W g l k ix Bv (RB 2) RO 2 2 4), by kernel_rfl, he, f3, vcM_all hr hG hl (by decide) hB f2 ⟨hlt, vcT_all hr hG hl (by decide) hB (hRB 2) hz h60 f1⟩⟩
theorem mb_p3 (hz : k.tmod 9 = 3) : ∃ orc vc, (run (cfgW Tryd.prog (tblF12 3 3 VQ Bv T (RB 3) RO) [] orc W.cell? noLoop [] noYield) 8 Tryd.f12 (Args.tvs (A := A) (Γ := GA (Rs 32 × Int × UInt64 × Unit)) (g, (), (), ()) ⟨(⟨l⟩, k, ix, ())⟩) []).map (retOf (R := Bool)) = some (some true, vc) ∧ All vc := by
  obtain ⟨f1, f2, f3⟩ := hF l ix 3 8 7 hl (by decide) (by decide) (by decide)
  cases hlt : decide (((atM 7 ix).toNat : Int) < ((cvU (mP l 8 : Int)).toNat : Int)) with
  | true =>
    have el : leafV l (atM 7 ix) (mP l 8) = elL l (atM 7 ix).toNat := by unfold leafV; rw [hlt]
    rw [el] at f2 f3
    have hm : mP l 8 ≤ l.length := by rw [(hP_ok l 8).2.2]; exact Nat.min_le_left _ _
    have hlt' : (atM 7 ix).toNat < mP l 8 := by have h := of_decide_eq_true hlt; rw [cvU_nat' (i := mP l 8) (by omega)] at h; omega
    have ra : Reads W.cell? g.a (rsAt (l := l)) ((atM 7 ix).toNat * 32) 32 := reads_rows (n := 32) hG (by omega)
    have ia : IX ((atM 7 ix).toNat : Int) (mP l 8) := ⟨by omega, by omega⟩
    cases he : ((ix.toNat : Int) == ((atM 7 ix).toNat : Int)) with
    | true =>
      rw [he] at f3
      exact ⟨saysY [(36, false)], (((ix.toNat : Int) == ((atM 7 ix).toNat : Int)) = true) :: (VQ (elL l (atM 7 ix).toNat) (T (lM l (mP l 8)) 3).f (lC (Bv (lC l) ix 3)) ix = true) :: vcM W g l ix VQ Bv T 3 8 7 (elL l (atM 7 ix).toNat) (Reads W.cell? g.a (rsAt l) ((atM 7 ix).toNat * 32) 32 :: IX ((atM 7 ix).toNat : Int) (mP l 8) :: (decide (((atM 7 ix).toNat : Int) < ((cvU (mP l 8 : Int)).toNat : Int)) = true) :: vcT W g l k ix Bv (RB 3) RO 3 3 8), by kernel_rfl, he, f3, vcM_all hr hG hl (by decide) hB f2 ⟨ra, ia, hlt, vcT_all hr hG hl (by decide) hB (hRB 3) hz h60 f1⟩⟩
    | false =>
      rw [he] at f3
      exact ⟨saysY [(36, false), (73, false), (76, false)], (((ix.toNat : Int) == ((atM 7 ix).toNat : Int)) = false) :: (VQ (elL l (atM 7 ix).toNat) (T (lM l (mP l 8)) 3).f (lC (Bv (lC l) ix 3)) ix = false) :: vcM W g l ix VQ Bv T 3 8 7 (elL l (atM 7 ix).toNat) (Reads W.cell? g.a (rsAt l) ((atM 7 ix).toNat * 32) 32 :: IX ((atM 7 ix).toNat : Int) (mP l 8) :: (decide (((atM 7 ix).toNat : Int) < ((cvU (mP l 8 : Int)).toNat : Int)) = true) :: vcT W g l k ix Bv (RB 3) RO 3 3 8), by kernel_rfl, he, f3, vcM_all hr hG hl (by decide) hB f2 ⟨ra, ia, hlt, vcT_all hr hG hl (by decide) hB (hRB 3) hz h60 f1⟩⟩
  | false =>
    have el : leafV l (atM 7 ix) (mP l 8) = zR.f := by unfold leafV; rw [hlt]
    rw [el] at f2 f3
    cases he : ((ix.toNat : Int) == ((atM 7 ix).toNat : Int)) with
    | true =>
      rw [he] at f3
      exact ⟨saysY [(36, false), (54, false)], (((ix.toNat : Int) == ((atM 7 ix).toNat : Int)) = true) :: (VQ zR.f (T (lM l (mP l 8)) 3).f (lC (Bv (lC l) ix 3)) ix = true) :: vcM W g l ix VQ Bv T 3 8 7 zR.f ((decide (((atM 7 ix).toNat : Int) < ((cvU (mP l 8 : Int)).toNat : Int)) = false) :: vcT W g l k ix Bv (RB 3) RO 3 3 8), by kernel_rfl, he, f3, vcM_all hr hG hl (by decide) hB f2 ⟨hlt, vcT_all hr hG hl (by decide) hB (hRB 3) hz h60 f1⟩⟩
    | false =>
      rw [he] at f3
      exact ⟨saysY [(36, false), (54, false), (73, false), (76, false)], (((ix.toNat : Int) == ((atM 7 ix).toNat : Int)) = false) :: (VQ zR.f (T (lM l (mP l 8)) 3).f (lC (Bv (lC l) ix 3)) ix = false) :: vcM W g l ix VQ Bv T 3 8 7 zR.f ((decide (((atM 7 ix).toNat : Int) < ((cvU (mP l 8 : Int)).toNat : Int)) = false) :: vcT W g l k ix Bv (RB 3) RO 3 3 8), by kernel_rfl, he, f3, vcM_all hr hG hl (by decide) hB f2 ⟨hlt, vcT_all hr hG hl (by decide) hB (hRB 3) hz h60 f1⟩⟩
theorem mb_p4 (hz : k.tmod 9 = 4) : ∃ orc vc, (run (cfgW Tryd.prog (tblF12 4 4 VQ Bv T (RB 4) RO) [] orc W.cell? noLoop [] noYield) 8 Tryd.f12 (Args.tvs (A := A) (Γ := GA (Rs 32 × Int × UInt64 × Unit)) (g, (), (), ()) ⟨(⟨l⟩, k, ix, ())⟩) []).map (retOf (R := Bool)) = some (some true, vc) ∧ All vc := by
  obtain ⟨f1, f2, f3⟩ := hF l ix 4 16 15 hl (by decide) (by decide) (by decide)
  cases hlt : decide (((atM 15 ix).toNat : Int) < ((cvU (mP l 16 : Int)).toNat : Int)) with
  | true =>
    have el : leafV l (atM 15 ix) (mP l 16) = elL l (atM 15 ix).toNat := by unfold leafV; rw [hlt]
    rw [el] at f2 f3
    have hm : mP l 16 ≤ l.length := by rw [(hP_ok l 16).2.2]; exact Nat.min_le_left _ _
    have hlt' : (atM 15 ix).toNat < mP l 16 := by have h := of_decide_eq_true hlt; rw [cvU_nat' (i := mP l 16) (by omega)] at h; omega
    have ra : Reads W.cell? g.a (rsAt (l := l)) ((atM 15 ix).toNat * 32) 32 := reads_rows (n := 32) hG (by omega)
    have ia : IX ((atM 15 ix).toNat : Int) (mP l 16) := ⟨by omega, by omega⟩
    cases he : ((ix.toNat : Int) == ((atM 15 ix).toNat : Int)) with
    | true =>
      rw [he] at f3
      exact ⟨saysY [(36, false)], (((ix.toNat : Int) == ((atM 15 ix).toNat : Int)) = true) :: (VQ (elL l (atM 15 ix).toNat) (T (lM l (mP l 16)) 4).f (lC (Bv (lC l) ix 4)) ix = true) :: vcM W g l ix VQ Bv T 4 16 15 (elL l (atM 15 ix).toNat) (Reads W.cell? g.a (rsAt l) ((atM 15 ix).toNat * 32) 32 :: IX ((atM 15 ix).toNat : Int) (mP l 16) :: (decide (((atM 15 ix).toNat : Int) < ((cvU (mP l 16 : Int)).toNat : Int)) = true) :: vcT W g l k ix Bv (RB 4) RO 4 4 16), by kernel_rfl, he, f3, vcM_all hr hG hl (by decide) hB f2 ⟨ra, ia, hlt, vcT_all hr hG hl (by decide) hB (hRB 4) hz h60 f1⟩⟩
    | false =>
      rw [he] at f3
      exact ⟨saysY [(36, false), (73, false), (76, false)], (((ix.toNat : Int) == ((atM 15 ix).toNat : Int)) = false) :: (VQ (elL l (atM 15 ix).toNat) (T (lM l (mP l 16)) 4).f (lC (Bv (lC l) ix 4)) ix = false) :: vcM W g l ix VQ Bv T 4 16 15 (elL l (atM 15 ix).toNat) (Reads W.cell? g.a (rsAt l) ((atM 15 ix).toNat * 32) 32 :: IX ((atM 15 ix).toNat : Int) (mP l 16) :: (decide (((atM 15 ix).toNat : Int) < ((cvU (mP l 16 : Int)).toNat : Int)) = true) :: vcT W g l k ix Bv (RB 4) RO 4 4 16), by kernel_rfl, he, f3, vcM_all hr hG hl (by decide) hB f2 ⟨ra, ia, hlt, vcT_all hr hG hl (by decide) hB (hRB 4) hz h60 f1⟩⟩
  | false =>
    have el : leafV l (atM 15 ix) (mP l 16) = zR.f := by unfold leafV; rw [hlt]
    rw [el] at f2 f3
    cases he : ((ix.toNat : Int) == ((atM 15 ix).toNat : Int)) with
    | true =>
      rw [he] at f3
      exact ⟨saysY [(36, false), (54, false)], (((ix.toNat : Int) == ((atM 15 ix).toNat : Int)) = true) :: (VQ zR.f (T (lM l (mP l 16)) 4).f (lC (Bv (lC l) ix 4)) ix = true) :: vcM W g l ix VQ Bv T 4 16 15 zR.f ((decide (((atM 15 ix).toNat : Int) < ((cvU (mP l 16 : Int)).toNat : Int)) = false) :: vcT W g l k ix Bv (RB 4) RO 4 4 16), by kernel_rfl, he, f3, vcM_all hr hG hl (by decide) hB f2 ⟨hlt, vcT_all hr hG hl (by decide) hB (hRB 4) hz h60 f1⟩⟩
    | false =>
      rw [he] at f3
      exact ⟨saysY [(36, false), (54, false), (73, false), (76, false)], (((ix.toNat : Int) == ((atM 15 ix).toNat : Int)) = false) :: (VQ zR.f (T (lM l (mP l 16)) 4).f (lC (Bv (lC l) ix 4)) ix = false) :: vcM W g l ix VQ Bv T 4 16 15 zR.f ((decide (((atM 15 ix).toNat : Int) < ((cvU (mP l 16 : Int)).toNat : Int)) = false) :: vcT W g l k ix Bv (RB 4) RO 4 4 16), by kernel_rfl, he, f3, vcM_all hr hG hl (by decide) hB f2 ⟨hlt, vcT_all hr hG hl (by decide) hB (hRB 4) hz h60 f1⟩⟩
theorem mb_p5 (hz : k.tmod 9 = 5) : ∃ orc vc, (run (cfgW Tryd.prog (tblF12 5 5 VQ Bv T (RB 5) RO) [] orc W.cell? noLoop [] noYield) 8 Tryd.f12 (Args.tvs (A := A) (Γ := GA (Rs 32 × Int × UInt64 × Unit)) (g, (), (), ()) ⟨(⟨l⟩, k, ix, ())⟩) []).map (retOf (R := Bool)) = some (some true, vc) ∧ All vc := by
  obtain ⟨f1, f2, f3⟩ := hF l ix 5 32 31 hl (by decide) (by decide) (by decide)
  cases hlt : decide (((atM 31 ix).toNat : Int) < ((cvU (mP l 32 : Int)).toNat : Int)) with
  | true =>
    have el : leafV l (atM 31 ix) (mP l 32) = elL l (atM 31 ix).toNat := by unfold leafV; rw [hlt]
    rw [el] at f2 f3
    have hm : mP l 32 ≤ l.length := by rw [(hP_ok l 32).2.2]; exact Nat.min_le_left _ _
    have hlt' : (atM 31 ix).toNat < mP l 32 := by have h := of_decide_eq_true hlt; rw [cvU_nat' (i := mP l 32) (by omega)] at h; omega
    have ra : Reads W.cell? g.a (rsAt (l := l)) ((atM 31 ix).toNat * 32) 32 := reads_rows (n := 32) hG (by omega)
    have ia : IX ((atM 31 ix).toNat : Int) (mP l 32) := ⟨by omega, by omega⟩
    cases he : ((ix.toNat : Int) == ((atM 31 ix).toNat : Int)) with
    | true =>
      rw [he] at f3
      exact ⟨saysY [(36, false)], (((ix.toNat : Int) == ((atM 31 ix).toNat : Int)) = true) :: (VQ (elL l (atM 31 ix).toNat) (T (lM l (mP l 32)) 5).f (lC (Bv (lC l) ix 5)) ix = true) :: vcM W g l ix VQ Bv T 5 32 31 (elL l (atM 31 ix).toNat) (Reads W.cell? g.a (rsAt l) ((atM 31 ix).toNat * 32) 32 :: IX ((atM 31 ix).toNat : Int) (mP l 32) :: (decide (((atM 31 ix).toNat : Int) < ((cvU (mP l 32 : Int)).toNat : Int)) = true) :: vcT W g l k ix Bv (RB 5) RO 5 5 32), by kernel_rfl, he, f3, vcM_all hr hG hl (by decide) hB f2 ⟨ra, ia, hlt, vcT_all hr hG hl (by decide) hB (hRB 5) hz h60 f1⟩⟩
    | false =>
      rw [he] at f3
      exact ⟨saysY [(36, false), (73, false), (76, false)], (((ix.toNat : Int) == ((atM 31 ix).toNat : Int)) = false) :: (VQ (elL l (atM 31 ix).toNat) (T (lM l (mP l 32)) 5).f (lC (Bv (lC l) ix 5)) ix = false) :: vcM W g l ix VQ Bv T 5 32 31 (elL l (atM 31 ix).toNat) (Reads W.cell? g.a (rsAt l) ((atM 31 ix).toNat * 32) 32 :: IX ((atM 31 ix).toNat : Int) (mP l 32) :: (decide (((atM 31 ix).toNat : Int) < ((cvU (mP l 32 : Int)).toNat : Int)) = true) :: vcT W g l k ix Bv (RB 5) RO 5 5 32), by kernel_rfl, he, f3, vcM_all hr hG hl (by decide) hB f2 ⟨ra, ia, hlt, vcT_all hr hG hl (by decide) hB (hRB 5) hz h60 f1⟩⟩
  | false =>
    have el : leafV l (atM 31 ix) (mP l 32) = zR.f := by unfold leafV; rw [hlt]
    rw [el] at f2 f3
    cases he : ((ix.toNat : Int) == ((atM 31 ix).toNat : Int)) with
    | true =>
      rw [he] at f3
      exact ⟨saysY [(36, false), (54, false)], (((ix.toNat : Int) == ((atM 31 ix).toNat : Int)) = true) :: (VQ zR.f (T (lM l (mP l 32)) 5).f (lC (Bv (lC l) ix 5)) ix = true) :: vcM W g l ix VQ Bv T 5 32 31 zR.f ((decide (((atM 31 ix).toNat : Int) < ((cvU (mP l 32 : Int)).toNat : Int)) = false) :: vcT W g l k ix Bv (RB 5) RO 5 5 32), by kernel_rfl, he, f3, vcM_all hr hG hl (by decide) hB f2 ⟨hlt, vcT_all hr hG hl (by decide) hB (hRB 5) hz h60 f1⟩⟩
    | false =>
      rw [he] at f3
      exact ⟨saysY [(36, false), (54, false), (73, false), (76, false)], (((ix.toNat : Int) == ((atM 31 ix).toNat : Int)) = false) :: (VQ zR.f (T (lM l (mP l 32)) 5).f (lC (Bv (lC l) ix 5)) ix = false) :: vcM W g l ix VQ Bv T 5 32 31 zR.f ((decide (((atM 31 ix).toNat : Int) < ((cvU (mP l 32 : Int)).toNat : Int)) = false) :: vcT W g l k ix Bv (RB 5) RO 5 5 32), by kernel_rfl, he, f3, vcM_all hr hG hl (by decide) hB f2 ⟨hlt, vcT_all hr hG hl (by decide) hB (hRB 5) hz h60 f1⟩⟩
theorem mb_p6 (hz : k.tmod 9 = 6) : ∃ orc vc, (run (cfgW Tryd.prog (tblF12 6 6 VQ Bv T (RB 6) RO) [] orc W.cell? noLoop [] noYield) 8 Tryd.f12 (Args.tvs (A := A) (Γ := GA (Rs 32 × Int × UInt64 × Unit)) (g, (), (), ()) ⟨(⟨l⟩, k, ix, ())⟩) []).map (retOf (R := Bool)) = some (some true, vc) ∧ All vc := by
  obtain ⟨f1, f2, f3⟩ := hF l ix 6 64 63 hl (by decide) (by decide) (by decide)
  cases hlt : decide (((atM 63 ix).toNat : Int) < ((cvU (mP l 64 : Int)).toNat : Int)) with
  | true =>
    have el : leafV l (atM 63 ix) (mP l 64) = elL l (atM 63 ix).toNat := by unfold leafV; rw [hlt]
    rw [el] at f2 f3
    have hm : mP l 64 ≤ l.length := by rw [(hP_ok l 64).2.2]; exact Nat.min_le_left _ _
    have hlt' : (atM 63 ix).toNat < mP l 64 := by have h := of_decide_eq_true hlt; rw [cvU_nat' (i := mP l 64) (by omega)] at h; omega
    have ra : Reads W.cell? g.a (rsAt (l := l)) ((atM 63 ix).toNat * 32) 32 := reads_rows (n := 32) hG (by omega)
    have ia : IX ((atM 63 ix).toNat : Int) (mP l 64) := ⟨by omega, by omega⟩
    cases he : ((ix.toNat : Int) == ((atM 63 ix).toNat : Int)) with
    | true =>
      rw [he] at f3
      exact ⟨saysY [(36, false)], (((ix.toNat : Int) == ((atM 63 ix).toNat : Int)) = true) :: (VQ (elL l (atM 63 ix).toNat) (T (lM l (mP l 64)) 6).f (lC (Bv (lC l) ix 6)) ix = true) :: vcM W g l ix VQ Bv T 6 64 63 (elL l (atM 63 ix).toNat) (Reads W.cell? g.a (rsAt l) ((atM 63 ix).toNat * 32) 32 :: IX ((atM 63 ix).toNat : Int) (mP l 64) :: (decide (((atM 63 ix).toNat : Int) < ((cvU (mP l 64 : Int)).toNat : Int)) = true) :: vcT W g l k ix Bv (RB 6) RO 6 6 64), by kernel_rfl, he, f3, vcM_all hr hG hl (by decide) hB f2 ⟨ra, ia, hlt, vcT_all hr hG hl (by decide) hB (hRB 6) hz h60 f1⟩⟩
    | false =>
      rw [he] at f3
      exact ⟨saysY [(36, false), (73, false), (76, false)], (((ix.toNat : Int) == ((atM 63 ix).toNat : Int)) = false) :: (VQ (elL l (atM 63 ix).toNat) (T (lM l (mP l 64)) 6).f (lC (Bv (lC l) ix 6)) ix = false) :: vcM W g l ix VQ Bv T 6 64 63 (elL l (atM 63 ix).toNat) (Reads W.cell? g.a (rsAt l) ((atM 63 ix).toNat * 32) 32 :: IX ((atM 63 ix).toNat : Int) (mP l 64) :: (decide (((atM 63 ix).toNat : Int) < ((cvU (mP l 64 : Int)).toNat : Int)) = true) :: vcT W g l k ix Bv (RB 6) RO 6 6 64), by kernel_rfl, he, f3, vcM_all hr hG hl (by decide) hB f2 ⟨ra, ia, hlt, vcT_all hr hG hl (by decide) hB (hRB 6) hz h60 f1⟩⟩
  | false =>
    have el : leafV l (atM 63 ix) (mP l 64) = zR.f := by unfold leafV; rw [hlt]
    rw [el] at f2 f3
    cases he : ((ix.toNat : Int) == ((atM 63 ix).toNat : Int)) with
    | true =>
      rw [he] at f3
      exact ⟨saysY [(36, false), (54, false)], (((ix.toNat : Int) == ((atM 63 ix).toNat : Int)) = true) :: (VQ zR.f (T (lM l (mP l 64)) 6).f (lC (Bv (lC l) ix 6)) ix = true) :: vcM W g l ix VQ Bv T 6 64 63 zR.f ((decide (((atM 63 ix).toNat : Int) < ((cvU (mP l 64 : Int)).toNat : Int)) = false) :: vcT W g l k ix Bv (RB 6) RO 6 6 64), by kernel_rfl, he, f3, vcM_all hr hG hl (by decide) hB f2 ⟨hlt, vcT_all hr hG hl (by decide) hB (hRB 6) hz h60 f1⟩⟩
    | false =>
      rw [he] at f3
      exact ⟨saysY [(36, false), (54, false), (73, false), (76, false)], (((ix.toNat : Int) == ((atM 63 ix).toNat : Int)) = false) :: (VQ zR.f (T (lM l (mP l 64)) 6).f (lC (Bv (lC l) ix 6)) ix = false) :: vcM W g l ix VQ Bv T 6 64 63 zR.f ((decide (((atM 63 ix).toNat : Int) < ((cvU (mP l 64 : Int)).toNat : Int)) = false) :: vcT W g l k ix Bv (RB 6) RO 6 6 64), by kernel_rfl, he, f3, vcM_all hr hG hl (by decide) hB f2 ⟨hlt, vcT_all hr hG hl (by decide) hB (hRB 6) hz h60 f1⟩⟩
theorem mb_p7 (hz : k.tmod 9 = 7) : ∃ orc vc, (run (cfgW Tryd.prog (tblF12 7 7 VQ Bv T (RB 7) RO) [] orc W.cell? noLoop [] noYield) 8 Tryd.f12 (Args.tvs (A := A) (Γ := GA (Rs 32 × Int × UInt64 × Unit)) (g, (), (), ()) ⟨(⟨l⟩, k, ix, ())⟩) []).map (retOf (R := Bool)) = some (some true, vc) ∧ All vc := by
  obtain ⟨f1, f2, f3⟩ := hF l ix 7 128 127 hl (by decide) (by decide) (by decide)
  cases hlt : decide (((atM 127 ix).toNat : Int) < ((cvU (mP l 128 : Int)).toNat : Int)) with
  | true =>
    have el : leafV l (atM 127 ix) (mP l 128) = elL l (atM 127 ix).toNat := by unfold leafV; rw [hlt]
    rw [el] at f2 f3
    have hm : mP l 128 ≤ l.length := by rw [(hP_ok l 128).2.2]; exact Nat.min_le_left _ _
    have hlt' : (atM 127 ix).toNat < mP l 128 := by have h := of_decide_eq_true hlt; rw [cvU_nat' (i := mP l 128) (by omega)] at h; omega
    have ra : Reads W.cell? g.a (rsAt (l := l)) ((atM 127 ix).toNat * 32) 32 := reads_rows (n := 32) hG (by omega)
    have ia : IX ((atM 127 ix).toNat : Int) (mP l 128) := ⟨by omega, by omega⟩
    cases he : ((ix.toNat : Int) == ((atM 127 ix).toNat : Int)) with
    | true =>
      rw [he] at f3
      exact ⟨saysY [(36, false)], (((ix.toNat : Int) == ((atM 127 ix).toNat : Int)) = true) :: (VQ (elL l (atM 127 ix).toNat) (T (lM l (mP l 128)) 7).f (lC (Bv (lC l) ix 7)) ix = true) :: vcM W g l ix VQ Bv T 7 128 127 (elL l (atM 127 ix).toNat) (Reads W.cell? g.a (rsAt l) ((atM 127 ix).toNat * 32) 32 :: IX ((atM 127 ix).toNat : Int) (mP l 128) :: (decide (((atM 127 ix).toNat : Int) < ((cvU (mP l 128 : Int)).toNat : Int)) = true) :: vcT W g l k ix Bv (RB 7) RO 7 7 128), by kernel_rfl, he, f3, vcM_all hr hG hl (by decide) hB f2 ⟨ra, ia, hlt, vcT_all hr hG hl (by decide) hB (hRB 7) hz h60 f1⟩⟩
    | false =>
      rw [he] at f3
      exact ⟨saysY [(36, false), (73, false), (76, false)], (((ix.toNat : Int) == ((atM 127 ix).toNat : Int)) = false) :: (VQ (elL l (atM 127 ix).toNat) (T (lM l (mP l 128)) 7).f (lC (Bv (lC l) ix 7)) ix = false) :: vcM W g l ix VQ Bv T 7 128 127 (elL l (atM 127 ix).toNat) (Reads W.cell? g.a (rsAt l) ((atM 127 ix).toNat * 32) 32 :: IX ((atM 127 ix).toNat : Int) (mP l 128) :: (decide (((atM 127 ix).toNat : Int) < ((cvU (mP l 128 : Int)).toNat : Int)) = true) :: vcT W g l k ix Bv (RB 7) RO 7 7 128), by kernel_rfl, he, f3, vcM_all hr hG hl (by decide) hB f2 ⟨ra, ia, hlt, vcT_all hr hG hl (by decide) hB (hRB 7) hz h60 f1⟩⟩
  | false =>
    have el : leafV l (atM 127 ix) (mP l 128) = zR.f := by unfold leafV; rw [hlt]
    rw [el] at f2 f3
    cases he : ((ix.toNat : Int) == ((atM 127 ix).toNat : Int)) with
    | true =>
      rw [he] at f3
      exact ⟨saysY [(36, false), (54, false)], (((ix.toNat : Int) == ((atM 127 ix).toNat : Int)) = true) :: (VQ zR.f (T (lM l (mP l 128)) 7).f (lC (Bv (lC l) ix 7)) ix = true) :: vcM W g l ix VQ Bv T 7 128 127 zR.f ((decide (((atM 127 ix).toNat : Int) < ((cvU (mP l 128 : Int)).toNat : Int)) = false) :: vcT W g l k ix Bv (RB 7) RO 7 7 128), by kernel_rfl, he, f3, vcM_all hr hG hl (by decide) hB f2 ⟨hlt, vcT_all hr hG hl (by decide) hB (hRB 7) hz h60 f1⟩⟩
    | false =>
      rw [he] at f3
      exact ⟨saysY [(36, false), (54, false), (73, false), (76, false)], (((ix.toNat : Int) == ((atM 127 ix).toNat : Int)) = false) :: (VQ zR.f (T (lM l (mP l 128)) 7).f (lC (Bv (lC l) ix 7)) ix = false) :: vcM W g l ix VQ Bv T 7 128 127 zR.f ((decide (((atM 127 ix).toNat : Int) < ((cvU (mP l 128 : Int)).toNat : Int)) = false) :: vcT W g l k ix Bv (RB 7) RO 7 7 128), by kernel_rfl, he, f3, vcM_all hr hG hl (by decide) hB f2 ⟨hlt, vcT_all hr hG hl (by decide) hB (hRB 7) hz h60 f1⟩⟩
theorem mb_p8 (hz : k.tmod 9 = 8) : ∃ orc vc, (run (cfgW Tryd.prog (tblF12 8 8 VQ Bv T (RB 8) RO) [] orc W.cell? noLoop [] noYield) 8 Tryd.f12 (Args.tvs (A := A) (Γ := GA (Rs 32 × Int × UInt64 × Unit)) (g, (), (), ()) ⟨(⟨l⟩, k, ix, ())⟩) []).map (retOf (R := Bool)) = some (some true, vc) ∧ All vc := by
  obtain ⟨f1, f2, f3⟩ := hF l ix 8 256 255 hl (by decide) (by decide) (by decide)
  cases hlt : decide (((atM 255 ix).toNat : Int) < ((cvU (mP l 256 : Int)).toNat : Int)) with
  | true =>
    have el : leafV l (atM 255 ix) (mP l 256) = elL l (atM 255 ix).toNat := by unfold leafV; rw [hlt]
    rw [el] at f2 f3
    have hm : mP l 256 ≤ l.length := by rw [(hP_ok l 256).2.2]; exact Nat.min_le_left _ _
    have hlt' : (atM 255 ix).toNat < mP l 256 := by have h := of_decide_eq_true hlt; rw [cvU_nat' (i := mP l 256) (by omega)] at h; omega
    have ra : Reads W.cell? g.a (rsAt (l := l)) ((atM 255 ix).toNat * 32) 32 := reads_rows (n := 32) hG (by omega)
    have ia : IX ((atM 255 ix).toNat : Int) (mP l 256) := ⟨by omega, by omega⟩
    cases he : ((ix.toNat : Int) == ((atM 255 ix).toNat : Int)) with
    | true =>
      rw [he] at f3
      exact ⟨saysY [(36, false)], (((ix.toNat : Int) == ((atM 255 ix).toNat : Int)) = true) :: (VQ (elL l (atM 255 ix).toNat) (T (lM l (mP l 256)) 8).f (lC (Bv (lC l) ix 8)) ix = true) :: vcM W g l ix VQ Bv T 8 256 255 (elL l (atM 255 ix).toNat) (Reads W.cell? g.a (rsAt l) ((atM 255 ix).toNat * 32) 32 :: IX ((atM 255 ix).toNat : Int) (mP l 256) :: (decide (((atM 255 ix).toNat : Int) < ((cvU (mP l 256 : Int)).toNat : Int)) = true) :: vcT W g l k ix Bv (RB 8) RO 8 8 256), by kernel_rfl, he, f3, vcM_all hr hG hl (by decide) hB f2 ⟨ra, ia, hlt, vcT_all hr hG hl (by decide) hB (hRB 8) hz h60 f1⟩⟩
    | false =>
      rw [he] at f3
      exact ⟨saysY [(36, false), (73, false), (76, false)], (((ix.toNat : Int) == ((atM 255 ix).toNat : Int)) = false) :: (VQ (elL l (atM 255 ix).toNat) (T (lM l (mP l 256)) 8).f (lC (Bv (lC l) ix 8)) ix = false) :: vcM W g l ix VQ Bv T 8 256 255 (elL l (atM 255 ix).toNat) (Reads W.cell? g.a (rsAt l) ((atM 255 ix).toNat * 32) 32 :: IX ((atM 255 ix).toNat : Int) (mP l 256) :: (decide (((atM 255 ix).toNat : Int) < ((cvU (mP l 256 : Int)).toNat : Int)) = true) :: vcT W g l k ix Bv (RB 8) RO 8 8 256), by kernel_rfl, he, f3, vcM_all hr hG hl (by decide) hB f2 ⟨ra, ia, hlt, vcT_all hr hG hl (by decide) hB (hRB 8) hz h60 f1⟩⟩
  | false =>
    have el : leafV l (atM 255 ix) (mP l 256) = zR.f := by unfold leafV; rw [hlt]
    rw [el] at f2 f3
    cases he : ((ix.toNat : Int) == ((atM 255 ix).toNat : Int)) with
    | true =>
      rw [he] at f3
      exact ⟨saysY [(36, false), (54, false)], (((ix.toNat : Int) == ((atM 255 ix).toNat : Int)) = true) :: (VQ zR.f (T (lM l (mP l 256)) 8).f (lC (Bv (lC l) ix 8)) ix = true) :: vcM W g l ix VQ Bv T 8 256 255 zR.f ((decide (((atM 255 ix).toNat : Int) < ((cvU (mP l 256 : Int)).toNat : Int)) = false) :: vcT W g l k ix Bv (RB 8) RO 8 8 256), by kernel_rfl, he, f3, vcM_all hr hG hl (by decide) hB f2 ⟨hlt, vcT_all hr hG hl (by decide) hB (hRB 8) hz h60 f1⟩⟩
    | false =>
      rw [he] at f3
      exact ⟨saysY [(36, false), (54, false), (73, false), (76, false)], (((ix.toNat : Int) == ((atM 255 ix).toNat : Int)) = false) :: (VQ zR.f (T (lM l (mP l 256)) 8).f (lC (Bv (lC l) ix 8)) ix = false) :: vcM W g l ix VQ Bv T 8 256 255 zR.f ((decide (((atM 255 ix).toNat : Int) < ((cvU (mP l 256 : Int)).toNat : Int)) = false) :: vcT W g l k ix Bv (RB 8) RO 8 8 256), by kernel_rfl, he, f3, vcM_all hr hG hl (by decide) hB f2 ⟨hlt, vcT_all hr hG hl (by decide) hB (hRB 8) hz h60 f1⟩⟩
end
end Go.Proofs.YtaloefkkllebeaaDoor
/- Trees: the law of branches, put together. -/
namespace Go.Proofs.YtaloefkkllebeaaDoor
open Go Go.Sh
theorem merkleBranches_of {VQ : VQT} {Bv : BvT} {T : TrT} {RB : Nat → List (R8 32) → UInt64 → List (R8 32)} {RO : List (R8 32) → List (R8 32) → Bool} (hB : ∀ l ix d, (Bv l ix d).length = d) (hRB : ∀ K l ix, (RB K l ix).length = K)
    (hF : ∀ l ix (K P : Nat) (M : Int), l.length ≤ 60 → K ≤ 8 → P = 2 ^ K → M = (P : Int) - 1 → RO (lC (Bv (lC l) ix K)) (lC (RB K (lC l) ix)) = true ∧ VQ (leafV l (atM M ix) (mP l P)) (T (lM l (mP l P)) K).f (lC (Bv (lC l) ix K)) (atM M ix) = true ∧
      VQ (leafV l (atM M ix) (mP l P)) (T (lM l (mP l P)) K).f (lC (Bv (lC l) ix K)) ix = ((ix.toNat : Int) == ((atM M ix).toNat : Int)))
    (ht : ∀ (z : Int) (K : Nat), K ≤ 8 → TblOK Tryd.prog (tblF12 z K VQ Bv T (RB K) RO)) :
    Computes A Tryd.prog 12 (fun _ : GA (Rs 32 × Int × UInt64 × Unit) => true) := by
  refine computes_of_runT Tryd.func12 (by kernel_rfl) (by kernel_rfl) 8 ?_
  rintro ⟨g, ⟨⟩, ⟨⟩, ⟨⟩⟩ ⟨⟨⟨l⟩, k, ix, ⟨⟩⟩⟩ W ⟨hr, hg, _⟩
  have hG : HasRows W l g := hg
  cases h60 : decide ((l.length : Int) ≤ 60) with
  | false =>
    exact ⟨_, _, ht 0 0 (by decide), ITblOK.nil _, saysY [(15, false)], noLoop, true, [decide ((l.length : Int) ≤ 60) = false, true = true, RoundsIn W.cell?], by kernel_rfl, ⟨h60, rfl, hr, trivial⟩, rfl, fun body _ => loopsFor_none⟩
  | true =>
    have hl : l.length ≤ 60 := by have := of_decide_eq_true h60; omega
    have b1 : k.tmod 9 < 9 := Int.tmod_lt_of_pos k (by decide)
    have b2 : -9 < k.tmod 9 := Int.lt_tmod_of_pos k (by decide)
    have hz : k.tmod 9 = (-8) ∨ k.tmod 9 = (-7) ∨ k.tmod 9 = (-6) ∨ k.tmod 9 = (-5) ∨ k.tmod 9 = (-4) ∨ k.tmod 9 = (-3) ∨ k.tmod 9 = (-2) ∨ k.tmod 9 = (-1) ∨ k.tmod 9 = 0 ∨ k.tmod 9 = 1 ∨ k.tmod 9 = 2 ∨ k.tmod 9 = 3 ∨ k.tmod 9 = 4 ∨ k.tmod 9 = 5 ∨ k.tmod 9 = 6 ∨ k.tmod 9 = 7 ∨ k.tmod 9 = 8 := by omega
    rcases hz with hz | hz | hz | hz | hz | hz | hz | hz | hz | hz | hz | hz | hz | hz | hz | hz | hz
    · obtain ⟨orc, vc, h1, h2⟩ := mb_n8 hB hRB hF k ix hr hG hl h60 hz
      exact ⟨_, _, ht (-8) 1 (by decide), ITblOK.nil _, orc, noLoop, true, vc, h1, h2, rfl, fun body _ => loopsFor_none⟩
    · obtain ⟨orc, vc, h1, h2⟩ := mb_n7 hB hRB hF k ix hr hG hl h60 hz
      exact ⟨_, _, ht (-7) 2 (by decide), ITblOK.nil _, orc, noLoop, true, vc, h1, h2, rfl, fun body _ => loopsFor_none⟩
    · obtain ⟨orc, vc, h1, h2⟩ := mb_n6 hB hRB hF k ix hr hG hl h60 hz
      exact ⟨_, _, ht (-6) 3 (by decide), ITblOK.nil _, orc, noLoop, true, vc, h1, h2, rfl, fun body _ => loopsFor_none⟩
    · obtain ⟨orc, vc, h1, h2⟩ := mb_n5 hB hRB hF k ix hr hG hl h60 hz
      exact ⟨_, _, ht (-5) 4 (by decide), ITblOK.nil _, orc, noLoop, true, vc, h1, h2, rfl, fun body _ => loopsFor_none⟩
    · obtain ⟨orc, vc, h1, h2⟩ := mb_n4 hB hRB hF k ix hr hG hl h60 hz
      exact ⟨_, _, ht (-4) 5 (by decide), ITblOK.nil _, orc, noLoop, true, vc, h1, h2, rfl, fun body _ => loopsFor_none⟩
    · obtain ⟨orc, vc, h1, h2⟩ := mb_n3 hB hRB hF k ix hr hG hl h60 hz
      exact ⟨_, _, ht (-3) 6 (by decide), ITblOK.nil _, orc, noLoop, true, vc, h1, h2, rfl, fun body _ => loopsFor_none⟩
    · obtain ⟨orc, vc, h1, h2⟩ := mb_n2 hB hRB hF k ix hr hG hl h60 hz
      exact ⟨_, _, ht (-2) 7 (by decide), ITblOK.nil _, orc, noLoop, true, vc, h1, h2, rfl, fun body _ => loopsFor_none⟩
    · obtain ⟨orc, vc, h1, h2⟩ := mb_n1 hB hRB hF k ix hr hG hl h60 hz
      exact ⟨_, _, ht (-1) 8 (by decide), ITblOK.nil _, orc, noLoop, true, vc, h1, h2, rfl, fun body _ => loopsFor_none⟩
    · obtain ⟨orc, vc, h1, h2⟩ := mb_p0 hB hRB hF k ix hr hG hl h60 hz
      exact ⟨_, _, ht 0 0 (by decide), ITblOK.nil _, orc, noLoop, true, vc, h1, h2, rfl, fun body _ => loopsFor_none⟩
    · obtain ⟨orc, vc, h1, h2⟩ := mb_p1 hB hRB hF k ix hr hG hl h60 hz
      exact ⟨_, _, ht 1 1 (by decide), ITblOK.nil _, orc, noLoop, true, vc, h1, h2, rfl, fun body _ => loopsFor_none⟩
    · obtain ⟨orc, vc, h1, h2⟩ := mb_p2 hB hRB hF k ix hr hG hl h60 hz
      exact ⟨_, _, ht 2 2 (by decide), ITblOK.nil _, orc, noLoop, true, vc, h1, h2, rfl, fun body _ => loopsFor_none⟩
    · obtain ⟨orc, vc, h1, h2⟩ := mb_p3 hB hRB hF k ix hr hG hl h60 hz
      exact ⟨_, _, ht 3 3 (by decide), ITblOK.nil _, orc, noLoop, true, vc, h1, h2, rfl, fun body _ => loopsFor_none⟩
    · obtain ⟨orc, vc, h1, h2⟩ := mb_p4 hB hRB hF k ix hr hG hl h60 hz
      exact ⟨_, _, ht 4 4 (by decide), ITblOK.nil _, orc, noLoop, true, vc, h1, h2, rfl, fun body _ => loopsFor_none⟩
    · obtain ⟨orc, vc, h1, h2⟩ := mb_p5 hB hRB hF k ix hr hG hl h60 hz
      exact ⟨_, _, ht 5 5 (by decide), ITblOK.nil _, orc, noLoop, true, vc, h1, h2, rfl, fun body _ => loopsFor_none⟩
    · obtain ⟨orc, vc, h1, h2⟩ := mb_p6 hB hRB hF k ix hr hG hl h60 hz
      exact ⟨_, _, ht 6 6 (by decide), ITblOK.nil _, orc, noLoop, true, vc, h1, h2, rfl, fun body _ => loopsFor_none⟩
    · obtain ⟨orc, vc, h1, h2⟩ := mb_p7 hB hRB hF k ix hr hG hl h60 hz
      exact ⟨_, _, ht 7 7 (by decide), ITblOK.nil _, orc, noLoop, true, vc, h1, h2, rfl, fun body _ => loopsFor_none⟩
    · obtain ⟨orc, vc, h1, h2⟩ := mb_p8 hB hRB hF k ix hr hG hl h60 hz
      exact ⟨_, _, ht 8 8 (by decide), ITblOK.nil _, orc, noLoop, true, vc, h1, h2, rfl, fun body _ => loopsFor_none⟩
theorem tblF12_ok (z : Int) (K : Nat) (hK : K ≤ 8) : TblOK Tryd.prog (tblF12 z K (merQ pairR8) (branchV pairR8) (treeN pairR8) (fun l ix => rbV (treeN pairR8) l ix K) rootsV) := by
  have ht : TblOK Tryd.prog (tblRB (treeN pairR8)) := .cons tree_ok.row (.nil _)
  have hb : RowOK Tryd.prog (rowOf A 58 (fun x : Hs Mk × Rt 32 × Li (K : Int) × UInt64 × Unit => (⟨rbV (treeN pairR8) x.2.1.l x.2.2.2.1 K⟩ : Rw 32))) :=
    match K, hK with
    | 0, _ => (refBr_0 ht).row
    | 1, _ => (refBr_1 ht).row
    | 2, _ => (refBr_2 ht).row
    | 3, _ => (refBr_3 ht).row
    | 4, _ => (refBr_4 ht).row
    | 5, _ => (refBr_5 ht).row
    | 6, _ => (refBr_6 ht).row
    | 7, _ => (refBr_7 ht).row
    | 8, _ => (refBr_8 ht).row
    | n + 9, h => absurd h (by omega)
  exact .cons known18_ok.row (.cons lightRow_ok (.cons (placeL_ok z) (.cons hasher_ok.row (.cons tree_ok.row (.cons branch_ok.row (.cons hb (.cons roots_ok.row (.cons verify_ok.row (.nil _)))))))))
theorem merkleBranches_ok : Computes A Tryd.prog 12 (fun _ : GA (Rs 32 × Int × UInt64 × Unit) => true) :=
  merkleBranches_of (VQ := merQ pairR8) (Bv := branchV pairR8) (T := treeN pairR8) (RB := fun K l ix => rbV (treeN pairR8) l ix K) (RO := rootsV) (fun l ix d => branchV_len pairR8 l ix d) (fun K l ix => by unfold rbV; rw [cutR_len])
    (fun l ix K P M hl hK hP hM => br_facts pairR8 pair_cut l hl ix K P M hK hP hM) tblF12_ok
end Go.Proofs.YtaloefkkllebeaaDoor
