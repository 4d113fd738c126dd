/- Trees: branches prove their leaves; the law of all leaves. -/
import Derived.Test.YtaloefkkllebeaaDoorTk
set_option linter.unusedVariables false
set_option linter.unusedSimpArgs false
set_option linter.unusedSectionVars false
set_option maxRecDepth 100000
namespace Go.Proofs.YtaloefkkllebeaaDoor
open Go Go.Sh
section
variable (Pr : R8 32 → R8 32 → R8 32)
theorem fold_node (L b : List (R8 32)) (at' : UInt64) (d : Nat) (hd : d ≤ 62) (hb : ∀ k, k < d → elL b k = (nodeT Pr zR L k ((at'.toNat / 2 ^ k) ^^^ 1)).f) : ∀ k, k ≤ d → foldV Pr b at' (nodeT Pr zR L 0 at'.toNat).f k = (nodeT Pr zR L k (at'.toNat / 2 ^ k)).f
  | 0, _ => by rw [Nat.pow_zero, Nat.div_one]; rfl
  | k + 1, h => by
    have ih := fold_node L b at' d hd hb k (by omega)
    show vStep Pr (sideB at' k) (elL b k) (foldV Pr b at' _ k) = _
    rw [ih, hb k (by omega), show at'.toNat / 2 ^ (k + 1) = at'.toNat / 2 ^ k / 2 by rw [Nat.div_div_eq_div_mul, ← Nat.pow_succ], node_up]
    have hs : sideB at' k = decide (at'.toNat / 2 ^ k % 2 = 1) := by
      unfold sideB
      rw [decide_eq_true (show (k : Int) < 64 by omega)]
      exact bitQ_eq at' (by omega)
    rw [hs, xor1]
    generalize at'.toNat / 2 ^ k = j
    by_cases hj : j % 2 = 1
    · rw [decide_eq_true hj, if_pos hj, show 2 * (j / 2) = j - 1 by omega, show j - 1 + 1 = j by omega]
      rfl
    · rw [decide_eq_false hj, if_neg hj, show 2 * (j / 2) = j by omega]
      rfl
theorem bey_eq (b : List (R8 32)) (at' : UInt64) (hd : b.length ≤ 62) : beyQ b at' = !(decide (at'.toNat / 2 ^ b.length = 0)) := by
  unfold beyQ
  rw [decide_eq_true (show (b.length : Int) < 64 by omega), shW_nat at' hd]
  simp only
  by_cases h : at'.toNat / 2 ^ b.length = 0
  · rw [h]; rfl
  · rw [decide_eq_false h]
    simp only [Bool.not_false, bne_iff_ne, ne_eq]
    omega
theorem mer_true (L b : List (R8 32)) (at' : UInt64) (hd : b.length ≤ 62) (hat : at'.toNat < 2 ^ b.length) (hb : ∀ k, k < b.length → elL b k = (nodeT Pr zR L k ((at'.toNat / 2 ^ k) ^^^ 1)).f) :
    merQ Pr (nodeT Pr zR L 0 at'.toNat).f (nodeT Pr zR L b.length 0).f b at' = true := by
  unfold merQ
  have h0 : at'.toNat / 2 ^ b.length = 0 := Nat.div_eq_of_lt hat
  rw [bey_eq b at' hd, decide_eq_true h0, fold_node Pr L b at' b.length hd hb _ (Nat.le_refl _), h0]
  exact eqB_self _ _ _
theorem mer_beyond (f r : Nat → UInt8) (b : List (R8 32)) (at' : UInt64) (hd : b.length ≤ 62) (hat : ¬ at'.toNat < 2 ^ b.length) : merQ Pr f r b at' = false := by
  unfold merQ
  have h0 : ¬ at'.toNat / 2 ^ b.length = 0 := by
    intro h
    have hp : 0 < 2 ^ b.length := Nat.pow_pos (by decide)
    have := (Nat.div_eq_zero_iff).1 h
    omega
  rw [bey_eq b at' hd, decide_eq_false h0]
  rfl
theorem elL_lC (b : List (R8 32)) (k : Nat) (h : k < b.length) : elL (lC b) k = elL b k := by
  unfold elL
  refine elR_congr (fun j hj => ?_)
  unfold lC
  rw [cutR_at _ _ _ _ (by omega)]
  show rsB b (0 + _) = _
  rw [Nat.zero_add]
/-- A leaf's branch proves it. -/
theorem branch_proves (hc : Cut Pr) {l : List (R8 32)} (hl : l.length < 1048576) (ix at' : UInt64) {d : Nat} (hd : d ≤ 62) (hat : at'.toNat = ix.toNat % 2 ^ d) :
    merQ Pr (nodeT Pr zR (roomL l d) 0 at'.toNat).f (treeN Pr l d).f (lC (branchV Pr l ix d)) at' = true := by
  have hlen : (lC (branchV Pr l ix d)).length = d := by rw [lC_len, branchV_len]
  have hp : 0 < 2 ^ d := Nat.pow_pos (by decide)
  have hr : treeN Pr l d = nodeT Pr zR (roomL l d) d 0 := by
    unfold treeN nodeT roomL
    rw [Nat.zero_mul, List.drop_zero, treeT_take _ _ _ _ _ (Nat.le_refl _)]
  have h := mer_true Pr (roomL l d) (lC (branchV Pr l ix d)) at' (by rw [hlen]; exact hd) (by rw [hlen, hat]; exact Nat.mod_lt _ hp) (fun k hk => by
    rw [hlen] at hk
    rw [elL_lC _ _ (by rw [branchV_len]; exact hk), elL_branch Pr hc hl ix hd hk, hat])
  rw [hlen] at h
  rw [hr]
  exact h
end
abbrev BvT := List (R8 32) → UInt64 → Nat → List (R8 32)
abbrev TrT := List (R8 32) → Nat → R8 32
noncomputable def tblF16 (RV : RVT) (VQ VR : VQT) (Bv : BvT) (T : TrT) : List (Row A) :=
  [rowOf A 51 (fun _ : GA Unit => true), lightRow, rowOf A 31 (fun x : Int × Ps × Unit => placeV x.1 x.2.1.z), rowOf A 39 (fun _ : Unit => (⟨.mk⟩ : Hz Mk)),
    rowOf A 45 (fun x : Hs Mk × Rt 32 × Dp 62 × Unit => T x.2.1.l x.2.2.1.n), rowOf A 56 (fun x : GA (Rt 32 × Dp 9 × UInt64 × Unit) => (⟨Bv x.x.1.l x.x.2.2.1 x.x.2.1.n⟩ : Rz 32)),
    rowOf A 59 (fun x : GA (R8 32 × Rt 32 × UInt64 × R8 32 × Unit) => VQ x.x.1.f x.x.2.2.2.1.f x.x.2.1.l x.x.2.2.1), rowOf A 61 (fun x : Hs Mk × R8 32 × Rt 32 × UInt64 × R8 32 × Unit => VR x.2.1.f x.2.2.2.2.1.f x.2.2.1.l x.2.2.2.1),
    rowOf A 53 (fun x : GA (Rt 32 × Int × Unit) => RV x.x.1.l x.x.2.1)]
def hashB : SV A := .ka (Celled.cellA Mk.mk) 0 (Celled.n Mk)
def allS (g : Spot) (l : List (R8 32)) (m cc : Nat) (D : Int) (o : UInt64) (r : Nat → UInt8) (i : Nat) : St A :=
  ⟨slots 0 89 [(0, .val false [.e g.a (rsAt l) 0 m cc]), (1, .val false [.n .i64 D]), (2, .val false [.a (.u64 o)]), (6, .val false [.v (.bool false)]), (7, .val false [.p 0 0]), (8, .val false [.p 1 0]), (9, .val false [.n .i64 (i : Int)])],
    [some ⟨[hashB], 55, false⟩, some ⟨[.a (.w8 32 r)], 25, false⟩], 0, [], []⟩
/-- The first rows of a slice. -/
def lM (l : List (R8 32)) (m : Nat) : List (R8 32) := cutR 32 (fun j => u8of (rsAt l (0 + j))) m
theorem lM_len (l : List (R8 32)) (m : Nat) : (lM l m).length = m := cutR_len _ _ _
theorem nm_lM (l : List (R8 32)) {m : Nat} (h : m ≤ l.length) : nm (lM l m) = (nm l).take m := by
  unfold lM
  rw [nm_cut _ l 0 m (by omega) (fun j hj => by show rsB l (0 + j) = _; congr 1), List.drop_zero]
def o64 (o : UInt64) : UInt64 := cvU ((o.toNat : Int).tmod 64)
def RemU (o : UInt64) : Prop := (64 : Int) ≠ 0 ∧ IntKind.u64.wrap ((o.toNat : Int).tmod 64) = (o.toNat : Int).tmod 64
theorem remU (o : UInt64) : RemU o := by
  refine ⟨by decide, ?_⟩
  have e : ((o.toNat : Int).tmod 64) = ((o.toNat % 64 : Nat) : Int) := by rw [Int.ofNat_tmod]; rfl
  rw [e]
  have h : o.toNat % 64 < 64 := Nat.mod_lt _ (by decide)
  unfold IntKind.wrap
  simp only [IntKind.bits, IntKind.signed, Bool.false_and, Bool.false_eq_true, if_false]
  omega
section
variable {RV : RVT} {VQ VR : VQT} {Bv : BvT} {T : TrT} (ht : TblOK Tryd.prog (tblF16 RV VQ VR Bv T)) {W : World} (hr : RoundsIn W.cell?) (g : Spot) {l : List (R8 32)} (hg : HasRows W l g) {m : Nat} (hm : m ≤ l.length) (hN : l.length < 1048576) (cc : Nat) {D : Int} (hD : 0 ≤ D ∧ D ≤ 9) (o : UInt64) (r : Nat → UInt8)
  (hV : ∀ i, i < m → VQ (elL l i) r (lC (Bv (lM l m) (cvU (i : Int)) D.toNat)) (cvU (i : Int)) = true) (hE : ∀ f b ix, b.length < 1048576 → VQ f r b ix = VR f r b ix) (hB : ∀ ix, (Bv (lM l m) ix D.toNat).length < 1048576)
  {c : Cfg A} (e1 : c.P = Tryd.prog) (e2 : c.gl = (fun _ => none)) (e3 : c.old = W.cell?) (e4 : c.ys = [])
include ht hr hg hm hN hD hV hE hB e1 e2 e3 e4
theorem allS_one (i : Nat) (hi : i < m) : Round c (loopNo Tryd.f16 10) (allS g l m cc D o r i) .normal (allS g l m cc D o r (i + 1)) := by
  have hv := hV i hi
  have he := hE (elL l i) (lC (Bv (lM l m) (cvU (i : Int)) D.toNat)) (o64 o) (by rw [lC_len]; exact hB _)
  have hb : (lC (Bv (lM l m) (cvU (i : Int)) D.toNat)).length < 1048576 := by rw [lC_len]; exact hB _
  have hu : lU (Bv (lM l m) (cvU (i : Int)) D.toNat) := lU_ok _
  have w : WrapI ((i : Int) + 1) := wI (by omega) (by omega)
  have rd : Reads W.cell? g.a (rsAt (l := l)) (i * 32) 32 := reads_rows (n := 32) hg (by omega)
  have rm : Reads W.cell? g.a (rsAt (l := l)) 0 (m * 32) := reads_rows (n := 32) hg (by omega)
  have ix : IX (i : Int) m := ⟨by omega, by omega⟩
  have lt : decide ((i : Int) < (m : Int)) = true := decide_eq_true (by omega)
  have hl : (lM l m).length < 1048576 := by rw [lM_len]; omega
  have um : ∀ j, j < m * 32 → isU8 (rsAt l (0 + j)) = true := fun _ _ => rfl
  have d9 : 0 ≤ D ∧ D ≤ ((9 : Nat) : Int) := by omega
  cases hw : VQ (elL l i) r (lC (Bv (lM l m) (cvU (i : Int)) D.toNat)) (o64 o) with
  | true =>
    have hw' := he.symm.trans hw
    exact Round.of0 ht (saysY []) 6 [WrapI ((i : Int) + 1), VR (elL l i) r (lC (Bv (lM l m) (cvU (i : Int)) D.toNat)) (o64 o) = true, TabsAre, (lC (Bv (lM l m) (cvU (i : Int)) D.toNat)).length < 1048576, lU (Bv (lM l m) (cvU (i : Int)) D.toNat), RemU o, Reads W.cell? g.a (rsAt l) (i * 32) 32, IX (i : Int) m,
      VQ (elL l i) r (lC (Bv (lM l m) (cvU (i : Int)) D.toNat)) (o64 o) = true, RoundsIn W.cell?, (lC (Bv (lM l m) (cvU (i : Int)) D.toNat)).length < 1048576, lU (Bv (lM l m) (cvU (i : Int)) D.toNat), RemU o, Reads W.cell? g.a (rsAt l) (i * 32) 32, IX (i : Int) m,
      VQ (elL l i) r (lC (Bv (lM l m) (cvU (i : Int)) D.toNat)) (cvU (i : Int)) = true, RoundsIn W.cell?, (lC (Bv (lM l m) (cvU (i : Int)) D.toNat)).length < 1048576, lU (Bv (lM l m) (cvU (i : Int)) D.toNat), Reads W.cell? g.a (rsAt l) (i * 32) 32, IX (i : Int) m,
      RoundsIn W.cell?, (lM l m).length < 1048576, Reads W.cell? g.a (rsAt l) 0 (m * 32), ∀ j, j < m * 32 → isU8 (rsAt l (0 + j)) = true, 0 ≤ D ∧ D ≤ ((9 : Nat) : Int), decide ((i : Int) < (m : Int)) = true] (by kernel_rfl)
      ⟨w, hw', tabsAre, hb, hu, remU o, rd, ix, hw, hr, hb, hu, remU o, rd, ix, hv, hr, hb, hu, rd, ix, hr, hl, rm, um, d9, lt, trivial⟩ (by kernel_rfl) (by kernel_rfl) e1 e2 e3 e4
  | false =>
    have hw' := he.symm.trans hw
    exact Round.of0 ht (saysY [(62, false), (72, false)]) 6 [WrapI ((i : Int) + 1), VR (elL l i) r (lC (Bv (lM l m) (cvU (i : Int)) D.toNat)) (o64 o) = false, TabsAre, (lC (Bv (lM l m) (cvU (i : Int)) D.toNat)).length < 1048576, lU (Bv (lM l m) (cvU (i : Int)) D.toNat), RemU o, Reads W.cell? g.a (rsAt l) (i * 32) 32, IX (i : Int) m,
      VQ (elL l i) r (lC (Bv (lM l m) (cvU (i : Int)) D.toNat)) (o64 o) = false, RoundsIn W.cell?, (lC (Bv (lM l m) (cvU (i : Int)) D.toNat)).length < 1048576, lU (Bv (lM l m) (cvU (i : Int)) D.toNat), RemU o, Reads W.cell? g.a (rsAt l) (i * 32) 32, IX (i : Int) m,
      VQ (elL l i) r (lC (Bv (lM l m) (cvU (i : Int)) D.toNat)) (cvU (i : Int)) = true, RoundsIn W.cell?, (lC (Bv (lM l m) (cvU (i : Int)) D.toNat)).length < 1048576, lU (Bv (lM l m) (cvU (i : Int)) D.toNat), Reads W.cell? g.a (rsAt l) (i * 32) 32, IX (i : Int) m,
      RoundsIn W.cell?, (lM l m).length < 1048576, Reads W.cell? g.a (rsAt l) 0 (m * 32), ∀ j, j < m * 32 → isU8 (rsAt l (0 + j)) = true, 0 ≤ D ∧ D ≤ ((9 : Nat) : Int), decide ((i : Int) < (m : Int)) = true] (by kernel_rfl)
      ⟨w, hw', tabsAre, hb, hu, remU o, rd, ix, hw, hr, hb, hu, remU o, rd, ix, hv, hr, hb, hu, rd, ix, hr, hl, rm, um, d9, lt, trivial⟩ (by kernel_rfl) (by kernel_rfl) e1 e2 e3 e4
theorem allS_end : Round c (loopNo Tryd.f16 10) (allS g l m cc D o r m) (.exit 0) (allS g l m cc D o r m) :=
  Round.of0 ht (saysY [(35, false)]) 6 [decide ((m : Int) < (m : Int)) = false] (by kernel_rfl) ⟨decide_eq_false (by omega), trivial⟩ (by kernel_rfl) (by kernel_rfl) e1 e2 e3 e4
end
end Go.Proofs.YtaloefkkllebeaaDoor
