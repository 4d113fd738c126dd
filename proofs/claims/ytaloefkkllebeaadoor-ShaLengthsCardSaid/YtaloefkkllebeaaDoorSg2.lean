/- SHA-256: the walk's contract. -/
import Derived.Test.YtaloefkkllebeaaDoorSg1
set_option linter.unusedVariables false
set_option linter.unusedSimpArgs false
set_option linter.unusedSectionVars false
namespace Go.Sh
/-- So many blocks are those of P. -/
def Holds (P : List UInt8) (F : Nat → A) (q : Nat) : Prop := ∀ j, j < 64 * q → F j = .u8 (P.getD j 0)
theorem cells64_at (b : Nat → UInt8) (j : Nat) (h : j < 64) : cells64 b j = .u8 (b j) := by
  unfold cells64
  rw [List.getElem?_map, List.getElem?_range h]
  rfl
def nextG (F : Nat → A) (n : Nat) (b : Nat → UInt8) : Nat → A := catF F (timesN n (0 + 1)) (cells64 b) 0
theorem Holds.next {P : List UInt8} {F : Nat → A} {q : Nat} (h : Holds P F q) {b : Nat → UInt8} (hb : ∀ j, j < 64 → b j = P.getD (64 * q + j) 0) : Holds P (nextG F (nG q) b) (q + 1) := by
  intro j hj
  have e : timesN (nG q) (0 + 1) = 64 * q := by rw [timesN_eq, Nat.zero_add, Nat.mul_one, nG_eq]
  unfold nextG
  rw [e]
  rcases Nat.lt_or_ge j (64 * q) with h' | h'
  · rw [catF_lt _ _ _ _ _ h', h j h']
  · rw [catF_ge _ _ _ _ _ h', Nat.zero_add, cells64_at _ _ (by omega), hb _ (by omega), Nat.add_sub_cancel' h']
def resL (F : Nat → A) (n : Nat) : List UInt8 := (List.range n).map fun j => u8of (F (0 + j))
theorem Holds.res {P : List UInt8} {F : Nat → A} {q : Nat} (h : Holds P F q) (hq : 64 * q ≤ P.length) : resL F (64 * q) = P.take (64 * q) := by
  apply List.ext_getElem
  · simp [resL]; omega
  · intro j h1 h2
    simp [resL] at h1
    simp only [resL, List.getElem_map, List.getElem_range, Nat.zero_add]
    rw [h j h1, List.getElem_take, List.getD_eq_getElem?_getD, List.getElem?_eq_getElem (by omega)]
    rfl
theorem Holds.isU8 {P : List UInt8} {F : Nat → A} {q : Nat} (h : Holds P F q) : ∀ j, j < 64 * q → isU8 (F (0 + j)) = true := fun j hj => by rw [Nat.zero_add, h j hj]; rfl
section
variable (l : List UInt8)
theorem pad_blk {k : Nat} (hk : k < l.length / 64) (j : Nat) (hj : j < 64) : blkF l (offK k) j = (padL l).getD (64 * k + j) 0 := by
  rw [blkF_at _ _ _ hj, offK_eq, padL_lo l (by omega)]
theorem bG_holds : ∀ q, q ≤ l.length / 64 → Holds (padL l) (bG l q) q
  | 0, _ => fun j hj => absurd hj (by omega)
  | q + 1, h => (bG_holds q (by omega)).next (fun j hj => pad_blk l (by omega) j hj)
def lastQ : Nat → UInt8 := lastA l (offK (l.length / 64)) (lenK l.length (l.length / 64)) l.length
def firstQ : Nat → UInt8 := pad1 l (offK (l.length / 64)) (lenK l.length (l.length / 64))
theorem restQ : lenK l.length (l.length / 64) = l.length % 64 := by rw [lenK_eq]; omega
theorem padQ_one (hb : l.length % 64 < 56) : (padL l).length / 64 = l.length / 64 + 1 ∧ ∀ j, j < 64 → lastQ l j = (padL l).getD (64 * (l.length / 64) + j) 0 := by
  have hlen := padL_len l
  have hr64 : l.length % 64 < 64 := Nat.mod_lt _ (by decide)
  have hz : zerosN l.length = 55 - l.length % 64 := by unfold zerosN; omega
  refine ⟨by rw [hlen, hz]; omega, fun j hj => ?_⟩
  unfold lastQ lastA
  rw [restQ, offK_eq, pickN_getD, List.getD_eq_getElem?_getD]
  rcases Nat.lt_or_ge j 56 with h56 | h56
  · rw [List.getElem?_append_left (by simpa using h56), List.getElem?_map, List.getElem?_range h56]
    show pad1 l _ _ j = _
    rw [pad1_at _ _ _ _ hr64]
    split
    · rename_i e; rw [show 64 * (l.length / 64) + j = l.length by omega, padL_mark]
    · split
      · rw [padL_lo l (by omega)]
      · rw [padL_zero l (by omega) (by omega)]
  · rw [List.getElem?_append_right (by simpa using h56), List.length_map, List.length_range, ← List.getD_eq_getElem?_getD]
    rw [show 64 * (l.length / 64) + j = l.length + 1 + zerosN l.length + (j - 56) by omega, padL_len8]
theorem padQ_two (hb : ¬ l.length % 64 < 56) : (padL l).length / 64 = l.length / 64 + 1 + 1 ∧ (∀ j, j < 64 → firstQ l j = (padL l).getD (64 * (l.length / 64) + j) 0) ∧ ∀ j, j < 64 → lastB l.length j = (padL l).getD (64 * (l.length / 64 + 1) + j) 0 := by
  have hlen := padL_len l
  have hr64 : l.length % 64 < 64 := Nat.mod_lt _ (by decide)
  have hz : zerosN l.length = 119 - l.length % 64 := by unfold zerosN; omega
  refine ⟨by rw [hlen, hz]; omega, fun j hj => ?_, fun j hj => ?_⟩
  · unfold firstQ
    rw [restQ, offK_eq, pad1_at _ _ _ _ hr64]
    split
    · rename_i e; rw [show 64 * (l.length / 64) + j = l.length by omega, padL_mark]
    · split
      · rw [padL_lo l (by omega)]
      · rw [padL_zero l (by omega) (by omega)]
  · unfold lastB
    rw [pickN_getD, List.getD_eq_getElem?_getD]
    rcases Nat.lt_or_ge j 56 with h56 | h56
    · rw [List.getElem?_append_left (by simpa using h56), List.getElem?_replicate, if_pos h56, padL_zero l (by omega) (by omega)]
      rfl
    · rw [List.getElem?_append_right (by simpa using h56), List.length_replicate, ← List.getD_eq_getElem?_getD]
      rw [show 64 * (l.length / 64 + 1) + j = l.length + 1 + zerosN l.length + (j - 56) by omega, padL_len8]
def wkN (most : Int) : Nat := min ((padL l).length / 64) (max 1 most.toNat)
end
end Go.Sh
namespace Go.Proofs.YtaloefkkllebeaaDoor
open Go Go.Sh
def orcK (b0 b1 : Bool) : Nat → Nat → Dec := fun rd t => match Nat.beq t 5 with | true => .grow 5 1 | false => match Nat.beq t 22 with | true => (match rd with | 0 => .take b0 | _ => .take b1) | false => .keep
noncomputable def itsL (b : Bool) (g : Spot) (l : List UInt8) (most : Int) (e : Ex) (s : St A) : List (IRow A) := [iterW Tryd.prog [endingR] (itsE b) (fun _ _ => .keep) (lps [(2, inK g l most (bG l 0) 0 (nG 0) (cntS 0) 0, e, s)]) 8 117 Tryd.f117]
theorem itsL_ok (b : Bool) (g : Spot) (l : List UInt8) (most : Int) (e : Ex) (s : St A) : ITblOK Tryd.prog (itsL b g l most e s) :=
  .cons (iterW_ok (.cons endingR_ok (.nil _)) (.cons (iter_ok (TblOK.nil _) (ITblOK.nil _) _ 12 Tryd.func120 (by kernel_rfl) (by kernel_rfl)) (ITblOK.nil _)) _ _ 8 Tryd.func117 (by kernel_rfl) (by kernel_rfl)) (ITblOK.nil _)
abbrev LoopK (W : World) (g : Spot) (l : List UInt8) (most : Int) (e : Ex) (s : St A) : Prop :=
  ∀ body, Tryd.f117.body = some body → LoopsFor Tryd.prog W.cell? [ysK g l most] (lps [(2, inK g l most (bG l 0) 0 (nG 0) (cntS 0) 0, e, s)]) body
theorem loopK {W : World} {g : Spot} {l : List UInt8} {most : Int} {e : Ex} {s : St A} (hs : SoundFor Tryd.prog W.cell? [ysK g l most] (.loop (loopNo Tryd.f117 2)) (inK g l most (bG l 0) 0 (nG 0) (cntS 0) 0) e s) : LoopK W g l most e s := fun body hb => by
  obtain rfl := Option.some.inj hb
  exact LoopsFor.cons (by kernel_rfl) hs LoopsFor.nil
section
variable {W : World} {g : Spot} {l : List UInt8} (hg : HasBytes W l g) (hn : l.length < 1048576) (most : Int)
include hg hn
theorem bearsG {q : Nat} (hq : q ≤ l.length / 64 + 1) : Sh.Bears (nG q + 64) 1 := by rw [nG_eq]; exact bears (by omega)
theorem stepsK {k : Cfg A} (q1 : k.P = Tryd.prog) (q2 : k.gl = (fun _ => none)) (q3 : k.old = W.cell?) (q4 : k.ys = [ysK g l most]) (i : Nat) (hi : i < l.length / 64) (hm : decide ((i : Int) + 1 ≥ most) = false) :
    Round k (loopNo Tryd.f117 2) (inK g l most (bG l i) i (nG i) (cntS i) i) .normal (inK g l most (bG l (i + 1)) (i + 1) (nG (i + 1)) (cntS (i + 1)) (i + 1)) := by
  have hc := hg.1
  exact inK_one g l most q1 q2 q3 q4 i hm (wI (by omega) (by omega)) (bearsG hg hn (by omega)) (by rw [lenK_eq]; omega) (by rw [lenK_eq]; omega) (reads_part hg (by rw [offK_eq]; omega))
theorem fullK (hm : ∀ i, i < l.length / 64 → (i : Int) + 1 < most) : SoundFor Tryd.prog W.cell? [ysK g l most] (.loop (loopNo Tryd.f117 2)) (inK g l most (bG l 0) 0 (nG 0) (cntS 0) 0) (.exit 0) (inK g l most (bG l (l.length / 64)) (l.length / 64) (nG (l.length / 64)) (cntS (l.length / 64)) (l.length / 64)) := by
  intro c q1 q2 q3 q4
  refine loopAt (c := c) (inv := fun i => inK g l most (bG l i) i (nG i) (cntS i) i) (N := l.length / 64) (by simp) (fun i hi => stepsK hg hn most q1 q2 q3 q4 i hi (decide_eq_false (by have := hm i hi; omega))) (inK_end g l most q1 q2 q3 q4 _ ?_)
  rw [lenK_eq]; omega
theorem someK (m : Nat) (hm : m + 1 ≤ l.length / 64) (h1 : ∀ i, i < m → ((i : Int) + 1 < most)) (h2 : most ≤ (m : Int) + 1) :
    SoundFor Tryd.prog W.cell? [ysK g l most] (.loop (loopNo Tryd.f117 2)) (inK g l most (bG l 0) 0 (nG 0) (cntS 0) 0) .ret (leftK g l most (bG l (m + 1)) (m + 1) (nG (m + 1)) (cntS (m + 1))) := by
  intro c q1 q2 q3 q4
  have hc := hg.1
  refine loopAt (c := c) (inv := fun i => inK g l most (bG l i) i (nG i) (cntS i) i) (N := m) (by simp) (fun i hi => stepsK hg hn most q1 q2 q3 q4 i (by omega) (decide_eq_false (by have := h1 i hi; omega)))
    (inK_left g l most q1 q2 q3 q4 m (decide_eq_true (by omega)) (wI (by omega) (by omega)) (bearsG hg hn (by omega)) (by rw [lenK_eq]; omega) (by rw [lenK_eq]; omega) (reads_part hg (by rw [offK_eq]; omega)))
end
theorem walk_ok : Computes A Tryd.prog 32 (fun x : Bt × Int × Unit => (⟨(padL x.1.l).take (64 * wkN x.1.l x.2.1)⟩ : Bz)) := by
  refine computes_of_runT Tryd.func32 (by kernel_rfl) (by kernel_rfl) 8 ?_
  rintro ⟨g, _⟩ ⟨⟨l⟩, most, ⟨⟩⟩ W ⟨⟨hg, hn⟩, _⟩
  have hg : HasBytes W l g := hg
  have hn : l.length < 1048576 := hn
  have ht : TblOK Tryd.prog [blocksR] := .cons blocksR_ok (.nil _)
  have h64 := padL_64 l
  have hP := padL_len l
  by_cases hm : most ≤ (l.length / 64 : Nat) ∧ 1 ≤ l.length / 64
  · obtain ⟨hm, hQ⟩ := hm
    obtain ⟨m, hmm⟩ : ∃ m, max 1 most.toNat = m + 1 := ⟨max 1 most.toNat - 1, by omega⟩
    have hs := someK hg hn most m (by omega) (fun i hi => by omega) (by omega)
    have hw : wkN l most = m + 1 := by unfold wkN; omega
    have hH := bG_holds l (m + 1) (by omega)
    have hle : 64 * (m + 1) ≤ (padL l).length := by omega
    have hu : ∀ j, j < nG (m + 1) → isU8 (bG l (m + 1) (0 + j)) = true := by rw [nG_eq]; exact hH.isU8
    have hy : (⟨resL (bG l (m + 1)) (nG (m + 1))⟩ : Bz) = ⟨(padL l).take (64 * wkN l most)⟩ := by rw [hw, nG_eq, hH.res hle]
    refine ⟨_, _, ht, itsL_ok true g l most .ret (leftK g l most (bG l (m + 1)) (m + 1) (nG (m + 1)) (cntS (m + 1))), orcK true true, noLoop, ⟨resL (bG l (m + 1)) (nG (m + 1))⟩,
      [∀ j, j < nG (m + 1) → isU8 (bG l (m + 1) (0 + j)) = true, LoopK W g l most .ret (leftK g l most (bG l (m + 1)) (m + 1) (nG (m + 1)) (cntS (m + 1))), ToldIs (inK g l most (bG l 0) 0 (nG 0) (cntS 0) 0)], ?_, ⟨hu, loopK hs, toldIs _, trivial⟩, hy, fun body _ => loopsFor_none⟩
    generalize m + 1 = q
    kernel_rfl
  · have hs := fullK hg hn most (fun i hi => by omega)
    have hH := bG_holds l (l.length / 64) (Nat.le_refl _)
    have hr : lenK l.length (l.length / 64) = l.length % 64 := restQ l
    have hr64 : l.length % 64 < 64 := Nat.mod_lt _ (by decide)
    have hrd : Reads W.cell? g.a (byteAt (B := FB) l) (offK (l.length / 64)) (lenK l.length (l.length / 64)) := reads_part hg (by rw [offK_eq, hr]; omega)
    have hu : ∀ (n i : Nat), ∀ j, j < min n (64 - 0) → ∃ x, (fun q => byteAt (B := FB) l (i + q)) j = .u8 x := fun n i j _ => ⟨_, rfl⟩
    have hK := loopK hs
    have ix : IX (lenK l.length (l.length / 64)) 64 := ⟨by omega, by rw [hr]; omega⟩
    have w1 : WrapI (((l.length / 64 : Nat) : Int) + 1) := wI (by omega) (by omega)
    have a1 : l.length / 64 = l.length / 64 ∧ timesN (nG (l.length / 64)) (0 + 1) = nG (l.length / 64) ∧ Sh.Bears (nG (l.length / 64) + 64) 1 := ⟨rfl, by rw [timesN_eq, Nat.zero_add, Nat.mul_one], bearsG hg hn (by omega)⟩
    by_cases hb : l.length % 64 < 56
    · obtain ⟨hk, hlast⟩ := padQ_one l hb
      have hH1 := hH.next hlast
      have hw : wkN l most = l.length / 64 + 1 := by unfold wkN; omega
      have hle : 64 * (l.length / 64 + 1) ≤ (padL l).length := by omega
      have hv : ∀ j, j < nG (l.length / 64) + 64 → isU8 (nextG (bG l (l.length / 64)) (nG (l.length / 64)) (lastQ l) (0 + j)) = true := by rw [nG_eq] at hH1 ⊢; exact hH1.isU8
      have hy : (⟨resL (nextG (bG l (l.length / 64)) (nG (l.length / 64)) (lastQ l)) (nG (l.length / 64) + 64)⟩ : Bz) = ⟨(padL l).take (64 * wkN l most)⟩ := by rw [hw, ← hH1.res hle, show 64 * (l.length / 64 + 1) = nG (l.length / 64) + 64 by rw [nG_eq]; omega]
      have d56 : decide (((lenK l.length (l.length / 64) : Nat) : Int) ≥ 56) = false := decide_eq_false (by rw [hr]; omega)
      obtain ⟨b, hbm⟩ : ∃ b, decide (((l.length / 64 : Nat) : Int) + 1 ≥ most) = b := ⟨_, rfl⟩
      refine ⟨_, _, ht, itsL_ok false g l most (.exit 0) (inK g l most (bG l (l.length / 64)) (l.length / 64) (nG (l.length / 64)) (cntS (l.length / 64)) (l.length / 64)), orcK true b, noLoop, ⟨resL (nextG (bG l (l.length / 64)) (nG (l.length / 64)) (lastQ l)) (nG (l.length / 64) + 64)⟩,
          [∀ j, j < nG (l.length / 64) + 64 → isU8 (nextG (bG l (l.length / 64)) (nG (l.length / 64)) (lastQ l) (0 + j)) = true, LoopK W g l most (.exit 0) (inK g l most (bG l (l.length / 64)) (l.length / 64) (nG (l.length / 64)) (cntS (l.length / 64)) (l.length / 64)),
            decide (((l.length / 64 : Nat) : Int) + 1 ≥ most) = b, WrapI (((l.length / 64 : Nat) : Int) + 1), l.length / 64 = l.length / 64 ∧ timesN (nG (l.length / 64)) (0 + 1) = nG (l.length / 64) ∧ Sh.Bears (nG (l.length / 64) + 64) 1,
            decide (((lenK l.length (l.length / 64) : Nat) : Int) ≥ 56) = false, IX (lenK l.length (l.length / 64)) 64, ∀ j, j < min (lenK l.length (l.length / 64)) (64 - 0) → ∃ x, (fun q => byteAt (B := FB) l (offK (l.length / 64) + q)) j = .u8 x,
            Reads W.cell? g.a (byteAt (B := FB) l) (offK (l.length / 64)) (lenK l.length (l.length / 64)), ToldIs (inK g l most (bG l 0) 0 (nG 0) (cntS 0) 0)], ?_, ⟨hv, hK, hbm, w1, a1, d56, ix, hu _ _, hrd, toldIs _, trivial⟩, hy, fun body _ => loopsFor_none⟩
      unfold lastQ
      generalize l.length / 64 = q
      cases b <;> kernel_rfl
    · obtain ⟨hk, hfst, hlast⟩ := padQ_two l hb
      have hH1 := hH.next hfst
      have hH2 := hH1.next hlast
      have d56 : decide (((lenK l.length (l.length / 64) : Nat) : Int) ≥ 56) = true := decide_eq_true (by rw [hr]; omega)
      cases h0 : decide (((l.length / 64 : Nat) : Int) + 1 ≥ most) with
      | true =>
        have h0' : ((l.length / 64 : Nat) : Int) + 1 ≥ most := of_decide_eq_true h0
        have hw : wkN l most = l.length / 64 + 1 := by unfold wkN; omega
        have hle : 64 * (l.length / 64 + 1) ≤ (padL l).length := by omega
        have hv : ∀ j, j < nG (l.length / 64) + 64 → isU8 (nextG (bG l (l.length / 64)) (nG (l.length / 64)) (firstQ l) (0 + j)) = true := by rw [nG_eq] at hH1 ⊢; exact hH1.isU8
        have hy : (⟨resL (nextG (bG l (l.length / 64)) (nG (l.length / 64)) (firstQ l)) (nG (l.length / 64) + 64)⟩ : Bz) = ⟨(padL l).take (64 * wkN l most)⟩ := by rw [hw, ← hH1.res hle, show 64 * (l.length / 64 + 1) = nG (l.length / 64) + 64 by rw [nG_eq]; omega]
        refine ⟨_, _, ht, itsL_ok true g l most (.exit 0) (inK g l most (bG l (l.length / 64)) (l.length / 64) (nG (l.length / 64)) (cntS (l.length / 64)) (l.length / 64)), orcK true true, noLoop, ⟨resL (nextG (bG l (l.length / 64)) (nG (l.length / 64)) (firstQ l)) (nG (l.length / 64) + 64)⟩,
          [∀ j, j < nG (l.length / 64) + 64 → isU8 (nextG (bG l (l.length / 64)) (nG (l.length / 64)) (firstQ l) (0 + j)) = true, LoopK W g l most (.exit 0) (inK g l most (bG l (l.length / 64)) (l.length / 64) (nG (l.length / 64)) (cntS (l.length / 64)) (l.length / 64)),
            decide (((l.length / 64 : Nat) : Int) + 1 ≥ most) = true, WrapI (((l.length / 64 : Nat) : Int) + 1), l.length / 64 = l.length / 64 ∧ timesN (nG (l.length / 64)) (0 + 1) = nG (l.length / 64) ∧ Sh.Bears (nG (l.length / 64) + 64) 1,
            decide (((lenK l.length (l.length / 64) : Nat) : Int) ≥ 56) = true, IX (lenK l.length (l.length / 64)) 64, ∀ j, j < min (lenK l.length (l.length / 64)) (64 - 0) → ∃ x, (fun q => byteAt (B := FB) l (offK (l.length / 64) + q)) j = .u8 x,
            Reads W.cell? g.a (byteAt (B := FB) l) (offK (l.length / 64)) (lenK l.length (l.length / 64)), ToldIs (inK g l most (bG l 0) 0 (nG 0) (cntS 0) 0)], ?_, ⟨hv, hK, h0, w1, a1, d56, ix, hu _ _, hrd, toldIs _, trivial⟩, hy, fun body _ => loopsFor_none⟩
        unfold firstQ
        generalize l.length / 64 = q
        kernel_rfl
      | false =>
        have h0' : ¬ ((l.length / 64 : Nat) : Int) + 1 ≥ most := of_decide_eq_false h0
        have hw : wkN l most = l.length / 64 + 1 + 1 := by unfold wkN; omega
        have hle : 64 * (l.length / 64 + 1 + 1) ≤ (padL l).length := by omega
        have hv : ∀ j, j < nG (l.length / 64) + 64 + 64 → isU8 (nextG (nextG (bG l (l.length / 64)) (nG (l.length / 64)) (firstQ l)) (nG (l.length / 64) + 64) (lastB l.length) (0 + j)) = true := by
          have e : nG (l.length / 64) + 64 + 64 = 64 * (l.length / 64 + 1 + 1) := by rw [nG_eq]; omega
          rw [e]
          exact hH2.isU8
        have hy : (⟨resL (nextG (nextG (bG l (l.length / 64)) (nG (l.length / 64)) (firstQ l)) (nG (l.length / 64) + 64) (lastB l.length)) (nG (l.length / 64) + 64 + 64)⟩ : Bz) = ⟨(padL l).take (64 * wkN l most)⟩ := by
          rw [hw, ← hH2.res hle, show 64 * (l.length / 64 + 1 + 1) = nG (l.length / 64) + 64 + 64 by rw [nG_eq]; omega]
          rfl
        have w2 : WrapI (((l.length / 64 : Nat) : Int) + 1 + 1) := wI (by omega) (by omega)
        have a2 : l.length / 64 + 1 = l.length / 64 + 1 ∧ timesN (nG (l.length / 64) + 64) (0 + 1) = nG (l.length / 64) + 64 ∧ Sh.Bears (nG (l.length / 64) + 64 + 64) 1 := ⟨rfl, by rw [timesN_eq, Nat.zero_add, Nat.mul_one], bearsG hg hn (q := l.length / 64 + 1) (by omega)⟩
        obtain ⟨b, hbm⟩ : ∃ b, decide (((l.length / 64 : Nat) : Int) + 1 + 1 ≥ most) = b := ⟨_, rfl⟩
        refine ⟨_, _, ht, itsL_ok true g l most (.exit 0) (inK g l most (bG l (l.length / 64)) (l.length / 64) (nG (l.length / 64)) (cntS (l.length / 64)) (l.length / 64)), orcK false b, noLoop, ⟨resL (nextG (nextG (bG l (l.length / 64)) (nG (l.length / 64)) (firstQ l)) (nG (l.length / 64) + 64) (lastB l.length)) (nG (l.length / 64) + 64 + 64)⟩,
          [∀ j, j < nG (l.length / 64) + 64 + 64 → isU8 (nextG (nextG (bG l (l.length / 64)) (nG (l.length / 64)) (firstQ l)) (nG (l.length / 64) + 64) (lastB l.length) (0 + j)) = true, LoopK W g l most (.exit 0) (inK g l most (bG l (l.length / 64)) (l.length / 64) (nG (l.length / 64)) (cntS (l.length / 64)) (l.length / 64)),
            decide (((l.length / 64 : Nat) : Int) + 1 + 1 ≥ most) = b, WrapI (((l.length / 64 : Nat) : Int) + 1 + 1), l.length / 64 + 1 = l.length / 64 + 1 ∧ timesN (nG (l.length / 64) + 64) (0 + 1) = nG (l.length / 64) + 64 ∧ Sh.Bears (nG (l.length / 64) + 64 + 64) 1,
            decide (((l.length / 64 : Nat) : Int) + 1 ≥ most) = false, WrapI (((l.length / 64 : Nat) : Int) + 1), l.length / 64 = l.length / 64 ∧ timesN (nG (l.length / 64)) (0 + 1) = nG (l.length / 64) ∧ Sh.Bears (nG (l.length / 64) + 64) 1,
            decide (((lenK l.length (l.length / 64) : Nat) : Int) ≥ 56) = true, IX (lenK l.length (l.length / 64)) 64, ∀ j, j < min (lenK l.length (l.length / 64)) (64 - 0) → ∃ x, (fun q => byteAt (B := FB) l (offK (l.length / 64) + q)) j = .u8 x,
            Reads W.cell? g.a (byteAt (B := FB) l) (offK (l.length / 64)) (lenK l.length (l.length / 64)), ToldIs (inK g l most (bG l 0) 0 (nG 0) (cntS 0) 0)], ?_, ⟨hv, hK, hbm, w2, a2, h0, w1, a1, d56, ix, hu _ _, hrd, toldIs _, trivial⟩, hy, fun body _ => loopsFor_none⟩
        unfold firstQ
        generalize l.length / 64 = q
        cases b <;> kernel_rfl
end Go.Proofs.YtaloefkkllebeaaDoor
