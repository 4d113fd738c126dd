/- SHA-256: the law of blocks. -/
import Derived.Test.YtaloefkkllebeaaDoorSg2
set_option linter.unusedVariables false
set_option linter.unusedSimpArgs false
set_option linter.unusedSectionVars false
namespace Go.Sh
def headP (P : List UInt8) (n : Nat) : List UInt8 := (List.range (n - 0)).map fun j => u8of (byteAt (B := FB) P (0 + j))
theorem headP_take (P : List UInt8) (n : Nat) (h : n ≤ P.length) : headP P n = P.take n := by
  apply List.ext_getElem
  · simp [headP]; omega
  · intro j h1 h2
    simp [headP] at h1
    simp [headP, byteAt, u8of, List.getD_eq_getElem?_getD, show j < P.length by omega]
end Go.Sh
namespace Go.Proofs.YtaloefkkllebeaaDoor
open Go Go.Sh
noncomputable def placeP (b : Bool) : Row A := rowIn Tryd.prog [] [] (says [(9, b)]) 4 31 Tryd.f31
theorem placeP_ok (b : Bool) : RowOK Tryd.prog (placeP b) := rowIn_ok (TblOK.nil _) (ITblOK.nil _) _ 4 Tryd.func31 (by kernel_rfl) (by kernel_rfl)
noncomputable def tblSb (b : Bool) (Pd : List UInt8 → List UInt8) (Wk : List UInt8 → Int → List UInt8) (Eq : List UInt8 → List UInt8 → Bool) : List (Row A) :=
  [rowOf A 24 (fun _ : GA Unit => true), rowOf A 30 (fun x : Bt × Unit => (⟨Pd x.1.l⟩ : Bz)), placeP b, rowOf A 32 (fun x : Bt × Int × Unit => (⟨Wk x.1.l x.2.1⟩ : Bz)),
    rowOf A 29 (fun x : Bs × Bs × Unit => Eq x.1.l x.2.1.l)]
theorem tblSb_ok (b : Bool) : TblOK Tryd.prog (tblSb b padL (fun l m => (padL l).take (64 * wkN l m)) (fun a b => a == b)) :=
  .cons known_ok.row (.cons pad_ok.row (.cons (placeP_ok b) (.cons walk_ok.row (.cons sameBytes_ok.row (.nil _)))))
theorem shaBlocks_of (Pd : List UInt8 → List UInt8) (Wk : List UInt8 → Int → List UInt8) (Eq : List UInt8 → List UInt8 → Bool) (ht : ∀ b, TblOK Tryd.prog (tblSb b Pd Wk Eq))
    (hP : ∀ l, Pd l = padL l) (hW : ∀ l m, Wk l m = (padL l).take (64 * wkN l m)) (hE : ∀ l, Eq l l = true) :
    Computes A Tryd.prog 4 (fun _ : GA (Bs × Int × Unit) => true) := by
  refine computes_of_runT Tryd.func4 (by kernel_rfl) (by kernel_rfl) 8 ?_
  rintro ⟨g, _⟩ ⟨⟨⟨l⟩, z, ⟨⟩⟩⟩ W ⟨hr, hg, _⟩
  have hg : HasBytes W l g := hg
  by_cases hl : l.length ≤ 5000
  · obtain ⟨p, hp⟩ : ∃ p, p = partB l 0 l.length := ⟨_, rfl⟩
    have hpl : p = l := by rw [hp, partB_all]
    have hn : p.length < 1048576 := by rw [hpl]; omega
    have h64 := padL_64 p
    have hlen := padL_len p
    have hz : zerosN p.length < 64 := Nat.mod_lt _ (by decide)
    obtain ⟨K, hK⟩ : ∃ K, (padL p).length = 64 * K := ⟨(padL p).length / 64, by omega⟩
    have hK0 : 0 < K := by omega
    have hKb : K < 20000 := by rw [hpl] at hlen hz hK; omega
    have hPd : (Pd p).length = 64 * K := by rw [hP, hK]
    have hdiv : ((Pd p).length : Int).tdiv 64 = K := by rw [hPd]; show (((64 * K) / 64 : Nat) : Int) = K; rw [Nat.mul_div_cancel_left _ (by decide)]
    have hmod1 : z.tmod (((Pd p).length : Int).tdiv 64) < K := by
      rw [hdiv]
      have := Int.tmod_lt_of_pos z (show (0 : Int) < K by omega)
      omega
    have hmod2 : -(K : Int) < z.tmod (((Pd p).length : Int).tdiv 64) := by
      rw [hdiv]
      have := Int.lt_tmod_of_pos z (show (0 : Int) < K by omega)
      omega
    have hw2 : partB (Wk p ((Pd p).length : Int)) 0 (Wk p ((Pd p).length : Int)).length = partB (Pd p) 0 (Pd p).length := by
      rw [partB_all, partB_all, hW, hPd, hP]
      have : wkN p ((64 * K : Nat) : Int) = K := by unfold wkN; rw [hK, Nat.mul_div_cancel_left _ (by decide)]; omega
      rw [this, ← hK, List.take_length]
    have key : ∀ a : Int, 0 ≤ a → a < K → partB (Wk p (a + 1)) 0 (Wk p (a + 1)).length = headP (Pd p) (64 * a + 64).toNat := by
      intro a h1 h2
      rw [partB_all, headP_take _ _ (by rw [hPd]; omega), hW, hP]
      congr 1
      unfold wkN
      rw [hK, Nat.mul_div_cancel_left _ (by decide)]
      omega
    have e2 : Eq (partB (Wk p ((Pd p).length : Int)) 0 (Wk p ((Pd p).length : Int)).length) (partB (Pd p) 0 (Pd p).length) = true := by rw [hw2]; exact hE _
    have all8 : ∀ L : List UInt8, AllU8 L := allU8
    have head8 : ∀ (L : List UInt8) (n : Nat), ∀ j, j < n - 0 → isU8 (byteAt (B := FB) L (0 + j)) = true := fun L n j _ => rfl
    have hKI : (((Pd p).length : Int).tdiv 64) ≠ 0 := by rw [hdiv]; omega
    have wK : WrapI (((Pd p).length : Int).tdiv 64) := by rw [hdiv]; exact wI (by omega) (by omega)
    cases hs : decide (z.tmod (((Pd p).length : Int).tdiv 64) < 0) with
    | true =>
      have hs' : z.tmod (((Pd p).length : Int).tdiv 64) < 0 := of_decide_eq_true hs
      obtain ⟨a, ha⟩ : ∃ a, a = z.tmod (((Pd p).length : Int).tdiv 64) + ((Pd p).length : Int).tdiv 64 := ⟨_, rfl⟩
      have ha1 : 0 ≤ a := by rw [ha]; rw [hdiv] at hmod2 ⊢; omega
      have ha2 : a < K := by rw [ha]; rw [hdiv] at hs' ⊢; omega
      have e1 : Eq (partB (Wk p (a + 1)) 0 (Wk p (a + 1)).length) (headP (Pd p) (64 * a + 64).toNat) = true := by rw [key a ha1 ha2]; exact hE _
      have bd : 0 ≤ 64 * a + 64 ∧ 64 * a + 64 ≤ ((Pd p).length : Int) := by rw [hPd]; omega
      have w1 : WrapI a := wI (by omega) (by omega)
      have w2 : WrapI (a + 1) := wI (by omega) (by omega)
      have w3 : WrapI (64 * a) := wI (by omega) (by omega)
      have w4 : WrapI (64 * a + 64) := wI (by omega) (by omega)
      refine ⟨_, _, ht true, ITblOK.nil _, saysY [(10, false)], noLoop, true,
        [Eq (partB (Wk p ((Pd p).length : Int)) 0 (Wk p ((Pd p).length : Int)).length) (partB (Pd p) 0 (Pd p).length) = true, AllU8 (Wk p ((Pd p).length : Int)), AllU8 (Pd p), p.length < 1048576, ReadB W g l, AllU8 l,
          Eq (partB (Wk p (a + 1)) 0 (Wk p (a + 1)).length) (headP (Pd p) (64 * a + 64).toNat) = true, AllU8 (Wk p (a + 1)), ∀ j, j < (64 * a + 64).toNat - 0 → isU8 (byteAt (B := FB) (Pd p) (0 + j)) = true, 0 ≤ 64 * a + 64 ∧ 64 * a + 64 ≤ ((Pd p).length : Int), WrapI (64 * a + 64), WrapI (64 * a),
          p.length < 1048576, ReadB W g l, AllU8 l, WrapI (a + 1), WrapI a, decide (z.tmod (((Pd p).length : Int).tdiv 64) < 0) = true, (((Pd p).length : Int).tdiv 64) ≠ 0, WrapI (((Pd p).length : Int).tdiv 64), p.length < 1048576, ReadB W g l, AllU8 l, decide ((l.length : Int) > 5000) = false, true = true, RoundsIn W.cell?], ?_,
        ⟨e2, all8 _, all8 _, hn, readB hg, allU8 l, e1, all8 _, head8 _ _, bd, w4, w3, hn, readB hg, allU8 l, w2, w1, hs, hKI, wK, hn, readB hg, allU8 l, decide_eq_false (by omega), rfl, hr, trivial⟩, rfl, fun body _ => loopsFor_none⟩
      subst ha
      subst hp
      kernel_rfl
    | false =>
      have hs' : ¬ z.tmod (((Pd p).length : Int).tdiv 64) < 0 := of_decide_eq_false hs
      obtain ⟨a, ha⟩ : ∃ a, a = z.tmod (((Pd p).length : Int).tdiv 64) := ⟨_, rfl⟩
      have ha1 : 0 ≤ a := by rw [ha]; omega
      have ha2 : a < K := by rw [ha]; omega
      have e1 : Eq (partB (Wk p (a + 1)) 0 (Wk p (a + 1)).length) (headP (Pd p) (64 * a + 64).toNat) = true := by rw [key a ha1 ha2]; exact hE _
      have bd : 0 ≤ 64 * a + 64 ∧ 64 * a + 64 ≤ ((Pd p).length : Int) := by rw [hPd]; omega
      have w2 : WrapI (a + 1) := wI (by omega) (by omega)
      have w3 : WrapI (64 * a) := wI (by omega) (by omega)
      have w4 : WrapI (64 * a + 64) := wI (by omega) (by omega)
      refine ⟨_, _, ht false, ITblOK.nil _, saysY [(10, false)], noLoop, true,
        [Eq (partB (Wk p ((Pd p).length : Int)) 0 (Wk p ((Pd p).length : Int)).length) (partB (Pd p) 0 (Pd p).length) = true, AllU8 (Wk p ((Pd p).length : Int)), AllU8 (Pd p), p.length < 1048576, ReadB W g l, AllU8 l,
          Eq (partB (Wk p (a + 1)) 0 (Wk p (a + 1)).length) (headP (Pd p) (64 * a + 64).toNat) = true, AllU8 (Wk p (a + 1)), ∀ j, j < (64 * a + 64).toNat - 0 → isU8 (byteAt (B := FB) (Pd p) (0 + j)) = true, 0 ≤ 64 * a + 64 ∧ 64 * a + 64 ≤ ((Pd p).length : Int), WrapI (64 * a + 64), WrapI (64 * a),
          p.length < 1048576, ReadB W g l, AllU8 l, WrapI (a + 1), decide (z.tmod (((Pd p).length : Int).tdiv 64) < 0) = false, (((Pd p).length : Int).tdiv 64) ≠ 0, WrapI (((Pd p).length : Int).tdiv 64), p.length < 1048576, ReadB W g l, AllU8 l, decide ((l.length : Int) > 5000) = false, true = true, RoundsIn W.cell?], ?_,
        ⟨e2, all8 _, all8 _, hn, readB hg, allU8 l, e1, all8 _, head8 _ _, bd, w4, w3, hn, readB hg, allU8 l, w2, hs, hKI, wK, hn, readB hg, allU8 l, decide_eq_false (by omega), rfl, hr, trivial⟩, rfl, fun body _ => loopsFor_none⟩
      subst ha
      subst hp
      kernel_rfl
  · exact ⟨_, _, ht true, ITblOK.nil _, saysY [], noLoop, true, [decide ((l.length : Int) > 5000) = true, true = true, RoundsIn W.cell?], by kernel_rfl, ⟨decide_eq_true (by omega), rfl, hr, trivial⟩, rfl, fun body _ => loopsFor_none⟩
theorem shaBlocks_ok : Computes A Tryd.prog 4 (fun _ : GA (Bs × Int × Unit) => true) :=
  shaBlocks_of padL (fun l m => (padL l).take (64 * wkN l m)) (fun a b => a == b) tblSb_ok (fun _ => rfl) (fun _ _ => rfl) (fun _ => beq_self_eq_true _)
end Go.Proofs.YtaloefkkllebeaaDoor
