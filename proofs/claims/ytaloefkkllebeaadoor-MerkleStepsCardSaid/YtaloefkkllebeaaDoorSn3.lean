/- Steps: the law. -/
import Derived.Test.YtaloefkkllebeaaDoorSn2
set_option linter.unusedVariables false
set_option linter.unusedSimpArgs false
set_option linter.unusedSectionVars false
namespace Go.Sh
theorem cutBo_take (L : List Bool) (n : Nat) (h : n ≤ L.length) : cutBo (boAt L) 0 n = L.take n := by
  apply List.ext_getElem?
  intro k
  unfold cutBo
  rw [List.getElem?_map, List.getElem?_take]
  by_cases hk : k < n
  · rw [if_pos hk, List.getElem?_range hk]
    show some (L.getD (0 + k) false) = _
    rw [Nat.zero_add, List.getD_eq_getElem?_getD, List.getElem?_eq_getElem (by omega)]
    rfl
  · rw [if_neg hk, List.getElem?_eq_none (by simp; omega)]
    rfl
end Go.Sh
namespace Go.Proofs.YtaloefkkllebeaaDoor
open Go Go.Sh
theorem walkL_len (ix : UInt64) (d most : Int) : (walkL ix d most).length = cntW d most := cutBo_len _ _ _
theorem walkL_at (ix : UInt64) (d most : Int) (k : Nat) (h : k < cntW d most) : (walkL ix d most).getD k false = bitW ix k := by
  unfold walkL
  rw [cutBo_at _ _ _ _ h, Nat.zero_add, wF_at ix _ _ h]
  rfl
theorem walkL_list (ix : UInt64) (d most : Int) : walkL ix d most = (List.range (cntW d most)).map (bitW ix) := by
  unfold walkL cutBo
  refine List.map_congr_left fun j hj => ?_
  rw [Nat.zero_add, wF_at ix _ _ (List.mem_range.1 hj)]
  rfl
def lkQ : List (Nat × Bool) → Nat → Option Bool
  | [], _ => none
  | (d, b) :: r, t => match Nat.beq d t with | true => some b | false => lkQ r t
abbrev WlT := UInt64 → Int → Int → List Bool
noncomputable def tblF14 (Wl : WlT) (Bt : List Bool → List Bool → Bool) : List (Row A) :=
  [rowOf A 51 (fun _ : GA Unit => true), rowOf A 62 (fun x : UInt64 × Int × Int × Unit => (⟨Wl x.1 x.2.1 x.2.2.1, true⟩ : Wz)), rowOf A 31 (fun x : Int × Ps × Unit => placeV x.1 x.2.1.z), rowOf A 63 (fun x : Bo × Bo × Unit => Bt x.1.l x.2.1.l)]
def stS (ix : UInt64) (d p : Int) (L : List Bool) (i : Nat) : St A :=
  ⟨slots 0 66 [(0, .val false [.a (.u64 ix)]), (1, .val false [.n .i64 d]), (2, .val false [.n .i64 p]), (6, .val false [.v (.bool false)]), (7, .val false [.n .i64 (mmI d)]), (8, .val false [.kn (boAt L) 0 L.length 1]), (10, .val false [.n .i64 (i : Int)])], [], 0, [], []⟩
section
variable {Wl : WlT} {Bt : List Bool → List Bool → Bool} (ht : TblOK Tryd.prog (tblF14 Wl Bt)) (hL : ∀ ix d, ((Wl ix d 100).length : Int) = mmI d) (hA : ∀ ix d k, k < (Wl ix d 100).length → (Wl ix d 100).getD k false = bitQ ix k)
  (hT : ∀ ix d p, 0 ≤ p → (Wl ix d p).length ≤ 64 ∧ Bt (cutBo (boAt (Wl ix d p)) 0 (Wl ix d p).length) (cutBo (boAt (Wl ix d 100)) 0 ((extI false p (mmI d)).toNat - 0)) = true)
include ht hL hA hT
theorem merkleSteps_of : Computes A Tryd.prog 14 (fun _ : GA (UInt64 × Int × Int × Unit) => true) := by
  refine computes_of_runT Tryd.func14 (by kernel_rfl) (by kernel_rfl) 6 ?_
  rintro _ ⟨⟨ix, d, p, ⟨⟩⟩⟩ W ⟨hr, _⟩
  have h64 := mmI_eq d
  have hl := hL ix d
  have ha := hA ix d
  obtain ⟨p1, p2⟩ := placeV_ok p (n := 70) (by decide)
  obtain ⟨t1, t2⟩ := hT ix d (placeV p 70) p1
  have hne : (((Wl ix d 100).length : Int) != mmI d) = false := by rw [hl]; simp
  have hh : 0 ≤ extI false (placeV p 70) (mmI d) ∧ extI false (placeV p 70) (mmI d) ≤ ((Wl ix d 100).length : Int) := by
    rw [hl]
    unfold extI
    simp only [Bool.false_eq_true, if_false]
    split <;> omega
  have hs : SoundFor Tryd.prog W.cell? [] (.loop (loopNo Tryd.f14 8)) (stS ix d p (Wl ix d 100) 0) (.exit 0) (stS ix d p (Wl ix d 100) (Wl ix d 100).length) := fun c e1 e2 e3 e4 =>
    loopAt (c := c) (inv := fun i => stS ix d p (Wl ix d 100) i) (N := (Wl ix d 100).length) (by simp)
      (fun i hi => by
        have he : (!((Wl ix d 100).getD i false == bitQ ix i)) = false := by rw [ha i hi]; simp
        revert hi he hl ha
        generalize Wl ix d 100 = L
        intro hl ha hi he
        exact Round.of0 ht (orBt (lkQ [(34, true), (46, false)])) 6 [WrapI ((i : Int) + 1), (!(L.getD i false == bitQ ix i)) = false, (0 : Int) ≤ (i : Int), IX (i : Int) L.length, decide ((i : Int) < mmI d) = true] (by kernel_rfl)
          ⟨wI (by omega) (by omega), he, by omega, ⟨by omega, by omega⟩, decide_eq_true (by omega), trivial⟩ (by kernel_rfl) (by kernel_rfl) e1 e2 e3 e4)
      (by
        revert hl
        generalize Wl ix d 100 = L
        intro hl
        exact Round.of0 ht (orBt (lkQ [(34, false)])) 6 [decide ((L.length : Int) < mmI d) = false] (by kernel_rfl) ⟨decide_eq_false (by omega), trivial⟩ (by kernel_rfl) (by kernel_rfl) e1 e2 e3 e4)
  refine ⟨_, _, ht, ITblOK.nil _, orBt (lkQ [(13, true), (24, true), (30, false), (56, true), (64, true)]), lps [(8, stS ix d p (Wl ix d 100) 0, .exit 0, stS ix d p (Wl ix d 100) (Wl ix d 100).length)], true,
    [Bt (cutBo (boAt (Wl ix d (placeV p 70))) 0 (Wl ix d (placeV p 70)).length) (cutBo (boAt (Wl ix d 100)) 0 ((extI false (placeV p 70) (mmI d)).toNat - 0)) = true, ∀ j, j < (Wl ix d (placeV p 70)).length → isBo (boAt (Wl ix d (placeV p 70)) (0 + j)) = true, (Wl ix d (placeV p 70)).length < 1048576,
      ∀ j, j < (extI false (placeV p 70) (mmI d)).toNat - 0 → isBo (boAt (Wl ix d 100) (0 + j)) = true, (extI false (placeV p 70) (mmI d)).toNat - 0 < 1048576, 0 ≤ extI false (placeV p 70) (mmI d) ∧ extI false (placeV p 70) (mmI d) ≤ ((Wl ix d 100).length : Int), true = true, (0 : Int) < 70 ∧ (70 : Int) ≤ 4611686018427387904,
      ToldIs (stS ix d p (Wl ix d 100) 0), (((Wl ix d 100).length : Int) != mmI d) = false, true = true, true = true, RoundsIn W.cell?], by kernel_rfl,
    ⟨t2, fun _ _ => rfl, by omega, fun _ _ => rfl, by omega, hh, rfl, ⟨by decide, by decide⟩, toldIs _, hne, rfl, rfl, hr, trivial⟩, rfl, fun body hb => ?_⟩
  obtain rfl := Option.some.inj hb
  exact LoopsFor.cons (by kernel_rfl) hs LoopsFor.nil
end
theorem merkleSteps_ok : Computes A Tryd.prog 14 (fun _ : GA (UInt64 × Int × Int × Unit) => true) := by
  refine merkleSteps_of (Wl := walkL) (Bt := bitsV) (.cons known18_ok.row (.cons walk18_ok.row (.cons place_ok.row (.cons bits_ok.row (.nil _))))) (fun ix d => ?_) (fun ix d k hk => ?_) (fun ix d p hp => ?_)
  · have h64 := mmI_eq d
    have hz := zeN_eq d
    rw [walkL_len]
    unfold cntW
    omega
  · rw [walkL_len] at hk
    have h64 := mmI_eq d
    have hz := zeN_eq d
    rw [walkL_at _ _ _ _ hk, bitW_eq ix (by unfold cntW at hk; omega)]
  · have h64 := mmI_eq d
    have hz := zeN_eq d
    have hc : (extI false p (mmI d)).toNat - 0 = cntW d p := by
      unfold cntW extI
      simp only [Bool.false_eq_true, if_false]
      split <;> omega
    have hle : cntW d p ≤ cntW d 100 := by unfold cntW; omega
    refine ⟨by rw [walkL_len]; unfold cntW; omega, ?_⟩
    rw [hc, cutBo_take _ _ (Nat.le_refl _), List.take_length, cutBo_take _ _ (by rw [walkL_len]; exact hle)]
    have e : (walkL ix d 100).take (cntW d p) = walkL ix d p := by
      rw [walkL_list, walkL_list, ← List.map_take, List.take_range, Nat.min_eq_left hle]
    rw [e]
    exact bitsV_self _
end Go.Proofs.YtaloefkkllebeaaDoor
