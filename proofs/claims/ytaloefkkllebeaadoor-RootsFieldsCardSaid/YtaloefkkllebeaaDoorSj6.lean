/- Trees, level by level: Root's contract. -/
import Derived.Test.YtaloefkkllebeaaDoorSj5
set_option linter.unusedVariables false
set_option linter.unusedSimpArgs false
set_option linter.unusedSectionVars false
namespace Go.Sh
/-- A sum of 32 bytes is just its bytes. -/
def Cut (Pr : R8 32 → R8 32 → R8 32) : Prop := ∀ a b, (⟨elR (Pr a b).f 0⟩ : R8 32) = Pr a b
theorem two_pos (j : Nat) : (two j : Int) = ((2 * j : Nat) : Int) := by rw [two_eq]
section
variable (Pr : R8 32 → R8 32 → R8 32) (l : List (R8 32))
theorem lvU_len : ∀ k, (lvU Pr l k).n ≤ l.length
  | 0 => Nat.le_refl _
  | k + 1 => by
    have := lvU_len k
    show ((lvU Pr l k).n + 1) / 2 ≤ _
    omega
theorem rows_len (x : Lv) : x.rows.length = x.n := by simp [Lv.rows]
theorem rows_at (x : Lv) (k : Nat) (h : k < x.n) (o : R8 32) : x.rows.getD k o = ⟨elR x.B (k * 32)⟩ := by
  unfold Lv.rows
  rw [List.getD_eq_getElem?_getD, List.getElem?_map, List.getElem?_range h]
  rfl
end
end Go.Sh
namespace Go.Proofs.YtaloefkkllebeaaDoor
open Go Go.Sh
theorem pair_cut : Cut pairR8 := by
  intro a b
  unfold pairR8
  generalize compF (compF firstF (both a.f b.f)) end64 = s
  kernel_rfl
section
variable (Pr : R8 32 → R8 32 → R8 32) (l : List (R8 32))
theorem lvU_rows (hc : Cut Pr) : ∀ k, (lvU Pr l k).rows = levL Pr zR (nm l) k
  | 0 => by
    show (List.range l.length).map (fun k => (⟨elR (fun q => rsB l (0 + q)) (k * 32)⟩ : R8 32)) = (List.range l.length).map fun k => ⟨elL l k⟩
    refine List.map_congr_left fun k _ => ?_
    rw [elR_congr (G := rsB l) (k := k * 32) (fun j _ => by rw [Nat.zero_add])]
    rfl
  | k + 1 => by
    have ih := lvU_rows hc k
    show _ = upL Pr (zK Pr zR k) (levL Pr zR (nm l) k)
    rw [← ih]
    have hn : (lvU Pr l k).rows.length = (lvU Pr l k).n := rows_len _
    apply List.ext_getElem?
    intro j
    by_cases hj : j < ((lvU Pr l k).n + 1) / 2
    · have h1 : (lvU Pr l (k + 1)).rows.length = ((lvU Pr l k).n + 1) / 2 := rows_len _
      have h2 : (upL Pr (zK Pr zR k) (lvU Pr l k).rows).length = ((lvU Pr l k).n + 1) / 2 := by rw [upL_len, hn]
      have e1 := rows_at (lvU Pr l (k + 1)) j hj zR
      have e2 := upL_at Pr (zK Pr zR k) zR (lvU Pr l k).rows j (by rw [hn]; exact hj)
      rw [List.getD_eq_getElem?_getD, List.getElem?_eq_getElem (by omega)] at e1 e2
      rw [List.getElem?_eq_getElem (by omega), List.getElem?_eq_getElem (by omega)]
      congr 1
      refine (show (lvU Pr l (k + 1)).rows[j] = _ from e1).trans (Eq.trans ?_ (show (upL Pr (zK Pr zR k) (lvU Pr l k).rows)[j] = _ from e2).symm)
      have hup : ∀ i, i < 32 → (lvU Pr l (k + 1)).B (j * 32 + i) = (Pr ⟨elR (lvU Pr l k).B (two j * 32)⟩ ⟨riU (lvU Pr l k).B (lvU Pr l k).n (zK Pr zR k).f j⟩).f i := fun i hi => upB_at Pr _ _ _ _ _ _ hj hi
      rw [elR_congr (G := (Pr ⟨elR (lvU Pr l k).B (two j * 32)⟩ ⟨riU (lvU Pr l k).B (lvU Pr l k).n (zK Pr zR k).f j⟩).f) (k := 0) (fun i hi => by rw [hup i hi, Nat.zero_add]), hc]
      rw [rows_at _ _ (by omega), hn, two_eq]
      congr 1
      unfold riU
      by_cases hm : 2 * j + 1 < (lvU Pr l k).n
      · rw [if_pos hm, rows_at _ _ hm, two_eq]
        rw [decide_eq_true (show ((2 * j : Nat) : Int) + 1 < ((lvU Pr l k).n : Int) by omega)]
      · rw [if_neg hm, two_eq]
        rw [decide_eq_false (show ¬ ((2 * j : Nat) : Int) + 1 < ((lvU Pr l k).n : Int) by omega)]
    · rw [List.getElem?_eq_none (by rw [rows_len]; show ((lvU Pr l k).n + 1) / 2 ≤ j; omega), List.getElem?_eq_none (by rw [upL_len, hn]; omega)]
/-- What the root is, behind so many levels. -/
def oS : Nat → Nat → UInt8
  | 0 => zR.f
  | k + 1 => oV (lvU Pr l k).B (lvU Pr l k).n (zK Pr zR k).f
theorem oS_tree (hc : Cut Pr) (k : Nat) : (⟨oS Pr l (k + 1)⟩ : R8 32) = treeN Pr l k := by
  unfold treeN
  rw [← root_lev, ← lvU_rows Pr l hc]
  show (⟨oV (lvU Pr l k).B (lvU Pr l k).n (zK Pr zR k).f⟩ : R8 32) = _
  unfold oV
  by_cases h : 0 < (lvU Pr l k).n
  · rw [decide_eq_true (show ((lvU Pr l k).n : Int) > 0 by omega), rows_at _ _ h]
  · rw [decide_eq_false (show ¬ ((lvU Pr l k).n : Int) > 0 by omega), List.getD_eq_getElem?_getD, List.getElem?_eq_none (by rw [rows_len]; omega)]
    rfl
def rootV (lim : Int) : T2 (R8 32) Int := match decide ((l.length : Int) > maxI lim) with | true => ⟨zR, 180⟩ | false => ⟨treeN Pr l (dR lim), 0⟩
end
noncomputable def tblRo (Pr : R8 32 → R8 32 → R8 32) : List (Row A) := [rowOf A 102 (fun x : Int × Unit => ((depQ x.1 : Nat) : Int)), levelsRow]
theorem tblRo_ok (Pr : R8 32 → R8 32 → R8 32) : TblOK Tryd.prog (tblRo Pr) := .cons depthOf_ok.row (.cons levelsRow_ok (.nil _))
noncomputable def itR (Pr : R8 32 → R8 32 → R8 32) (g : Spot) (l : List (R8 32)) (lim : Int) (o z B : Nat → UInt8) (n : Nat) : List (IRow A) :=
  [iterW Tryd.prog (tblSp' Pr) [] (fun _ _ => .keep) (lps [(3, outU g l lim zR.f zR.f (fun q => rsB l (0 + q)) l.length 0, .exit 0, outU g l lim o z B n (dR lim + 1))]) 6 123 Tryd.f123]
theorem root_of {Pr : R8 32 → R8 32 → R8 32} (hc : Cut Pr) (ht : TblOK Tryd.prog (tblSp' Pr)) : Computes A Tryd.prog 53 (fun x : GA (Rt 32 × Int × Unit) => rootV Pr x.x.1.l x.x.2.1) := by
  refine computes_of_runT Tryd.func53 (by kernel_rfl) (by kernel_rfl) 6 ?_
  rintro ⟨g, _⟩ ⟨⟨⟨l⟩, lim, ⟨⟩⟩⟩ W ⟨hr, ⟨hg, hn⟩, _⟩
  have hG : HasRows W l g := hg
  have hN : l.length < 1048576 := hn
  show ∃ tbl its, _ ∧ _ ∧ ∃ orc lp y vc, _ ∧ _ ∧ y = rootV Pr l lim ∧ _
  unfold rootV
  cases hl : decide ((l.length : Int) > maxI lim) with
  | true => exact ⟨_, _, tblRo_ok Pr, ITblOK.nil _, saysY [], noLoop, ⟨zR, 180⟩, [decide ((l.length : Int) > maxI lim) = true], by kernel_rfl, ⟨hl, trivial⟩, rfl, fun body _ => loopsFor_none⟩
  | false =>
    have hd : dR lim ≤ 62 := depQ_le _
    have hs : SoundFor Tryd.prog W.cell? [ysR g l lim] (.loop (loopNo Tryd.f123 3)) (outU g l lim zR.f zR.f (fun q => rsB l (0 + q)) l.length 0) (.exit 0) (outU g l lim (oS Pr l (dR lim + 1)) (zK Pr zR (dR lim + 1)).f (lvU Pr l (dR lim + 1)).B (lvU Pr l (dR lim + 1)).n (dR lim + 1)) := fun c q1 q2 q3 q4 =>
      loopAt (c := c) (inv := fun k => outU g l lim (oS Pr l k) (zK Pr zR k).f (lvU Pr l k).B (lvU Pr l k).n k) (N := dR lim + 1) (by simp)
        (fun k hk => outU_one g l lim ht hr q1 q2 q3 q4 _ _ _ _ k (Nat.lt_of_le_of_lt (lvU_len Pr l k) hN) hk hd) (outU_end g l lim ht hr q1 q2 q3 q4 _ _ _ _)
    have e := oS_tree Pr l hc (dR lim)
    rw [← e]
    revert hs
    generalize oS Pr l (dR lim + 1) = o
    generalize (zK Pr zR (dR lim + 1)).f = z
    generalize (lvU Pr l (dR lim + 1)).B = B
    generalize (lvU Pr l (dR lim + 1)).n = n
    intro hs
    have hi : ITblOK Tryd.prog (itR Pr g l lim o z B n) := .cons (iterW_ok ht (ITblOK.nil _) _ _ 6 Tryd.func123 (by kernel_rfl) (by kernel_rfl)) (ITblOK.nil _)
    have hb : ∀ body, Tryd.f123.body = some body → LoopsFor Tryd.prog W.cell? [ysR g l lim] (lps [(3, outU g l lim zR.f zR.f (fun q => rsB l (0 + q)) l.length 0, .exit 0, outU g l lim o z B n (dR lim + 1))]) body := fun body hb => by
      obtain rfl := Option.some.inj hb
      exact LoopsFor.cons (by kernel_rfl) hs LoopsFor.nil
    have bb : Sh.Bears l.length 32 := by unfold Sh.Bears maxLen; omega
    have rd : Reads W.cell? g.a (rsAt (l := l)) 0 (l.length * 32) := reads_rows (n := 32) hG (by omega)
    exact ⟨_, _, tblRo_ok Pr, hi, says [(14, false)], noLoop, ⟨⟨o⟩, 0⟩, [∀ body, Tryd.f123.body = some body → LoopsFor Tryd.prog W.cell? [ysR g l lim] (lps [(3, outU g l lim zR.f zR.f (fun q => rsB l (0 + q)) l.length 0, .exit 0, outU g l lim o z B n (dR lim + 1))]) body,
      ToldIs (outU g l lim zR.f zR.f (fun q => rsB l (0 + q)) l.length 0), WrapI ((dR lim : Int) + 1), Sh.Bears l.length 32, Reads W.cell? g.a (rsAt l) 0 (l.length * 32), decide ((l.length : Int) > maxI lim) = false], by kernel_rfl, ⟨hb, toldIs _, wI (by omega) (by omega), bb, rd, hl, trivial⟩, rfl, fun body _ => loopsFor_none⟩
theorem root_ok : Computes A Tryd.prog 53 (fun x : GA (Rt 32 × Int × Unit) => rootV pairR8 x.x.1.l x.x.2.1) := root_of pair_cut (.cons pair_ok.row (.nil _))
end Go.Proofs.YtaloefkkllebeaaDoor
