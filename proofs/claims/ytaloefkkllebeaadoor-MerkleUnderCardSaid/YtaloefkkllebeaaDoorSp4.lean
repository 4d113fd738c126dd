/- Trees: a branch of a part of a tree is the whole's: the law. -/
import Derived.Test.YtaloefkkllebeaaDoorSp3
set_option linter.unusedVariables false
set_option linter.unusedSimpArgs false
set_option linter.unusedSectionVars false
set_option maxRecDepth 100000
namespace Go.Proofs.YtaloefkkllebeaaDoor
open Go Go.Sh
/-- Half a tree's room. -/
def hfI (e : Nat) : Int := ((2 ^ e : Nat) : Int)
def mN (l : List (R8 32)) (e : Nat) : Nat := (extI false (l.length : Int) (hfI e)).toNat - 0
def cM (l : List (R8 32)) (e : Nat) : List (R8 32) := cutR 32 (fun j => u8of (rsAt l (0 + j))) (mN l e)
def zN (a : List (R8 32)) (e : Nat) : Nat := (hfI e - (mN a e : Int)).toNat
def alF (a b : List (R8 32)) (e : Nat) : Nat → A := catF (catF (fun q => rsAt a (0 + q)) (timesN (mN a e) 32) zG 0) (timesN (mN a e + zN a e) 32) (rsAt b) 0
def alN (a b : List (R8 32)) (e : Nat) : Nat := mN a e + zN a e + mN b e
def alL (a b : List (R8 32)) (e : Nat) : List (R8 32) := cutR 32 (fun j => u8of (alF a b e (0 + j))) (alN a b e)
def ixH (ix : UInt64) (e : Nat) : UInt64 := UInt64.ofNat ((ix.toNat : Int).tmod (hfI e) % 18446744073709551616).toNat
def ixG (ix : UInt64) (e : Nat) : UInt64 := UInt64.ofNat ((hfI e + ((ixH ix e).toNat : Int)) % 18446744073709551616).toNat
/-- A branch, with a row behind it. -/
def unF (f : Nat → A) (e : Nat) (t : Nat → UInt8) : Nat → A := catF f (timesN e 32) (fun j => ((lits t)[j]?).getD (.u8 (t 0))) 0
def unL (f : Nat → A) (e : Nat) (t : Nat → UInt8) : List (R8 32) := cutR 32 (fun j => u8of (unF f e t (0 + j))) (e + 1)
def brL (f : Nat → A) (d : Nat) : List (R8 32) := cutR 32 (fun j => u8of (f (0 + j))) d
theorem hf_eq (e : Nat) : hfI e = ((2 ^ e : Nat) : Int) := rfl
theorem mN_eq (l : List (R8 32)) (e : Nat) : mN l e = min l.length (2 ^ e) := by
  unfold mN extI
  rw [hf_eq]
  generalize (2 : Nat) ^ e = P
  simp only [Bool.false_eq_true, if_false]
  split <;> omega
theorem zN_eq (l : List (R8 32)) (e : Nat) : mN l e + zN l e = 2 ^ e := by
  have := mN_eq l e
  unfold zN
  rw [hf_eq]
  omega
theorem cM_len (l : List (R8 32)) (e : Nat) : (cM l e).length = mN l e := cutR_len _ _ _
theorem alL_len (a b : List (R8 32)) (e : Nat) : (alL a b e).length = alN a b e := cutR_len _ _ _
theorem alF_at (a b : List (R8 32)) (e j : Nat) : alF a b e j = .u8 (if j < mN a e * 32 then rsB a j else if j < 2 ^ e * 32 then UInt8.ofNat 0 else rsB b (j - 2 ^ e * 32)) := by
  unfold alF
  simp only [catF, timesN_eq, zN_eq]
  have hm : mN a e ≤ 2 ^ e := by rw [mN_eq]; omega
  by_cases h : j < 2 ^ e * 32
  · have hb : j.blt (2 ^ e * 32) = true := by rw [Nat.blt_eq]; exact h
    rw [hb]
    by_cases h1 : j < mN a e * 32
    · have hb1 : j.blt (mN a e * 32) = true := by rw [Nat.blt_eq]; exact h1
      rw [hb1, if_pos h1]
      show (At.u8 (rsB a (0 + j)) : A) = _
      rw [Nat.zero_add]
    · have hb1 : j.blt (mN a e * 32) = false := by rw [Bool.eq_false_iff, ne_eq, Nat.blt_eq]; exact h1
      rw [hb1, if_neg h1, if_pos h]
      exact zG_at _
  · have hb : j.blt (2 ^ e * 32) = false := by rw [Bool.eq_false_iff, ne_eq, Nat.blt_eq]; exact h
    have h1 : ¬ j < mN a e * 32 := by omega
    rw [hb, if_neg h1, if_neg h]
    show (At.u8 (rsB b (0 + (j - 2 ^ e * 32))) : A) = _
    rw [Nat.zero_add]
theorem alF_u8 (a b : List (R8 32)) (e j : Nat) : isU8 (alF a b e j) = true := by rw [alF_at]; rfl
theorem unF_at (f : Nat → A) (e : Nat) (t : Nat → UInt8) (j : Nat) : unF f e t j = if j < e * 32 then f j else litU t (j - e * 32) := by
  unfold unF
  simp only [catF, timesN_eq]
  by_cases h : j < e * 32
  · have hb : j.blt (e * 32) = true := by rw [Nat.blt_eq]; exact h
    rw [hb, if_pos h]
  · have hb : j.blt (e * 32) = false := by rw [Bool.eq_false_iff, ne_eq, Nat.blt_eq]; exact h
    rw [hb, if_neg h]
    show litU t (0 + (j - e * 32)) = _
    rw [Nat.zero_add]
theorem unF_u8 {f : Nat → A} (hf : ∀ j, isU8 (f j) = true) (e : Nat) (t : Nat → UInt8) (j : Nat) : isU8 (unF f e t j) = true := by
  rw [unF_at]
  split
  · exact hf _
  · exact litU_u8 _ _
theorem row_z : elR (fun _ => UInt8.ofNat 0) 0 = zR.f := by kernel_rfl
theorem nm_beyond (l : List (R8 32)) (i : Nat) (h : l.length ≤ i) : (nm l).getD i zR = zR := by
  rw [List.getD_eq_getElem?_getD, List.getElem?_eq_none (by rw [nm_len]; exact h)]
  rfl
theorem cM_row (l : List (R8 32)) (e i : Nat) (h : i < mN l e) : elL (cM l e) i = elR (rsB l) (i * 32) := by
  unfold elL cM
  exact elR_congr fun j hj => by rw [cutR_at _ _ _ _ (by omega), Nat.zero_add]; rfl
theorem al_low (a b : List (R8 32)) (e i : Nat) (h : i < 2 ^ e) : (nm (alL a b e)).getD i zR = (nm (cM a e)).getD i zR := by
  have hz := zN_eq a e
  have hl : i < (alL a b e).length := by rw [alL_len]; unfold alN; omega
  rw [nm_at _ _ hl]
  have key : elL (alL a b e) i = elR (fun j => if j < mN a e * 32 then rsB a j else if j < 2 ^ e * 32 then UInt8.ofNat 0 else rsB b (j - 2 ^ e * 32)) (i * 32) := by
    unfold elL
    refine elR_congr fun j hj => ?_
    unfold alL
    rw [alL_len] at hl
    rw [cutR_at _ _ _ _ (by omega), Nat.zero_add, alF_at]
    rfl
  rw [key]
  by_cases h1 : i < mN a e
  · rw [nm_at _ _ (by rw [cM_len]; exact h1), cM_row a e i h1]
    congr 1
    exact elR_congr fun j hj => by simp only [if_pos (show i * 32 + j < mN a e * 32 by omega)]
  · rw [nm_beyond _ _ (by rw [cM_len]; omega)]
    have e1 : elR (fun j => if j < mN a e * 32 then rsB a j else if j < 2 ^ e * 32 then UInt8.ofNat 0 else rsB b (j - 2 ^ e * 32)) (i * 32) = elR (fun _ => UInt8.ofNat 0) 0 :=
      elR_congr fun j hj => by simp only [if_neg (show ¬ i * 32 + j < mN a e * 32 by omega), if_pos (show i * 32 + j < 2 ^ e * 32 by omega)]
    rw [e1, row_z]
theorem al_high (a b : List (R8 32)) (e i : Nat) (h : i < 2 ^ e) : (nm (alL a b e)).getD (2 ^ e + i) zR = (nm (cM b e)).getD i zR := by
  have hz := zN_eq a e
  have hm : mN a e ≤ 2 ^ e := by rw [mN_eq]; omega
  by_cases h1 : i < mN b e
  · have hl : 2 ^ e + i < (alL a b e).length := by rw [alL_len]; unfold alN; omega
    rw [nm_at _ _ hl, nm_at _ _ (by rw [cM_len]; exact h1), cM_row b e i h1]
    congr 1
    unfold elL
    refine elR_congr fun j hj => ?_
    unfold alL
    rw [alL_len] at hl
    rw [cutR_at _ _ _ _ (by omega), Nat.zero_add, alF_at]
    show (if (2 ^ e + i) * 32 + j < mN a e * 32 then _ else _) = _
    rw [if_neg (by omega), if_neg (by omega), show (2 ^ e + i) * 32 + j - 2 ^ e * 32 = i * 32 + j by omega]
  · rw [nm_beyond _ _ (by rw [alL_len]; unfold alN; omega), nm_beyond _ _ (by rw [cM_len]; omega)]
theorem pow4 {e : Nat} (h : e ≤ 4) : 0 < 2 ^ e ∧ 2 ^ e ≤ 16 := by
  have h1 : (2 : Nat) ^ e ≤ 2 ^ 4 := Nat.pow_le_pow_right (by decide) h
  have h3 : (2 : Nat) ^ 4 = 16 := by decide
  exact ⟨Nat.pow_pos (by decide), by omega⟩
theorem ixH_nat (ix : UInt64) {e : Nat} (h : e ≤ 4) : (ixH ix e).toNat = ix.toNat % 2 ^ e := by
  have hp := pow4 h
  have e1 : (ix.toNat : Int).tmod (hfI e) = ((ix.toNat % 2 ^ e : Nat) : Int) := rfl
  have h2 := Nat.mod_lt ix.toNat hp.1
  unfold ixH
  rw [e1]
  exact cvU_nat' (i := ix.toNat % 2 ^ e) (by omega)
theorem ixG_nat (ix : UInt64) {e : Nat} (h : e ≤ 4) : (ixG ix e).toNat = 2 ^ e + ix.toNat % 2 ^ e := by
  have hp := pow4 h
  have h2 := Nat.mod_lt ix.toNat hp.1
  have e1 : hfI e + ((ixH ix e).toNat : Int) = ((2 ^ e + ix.toNat % 2 ^ e : Nat) : Int) := by rw [ixH_nat ix h, hf_eq]; omega
  unfold ixG
  rw [e1]
  exact cvU_nat' (i := 2 ^ e + ix.toNat % 2 ^ e) (by omega)
theorem eqB_cut (t : Nat → UInt8) : eqB t (elR t 0) 0 32 = true := by
  rw [eqB_eq]
  intro j hj
  unfold elR
  rw [Nat.zero_add, extR_at _ _ _ _ hj, Nat.zero_add]
theorem under_facts (a b : List (R8 32)) {e : Nat} (he : e ≤ 4) (ix : UInt64) :
    rootsV (brL (branchF pairR8 (alL a b e) (ixH ix e) (mmI ((e + 1 : Nat) : Int)) (e + 1)) (e + 1)) (unL (branchF pairR8 (cM a e) (ixH ix e) (mmI (e : Int)) e) e (treeN pairR8 (cM b e) e).f) = true ∧
    rootsV (brL (branchF pairR8 (alL a b e) (ixG ix e) (mmI ((e + 1 : Nat) : Int)) (e + 1)) (e + 1)) (unL (branchF pairR8 (cM b e) (ixH ix e) (mmI (e : Int)) e) e (treeN pairR8 (cM a e) e).f) = true := by
  have hp := pow4 he
  have hm1 : mN a e ≤ 16 := by rw [mN_eq]; omega
  have hm2 : mN b e ≤ 16 := by rw [mN_eq]; omega
  have hla : (alL a b e).length < 1048576 := by have := zN_eq a e; rw [alL_len]; unfold alN; omega
  have i1 : ix.toNat % 2 ^ e < 2 ^ e := Nat.mod_lt _ hp.1
  have hpp : (2 : Nat) ^ (e + 1) = 2 ^ e + 2 ^ e := by rw [Nat.pow_succ]; omega
  obtain ⟨n1, n2, n3, n4⟩ := under_nodes pairR8 (al_low a b e) (al_high a b e) i1
  have both : ∀ (ix2 : UInt64) (X : List (R8 32)) (t : R8 32) (idx : Nat), X.length < 1048576 → ix2.toNat = idx → idx < 2 ^ (e + 1) → (∀ k, k < e → nodeT pairR8 zR (roomL (alL a b e) (e + 1)) k ((idx / 2 ^ k) ^^^ 1) = nodeT pairR8 zR (roomL X e) k ((ix.toNat % 2 ^ e / 2 ^ k) ^^^ 1)) →
      nodeT pairR8 zR (roomL (alL a b e) (e + 1)) e ((idx / 2 ^ e) ^^^ 1) = t →
      rootsV (brL (branchF pairR8 (alL a b e) ix2 (mmI ((e + 1 : Nat) : Int)) (e + 1)) (e + 1)) (unL (branchF pairR8 X (ixH ix e) (mmI (e : Int)) e) e t.f) = true := by
    intro ix2 X t idx hX hix hidx hk htop
    refine rootsV_true (by unfold brL unL; rw [cutR_len, cutR_len]) (fun k hkl => ?_)
    unfold brL at hkl
    rw [cutR_len] at hkl
    have hL : elL (brL (branchF pairR8 (alL a b e) ix2 (mmI ((e + 1 : Nat) : Int)) (e + 1)) (e + 1)) k = (nodeT pairR8 zR (roomL (alL a b e) (e + 1)) k ((idx / 2 ^ k) ^^^ 1)).f := by
      have := elL_branch pairR8 pair_cut hla ix2 (d := e + 1) (by omega) hkl
      rw [hix, Nat.mod_eq_of_lt hidx] at this
      exact this
    rw [hL]
    have eR : ∀ F : Nat → UInt8, (∀ j, j < 32 → u8of (unF (branchF pairR8 X (ixH ix e) (mmI (e : Int)) e) e t.f (k * 32 + j)) = F j) → elL (unL (branchF pairR8 X (ixH ix e) (mmI (e : Int)) e) e t.f) k = elR F 0 := by
      intro F hF
      unfold elL unL
      refine elR_congr fun j hj => ?_
      rw [cutR_at _ _ _ _ (by omega), Nat.zero_add, Nat.zero_add, hF j hj]
    by_cases hke : k < e
    · have hR : elL (unL (branchF pairR8 X (ixH ix e) (mmI (e : Int)) e) e t.f) k = elL (branchV pairR8 X (ixH ix e) e) k := by
        unfold elL unL branchV
        refine elR_congr fun j hj => ?_
        rw [cutR_at _ _ _ _ (by omega), cutR_at _ _ _ _ (by omega), Nat.zero_add, unF_at, if_pos (by omega)]
      rw [hR, elL_branch pairR8 pair_cut hX (ixH ix e) (d := e) (by omega) hke, ixH_nat ix he, Nat.mod_mod, hk k hke]
      exact eqB_self _ _ _
    · have : k = e := by omega
      subst this
      rw [eR t.f (fun j hj => by rw [unF_at, if_neg (by omega), Nat.add_sub_cancel_left, litU_at _ _ hj]; rfl), htop]
      exact eqB_cut _
  refine ⟨both (ixH ix e) (cM a e) _ (ix.toNat % 2 ^ e) (by rw [cM_len]; omega) (ixH_nat ix he) (by omega) n1 n3, both (ixG ix e) (cM b e) _ (2 ^ e + ix.toNat % 2 ^ e) (by rw [cM_len]; omega) (ixG_nat ix he) (by omega) n2 n4⟩

def orZ (z : Int) : Nat → Nat → Dec := fun r t => match Nat.beq t 26 with | true => .lit z | false => saysY [] r t
theorem merkleUnder_of {BF : List (R8 32) → UInt64 → Nat → Nat → A} {T : List (R8 32) → Nat → R8 32} {RB : List (R8 32) → List (R8 32) → Bool} (ht : TblOK Tryd.prog (tblF17 BF T RB)) (hu : ∀ l ix d j, isU8 (BF l ix d j) = true)
    (hF : ∀ (a b : List (R8 32)) (e : Nat) (ix : UInt64), e ≤ 4 → RB (brL (BF (alL a b e) (ixH ix e) (e + 1)) (e + 1)) (unL (BF (cM a e) (ixH ix e) e) e (T (cM b e) e).f) = true ∧ RB (brL (BF (alL a b e) (ixG ix e) (e + 1)) (e + 1)) (unL (BF (cM b e) (ixH ix e) e) e (T (cM a e) e).f) = true) :
    Computes A Tryd.prog 17 (fun _ : GA (Rs 32 × Rs 32 × Int × UInt64 × Unit) => true) := by
  refine computes_of_run ht Tryd.func17 (by kernel_rfl) (by kernel_rfl) 6 ?_
  rintro ⟨ga, gb, _⟩ ⟨⟨⟨a⟩, ⟨b⟩, d, ix, ⟨⟩⟩⟩ W ⟨hr, hga, hgb, _⟩
  have hA : HasRows W a ga := hga
  have hB : HasRows W b gb := hgb
  cases h6 : decide ((a.length : Int) ≤ 60) with
  | false => exact ⟨saysY [(18, false)], true, [decide ((a.length : Int) ≤ 60) = false, true = true, RoundsIn W.cell?], by kernel_rfl, ⟨h6, rfl, hr, trivial⟩, rfl⟩
  | true =>
    cases h7 : decide ((b.length : Int) ≤ 60) with
    | false => exact ⟨saysY [(22, false)], true, [decide ((b.length : Int) ≤ 60) = false, decide ((a.length : Int) ≤ 60) = true, true = true, RoundsIn W.cell?], by kernel_rfl, ⟨h7, h6, rfl, hr, trivial⟩, rfl⟩
    | true =>
      have la : a.length ≤ 60 := by have := of_decide_eq_true h6; omega
      have lb : b.length ≤ 60 := by have := of_decide_eq_true h7; omega
      have ca := hA.1
      have cb := hB.1
      have fa : ∀ e, mN a e ≤ a.length ∧ mN a e ≤ 2 ^ e := fun e => by rw [mN_eq]; omega
      have fb : ∀ e, mN b e ≤ b.length ∧ mN b e ≤ 2 ^ e := fun e => by rw [mN_eq]; omega
      have rda : ∀ e, Reads W.cell? ga.a (rsAt (l := a)) 0 (mN a e * 32) := fun e => reads_rows (n := 32) hA (by have := fa e; omega)
      have rdb : ∀ e, Reads W.cell? gb.a (rsAt (l := b)) 0 (mN b e * 32) := fun e => reads_rows (n := 32) hB (by have := fb e; omega)
      have exa : ∀ e, 0 ≤ extI false (a.length : Int) (hfI e) ∧ extI false (a.length : Int) (hfI e) ≤ (ga.c : Int) := fun e => by
        unfold extI
        rw [hf_eq]
        generalize (2 : Nat) ^ e = P
        simp only [Bool.false_eq_true, if_false]
        split <;> omega
      have exb : ∀ e, 0 ≤ extI false (b.length : Int) (hfI e) ∧ extI false (b.length : Int) (hfI e) ≤ (gb.c : Int) := fun e => by
        unfold extI
        rw [hf_eq]
        generalize (2 : Nat) ^ e = P
        simp only [Bool.false_eq_true, if_false]
        split <;> omega
      have az : ∀ e, 0 ≤ hfI e - (mN a e : Int) := fun e => by rw [hf_eq]; have := fa e; omega
      have cal : ∀ e, (cM a e).length < 1048576 := fun e => by rw [cM_len]; have := fa e; omega
      have cbl : ∀ e, (cM b e).length < 1048576 := fun e => by rw [cM_len]; have := fb e; omega
      have aln : ∀ e, e ≤ 4 → mN a e + zN a e = 2 ^ e ∧ alN a b e ≤ 32 := fun e he => by
        have h1 := zN_eq a e; have h2 := pow4 he; have h3 := fb e
        refine ⟨h1, ?_⟩
        unfold alN
        omega
      have all : ∀ e, e ≤ 4 → (alL a b e).length < 1048576 := fun e he => by rw [alL_len]; have := (aln e he).2; omega
      have brl : ∀ f d, d ≤ 5 → (brL f d).length < 1048576 := fun f d hd => by unfold brL; rw [cutR_len]; omega
      have unl : ∀ f e t, e ≤ 4 → (unL f e t).length < 1048576 := fun f e t he => by unfold unL; rw [cutR_len]; omega
      have bu : ∀ l ix d n j, j < n → isU8 (BF l ix d (0 + j)) = true := fun l ix d n j _ => hu _ _ _ _
      have uu : ∀ l ix d e t n j, j < n → isU8 (unF (BF l ix d) e t (0 + j)) = true := fun l ix d e t n j _ => unF_u8 (hu l ix d) _ _ _
      have au : ∀ e n j, j < n → isU8 (alF a b e (0 + j)) = true := fun e n j _ => alF_u8 _ _ _ _
      have rem : ∀ e, e ≤ 4 → hfI e ≠ 0 ∧ IntKind.u64.wrap ((ix.toNat : Int).tmod (hfI e)) = (ix.toNat : Int).tmod (hfI e) := fun e he => by
        have hp := pow4 he
        have e1 : (ix.toNat : Int).tmod (hfI e) = ((ix.toNat % 2 ^ e : Nat) : Int) := rfl
        have h2 := Nat.mod_lt ix.toNat hp.1
        rw [e1]
        refine ⟨by rw [hf_eq]; omega, ?_⟩
        simp only [IntKind.wrap, IntKind.bits, IntKind.signed]
        have e3 : (2 : Int) ^ 64 = 18446744073709551616 := by decide
        simp only [e3, Bool.false_and, Bool.false_eq_true, if_false]
        omega
      obtain ⟨p1, p2⟩ := placeV_ok d (n := 5) (by decide)
      have hcase : placeV d 5 = 0 ∨ placeV d 5 = 1 ∨ placeV d 5 = 2 ∨ placeV d 5 = 3 ∨ placeV d 5 = 4 := by omega
      rcases hcase with hz | hz | hz | hz | hz

      · exact ⟨orZ 0, true, [RB (brL (BF (alL a b 0) (ixG ix 0) 1) 1) (unL (BF (cM b 0) (ixH ix 0) 0) 0 (T (cM a 0) 0).f) = true, (brL (BF (alL a b 0) (ixG ix 0) 1) 1).length < 1048576, ∀ j, j < 1 * 32 → isU8 (BF (alL a b 0) (ixG ix 0) 1 (0 + j)) = true, (unL (BF (cM b 0) (ixH ix 0) 0) 0 (T (cM a 0) 0).f).length < 1048576, ∀ j, j < (0 + 1) * 32 → isU8 (unF (BF (cM b 0) (ixH ix 0) 0) 0 (T (cM a 0) 0).f (0 + j)) = true, RoundsIn W.cell?, (alL a b 0).length < 1048576, ∀ j, j < alN a b 0 * 32 → isU8 (alF a b 0 (0 + j)) = true, (0 : Int) ≤ 1 ∧ (1 : Int) ≤ ((9 : Nat) : Int), RB (brL (BF (alL a b 0) (ixH ix 0) 1) 1) (unL (BF (cM a 0) (ixH ix 0) 0) 0 (T (cM b 0) 0).f) = true, (brL (BF (alL a b 0) (ixH ix 0) 1) 1).length < 1048576, ∀ j, j < 1 * 32 → isU8 (BF (alL a b 0) (ixH ix 0) 1 (0 + j)) = true, (unL (BF (cM a 0) (ixH ix 0) 0) 0 (T (cM b 0) 0).f).length < 1048576, ∀ j, j < (0 + 1) * 32 → isU8 (unF (BF (cM a 0) (ixH ix 0) 0) 0 (T (cM b 0) 0).f (0 + j)) = true, RoundsIn W.cell?, (alL a b 0).length < 1048576, ∀ j, j < alN a b 0 * 32 → isU8 (alF a b 0 (0 + j)) = true, (0 : Int) ≤ 1 ∧ (1 : Int) ≤ ((9 : Nat) : Int), 1 = 1 ∧ timesN 0 32 = timesN 0 32 ∧ Sh.Bears (0 + 1) 32, TabsAre, (cM a 0).length < 1048576, Reads W.cell? ga.a (rsAt (l := a)) 0 (mN a 0 * 32), ∀ j, j < mN a 0 * 32 → isU8 (rsAt a (0 + j)) = true, (0 : Int) ≤ 0 ∧ (0 : Int) ≤ ((62 : Nat) : Int), RoundsIn W.cell?, (cM b 0).length < 1048576, Reads W.cell? gb.a (rsAt (l := b)) 0 (mN b 0 * 32), ∀ j, j < mN b 0 * 32 → isU8 (rsAt b (0 + j)) = true, (0 : Int) ≤ 0 ∧ (0 : Int) ≤ ((9 : Nat) : Int), 1 = 1 ∧ timesN 0 32 = timesN 0 32 ∧ Sh.Bears (0 + 1) 32, TabsAre, (cM b 0).length < 1048576, Reads W.cell? gb.a (rsAt (l := b)) 0 (mN b 0 * 32), ∀ j, j < mN b 0 * 32 → isU8 (rsAt b (0 + j)) = true, (0 : Int) ≤ 0 ∧ (0 : Int) ≤ ((62 : Nat) : Int), RoundsIn W.cell?, (cM a 0).length < 1048576, Reads W.cell? ga.a (rsAt (l := a)) 0 (mN a 0 * 32), ∀ j, j < mN a 0 * 32 → isU8 (rsAt a (0 + j)) = true, (0 : Int) ≤ 0 ∧ (0 : Int) ≤ ((9 : Nat) : Int), hfI 0 ≠ 0 ∧ IntKind.u64.wrap ((ix.toNat : Int).tmod (hfI 0)) = (ix.toNat : Int).tmod (hfI 0), 1 + 1 = 1 + 1 ∧ timesN (mN a 0 + zN a 0) 32 = timesN (mN a 0) 32 + timesN (zN a 0) 32 ∧ Sh.Bears (alN a b 0) 32, Reads W.cell? gb.a (rsAt (l := b)) 0 (mN b 0 * 32), 1 = 1 ∧ timesN (mN a 0) 32 = timesN (mN a 0) 32 ∧ Sh.Bears (mN a 0 + zN a 0) 32, 0 ≤ hfI 0 - (mN a 0 : Int) ∧ hfI 0 - (mN a 0 : Int) ≤ 9223372036854775807, WrapI (hfI 0 - (mN a 0 : Int)), Sh.Bears (mN a 0) 32, Reads W.cell? ga.a (rsAt (l := a)) 0 (mN a 0 * 32), 0 ≤ extI false (b.length : Int) (hfI 0) ∧ extI false (b.length : Int) (hfI 0) ≤ (gb.c : Int), 0 ≤ extI false (a.length : Int) (hfI 0) ∧ extI false (a.length : Int) (hfI 0) ≤ (ga.c : Int), placeV d 5 = 0, (0 : Int) < 5 ∧ (5 : Int) ≤ 4611686018427387904, decide ((b.length : Int) ≤ 60) = true, decide ((a.length : Int) ≤ 60) = true, true = true, RoundsIn W.cell?], by kernel_rfl, ⟨(hF a b 0 ix (by decide)).2, brl _ _ (by decide), fun j hj => bu _ _ _ _ j hj, unl _ _ _ (by decide), fun j hj => uu _ _ _ _ _ _ j hj, hr, all _ (by decide), fun j hj => au _ _ j hj, by decide, (hF a b 0 ix (by decide)).1, brl _ _ (by decide), fun j hj => bu _ _ _ _ j hj, unl _ _ _ (by decide), fun j hj => uu _ _ _ _ _ _ j hj, hr, all _ (by decide), fun j hj => au _ _ j hj, by decide, ⟨rfl, rfl, by unfold Sh.Bears maxLen; omega⟩, tabsAre, cal _, rda _, fun _ _ => rfl, by decide, hr, cbl _, rdb _, fun _ _ => rfl, by decide, ⟨rfl, rfl, by unfold Sh.Bears maxLen; omega⟩, tabsAre, cbl _, rdb _, fun _ _ => rfl, by decide, hr, cal _, rda _, fun _ _ => rfl, by decide, rem _ (by decide), ⟨rfl, by simp only [timesN_eq]; omega, by have := (aln 0 (by decide)).2; unfold Sh.Bears maxLen; omega⟩, rdb _, ⟨rfl, rfl, by have := (aln 0 (by decide)).1; have := pow4 (e := 0) (by decide); unfold Sh.Bears maxLen; omega⟩, ⟨az _, by rw [hf_eq]; have := pow4 (e := 0) (by decide); omega⟩, wI (by have := az 0; omega) (by rw [hf_eq]; have := pow4 (e := 0) (by decide); omega), by have := fa 0; unfold Sh.Bears maxLen; omega, rda _, exb _, exa _, hz, by decide, h7, h6, rfl, hr, trivial⟩, rfl⟩
      · exact ⟨orZ 1, true, [RB (brL (BF (alL a b 1) (ixG ix 1) 2) 2) (unL (BF (cM b 1) (ixH ix 1) 1) 1 (T (cM a 1) 1).f) = true, (brL (BF (alL a b 1) (ixG ix 1) 2) 2).length < 1048576, ∀ j, j < 2 * 32 → isU8 (BF (alL a b 1) (ixG ix 1) 2 (0 + j)) = true, (unL (BF (cM b 1) (ixH ix 1) 1) 1 (T (cM a 1) 1).f).length < 1048576, ∀ j, j < (1 + 1) * 32 → isU8 (unF (BF (cM b 1) (ixH ix 1) 1) 1 (T (cM a 1) 1).f (0 + j)) = true, RoundsIn W.cell?, (alL a b 1).length < 1048576, ∀ j, j < alN a b 1 * 32 → isU8 (alF a b 1 (0 + j)) = true, (0 : Int) ≤ 2 ∧ (2 : Int) ≤ ((9 : Nat) : Int), RB (brL (BF (alL a b 1) (ixH ix 1) 2) 2) (unL (BF (cM a 1) (ixH ix 1) 1) 1 (T (cM b 1) 1).f) = true, (brL (BF (alL a b 1) (ixH ix 1) 2) 2).length < 1048576, ∀ j, j < 2 * 32 → isU8 (BF (alL a b 1) (ixH ix 1) 2 (0 + j)) = true, (unL (BF (cM a 1) (ixH ix 1) 1) 1 (T (cM b 1) 1).f).length < 1048576, ∀ j, j < (1 + 1) * 32 → isU8 (unF (BF (cM a 1) (ixH ix 1) 1) 1 (T (cM b 1) 1).f (0 + j)) = true, RoundsIn W.cell?, (alL a b 1).length < 1048576, ∀ j, j < alN a b 1 * 32 → isU8 (alF a b 1 (0 + j)) = true, (0 : Int) ≤ 2 ∧ (2 : Int) ≤ ((9 : Nat) : Int), 1 = 1 ∧ timesN 1 32 = timesN 1 32 ∧ Sh.Bears (1 + 1) 32, TabsAre, (cM a 1).length < 1048576, Reads W.cell? ga.a (rsAt (l := a)) 0 (mN a 1 * 32), ∀ j, j < mN a 1 * 32 → isU8 (rsAt a (0 + j)) = true, (0 : Int) ≤ 1 ∧ (1 : Int) ≤ ((62 : Nat) : Int), RoundsIn W.cell?, (cM b 1).length < 1048576, Reads W.cell? gb.a (rsAt (l := b)) 0 (mN b 1 * 32), ∀ j, j < mN b 1 * 32 → isU8 (rsAt b (0 + j)) = true, (0 : Int) ≤ 1 ∧ (1 : Int) ≤ ((9 : Nat) : Int), 1 = 1 ∧ timesN 1 32 = timesN 1 32 ∧ Sh.Bears (1 + 1) 32, TabsAre, (cM b 1).length < 1048576, Reads W.cell? gb.a (rsAt (l := b)) 0 (mN b 1 * 32), ∀ j, j < mN b 1 * 32 → isU8 (rsAt b (0 + j)) = true, (0 : Int) ≤ 1 ∧ (1 : Int) ≤ ((62 : Nat) : Int), RoundsIn W.cell?, (cM a 1).length < 1048576, Reads W.cell? ga.a (rsAt (l := a)) 0 (mN a 1 * 32), ∀ j, j < mN a 1 * 32 → isU8 (rsAt a (0 + j)) = true, (0 : Int) ≤ 1 ∧ (1 : Int) ≤ ((9 : Nat) : Int), hfI 1 ≠ 0 ∧ IntKind.u64.wrap ((ix.toNat : Int).tmod (hfI 1)) = (ix.toNat : Int).tmod (hfI 1), 1 + 1 = 1 + 1 ∧ timesN (mN a 1 + zN a 1) 32 = timesN (mN a 1) 32 + timesN (zN a 1) 32 ∧ Sh.Bears (alN a b 1) 32, Reads W.cell? gb.a (rsAt (l := b)) 0 (mN b 1 * 32), 1 = 1 ∧ timesN (mN a 1) 32 = timesN (mN a 1) 32 ∧ Sh.Bears (mN a 1 + zN a 1) 32, 0 ≤ hfI 1 - (mN a 1 : Int) ∧ hfI 1 - (mN a 1 : Int) ≤ 9223372036854775807, WrapI (hfI 1 - (mN a 1 : Int)), Sh.Bears (mN a 1) 32, Reads W.cell? ga.a (rsAt (l := a)) 0 (mN a 1 * 32), 0 ≤ extI false (b.length : Int) (hfI 1) ∧ extI false (b.length : Int) (hfI 1) ≤ (gb.c : Int), 0 ≤ extI false (a.length : Int) (hfI 1) ∧ extI false (a.length : Int) (hfI 1) ≤ (ga.c : Int), placeV d 5 = 1, (0 : Int) < 5 ∧ (5 : Int) ≤ 4611686018427387904, decide ((b.length : Int) ≤ 60) = true, decide ((a.length : Int) ≤ 60) = true, true = true, RoundsIn W.cell?], by kernel_rfl, ⟨(hF a b 1 ix (by decide)).2, brl _ _ (by decide), fun j hj => bu _ _ _ _ j hj, unl _ _ _ (by decide), fun j hj => uu _ _ _ _ _ _ j hj, hr, all _ (by decide), fun j hj => au _ _ j hj, by decide, (hF a b 1 ix (by decide)).1, brl _ _ (by decide), fun j hj => bu _ _ _ _ j hj, unl _ _ _ (by decide), fun j hj => uu _ _ _ _ _ _ j hj, hr, all _ (by decide), fun j hj => au _ _ j hj, by decide, ⟨rfl, rfl, by unfold Sh.Bears maxLen; omega⟩, tabsAre, cal _, rda _, fun _ _ => rfl, by decide, hr, cbl _, rdb _, fun _ _ => rfl, by decide, ⟨rfl, rfl, by unfold Sh.Bears maxLen; omega⟩, tabsAre, cbl _, rdb _, fun _ _ => rfl, by decide, hr, cal _, rda _, fun _ _ => rfl, by decide, rem _ (by decide), ⟨rfl, by simp only [timesN_eq]; omega, by have := (aln 1 (by decide)).2; unfold Sh.Bears maxLen; omega⟩, rdb _, ⟨rfl, rfl, by have := (aln 1 (by decide)).1; have := pow4 (e := 1) (by decide); unfold Sh.Bears maxLen; omega⟩, ⟨az _, by rw [hf_eq]; have := pow4 (e := 1) (by decide); omega⟩, wI (by have := az 1; omega) (by rw [hf_eq]; have := pow4 (e := 1) (by decide); omega), by have := fa 1; unfold Sh.Bears maxLen; omega, rda _, exb _, exa _, hz, by decide, h7, h6, rfl, hr, trivial⟩, rfl⟩
      · exact ⟨orZ 2, true, [RB (brL (BF (alL a b 2) (ixG ix 2) 3) 3) (unL (BF (cM b 2) (ixH ix 2) 2) 2 (T (cM a 2) 2).f) = true, (brL (BF (alL a b 2) (ixG ix 2) 3) 3).length < 1048576, ∀ j, j < 3 * 32 → isU8 (BF (alL a b 2) (ixG ix 2) 3 (0 + j)) = true, (unL (BF (cM b 2) (ixH ix 2) 2) 2 (T (cM a 2) 2).f).length < 1048576, ∀ j, j < (2 + 1) * 32 → isU8 (unF (BF (cM b 2) (ixH ix 2) 2) 2 (T (cM a 2) 2).f (0 + j)) = true, RoundsIn W.cell?, (alL a b 2).length < 1048576, ∀ j, j < alN a b 2 * 32 → isU8 (alF a b 2 (0 + j)) = true, (0 : Int) ≤ 3 ∧ (3 : Int) ≤ ((9 : Nat) : Int), RB (brL (BF (alL a b 2) (ixH ix 2) 3) 3) (unL (BF (cM a 2) (ixH ix 2) 2) 2 (T (cM b 2) 2).f) = true, (brL (BF (alL a b 2) (ixH ix 2) 3) 3).length < 1048576, ∀ j, j < 3 * 32 → isU8 (BF (alL a b 2) (ixH ix 2) 3 (0 + j)) = true, (unL (BF (cM a 2) (ixH ix 2) 2) 2 (T (cM b 2) 2).f).length < 1048576, ∀ j, j < (2 + 1) * 32 → isU8 (unF (BF (cM a 2) (ixH ix 2) 2) 2 (T (cM b 2) 2).f (0 + j)) = true, RoundsIn W.cell?, (alL a b 2).length < 1048576, ∀ j, j < alN a b 2 * 32 → isU8 (alF a b 2 (0 + j)) = true, (0 : Int) ≤ 3 ∧ (3 : Int) ≤ ((9 : Nat) : Int), 1 = 1 ∧ timesN 2 32 = timesN 2 32 ∧ Sh.Bears (2 + 1) 32, TabsAre, (cM a 2).length < 1048576, Reads W.cell? ga.a (rsAt (l := a)) 0 (mN a 2 * 32), ∀ j, j < mN a 2 * 32 → isU8 (rsAt a (0 + j)) = true, (0 : Int) ≤ 2 ∧ (2 : Int) ≤ ((62 : Nat) : Int), RoundsIn W.cell?, (cM b 2).length < 1048576, Reads W.cell? gb.a (rsAt (l := b)) 0 (mN b 2 * 32), ∀ j, j < mN b 2 * 32 → isU8 (rsAt b (0 + j)) = true, (0 : Int) ≤ 2 ∧ (2 : Int) ≤ ((9 : Nat) : Int), 1 = 1 ∧ timesN 2 32 = timesN 2 32 ∧ Sh.Bears (2 + 1) 32, TabsAre, (cM b 2).length < 1048576, Reads W.cell? gb.a (rsAt (l := b)) 0 (mN b 2 * 32), ∀ j, j < mN b 2 * 32 → isU8 (rsAt b (0 + j)) = true, (0 : Int) ≤ 2 ∧ (2 : Int) ≤ ((62 : Nat) : Int), RoundsIn W.cell?, (cM a 2).length < 1048576, Reads W.cell? ga.a (rsAt (l := a)) 0 (mN a 2 * 32), ∀ j, j < mN a 2 * 32 → isU8 (rsAt a (0 + j)) = true, (0 : Int) ≤ 2 ∧ (2 : Int) ≤ ((9 : Nat) : Int), hfI 2 ≠ 0 ∧ IntKind.u64.wrap ((ix.toNat : Int).tmod (hfI 2)) = (ix.toNat : Int).tmod (hfI 2), 1 + 1 = 1 + 1 ∧ timesN (mN a 2 + zN a 2) 32 = timesN (mN a 2) 32 + timesN (zN a 2) 32 ∧ Sh.Bears (alN a b 2) 32, Reads W.cell? gb.a (rsAt (l := b)) 0 (mN b 2 * 32), 1 = 1 ∧ timesN (mN a 2) 32 = timesN (mN a 2) 32 ∧ Sh.Bears (mN a 2 + zN a 2) 32, 0 ≤ hfI 2 - (mN a 2 : Int) ∧ hfI 2 - (mN a 2 : Int) ≤ 9223372036854775807, WrapI (hfI 2 - (mN a 2 : Int)), Sh.Bears (mN a 2) 32, Reads W.cell? ga.a (rsAt (l := a)) 0 (mN a 2 * 32), 0 ≤ extI false (b.length : Int) (hfI 2) ∧ extI false (b.length : Int) (hfI 2) ≤ (gb.c : Int), 0 ≤ extI false (a.length : Int) (hfI 2) ∧ extI false (a.length : Int) (hfI 2) ≤ (ga.c : Int), placeV d 5 = 2, (0 : Int) < 5 ∧ (5 : Int) ≤ 4611686018427387904, decide ((b.length : Int) ≤ 60) = true, decide ((a.length : Int) ≤ 60) = true, true = true, RoundsIn W.cell?], by kernel_rfl, ⟨(hF a b 2 ix (by decide)).2, brl _ _ (by decide), fun j hj => bu _ _ _ _ j hj, unl _ _ _ (by decide), fun j hj => uu _ _ _ _ _ _ j hj, hr, all _ (by decide), fun j hj => au _ _ j hj, by decide, (hF a b 2 ix (by decide)).1, brl _ _ (by decide), fun j hj => bu _ _ _ _ j hj, unl _ _ _ (by decide), fun j hj => uu _ _ _ _ _ _ j hj, hr, all _ (by decide), fun j hj => au _ _ j hj, by decide, ⟨rfl, rfl, by unfold Sh.Bears maxLen; omega⟩, tabsAre, cal _, rda _, fun _ _ => rfl, by decide, hr, cbl _, rdb _, fun _ _ => rfl, by decide, ⟨rfl, rfl, by unfold Sh.Bears maxLen; omega⟩, tabsAre, cbl _, rdb _, fun _ _ => rfl, by decide, hr, cal _, rda _, fun _ _ => rfl, by decide, rem _ (by decide), ⟨rfl, by simp only [timesN_eq]; omega, by have := (aln 2 (by decide)).2; unfold Sh.Bears maxLen; omega⟩, rdb _, ⟨rfl, rfl, by have := (aln 2 (by decide)).1; have := pow4 (e := 2) (by decide); unfold Sh.Bears maxLen; omega⟩, ⟨az _, by rw [hf_eq]; have := pow4 (e := 2) (by decide); omega⟩, wI (by have := az 2; omega) (by rw [hf_eq]; have := pow4 (e := 2) (by decide); omega), by have := fa 2; unfold Sh.Bears maxLen; omega, rda _, exb _, exa _, hz, by decide, h7, h6, rfl, hr, trivial⟩, rfl⟩
      · exact ⟨orZ 3, true, [RB (brL (BF (alL a b 3) (ixG ix 3) 4) 4) (unL (BF (cM b 3) (ixH ix 3) 3) 3 (T (cM a 3) 3).f) = true, (brL (BF (alL a b 3) (ixG ix 3) 4) 4).length < 1048576, ∀ j, j < 4 * 32 → isU8 (BF (alL a b 3) (ixG ix 3) 4 (0 + j)) = true, (unL (BF (cM b 3) (ixH ix 3) 3) 3 (T (cM a 3) 3).f).length < 1048576, ∀ j, j < (3 + 1) * 32 → isU8 (unF (BF (cM b 3) (ixH ix 3) 3) 3 (T (cM a 3) 3).f (0 + j)) = true, RoundsIn W.cell?, (alL a b 3).length < 1048576, ∀ j, j < alN a b 3 * 32 → isU8 (alF a b 3 (0 + j)) = true, (0 : Int) ≤ 4 ∧ (4 : Int) ≤ ((9 : Nat) : Int), RB (brL (BF (alL a b 3) (ixH ix 3) 4) 4) (unL (BF (cM a 3) (ixH ix 3) 3) 3 (T (cM b 3) 3).f) = true, (brL (BF (alL a b 3) (ixH ix 3) 4) 4).length < 1048576, ∀ j, j < 4 * 32 → isU8 (BF (alL a b 3) (ixH ix 3) 4 (0 + j)) = true, (unL (BF (cM a 3) (ixH ix 3) 3) 3 (T (cM b 3) 3).f).length < 1048576, ∀ j, j < (3 + 1) * 32 → isU8 (unF (BF (cM a 3) (ixH ix 3) 3) 3 (T (cM b 3) 3).f (0 + j)) = true, RoundsIn W.cell?, (alL a b 3).length < 1048576, ∀ j, j < alN a b 3 * 32 → isU8 (alF a b 3 (0 + j)) = true, (0 : Int) ≤ 4 ∧ (4 : Int) ≤ ((9 : Nat) : Int), 1 = 1 ∧ timesN 3 32 = timesN 3 32 ∧ Sh.Bears (3 + 1) 32, TabsAre, (cM a 3).length < 1048576, Reads W.cell? ga.a (rsAt (l := a)) 0 (mN a 3 * 32), ∀ j, j < mN a 3 * 32 → isU8 (rsAt a (0 + j)) = true, (0 : Int) ≤ 3 ∧ (3 : Int) ≤ ((62 : Nat) : Int), RoundsIn W.cell?, (cM b 3).length < 1048576, Reads W.cell? gb.a (rsAt (l := b)) 0 (mN b 3 * 32), ∀ j, j < mN b 3 * 32 → isU8 (rsAt b (0 + j)) = true, (0 : Int) ≤ 3 ∧ (3 : Int) ≤ ((9 : Nat) : Int), 1 = 1 ∧ timesN 3 32 = timesN 3 32 ∧ Sh.Bears (3 + 1) 32, TabsAre, (cM b 3).length < 1048576, Reads W.cell? gb.a (rsAt (l := b)) 0 (mN b 3 * 32), ∀ j, j < mN b 3 * 32 → isU8 (rsAt b (0 + j)) = true, (0 : Int) ≤ 3 ∧ (3 : Int) ≤ ((62 : Nat) : Int), RoundsIn W.cell?, (cM a 3).length < 1048576, Reads W.cell? ga.a (rsAt (l := a)) 0 (mN a 3 * 32), ∀ j, j < mN a 3 * 32 → isU8 (rsAt a (0 + j)) = true, (0 : Int) ≤ 3 ∧ (3 : Int) ≤ ((9 : Nat) : Int), hfI 3 ≠ 0 ∧ IntKind.u64.wrap ((ix.toNat : Int).tmod (hfI 3)) = (ix.toNat : Int).tmod (hfI 3), 1 + 1 = 1 + 1 ∧ timesN (mN a 3 + zN a 3) 32 = timesN (mN a 3) 32 + timesN (zN a 3) 32 ∧ Sh.Bears (alN a b 3) 32, Reads W.cell? gb.a (rsAt (l := b)) 0 (mN b 3 * 32), 1 = 1 ∧ timesN (mN a 3) 32 = timesN (mN a 3) 32 ∧ Sh.Bears (mN a 3 + zN a 3) 32, 0 ≤ hfI 3 - (mN a 3 : Int) ∧ hfI 3 - (mN a 3 : Int) ≤ 9223372036854775807, WrapI (hfI 3 - (mN a 3 : Int)), Sh.Bears (mN a 3) 32, Reads W.cell? ga.a (rsAt (l := a)) 0 (mN a 3 * 32), 0 ≤ extI false (b.length : Int) (hfI 3) ∧ extI false (b.length : Int) (hfI 3) ≤ (gb.c : Int), 0 ≤ extI false (a.length : Int) (hfI 3) ∧ extI false (a.length : Int) (hfI 3) ≤ (ga.c : Int), placeV d 5 = 3, (0 : Int) < 5 ∧ (5 : Int) ≤ 4611686018427387904, decide ((b.length : Int) ≤ 60) = true, decide ((a.length : Int) ≤ 60) = true, true = true, RoundsIn W.cell?], by kernel_rfl, ⟨(hF a b 3 ix (by decide)).2, brl _ _ (by decide), fun j hj => bu _ _ _ _ j hj, unl _ _ _ (by decide), fun j hj => uu _ _ _ _ _ _ j hj, hr, all _ (by decide), fun j hj => au _ _ j hj, by decide, (hF a b 3 ix (by decide)).1, brl _ _ (by decide), fun j hj => bu _ _ _ _ j hj, unl _ _ _ (by decide), fun j hj => uu _ _ _ _ _ _ j hj, hr, all _ (by decide), fun j hj => au _ _ j hj, by decide, ⟨rfl, rfl, by unfold Sh.Bears maxLen; omega⟩, tabsAre, cal _, rda _, fun _ _ => rfl, by decide, hr, cbl _, rdb _, fun _ _ => rfl, by decide, ⟨rfl, rfl, by unfold Sh.Bears maxLen; omega⟩, tabsAre, cbl _, rdb _, fun _ _ => rfl, by decide, hr, cal _, rda _, fun _ _ => rfl, by decide, rem _ (by decide), ⟨rfl, by simp only [timesN_eq]; omega, by have := (aln 3 (by decide)).2; unfold Sh.Bears maxLen; omega⟩, rdb _, ⟨rfl, rfl, by have := (aln 3 (by decide)).1; have := pow4 (e := 3) (by decide); unfold Sh.Bears maxLen; omega⟩, ⟨az _, by rw [hf_eq]; have := pow4 (e := 3) (by decide); omega⟩, wI (by have := az 3; omega) (by rw [hf_eq]; have := pow4 (e := 3) (by decide); omega), by have := fa 3; unfold Sh.Bears maxLen; omega, rda _, exb _, exa _, hz, by decide, h7, h6, rfl, hr, trivial⟩, rfl⟩
      · exact ⟨orZ 4, true, [RB (brL (BF (alL a b 4) (ixG ix 4) 5) 5) (unL (BF (cM b 4) (ixH ix 4) 4) 4 (T (cM a 4) 4).f) = true, (brL (BF (alL a b 4) (ixG ix 4) 5) 5).length < 1048576, ∀ j, j < 5 * 32 → isU8 (BF (alL a b 4) (ixG ix 4) 5 (0 + j)) = true, (unL (BF (cM b 4) (ixH ix 4) 4) 4 (T (cM a 4) 4).f).length < 1048576, ∀ j, j < (4 + 1) * 32 → isU8 (unF (BF (cM b 4) (ixH ix 4) 4) 4 (T (cM a 4) 4).f (0 + j)) = true, RoundsIn W.cell?, (alL a b 4).length < 1048576, ∀ j, j < alN a b 4 * 32 → isU8 (alF a b 4 (0 + j)) = true, (0 : Int) ≤ 5 ∧ (5 : Int) ≤ ((9 : Nat) : Int), RB (brL (BF (alL a b 4) (ixH ix 4) 5) 5) (unL (BF (cM a 4) (ixH ix 4) 4) 4 (T (cM b 4) 4).f) = true, (brL (BF (alL a b 4) (ixH ix 4) 5) 5).length < 1048576, ∀ j, j < 5 * 32 → isU8 (BF (alL a b 4) (ixH ix 4) 5 (0 + j)) = true, (unL (BF (cM a 4) (ixH ix 4) 4) 4 (T (cM b 4) 4).f).length < 1048576, ∀ j, j < (4 + 1) * 32 → isU8 (unF (BF (cM a 4) (ixH ix 4) 4) 4 (T (cM b 4) 4).f (0 + j)) = true, RoundsIn W.cell?, (alL a b 4).length < 1048576, ∀ j, j < alN a b 4 * 32 → isU8 (alF a b 4 (0 + j)) = true, (0 : Int) ≤ 5 ∧ (5 : Int) ≤ ((9 : Nat) : Int), 1 = 1 ∧ timesN 4 32 = timesN 4 32 ∧ Sh.Bears (4 + 1) 32, TabsAre, (cM a 4).length < 1048576, Reads W.cell? ga.a (rsAt (l := a)) 0 (mN a 4 * 32), ∀ j, j < mN a 4 * 32 → isU8 (rsAt a (0 + j)) = true, (0 : Int) ≤ 4 ∧ (4 : Int) ≤ ((62 : Nat) : Int), RoundsIn W.cell?, (cM b 4).length < 1048576, Reads W.cell? gb.a (rsAt (l := b)) 0 (mN b 4 * 32), ∀ j, j < mN b 4 * 32 → isU8 (rsAt b (0 + j)) = true, (0 : Int) ≤ 4 ∧ (4 : Int) ≤ ((9 : Nat) : Int), 1 = 1 ∧ timesN 4 32 = timesN 4 32 ∧ Sh.Bears (4 + 1) 32, TabsAre, (cM b 4).length < 1048576, Reads W.cell? gb.a (rsAt (l := b)) 0 (mN b 4 * 32), ∀ j, j < mN b 4 * 32 → isU8 (rsAt b (0 + j)) = true, (0 : Int) ≤ 4 ∧ (4 : Int) ≤ ((62 : Nat) : Int), RoundsIn W.cell?, (cM a 4).length < 1048576, Reads W.cell? ga.a (rsAt (l := a)) 0 (mN a 4 * 32), ∀ j, j < mN a 4 * 32 → isU8 (rsAt a (0 + j)) = true, (0 : Int) ≤ 4 ∧ (4 : Int) ≤ ((9 : Nat) : Int), hfI 4 ≠ 0 ∧ IntKind.u64.wrap ((ix.toNat : Int).tmod (hfI 4)) = (ix.toNat : Int).tmod (hfI 4), 1 + 1 = 1 + 1 ∧ timesN (mN a 4 + zN a 4) 32 = timesN (mN a 4) 32 + timesN (zN a 4) 32 ∧ Sh.Bears (alN a b 4) 32, Reads W.cell? gb.a (rsAt (l := b)) 0 (mN b 4 * 32), 1 = 1 ∧ timesN (mN a 4) 32 = timesN (mN a 4) 32 ∧ Sh.Bears (mN a 4 + zN a 4) 32, 0 ≤ hfI 4 - (mN a 4 : Int) ∧ hfI 4 - (mN a 4 : Int) ≤ 9223372036854775807, WrapI (hfI 4 - (mN a 4 : Int)), Sh.Bears (mN a 4) 32, Reads W.cell? ga.a (rsAt (l := a)) 0 (mN a 4 * 32), 0 ≤ extI false (b.length : Int) (hfI 4) ∧ extI false (b.length : Int) (hfI 4) ≤ (gb.c : Int), 0 ≤ extI false (a.length : Int) (hfI 4) ∧ extI false (a.length : Int) (hfI 4) ≤ (ga.c : Int), placeV d 5 = 4, (0 : Int) < 5 ∧ (5 : Int) ≤ 4611686018427387904, decide ((b.length : Int) ≤ 60) = true, decide ((a.length : Int) ≤ 60) = true, true = true, RoundsIn W.cell?], by kernel_rfl, ⟨(hF a b 4 ix (by decide)).2, brl _ _ (by decide), fun j hj => bu _ _ _ _ j hj, unl _ _ _ (by decide), fun j hj => uu _ _ _ _ _ _ j hj, hr, all _ (by decide), fun j hj => au _ _ j hj, by decide, (hF a b 4 ix (by decide)).1, brl _ _ (by decide), fun j hj => bu _ _ _ _ j hj, unl _ _ _ (by decide), fun j hj => uu _ _ _ _ _ _ j hj, hr, all _ (by decide), fun j hj => au _ _ j hj, by decide, ⟨rfl, rfl, by unfold Sh.Bears maxLen; omega⟩, tabsAre, cal _, rda _, fun _ _ => rfl, by decide, hr, cbl _, rdb _, fun _ _ => rfl, by decide, ⟨rfl, rfl, by unfold Sh.Bears maxLen; omega⟩, tabsAre, cbl _, rdb _, fun _ _ => rfl, by decide, hr, cal _, rda _, fun _ _ => rfl, by decide, rem _ (by decide), ⟨rfl, by simp only [timesN_eq]; omega, by have := (aln 4 (by decide)).2; unfold Sh.Bears maxLen; omega⟩, rdb _, ⟨rfl, rfl, by have := (aln 4 (by decide)).1; have := pow4 (e := 4) (by decide); unfold Sh.Bears maxLen; omega⟩, ⟨az _, by rw [hf_eq]; have := pow4 (e := 4) (by decide); omega⟩, wI (by have := az 4; omega) (by rw [hf_eq]; have := pow4 (e := 4) (by decide); omega), by have := fa 4; unfold Sh.Bears maxLen; omega, rda _, exb _, exa _, hz, by decide, h7, h6, rfl, hr, trivial⟩, rfl⟩
theorem merkleUnder_ok : Computes A Tryd.prog 17 (fun _ : GA (Rs 32 × Rs 32 × Int × UInt64 × Unit) => true) :=
  merkleUnder_of (BF := fun l ix d => branchF pairR8 l ix (mmI (d : Int)) d) (T := treeN pairR8) (RB := rootsV) (.cons known18_ok.row (.cons lightRow_ok (.cons place_ok.row (.cons hasher_ok.row (.cons branchG_ok.row (.cons tree_ok.row (.cons roots_ok.row (.nil _))))))))
    (fun l ix d j => bF_u8 _ _ _ _ _ _) (fun a b e ix he => under_facts a b he ix)
end Go.Proofs.YtaloefkkllebeaaDoor
