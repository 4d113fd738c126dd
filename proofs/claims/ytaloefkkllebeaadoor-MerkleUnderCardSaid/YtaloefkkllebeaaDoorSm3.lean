/- Trees: the reference's branch is the tree's; rows held against one another. -/
import Derived.Test.YtaloefkkllebeaaDoorSm2
set_option linter.unusedVariables false
set_option linter.unusedSimpArgs false
set_option linter.unusedSectionVars false
namespace Go.Sh
theorem segL_at (l : List (R8 32)) (s : Sg) (j : Nat) (h : j < s.n * 32) : rsB (segL l s) j = rsB l (s.o + j) := by
  unfold segL
  rw [cutR_at _ _ _ _ h]
  rfl
theorem take_min {α : Type} (L : List α) (n p : Nat) (h : L.length = n) : L.take (min n p) = L.take p := by
  rcases Nat.le_total n p with h1 | h1
  · rw [Nat.min_eq_left h1, List.take_of_length_le (by omega), List.take_of_length_le (by omega)]
  · rw [Nat.min_eq_right h1]
theorem nm_seg_lo (l : List (R8 32)) (d : Nat) (s : Sg) : nm (segL l (loS d s)) = (nm (segL l s)).take (2 ^ d) := by
  have h3 := (hfS_ok d s).2.2
  have h4 : halfS d s ≤ s.n := by rw [h3]; exact Nat.min_le_left _ _
  have e : segL l (loS d s) = cutR 32 (fun j => u8of (rsAt l (s.o + j))) (halfS d s) := by unfold segL loS; rfl
  rw [e, nm_cut _ (segL l s) 0 (halfS d s) (by rw [segL_len]; omega) (fun j hj => by rw [segL_at _ _ _ (by omega)]; show rsB l (s.o + j) = _; congr 1; omega), List.drop_zero, h3]
  exact take_min _ _ _ (by rw [nm_len, segL_len])
theorem nm_seg_hi (l : List (R8 32)) (d : Nat) (s : Sg) : nm (segL l (hiS d s)) = (nm (segL l s)).drop (2 ^ d) := by
  have h3 := (hfS_ok d s).2.2
  have h4 : halfS d s ≤ s.n := by rw [h3]; exact Nat.min_le_left _ _
  have e : segL l (hiS d s) = cutR 32 (fun j => u8of (rsAt l (halfS d s * 32 + s.o + j))) (s.n - halfS d s) := by unfold segL hiS; rfl
  rw [e, nm_cut _ (segL l s) (halfS d s) (s.n - halfS d s) (by rw [segL_len]; omega) (fun j hj => by rw [segL_at _ _ _ (by omega)]; show rsB l (halfS d s * 32 + s.o + j) = _; congr 1; omega)]
  have hl : (nm (segL l s)).length = s.n := by rw [nm_len, segL_len]
  rw [List.take_of_length_le (by rw [List.length_drop]; omega), h3]
  rcases Nat.le_total s.n (2 ^ d) with h1 | h1
  · rw [Nat.min_eq_left h1, List.drop_eq_nil_of_le (by omega), List.drop_eq_nil_of_le (by omega)]
  · rw [Nat.min_eq_right h1]
theorem flatR_len : ∀ rows : List (Nat → UInt8), (flatR rows).length = rows.length * 32
  | [] => rfl
  | r :: rows => by
    have ih := flatR_len rows
    unfold flatR at ih ⊢
    rw [List.flatMap_cons, List.length_append, ih]
    simp
    omega
theorem flat_at : ∀ (rows : List (Nat → UInt8)) (k j : Nat) (r : Nat → UInt8), rows[k]? = some r → j < 32 → pickN 0 (flatR rows) (k * 32 + j) = r j
  | r0 :: rows, 0, j, r, h, hj => by
    simp at h
    subst h
    have e : (flatR (r0 :: rows))[0 * 32 + j]? = some (r0 j) := by
      unfold flatR
      rw [List.flatMap_cons, List.getElem?_append_left (by simp; omega), List.getElem?_map, List.getElem?_range (by omega)]
      simp
    have hl : 0 * 32 + j < (flatR (r0 :: rows)).length := by
      rcases Nat.lt_or_ge (0 * 32 + j) (flatR (r0 :: rows)).length with h | h
      · exact h
      · rw [List.getElem?_eq_none h] at e; cases e
    rw [pickN_at 0 _ _ hl] at e
    exact Option.some.inj e
  | r0 :: rows, k + 1, j, r, h, hj => by
    simp at h
    have ih := flat_at rows k j r h hj
    have hl : k * 32 + j < (flatR rows).length := by
      have hk : k < rows.length := by
        rcases Nat.lt_or_ge k rows.length with h1 | h1
        · exact h1
        · rw [List.getElem?_eq_none h1] at h; cases h
      have := flatR_len rows
      omega
    have e : (flatR (r0 :: rows))[(k + 1) * 32 + j]? = (flatR rows)[k * 32 + j]? := by
      unfold flatR
      rw [List.flatMap_cons, List.getElem?_append_right (by simp; omega)]
      congr 1
      simp
      omega
    have hl2 : (k + 1) * 32 + j < (flatR (r0 :: rows)).length := by
      rcases Nat.lt_or_ge ((k + 1) * 32 + j) (flatR (r0 :: rows)).length with h1 | h1
      · exact h1
      · rw [List.getElem?_eq_none h1, pickN_at 0 _ _ hl] at e; cases e
    rw [pickN_at 0 _ _ hl2, pickN_at 0 _ _ hl] at e
    rw [Option.some.inj e]
    exact ih
/-! ### Rows held against one another -/
def fdR (a b : List (R8 32)) : Nat → Nat → Nat
  | 0, i => i
  | f + 1, i => match eqB (elL a i) (elL b i) 0 32 with | true => fdR a b f (i + 1) | false => i
theorem fdR_spec (a b : List (R8 32)) : ∀ f i, i ≤ fdR a b f i ∧ fdR a b f i ≤ i + f ∧ (∀ j, i ≤ j → j < fdR a b f i → eqB (elL a j) (elL b j) 0 32 = true) ∧ (fdR a b f i < i + f → eqB (elL a (fdR a b f i)) (elL b (fdR a b f i)) 0 32 = false)
  | 0, i => ⟨Nat.le_refl _, Nat.le_refl _, fun j h1 h2 => absurd h2 (by show ¬ j < i; omega), fun h => absurd h (by show ¬ i < i + 0; omega)⟩
  | f + 1, i => by
    unfold fdR
    cases he : eqB (elL a i) (elL b i) 0 32 with
    | true =>
      obtain ⟨h1, h2, h3, h4⟩ := fdR_spec a b f (i + 1)
      refine ⟨by simp only; omega, by simp only; omega, fun j k1 k2 => ?_, fun h => h4 (by simp only at h; omega)⟩
      rcases Nat.eq_or_lt_of_le k1 with rfl | k3
      · exact he
      · exact h3 j k3 k2
    | false => exact ⟨Nat.le_refl _, by simp only; omega, fun j h1 h2 => absurd h2 (by simp only; omega), fun _ => he⟩
def fdN (a b : List (R8 32)) : Nat := fdR a b a.length 0
def rootsV (a b : List (R8 32)) : Bool := match ((a.length : Int) != (b.length : Int)) with | true => false | false => decide (fdN a b = a.length)
theorem rootsV_true {a b : List (R8 32)} (hl : a.length = b.length) (h : ∀ i, i < a.length → eqB (elL a i) (elL b i) 0 32 = true) : rootsV a b = true := by
  obtain ⟨h1, h2, h3, h4⟩ := fdR_spec a b a.length 0
  unfold rootsV
  have e : ((a.length : Int) != (b.length : Int)) = false := by rw [hl]; simp
  rw [e]
  refine decide_eq_true ?_
  unfold fdN
  rcases Nat.lt_or_ge (fdR a b a.length 0) a.length with h5 | h5
  · have := h4 (by omega)
    rw [h _ h5] at this
    cases this
  · omega
end Go.Sh
namespace Go.Proofs.YtaloefkkllebeaaDoor
open Go Go.Sh
theorem rbR_nodes (Pr : R8 32 → R8 32 → R8 32) (l : List (R8 32)) (ix : UInt64) (L : List (R8 32)) (idx : Nat) : ∀ (d : Nat) (s : Sg) (rows : List (Nat → UInt8)), nm (segL l s) = (L.drop (idx / 2 ^ d * 2 ^ d)).take (2 ^ d) → (∀ k, k < d → bitQ ix k = decide (idx / 2 ^ k % 2 = 1)) →
    (rbR (treeN Pr) l ix d s rows).2 = ((List.range d).map fun k => (nodeT Pr zR L k ((idx / 2 ^ k) ^^^ 1)).f) ++ rows
  | 0, s, rows, _, _ => rfl
  | d + 1, s, rows, hseg, hbit => by
    have hj : idx / 2 ^ (d + 1) = idx / 2 ^ d / 2 := by rw [Nat.div_div_eq_div_mul, ← Nat.pow_succ]
    have hb := hbit d (by omega)
    have hlo := nm_seg_lo l d s
    have hhi := nm_seg_hi l d s
    rw [hseg, hj] at hlo hhi
    have e2 : (2 : Nat) ^ (d + 1) = 2 ^ d + 2 ^ d := by rw [Nat.pow_succ]; omega
    have em : idx / 2 ^ d / 2 * 2 ^ (d + 1) = 2 * (idx / 2 ^ d / 2) * 2 ^ d := by rw [Nat.pow_succ, Nat.mul_comm (2 ^ d) 2, ← Nat.mul_assoc, Nat.mul_comm (idx / 2 ^ d / 2) 2]
    rw [List.take_take, Nat.min_eq_left (by rw [e2]; exact Nat.le_add_right _ _), em] at hlo
    rw [List.drop_take, List.drop_drop, em, e2, Nat.add_sub_cancel] at hhi
    have key : ∀ b, b = decide (idx / 2 ^ d % 2 = 1) → nm (segL l (stepS b d s)) = (L.drop (idx / 2 ^ d * 2 ^ d)).take (2 ^ d) ∧ treeN Pr (segL l (sibS b d s)) d = nodeT Pr zR L d ((idx / 2 ^ d) ^^^ 1) := by
      intro b h
      rw [xor1]
      by_cases ho : idx / 2 ^ d % 2 = 1
      · rw [decide_eq_true ho] at h
        subst h
        rw [if_pos ho]
        have e3 : 2 * (idx / 2 ^ d / 2) = idx / 2 ^ d - 1 := by omega
        have e4 : 2 * (idx / 2 ^ d / 2) * 2 ^ d + 2 ^ d = idx / 2 ^ d * 2 ^ d := by
          have : idx / 2 ^ d = 2 * (idx / 2 ^ d / 2) + 1 := by omega
          conv => rhs; rw [this, Nat.add_mul, Nat.one_mul]
        refine ⟨?_, ?_⟩
        · show nm (segL l (hiS d s)) = _
          rw [hhi, e4]
        · show treeT Pr zR (nm (segL l (loS d s))) d = _
          rw [hlo, treeT_take _ _ _ _ _ (Nat.le_refl _), e3]
          rfl
      · rw [decide_eq_false ho] at h
        subst h
        rw [if_neg ho]
        have e3 : 2 * (idx / 2 ^ d / 2) = idx / 2 ^ d := by omega
        refine ⟨?_, ?_⟩
        · show nm (segL l (loS d s)) = _
          rw [hlo, e3]
        · show treeT Pr zR (nm (segL l (hiS d s))) d = _
          rw [hhi, treeT_take _ _ _ _ _ (Nat.le_refl _), e3]
          unfold nodeT
          rw [Nat.add_mul, Nat.one_mul]
    obtain ⟨k1, k2⟩ := key _ hb
    show (rbR (treeN Pr) l ix d (stepS (bitQ ix d) d s) ((treeN Pr (segL l (sibS (bitQ ix d) d s)) d).f :: rows)).2 = _
    rw [rbR_nodes Pr l ix L idx d _ _ k1 (fun k hk => hbit k (by omega)), k2, List.range_succ, List.map_append, List.append_assoc]
    rfl
theorem bit_mod (x d k : Nat) (h : k < d) : x / 2 ^ k % 2 = x % 2 ^ d / 2 ^ k % 2 := by
  have e : (2 : Nat) ^ d = 2 ^ k * 2 ^ (d - k) := by rw [← Nat.pow_add]; congr 1; omega
  rw [e, Nat.mod_mul_right_div_self]
  have e2 : (2 : Nat) ^ (d - k) = 2 * 2 ^ (d - k - 1) := by
    have : d - k = (d - k - 1) + 1 := by omega
    conv => lhs; rw [this, Nat.pow_succ, Nat.mul_comm]
  rw [e2, Nat.mod_mul_right_mod]
theorem rows_same (Pr : R8 32 → R8 32 → R8 32) (hc : Cut Pr) {l : List (R8 32)} (hl : l.length < 1048576) (ix : UInt64) {K : Nat} (hK : K ≤ 62) : rootsV (lC (branchV Pr l ix K)) (lC (rbV (treeN Pr) l ix K)) = true := by
  have hlen : (rbV (treeN Pr) l ix K).length = K := by unfold rbV; rw [cutR_len]
  refine rootsV_true (by rw [lC_len, lC_len, branchV_len, hlen]) (fun i hi => ?_)
  rw [lC_len, branchV_len] at hi
  rw [elL_lC _ _ (by rw [branchV_len]; exact hi), elL_lC _ _ (by rw [hlen]; exact hi), elL_branch Pr hc hl ix hK hi]
  have hp : 0 < 2 ^ K := Nat.pow_pos (by decide)
  have hm : mS l K = min l.length (2 ^ K) := by
    unfold mS
    by_cases h1 : (l.length : Int) > ((2 ^ K : Nat) : Int)
    · rw [decide_eq_true h1]
      show 2 ^ K - 0 = _
      rw [Nat.sub_zero, Nat.min_eq_right (by omega)]
    · rw [decide_eq_false h1]
      show l.length = _
      rw [Nat.min_eq_left (by omega)]
  have hseg : nm (segL l ⟨0, mS l K, 0⟩) = ((roomL l K).drop (ix.toNat % 2 ^ K / 2 ^ K * 2 ^ K)).take (2 ^ K) := by
    have h0 : ix.toNat % 2 ^ K / 2 ^ K = 0 := Nat.div_eq_of_lt (Nat.mod_lt _ hp)
    have hml : mS l K ≤ l.length := by rw [hm]; exact Nat.min_le_left _ _
    rw [h0, Nat.zero_mul, List.drop_zero]
    unfold segL
    rw [nm_cut _ l 0 (mS l K) (by omega) (fun j hj => by show rsB l (0 + j) = _; congr 1), List.drop_zero, hm, take_min _ _ _ (nm_len l)]
    unfold roomL
    rw [List.take_take, Nat.min_self]
  have hn := rbR_nodes Pr l ix (roomL l K) (ix.toNat % 2 ^ K) K ⟨0, mS l K, 0⟩ [] hseg (fun k hk => by rw [bitQ_eq ix (by omega), bit_mod _ K k hk])
  rw [List.append_nil] at hn
  rw [eqB_eq]
  intro j hj
  rw [Nat.zero_add]
  unfold rbV elL
  unfold elR
  rw [extR_at _ _ _ _ hj, cutR_at _ _ _ _ (by omega), hn]
  rw [flat_at _ i j _ (by rw [List.getElem?_map, List.getElem?_range hi]; rfl) hj]
def rtS (ga gb : Spot) (a b : List (R8 32)) (i : Nat) : St A :=
  ⟨slots 0 26 [(0, .val false [rsE ga a]), (1, .val false [rsE gb b]), (4, .val false [.v (.bool false)]), (5, .val false [.n .i64 (i : Int)])], [], 0, [], []⟩
theorem roots_ok : Computes A Tryd.prog 57 (fun x : Rt 32 × Rt 32 × Unit => rootsV x.1.l x.2.1.l) := by
  refine computes_of_runW (TblOK.nil _) (ITblOK.nil _) Tryd.func57 (by kernel_rfl) (by kernel_rfl) 6 ?_
  rintro ⟨ga, gb, _⟩ ⟨⟨a⟩, ⟨b⟩, ⟨⟩⟩ W ⟨⟨ha, na⟩, ⟨hb, nb⟩, _⟩
  have hA : HasRows W a ga := ha
  have hB : HasRows W b gb := hb
  have nA : a.length < 1048576 := na
  show ∃ orc lp y vc, _ ∧ _ ∧ y = rootsV a b ∧ _
  unfold rootsV
  cases hl : ((a.length : Int) != (b.length : Int)) with
  | true => exact ⟨saysY [], noLoop, false, [((a.length : Int) != (b.length : Int)) = true], by kernel_rfl, ⟨hl, trivial⟩, rfl, fun body _ => loopsFor_none⟩
  | false =>
    have el : a.length = b.length := by
      have h : ¬ ((a.length : Int) ≠ (b.length : Int)) := by simpa [bne_iff_ne] using hl
      omega
    obtain ⟨h1, h2, h3, h4⟩ := fdR_spec a b a.length 0
    have hN : fdN a b ≤ a.length := by unfold fdN; omega
    have one : ∀ (c : Cfg A) (q1 : c.P = Tryd.prog) (q2 : c.gl = (fun _ => none)) (q3 : c.old = W.cell?) (q4 : c.ys = []) (i : Nat), i < fdN a b → Round c (loopNo Tryd.f57 4) (rtS ga gb a b i) .normal (rtS ga gb a b (i + 1)) := by
      intro c q1 q2 q3 q4 i hi
      have he := h3 i (by omega) hi
      have r1 : Reads W.cell? ga.a (rsAt (l := a)) (i * 32) 32 := reads_rows (n := 32) hA (by omega)
      have r2 : Reads W.cell? gb.a (rsAt (l := b)) (i * 32) 32 := reads_rows (n := 32) hB (by omega)
      have hne : (!(eqB (elL a i) (elL b i) 0 32)) = false := by rw [he]; rfl
      exact Round.of0 (TblOK.nil _) (saysY [(25, false)]) 6 [WrapI ((i : Int) + 1), (!(eqB (elL a i) (elL b i) 0 32)) = false, Reads W.cell? gb.a (rsAt b) (i * 32) 32, IX (i : Int) b.length, Reads W.cell? ga.a (rsAt a) (i * 32) 32, IX (i : Int) a.length, decide ((i : Int) < (a.length : Int)) = true] (by kernel_rfl)
        ⟨wI (by omega) (by omega), hne, r2, ⟨by omega, by omega⟩, r1, ⟨by omega, by omega⟩, decide_eq_true (by omega), trivial⟩ (by kernel_rfl) (by kernel_rfl) q1 q2 q3 q4
    by_cases hf : fdN a b = a.length
    · rw [decide_eq_true hf]
      have hs : SoundFor Tryd.prog W.cell? [] (.loop (loopNo Tryd.f57 4)) (rtS ga gb a b 0) (.exit 0) (rtS ga gb a b (fdN a b)) := fun c q1 q2 q3 q4 =>
        loopAt (c := c) (inv := fun i => rtS ga gb a b i) (N := fdN a b) (by simp) (fun i hi => one c q1 q2 q3 q4 i hi)
          (by rw [hf]; exact Round.of0 (TblOK.nil _) (saysY [(14, false)]) 6 [decide ((a.length : Int) < (a.length : Int)) = false] (by kernel_rfl) ⟨decide_eq_false (by omega), trivial⟩ (by kernel_rfl) (by kernel_rfl) q1 q2 q3 q4)
      refine ⟨saysY [(10, false)], lps [(4, rtS ga gb a b 0, .exit 0, rtS ga gb a b (fdN a b))], true, [ToldIs (rtS ga gb a b 0), ((a.length : Int) != (b.length : Int)) = false], by kernel_rfl, ⟨toldIs _, hl, trivial⟩, rfl, fun body hb => ?_⟩
      obtain rfl := Option.some.inj hb
      exact LoopsFor.cons (by kernel_rfl) hs LoopsFor.nil
    · rw [decide_eq_false hf]
      have hlt : fdN a b < a.length := by omega
      have he := h4 (by unfold fdN at hlt; omega)
      have hs : SoundFor Tryd.prog W.cell? [] (.loop (loopNo Tryd.f57 4)) (rtS ga gb a b 0) .ret (rtS ga gb a b (fdN a b)) := fun c q1 q2 q3 q4 =>
        loopAt (c := c) (inv := fun i => rtS ga gb a b i) (N := fdN a b) (by simp) (fun i hi => one c q1 q2 q3 q4 i hi) (by
          have he : eqB (elL a (fdN a b)) (elL b (fdN a b)) 0 32 = false := he
          revert he hlt
          generalize fdN a b = i
          intro hlt he
          have r1 : Reads W.cell? ga.a (rsAt (l := a)) (i * 32) 32 := reads_rows (n := 32) hA (by omega)
          have r2 : Reads W.cell? gb.a (rsAt (l := b)) (i * 32) 32 := reads_rows (n := 32) hB (by omega)
          have hne : (!(eqB (elL a i) (elL b i) 0 32)) = true := by rw [he]; rfl
          exact Round.of0 (TblOK.nil _) (saysY []) 6 [(!(eqB (elL a i) (elL b i) 0 32)) = true, Reads W.cell? gb.a (rsAt b) (i * 32) 32, IX (i : Int) b.length, Reads W.cell? ga.a (rsAt a) (i * 32) 32, IX (i : Int) a.length, decide ((i : Int) < (a.length : Int)) = true] (by kernel_rfl)
            ⟨hne, r2, ⟨by omega, by omega⟩, r1, ⟨by omega, by omega⟩, decide_eq_true (by omega), trivial⟩ (by kernel_rfl) (by kernel_rfl) q1 q2 q3 q4)
      refine ⟨saysY [(10, false)], lps [(4, rtS ga gb a b 0, .ret, rtS ga gb a b (fdN a b))], false, [ToldIs (rtS ga gb a b 0), ((a.length : Int) != (b.length : Int)) = false], by kernel_rfl, ⟨toldIs _, hl, trivial⟩, rfl, fun body hb => ?_⟩
      obtain rfl := Option.some.inj hb
      exact LoopsFor.cons (by kernel_rfl) hs LoopsFor.nil
end Go.Proofs.YtaloefkkllebeaaDoor
/- Trees: what the law of branches asks. -/
namespace Go.Proofs.YtaloefkkllebeaaDoor
open Go Go.Sh
def atM (M : Int) (ix : UInt64) : UInt64 := cvU ((BitVec.ofInt IntKind.u64.bits (ix.toNat : Int) &&& BitVec.ofInt IntKind.u64.bits M).toNat : Int)
def hP (l : List (R8 32)) (P : Nat) : Int := extI false (l.length : Int) (P : Int)
def mP (l : List (R8 32)) (P : Nat) : Nat := (hP l P).toNat - 0
theorem hP_ok (l : List (R8 32)) (P : Nat) : 0 ≤ hP l P ∧ hP l P ≤ (l.length : Int) ∧ mP l P = min l.length P := by
  unfold mP hP extI
  simp only [Bool.false_eq_true, if_false]
  split <;> omega
def leafV (l : List (R8 32)) (at' : UInt64) (m : Nat) : Nat → UInt8 := match decide ((at'.toNat : Int) < ((cvU (m : Int)).toNat : Int)) with | true => elL l at'.toNat | false => zR.f
theorem atM_nat (ix : UInt64) {K P : Nat} {M : Int} (hK : K ≤ 62) (hP : P = 2 ^ K) (hM : M = (P : Int) - 1) : (atM M ix).toNat = ix.toNat % 2 ^ K := by
  have hp := pow_lt64 hK
  have e : M = ((2 ^ K - 1 : Nat) : Int) := by rw [hM, hP]; omega
  unfold atM
  rw [e, BitVec.toNat_and, bv64 _ (u64_lt ix), bv64 _ (by omega), Nat.and_two_pow_sub_one_eq_mod]
  exact cvU_nat' (by have := Nat.mod_lt ix.toNat hp.1; omega)
theorem br_facts (Pr : R8 32 → R8 32 → R8 32) (hc : Cut Pr) (l : List (R8 32)) (hl : l.length ≤ 60) (ix : UInt64) (K P : Nat) (M : Int) (hK : K ≤ 8) (hP : P = 2 ^ K) (hM : M = (P : Int) - 1) :
    rootsV (lC (branchV Pr (lC l) ix K)) (lC (rbV (treeN Pr) (lC l) ix K)) = true ∧
    merQ Pr (leafV l (atM M ix) (mP l P)) (treeN Pr (lM l (mP l P)) K).f (lC (branchV Pr (lC l) ix K)) (atM M ix) = true ∧
    merQ Pr (leafV l (atM M ix) (mP l P)) (treeN Pr (lM l (mP l P)) K).f (lC (branchV Pr (lC l) ix K)) ix = ((ix.toNat : Int) == ((atM M ix).toNat : Int)) := by
  have ha := atM_nat ix (K := K) (by omega) hP hM
  have hp := pow_lt64 (d := K) (by omega)
  have hm := (hP_ok l P).2.2
  have hlc : (lC l).length < 1048576 := by rw [lC_len]; omega
  have hroom : roomL (lC l) K = nm (lM l (mP l P)) := by
    unfold roomL
    rw [nm_lC, nm_lM l (by rw [hm]; exact Nat.min_le_left _ _), hm, hP, take_min _ _ _ (nm_len l)]
  have htree : treeN Pr (lC l) K = treeN Pr (lM l (mP l P)) K := by
    unfold treeN
    rw [← hroom]
    unfold roomL
    rw [treeT_take _ _ _ _ _ (Nat.le_refl _)]
  have hleaf : (nodeT Pr zR (roomL (lC l) K) 0 (atM M ix).toNat).f = leafV l (atM M ix) (mP l P) := by
    unfold nodeT leafV
    rw [cvU_nat' (i := mP l P) (by rw [hm]; have := Nat.min_le_left l.length P; omega)]
    show ((List.drop ((atM M ix).toNat * 1) _).getD 0 zR).f = _
    rw [Nat.mul_one, List.getD_eq_getElem?_getD, List.getElem?_drop, Nat.add_zero, hroom, nm_lM l (by rw [hm]; exact Nat.min_le_left _ _), List.getElem?_take]
    by_cases h : (atM M ix).toNat < mP l P
    · have hml : mP l P ≤ l.length := by rw [hm]; exact Nat.min_le_left _ _
      rw [if_pos h, decide_eq_true (show ((atM M ix).toNat : Int) < (mP l P : Int) by omega), ← List.getD_eq_getElem?_getD, nm_at l _ (by omega)]
    · rw [if_neg h, decide_eq_false (show ¬ ((atM M ix).toNat : Int) < (mP l P : Int) by omega)]
      rfl
  have hb := branch_proves Pr hc hlc ix (atM M ix) (d := K) (by omega) ha
  rw [hleaf, htree] at hb
  refine ⟨rows_same Pr hc hlc ix (by omega), hb, ?_⟩
  by_cases he : ix.toNat = (atM M ix).toNat
  · have e : ix = atM M ix := UInt64.toNat_inj.1 he
    rw [← e] at hb ⊢
    rw [hb]
    exact (beq_self_eq_true _).symm
  · have h1 : ((ix.toNat : Int) == ((atM M ix).toNat : Int)) = false := by rw [beq_eq_false_iff_ne]; omega
    rw [h1]
    refine mer_beyond Pr _ _ _ _ (by rw [lC_len, branchV_len]; omega) ?_
    rw [lC_len, branchV_len]
    intro h
    exact he (by rw [ha, Nat.mod_eq_of_lt h])
noncomputable def placeL (z : Int) : Row A := rowIn Tryd.prog [] [] (fun _ t => match Nat.beq t 7 with | true => .lit z | false => .keep) 6 31 Tryd.f31
theorem placeL_ok (z : Int) : RowOK Tryd.prog (placeL z) := rowIn_ok (TblOK.nil _) (ITblOK.nil _) _ 6 Tryd.func31 (by kernel_rfl) (by kernel_rfl)
noncomputable def tblF12 (z : Int) (K : Nat) (VQ : VQT) (Bv : BvT) (T : TrT) (RB : List (R8 32) → UInt64 → List (R8 32)) (RO : List (R8 32) → List (R8 32) → Bool) : List (Row A) :=
  [rowOf A 51 (fun _ : GA Unit => true), lightRow, placeL z, rowOf A 39 (fun _ : Unit => (⟨.mk⟩ : Hz Mk)),
    rowOf A 45 (fun x : Hs Mk × Rt 32 × Dp 62 × Unit => T x.2.1.l x.2.2.1.n), rowOf A 56 (fun x : GA (Rt 32 × Dp 9 × UInt64 × Unit) => (⟨Bv x.x.1.l x.x.2.2.1 x.x.2.1.n⟩ : Rz 32)),
    rowOf A 58 (fun x : Hs Mk × Rt 32 × Li (K : Int) × UInt64 × Unit => (⟨RB x.2.1.l x.2.2.2.1⟩ : Rw 32)), rowOf A 57 (fun x : Rt 32 × Rt 32 × Unit => RO x.1.l x.2.1.l),
    rowOf A 59 (fun x : GA (R8 32 × Rt 32 × UInt64 × R8 32 × Unit) => VQ x.x.1.f x.x.2.2.2.1.f x.x.2.1.l x.x.2.2.1)]
end Go.Proofs.YtaloefkkllebeaaDoor
