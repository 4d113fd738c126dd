/- The scalar field: the inverse's contract. -/
import Derived.Test.YtaloefkkllebeaaFa6
set_option linter.unusedVariables false
set_option linter.unusedSimpArgs false
set_option linter.unusedSectionVars false
namespace Go.Proofs.Ytaloefkkllebeaa
open Go Go.Sh
/-- The places of the bits of the lowest k words. -/
def bitsU (a : Num) : Nat → List Nat
  | 0 => []
  | k + 1 => ((tops 64 (wN a k).toNat).map fun j => 64 * k + j) ++ bitsU a k
theorem bitsU_eq (a : Num) : ∀ k, k ≤ 6 → bitsU a k = tops (64 * k) a.val
  | 0, _ => rfl
  | k + 1, h => by
    show _ ++ bitsU a k = _
    rw [bitsU_eq a k (by omega), show 64 * (k + 1) = 64 * k + 64 by omega, tops_add, wN_nat a (by omega), tops_mod]
theorem tops_lt : ∀ (n x v : Nat), v ∈ tops n x → v < n
  | 0, _, _, h => by cases h
  | n + 1, x, v, h => by
    unfold tops at h
    split at h
    · rcases List.mem_cons.1 h with rfl | h
      · omega
      · have := tops_lt n x v h; omega
    · have := tops_lt n x v h; omega
theorem tops_below {n m x v : Nat} (hx : x < 2 ^ m) (hm : m ≤ n) (h : v ∈ tops n x) : v < m := by
  rw [tops_small hx hm] at h
  exact tops_lt m x v h
theorem invGo_append {X : Type} (M : X → X → X) (a : X) : ∀ (L L' : List Nat) (last : Nat) (o : X), invGo M a (L ++ L') last o = invGo M a L' (invGo M a L last o).1 (invGo M a L last o).2
  | [], _, _, _ => rfl
  | v :: L, L', last, o => invGo_append M a L L' v _
theorem invGo_last {X : Type} (M : X → X → X) (a : X) : ∀ (L : List Nat) (last : Nat) (o : X), (invGo M a L last o).1 = last ∨ (invGo M a L last o).1 ∈ L
  | [], _, _ => .inl rfl
  | v :: L, last, o => by
    rcases invGo_last M a L v (M (sqq M (last - v) o) a) with h | h
    · exact .inr (by show (invGo M a L v _).1 ∈ _; rw [h]; exact List.mem_cons_self)
    · exact .inr (List.mem_cons_of_mem _ h)
section
variable (M : Fq → Fq → Fq) (O : UInt64 → Fq) (ht : TblOK Try.prog (tblQi M O)) {old : Addr → Option Value} {k : Cfg A} (a : Fq) (e1 : k.P = Try.prog) (e2 : k.gl = (fun _ => none)) (e3 : k.old = old) (e4 : k.ys = [ysV O a])
include ht e1 e2 e3 e4
theorem inSV_all (i : Nat) (hi : i < 6) : ∀ (d : Nat) (x : UInt64) (last : Nat) (o : Fq), (tops 64 x.toNat).length = d → last ≤ 256 → (∀ v ∈ (tops 64 x.toNat).map (fun j => 64 * i + j), v ≤ last) →
    Goes k (loopNo Try.f65 4) (inSV a o last i x) (.exit 2) (outSV a (invGo M a ((tops 64 x.toNat).map fun j => 64 * i + j) last o).2 (invGo M a ((tops 64 x.toNat).map fun j => 64 * i + j) last o).1 i) := by
  intro d
  induction d with
  | zero =>
    intro x last o hd hl hall
    have h0 : x.toNat = 0 := by
      rcases Nat.eq_zero_or_pos x.toNat with h | h
      · exact h
      · rw [tops_step (n := 64) (by omega) x.toNat_lt] at hd
        cases hd
    have hend := inSV_end O a e1 e2 e3 e4 o last i x (by rw [h0]; rfl)
    rw [h0, tops_zero]
    exact .last (by simp) hend
  | succ d ih =>
    intro x last o hd hl hall
    have h0 : x.toNat ≠ 0 := fun h => by rw [h, tops_zero] at hd; cases hd
    have hx := x.toNat_lt
    have h64 : blN x.toNat ≤ 64 := blN_le hx
    have b1 : ((x.toNat : Int) != 0) = true := by
      simp only [bne_iff_ne, ne_eq]
      omega
    have hs := tops_step (n := 64) h0 hx
    have hc := clrW_nat h0
    obtain ⟨q, eq, g1, g2⟩ := blN_spec h0
    have hv : (64 * (i : Int) + ((blN x.toNat : Int) - 1)) = ((64 * i + (blN x.toNat - 1) : Nat) : Int) := by omega
    rw [hs, ← hc] at hd hall ⊢
    have hv1 : 64 * i + (blN x.toNat - 1) ≤ last := hall _ (by simp)
    have st := inSV_one M O ht a e1 e2 e3 e4 o last i x (64 * i + (blN x.toNat - 1)) (last - (64 * i + (blN x.toNat - 1))) hv (by omega) (by omega) b1 (wrapI (by omega) (by omega)) (wrapI (by omega) (by omega)) (wrapI (by omega) (by omega))
    rw [hv] at st
    refine .step st ?_
    exact ih (clrW x) (64 * i + (blN x.toNat - 1)) (M (sqq M (last - (64 * i + (blN x.toNat - 1))) o) a) (by simpa using hd) (by omega) (fun v hv' => by
      obtain ⟨j, hj, rfl⟩ := List.mem_map.1 hv'
      have hlt : (clrW x).toNat < 2 ^ q := by
        rw [hc, eq, Nat.add_sub_cancel]
        have hp : (2 : Nat) ^ (q + 1) = 2 * 2 ^ q := by rw [Nat.pow_succ, Nat.mul_comm]
        omega
      have := tops_below hlt (by omega) hj
      omega)
theorem outSV_all : ∀ (i : Nat) (last : Nat) (o : Fq), i ≤ 6 → last ≤ 256 → (∀ v ∈ bitsU eN i, v ≤ last) →
    Goes k (loopNo Try.f65 1) (outSV a o last ((i : Int) - 1)) (.exit 0) (anySV a (invGo M a (bitsU eN i) last o).2 (invGo M a (bitsU eN i) last o).1)
  | 0, last, o, _, _, _ => .last (by simp) (outSV_end O a e1 e2 e3 e4 o last)
  | i + 1, last, o, hi, hl, hall => by
    have hh : ((i + 1 : Nat) : Int) - 1 = (i : Int) := by omega
    rw [hh]
    have h1 : ∀ v ∈ (tops 64 (wN eN i).toNat).map (fun j => 64 * i + j), v ≤ last := fun v hv => hall v (List.mem_append_left _ hv)
    have hlast := invGo_last M a ((tops 64 (wN eN i).toNat).map fun j => 64 * i + j) last o
    have hin : SoundFor Try.prog old [ysV O a] (.loop (loopNo Try.f65 4)) (inSV a o last i (wN eN i)) (.exit 2) (outSV a (invGo M a ((tops 64 (wN eN i).toNat).map fun j => 64 * i + j) last o).2 (invGo M a ((tops 64 (wN eN i).toNat).map fun j => 64 * i + j) last o).1 i) :=
      fun c q1 q2 q3 q4 => (inSV_all M O ht (k := c) a q1 q2 q3 q4 i (by omega) _ (wN eN i) last o rfl hl h1).sound
    have st := outSV_one O a e1 e2 e3 e4 o _ last _ i (by omega) hin
    refine .step st ?_
    show Goes k _ _ _ (anySV a (invGo M a (((tops 64 (wN eN i).toNat).map fun j => 64 * i + j) ++ bitsU eN i) last o).2 (invGo M a (((tops 64 (wN eN i).toNat).map fun j => 64 * i + j) ++ bitsU eN i) last o).1)
    rw [invGo_append]
    refine outSV_all i _ _ (by omega) ?_ (fun v hv => ?_)
    · rcases hlast with h | h
      · rw [h]; exact hl
      · exact Nat.le_trans (h1 _ h) hl
    · rcases hlast with h | h
      · rw [h]; exact hall v (List.mem_append_right _ hv)
      · obtain ⟨j, _, e⟩ := List.mem_map.1 h
        rw [← e]
        rw [bitsU_eq eN i (by omega)] at hv
        have := tops_lt _ _ _ hv
        omega
end
/-- The inverse, as it is reckoned. -/
def invP {X : Type} (M : X → X → X) (a o : X) : X := sqq M (invGo M a (bitsU eN 6) 256 o).1 (invGo M a (bitsU eN 6) 256 o).2
theorem eN_small : eN.val < 2 ^ 255 := of_decide_eq_true (by kernel_rfl)
theorem inv_of (M : Fq → Fq → Fq) (O : UInt64 → Fq) (ht : TblOK Try.prog (tblQi M O)) : Computes A Try.prog 50 (fun x : Fq × Unit => invP M x.1 (O 1)) := by
  refine computes_of_runT Try.func50 (by kernel_rfl) (by kernel_rfl) 4 ?_
  rintro _ ⟨a, ⟨⟩⟩ W -
  have hall : ∀ v ∈ bitsU eN 6, v ≤ 256 := fun v hv => by
    rw [bitsU_eq eN 6 (Nat.le_refl _)] at hv
    have := tops_below eN_small (by omega) hv
    omega
  have hlast : (invGo M a (bitsU eN 6) 256 (O 1)).1 ≤ 256 := by
    rcases invGo_last M a (bitsU eN 6) 256 (O 1) with h | h
    · omega
    · exact hall _ h
  have hs : SoundFor Try.prog W.cell? [ysV O a] (.loop (loopNo Try.f65 1)) (outSV a (O 1) ((256 : Nat) : Int) (((6 : Nat) : Int) - 1)) (.exit 0) (anySV a (invGo M a (bitsU eN 6) 256 (O 1)).2 (invGo M a (bitsU eN 6) 256 (O 1)).1) :=
    fun c q1 q2 q3 q4 => (outSV_all M O ht (k := c) a q1 q2 q3 q4 6 256 (O 1) (Nat.le_refl _) (Nat.le_refl _) hall).sound
  have hs2 := fun o => eS_loop M O ht W.cell? a o (invGo M a (bitsU eN 6) 256 (O 1)).1 hlast
  unfold invP
  have hs2 := hs2 (invGo M a (bitsU eN 6) 256 (O 1)).2
  show ∃ tbl its, _ ∧ _ ∧ ∃ orc lp y vc, _ ∧ _ ∧ y = sqq M (invGo M a (bitsU eN 6) 256 (O 1)).1 (invGo M a (bitsU eN 6) 256 (O 1)).2 ∧ _
  revert hs hs2
  generalize invGo M a (bitsU eN 6) 256 (O 1) = r
  obtain ⟨last, o⟩ := r
  intro hs hs2
  simp only at hs hs2 ⊢
  revert hs2
  generalize sqq M last o = z
  intro hs2
  refine ⟨tblQi M O, [iterW Try.prog tblBl [] (fun _ _ => .keep) (lps [(1, outSV a (O 1) 256 5, .exit 0, anySV a o last)]) 4 65 Try.f65], ht,
    ITblOK.cons (iterW_ok (.cons len64_ok.row (.nil _)) (ITblOK.nil _) _ _ 4 Try.func65 (by kernel_rfl) (by kernel_rfl)) (ITblOK.nil _),
    fun _ _ => .keep, lps [(10, eS a o last, .exit 4, eS a z 0)], z,
    [ToldIs (eS a o last), ∀ body, Try.f65.body = some body → LoopsFor Try.prog W.cell? [ysV O a] (lps [(1, outSV a (O 1) 256 5, .exit 0, anySV a o last)]) body, ToldIs (outSV a (O 1) 256 5)], by kernel_rfl, ⟨toldIs _, ?_, toldIs _, trivial⟩, rfl, ?_⟩
  · intro body hb
    refine LoopsFor.cons ?_ hs LoopsFor.nil
    obtain rfl := Option.some.inj hb
    kernel_rfl
  · intro body hb
    refine LoopsFor.cons ?_ hs2 LoopsFor.nil
    obtain rfl := Option.some.inj hb
    kernel_rfl
end Go.Proofs.Ytaloefkkllebeaa
