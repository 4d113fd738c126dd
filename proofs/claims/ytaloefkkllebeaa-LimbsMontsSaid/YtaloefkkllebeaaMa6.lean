/- Montgomery's product: the law. -/
import Derived.Test.YtaloefkkllebeaaMa5
set_option linter.unusedVariables false
set_option linter.unusedSimpArgs false
set_option linter.unusedSectionVars false
namespace Go.Proofs.Ytaloefkkllebeaa
open Go Go.Sh
section
variable (MF : Num → Num → Num → Num) (Ls : Num → Num → Bool) (rM : R64 12 → Num → Num) (rT : Num → Num → R64 12)
def tblMl : List (Row A) :=
  [rowOf A 13 (fun _ : Unit => true), rowOf A 23 (fun x : Num × Num × Num × Unit => MF x.1 x.2.1 x.2.2.1), rowOf A 18 (fun x : Num × Num × Unit => Ls x.1 x.2.1),
    rowOf A 22 (fun x : R64 12 × Num × Unit => rM x.1 x.2.1), rowOf A 20 (fun x : Num × Num × Unit => rT x.1 x.2.1)]
/-- Six noughts, and a number's words behind them. -/
def up12 (r : Num) : R64 12 := ⟨pickN 0 [UInt64.ofNat 0, UInt64.ofNat 0, UInt64.ofNat 0, UInt64.ofNat 0, UInt64.ofNat 0, UInt64.ofNat 0, (numL r).1, (numL r).2.1, (numL r).2.2.1, (numL r).2.2.2.1, (numL r).2.2.2.2.1, (numL r).2.2.2.2.2]⟩
theorem montsLaw_of (ht : TblOK Try.prog (tblMl MF Ls rM rT)) (h0 : ∀ a b m : Num, evenW (numL m).1 = true → eqL (numL (MF a b m)) (UInt64.ofNat 0, UInt64.ofNat 0, UInt64.ofNat 0, UInt64.ofNat 0, UInt64.ofNat 0, UInt64.ofNat 0) = true)
    (h1 : ∀ a b m : Num, evenW (numL m).1 = false → Ls (MF a b m) m = true ∧ eqN (rM (up12 (MF a b m)) m) (rM (rT a b) m) = true) :
    Computes A Try.prog 6 (fun _ : Num × Num × Num × Unit => true) := by
  refine computes_of_run ht Try.func6 (by kernel_rfl) (by kernel_rfl) 8 ?_
  rintro _ ⟨a, b, m, ⟨⟩⟩ W -
  cases he : evenW (numL m).1 with
  | true => exact ⟨saysY [], true, [eqL (numL (MF a b m)) (UInt64.ofNat 0, UInt64.ofNat 0, UInt64.ofNat 0, UInt64.ofNat 0, UInt64.ofNat 0, UInt64.ofNat 0) = true, evenW (numL m).1 = true, true = true], by kernel_rfl, ⟨h0 a b m he, he, rfl, trivial⟩, rfl⟩
  | false => exact ⟨saysY [(18, false)], true, [eqN (rM (up12 (MF a b m)) m) (rM (rT a b) m) = true, Ls (MF a b m) m = true, evenW (numL m).1 = false, true = true], by kernel_rfl, ⟨(h1 a b m he).2, (h1 a b m he).1, he, rfl, trivial⟩, rfl⟩
end
/-- What Montgomery's product is. -/
def MontIs (a b m r : Num) : Prop := r.val < m.val ∧ r.val * 18446744073709551616 ^ 6 % m.val = a.val * b.val % m.val
theorem mont_one {a b m r s : Num} (hm : m.val % 2 = 1) (hr : MontIs a b m r) (hs : MontIs a b m s) : r = s := by
  have hc : Nat.Coprime m.val (18446744073709551616 ^ 6) := by
    have h2 : Nat.Coprime m.val 2 := by
      unfold Nat.Coprime
      rw [Nat.gcd_comm, Nat.gcd_rec, hm]
      exact Nat.gcd_one_left _
    have h3 : (18446744073709551616 : Nat) = 2 ^ 64 := by decide
    rw [h3]
    exact Nat.Coprime.pow_right 6 (Nat.Coprime.pow_right 64 h2)
  have key : ∀ {x y : Num}, MontIs a b m x → MontIs a b m y → x.val ≤ y.val := fun {x y} hx hy => by
    rcases Nat.le_total x.val y.val with h | h
    · exact h
    · have h1 : (x.val * 18446744073709551616 ^ 6 - y.val * 18446744073709551616 ^ 6) % m.val = 0 := Nat.sub_mod_eq_zero_of_mod_eq (by rw [hx.2, hy.2])
      rw [← Nat.sub_mul] at h1
      have h2 := hc.dvd_of_dvd_mul_right (Nat.dvd_of_mod_eq_zero h1)
      have h3 := Nat.eq_zero_of_dvd_of_lt h2 (Nat.lt_of_le_of_lt (Nat.sub_le _ _) hx.1)
      omega
  exact Fin.ext (Nat.le_antisymm (key hr hs) (key hs hr))
open Classical in
noncomputable def montF (a b m : Num) : Num := if m.val % 2 = 0 then numO (UInt64.ofNat 0, UInt64.ofNat 0, UInt64.ofNat 0, UInt64.ofNat 0, UInt64.ofNat 0, UInt64.ofNat 0) else if h : ∃ r, MontIs a b m r then Classical.choose h else numO (UInt64.ofNat 0, UInt64.ofNat 0, UInt64.ofNat 0, UInt64.ofNat 0, UInt64.ofNat 0, UInt64.ofNat 0)
theorem montF_is {a b m r : Num} (hm : m.val % 2 = 1) (hr : MontIs a b m r) : r = montF a b m := by
  have he : ∃ r, MontIs a b m r := ⟨r, hr⟩
  unfold montF
  rw [if_neg (by omega), dif_pos he]
  exact mont_one hm hr (Classical.choose_spec he)
theorem even_numL (m : Num) : evenW (numL m).1 = decide (m.val % 2 = 0) := by
  rw [evenW_eq]
  have h : (numL m).1.toNat = m.val % 18446744073709551616 := by
    show (UInt64.ofNat (m.val % 18446744073709551616)).toNat = _
    exact ofNat_mod _
  rw [h]
  exact decide_eq_decide.2 (by omega)
theorem mont_val {a b m : Num} {f f' : Nat → UInt64} {o' : Option UInt64} (hf : tV f = a.val * b.val) (hm : m.val % 2 = 1) (h : MInv (tV f) m.val 6 f' o') : MontIs a b m (modN (outR f' o') m) := by
  have h0 : m.val ≠ 0 := by omega
  obtain ⟨h1, Q, Y, h2, h3⟩ := h
  have hs := tV_split f' 0 0 (by decide)
  have hv : v12 (outR f' o') = Y := by
    have e : v12 (outR f' o') = valW ((List.range' 6 6).map f') + 18446744073709551616 ^ 6 * topN o' := by
      unfold outR
      rw [v12_of _ rfl]
      have e1 : topN o' = (topV o').toNat := by cases o' <;> rfl
      rw [e1]
      show valW ([f' 6, f' 7, f' 8, f' 9, f' 10, f' 11] ++ [topV o', UInt64.ofNat 0, UInt64.ofNat 0, UInt64.ofNat 0, UInt64.ofNat 0, UInt64.ofNat 0]) = valW [f' 6, f' 7, f' 8, f' 9, f' 10, f' 11] + 18446744073709551616 ^ [f' 6, f' 7, f' 8, f' 9, f' 10, f' 11].length * _
      rw [valW_app]
      have z : valW [topV o', UInt64.ofNat 0, UInt64.ofNat 0, UInt64.ofNat 0, UInt64.ofNat 0, UInt64.ofNat 0] = (topV o').toNat := by
        have z0 : (UInt64.ofNat 0).toNat = 0 := rfl
        simp only [valW, z0, Nat.mul_zero, Nat.add_zero]
      rw [z]
    rw [e]
    have e2 : tV f' = valW ((List.range' 0 6).map f') + 18446744073709551616 ^ 6 * valW ((List.range' 6 6).map f') := by
      unfold tV
      have e3 : List.range' 0 12 = List.range' 0 6 ++ List.range' 6 6 := rfl
      rw [e3, List.map_append, valW_app]
      simp
    have e4 := valW_lt ((List.range' 0 6).map f')
    rw [List.length_map, List.length_range'] at e4
    rw [e2] at h3
    generalize valW ((List.range' 0 6).map f') = lo at h3 e4
    generalize valW ((List.range' 6 6).map f') = hi at h3 ⊢
    generalize topN o' = t at h3 ⊢
    have e5 : (18446744073709551616 : Nat) ^ 12 = 18446744073709551616 ^ 6 * 18446744073709551616 ^ 6 := by decide
    rw [e5, Nat.mul_assoc, Nat.add_assoc, ← Nat.mul_add] at h3
    have e6 : lo % 18446744073709551616 ^ 6 = 0 := by
      have := congrArg (· % 18446744073709551616 ^ 6) h3
      simp only [Nat.add_mul_mod_self_left, Nat.mul_mod_right] at this
      exact this
    rw [Nat.mod_eq_of_lt e4] at e6
    rw [e6, Nat.zero_add] at h3
    exact Nat.eq_of_mul_eq_mul_left (by decide) h3
  have hr : (modN (outR f' o') m).val = Y % m.val := by rw [modN_val _ _ h0, hv]
  refine ⟨by rw [hr]; exact Nat.mod_lt _ (by omega), ?_⟩
  rw [hr, Nat.mod_mul_mod, Nat.mul_comm Y, ← h3, h2, hf, Nat.add_mul_mod_self_left]
theorem tblMm_ok : TblOK Try.prog (tblMm maddHi maddLo adcS adcC) := .cons madd_ok.row (.cons add64_ok.row (.nil _))
theorem mont_ok : Computes A Try.prog 23 (fun x : Num × Num × Num × Unit => montF x.1 x.2.1 x.2.2.1) := by
  refine mont_of maddHi maddLo adcS adcC (fun a b => n12 (a.val * b.val)) modN invO tblMm_ok (.cons limbsMul_ok.row (.cons limbsMod_ok.row (.cons invO_ok.row (.nil _)))) montF ?_ ?_
  · intro a b m he
    rw [even_numL] at he
    unfold montF
    rw [if_pos (of_decide_eq_true he)]
  · intro a b m he
    rw [even_numL] at he
    have hm : m.val % 2 = 1 := by have := of_decide_eq_false he; omega
    have h1 : (numL m).1.toNat = m.val % 18446744073709551616 := ofNat_mod _
    have hv : ((invO (numL m).1).toNat * m.val + 1) % 18446744073709551616 = 0 := by
      have h2 := invO_inv (numL m).1 (by rw [h1]; omega)
      rw [h1, Nat.mul_mod, Nat.mod_mod, ← Nat.mul_mod] at h2
      rw [Nat.add_mod, h2]
    obtain ⟨f', o', hi, hgo⟩ := mAll maddF_val adc_nat tblMm_ok a b m (invO (numL m).1) hv (n12 (a.val * b.val)).f
    refine ⟨f', o', ?_, hgo⟩
    refine montF_is hm (mont_val ?_ hm hi)
    have h3 : tV (n12 (a.val * b.val)).f = v12 (n12 (a.val * b.val)) := by
      show valW ((List.range' 0 12).map _) = valW ((List.range 12).map _)
      rw [List.range_eq_range']
    have ha := a.isLt
    have hb := b.isLt
    have h4 : a.val * b.val < 18446744073709551616 ^ 12 := Nat.lt_of_lt_of_le (Nat.mul_lt_mul'' ha hb) (by decide)
    rw [h3, v12_n12, Nat.mod_eq_of_lt h4]
theorem v12_up12 (r : Num) : v12 (up12 r) = r.val * 18446744073709551616 ^ 6 := by
  unfold up12
  rw [v12_of _ rfl]
  show valW ([UInt64.ofNat 0, UInt64.ofNat 0, UInt64.ofNat 0, UInt64.ofNat 0, UInt64.ofNat 0, UInt64.ofNat 0] ++ words6 (numL r)) = _
  rw [valW_app, words6_val, val6_numL]
  have z : valW [UInt64.ofNat 0, UInt64.ofNat 0, UInt64.ofNat 0, UInt64.ofNat 0, UInt64.ofNat 0, UInt64.ofNat 0] = 0 := by
    have z0 : (UInt64.ofNat 0).toNat = 0 := rfl
    simp only [valW, z0, Nat.mul_zero, Nat.add_zero]
  rw [z, Nat.zero_add, Nat.mul_comm]
  rfl
theorem montF_spec {a b m : Num} (hm : m.val % 2 = 1) : MontIs a b m (montF a b m) := by
  have h1 : (numL m).1.toNat = m.val % 18446744073709551616 := ofNat_mod _
  have hv : ((invO (numL m).1).toNat * m.val + 1) % 18446744073709551616 = 0 := by
    have h2 := invO_inv (numL m).1 (by rw [h1]; omega)
    rw [h1, Nat.mul_mod, Nat.mod_mod, ← Nat.mul_mod] at h2
    rw [Nat.add_mod, h2]
  obtain ⟨f', o', hi, hgo⟩ := mAll maddF_val adc_nat tblMm_ok a b m (invO (numL m).1) hv (n12 (a.val * b.val)).f
  have h3 : tV (n12 (a.val * b.val)).f = v12 (n12 (a.val * b.val)) := by
    show valW ((List.range' 0 12).map _) = valW ((List.range 12).map _)
    rw [List.range_eq_range']
  have h4 : a.val * b.val < 18446744073709551616 ^ 12 := Nat.lt_of_lt_of_le (Nat.mul_lt_mul'' a.isLt b.isLt) (by decide)
  have h5 : MontIs a b m (modN (outR f' o') m) := mont_val (by rw [h3, v12_n12, Nat.mod_eq_of_lt h4]) hm hi
  rw [← montF_is hm h5]
  exact h5
theorem limbsMonts_ok : Computes A Try.prog 6 (fun _ : Num × Num × Num × Unit => true) := by
  refine montsLaw_of montF (fun a b => decide (a < b)) modN (fun a b => n12 (a.val * b.val)) (.cons known2_ok.row (.cons mont_ok.row (.cons limbsLess_ok.row (.cons refMod_ok.row (.cons refTimes_ok.row (.nil _)))))) ?_ ?_
  · intro a b m he
    rw [even_numL] at he
    unfold montF
    rw [if_pos (of_decide_eq_true he), numL_numO]
    rfl
  · intro a b m he
    rw [even_numL] at he
    have hm : m.val % 2 = 1 := by have := of_decide_eq_false he; omega
    obtain ⟨h1, h2⟩ := montF_spec (a := a) (b := b) hm
    refine ⟨decide_eq_true h1, ?_⟩
    rw [eqN_eq]
    refine decide_eq_true (Fin.ext ?_)
    have h4 : a.val * b.val < 18446744073709551616 ^ 12 := Nat.lt_of_lt_of_le (Nat.mul_lt_mul'' a.isLt b.isLt) (by decide)
    rw [modN_val _ _ (by omega), modN_val _ _ (by omega), v12_up12, v12_n12, Nat.mod_eq_of_lt h4, h2]
end Go.Proofs.Ytaloefkkllebeaa
