/- The laws of powers of p. -/
import Derived.Test.YtbdbmcdcjejffaaGg3
set_option linter.unusedVariables false
set_option linter.unusedSimpArgs false
set_option linter.unusedSectionVars false
namespace Go.Proofs.Ytbdbmcdcjejffaa
open Go Go.Sh

theorem modI_neg {n d : Int} (h : n.tmod d < 0) : n.tmod d + d = modI n d := (if_pos h).symm
theorem modI_pos {n d : Int} (h : ¬ n.tmod d < 0) : n.tmod d = modI n d := (if_neg h).symm
theorem modI_id {k d : Int} (h0 : 0 ≤ k) (h1 : k < d) : modI k d = k := by
  unfold modI
  rw [Int.tmod_eq_emod_of_nonneg h0, Int.emod_eq_of_lt h0 h1, if_neg (by omega)]
theorem modI_range (n : Int) {d : Int} (hd : 0 < d) : 0 ≤ modI n d ∧ modI n d < d := by
  have h1 := Int.lt_tmod_of_pos n hd
  have h2 := Int.tmod_lt_of_pos n hd
  unfold modI
  split <;> omega
theorem modI_sum {j k : Int} {d : Nat} (h0 : 0 ≤ j) (h1 : 0 ≤ k) (hd : 0 < d) : (modI (j + k) d).toNat = (j.toNat + k.toNat) % d := by
  have e : j + k = ((j.toNat + k.toNat : Nat) : Int) := by omega
  unfold modI
  rw [e, Int.tmod_eq_emod_of_nonneg (by omega), ← Int.natCast_emod, if_neg (by omega), Int.toNat_natCast]

theorem tblFp6Frobs_ok (k : Nat) : TblOK Try.prog (tblFp6Frobs k (six3 (num2 wideF)) fr6 (fun a b => decide (a = b)) (m3 xiE) (addV add2) toT6 (fun a => powT a pN)) :=
  .cons known6_ok.row (.cons (light6Row_ok k) (.cons six6_ok.row (.cons fr6_ok.row (.cons eqV_ok.row (.cons mulV_ok.row (.cons addV_ok.row (.cons refs6_ok.row (.cons frobT1_ok.row (.nil _)))))))))

theorem fr6_ref (a : F6) : eqT (toT6 (fr6 a 1)) (powT (toT6 a) pN) = true := by
  refine eqs ?_
  rw [powT_toT6]
  exact congrArg toT6 (step6_is a)
theorem facts6 (a b : F6) (n m K L : Int) (hK : K = modI n 6) (hL : L = modI m 6) : (eqT (toT6 (fr6 a 1)) (powT (toT6 a) pN) = true) ∧ (decide (fr6 (addV add2 a b) K = addV add2 (fr6 a K) (fr6 b K)) = true) ∧ (decide (fr6 ((m3 xiE) a b) K = (m3 xiE) (fr6 a K) (fr6 b K)) = true) ∧ (decide (fr6 (fr6 a K) L = fr6 a (K + L)) = true) ∧ (WrapI (K + L)) ∧ (decide (fr6 a 0 = a) = true) ∧ (decide (fr6 a n = fr6 a K) = true) := by
  have k1 := modI_range n (d := 6) (by decide)
  have l1 := modI_range m (d := 6) (by decide)
  rw [← hK] at k1
  rw [← hL] at l1
  refine ⟨fr6_ref a, decide_eq_true (itN_p st6_p a b _), decide_eq_true (itN_m st6_m a b _), decide_eq_true ?_, wrapI (by omega) (by omega), decide_eq_true rfl, decide_eq_true ?_⟩
  · show itN st6 (modI L 6).toNat (itN st6 (modI K 6).toNat a) = itN st6 (modI (K + L) 6).toNat a
    have ms : (modI (K + L) 6).toNat = (K.toNat + L.toNat) % 6 := modI_sum (d := 6) k1.1 l1.1 (by decide)
    rw [modI_id k1.1 k1.2, modI_id l1.1 l1.2, ms, itN_mod st6_six, itN_add]
  · show itN st6 (modI n 6).toNat a = itN st6 (modI K 6).toNat a
    rw [modI_id k1.1 k1.2, hK]

theorem wrap_neg6 (n : Int) (h : decide (n.tmod 6 < 0) = true) : WrapI (n.tmod 6 + 6) := by
  have h1 := Int.lt_tmod_of_pos n (b := 6) (by decide)
  have h2 := Int.tmod_lt_of_pos n (b := 6) (by decide)
  exact wrapI (by omega) (by omega)
theorem frobs6_ok : Computes A Try.prog 13 (fun _ : Bs × Bs × Int × Int × Unit => true) :=
  fp6Frobs_of (six3 (num2 wideF)) fr6 (fun a b => decide (a = b)) (m3 xiE) (addV add2) toT6 (fun a => powT a pN) tblFp6Frobs_ok
    (fun a b n m hn hm => by
      obtain ⟨q0, q1, q2, q3, q4, q5, q6⟩ := facts6 a b n m _ _ (modI_neg (of_decide_eq_true hn)) (modI_neg (of_decide_eq_true hm))
      exact ⟨q0, q1, q2, q3, q4, q5, q6, wrap_neg6 m hm, wrap_neg6 n hn, rfl, trivial⟩)
    (fun a b n m hn hm => by
      obtain ⟨q0, q1, q2, q3, q4, q5, q6⟩ := facts6 a b n m _ _ (modI_neg (of_decide_eq_true hn)) (modI_pos (of_decide_eq_false hm))
      exact ⟨q0, q1, q2, q3, q4, q5, q6, wrap_neg6 n hn, rfl, trivial⟩)
    (fun a b n m hn hm => by
      obtain ⟨q0, q1, q2, q3, q4, q5, q6⟩ := facts6 a b n m _ _ (modI_pos (of_decide_eq_false hn)) (modI_neg (of_decide_eq_true hm))
      exact ⟨q0, q1, q2, q3, q4, q5, q6, wrap_neg6 m hm, rfl, trivial⟩)
    (fun a b n m hn hm => by
      obtain ⟨q0, q1, q2, q3, q4, q5, q6⟩ := facts6 a b n m _ _ (modI_pos (of_decide_eq_false hn)) (modI_pos (of_decide_eq_false hm))
      exact ⟨q0, q1, q2, q3, q4, q5, q6, rfl, trivial⟩)

theorem tblFp12Frobs_ok (k : Nat) : TblOK Try.prog (tblFp12Frobs k (twelve2 (six3 (num2 wideF))) fr12 (fun a b => decide (a = b)) conjY (m2 vE) toT (fun a => powT a pN)) :=
  .cons known7_ok.row (.cons (light7Row_ok k) (.cons twelve_ok.row (.cons fr12_ok.row (.cons eqY_ok.row (.cons conjY_ok.row (.cons mulY_ok.row (.cons refs7_ok.row (.cons frobT1_ok.row (.nil _)))))))))

theorem fr12_ref (a : F12) : eqT (toT (fr12 a 1)) (powT (toT a) pN) = true := by
  refine eqs ?_
  rw [powT_toT]
  exact congrArg toT (step12_is a)
theorem facts12 (a b : F12) (n m K L : Int) (hK : K = modI n 12) (hL : L = modI m 12) : (eqT (toT (fr12 a 1)) (powT (toT a) pN) = true) ∧ (decide (fr12 ((m2 vE) a b) K = (m2 vE) (fr12 a K) (fr12 b K)) = true) ∧ (decide (fr12 (fr12 a K) L = fr12 a (K + L)) = true) ∧ (WrapI (K + L)) ∧ (decide (fr12 a 6 = conjY a) = true) ∧ (decide (fr12 a 0 = a) = true) ∧ (decide (fr12 a n = fr12 a K) = true) := by
  have k1 := modI_range n (d := 12) (by decide)
  have l1 := modI_range m (d := 12) (by decide)
  rw [← hK] at k1
  rw [← hL] at l1
  refine ⟨fr12_ref a, decide_eq_true (itN_m st12_m a b _), decide_eq_true ?_, wrapI (by omega) (by omega), decide_eq_true (st12_six a), decide_eq_true rfl, decide_eq_true ?_⟩
  · show itN st12 (modI L 12).toNat (itN st12 (modI K 12).toNat a) = itN st12 (modI (K + L) 12).toNat a
    have ms : (modI (K + L) 12).toNat = (K.toNat + L.toNat) % 12 := modI_sum (d := 12) k1.1 l1.1 (by decide)
    rw [modI_id k1.1 k1.2, modI_id l1.1 l1.2, ms, itN_mod st12_twelve, itN_add]
  · show itN st12 (modI n 12).toNat a = itN st12 (modI K 12).toNat a
    rw [modI_id k1.1 k1.2, hK]

theorem wrap_neg12 (n : Int) (h : decide (n.tmod 12 < 0) = true) : WrapI (n.tmod 12 + 12) := by
  have h1 := Int.lt_tmod_of_pos n (b := 12) (by decide)
  have h2 := Int.tmod_lt_of_pos n (b := 12) (by decide)
  exact wrapI (by omega) (by omega)
theorem frobs7_ok : Computes A Try.prog 24 (fun _ : Bs × Bs × Int × Int × Unit => true) :=
  fp12Frobs_of (twelve2 (six3 (num2 wideF))) fr12 (fun a b => decide (a = b)) conjY (m2 vE) toT (fun a => powT a pN) tblFp12Frobs_ok
    (fun a b n m hn hm => by
      obtain ⟨q0, q1, q2, q3, q4, q5, q6⟩ := facts12 a b n m _ _ (modI_neg (of_decide_eq_true hn)) (modI_neg (of_decide_eq_true hm))
      exact ⟨q0, q1, q2, q3, q4, q5, q6, wrap_neg12 m hm, wrap_neg12 n hn, rfl, trivial⟩)
    (fun a b n m hn hm => by
      obtain ⟨q0, q1, q2, q3, q4, q5, q6⟩ := facts12 a b n m _ _ (modI_neg (of_decide_eq_true hn)) (modI_pos (of_decide_eq_false hm))
      exact ⟨q0, q1, q2, q3, q4, q5, q6, wrap_neg12 n hn, rfl, trivial⟩)
    (fun a b n m hn hm => by
      obtain ⟨q0, q1, q2, q3, q4, q5, q6⟩ := facts12 a b n m _ _ (modI_pos (of_decide_eq_false hn)) (modI_neg (of_decide_eq_true hm))
      exact ⟨q0, q1, q2, q3, q4, q5, q6, wrap_neg12 m hm, rfl, trivial⟩)
    (fun a b n m hn hm => by
      obtain ⟨q0, q1, q2, q3, q4, q5, q6⟩ := facts12 a b n m _ _ (modI_pos (of_decide_eq_false hn)) (modI_pos (of_decide_eq_false hm))
      exact ⟨q0, q1, q2, q3, q4, q5, q6, rfl, trivial⟩)

end Go.Proofs.Ytbdbmcdcjejffaa
