/- The law of bytes. -/
import Derived.Test.YtbdbmcdcjejffaaGk1
set_option linter.unusedVariables false
set_option linter.unusedSimpArgs false
set_option linter.unusedSectionVars false
namespace Go.Proofs.Ytbdbmcdcjejffaa
open Go Go.Sh
theorem tblBy_ok (k : Nat) : TblOK Try.prog (tblBy k fromE fromB pNum (fun a b => decide (a < b)) (fun a => decide (a = 0)) (fun a => bytesN a.val) (fun a b => a == b) wideF (fun l m => rwideN l m l.length) (fun x => x) fpOf fpOf (fun a b => decide (a = b))) :=
  .cons known_ok.row (.cons (lightRow_ok k) (.cons from_ok.row (.cons refFrom_ok.row (.cons refP_ok.row (.cons refLess_ok.row (.cons isZero_ok.row (.cons bytes_ok.row (.cons sameBytes_ok.row (.cons wide_ok.row (.cons refWide_ok.row (.cons refOf_ok.row (.cons refSmall_ok.row (.cons of_ok.row (.cons same_ok.row (.nil _)))))))))))))))
theorem numB_inj : ∀ (n : Nat) {l r : List UInt8}, l.length = n → r.length = n → numB l = numB r → l = r
  | 0, l, r, h1, h2, _ => by rw [List.eq_nil_of_length_eq_zero h1, List.eq_nil_of_length_eq_zero h2]
  | n + 1, l, r, h1, h2, e => by
    rcases List.eq_nil_or_concat l with rfl | ⟨l', x, rfl⟩
    · simp at h1
    rcases List.eq_nil_or_concat r with rfl | ⟨r', y, rfl⟩
    · simp at h2
    simp only [List.concat_eq_append] at h1 h2 e ⊢
    rw [numB_snoc, numB_snoc] at e
    have hx : x.toNat < 256 := x.toNat_lt
    have hy : y.toNat < 256 := y.toNat_lt
    have e1 : x = y := UInt8.toNat_inj.1 (by omega)
    have e2 := numB_inj n (l := l') (r := r') (by simpa using h1) (by simpa using h2) (by omega)
    rw [e1, e2]
theorem pNum0 : pNum.val ≠ 0 := by show pN ≠ 0; decide
theorem lawBytes_ok : Computes A Try.prog 3 (fun _ : Bs × Bs × UInt64 × Unit => true) := by
  refine fpBytes_of _ _ _ _ _ _ _ _ _ _ _ _ _ tblBy_ok ⟨fun l => ?_, fun l h => ?_, fun l h => ?_, fun l => ?_, fun l => ?_, fun n => decide_eq_true rfl⟩
  · show (fromE l).b = (decide (l.length = 48) && decide ((fromB l).a < pNum))
    by_cases h : l.length = 48
    · have h2 : (fromB l).a.val = numB l := by
        have hlt := numB_cons_le l
        rw [h] at hlt
        show (numOfB l).val = numB l
        unfold numOfB
        rw [dif_pos (by omega)]
      have h3 : (decide ((fromB l).a < pNum) : Bool) = decide (numB l < pN) := by
        show decide ((fromB l).a.val < pN) = _
        rw [h2]
      have hd : decide (l.length = 48) = true := decide_eq_true h
      rw [hd, Bool.true_and, h3]
      unfold fromE
      by_cases h4 : numB l < pN
      · rw [if_pos ⟨h, h4⟩, decide_eq_true h4]
      · rw [if_neg (fun e => h4 e.2), decide_eq_false h4]
    · have hd : decide (l.length = 48) = false := decide_eq_false h
      rw [hd, Bool.false_and]
      unfold fromE
      rw [if_neg (fun e => h e.1)]
  · unfold fromE at h ⊢
    split at h
    · cases h
    · rename_i hn
      rw [if_neg hn]
      exact decide_eq_true rfl
  · unfold fromE at h ⊢
    split at h
    · rename_i hn
      rw [if_pos hn]
      have hv : (fpN (numB l)).val = numB l := Nat.mod_eq_of_lt hn.2
      show (listB (bytesN (fpN (numB l)).val).f == l) = true
      rw [hv]
      have hlt := numB_cons_le l
      rw [hn.1] at hlt
      have he : listB (bytesN (numB l)).f = l := numB_inj 48 (by simp [listB]) hn.1 (numB_bytesN hlt)
      rw [he]
      exact beq_self_eq_true l
    · cases h
  · show (rwideN l pNum l.length).val < pN
    rw [rwideN_all l pNum pNum0]
    exact Nat.mod_lt _ (by decide)
  · refine decide_eq_true (Fin.ext ?_)
    show numB l % pN = (rwideN l pNum l.length).val % pN
    rw [rwideN_all l pNum pNum0]
    show _ = numB l % pN % pN
    rw [Nat.mod_mod]
end Go.Proofs.Ytbdbmcdcjejffaa
