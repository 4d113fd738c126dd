/- Numbers of bytes, bytes of numbers: plain mathematics; limbs.From, limbs.Bytes. -/
import Derived.Test.YtbdbmcdcjejffaaFeI
set_option linter.unusedVariables false
set_option linter.unusedSimpArgs false
set_option linter.unusedSectionVars false
namespace Go.Proofs.Ytbdbmcdcjejffaa
open Go Go.Sh

def valF (f : Nat → UInt64) : Nat := val6 (f 0, f 1, f 2, f 3, f 4, f 5)

theorem numB_snoc (l : List UInt8) (x : UInt8) : numB (l ++ [x]) = 256 * numB l + x.toNat := by simp [numB]
theorem numB_cons_le : ∀ l : List UInt8, numB l < 256 ^ l.length := by
  intro l
  have key : ∀ (l : List UInt8) (n m : Nat), n < 256 ^ m → l.foldl (fun n x => 256 * n + x.toNat) n < 256 ^ (m + l.length) := by
    intro l
    induction l with
    | nil => intro n m h; exact h
    | cons x l ih =>
      intro n m h
      have hx : x.toNat < 256 := x.toNat_lt
      have := ih (256 * n + x.toNat) (m + 1) (by rw [Nat.pow_succ]; omega)
      rw [List.length_cons, show m + (l.length + 1) = m + 1 + l.length by omega]
      exact this
  have := key l 0 0 (by simp)
  simpa [numB] using this

theorem pow256 (k : Nat) : 256 ^ k = 2 ^ (8 * k) := by rw [Nat.pow_mul]

theorem valF_word (f : Nat → UInt64) (j : Nat) (hj : j < 6) : (f j).toNat = valF f / 18446744073709551616 ^ j % 18446744073709551616 := by
  have h0 := (f 0).toNat_lt
  have h1 := (f 1).toNat_lt
  have h2 := (f 2).toNat_lt
  have h3 := (f 3).toNat_lt
  have h4 := (f 4).toNat_lt
  have h5 := (f 5).toNat_lt
  have : j = 0 ∨ j = 1 ∨ j = 2 ∨ j = 3 ∨ j = 4 ∨ j = 5 := by omega
  unfold valF val6
  simp only
  rcases this with rfl | rfl | rfl | rfl | rfl | rfl <;> omega

theorem valF_upd (f : Nat → UInt64) (j d : Nat) (x : UInt64) (hj : j < 6) (hx : x.toNat = (f j).toNat + d) : valF (upd f j x) = valF f + d * 18446744073709551616 ^ j := by
  have : j = 0 ∨ j = 1 ∨ j = 2 ∨ j = 3 ∨ j = 4 ∨ j = 5 := by omega
  unfold valF val6
  simp only
  rcases this with rfl | rfl | rfl | rfl | rfl | rfl <;> simp only [upd] <;> simp <;> omega

theorem or_add {a x s : Nat} (hx : x < 256) (ha : a % 2 ^ (s + 8) = 0) : a ||| (x * 2 ^ s) = a + x * 2 ^ s := by
  have h1 : a = 2 ^ (s + 8) * (a / 2 ^ (s + 8)) := by
    have := Nat.div_add_mod a (2 ^ (s + 8))
    omega
  have h2 : x * 2 ^ s < 2 ^ (s + 8) := by
    rw [Nat.pow_add, Nat.mul_comm]
    exact Nat.mul_lt_mul_of_pos_left hx (Nat.two_pow_pos s)
  rw [h1]
  exact (Nat.two_pow_add_eq_or_of_lt h2 _).symm

theorem orRaw_nat (a : UInt64) (x : UInt8) (s : Nat) (hs : s + 8 ≤ 64) (ha : a.toNat % 2 ^ (s + 8) = 0) : (orRaw a x s).toNat = a.toNat + x.toNat * 2 ^ s := by
  have hx : x.toNat < 256 := x.toNat_lt
  have hal := a.toNat_lt
  have h2 : x.toNat * 2 ^ s < 2 ^ (s + 8) := by
    rw [Nat.pow_add, Nat.mul_comm]
    exact Nat.mul_lt_mul_of_pos_left hx (Nat.two_pow_pos s)
  have hB : (2 : Nat) ^ 64 = 18446744073709551616 := by decide
  have h3 : 2 ^ (s + 8) ≤ 18446744073709551616 := by rw [← hB]; exact Nat.pow_le_pow_right (by decide) hs
  have h4 : x.toNat * 2 ^ s < 18446744073709551616 := Nat.lt_of_lt_of_le h2 h3
  have hsum : a.toNat + x.toNat * 2 ^ s < 18446744073709551616 := by
    rw [← or_add hx ha]
    have h5 := Nat.or_lt_two_pow (n := 64) hal (show x.toNat * 2 ^ s < 2 ^ 64 by rw [hB]; exact h4)
    rwa [hB] at h5
  have e1 : (UInt64.ofNat ((s : Int) % 18446744073709551616).toNat).toNat = s := by
    have : ((s : Int) % 18446744073709551616).toNat = s := by omega
    rw [this, UInt64.toNat_ofNat_of_lt' (show s < 18446744073709551616 by omega)]
  have e2 : (UInt64.ofNat ((x.toNat : Int) % 18446744073709551616).toNat).toNat = x.toNat := by
    have : ((x.toNat : Int) % 18446744073709551616).toNat = x.toNat := by omega
    rw [this, UInt64.toNat_ofNat_of_lt' (show x.toNat < 18446744073709551616 by omega)]
  have e3 : ((((UInt64.ofNat ((s : Int) % 18446744073709551616).toNat).toNat : Int)).toNat) = s := by rw [e1]; rfl
  unfold orRaw
  rw [e2, e3, show min s IntKind.u64.bits = s from Nat.min_eq_left (by show s ≤ 64; omega)]
  have e4 : ((x.toNat : Int) * 2 ^ s % 18446744073709551616).toNat = x.toNat * 2 ^ s := by
    have : ((x.toNat : Int) * 2 ^ s) = ((x.toNat * 2 ^ s : Nat) : Int) := by simp
    rw [this]
    omega
  rw [e4, UInt64.toNat_ofNat_of_lt' (show x.toNat * 2 ^ s < 18446744073709551616 from h4)]
  have e5 : (BitVec.ofInt IntKind.u64.bits (a.toNat : Int) ||| BitVec.ofInt IntKind.u64.bits ((x.toNat * 2 ^ s : Nat) : Int)).toNat = a.toNat + x.toNat * 2 ^ s := by
    show (BitVec.ofInt 64 (a.toNat : Int) ||| BitVec.ofInt 64 ((x.toNat * 2 ^ s : Nat) : Int)).toNat = _
    have f1 : (BitVec.ofInt 64 (a.toNat : Int)).toNat = a.toNat := by simp
    have f2 : (BitVec.ofInt 64 ((x.toNat * 2 ^ s : Nat) : Int)).toNat = x.toNat * 2 ^ s := by
      rw [BitVec.toNat_ofInt]
      have : (2 : Nat) ^ 64 = 18446744073709551616 := by decide
      rw [this]
      omega
    rw [BitVec.toNat_or, f1, f2, or_add hx ha]
  rw [e5]
  have e6 : (((a.toNat + x.toNat * 2 ^ s : Nat) : Int) % 18446744073709551616).toNat = a.toNat + x.toNat * 2 ^ s := by omega
  rw [e6, UInt64.toNat_ofNat_of_lt' (show a.toNat + x.toNat * 2 ^ s < 18446744073709551616 from hsum)]

theorem fromF_val {l : List UInt8} (hl : l.length ≤ 48) : ∀ k, k ≤ l.length → valF (fromF l k) = numB (l.take k) * 256 ^ (l.length - k)
  | 0, _ => by
    have : valF (fromF l 0) = 0 := rfl
    rw [this]; simp [numB]
  | k + 1, hk => by
    have ih := fromF_val hl k (by omega)
    have hz : (l.length : Int) - 1 - k = ((l.length - 1 - k : Nat) : Int) := by omega
    have h1 : (((l.length : Int) - 1 - k).tdiv 8).toNat = (l.length - 1 - k) / 8 := by rw [hz]; rfl
    have h2 : 8 * ((l.length : Int) - 1 - k).tmod 8 = ((8 * ((l.length - 1 - k) % 8) : Nat) : Int) := by rw [hz]; rfl
    obtain ⟨p, hp⟩ : ∃ p, p = l.length - 1 - k := ⟨_, rfl⟩
    rw [← hp] at h1 h2
    have hj : p / 8 < 6 := by omega
    have hd : l.length - k = p + 1 := by omega
    have hd2 : l.length - (k + 1) = p := by omega
    rw [hd] at ih
    -- the word's lower bytes are noughts
    have hw := valF_word (fromF l k) (p / 8) hj
    have hp8 : p + 1 = 8 * (p / 8) + (p % 8 + 1) := by omega
    have hB : ∀ j : Nat, (18446744073709551616 : Nat) ^ j = 256 ^ (8 * j) := by
      intro j
      rw [Nat.pow_mul, show (256 : Nat) ^ 8 = 18446744073709551616 from by decide]
    have hlow : (fromF l k (p / 8)).toNat % 2 ^ (8 * (p % 8) + 8) = 0 := by
      rw [hw, ih, hB, hp8, Nat.pow_add, show 8 * (p % 8) + 8 = 8 * (p % 8 + 1) by omega, ← pow256]
      have e : numB (List.take k l) * (256 ^ (8 * (p / 8)) * 256 ^ (p % 8 + 1)) / 256 ^ (8 * (p / 8)) = numB (List.take k l) * 256 ^ (p % 8 + 1) := by
        rw [Nat.mul_left_comm, Nat.mul_div_cancel_left _ (Nat.pow_pos (by decide))]
      rw [e]
      have hdvd : (256 : Nat) ^ (p % 8 + 1) ∣ 18446744073709551616 := by
        rw [show (18446744073709551616 : Nat) = 256 ^ 8 from by decide]
        exact Nat.pow_dvd_pow 256 (by omega)
      rw [Nat.mod_mod_of_dvd _ hdvd, Nat.mul_mod_left]
    have hword := orRaw_nat (fromF l k (p / 8)) (l.getD k 0) (8 * (p % 8)) (by omega) hlow
    show valF (upd (fromF l k) (((l.length : Int) - 1 - k).tdiv 8).toNat (orRaw (fromF l k (((l.length : Int) - 1 - k).tdiv 8).toNat) (l.getD k 0) (8 * ((l.length : Int) - 1 - k).tmod 8))) = _
    rw [h1, h2, valF_upd _ _ _ _ hj hword, ih, hd2]
    have ht : l.take (k + 1) = l.take k ++ [l.getD k 0] := by
      rw [List.take_succ_eq_append_getElem (by omega), List.getD_eq_getElem?_getD, List.getElem?_eq_getElem (by omega)]
      rfl
    rw [ht, numB_snoc, hB, Nat.add_mul, Nat.pow_succ]
    have e2 : (l.getD k 0).toNat * 2 ^ (8 * (p % 8)) * 256 ^ (8 * (p / 8)) = (l.getD k 0).toNat * 256 ^ p := by
      rw [← pow256, Nat.mul_assoc, ← Nat.pow_add]
      congr 2
      omega
    rw [e2]
    congr 1
    rw [Nat.mul_comm (256 ^ p) 256, ← Nat.mul_assoc, Nat.mul_comm (numB _) 256]

theorem numB_lt {l : List UInt8} (h : l.length ≤ 48) : numB l < 39402006196394479212279040100143613805079739270465446667948293404245721771497210611414266254884915640806627990306816 := by
  have h1 := numB_cons_le l
  have h2 : (256 : Nat) ^ l.length ≤ 256 ^ 48 := Nat.pow_le_pow_right (by decide) h
  have h3 : (256 : Nat) ^ 48 = 39402006196394479212279040100143613805079739270465446667948293404245721771497210611414266254884915640806627990306816 := by decide
  omega

/-- The number of at most 48 bytes; 0 of more. -/
def numOfB (l : List UInt8) : Num := if h : l.length ≤ 48 then ⟨numB l, numB_lt h⟩ else 0
def fromB (l : List UInt8) : T2 Num Bool := T2.mk (numOfB l) (decide (l.length ≤ 48))

theorem limbsFrom_ok : Computes A Try.prog 144 (fun x : Bs × Unit => fromB x.1.l) := by
  refine Computes.eq fromRaw_ok (fun x => ?_)
  obtain ⟨⟨l⟩, ⟨⟩⟩ := x
  simp only [fromB, numOfB]
  by_cases h : l.length ≤ 48
  · simp only [h, if_true, dif_pos, decide_true]
    congr 1
    apply Fin.ext
    show valF (fromF l l.length) = numB l
    rw [fromF_val h l.length (Nat.le_refl _)]
    simp
  · simp only [h, if_false, dif_neg, not_false_eq_true, decide_false]
end Go.Proofs.Ytbdbmcdcjejffaa
