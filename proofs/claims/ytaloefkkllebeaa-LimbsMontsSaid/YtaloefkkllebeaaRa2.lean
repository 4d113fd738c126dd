/- What is left by a modulus: the reference's, bit by bit. -/
import Derived.Test.YtaloefkkllebeaaRa1
import Derived.Test.YtaloefkkllebeaaFe2
set_option linter.unusedVariables false
set_option linter.unusedSimpArgs false
set_option linter.unusedSectionVars false
namespace Go.Proofs.Ytaloefkkllebeaa
open Go Go.Sh

/-- Words doubled, halved, joined, as they are taken. -/
def sh1 (x : UInt64) : UInt64 := UInt64.ofNat (((x.toNat : Int) * 2 ^ min 1 IntKind.u64.bits) % 18446744073709551616).toNat
def hiB (x : UInt64) : UInt64 := UInt64.ofNat (x.toNat / 2 ^ min 63 IntKind.u64.bits)
def orW (x y : UInt64) : UInt64 := UInt64.ofNat (((BitVec.ofInt IntKind.u64.bits (x.toNat : Int) ||| BitVec.ofInt IntKind.u64.bits (y.toNat : Int)).toNat : Int) % 18446744073709551616).toNat
def bitW (x : UInt64) (s : Nat) : UInt64 := UInt64.ofNat (((BitVec.ofInt IntKind.u64.bits ((UInt64.ofNat (x.toNat / 2 ^ min s IntKind.u64.bits)).toNat : Int) &&& BitVec.ofInt IntKind.u64.bits 1).toNat : Int) % 18446744073709551616).toNat
def twiceL (r : L6) (b : UInt64) : L6 := (orW (sh1 r.1) b, orW (sh1 r.2.1) (hiB r.1), orW (sh1 r.2.2.1) (hiB r.2.1), orW (sh1 r.2.2.2.1) (hiB r.2.2.1), orW (sh1 r.2.2.2.2.1) (hiB r.2.2.2.1), orW (sh1 r.2.2.2.2.2) (hiB r.2.2.2.2.1))
def topB (r : L6) : Bool := ((hiB r.2.2.2.2.2).toNat : Int) == 1

theorem sh1_nat (x : UInt64) : (sh1 x).toNat = 2 * x.toNat % 18446744073709551616 := by
  unfold sh1
  have : ((x.toNat : Int) * 2 ^ min 1 IntKind.u64.bits) = ((2 * x.toNat : Nat) : Int) := by
    have : (2 : Int) ^ min 1 IntKind.u64.bits = 2 := by decide
    rw [this]; omega
  rw [this]
  exact u64_nat (2 * x.toNat)
theorem hiB_nat (x : UInt64) : (hiB x).toNat = x.toNat / 9223372036854775808 := by
  have hx := x.toNat_lt
  unfold hiB
  have : (2 : Nat) ^ min 63 IntKind.u64.bits = 9223372036854775808 := by decide
  rw [this, UInt64.toNat_ofNat_of_lt' (show _ < 18446744073709551616 by omega)]
theorem orW_nat (x y : UInt64) (hy : y.toNat < 2) (hx : x.toNat % 2 = 0) : (orW x y).toNat = x.toNat + y.toNat := by
  have hxl := x.toNat_lt
  have e1 : (BitVec.ofInt 64 (x.toNat : Int)).toNat = x.toNat := by simp
  have e2 : (BitVec.ofInt 64 (y.toNat : Int)).toNat = y.toNat := by simp
  have e3 : (BitVec.ofInt IntKind.u64.bits (x.toNat : Int) ||| BitVec.ofInt IntKind.u64.bits (y.toNat : Int)).toNat = x.toNat + y.toNat := by
    show (BitVec.ofInt 64 (x.toNat : Int) ||| BitVec.ofInt 64 (y.toNat : Int)).toNat = _
    rw [BitVec.toNat_or, e1, e2]
    have h := Nat.two_pow_add_eq_or_of_lt (i := 1) (b := y.toNat) (by simpa using hy) (x.toNat / 2)
    rw [Nat.pow_one] at h
    rw [show 2 * (x.toNat / 2) = x.toNat by omega] at h
    exact h.symm
  unfold orW
  rw [e3]
  have := u64_nat (x.toNat + y.toNat)
  rw [show (x.toNat + y.toNat) % 18446744073709551616 = x.toNat + y.toNat by omega] at this
  exact this
theorem bitW_nat (x : UInt64) (s : Nat) (hs : s < 64) : (bitW x s).toNat = x.toNat / 2 ^ s % 2 := by
  have hx := x.toNat_lt
  have h1 : min s IntKind.u64.bits = s := Nat.min_eq_left (by show s ≤ 64; omega)
  have h2 : x.toNat / 2 ^ s < 18446744073709551616 := Nat.lt_of_le_of_lt (Nat.div_le_self _ _) hx
  have e1 : (BitVec.ofInt 64 (((UInt64.ofNat (x.toNat / 2 ^ s)).toNat : Nat) : Int)).toNat = x.toNat / 2 ^ s := by
    rw [UInt64.toNat_ofNat_of_lt' h2]
    simp only [BitVec.toNat_ofInt]
    generalize x.toNat / 2 ^ s = q at *
    omega
  have e2 : (BitVec.ofInt 64 1).toNat = 2 ^ 1 - 1 := by decide
  have e3 : (BitVec.ofInt IntKind.u64.bits ((UInt64.ofNat (x.toNat / 2 ^ min s IntKind.u64.bits)).toNat : Int) &&& BitVec.ofInt IntKind.u64.bits 1).toNat = x.toNat / 2 ^ s % 2 := by
    rw [h1]
    show (BitVec.ofInt 64 (((UInt64.ofNat (x.toNat / 2 ^ s)).toNat : Nat) : Int) &&& BitVec.ofInt 64 1).toNat = _
    rw [BitVec.toNat_and, e1, e2, Nat.and_two_pow_sub_one_eq_mod]
  unfold bitW
  rw [e3]
  have := u64_nat (x.toNat / 2 ^ s % 2)
  rw [show x.toNat / 2 ^ s % 2 % 18446744073709551616 = x.toNat / 2 ^ s % 2 by omega] at this
  exact this

theorem twiceL_val (r : L6) (b : UInt64) (hb : b.toNat < 2) : val6 (twiceL r b) = (2 * val6 r + b.toNat) % 39402006196394479212279040100143613805079739270465446667948293404245721771497210611414266254884915640806627990306816 ∧
    topB r = decide (39402006196394479212279040100143613805079739270465446667948293404245721771497210611414266254884915640806627990306816 ≤ 2 * val6 r + b.toNat) := by
  obtain ⟨a0, a1, a2, a3, a4, a5⟩ := r
  have h0 := a0.toNat_lt; have h1 := a1.toNat_lt; have h2 := a2.toNat_lt; have h3 := a3.toNat_lt; have h4 := a4.toNat_lt; have h5 := a5.toNat_lt
  have hh : ∀ x : UInt64, (hiB x).toNat < 2 := fun x => by have := x.toNat_lt; rw [hiB_nat]; omega
  have hs : ∀ x : UInt64, (sh1 x).toNat % 2 = 0 := fun x => by rw [sh1_nat]; omega
  have e0 := orW_nat (sh1 a0) b hb (hs a0)
  have e1 := orW_nat (sh1 a1) (hiB a0) (hh a0) (hs a1)
  have e2 := orW_nat (sh1 a2) (hiB a1) (hh a1) (hs a2)
  have e3 := orW_nat (sh1 a3) (hiB a2) (hh a2) (hs a3)
  have e4 := orW_nat (sh1 a4) (hiB a3) (hh a3) (hs a4)
  have e5 := orW_nat (sh1 a5) (hiB a4) (hh a4) (hs a5)
  rw [sh1_nat] at e0 e1 e2 e3 e4 e5
  rw [hiB_nat] at e1 e2 e3 e4 e5
  constructor
  · simp only [twiceL, val6, e0, e1, e2, e3, e4, e5]
    omega
  · have e6 := hiB_nat a5
    have t : topB (a0, a1, a2, a3, a4, a5) = decide (a5.toNat / 9223372036854775808 = 1) := by
      show (((hiB a5).toNat : Int) == 1) = _
      rw [e6]
      by_cases h : a5.toNat / 9223372036854775808 = 1
      · rw [decide_eq_true h, h]; rfl
      · rw [decide_eq_false h]
        exact beq_eq_false_iff_ne.2 (by omega)
    rw [t]
    simp only [val6]
    congr 1
    apply propext
    constructor <;> intro h <;> omega

/-- One bit more of what is left. -/
def nextN (r m : Num) (b : UInt64) : Num := if topB (numL r) = true then numO (twiceL (numL r) b) - m else if (numO (twiceL (numL r) b)) < m then numO (twiceL (numL r) b) else numO (twiceL (numL r) b) - m
theorem nextN_val (r m : Num) (b : UInt64) (hb : b.toNat < 2) (hr : r < m) : (nextN r m b).val = (2 * r.val + b.toNat) % m.val := by
  have hr : r.val < m.val := hr
  obtain ⟨h1, h2⟩ := twiceL_val (numL r) b hb
  rw [val6_numL] at h1 h2
  have hm := m.isLt
  have v : (numO (twiceL (numL r) b)).val = val6 (twiceL (numL r) b) := rfl
  rw [← v] at h1
  have e : ∀ a c : Num, (a - c).val = (39402006196394479212279040100143613805079739270465446667948293404245721771497210611414266254884915640806627990306816 - c.val + a.val) % 39402006196394479212279040100143613805079739270465446667948293404245721771497210611414266254884915640806627990306816 := fun a c => Fin.sub_def a c ▸ rfl
  have hmod : ∀ y, 2 * r.val + b.toNat = y + m.val → y < m.val → (2 * r.val + b.toNat) % m.val = y := fun y h1 h2 => by rw [h1, Nat.add_mod_right, Nat.mod_eq_of_lt h2]
  unfold nextN
  rw [h2]
  by_cases hc : 39402006196394479212279040100143613805079739270465446667948293404245721771497210611414266254884915640806627990306816 ≤ 2 * r.val + b.toNat
  · rw [decide_eq_true hc, if_pos rfl, e, h1]
    refine (hmod _ ?_ ?_).symm <;> omega
  · rw [decide_eq_false hc, if_neg (by simp)]
    by_cases hl : (numO (twiceL (numL r) b)) < m
    · rw [if_pos hl]
      have hl' : (numO (twiceL (numL r) b)).val < m.val := hl
      rw [h1] at hl' ⊢
      rw [Nat.mod_eq_of_lt (show 2 * r.val + b.toNat < 39402006196394479212279040100143613805079739270465446667948293404245721771497210611414266254884915640806627990306816 by omega)] at hl' ⊢
      rw [Nat.mod_eq_of_lt hl']
    · rw [if_neg hl, e, h1]
      have hl' : ¬ (numO (twiceL (numL r) b)).val < m.val := hl
      rw [h1] at hl'
      refine (hmod _ ?_ ?_).symm <;> omega

def tblM1 (D : Num → Num → Num) (B : Num → Num → Bool) : List (Row A) := [rowOf A 17 (fun x : Num × Num × Unit => T2.mk (D x.1 x.2.1) (Cy.mk (B x.1 x.2.1)))]
def modSt (f : Nat → UInt64) (m r : Num) (z : Int) : St A :=
  ⟨slots 0 65 [(2, .val false [.p 0 0]), (3, .val false [.p 1 0]), (4, .val false [.p 2 0]), (5, .val false [.p 3 0]), (6, .val false [.n .i64 z])],
   [some ⟨[.a (.w64 12 f)], 31, false⟩, some ⟨[.a (.big (.num m))], 27, false⟩, some ⟨lit6, 27, false⟩, some ⟨[.a (.big (.num r))], 27, false⟩], 0, [], []⟩
/-- A round, by what its tests say. -/
theorem mod_round (old : Addr → Option Value) (D : Num → Num → Num) (B : Num → Num → Bool) (ht : TblOK Try.prog (tblM1 D B)) (f : Nat → UInt64) (m r : Num) (z : Int) (w1 : WrapI (z - 1)) (w2 : (0 : Int) ≤ z.tmod 64) (w3 : Idx (z.tdiv 64) 12) (w4 : WrapI (z.tdiv 64)) (w5 : decide (z ≥ 0) = true)
    (r' : Num) (hr : r' = if topB (numL r) = true then D (numO (twiceL (numL r) (bitW (f (z.tdiv 64).toNat) (z.tmod 64).toNat))) m else if B (numO (twiceL (numL r) (bitW (f (z.tdiv 64).toNat) (z.tmod 64).toNat))) m = true then numO (twiceL (numL r) (bitW (f (z.tdiv 64).toNat) (z.tmod 64).toNat)) else D (numO (twiceL (numL r) (bitW (f (z.tdiv 64).toNat) (z.tmod 64).toNat))) m)
    {c : Cfg A} (e1 : c.P = Try.prog) (e2 : c.gl = (fun _ => none)) (e3 : c.old = old) (e4 : c.ys = []) : Round c (loopNo Try.f22 5) (modSt f m r z) .normal (modSt f m r' (z - 1)) := by
  subst hr
  cases h1 : topB (numL r) with
  | true =>
    rw [if_pos rfl]
    exact Round.of0 ht (says [(16, true), (58, true)]) 8 [WrapI (z - 1), topB (numL r) = true, (0 : Int) ≤ z.tmod 64, Idx (z.tdiv 64) 12, WrapI (z.tdiv 64), decide (z ≥ 0) = true] (by kernel_rfl) ⟨w1, h1, w2, w3, w4, w5, trivial⟩ (by kernel_rfl) (by kernel_rfl) e1 e2 e3 e4
  | false =>
    rw [if_neg (by simp)]
    cases h2 : B (numO (twiceL (numL r) (bitW (f (z.tdiv 64).toNat) (z.tmod 64).toNat))) m with
    | true =>
      rw [if_pos rfl]
      exact Round.of0 ht (says [(16, true), (58, false), (61, false)]) 8 [WrapI (z - 1), ((cond (B (numO (twiceL (numL r) (bitW (f (z.tdiv 64).toNat) (z.tmod 64).toNat))) m) 1 0 : Int) == 0) = false, topB (numL r) = false, (0 : Int) ≤ z.tmod 64, Idx (z.tdiv 64) 12, WrapI (z.tdiv 64), decide (z ≥ 0) = true] (by kernel_rfl) ⟨w1, by rw [h2]; rfl, h1, w2, w3, w4, w5, trivial⟩ (by kernel_rfl) (by kernel_rfl) e1 e2 e3 e4
    | false =>
      rw [if_neg (by simp)]
      exact Round.of0 ht (says [(16, true), (58, false), (61, true)]) 8 [WrapI (z - 1), ((cond (B (numO (twiceL (numL r) (bitW (f (z.tdiv 64).toNat) (z.tmod 64).toNat))) m) 1 0 : Int) == 0) = true, topB (numL r) = false, (0 : Int) ≤ z.tmod 64, Idx (z.tdiv 64) 12, WrapI (z.tdiv 64), decide (z ≥ 0) = true] (by kernel_rfl) ⟨w1, by rw [h2]; rfl, h1, w2, w3, w4, w5, trivial⟩ (by kernel_rfl) (by kernel_rfl) e1 e2 e3 e4

/-- A digit of words. -/
theorem valW_word : ∀ (l : List UInt64) (j : Nat), j < l.length → (l.getD j 0).toNat = valW l / 18446744073709551616 ^ j % 18446744073709551616
  | x :: l, 0, _ => by
    have := x.toNat_lt
    simp only [valW, List.getD_cons_zero, Nat.pow_zero, Nat.div_one]
    omega
  | x :: l, j + 1, h => by
    have ih := valW_word l j (by simpa using h)
    have := x.toNat_lt
    rw [List.getD_cons_succ, ih, Nat.pow_succ, Nat.mul_comm, ← Nat.div_div_eq_div_mul]
    congr 2
    simp only [valW]
    omega
  | [], j, h => by simp at h
theorem v12_word (t : R64 12) (j : Nat) (hj : j < 12) : (t.f j).toNat = v12 t / 18446744073709551616 ^ j % 18446744073709551616 := by
  have h := valW_word t.list j (by simpa [R64.list] using hj)
  show (t.f j).toNat = valW t.list / 18446744073709551616 ^ j % 18446744073709551616
  rw [← h]
  simp [R64.list, List.getD_eq_getElem?_getD, hj]
theorem pow64 (j : Nat) : (18446744073709551616 : Nat) ^ j = 2 ^ (64 * j) := by rw [Nat.pow_mul]
theorem v12_bit (t : R64 12) (z : Nat) (hz : z < 768) : (bitW (t.f (z / 64)) (z % 64)).toNat = v12 t / 2 ^ z % 2 := by
  rw [bitW_nat _ _ (by omega), v12_word t _ (by omega), pow64]
  have e : 2 ^ z = 2 ^ (64 * (z / 64)) * 2 ^ (z % 64) := by rw [← Nat.pow_add]; congr 1; omega
  rw [e, ← Nat.div_div_eq_div_mul]
  generalize v12 t / 2 ^ (64 * (z / 64)) = X
  have e2 : (18446744073709551616 : Nat) = 2 ^ (z % 64) * 2 ^ (64 - z % 64) := by rw [← Nat.pow_add, show z % 64 + (64 - z % 64) = 64 by omega]
  rw [e2, Nat.mod_mul_right_div_self]
  have e3 : 2 ^ (64 - z % 64) = 2 * 2 ^ (63 - z % 64) := by rw [show 64 - z % 64 = (63 - z % 64) + 1 by omega, Nat.pow_succ, Nat.mul_comm]
  rw [e3, Nat.mod_mul_right_mod]

/-- What is left of the highest k bits. -/
def leftN (t : R64 12) (m : Num) (k : Nat) : Num := ⟨v12 t / 2 ^ (768 - k) % (if m.val = 0 then 1 else m.val), by
  have hm := m.isLt
  refine Nat.lt_trans (Nat.mod_lt _ ?_) (show (if m.val = 0 then 1 else m.val) < _ from ?_)
  · split <;> omega
  · split <;> omega⟩
theorem high_zero (n k : Nat) (h : n < 18446744073709551616 ^ k) : n / 2 ^ (64 * k) = 0 := by rw [← pow64]; exact Nat.div_eq_of_lt h
theorem leftN_eq (t : R64 12) (m : Num) (k q : Nat) (hq : q = 768 - k) : (leftN t m k).val = v12 t / 2 ^ q % (if m.val = 0 then 1 else m.val) := by subst hq; rfl
theorem leftN_zero (t : R64 12) (m : Num) : leftN t m 0 = 0 := by
  apply Fin.ext
  have h := valW_lt t.list
  have e : t.list.length = 12 := by simp [R64.list]
  rw [e] at h
  have h0 := high_zero (v12 t) 12 h
  rw [leftN_eq t m 0 (64 * 12) (by decide)]
  generalize (2 : Nat) ^ (64 * 12) = P at *
  rw [h0, Nat.zero_mod]
  rfl
theorem leftN_succ (t : R64 12) (m : Num) (hm : m.val ≠ 0) (k : Nat) (hk : k < 768) (b : UInt64) (hb : b.toNat = v12 t / 2 ^ (767 - k) % 2) : nextN (leftN t m k) m b = leftN t m (k + 1) := by
  apply Fin.ext
  have hl : (leftN t m k).val = v12 t / 2 ^ (768 - k) % m.val := by show _ % (if m.val = 0 then 1 else m.val) = _; rw [if_neg hm]
  have hl2 : (leftN t m (k + 1)).val = v12 t / 2 ^ (767 - k) % m.val := by
    show _ / 2 ^ (768 - (k + 1)) % (if m.val = 0 then 1 else m.val) = _
    rw [if_neg hm, show 768 - (k + 1) = 767 - k by omega]
  have hlt : leftN t m k < m := by
    show (leftN t m k).val < m.val
    rw [hl]; exact Nat.mod_lt _ (by omega)
  rw [nextN_val _ _ _ (by omega) hlt, hl, hl2, hb]
  have e : v12 t / 2 ^ (768 - k) = v12 t / 2 ^ (767 - k) / 2 := by rw [Nat.div_div_eq_div_mul, ← Nat.pow_succ]; congr 2; omega
  rw [e]
  generalize v12 t / 2 ^ (767 - k) = X
  have e2 : X = 2 * (X / 2) + X % 2 := by omega
  conv => rhs; rw [e2]
  rw [Nat.add_mod, Nat.mul_mod, Nat.mod_mod, ← Nat.mul_mod, ← Nat.add_mod]

theorem mod_loop (old : Addr → Option Value) (ht : TblOK Try.prog (tblM1 (fun a b => a - b) (fun a b => decide (a < b)))) (t : R64 12) (m : Num) (hm : m.val ≠ 0) :
    SoundFor Try.prog old [] (.loop (loopNo Try.f22 5)) (modSt t.f m (leftN t m 0) 767) (.exit 0) (modSt t.f m (leftN t m 768) (-1)) := by
  have h : SoundFor Try.prog old [] (.loop (loopNo Try.f22 5)) (modSt t.f m (leftN t m 0) (767 - ((0 : Nat) : Int))) (.exit 0) (modSt t.f m (leftN t m 768) (767 - ((768 : Nat) : Int))) := by
    intro c e1 e2 e3 e4
    refine loopAt (inv := fun k => modSt t.f m (leftN t m k) (767 - (k : Int))) (N := 768) (by simp) (fun k hk => ?_) ?_
    · have hz : (767 : Int) - ((k + 1 : Nat) : Int) = 767 - (k : Int) - 1 := by omega
      rw [hz]
      have h1 : ((767 : Int) - k).tdiv 64 = ((767 - k) / 64 : Nat) := by rw [show (767 : Int) - k = ((767 - k : Nat) : Int) by omega]; rfl
      have h2 : ((767 : Int) - k).tmod 64 = ((767 - k) % 64 : Nat) := by rw [show (767 : Int) - k = ((767 - k : Nat) : Int) by omega]; rfl
      refine mod_round old (fun a b => a - b) (fun a b => decide (a < b)) ht t.f m (leftN t m k) (767 - (k : Int)) (wrapI (by omega) (by omega)) (by rw [h2]; omega) ⟨by rw [h1]; omega, by rw [h1]; omega⟩ (wrapI (by rw [h1]; omega) (by rw [h1]; omega)) (decide_eq_true (by omega)) _ ?_ e1 e2 e3 e4
      rw [← leftN_succ t m hm k hk (bitW (t.f (((767 : Int) - k).tdiv 64).toNat) (((767 : Int) - k).tmod 64).toNat) (by
        rw [h1, h2]
        exact v12_bit t (767 - k) (by omega))]
      unfold nextN
      simp only [decide_eq_true_eq]
    · generalize leftN t m 768 = r
      exact Round.of0 ht (says [(16, false)]) 8 [decide ((767 : Int) - ((768 : Nat) : Int) ≥ 0) = false] (by kernel_rfl) ⟨by decide, trivial⟩ (by kernel_rfl) (by kernel_rfl) e1 e2 e3 e4
  exact h

/-- What is left by a modulus; 0 by 0. -/
def modN (t : R64 12) (m : Num) : Num := if m.val = 0 then 0 else leftN t m 768
theorem modN_val (t : R64 12) (m : Num) (hm : m.val ≠ 0) : (modN t m).val = v12 t % m.val := by
  unfold modN
  rw [if_neg hm]
  show v12 t / 2 ^ (768 - 768) % (if m.val = 0 then 1 else m.val) = _
  rw [if_neg hm, Nat.sub_self, Nat.pow_zero, Nat.div_one]
def isNo (m : Num) : Bool := (((numL m).1.toNat : Int) == 0) && ((((numL m).2.1.toNat : Int) == 0) && ((((numL m).2.2.1.toNat : Int) == 0) && ((((numL m).2.2.2.1.toNat : Int) == 0) && ((((numL m).2.2.2.2.1.toNat : Int) == 0) && ((((numL m).2.2.2.2.2.toNat : Int) == 0) && true)))))
theorem isNo_eq (m : Num) : isNo m = decide (m.val = 0) := by
  have h := val6_numL m
  unfold isNo
  generalize numL m = L at h ⊢
  obtain ⟨a, b, c, d, e, f⟩ := L
  simp only [val6] at h
  by_cases hz : m.val = 0
  · rw [decide_eq_true hz]
    rw [hz] at h
    simp only [Nat.add_eq_zero_iff, Nat.mul_eq_zero] at h
    have h0 : a.toNat = 0 := h.1
    have h1 : b.toNat = 0 := by have := h.2; simp at this; omega
    have h2 : c.toNat = 0 := by have := h.2; simp at this; omega
    have h3 : d.toNat = 0 := by have := h.2; simp at this; omega
    have h4 : e.toNat = 0 := by have := h.2; simp at this; omega
    have h5 : f.toNat = 0 := by have := h.2; simp at this; omega
    simp [h0, h1, h2, h3, h4, h5]
  · rw [decide_eq_false hz]
    apply Bool.eq_false_iff.2
    intro hc
    simp only [Bool.and_eq_true, beq_iff_eq, Bool.and_true] at hc
    omega
theorem refMod_ok : Computes A Try.prog 22 (fun x : R64 12 × Num × Unit => modN x.1 x.2.1) := by
  have ht : TblOK Try.prog (tblM1 (fun a b => a - b) (fun a b => decide (a < b))) := .cons refSub_ok.row (.nil _)
  refine computes_of_runW ht (ITblOK.nil _) Try.func22 (by kernel_rfl) (by kernel_rfl) 8 ?_
  rintro ⟨⟩ ⟨t, m, ⟨⟩⟩ W -
  have hi := isNo_eq m
  by_cases hm : m.val = 0
  · rw [decide_eq_true hm] at hi
    refine ⟨says [(13, true)], noLoop, 0, [isNo m = true], by kernel_rfl, ⟨hi, trivial⟩, ?_, fun body _ => loopsFor_none⟩
    show (0 : Num) = modN t m
    unfold modN
    rw [if_pos hm]
  · rw [decide_eq_false hm] at hi
    have hs := mod_loop W.cell? ht t m hm
    rw [leftN_zero] at hs
    have hv : modN t m = leftN t m 768 := by unfold modN; rw [if_neg hm]
    show ∃ orc lp y vc, _ ∧ All vc ∧ y = modN t m ∧ _
    rw [hv]
    revert hs
    generalize leftN t m 768 = r
    intro hs
    refine ⟨says [(13, false)], lps [(5, modSt t.f m 0 767, .exit 0, modSt t.f m r (-1))], r, [ToldIs (modSt t.f m 0 767), isNo m = false], by kernel_rfl, ⟨toldIs _, hi, trivial⟩, rfl, fun body hb => ?_⟩
    refine LoopsFor.cons ?_ hs LoopsFor.nil
    obtain rfl := Option.some.inj hb
    kernel_rfl
end Go.Proofs.Ytaloefkkllebeaa
