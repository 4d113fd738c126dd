/- Trees: how deep one is, for so many; noughts by the reference. -/
import Derived.Test.YtaloefkkllebeaaDoorSi3
set_option linter.unusedVariables false
set_option linter.unusedSimpArgs false
set_option linter.unusedSectionVars false
namespace Go.Sh
def dQ (n : Int) : Nat → Nat → Nat
  | 0, d => d
  | f + 1, d => if d < 62 ∧ (2 : Int) ^ d < n then dQ n f (d + 1) else d
def depQ (n : Int) : Nat := dQ n 62 0
theorem dQ_spec (n : Int) : ∀ f d, d + f = 62 → d ≤ dQ n f d ∧ dQ n f d ≤ 62 ∧ (∀ i, d ≤ i → i < dQ n f d → i < 62 ∧ (2 : Int) ^ i < n) ∧ ¬ (dQ n f d < 62 ∧ (2 : Int) ^ (dQ n f d) < n)
  | 0, d, h => ⟨Nat.le_refl _, by show d ≤ 62; omega, fun i h1 h2 => absurd h2 (by show ¬ i < d; omega), fun h2 => absurd h2.1 (by show ¬ d < 62; omega)⟩
  | f + 1, d, h => by
    unfold dQ
    split
    · rename_i hc
      obtain ⟨h1, h2, h3, h4⟩ := dQ_spec n f (d + 1) (by omega)
      refine ⟨by omega, h2, fun i k1 k2 => ?_, h4⟩
      rcases Nat.eq_or_lt_of_le k1 with rfl | k3
      · exact hc
      · exact h3 i k3 k2
    · rename_i hc
      exact ⟨Nat.le_refl _, by omega, fun i h1 h2 => absurd h2 (by omega), hc⟩
theorem depQ_le (n : Int) : depQ n ≤ 62 := (dQ_spec n 62 0 rfl).2.1
theorem depQ_lt (n : Int) {i : Nat} (h : i < depQ n) : i < 62 ∧ (2 : Int) ^ i < n := (dQ_spec n 62 0 rfl).2.2.1 i (Nat.zero_le _) h
theorem depQ_end (n : Int) : ¬ (depQ n < 62 ∧ (2 : Int) ^ (depQ n) < n) := (dQ_spec n 62 0 rfl).2.2.2
theorem depQ_uniq {n : Int} {d : Nat} (h : d ≤ 62) (h1 : ∀ i, i < d → (2 : Int) ^ i < n) (h2 : ¬ (d < 62 ∧ (2 : Int) ^ d < n)) : depQ n = d := by
  rcases Nat.lt_trichotomy (depQ n) d with h3 | h3 | h3
  · exact absurd ⟨by omega, h1 _ h3⟩ (depQ_end n)
  · exact h3
  · exact absurd (depQ_lt n h3) h2
/-- Two to the power of a number. -/
def pow2W (z : Int) : Int := 1 * 2 ^ min z.toNat IntKind.i64.bits
theorem pow2W_eq {i : Nat} (h : i ≤ 64) : pow2W (i : Int) = (2 : Int) ^ i := by
  unfold pow2W
  rw [Int.one_mul, Int.toNat_natCast, show IntKind.i64.bits = 64 from rfl, Nat.min_eq_left h]
theorem two_pow_le {i : Nat} (h : i ≤ 62) : (0 : Int) < (2 : Int) ^ i ∧ (2 : Int) ^ i ≤ 4611686018427387904 := by
  have h1 : (2 : Nat) ^ i ≤ 2 ^ 62 := Nat.pow_le_pow_right (by decide) h
  have h2 : 0 < (2 : Nat) ^ i := Nat.pos_of_ne_zero (by have := Nat.pow_pos (n := i) (show 0 < 2 by decide); omega)
  have e : ((2 : Int) ^ i) = (((2 : Nat) ^ i : Nat) : Int) := by rw [Int.natCast_pow]; rfl
  rw [e]
  have h3 : (2 : Nat) ^ 62 = 4611686018427387904 := by decide
  omega
end Go.Sh
namespace Go.Proofs.YtaloefkkllebeaaDoor
open Go Go.Sh
def dS (k : Nat) (n : Int) (i : Nat) : St A := ⟨slots 0 k [(0, .val false [.n .i64 n]), (3, .val false [.n .i64 (i : Int)])], [], 0, [], []⟩
section
variable {W : World} (n : Int) {c : Cfg A} (e1 : c.P = Tryd.prog) (e2 : c.gl = (fun _ => none)) (e3 : c.old = W.cell?) (e4 : c.ys = [])
include e1 e2 e3 e4
theorem dS_one (i : Nat) (hi : i < depQ n) : Round c (loopNo Tryd.f102 2) (dS 16 n i) .normal (dS 16 n (i + 1)) := by
  obtain ⟨h1, h2⟩ := depQ_lt n hi
  have hp := two_pow_le (i := i) (by omega)
  have e : pow2W (((cvU (i : Int)).toNat : Int).toNat : Int) = (2 : Int) ^ i := by rw [cvU_nat (by omega), pow2W_eq (by omega)]
  exact Round.of0 (TblOK.nil _) (saysY []) 6 [WrapI ((i : Int) + 1), decide (pow2W (((cvU (i : Int)).toNat : Int).toNat : Int) < n) = true, WrapI (pow2W (((cvU (i : Int)).toNat : Int).toNat : Int)), (0 : Int) ≤ ((cvU (i : Int)).toNat : Int), decide ((i : Int) < 62) = true] (by kernel_rfl)
    ⟨wI (by omega) (by omega), by rw [e]; exact decide_eq_true h2, by rw [e]; exact wI (by omega) (by omega), by omega, decide_eq_true (by omega), trivial⟩ (by kernel_rfl) (by kernel_rfl) e1 e2 e3 e4
theorem dS_end : Round c (loopNo Tryd.f102 2) (dS 16 n (depQ n)) (.exit 0) (dS 16 n (depQ n)) := by
  have h := depQ_end n
  have hle := depQ_le n
  revert h hle
  generalize depQ n = i
  intro h hle
  cases hd : decide ((i : Int) < 62) with
  | false => exact Round.of0 (TblOK.nil _) (saysY [(5, false)]) 6 [decide ((i : Int) < 62) = false] (by kernel_rfl) ⟨hd, trivial⟩ (by kernel_rfl) (by kernel_rfl) e1 e2 e3 e4
  | true =>
    have h1 := of_decide_eq_true hd
    have hp := two_pow_le (i := i) (by omega)
    have e : pow2W (((cvU (i : Int)).toNat : Int).toNat : Int) = (2 : Int) ^ i := by rw [cvU_nat (by omega), pow2W_eq (by omega)]
    exact Round.of0 (TblOK.nil _) (saysY [(11, false)]) 6 [decide (pow2W (((cvU (i : Int)).toNat : Int).toNat : Int) < n) = false, WrapI (pow2W (((cvU (i : Int)).toNat : Int).toNat : Int)), (0 : Int) ≤ ((cvU (i : Int)).toNat : Int), decide ((i : Int) < 62) = true] (by kernel_rfl)
      ⟨by rw [e]; exact decide_eq_false (fun h2 => h ⟨by omega, h2⟩), by rw [e]; exact wI (by omega) (by omega), by omega, hd, trivial⟩ (by kernel_rfl) (by kernel_rfl) e1 e2 e3 e4
theorem rS_one (i : Nat) (hi : i < depQ n) : Round c (loopNo Tryd.f46 2) (dS 15 n i) .normal (dS 15 n (i + 1)) := by
  obtain ⟨h1, h2⟩ := depQ_lt n hi
  have hp := two_pow_le (i := i) (by omega)
  have e : pow2W (i : Int) = (2 : Int) ^ i := pow2W_eq (by omega)
  exact Round.of0 (TblOK.nil _) (saysY []) 6 [WrapI ((i : Int) + 1), decide (pow2W (i : Int) < n) = true, WrapI (pow2W (i : Int)), (0 : Int) ≤ (i : Int), decide ((i : Int) < 62) = true] (by kernel_rfl)
    ⟨wI (by omega) (by omega), by rw [e]; exact decide_eq_true h2, by rw [e]; exact wI (by omega) (by omega), by omega, decide_eq_true (by omega), trivial⟩ (by kernel_rfl) (by kernel_rfl) e1 e2 e3 e4
theorem rS_end : Round c (loopNo Tryd.f46 2) (dS 15 n (depQ n)) (.exit 0) (dS 15 n (depQ n)) := by
  have h := depQ_end n
  have hle := depQ_le n
  revert h hle
  generalize depQ n = i
  intro h hle
  cases hd : decide ((i : Int) < 62) with
  | false => exact Round.of0 (TblOK.nil _) (saysY [(5, false)]) 6 [decide ((i : Int) < 62) = false] (by kernel_rfl) ⟨hd, trivial⟩ (by kernel_rfl) (by kernel_rfl) e1 e2 e3 e4
  | true =>
    have h1 := of_decide_eq_true hd
    have hp := two_pow_le (i := i) (by omega)
    have e : pow2W (i : Int) = (2 : Int) ^ i := pow2W_eq (by omega)
    exact Round.of0 (TblOK.nil _) (saysY [(10, false)]) 6 [decide (pow2W (i : Int) < n) = false, WrapI (pow2W (i : Int)), (0 : Int) ≤ (i : Int), decide ((i : Int) < 62) = true] (by kernel_rfl)
      ⟨by rw [e]; exact decide_eq_false (fun h2 => h ⟨by omega, h2⟩), by rw [e]; exact wI (by omega) (by omega), by omega, hd, trivial⟩ (by kernel_rfl) (by kernel_rfl) e1 e2 e3 e4
end
theorem depthOf_ok : Computes A Tryd.prog 102 (fun x : Int × Unit => ((depQ x.1 : Nat) : Int)) := by
  refine computes_of_runW (TblOK.nil _) (ITblOK.nil _) Tryd.func102 (by kernel_rfl) (by kernel_rfl) 6 ?_
  rintro _ ⟨n, ⟨⟩⟩ W -
  have hs : SoundFor Tryd.prog W.cell? [] (.loop (loopNo Tryd.f102 2)) (dS 16 n 0) (.exit 0) (dS 16 n (depQ n)) := fun c q1 q2 q3 q4 =>
    loopAt (c := c) (inv := fun i => dS 16 n i) (N := depQ n) (by simp) (fun i hi => dS_one n q1 q2 q3 q4 i hi) (dS_end n q1 q2 q3 q4)
  show ∃ orc lp y vc, _ ∧ _ ∧ y = ((depQ n : Nat) : Int) ∧ _
  revert hs
  generalize depQ n = d
  intro hs
  refine ⟨fun _ _ => .keep, lps [(2, dS 16 n 0, .exit 0, dS 16 n d)], (d : Int), [ToldIs (dS 16 n 0)], by kernel_rfl, ⟨toldIs _, trivial⟩, rfl, fun body hb => ?_⟩
  obtain rfl := Option.some.inj hb
  exact LoopsFor.cons (by kernel_rfl) hs LoopsFor.nil
theorem refDepth_ok : Computes A Tryd.prog 46 (fun x : Int × Unit => ((depQ x.1 : Nat) : Int)) := by
  refine computes_of_runW (TblOK.nil _) (ITblOK.nil _) Tryd.func46 (by kernel_rfl) (by kernel_rfl) 6 ?_
  rintro _ ⟨n, ⟨⟩⟩ W -
  have hs : SoundFor Tryd.prog W.cell? [] (.loop (loopNo Tryd.f46 2)) (dS 15 n 0) (.exit 0) (dS 15 n (depQ n)) := fun c q1 q2 q3 q4 =>
    loopAt (c := c) (inv := fun i => dS 15 n i) (N := depQ n) (by simp) (fun i hi => rS_one n q1 q2 q3 q4 i hi) (rS_end n q1 q2 q3 q4)
  show ∃ orc lp y vc, _ ∧ _ ∧ y = ((depQ n : Nat) : Int) ∧ _
  revert hs
  generalize depQ n = d
  intro hs
  refine ⟨fun _ _ => .keep, lps [(2, dS 15 n 0, .exit 0, dS 15 n d)], (d : Int), [ToldIs (dS 15 n 0)], by kernel_rfl, ⟨toldIs _, trivial⟩, rfl, fun body hb => ?_⟩
  obtain rfl := Option.some.inj hb
  exact LoopsFor.cons (by kernel_rfl) hs LoopsFor.nil
/-! ### Noughts, by the reference -/
def zrS (a : Addr) (d : Int) (v : Nat → UInt8) (i : Nat) : St A :=
  ⟨slots 0 19 [(1, .val false [.n .i64 d]), (2, .val false [.p 0 0]), (4, .val false [.p 1 0]), (5, .val false [.p 2 0]), (6, .val false [.n .i64 (i : Int)])],
    [some ⟨[hsT a], 55, false⟩, some ⟨zer8 32, 25, false⟩, some ⟨[.a (.w8 32 v)], 25, false⟩], 0, [], []⟩
def zrN (d : Int) : Nat := (extI false d 64).toNat
theorem zrN_eq (d : Int) : zrN d = (min d 64).toNat := by
  unfold zrN extI
  simp only [Bool.false_eq_true, if_false]
  split <;> omega
section
variable {Pr : R8 32 → R8 32 → R8 32} (ht : TblOK Tryd.prog (tblMk Pr))
include ht
theorem refZero_of : Computes A Tryd.prog 41 (fun x : Hs Mk × Int × Unit => zK Pr zR (zrN x.2.1)) := by
  refine computes_of_runW ht (ITblOK.nil _) Tryd.func41 (by kernel_rfl) (by kernel_rfl) 6 ?_
  rintro ⟨a, _⟩ ⟨⟨m⟩, d, ⟨⟩⟩ W ⟨ha, _⟩
  have hT : HasTab W a := by
    intro i n hin b hb j hj
    obtain rfl := Option.some.inj hb
    exact ha (i + j) (show i + j < 72 by omega)
  have rt : ReadT W.cell? a 0 72 := hT _ _ (by omega)
  have hd : ((zrN d : Nat) : Int) = max (extI false d 64) 0 := by unfold zrN; omega
  have h64 : extI false d 64 ≤ 64 := by unfold extI; simp only [Bool.false_eq_true, if_false]; split <;> omega
  have hs : SoundFor Tryd.prog W.cell? [] (.loop (loopNo Tryd.f41 3)) (zrS a d zR.f 0) (.exit 0) (zrS a d (zK Pr zR (zrN d)).f (zrN d)) := fun c q1 q2 q3 q4 =>
    loopAt (c := c) (inv := fun i => zrS a d (zK Pr zR i).f i) (N := zrN d) (by simp)
      (fun i hi => Round.of0 ht (saysY []) 6 [WrapI ((i : Int) + 1), ReadT W.cell? a 0 72, TabsAre, decide ((i : Int) < extI false d 64) = true] (by kernel_rfl) ⟨wI (by omega) (by omega), rt, tabsAre, decide_eq_true (by omega), trivial⟩ (by kernel_rfl) (by kernel_rfl) q1 q2 q3 q4)
      (Round.of0 ht (saysY [(10, false)]) 6 [decide (((zrN d : Nat) : Int) < extI false d 64) = false] (by kernel_rfl) ⟨decide_eq_false (by omega), trivial⟩ (by kernel_rfl) (by kernel_rfl) q1 q2 q3 q4)
  show ∃ orc lp y vc, _ ∧ _ ∧ y = zK Pr zR (zrN d) ∧ _
  revert hs
  generalize zK Pr zR (zrN d) = w
  intro hs
  refine ⟨fun _ _ => .keep, lps [(3, zrS a d zR.f 0, .exit 0, zrS a d w.f (zrN d))], w, [ToldIs (zrS a d zR.f 0)], by kernel_rfl, ⟨toldIs _, trivial⟩, rfl, fun body hb => ?_⟩
  obtain rfl := Option.some.inj hb
  exact LoopsFor.cons (by kernel_rfl) hs LoopsFor.nil
end
theorem refZero_ok : Computes A Tryd.prog 41 (fun x : Hs Mk × Int × Unit => zK pairR8 zR (zrN x.2.1)) := refZero_of (.cons makerPair_ok.row (.nil _))
end Go.Proofs.YtaloefkkllebeaaDoor
