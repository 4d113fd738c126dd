/- Trees: how deep one is, for so many; noughts by the reference. -/
import Derived.Test.YtaloefkkllebeaaDoorTi
set_option linter.unusedVariables false
set_option linter.unusedSimpArgs false
set_option linter.unusedSectionVars false
set_option maxRecDepth 100000
namespace Go.Sh
def dQ (n : Int) : Nat → Nat → Nat
  | 0, d => d
  | f + 1, d => if d < 62 ∧ (2 : Int) ^ d < n then dQ n f (d + 1) else d
def depQ (n : Int) : Nat := dQ n 62 0
theorem dQ_spec (n : Int) : ∀ f d, d + f = 62 → d ≤ dQ n f d ∧ dQ n f d ≤ 62 ∧ (∀ i, d ≤ i → i < dQ n f d → i < 62 ∧ (2 : Int) ^ i < n) ∧ ¬ (dQ n f d < 62 ∧ (2 : Int) ^ (dQ n f d) < n)
  | 0, d, h => ⟨Nat.le_refl _, by show d ≤ 62; omega, fun i h1 h2 => absurd h2 (by show ¬ i < d; omega), fun h2 => absurd h2.1 (by show ¬ d < 62; omega)⟩
  | f + 1, d, h => by
    unfold dQ
    split
    · rename_i hc
      obtain ⟨h1, h2, h3, h4⟩ := dQ_spec n f (d + 1) (by omega)
      refine ⟨by omega, h2, fun i k1 k2 => ?_, h4⟩
      rcases Nat.eq_or_lt_of_le k1 with rfl | k3
      · exact hc
      · exact h3 i k3 k2
    · rename_i hc
      exact ⟨Nat.le_refl _, by omega, fun i h1 h2 => absurd h2 (by omega), hc⟩
theorem depQ_le (n : Int) : depQ n ≤ 62 := (dQ_spec n 62 0 rfl).2.1
theorem depQ_lt (n : Int) {i : Nat} (h : i < depQ n) : i < 62 ∧ (2 : Int) ^ i < n := (dQ_spec n 62 0 rfl).2.2.1 i (Nat.zero_le _) h
theorem depQ_end (n : Int) : ¬ (depQ n < 62 ∧ (2 : Int) ^ (depQ n) < n) := (dQ_spec n 62 0 rfl).2.2.2
theorem depQ_uniq {n : Int} {d : Nat} (h : d ≤ 62) (h1 : ∀ i, i < d → (2 : Int) ^ i < n) (h2 : ¬ (d < 62 ∧ (2 : Int) ^ d < n)) : depQ n = d := by
  rcases Nat.lt_trichotomy (depQ n) d with h3 | h3 | h3
  · exact absurd ⟨by omega, h1 _ h3⟩ (depQ_end n)
  · exact h3
  · exact absurd (depQ_lt n h3) h2
/-- Two to the power of a number. -/
def pow2W (z : Int) : Int := 1 * 2 ^ min z.toNat IntKind.i64.bits
theorem pow2W_eq {i : Nat} (h : i ≤ 64) : pow2W (i : Int) = (2 : Int) ^ i := by
  unfold pow2W
  rw [Int.one_mul, Int.toNat_natCast, show IntKind.i64.bits = 64 from rfl, Nat.min_eq_left h]
theorem two_pow_le {i : Nat} (h : i ≤ 62) : (0 : Int) < (2 : Int) ^ i ∧ (2 : Int) ^ i ≤ 4611686018427387904 := by
  have h1 : (2 : Nat) ^ i ≤ 2 ^ 62 := Nat.pow_le_pow_right (by decide) h
  have h2 : 0 < (2 : Nat) ^ i := Nat.pos_of_ne_zero (by have := Nat.pow_pos (n := i) (show 0 < 2 by decide); omega)
  have e : ((2 : Int) ^ i) = (((2 : Nat) ^ i : Nat) : Int) := by rw [Int.natCast_pow]; rfl
  rw [e]
  have h3 : (2 : Nat) ^ 62 = 4611686018427387904 := by decide
  omega
end Go.Sh
namespace Go.Proofs.YtaloefkkllebeaaDoor
open Go Go.Sh
def dS (k : Nat) (n : Int) (i : Nat) : St A := ⟨slots 0 k [(0, .val false [.n .i64 n]), (3, .val false [.n .i64 (i : Int)])], [], 0, [], []⟩
section
variable {W : World} (n : Int) {c : Cfg A} (e1 : c.P = Tryd.prog) (e2 : c.gl = (fun _ => none)) (e3 : c.old = W.cell?) (e4 : c.ys = [])
include e1 e2 e3 e4
theorem dS_one (i : Nat) (hi : i < depQ n) : Round c (loopNo Tryd.f102 2) (dS 16 n i) .normal (dS 16 n (i + 1)) := by
  obtain ⟨h1, h2⟩ := depQ_lt n hi
  have hp := two_pow_le (i := i) (by omega)
  have e : pow2W (((cvU (i : Int)).toNat : Int).toNat : Int) = (2 : Int) ^ i := by rw [cvU_nat (by omega), pow2W_eq (by omega)]
  exact Round.of0 (TblOK.nil _) (saysY []) 6 [WrapI ((i : Int) + 1), decide (pow2W (((cvU (i : Int)).toNat : Int).toNat : Int) < n) = true, WrapI (pow2W (((cvU (i : Int)).toNat : Int).toNat : Int)), (0 : Int) ≤ ((cvU (i : Int)).toNat : Int), decide ((i : Int) < 62) = true] (by kernel_rfl)
    ⟨wI (by omega) (by omega), by rw [e]; exact decide_eq_true h2, by rw [e]; exact wI (by omega) (by omega), by omega, decide_eq_true (by omega), trivial⟩ (by kernel_rfl) (by kernel_rfl) e1 e2 e3 e4
theorem dS_end : Round c (loopNo Tryd.f102 2) (dS 16 n (depQ n)) (.exit 0) (dS 16 n (depQ n)) := by
  have h := depQ_end n
  have hle := depQ_le n
  revert h hle
  generalize depQ n = i
  intro h hle
  cases hd : decide ((i : Int) < 62) with
  | false => exact Round.of0 (TblOK.nil _) (saysY [(5, false)]) 6 [decide ((i : Int) < 62) = false] (by kernel_rfl) ⟨hd, trivial⟩ (by kernel_rfl) (by kernel_rfl) e1 e2 e3 e4
  | true =>
    have h1 := of_decide_eq_true hd
    have hp := two_pow_le (i := i) (by omega)
    have e : pow2W (((cvU (i : Int)).toNat : Int).toNat : Int) = (2 : Int) ^ i := by rw [cvU_nat (by omega), pow2W_eq (by omega)]
    exact Round.of0 (TblOK.nil _) (saysY [(11, false)]) 6 [decide (pow2W (((cvU (i : Int)).toNat : Int).toNat : Int) < n) = false, WrapI (pow2W (((cvU (i : Int)).toNat : Int).toNat : Int)), (0 : Int) ≤ ((cvU (i : Int)).toNat : Int), decide ((i : Int) < 62) = true] (by kernel_rfl)
      ⟨by rw [e]; exact decide_eq_false (fun h2 => h ⟨by omega, h2⟩), by rw [e]; exact wI (by omega) (by omega), by omega, hd, trivial⟩ (by kernel_rfl) (by kernel_rfl) e1 e2 e3 e4
theorem rS_one (i : Nat) (hi : i < depQ n) : Round c (loopNo Tryd.f46 2) (dS 15 n i) .normal (dS 15 n (i + 1)) := by
  obtain ⟨h1, h2⟩ := depQ_lt n hi
  have hp := two_pow_le (i := i) (by omega)
  have e : pow2W (i : Int) = (2 : Int) ^ i := pow2W_eq (by omega)
  exact Round.of0 (TblOK.nil _) (saysY []) 6 [WrapI ((i : Int) + 1), decide (pow2W (i : Int) < n) = true, WrapI (pow2W (i : Int)), (0 : Int) ≤ (i : Int), decide ((i : Int) < 62) = true] (by kernel_rfl)
    ⟨wI (by omega) (by omega), by rw [e]; exact decide_eq_true h2, by rw [e]; exact wI (by omega) (by omega), by omega, decide_eq_true (by omega), trivial⟩ (by kernel_rfl) (by kernel_rfl) e1 e2 e3 e4
theorem rS_end : Round c (loopNo Tryd.f46 2) (dS 15 n (depQ n)) (.exit 0) (dS 15 n (depQ n)) := by
  have h := depQ_end n
  have hle := depQ_le n
  revert h hle
  generalize depQ n = i
  intro h hle
  cases hd : decide ((i : Int) < 62) with
  | false => exact Round.of0 (TblOK.nil _) (saysY [(5, false)]) 6 [decide ((i : Int) < 62) = false] (by kernel_rfl) ⟨hd, trivial⟩ (by kernel_rfl) (by kernel_rfl) e1 e2 e3 e4
  | true =>
    have h1 := of_decide_eq_true hd
    have hp := two_pow_le (i := i) (by omega)
    have e : pow2W (i : Int) = (2 : Int) ^ i := pow2W_eq (by omega)
    exact Round.of0 (TblOK.nil _) (saysY [(10, false)]) 6 [decide (pow2W (i : Int) < n) = false, WrapI (pow2W (i : Int)), (0 : Int) ≤ (i : Int), decide ((i : Int) < 62) = true] (by kernel_rfl)
      ⟨by rw [e]; exact decide_eq_false (fun h2 => h ⟨by omega, h2⟩), by rw [e]; exact wI (by omega) (by omega), by omega, hd, trivial⟩ (by kernel_rfl) (by kernel_rfl) e1 e2 e3 e4
end
theorem depthOf_ok : Computes A Tryd.prog 102 (fun x : Int × Unit => ((depQ x.1 : Nat) : Int)) := by
  refine computes_of_runW (TblOK.nil _) (ITblOK.nil _) Tryd.func102 (by kernel_rfl) (by kernel_rfl) 6 ?_
  rintro _ ⟨n, ⟨⟩⟩ W -
  have hs : SoundFor Tryd.prog W.cell? [] (.loop (loopNo Tryd.f102 2)) (dS 16 n 0) (.exit 0) (dS 16 n (depQ n)) := fun c q1 q2 q3 q4 =>
    loopAt (c := c) (inv := fun i => dS 16 n i) (N := depQ n) (by simp) (fun i hi => dS_one n q1 q2 q3 q4 i hi) (dS_end n q1 q2 q3 q4)
  show ∃ orc lp y vc, _ ∧ _ ∧ y = ((depQ n : Nat) : Int) ∧ _
  revert hs
  generalize depQ n = d
  intro hs
  refine ⟨fun _ _ => .keep, lps [(2, dS 16 n 0, .exit 0, dS 16 n d)], (d : Int), [ToldIs (dS 16 n 0)], by kernel_rfl, ⟨toldIs _, trivial⟩, rfl, fun body hb => ?_⟩
  obtain rfl := Option.some.inj hb
  exact LoopsFor.cons (by kernel_rfl) hs LoopsFor.nil
theorem refDepth_ok : Computes A Tryd.prog 46 (fun x : Int × Unit => ((depQ x.1 : Nat) : Int)) := by
  refine computes_of_runW (TblOK.nil _) (ITblOK.nil _) Tryd.func46 (by kernel_rfl) (by kernel_rfl) 6 ?_
  rintro _ ⟨n, ⟨⟩⟩ W -
  have hs : SoundFor Tryd.prog W.cell? [] (.loop (loopNo Tryd.f46 2)) (dS 15 n 0) (.exit 0) (dS 15 n (depQ n)) := fun c q1 q2 q3 q4 =>
    loopAt (c := c) (inv := fun i => dS 15 n i) (N := depQ n) (by simp) (fun i hi => rS_one n q1 q2 q3 q4 i hi) (rS_end n q1 q2 q3 q4)
  show ∃ orc lp y vc, _ ∧ _ ∧ y = ((depQ n : Nat) : Int) ∧ _
  revert hs
  generalize depQ n = d
  intro hs
  refine ⟨fun _ _ => .keep, lps [(2, dS 15 n 0, .exit 0, dS 15 n d)], (d : Int), [ToldIs (dS 15 n 0)], by kernel_rfl, ⟨toldIs _, trivial⟩, rfl, fun body hb => ?_⟩
  obtain rfl := Option.some.inj hb
  exact LoopsFor.cons (by kernel_rfl) hs LoopsFor.nil
/-! ### Noughts, by the reference -/
def zrS (a : Addr) (d : Int) (v : Nat → UInt8) (i : Nat) : St A :=
  ⟨slots 0 19 [(1, .val false [.n .i64 d]), (2, .val false [.p 0 0]), (4, .val false [.p 1 0]), (5, .val false [.p 2 0]), (6, .val false [.n .i64 (i : Int)])],
    [some ⟨[hsT a], 55, false⟩, some ⟨zer8 32, 25, false⟩, some ⟨[.a (.w8 32 v)], 25, false⟩], 0, [], []⟩
def zrN (d : Int) : Nat := (extI false d 64).toNat
theorem zrN_eq (d : Int) : zrN d = (min d 64).toNat := by
  unfold zrN extI
  simp only [Bool.false_eq_true, if_false]
  split <;> omega
section
variable {Pr : R8 32 → R8 32 → R8 32} (ht : TblOK Tryd.prog (tblMk Pr))
include ht
theorem refZero_of : Computes A Tryd.prog 41 (fun x : Hs Mk × Int × Unit => zK Pr zR (zrN x.2.1)) := by
  refine computes_of_runW ht (ITblOK.nil _) Tryd.func41 (by kernel_rfl) (by kernel_rfl) 6 ?_
  rintro ⟨a, _⟩ ⟨⟨m⟩, d, ⟨⟩⟩ W ⟨ha, _⟩
  have hT : HasTab W a := by
    intro i n hin b hb j hj
    obtain rfl := Option.some.inj hb
    exact ha (i + j) (show i + j < 72 by omega)
  have rt : ReadT W.cell? a 0 72 := hT _ _ (by omega)
  have hd : ((zrN d : Nat) : Int) = max (extI false d 64) 0 := by unfold zrN; omega
  have h64 : extI false d 64 ≤ 64 := by unfold extI; simp only [Bool.false_eq_true, if_false]; split <;> omega
  have hs : SoundFor Tryd.prog W.cell? [] (.loop (loopNo Tryd.f41 3)) (zrS a d zR.f 0) (.exit 0) (zrS a d (zK Pr zR (zrN d)).f (zrN d)) := fun c q1 q2 q3 q4 =>
    loopAt (c := c) (inv := fun i => zrS a d (zK Pr zR i).f i) (N := zrN d) (by simp)
      (fun i hi => Round.of0 ht (saysY []) 6 [WrapI ((i : Int) + 1), ReadT W.cell? a 0 72, TabsAre, decide ((i : Int) < extI false d 64) = true] (by kernel_rfl) ⟨wI (by omega) (by omega), rt, tabsAre, decide_eq_true (by omega), trivial⟩ (by kernel_rfl) (by kernel_rfl) q1 q2 q3 q4)
      (Round.of0 ht (saysY [(10, false)]) 6 [decide (((zrN d : Nat) : Int) < extI false d 64) = false] (by kernel_rfl) ⟨decide_eq_false (by omega), trivial⟩ (by kernel_rfl) (by kernel_rfl) q1 q2 q3 q4)
  show ∃ orc lp y vc, _ ∧ _ ∧ y = zK Pr zR (zrN d) ∧ _
  revert hs
  generalize zK Pr zR (zrN d) = w
  intro hs
  refine ⟨fun _ _ => .keep, lps [(3, zrS a d zR.f 0, .exit 0, zrS a d w.f (zrN d))], w, [ToldIs (zrS a d zR.f 0)], by kernel_rfl, ⟨toldIs _, trivial⟩, rfl, fun body hb => ?_⟩
  obtain rfl := Option.some.inj hb
  exact LoopsFor.cons (by kernel_rfl) hs LoopsFor.nil
end
theorem refZero_ok : Computes A Tryd.prog 41 (fun x : Hs Mk × Int × Unit => zK pairR8 zR (zrN x.2.1)) := refZero_of (.cons makerPair_ok.row (.nil _))
end Go.Proofs.YtaloefkkllebeaaDoor

/- Trees, by the reference: the argument types. -/
namespace Go.Sh
/-- A depth, b at most. -/
structure Dp (b : Nat) where
  n : Nat
instance (b : Nat) : Arg A (Dp b) where
  G := Unit
  good W g x := x.n ≤ b
  tv g x := .val false [.n .i64 (x.n : Int)]
  val g x := .int .i64 (x.n : Int)
  is := by
    intro W g x β h
    exact LIs.of_single rfl
  parse old m t := match Arg.parse (A := A) (T := Int) old m t with | some (z, vc) => some (⟨z.toNat⟩, (0 ≤ z ∧ z ≤ (b : Int)) :: vc) | none => none
  ok := by
    intro c X W0 W β m t x vc v h hvc hm e
    split at h
    · rename_i z vc' hz
      simp at h
      obtain ⟨rfl, rfl⟩ := h
      obtain ⟨g, h1, h2⟩ := Arg.ok (A := A) (T := Int) (c := c) (m := m) (t := t) hz (fun p hp => hvc p (by simp [hp])) hm e
      have h3 : 0 ≤ z ∧ z ≤ (b : Int) := hvc _ (by simp)
      refine ⟨(), by show z.toNat ≤ b; omega, ?_⟩
      rw [h2]
      show Value.int .i64 z = .int .i64 ((z.toNat : Nat) : Int)
      rw [Int.toNat_of_nonneg h3.1]
    · cases h
/-- Rows, each cut to its bytes. -/
def nm (l : List (R8 32)) : List (R8 32) := (List.range l.length).map fun k => ⟨elL l k⟩
theorem nm_len (l : List (R8 32)) : (nm l).length = l.length := by simp [nm]
theorem extR_congr (F G : Nat → UInt8) : ∀ (n i k : Nat), (∀ j, j < n → F (i + j) = G (k + j)) → extR F i n = extR G k n
  | 0, _, _, _ => rfl
  | n + 1, i, k, h => by
    have h0 := h 0 (by omega)
    rw [Nat.add_zero, Nat.add_zero] at h0
    show F i :: extR F (i + 1) n = G k :: extR G (k + 1) n
    rw [h0, extR_congr F G n (i + 1) (k + 1) (fun j hj => by rw [Nat.add_assoc, Nat.add_assoc, Nat.add_comm 1 j]; exact h (j + 1) (by omega))]
theorem elR_congr {F G : Nat → UInt8} {i k : Nat} (h : ∀ j, j < 32 → F (i + j) = G (k + j)) : elR F i = elR G k := by
  unfold elR
  rw [extR_congr F G 32 i k h]
/-- A cut of rows. -/
theorem nm_cut (F : Nat → UInt8) (l : List (R8 32)) (s n : Nat) (hs : s + n ≤ l.length) (h : ∀ j, j < n * 32 → F j = rsB l (s * 32 + j)) : nm (cutR 32 F n) = ((nm l).drop s).take n := by
  apply List.ext_getElem?
  intro k
  unfold nm
  rw [cutR_len, List.getElem?_map, List.getElem?_take, List.getElem?_drop, List.getElem?_map]
  by_cases hk : k < n
  · rw [if_pos hk, List.getElem?_range hk, List.getElem?_range (by omega)]
    show some (R8.mk (elL (cutR 32 F n) k)) = some (R8.mk (elL l (s + k)))
    unfold elL
    rw [elR_congr (F := rsB (cutR 32 F n)) (G := rsB l) (k := (s + k) * 32) (fun j hj => by
      have h1 : k * 32 + j < n * 32 := by omega
      rw [cutR_at _ _ _ _ h1, h _ h1]
      congr 1
      omega)]
  · rw [if_neg hk, List.getElem?_eq_none (by simp; omega)]
    rfl
theorem nm_at (l : List (R8 32)) (k : Nat) (h : k < l.length) (o : R8 32) : (nm l).getD k o = ⟨elL l k⟩ := by
  unfold nm
  rw [List.getD_eq_getElem?_getD, List.getElem?_map, List.getElem?_range h]
  rfl
end Go.Sh
namespace Go.Proofs.YtaloefkkllebeaaDoor
open Go Go.Sh
/-- A tree's root, of rows. -/
def treeN (Pr : R8 32 → R8 32 → R8 32) (l : List (R8 32)) (d : Nat) : R8 32 := treeT Pr zR (nm l) d
noncomputable def tblTr (Pr : R8 32 → R8 32 → R8 32) (b : Nat) : List (Row A) :=
  [rowOf A 34 (fun x : Ptr Mk × R8 32 × R8 32 × Unit => Pr x.2.1 x.2.2.1), rowOf A 41 (fun x : Hs Mk × Int × Unit => zK Pr zR (zrN x.2.1)),
    rowOf A 45 (fun x : Hs Mk × Rt 32 × Dp b × Unit => treeN Pr x.2.1.l x.2.2.1.n)]
end Go.Proofs.YtaloefkkllebeaaDoor

/- Trees, by the reference: Tree's contract, by induction on the depth; Root. -/
namespace Go.Sh
/-- Where a tree is split. -/
def hI (l : List (R8 32)) (d : Nat) : Int := extI false (l.length : Int) (pow2W ((d : Int) - 1))
def halfN (l : List (R8 32)) (d : Nat) : Nat := (hI l d).toNat
def loL (l : List (R8 32)) (d : Nat) : List (R8 32) := cutR 32 (fun j => u8of (rsAt l (0 + j))) (halfN l d - 0)
def hiL (l : List (R8 32)) (d : Nat) : List (R8 32) := cutR 32 (fun j => u8of (rsAt l (halfN l d * 32 + 0 + j))) (l.length - halfN l d)
theorem pow2W_pred {d : Nat} (h : d + 1 ≤ 62) : pow2W (((d + 1 : Nat) : Int) - 1) = (2 : Int) ^ d := by
  have e : ((d + 1 : Nat) : Int) - 1 = (d : Int) := by omega
  rw [e, pow2W_eq (by omega)]
theorem hI_ok {l : List (R8 32)} {d : Nat} (h : d + 1 ≤ 62) : 0 ≤ hI l (d + 1) ∧ hI l (d + 1) ≤ (l.length : Int) ∧ halfN l (d + 1) = min l.length (2 ^ d) := by
  have hp := two_pow_le (i := d) (by omega)
  have e : ((2 : Int) ^ d) = ((2 ^ d : Nat) : Int) := by rw [Int.natCast_pow]; rfl
  unfold halfN hI extI
  rw [pow2W_pred h]
  rw [e] at hp ⊢
  simp only [Bool.false_eq_true, if_false]
  split <;> omega
theorem nm_lo {l : List (R8 32)} {d : Nat} (h : d + 1 ≤ 62) : nm (loL l (d + 1)) = (nm l).take (2 ^ d) := by
  have hh := (hI_ok (l := l) h).2.2
  unfold loL
  rw [Nat.sub_zero, nm_cut _ l 0 (halfN l (d + 1)) (by omega) (fun j hj => by show rsB l (0 + j) = _; congr 1), List.drop_zero, hh]
  rcases Nat.le_total l.length (2 ^ d) with h1 | h1
  · rw [Nat.min_eq_left h1, List.take_of_length_le (by rw [nm_len]; exact Nat.le_refl _), List.take_of_length_le (by rw [nm_len]; exact h1)]
  · rw [Nat.min_eq_right h1]
theorem nm_hi {l : List (R8 32)} {d : Nat} (h : d + 1 ≤ 62) : nm (hiL l (d + 1)) = (nm l).drop (2 ^ d) := by
  have hh := (hI_ok (l := l) h).2.2
  unfold hiL
  rw [nm_cut _ l (halfN l (d + 1)) (l.length - halfN l (d + 1)) (by omega) (fun j hj => by show rsB l (halfN l (d + 1) * 32 + 0 + j) = _; rw [Nat.add_zero]), hh]
  rcases Nat.le_total l.length (2 ^ d) with h1 | h1
  · rw [Nat.min_eq_left h1, List.drop_eq_nil_of_le (by rw [nm_len]; exact Nat.le_refl _), List.drop_eq_nil_of_le (by rw [nm_len]; exact h1)]
    simp
  · rw [Nat.min_eq_right h1, List.take_of_length_le (by rw [List.length_drop, nm_len]; exact Nat.le_refl _)]
theorem lo_len (l : List (R8 32)) (d : Nat) : (loL l d).length = halfN l d := by unfold loL; rw [cutR_len, Nat.sub_zero]
theorem hi_len (l : List (R8 32)) (d : Nat) : (hiL l d).length = l.length - halfN l d := by unfold hiL; rw [cutR_len]
end Go.Sh
namespace Go.Proofs.YtaloefkkllebeaaDoor
open Go Go.Sh
theorem treeN_up (Pr : R8 32 → R8 32 → R8 32) {l : List (R8 32)} {d : Nat} (h : d + 1 ≤ 62) : treeN Pr l (d + 1) = Pr (treeN Pr (loL l (d + 1)) d) (treeN Pr (hiL l (d + 1)) d) := by
  unfold treeN
  rw [nm_lo h, nm_hi h]
  rfl
section
variable {Pr : R8 32 → R8 32 → R8 32}
noncomputable def tblT0 (Pr : R8 32 → R8 32 → R8 32) : List (Row A) :=
  [rowOf A 34 (fun x : Ptr Mk × R8 32 × R8 32 × Unit => Pr x.2.1 x.2.2.1), rowOf A 41 (fun x : Hs Mk × Int × Unit => zK Pr zR (zrN x.2.1))]
theorem tree_of (h0 : RowOK Tryd.prog (rowOf A 34 (fun x : Ptr Mk × R8 32 × R8 32 × Unit => Pr x.2.1 x.2.2.1))) (h1 : RowOK Tryd.prog (rowOf A 41 (fun x : Hs Mk × Int × Unit => zK Pr zR (zrN x.2.1)))) :
    ∀ b, b ≤ 62 → Computes A Tryd.prog 45 (fun x : Hs Mk × Rt 32 × Dp b × Unit => treeN Pr x.2.1.l x.2.2.1.n) := by
  intro b
  induction b with
  | zero =>
    intro hb
    refine computes_of_runT Tryd.func45 (by kernel_rfl) (by kernel_rfl) 8 ?_
    rintro ⟨a, g, _⟩ ⟨⟨m⟩, ⟨l⟩, ⟨d⟩, ⟨⟩⟩ W ⟨ha, ⟨hg, hn⟩, hd, _⟩
    have hG : HasRows W l g := hg
    have hN : l.length < 1048576 := hn
    have hd : d ≤ 0 := hd
    obtain rfl : d = 0 := by omega
    have rt : ReadT W.cell? a 0 72 := by
      intro b hb j hj
      obtain rfl := Option.some.inj hb
      exact ha (0 + j) (show 0 + j < 72 by omega)
    cases hl : ((l.length : Int) == 0) with
    | true =>
      have e : l = [] := by
        have := eq_of_beq hl
        exact List.eq_nil_of_length_eq_zero (by omega)
      refine ⟨tblT0 Pr, _, .cons h0 (.cons h1 (.nil _)), ITblOK.nil _, saysY [], noLoop, zK Pr zR (zrN ((0 : Nat) : Int)), [ReadT W.cell? a 0 72, TabsAre, ((l.length : Int) == 0) = true], by kernel_rfl, ⟨rt, tabsAre, hl, trivial⟩, ?_, fun body _ => loopsFor_none⟩
      subst e
      rfl
    | false =>
      have hp : 0 < l.length := by
        rcases Nat.eq_zero_or_pos l.length with h | h
        · rw [h] at hl; exact absurd hl (by decide)
        · exact h
      have rd : Reads W.cell? g.a (rsAt (l := l)) 0 32 := reads_rows (n := 32) hG (by omega)
      refine ⟨tblT0 Pr, _, .cons h0 (.cons h1 (.nil _)), ITblOK.nil _, saysY [(10, false)], noLoop, ⟨elL l 0⟩, [Reads W.cell? g.a (rsAt l) 0 32, IX 0 l.length, (((0 : Nat) : Int) == 0) = true, ((l.length : Int) == 0) = false], by kernel_rfl, ⟨rd, ⟨by decide, by omega⟩, rfl, hl, trivial⟩, ?_, fun body _ => loopsFor_none⟩
      exact (nm_at l 0 hp zR).symm
  | succ b ih =>
    intro hb
    have ih := ih (by omega)
    refine computes_of_runT Tryd.func45 (by kernel_rfl) (by kernel_rfl) 8 ?_
    rintro ⟨a, g, _⟩ ⟨⟨m⟩, ⟨l⟩, ⟨d⟩, ⟨⟩⟩ W ⟨ha, ⟨hg, hn⟩, hd, _⟩
    have hG : HasRows W l g := hg
    have hN : l.length < 1048576 := hn
    have hd : d ≤ b + 1 := hd
    have rt : ReadT W.cell? a 0 72 := by
      intro b hb j hj
      obtain rfl := Option.some.inj hb
      exact ha (0 + j) (show 0 + j < 72 by omega)
    cases hl : ((l.length : Int) == 0) with
    | true =>
      have e : l = [] := by
        have := eq_of_beq hl
        exact List.eq_nil_of_length_eq_zero (by omega)
      refine ⟨tblT0 Pr, _, .cons h0 (.cons h1 (.nil _)), ITblOK.nil _, saysY [], noLoop, zK Pr zR (zrN (d : Int)), [ReadT W.cell? a 0 72, TabsAre, ((l.length : Int) == 0) = true], by kernel_rfl, ⟨rt, tabsAre, hl, trivial⟩, ?_, fun body _ => loopsFor_none⟩
      subst e
      have hz : zrN (d : Int) = d := by rw [zrN_eq]; omega
      rw [hz]
      exact (treeT_nil Pr zR d).symm
    | false =>
      have hp : 0 < l.length := by
        rcases Nat.eq_zero_or_pos l.length with h | h
        · rw [h] at hl; exact absurd hl (by decide)
        · exact h
      cases d with
      | zero =>
        have rd : Reads W.cell? g.a (rsAt (l := l)) 0 32 := reads_rows (n := 32) hG (by omega)
        refine ⟨tblT0 Pr, _, .cons h0 (.cons h1 (.nil _)), ITblOK.nil _, saysY [(10, false)], noLoop, ⟨elL l 0⟩, [Reads W.cell? g.a (rsAt l) 0 32, IX 0 l.length, (((0 : Nat) : Int) == 0) = true, ((l.length : Int) == 0) = false], by kernel_rfl, ⟨rd, ⟨by decide, by omega⟩, rfl, hl, trivial⟩, ?_, fun body _ => loopsFor_none⟩
        exact (nm_at l 0 hp zR).symm
      | succ d =>
        obtain ⟨k1, k2, k3⟩ := hI_ok (l := l) (d := d) (by omega)
        have kc : hI l (d + 1) ≤ (g.c : Int) := by have := hG.1; omega
        have hpw := two_pow_le (i := d) (by omega)
        have w1 : WrapI (((d + 1 : Nat) : Int) - 1) := wI (by omega) (by omega)
        have w2 : WrapI (pow2W (((d + 1 : Nat) : Int) - 1)) := by rw [pow2W_pred (by omega)]; exact wI (by omega) (by omega)
        have dz : (((d + 1 : Nat) : Int) == 0) = false := by rw [beq_eq_false_iff_ne]; omega
        have d63 : decide (((d + 1 : Nat) : Int) < 63) = true := decide_eq_true (by omega)
        have dp : (0 : Int) ≤ ((d + 1 : Nat) : Int) - 1 ∧ ((d + 1 : Nat) : Int) - 1 ≤ (b : Int) := by omega
        have n1 : (loL l (d + 1)).length < 1048576 := by rw [lo_len]; omega
        have n2 : (hiL l (d + 1)).length < 1048576 := by rw [hi_len]; omega
        have r1 : Reads W.cell? g.a (rsAt (l := l)) 0 ((halfN l (d + 1) - 0) * 32) := reads_rows (n := 32) hG (by omega)
        have r2 : Reads W.cell? g.a (rsAt (l := l)) (halfN l (d + 1) * 32 + 0) ((l.length - halfN l (d + 1)) * 32) := reads_rows (n := 32) hG (by omega)
        refine ⟨tblTr Pr b, _, .cons h0 (.cons h1 (.cons ih.row (.nil _))), ITblOK.nil _, saysY [(10, false), (15, false)], noLoop, Pr (treeN Pr (loL l (d + 1)) (((d + 1 : Nat) : Int) - 1).toNat) (treeN Pr (hiL l (d + 1)) (((d + 1 : Nat) : Int) - 1).toNat),
          [ReadT W.cell? a 0 72, TabsAre, ReadT W.cell? a 0 72, TabsAre, (hiL l (d + 1)).length < 1048576, Reads W.cell? g.a (rsAt l) (halfN l (d + 1) * 32 + 0) ((l.length - halfN l (d + 1)) * 32), ∀ j, j < (l.length - halfN l (d + 1)) * 32 → isU8 (rsAt l (halfN l (d + 1) * 32 + 0 + j)) = true,
            (0 : Int) ≤ ((d + 1 : Nat) : Int) - 1 ∧ ((d + 1 : Nat) : Int) - 1 ≤ (b : Int), WrapI (((d + 1 : Nat) : Int) - 1), 0 ≤ hI l (d + 1) ∧ hI l (d + 1) ≤ (l.length : Int),
            ReadT W.cell? a 0 72, TabsAre, (loL l (d + 1)).length < 1048576, Reads W.cell? g.a (rsAt l) 0 ((halfN l (d + 1) - 0) * 32), ∀ j, j < (halfN l (d + 1) - 0) * 32 → isU8 (rsAt l (0 + j)) = true,
            (0 : Int) ≤ ((d + 1 : Nat) : Int) - 1 ∧ ((d + 1 : Nat) : Int) - 1 ≤ (b : Int), WrapI (((d + 1 : Nat) : Int) - 1), 0 ≤ hI l (d + 1) ∧ hI l (d + 1) ≤ (g.c : Int), WrapI (pow2W (((d + 1 : Nat) : Int) - 1)), (0 : Int) ≤ ((d + 1 : Nat) : Int) - 1, WrapI (((d + 1 : Nat) : Int) - 1),
            decide (((d + 1 : Nat) : Int) < 63) = true, (((d + 1 : Nat) : Int) == 0) = false, ((l.length : Int) == 0) = false], by kernel_rfl,
          ⟨rt, tabsAre, rt, tabsAre, n2, r2, fun _ _ => rfl, dp, w1, ⟨k1, k2⟩, rt, tabsAre, n1, r1, fun _ _ => rfl, dp, w1, ⟨k1, kc⟩, w2, by omega, w1, d63, dz, hl, trivial⟩, ?_, fun body _ => loopsFor_none⟩
        have e : (((d + 1 : Nat) : Int) - 1).toNat = d := by omega
        rw [e]
        exact (treeN_up Pr (by omega)).symm
end
theorem tree_ok : Computes A Tryd.prog 45 (fun x : Hs Mk × Rt 32 × Dp 62 × Unit => treeN pairR8 x.2.1.l x.2.2.1.n) := tree_of makerPair_ok.row refZero_ok.row 62 (Nat.le_refl _)
end Go.Proofs.YtaloefkkllebeaaDoor

/- Trees, level by level: one level up. -/
namespace Go.Sh
def two : Nat → Nat
  | 0 => 0
  | j + 1 => two j + 2
theorem two_eq : ∀ j, two j = 2 * j
  | 0 => rfl
  | j + 1 => by show two j + 2 = _; rw [two_eq j]; omega
def c32 : Nat → Nat
  | 0 => 0
  | j + 1 => c32 j + 32
theorem c32_eq : ∀ j, c32 j = 32 * j
  | 0 => rfl
  | j + 1 => by show c32 j + 32 = _; rw [c32_eq j]; omega
section
variable (Pr : R8 32 → R8 32 → R8 32)
/-- The right one of two. -/
def riU (B : Nat → UInt8) (n : Nat) (z : Nat → UInt8) (j : Nat) : Nat → UInt8 :=
  match decide ((two j : Int) + 1 < (n : Int)) with
  | true => elR B ((two j + 1) * 32)
  | false => z
/-- So many of the next level. -/
def upF (B : Nat → UInt8) (n : Nat) (z : Nat → UInt8) : Nat → Nat → A
  | 0 => fun _ => Atom.dummy
  | j + 1 => catF (upF B n z j) (timesN j (31 + 1)) (cells32 (Pr ⟨elR B (two j * 32)⟩ ⟨riU B n z j⟩).f) 0
/-- The cells of a level's next one. -/
def upB (B : Nat → UInt8) (n : Nat) (z : Nat → UInt8) (N : Nat) (i : Nat) : UInt8 := u8of (upF Pr B n z N i)
theorem cells32_u8 (f : Nat → UInt8) (q : Nat) : cells32 f q = .u8 (u8of (cells32 f q)) := by
  unfold cells32
  rw [List.getElem?_map]
  by_cases h : q < 32
  · rw [List.getElem?_range h]; rfl
  · rw [List.getElem?_eq_none (by simp; omega)]; rfl
theorem upF_u8 (B : Nat → UInt8) (n : Nat) (z : Nat → UInt8) : ∀ (N i : Nat), upF Pr B n z N i = .u8 (upB Pr B n z N i)
  | 0, i => rfl
  | N + 1, i => by
    unfold upB
    simp only [upF, catF]
    split
    · exact upF_u8 B n z N i
    · exact cells32_u8 _ _
theorem upF_fun (B : Nat → UInt8) (n : Nat) (z : Nat → UInt8) (N : Nat) : upF Pr B n z N = fun i => .u8 (upB Pr B n z N i) := funext (upF_u8 Pr B n z N)
theorem cells32_at (f : Nat → UInt8) (q : Nat) (h : q < 32) : u8of (cells32 f q) = f q := by
  unfold cells32
  rw [List.getElem?_map, List.getElem?_range h]
  rfl
theorem upB_at (B : Nat → UInt8) (n : Nat) (z : Nat → UInt8) : ∀ (N k j : Nat), k < N → j < 32 → upB Pr B n z N (k * 32 + j) = (Pr ⟨elR B (two k * 32)⟩ ⟨riU B n z k⟩).f j
  | N + 1, k, j, hk, hj => by
    unfold upB
    simp only [upF, catF, timesN_eq]
    by_cases h : k * 32 + j < N * (31 + 1)
    · have hb : (k * 32 + j).blt (N * (31 + 1)) = true := by rw [Nat.blt_eq]; exact h
      rw [hb]
      exact upB_at B n z N k j (by omega) hj
    · have hb : (k * 32 + j).blt (N * (31 + 1)) = false := by rw [Bool.eq_false_iff, ne_eq, Nat.blt_eq]; exact h
      rw [hb]
      obtain rfl : k = N := by omega
      have e : 0 + (k * 32 + j - k * (31 + 1)) = j := by omega
      show u8of (cells32 _ (0 + (k * 32 + j - k * (31 + 1)))) = _
      rw [e, cells32_at _ _ hj]
/-- A level: its cells, how many there are. -/
structure Lv where
  B : Nat → UInt8
  n : Nat
def lvU (l : List (R8 32)) : Nat → Lv
  | 0 => ⟨fun q => rsB l (0 + q), l.length⟩
  | k + 1 => ⟨upB Pr (lvU l k).B (lvU l k).n (zK Pr ⟨pickN 0 (List.replicate 32 (UInt8.ofNat 0))⟩ k).f (((lvU l k).n + 1) / 2), ((lvU l k).n + 1) / 2⟩
/-- A level's rows. -/
def Lv.rows (x : Lv) : List (R8 32) := (List.range x.n).map fun k => ⟨elR x.B (k * 32)⟩
end
end Go.Sh

/- Trees, level by level: Root. -/
namespace Go.Proofs.YtaloefkkllebeaaDoor
open Go Go.Sh
def knS (B : Nat → UInt8) (n : Nat) : SV A := .kn (fun i => .u8 (B i)) 0 n 32
def maxI (n : Int) : Int := extI true n 0
section
variable (g : Spot) (l : List (R8 32)) (lim : Int)
def dR (lim : Int) : Nat := depQ (maxI lim)
def memR (o z : Nat → UInt8) : Mem A :=
  [some ⟨zer8 32, 25, false⟩, some ⟨[.a (.w8 32 o)], 25, false⟩, some ⟨[rsE g l], 59, false⟩, some ⟨[.n .i64 (dR lim : Int)], 3, false⟩, none, none, some ⟨[.a (.w8 32 z)], 25, false⟩]
noncomputable def ysR : Ys A :=
  ⟨4, [20, 21], rangeA Tryd.f53 6, rangeNo Tryd.f53 6,
    slotsU 0 30 [(0, .val false [rsE g l]), (1, .val false [.n .i64 (maxI lim)]), (4, .val false [.p 0 0]), (5, .val false [.v (.int .i64 0)]), (6, .val false [.p 1 0]), (9, .val false [.n .i64 lim]), (10, .val false [.n .i64 (maxI lim)]), (11, .val false [rsE g l]), (12, .val false [.n .i64 (l.length : Int)]), (13, .val false [.n .i64 (maxI lim)]), (14, .val false [.v (.bool false)]),
      (16, .val false [rsE g l]), (17, .val false [.n .i64 (maxI lim)]), (18, .val false [.n .i64 (dR lim : Int)]), (19, .val false [.f 123 [(2, 0), (3, 0)]])]⟩
/-- A level up, under way. -/
def inU (Pr : R8 32 → R8 32 → R8 32) (o z : Nat → UInt8) (B : Nat → UInt8) (n k : Nat) (f : Nat → A) (j : Nat) : St A :=
  ⟨slots 0 51 [(0, .val false [.y 4]), (1, .val false [.p 2 0]), (2, .val false [.p 3 0]), (4, .val false [knS B n]), (5, .val false [.p 6 0]), (6, .val false [.gr f 8 j j 32]), (7, .val false [.n .i64 (two j : Int)]), (12, .val false [.n .i64 ((dR lim : Int) + 1)]), (13, .val false [.n .i64 (k : Int)])],
    memR g l lim o z ++ [none, some ⟨[.mk j (c32 j)], 25, false⟩], 0, [], [none]⟩
section
variable {Pr : R8 32 → R8 32 → R8 32} (ht : TblOK Tryd.prog (tblSp' Pr)) {W : World} (hr : RoundsIn W.cell?)
noncomputable def yfR (Pr : R8 32 → R8 32 → R8 32) (old : Addr → Option Value) (b : Bool) : YF A := pushY (exec (cfg Tryd.prog [] (says [(25, b)]) old) 4 (ysR g l lim).assign) (exec (cfg Tryd.prog [] (says [(25, b)]) old) 4 (ysR g l lim).body) (ysR g l lim) noYield
theorem yfR_ok (old : Addr → Option Value) (b : Bool) : YFOK Tryd.prog old [ysR g l lim] (yfR g l lim Pr old b) :=
  YFOK.push (cfgOK0 (TblOK.nil _) (ITblOK.nil _) (says [(25, b)]) old noLoop) 4 (ysR g l lim) (loopsOK_none _ _ _ _ _ _ _ _) (loopsOK_none _ _ _ _ _ _ _ _)
variable {c : Cfg A} (e1 : c.P = Tryd.prog) (e2 : c.gl = (fun _ => none)) (e3 : c.old = W.cell?) (e4 : c.ys = [ysR g l lim])
include ht hr e1 e2 e3 e4
theorem inU_one (o z B : Nat → UInt8) (n k j : Nat) (hn : n < 1048576) (hj : two j < n) :
    Round c (loopNo Tryd.f123 7) (inU g l lim Pr o z B n k (upF Pr B n z j) j) .normal (inU g l lim Pr o z B n k (upF Pr B n z (j + 1)) (j + 1)) := by
  have w1 : WrapI ((two j : Int) + 1) := wI (by omega) (by omega)
  have w2 : WrapI ((two j : Int) + 2) := wI (by omega) (by omega)
  have h2 := two_eq j
  have gr : j = j ∧ timesN j (31 + 1) = c32 j ∧ Sh.Bears (j + 1) 32 := ⟨rfl, by rw [timesN_eq, c32_eq]; omega, by unfold Sh.Bears maxLen; omega⟩
  have lt : decide ((two j : Int) < (n : Int)) = true := decide_eq_true (by omega)
  have i0 : IX (two j : Int) n := ⟨by omega, by omega⟩
  cases hm : decide ((two j : Int) + 1 < (n : Int)) with
  | true =>
    have e : riU B n z j = elR B ((two j + 1) * 32) := by unfold riU; rw [hm]
    have e' : upF Pr B n z (j + 1) = catF (upF Pr B n z j) (timesN j (31 + 1)) (cells32 (Pr ⟨elR B (two j * 32)⟩ ⟨elR B ((two j + 1) * 32)⟩).f) 0 := by show catF _ _ (cells32 (Pr _ ⟨riU B n z j⟩).f) 0 = _; rw [e]
    rw [e']
    generalize upF Pr B n z j = f
    have i1 : IX ((two j : Int) + 1) n := ⟨by omega, by have := of_decide_eq_true hm; omega⟩
    exact Round.of ht (ITblOK.nil _) (saysY []) noLoop (yfR_ok (Pr := Pr) g l lim W.cell? true) 6 [WrapI ((two j : Int) + 2), j = j ∧ timesN j (31 + 1) = c32 j ∧ Sh.Bears (j + 1) 32, RoundsIn W.cell?, IX (two j : Int) n, IX ((two j : Int) + 1) n, WrapI ((two j : Int) + 1), decide ((two j : Int) + 1 < (n : Int)) = true, WrapI ((two j : Int) + 1), decide ((two j : Int) < (n : Int)) = true]
      loopsFor_none (by kernel_rfl) ⟨w2, gr, hr, i0, i1, w1, hm, w1, lt, trivial⟩ (by kernel_rfl) (by kernel_rfl) e1 e2 e3 e4
  | false =>
    have e : riU B n z j = z := by unfold riU; rw [hm]
    have e' : upF Pr B n z (j + 1) = catF (upF Pr B n z j) (timesN j (31 + 1)) (cells32 (Pr ⟨elR B (two j * 32)⟩ ⟨z⟩).f) 0 := by show catF _ _ (cells32 (Pr _ ⟨riU B n z j⟩).f) 0 = _; rw [e]
    rw [e']
    generalize upF Pr B n z j = f
    exact Round.of ht (ITblOK.nil _) (saysY [(31, false)]) noLoop (yfR_ok (Pr := Pr) g l lim W.cell? true) 6 [WrapI ((two j : Int) + 2), j = j ∧ timesN j (31 + 1) = c32 j ∧ Sh.Bears (j + 1) 32, RoundsIn W.cell?, IX (two j : Int) n, decide ((two j : Int) + 1 < (n : Int)) = false, WrapI ((two j : Int) + 1), decide ((two j : Int) < (n : Int)) = true]
      loopsFor_none (by kernel_rfl) ⟨w2, gr, hr, i0, hm, w1, lt, trivial⟩ (by kernel_rfl) (by kernel_rfl) e1 e2 e3 e4
theorem inU_end (o z B : Nat → UInt8) (n k N : Nat) (f : Nat → A) (hj : n ≤ two N) :
    Round c (loopNo Tryd.f123 7) (inU g l lim Pr o z B n k f N) (.exit 2) (inU g l lim Pr o z B n k f N) :=
  Round.of ht (ITblOK.nil _) (saysY [(23, false)]) noLoop (yfR_ok (Pr := Pr) g l lim W.cell? true) 6 [decide ((two N : Int) < (n : Int)) = false]
    loopsFor_none (by kernel_rfl) ⟨decide_eq_false (by omega), trivial⟩ (by kernel_rfl) (by kernel_rfl) e1 e2 e3 e4
end
/-- A level up. -/
theorem inU_all {Pr : R8 32 → R8 32 → R8 32} (ht : TblOK Tryd.prog (tblSp' Pr)) {W : World} (hr : RoundsIn W.cell?) (o z B : Nat → UInt8) (n k : Nat) (hn : n < 1048576) :
    SoundFor Tryd.prog W.cell? [ysR g l lim] (.loop (loopNo Tryd.f123 7)) (inU g l lim Pr o z B n k (fun _ => Atom.dummy) 0) (.exit 2) (inU g l lim Pr o z B n k (fun i => .u8 (upB Pr B n z ((n + 1) / 2) i)) ((n + 1) / 2)) := by
  rw [← upF_fun]
  exact fun c q1 q2 q3 q4 => loopAt (c := c) (inv := fun j => inU g l lim Pr o z B n k (upF Pr B n z j) j) (N := (n + 1) / 2) (by simp)
    (fun j hj => inU_one g l lim ht hr q1 q2 q3 q4 o z B n k j hn (by rw [two_eq]; omega)) (inU_end g l lim ht hr q1 q2 q3 q4 o z B n k _ _ (by rw [two_eq]; omega))
/-- The levels, under way. -/
def outU (o z : Nat → UInt8) (B : Nat → UInt8) (n k : Nat) : St A :=
  ⟨slots 0 51 [(0, .val false [.y 4]), (1, .val false [.p 2 0]), (2, .val false [.p 3 0]), (4, .val false [knS B n]), (5, .val false [.p 6 0]), (12, .val false [.n .i64 ((dR lim : Int) + 1)]), (13, .val false [.n .i64 (k : Int)])],
    memR g l lim o z, 0, [], [none]⟩
def oV (B : Nat → UInt8) (n : Nat) (z : Nat → UInt8) : Nat → UInt8 := match decide ((n : Int) > 0) with | true => elR B 0 | false => z
section
variable {Pr : R8 32 → R8 32 → R8 32} (ht : TblOK Tryd.prog (tblSp' Pr)) {W : World} (hr : RoundsIn W.cell?)
variable {c : Cfg A} (e1 : c.P = Tryd.prog) (e2 : c.gl = (fun _ => none)) (e3 : c.old = W.cell?) (e4 : c.ys = [ysR g l lim])
/-- The level's first append makes the row that grows. -/
def orG (l : List (Nat × Bool)) : Nat → Nat → Dec := fun r t => match Nat.beq t 6 with | true => .grow 25 32 | false => saysY l r t
include ht hr e1 e2 e3 e4
theorem outU_one (o z B : Nat → UInt8) (n k : Nat) (hn : n < 1048576) (hk : k < dR lim + 1) (hd : dR lim ≤ 62) :
    Round c (loopNo Tryd.f123 3) (outU g l lim o z B n k) .normal (outU g l lim (oV B n z) (Pr ⟨z⟩ ⟨z⟩).f (upB Pr B n z ((n + 1) / 2)) ((n + 1) / 2) (k + 1)) := by
  have w1 : WrapI ((k : Int) + 1) := wI (by omega) (by omega)
  have lt : decide ((k : Int) < (dR lim : Int) + 1) = true := decide_eq_true (by omega)
  cases hm : decide ((n : Int) > 0) with
  | true =>
    have e : oV B n z = elR B 0 := by unfold oV; rw [hm]
    rw [e]
    have hs := inU_all g l lim ht hr (elR B 0) z B n k hn
    revert hs
    generalize upB Pr B n z ((n + 1) / 2) = B'
    generalize (n + 1) / 2 = N
    intro hs
    have i0 : IX 0 n := ⟨by decide, by have := of_decide_eq_true hm; omega⟩
    exact Round.of ht (ITblOK.nil _) (orG []) (lps [(7, inU g l lim Pr (elR B 0) z B n k (fun _ => Atom.dummy) 0, .exit 2, inU g l lim Pr (elR B 0) z B n k (fun i => .u8 (B' i)) N)]) (yfR_ok (Pr := Pr) g l lim W.cell? true) 6
      [WrapI ((k : Int) + 1), RoundsIn W.cell?, ToldIs (inU g l lim Pr (elR B 0) z B n k (fun _ => Atom.dummy) 0), IX 0 n, decide ((n : Int) > 0) = true, decide ((k : Int) < (dR lim : Int) + 1) = true]
      (LoopsFor.cons (by kernel_rfl) hs LoopsFor.nil) (by kernel_rfl) ⟨w1, hr, toldIs _, i0, hm, lt, trivial⟩ (by kernel_rfl) (by kernel_rfl) e1 e2 e3 e4
  | false =>
    have e : oV B n z = z := by unfold oV; rw [hm]
    rw [e]
    have hs := inU_all g l lim ht hr z z B n k hn
    revert hs
    generalize upB Pr B n z ((n + 1) / 2) = B'
    generalize (n + 1) / 2 = N
    intro hs
    exact Round.of ht (ITblOK.nil _) (orG []) (lps [(7, inU g l lim Pr z z B n k (fun _ => Atom.dummy) 0, .exit 2, inU g l lim Pr z z B n k (fun i => .u8 (B' i)) N)]) (yfR_ok (Pr := Pr) g l lim W.cell? false) 6
      [WrapI ((k : Int) + 1), RoundsIn W.cell?, ToldIs (inU g l lim Pr z z B n k (fun _ => Atom.dummy) 0), decide ((n : Int) > 0) = false, decide ((k : Int) < (dR lim : Int) + 1) = true]
      (LoopsFor.cons (by kernel_rfl) hs LoopsFor.nil) (by kernel_rfl) ⟨w1, hr, toldIs _, hm, lt, trivial⟩ (by kernel_rfl) (by kernel_rfl) e1 e2 e3 e4
theorem outU_end (o z B : Nat → UInt8) (n : Nat) : Round c (loopNo Tryd.f123 3) (outU g l lim o z B n (dR lim + 1)) (.exit 0) (outU g l lim o z B n (dR lim + 1)) :=
  Round.of ht (ITblOK.nil _) (saysY [(14, false)]) noLoop (yfR_ok (Pr := Pr) g l lim W.cell? true) 6 [decide (((dR lim + 1 : Nat) : Int) < (dR lim : Int) + 1) = false]
    loopsFor_none (by kernel_rfl) ⟨decide_eq_false (by omega), trivial⟩ (by kernel_rfl) (by kernel_rfl) e1 e2 e3 e4
end
end
end Go.Proofs.YtaloefkkllebeaaDoor

/- Trees, level by level: Root's contract. -/
namespace Go.Sh
/-- A sum of 32 bytes is just its bytes. -/
def Cut (Pr : R8 32 → R8 32 → R8 32) : Prop := ∀ a b, (⟨elR (Pr a b).f 0⟩ : R8 32) = Pr a b
theorem two_pos (j : Nat) : (two j : Int) = ((2 * j : Nat) : Int) := by rw [two_eq]
section
variable (Pr : R8 32 → R8 32 → R8 32) (l : List (R8 32))
theorem lvU_len : ∀ k, (lvU Pr l k).n ≤ l.length
  | 0 => Nat.le_refl _
  | k + 1 => by
    have := lvU_len k
    show ((lvU Pr l k).n + 1) / 2 ≤ _
    omega
theorem rows_len (x : Lv) : x.rows.length = x.n := by simp [Lv.rows]
theorem rows_at (x : Lv) (k : Nat) (h : k < x.n) (o : R8 32) : x.rows.getD k o = ⟨elR x.B (k * 32)⟩ := by
  unfold Lv.rows
  rw [List.getD_eq_getElem?_getD, List.getElem?_map, List.getElem?_range h]
  rfl
end
end Go.Sh
namespace Go.Proofs.YtaloefkkllebeaaDoor
open Go Go.Sh
theorem pair_cut : Cut pairR8 := by
  intro a b
  unfold pairR8
  generalize compF (compF firstF (both a.f b.f)) end64 = s
  kernel_rfl
section
variable (Pr : R8 32 → R8 32 → R8 32) (l : List (R8 32))
theorem lvU_rows (hc : Cut Pr) : ∀ k, (lvU Pr l k).rows = levL Pr zR (nm l) k
  | 0 => by
    show (List.range l.length).map (fun k => (⟨elR (fun q => rsB l (0 + q)) (k * 32)⟩ : R8 32)) = (List.range l.length).map fun k => ⟨elL l k⟩
    refine List.map_congr_left fun k _ => ?_
    rw [elR_congr (G := rsB l) (k := k * 32) (fun j _ => by rw [Nat.zero_add])]
    rfl
  | k + 1 => by
    have ih := lvU_rows hc k
    show _ = upL Pr (zK Pr zR k) (levL Pr zR (nm l) k)
    rw [← ih]
    have hn : (lvU Pr l k).rows.length = (lvU Pr l k).n := rows_len _
    apply List.ext_getElem?
    intro j
    by_cases hj : j < ((lvU Pr l k).n + 1) / 2
    · have h1 : (lvU Pr l (k + 1)).rows.length = ((lvU Pr l k).n + 1) / 2 := rows_len _
      have h2 : (upL Pr (zK Pr zR k) (lvU Pr l k).rows).length = ((lvU Pr l k).n + 1) / 2 := by rw [upL_len, hn]
      have e1 := rows_at (lvU Pr l (k + 1)) j hj zR
      have e2 := upL_at Pr (zK Pr zR k) zR (lvU Pr l k).rows j (by rw [hn]; exact hj)
      rw [List.getD_eq_getElem?_getD, List.getElem?_eq_getElem (by omega)] at e1 e2
      rw [List.getElem?_eq_getElem (by omega), List.getElem?_eq_getElem (by omega)]
      congr 1
      refine (show (lvU Pr l (k + 1)).rows[j] = _ from e1).trans (Eq.trans ?_ (show (upL Pr (zK Pr zR k) (lvU Pr l k).rows)[j] = _ from e2).symm)
      have hup : ∀ i, i < 32 → (lvU Pr l (k + 1)).B (j * 32 + i) = (Pr ⟨elR (lvU Pr l k).B (two j * 32)⟩ ⟨riU (lvU Pr l k).B (lvU Pr l k).n (zK Pr zR k).f j⟩).f i := fun i hi => upB_at Pr _ _ _ _ _ _ hj hi
      rw [elR_congr (G := (Pr ⟨elR (lvU Pr l k).B (two j * 32)⟩ ⟨riU (lvU Pr l k).B (lvU Pr l k).n (zK Pr zR k).f j⟩).f) (k := 0) (fun i hi => by rw [hup i hi, Nat.zero_add]), hc]
      rw [rows_at _ _ (by omega), hn, two_eq]
      congr 1
      unfold riU
      by_cases hm : 2 * j + 1 < (lvU Pr l k).n
      · rw [if_pos hm, rows_at _ _ hm, two_eq]
        rw [decide_eq_true (show ((2 * j : Nat) : Int) + 1 < ((lvU Pr l k).n : Int) by omega)]
      · rw [if_neg hm, two_eq]
        rw [decide_eq_false (show ¬ ((2 * j : Nat) : Int) + 1 < ((lvU Pr l k).n : Int) by omega)]
    · rw [List.getElem?_eq_none (by rw [rows_len]; show ((lvU Pr l k).n + 1) / 2 ≤ j; omega), List.getElem?_eq_none (by rw [upL_len, hn]; omega)]
/-- What the root is, behind so many levels. -/
def oS : Nat → Nat → UInt8
  | 0 => zR.f
  | k + 1 => oV (lvU Pr l k).B (lvU Pr l k).n (zK Pr zR k).f
theorem oS_tree (hc : Cut Pr) (k : Nat) : (⟨oS Pr l (k + 1)⟩ : R8 32) = treeN Pr l k := by
  unfold treeN
  rw [← root_lev, ← lvU_rows Pr l hc]
  show (⟨oV (lvU Pr l k).B (lvU Pr l k).n (zK Pr zR k).f⟩ : R8 32) = _
  unfold oV
  by_cases h : 0 < (lvU Pr l k).n
  · rw [decide_eq_true (show ((lvU Pr l k).n : Int) > 0 by omega), rows_at _ _ h]
  · rw [decide_eq_false (show ¬ ((lvU Pr l k).n : Int) > 0 by omega), List.getD_eq_getElem?_getD, List.getElem?_eq_none (by rw [rows_len]; omega)]
    rfl
def rootV (lim : Int) : T2 (R8 32) Int := match decide ((l.length : Int) > maxI lim) with | true => ⟨zR, 180⟩ | false => ⟨treeN Pr l (dR lim), 0⟩
end
noncomputable def tblRo (Pr : R8 32 → R8 32 → R8 32) : List (Row A) := [rowOf A 102 (fun x : Int × Unit => ((depQ x.1 : Nat) : Int)), levelsRow]
theorem tblRo_ok (Pr : R8 32 → R8 32 → R8 32) : TblOK Tryd.prog (tblRo Pr) := .cons depthOf_ok.row (.cons levelsRow_ok (.nil _))
noncomputable def itR (Pr : R8 32 → R8 32 → R8 32) (g : Spot) (l : List (R8 32)) (lim : Int) (o z B : Nat → UInt8) (n : Nat) : List (IRow A) :=
  [iterW Tryd.prog (tblSp' Pr) [] (fun _ _ => .keep) (lps [(3, outU g l lim zR.f zR.f (fun q => rsB l (0 + q)) l.length 0, .exit 0, outU g l lim o z B n (dR lim + 1))]) 6 123 Tryd.f123]
theorem root_of {Pr : R8 32 → R8 32 → R8 32} (hc : Cut Pr) (ht : TblOK Tryd.prog (tblSp' Pr)) : Computes A Tryd.prog 53 (fun x : GA (Rt 32 × Int × Unit) => rootV Pr x.x.1.l x.x.2.1) := by
  refine computes_of_runT Tryd.func53 (by kernel_rfl) (by kernel_rfl) 6 ?_
  rintro ⟨g, _⟩ ⟨⟨⟨l⟩, lim, ⟨⟩⟩⟩ W ⟨hr, ⟨hg, hn⟩, _⟩
  have hG : HasRows W l g := hg
  have hN : l.length < 1048576 := hn
  show ∃ tbl its, _ ∧ _ ∧ ∃ orc lp y vc, _ ∧ _ ∧ y = rootV Pr l lim ∧ _
  unfold rootV
  cases hl : decide ((l.length : Int) > maxI lim) with
  | true => exact ⟨_, _, tblRo_ok Pr, ITblOK.nil _, saysY [], noLoop, ⟨zR, 180⟩, [decide ((l.length : Int) > maxI lim) = true], by kernel_rfl, ⟨hl, trivial⟩, rfl, fun body _ => loopsFor_none⟩
  | false =>
    have hd : dR lim ≤ 62 := depQ_le _
    have hs : SoundFor Tryd.prog W.cell? [ysR g l lim] (.loop (loopNo Tryd.f123 3)) (outU g l lim zR.f zR.f (fun q => rsB l (0 + q)) l.length 0) (.exit 0) (outU g l lim (oS Pr l (dR lim + 1)) (zK Pr zR (dR lim + 1)).f (lvU Pr l (dR lim + 1)).B (lvU Pr l (dR lim + 1)).n (dR lim + 1)) := fun c q1 q2 q3 q4 =>
      loopAt (c := c) (inv := fun k => outU g l lim (oS Pr l k) (zK Pr zR k).f (lvU Pr l k).B (lvU Pr l k).n k) (N := dR lim + 1) (by simp)
        (fun k hk => outU_one g l lim ht hr q1 q2 q3 q4 _ _ _ _ k (Nat.lt_of_le_of_lt (lvU_len Pr l k) hN) hk hd) (outU_end g l lim ht hr q1 q2 q3 q4 _ _ _ _)
    have e := oS_tree Pr l hc (dR lim)
    rw [← e]
    revert hs
    generalize oS Pr l (dR lim + 1) = o
    generalize (zK Pr zR (dR lim + 1)).f = z
    generalize (lvU Pr l (dR lim + 1)).B = B
    generalize (lvU Pr l (dR lim + 1)).n = n
    intro hs
    have hi : ITblOK Tryd.prog (itR Pr g l lim o z B n) := .cons (iterW_ok ht (ITblOK.nil _) _ _ 6 Tryd.func123 (by kernel_rfl) (by kernel_rfl)) (ITblOK.nil _)
    have hb : ∀ body, Tryd.f123.body = some body → LoopsFor Tryd.prog W.cell? [ysR g l lim] (lps [(3, outU g l lim zR.f zR.f (fun q => rsB l (0 + q)) l.length 0, .exit 0, outU g l lim o z B n (dR lim + 1))]) body := fun body hb => by
      obtain rfl := Option.some.inj hb
      exact LoopsFor.cons (by kernel_rfl) hs LoopsFor.nil
    have bb : Sh.Bears l.length 32 := by unfold Sh.Bears maxLen; omega
    have rd : Reads W.cell? g.a (rsAt (l := l)) 0 (l.length * 32) := reads_rows (n := 32) hG (by omega)
    exact ⟨_, _, tblRo_ok Pr, hi, says [(14, false)], noLoop, ⟨⟨o⟩, 0⟩, [∀ body, Tryd.f123.body = some body → LoopsFor Tryd.prog W.cell? [ysR g l lim] (lps [(3, outU g l lim zR.f zR.f (fun q => rsB l (0 + q)) l.length 0, .exit 0, outU g l lim o z B n (dR lim + 1))]) body,
      ToldIs (outU g l lim zR.f zR.f (fun q => rsB l (0 + q)) l.length 0), WrapI ((dR lim : Int) + 1), Sh.Bears l.length 32, Reads W.cell? g.a (rsAt l) 0 (l.length * 32), decide ((l.length : Int) > maxI lim) = false], by kernel_rfl, ⟨hb, toldIs _, wI (by omega) (by omega), bb, rd, hl, trivial⟩, rfl, fun body _ => loopsFor_none⟩
theorem root_ok : Computes A Tryd.prog 53 (fun x : GA (Rt 32 × Int × Unit) => rootV pairR8 x.x.1.l x.x.2.1) := root_of pair_cut (.cons pair_ok.row (.nil _))
end Go.Proofs.YtaloefkkllebeaaDoor

/- Trees: branches are taken, or not, as the reference says. -/
namespace Go.Proofs.YtaloefkkllebeaaDoor
open Go Go.Sh
abbrev VQT := (Nat → UInt8) → (Nat → UInt8) → List (R8 32) → UInt64 → Bool
noncomputable def tblF13 (Fo : (Nat → UInt8) → List (R8 32) → UInt64 → R8 32) (VQ VR : VQT) : List (Row A) :=
  [rowOf A 51 (fun _ : GA Unit => true), rowOf A 39 (fun _ : Unit => (⟨.mk⟩ : Hz Mk)), rowOf A 60 (fun x : Hs Mk × R8 32 × Rt 32 × UInt64 × Unit => Fo x.2.1.f x.2.2.1.l x.2.2.2.1),
    rowOf A 59 (fun x : GA (R8 32 × Rt 32 × UInt64 × R8 32 × Unit) => VQ x.x.1.f x.x.2.2.2.1.f x.x.2.1.l x.x.2.2.1), rowOf A 61 (fun x : Hs Mk × R8 32 × Rt 32 × UInt64 × R8 32 × Unit => VR x.2.1.f x.2.2.2.2.1.f x.2.2.1.l x.2.2.2.1)]
/-- A slice's rows, as a call of it reads them. -/
def lC (l : List (R8 32)) : List (R8 32) := cutR 32 (fun j => u8of (rsAt l (0 + j))) l.length
theorem lC_len (l : List (R8 32)) : (lC l).length = l.length := cutR_len _ _ _
def lU (l : List (R8 32)) : Prop := ∀ j, j < l.length * 32 → isU8 (rsAt l (0 + j)) = true
theorem lU_ok (l : List (R8 32)) : lU l := fun _ _ => rfl
theorem merkleVerifies_of {Fo : (Nat → UInt8) → List (R8 32) → UInt64 → R8 32} {VQ VR : VQT} (ht : TblOK Tryd.prog (tblF13 Fo VQ VR)) (hE : ∀ f r l ix, l.length < 1048576 → VQ f r l ix = VR f r l ix) :
    Computes A Tryd.prog 13 (fun _ : GA (R8 32 × Rs 32 × UInt64 × R8 32 × Bool × Unit) => true) := by
  refine computes_of_runT Tryd.func13 (by kernel_rfl) (by kernel_rfl) 8 ?_
  rintro ⟨_, g, _⟩ ⟨⟨⟨f⟩, ⟨l⟩, ix, ⟨r⟩, b, ⟨⟩⟩⟩ W ⟨hr, _, hg, _⟩
  have hg : HasRows W l g := hg
  have rd : Reads W.cell? g.a (rsAt (l := l)) 0 (l.length * 32) := reads_rows hg (by omega)
  cases h70 : decide ((l.length : Int) > 70) with
  | true =>
    exact ⟨_, _, ht, ITblOK.nil _, saysY [], noLoop, true, [decide ((l.length : Int) > 70) = true, true = true, RoundsIn W.cell?], by kernel_rfl, ⟨h70, rfl, hr, trivial⟩, rfl, fun body _ => loopsFor_none⟩
  | false =>
    have hl : (lC l).length < 1048576 := by
      have := of_decide_eq_false h70
      rw [lC_len]
      omega
    cases b with
    | false =>
      have e := hE f r (lC l) ix hl
      cases hv : VQ f r (lC l) ix with
      | true =>
        have hw : VR f r (lC l) ix = true := by rw [← e]; exact hv
        exact ⟨_, _, ht, ITblOK.nil _, saysY [(16, false), (18, false)], noLoop, true, [VR f r (lC l) ix = true, TabsAre, (lC l).length < 1048576, Reads W.cell? g.a (rsAt l) 0 (l.length * 32), lU l, VQ f r (lC l) ix = true, RoundsIn W.cell?, (lC l).length < 1048576, Reads W.cell? g.a (rsAt l) 0 (l.length * 32), lU l, false = false, decide ((l.length : Int) > 70) = false, true = true, RoundsIn W.cell?], by kernel_rfl,
          ⟨hw, tabsAre, hl, rd, lU_ok l, hv, hr, hl, rd, lU_ok l, rfl, h70, rfl, hr, trivial⟩, rfl, fun body _ => loopsFor_none⟩
      | false =>
        have hw : VR f r (lC l) ix = false := by rw [← e]; exact hv
        exact ⟨_, _, ht, ITblOK.nil _, saysY [(16, false), (18, false), (28, false), (34, false)], noLoop, true, [VR f r (lC l) ix = false, TabsAre, (lC l).length < 1048576, Reads W.cell? g.a (rsAt l) 0 (l.length * 32), lU l, VQ f r (lC l) ix = false, RoundsIn W.cell?, (lC l).length < 1048576, Reads W.cell? g.a (rsAt l) 0 (l.length * 32), lU l, false = false, decide ((l.length : Int) > 70) = false, true = true, RoundsIn W.cell?], by kernel_rfl,
          ⟨hw, tabsAre, hl, rd, lU_ok l, hv, hr, hl, rd, lU_ok l, rfl, h70, rfl, hr, trivial⟩, rfl, fun body _ => loopsFor_none⟩
    | true =>
      have e := hE f (Fo f (lC l) ix).f (lC l) ix hl
      cases hv : VQ f (Fo f (lC l) ix).f (lC l) ix with
      | true =>
        have hw : VR f (Fo f (lC l) ix).f (lC l) ix = true := by rw [← e]; exact hv
        exact ⟨_, _, ht, ITblOK.nil _, saysY [(16, false)], noLoop, true, [VR f (Fo f (lC l) ix).f (lC l) ix = true, TabsAre, (lC l).length < 1048576, Reads W.cell? g.a (rsAt l) 0 (l.length * 32), lU l, VQ f (Fo f (lC l) ix).f (lC l) ix = true, RoundsIn W.cell?, (lC l).length < 1048576, Reads W.cell? g.a (rsAt l) 0 (l.length * 32), lU l, TabsAre, (lC l).length < 1048576, Reads W.cell? g.a (rsAt l) 0 (l.length * 32), lU l, true = true, decide ((l.length : Int) > 70) = false, true = true, RoundsIn W.cell?], by kernel_rfl,
          ⟨hw, tabsAre, hl, rd, lU_ok l, hv, hr, hl, rd, lU_ok l, tabsAre, hl, rd, lU_ok l, rfl, h70, rfl, hr, trivial⟩, rfl, fun body _ => loopsFor_none⟩
      | false =>
        have hw : VR f (Fo f (lC l) ix).f (lC l) ix = false := by rw [← e]; exact hv
        exact ⟨_, _, ht, ITblOK.nil _, saysY [(16, false), (28, false), (34, false)], noLoop, true, [VR f (Fo f (lC l) ix).f (lC l) ix = false, TabsAre, (lC l).length < 1048576, Reads W.cell? g.a (rsAt l) 0 (l.length * 32), lU l, VQ f (Fo f (lC l) ix).f (lC l) ix = false, RoundsIn W.cell?, (lC l).length < 1048576, Reads W.cell? g.a (rsAt l) 0 (l.length * 32), lU l, TabsAre, (lC l).length < 1048576, Reads W.cell? g.a (rsAt l) 0 (l.length * 32), lU l, true = true, decide ((l.length : Int) > 70) = false, true = true, RoundsIn W.cell?], by kernel_rfl,
          ⟨hw, tabsAre, hl, rd, lU_ok l, hv, hr, hl, rd, lU_ok l, tabsAre, hl, rd, lU_ok l, rfl, h70, rfl, hr, trivial⟩, rfl, fun body _ => loopsFor_none⟩
theorem merkleVerifies_ok : Computes A Tryd.prog 13 (fun _ : GA (R8 32 × Rs 32 × UInt64 × R8 32 × Bool × Unit) => true) :=
  merkleVerifies_of (Fo := fun f l ix => ⟨foldV pairR8 l ix f l.length⟩) (VQ := merQ pairR8) (VR := verQ pairR8) (.cons known18_ok.row (.cons hasher_ok.row (.cons fold_ok.row (.cons verify_ok.row (.cons refVerify_ok.row (.nil _)))))) (fun f r l ix h => merQ_eq pairR8 f r l ix h)
end Go.Proofs.YtaloefkkllebeaaDoor

/- Trees: the law of roots. -/
namespace Go.Proofs.YtaloefkkllebeaaDoor
open Go Go.Sh
theorem nm_lC (l : List (R8 32)) : nm (lC l) = nm l := by
  unfold lC
  rw [nm_cut _ l 0 l.length (by omega) (fun j hj => by show rsB l (0 + j) = _; congr 1), List.drop_zero, List.take_of_length_le (by rw [nm_len]; exact Nat.le_refl _)]
def rootRV (Pr : R8 32 → R8 32 → R8 32) (l : List (R8 32)) (lim : Int) : T2 (R8 32) Int := match decide ((l.length : Int) > maxI lim) with | true => ⟨zR, 180⟩ | false => ⟨treeN Pr (lC l) (depQ lim), 0⟩
noncomputable def tblRR (Pr : R8 32 → R8 32 → R8 32) : List (Row A) := [rowOf A 46 (fun x : Int × Unit => ((depQ x.1 : Nat) : Int)), rowOf A 45 (fun x : Hs Mk × Rt 32 × Dp 62 × Unit => treeN Pr x.2.1.l x.2.2.1.n)]
theorem refRoot_of {Pr : R8 32 → R8 32 → R8 32} (ht : TblOK Tryd.prog (tblRR Pr)) : Computes A Tryd.prog 54 (fun x : Hs Mk × Rt 32 × Int × Unit => rootRV Pr x.2.1.l x.2.2.1) := by
  refine computes_of_run ht Tryd.func54 (by kernel_rfl) (by kernel_rfl) 6 ?_
  rintro ⟨a, g, _⟩ ⟨⟨m⟩, ⟨l⟩, lim, ⟨⟩⟩ W ⟨ha, ⟨hg, hn⟩, _⟩
  have hG : HasRows W l g := hg
  have hN : l.length < 1048576 := hn
  have rt : ReadT W.cell? a 0 72 := by
    intro b hb j hj
    obtain rfl := Option.some.inj hb
    exact ha (0 + j) (show 0 + j < 72 by omega)
  have hd := depQ_le lim
  show ∃ orc y vc, _ ∧ _ ∧ y = rootRV Pr l lim
  unfold rootRV
  cases hl : decide ((l.length : Int) > maxI lim) with
  | true => exact ⟨saysY [], ⟨zR, 180⟩, [decide ((l.length : Int) > maxI lim) = true], by kernel_rfl, ⟨hl, trivial⟩, rfl⟩
  | false =>
    have rd : Reads W.cell? g.a (rsAt (l := l)) 0 (l.length * 32) := reads_rows (n := 32) hG (by omega)
    exact ⟨saysY [(12, false)], ⟨treeN Pr (lC l) (depQ lim), 0⟩, [ReadT W.cell? a 0 72, TabsAre, (lC l).length < 1048576, Reads W.cell? g.a (rsAt l) 0 (l.length * 32), lU l, (0 : Int) ≤ (depQ lim : Int) ∧ (depQ lim : Int) ≤ ((62 : Nat) : Int), decide ((l.length : Int) > maxI lim) = false], by kernel_rfl,
      ⟨rt, tabsAre, by rw [lC_len]; exact hN, rd, lU_ok l, by omega, hl, trivial⟩, rfl⟩
theorem refRoot_ok : Computes A Tryd.prog 54 (fun x : Hs Mk × Rt 32 × Int × Unit => rootRV pairR8 x.2.1.l x.2.2.1) := refRoot_of (.cons refDepth_ok.row (.cons tree_ok.row (.nil _)))
theorem roots_same (Pr : R8 32 → R8 32 → R8 32) (l : List (R8 32)) (lim : Int) (h : l.length ≤ 60) : rootV Pr l lim = rootRV Pr l (extI false lim 4611686018427387904) := by
  have em : maxI lim = max lim 0 := by unfold maxI extI; simp only [if_true]; split <;> omega
  have ee : extI false lim 4611686018427387904 = min lim 4611686018427387904 := by unfold extI; simp only [Bool.false_eq_true, if_false]; split <;> omega
  have em' : maxI (min lim 4611686018427387904) = max (min lim 4611686018427387904) 0 := by unfold maxI extI; simp only [if_true]; split <;> omega
  unfold rootV rootRV
  rw [ee, em, em']
  have hd : dR lim = depQ (min lim 4611686018427387904) := by
    unfold dR
    rw [em]
    symm
    refine depQ_uniq (depQ_le _) (fun i hi => ?_) (fun hc => ?_)
    · obtain ⟨h1, h2⟩ := depQ_lt _ hi
      have hp := two_pow_le (i := i) (by omega)
      have hq : (2 : Int) ^ i < 4611686018427387904 := by
        have e : ((2 : Int) ^ i) = (((2 : Nat) ^ i : Nat) : Int) := by rw [Int.natCast_pow]; rfl
        have h3 : (2 : Nat) ^ i < 2 ^ 62 := Nat.pow_lt_pow_right (by decide) h1
        rw [e]
        have h4 : (2 : Nat) ^ 62 = 4611686018427387904 := by decide
        omega
      omega
    · exact depQ_end _ ⟨hc.1, by have := hc.2; omega⟩
  have e2 : treeN Pr (lC l) (depQ (min lim 4611686018427387904)) = treeN Pr l (dR lim) := by unfold treeN; rw [nm_lC, hd]
  rw [e2]
  by_cases h1 : (l.length : Int) > max lim 0
  · rw [decide_eq_true h1, decide_eq_true (show (l.length : Int) > max (min lim 4611686018427387904) 0 by omega)]
  · rw [decide_eq_false h1, decide_eq_false (show ¬ (l.length : Int) > max (min lim 4611686018427387904) 0 by omega)]
theorem zeros_same (Pr : R8 32 → R8 32 → R8 32) (d : Int) : zK Pr zR (zeN d) = zK Pr zR (zrN (maxI d)) := by
  have e : zeN d = zrN (maxI d) := by
    have em : maxI d = max d 0 := by unfold maxI extI; simp only [if_true]; split <;> omega
    unfold zeN
    rw [mmI_eq, zrN_eq, em]
  rw [e]
noncomputable def lightRow : Row A := rowIn Tryd.prog [] [] (fun _ _ => .keep) 4 52 Tryd.f52
theorem lightRow_ok : RowOK Tryd.prog lightRow := rowIn_ok (TblOK.nil _) (ITblOK.nil _) _ 4 Tryd.func52 (by kernel_rfl) (by kernel_rfl)
abbrev RVT := List (R8 32) → Int → T2 (R8 32) Int
noncomputable def tblF11 (RV RR : RVT) (Z ZR : Int → R8 32) : List (Row A) :=
  [rowOf A 51 (fun _ : GA Unit => true), lightRow, rowOf A 39 (fun _ : Unit => (⟨.mk⟩ : Hz Mk)), rowOf A 53 (fun x : GA (Rt 32 × Int × Unit) => RV x.x.1.l x.x.2.1),
    rowOf A 54 (fun x : Hs Mk × Rt 32 × Int × Unit => RR x.2.1.l x.2.2.1), rowOf A 55 (fun x : GA (Int × Unit) => Z x.x.1), rowOf A 41 (fun x : Hs Mk × Int × Unit => ZR x.2.1)]
theorem merkleRoots_of {RV RR : RVT} {Z ZR : Int → R8 32} (ht : TblOK Tryd.prog (tblF11 RV RR Z ZR)) (h1 : ∀ l lim, l.length ≤ 60 → RV l lim = RR l (extI false lim 4611686018427387904)) (h2 : ∀ d, Z d = ZR (maxI d)) :
    Computes A Tryd.prog 11 (fun _ : GA (Rs 32 × Int × Int × Unit) => true) := by
  refine computes_of_runT Tryd.func11 (by kernel_rfl) (by kernel_rfl) 8 ?_
  rintro ⟨g, _⟩ ⟨⟨⟨l⟩, lim, d, ⟨⟩⟩⟩ W ⟨hr, hg, _⟩
  have hG : HasRows W l g := hg
  have rd : Reads W.cell? g.a (rsAt (l := l)) 0 (l.length * 32) := reads_rows (n := 32) hG (by omega)
  cases h60 : decide ((l.length : Int) ≤ 60) with
  | false =>
    exact ⟨_, _, ht, ITblOK.nil _, saysY [(15, false)], noLoop, true, [decide ((l.length : Int) ≤ 60) = false, true = true, RoundsIn W.cell?], by kernel_rfl, ⟨h60, rfl, hr, trivial⟩, rfl, fun body _ => loopsFor_none⟩
  | true =>
    have hl : l.length ≤ 60 := by have := of_decide_eq_true h60; omega
    have hlc : (lC l).length < 1048576 := by rw [lC_len]; omega
    have e1 := h1 (lC l) lim (by rw [lC_len]; exact hl)
    have e2 := h2 d
    have k1 : ((RV (lC l) lim).b == (RR (lC l) (extI false lim 4611686018427387904)).b) = true := by rw [e1]; exact beq_self_eq_true _
    have k2 : eqB (RV (lC l) lim).a.f (RR (lC l) (extI false lim 4611686018427387904)).a.f 0 32 = true := by rw [e1]; exact eqB_self _ _ _
    have k3 : eqB (Z d).f (ZR (maxI d)).f 0 32 = true := by rw [e2]; exact eqB_self _ _ _
    exact ⟨_, _, ht, ITblOK.nil _, saysY [], noLoop, true, [eqB (Z d).f (ZR (maxI d)).f 0 32 = true, TabsAre, RoundsIn W.cell?, eqB (RV (lC l) lim).a.f (RR (lC l) (extI false lim 4611686018427387904)).a.f 0 32 = true, ((RV (lC l) lim).b == (RR (lC l) (extI false lim 4611686018427387904)).b) = true,
      TabsAre, (lC l).length < 1048576, Reads W.cell? g.a (rsAt l) 0 (l.length * 32), lU l, RoundsIn W.cell?, (lC l).length < 1048576, Reads W.cell? g.a (rsAt l) 0 (l.length * 32), lU l, decide ((l.length : Int) ≤ 60) = true, true = true, RoundsIn W.cell?], by kernel_rfl,
      ⟨k3, tabsAre, hr, k2, k1, tabsAre, hlc, rd, lU_ok l, hr, hlc, rd, lU_ok l, h60, rfl, hr, trivial⟩, rfl, fun body _ => loopsFor_none⟩
theorem merkleRoots_ok : Computes A Tryd.prog 11 (fun _ : GA (Rs 32 × Int × Int × Unit) => true) :=
  merkleRoots_of (RV := rootV pairR8) (RR := rootRV pairR8) (Z := fun d => zK pairR8 zR (zeN d)) (ZR := fun d => zK pairR8 zR (zrN d)) (.cons known18_ok.row (.cons lightRow_ok (.cons hasher_ok.row (.cons root_ok.row (.cons refRoot_ok.row (.cons zero_ok.row (.cons refZero_ok.row (.nil _)))))))) (fun l lim h => roots_same pairR8 l lim h) (fun d => zeros_same pairR8 d)
end Go.Proofs.YtaloefkkllebeaaDoor
