/- SHA-256, the reference: a text as it is hashed. -/
import Derived.Test.YtaloefkkllebeaaDoorSa6
set_option linter.unusedVariables false
set_option linter.unusedSimpArgs false
set_option linter.unusedSectionVars false
namespace Go.Sh
def byF (b : UInt8) : Nat → A := fun j => ([(At.u8 b : A)][j]?).getD (.u8 b)
/-- Bytes, and others appended to them (the last first). -/
def GR (l : List UInt8) : List UInt8 → Nat → A
  | [] => fun q => byteAt l (0 + q)
  | b :: R => catF (GR l R) (timesN (l.length + R.length) (0 + 1)) (byF b) 0
theorem GR_get (l : List UInt8) : ∀ (R : List UInt8) (j : Nat), j < l.length + R.length → GR l R j = .u8 ((l ++ R.reverse).getD j 0)
  | [], j, h => by
    show (byteAt l (0 + j) : A) = _
    simp [byteAt]
  | b :: R, j, h => by
    have e : timesN (l.length + R.length) (0 + 1) = l.length + R.length := by rw [timesN_eq, Nat.zero_add, Nat.mul_one]
    show catF (GR l R) (timesN (l.length + R.length) (0 + 1)) (byF b) 0 j = _
    rw [e]
    rcases Nat.lt_or_ge j (l.length + R.length) with h' | h'
    · rw [catF_lt _ _ _ _ _ h', GR_get l R j h']
      congr 1
      simp only [List.getD_eq_getElem?_getD, List.reverse_cons]
      rw [← List.append_assoc, List.getElem?_append_left (l₁ := l ++ R.reverse) (by rw [List.length_append, List.length_reverse]; exact h')]
    · have hj : j = l.length + R.length := by simp at h; omega
      subst hj
      rw [catF_ge _ _ _ _ _ (Nat.le_refl _), Nat.sub_self]
      show (At.u8 b : A) = _
      congr 1
      simp only [List.getD_eq_getElem?_getD, List.reverse_cons]
      rw [← List.append_assoc, List.getElem?_append_right (l₁ := l ++ R.reverse) (by simp)]
      simp
def outR8 (l R : List UInt8) : List UInt8 := (List.range (l.length + R.length)).map fun j => u8of (GR l R (0 + j))
theorem outR8_eq (l R : List UInt8) : outR8 l R = l ++ R.reverse := by
  apply List.ext_getElem
  · simp [outR8]
  · intro j h1 h2
    simp [outR8] at h1
    simp only [outR8, List.getElem_map, List.getElem_range, Nat.zero_add]
    rw [GR_get l R j h1, List.getD_eq_getElem?_getD, List.getElem?_eq_getElem h2]
    rfl
theorem GR_isU8 (l R : List UInt8) : ∀ j, j < l.length + R.length → isU8 (GR l R (0 + j)) = true := fun j hj => by rw [Nat.zero_add, GR_get l R j hj]; rfl
def lenBz (n i : Nat) : UInt8 := UInt8.ofNat (((UInt64.ofNat ((u64 (((u64 (n : Int)).toNat : Int) * 8)).toNat / 2 ^ min (8 * i) IntKind.u64.bits)).toNat : Int) % 256).toNat
theorem lenBz_eq (n i : Nat) : lenBz n i = lenBy n i := by unfold lenBz lenBy; rw [Int.mul_comm]
def lensR (n : Nat) : List UInt8 := [lenBz n 0, lenBz n 1, lenBz n 2, lenBz n 3, lenBz n 4, lenBz n 5, lenBz n 6, lenBz n 7]
theorem lensR_eq (n : Nat) : (lensR n).reverse = lens n := by simp [lensR, lens, lenBz_eq]
/-- How many noughts. -/
def zerosN (n : Nat) : Nat := (119 - n % 64) % 64
/-- A text as it is hashed. -/
def padL (l : List UInt8) : List UInt8 := l ++ (UInt8.ofNat 128 :: (List.replicate (zerosN l.length) (UInt8.ofNat 0) ++ lens l.length))
theorem padL_len (l : List UInt8) : (padL l).length = l.length + 1 + zerosN l.length + 8 := by simp [padL, lens]; omega
theorem padL_64 (l : List UInt8) : (padL l).length % 64 = 0 := by rw [padL_len]; unfold zerosN; omega
/-- Two elements are as many as fit. -/
theorem bears {n : Nat} (h : n < 2097152) : Sh.Bears n 1 := ⟨by omega, by unfold maxLen; omega⟩
end Go.Sh
namespace Go.Proofs.YtaloefkkllebeaaDoor
open Go Go.Sh
def pS (g : Spot) (l R : List UInt8) : St A :=
  ⟨slots 0 34 [(0, .val false [slE g l 0 l.length g.c]), (2, .val false [.v (.slice none 0 0)]), (3, .val false [.gr (GR l R) 0 (1 + R.length) (l.length + R.length) 1])], [some ⟨[.mk (1 + R.length) (l.length + R.length)], 5, false⟩, some ⟨[.v (.int .u8 128)], 5, false⟩], 0, [], []⟩
section
variable {old : Addr → Option Value} {k : Cfg A} (e1 : k.P = Tryd.prog) (e2 : k.gl = (fun _ => none)) (e3 : k.old = old) (e4 : k.ys = []) (g : Spot) (l : List UInt8)
include e1 e2 e3 e4
theorem pS_one (R : List UInt8) (h1 : (((l.length + R.length : Nat) : Int).tmod 64 != 56) = true) (h2 : l.length + R.length + 1 < 2097152) : Round k (loopNo Tryd.f30 2) (pS g l R) .normal (pS g l (UInt8.ofNat 0 :: R)) :=
  Round.of0 (TblOK.nil _) (says [(13, true)]) 4 [1 + R.length = 1 + R.length ∧ timesN (l.length + R.length) (0 + 1) = l.length + R.length ∧ Sh.Bears (l.length + R.length + 1) 1, (((l.length + R.length : Nat) : Int).tmod 64 != 56) = true] (by kernel_rfl)
    ⟨⟨rfl, by rw [timesN_eq, Nat.zero_add, Nat.mul_one], bears h2⟩, h1, trivial⟩ (by kernel_rfl) (by kernel_rfl) e1 e2 e3 e4
theorem pS_end (R : List UInt8) (h1 : (((l.length + R.length : Nat) : Int).tmod 64 != 56) = false) : Round k (loopNo Tryd.f30 2) (pS g l R) (.exit 0) (pS g l R) :=
  Round.of0 (TblOK.nil _) (says [(13, false)]) 4 [(((l.length + R.length : Nat) : Int).tmod 64 != 56) = false] (by kernel_rfl) ⟨h1, trivial⟩ (by kernel_rfl) (by kernel_rfl) e1 e2 e3 e4
end
theorem tmod_ne (n : Nat) : (((n : Int).tmod 64 != 56) = true ↔ n % 64 ≠ 56) := by
  have : (n : Int).tmod 64 = ((n % 64 : Nat) : Int) := rfl
  rw [this]
  simp only [bne_iff_ne, ne_eq]
  omega
def padR (n : Nat) : Nat → List UInt8
  | 0 => [UInt8.ofNat 128]
  | k + 1 => UInt8.ofNat 0 :: padR n k
theorem padR_len (n : Nat) : ∀ k, (padR n k).length = k + 1
  | 0 => rfl
  | k + 1 => by simp [padR, padR_len n k]
theorem padR_rev (n : Nat) : ∀ k, (padR n k).reverse = UInt8.ofNat 128 :: List.replicate k (UInt8.ofNat 0)
  | 0 => rfl
  | k + 1 => by
    simp only [padR, List.reverse_cons, padR_rev n k, List.cons_append]
    rw [← List.replicate_succ']
theorem pad_ok : Computes A Tryd.prog 30 (fun x : Bt × Unit => (⟨padL x.1.l⟩ : Bz)) := by
  refine computes_of_runW (TblOK.nil _) (ITblOK.nil _) Tryd.func30 (by kernel_rfl) (by kernel_rfl) 10 ?_
  rintro ⟨g, _⟩ ⟨⟨l⟩, ⟨⟩⟩ W ⟨⟨hg, hn⟩, _⟩
  have hg : HasBytes W l g := hg
  have hn : l.length < 1048576 := hn
  have hz : zerosN l.length < 64 := Nat.mod_lt _ (by decide)
  have hs : SoundFor Tryd.prog W.cell? [] (.loop (loopNo Tryd.f30 2)) (pS g l (padR l.length 0)) (.exit 0) (pS g l (padR l.length (zerosN l.length))) := by
    intro c q1 q2 q3 q4
    refine loopAt (c := c) (inv := fun i => pS g l (padR l.length i)) (N := zerosN l.length) (by simp) (fun i hi => pS_one q1 q2 q3 q4 g l _ ?_ ?_) (pS_end q1 q2 q3 q4 g l _ ?_)
    · rw [tmod_ne, padR_len]; unfold zerosN at hi; omega
    · rw [padR_len]; omega
    · rw [Bool.eq_false_iff, Ne, tmod_ne, padR_len]; unfold zerosN; omega
  have hlen := padR_len l.length (zerosN l.length)
  have hrev := padR_rev l.length (zerosN l.length)
  have hy : outR8 l (lensR l.length ++ padR l.length (zerosN l.length)) = padL l := by
    rw [outR8_eq, List.reverse_append, hrev, lensR_eq]
    simp [padL]
  have hu := GR_isU8 l (lensR l.length ++ padR l.length (zerosN l.length))
  revert hs hlen hy hu
  generalize padR l.length (zerosN l.length) = R
  intro hs hlen hy hu
  have b : ∀ i, i < 9 → Sh.Bears (l.length + R.length + i) 1 := fun i hi => bears (by omega)
  have t : ∀ i, timesN (l.length + R.length + i) (0 + 1) = l.length + R.length + i := fun i => by rw [timesN_eq, Nat.zero_add, Nat.mul_one]
  have ap : ∀ i, i < 8 → (1 + R.length + i = 1 + R.length + i ∧ timesN (l.length + R.length + i) (0 + 1) = l.length + R.length + i ∧ Sh.Bears (l.length + R.length + i + 1) 1) := fun i hi => ⟨rfl, t i, b (i + 1) (by omega)⟩
  refine ⟨fun _ _ => .keep, lps [(2, pS g l (padR l.length 0), .exit 0, pS g l R)], ⟨outR8 l (lensR l.length ++ R)⟩,
    [∀ j, j < l.length + (lensR l.length ++ R).length → isU8 (GR l (lensR l.length ++ R) (0 + j)) = true,
      1 + R.length + 7 = 1 + R.length + 7 ∧ timesN (l.length + R.length + 7) (0 + 1) = l.length + R.length + 7 ∧ Sh.Bears (l.length + R.length + 7 + 1) 1,
      1 + R.length + 6 = 1 + R.length + 6 ∧ timesN (l.length + R.length + 6) (0 + 1) = l.length + R.length + 6 ∧ Sh.Bears (l.length + R.length + 6 + 1) 1,
      1 + R.length + 5 = 1 + R.length + 5 ∧ timesN (l.length + R.length + 5) (0 + 1) = l.length + R.length + 5 ∧ Sh.Bears (l.length + R.length + 5 + 1) 1,
      1 + R.length + 4 = 1 + R.length + 4 ∧ timesN (l.length + R.length + 4) (0 + 1) = l.length + R.length + 4 ∧ Sh.Bears (l.length + R.length + 4 + 1) 1,
      1 + R.length + 3 = 1 + R.length + 3 ∧ timesN (l.length + R.length + 3) (0 + 1) = l.length + R.length + 3 ∧ Sh.Bears (l.length + R.length + 3 + 1) 1,
      1 + R.length + 2 = 1 + R.length + 2 ∧ timesN (l.length + R.length + 2) (0 + 1) = l.length + R.length + 2 ∧ Sh.Bears (l.length + R.length + 2 + 1) 1,
      1 + R.length + 1 = 1 + R.length + 1 ∧ timesN (l.length + R.length + 1) (0 + 1) = l.length + R.length + 1 ∧ Sh.Bears (l.length + R.length + 1 + 1) 1,
      1 + R.length + 0 = 1 + R.length + 0 ∧ timesN (l.length + R.length + 0) (0 + 1) = l.length + R.length + 0 ∧ Sh.Bears (l.length + R.length + 0 + 1) 1,
      ToldIs (pS g l (padR l.length 0)), 1 = 1 ∧ timesN l.length (0 + 1) = l.length ∧ Sh.Bears (l.length + 1) 1, Sh.Bears l.length 1, Reads W.cell? g.a (byteAt (B := FB) l) 0 l.length], by kernel_rfl,
    ⟨hu, ap 7 (by omega), ap 6 (by omega), ap 5 (by omega), ap 4 (by omega), ap 3 (by omega), ap 2 (by omega), ap 1 (by omega), ap 0 (by omega), toldIs _, ⟨rfl, by rw [timesN_eq, Nat.zero_add, Nat.mul_one], bears (by omega)⟩, bears (by omega), reads_part hg (by omega), trivial⟩, by simp only [hy], fun body hb => ?_⟩
  obtain rfl := Option.some.inj hb
  exact LoopsFor.cons (by kernel_rfl) hs LoopsFor.nil
end Go.Proofs.YtaloefkkllebeaaDoor
