/- A walk over the bits that are set. -/
import Derived.Test.YtaloefkkllebeaaLk3
set_option linter.unusedVariables false
set_option linter.unusedSimpArgs false
set_option linter.unusedSectionVars false
namespace Go.Proofs.Ytaloefkkllebeaa
open Go Go.Sh
def tblBl : List (Row A) := [rowOf A 66 (fun x : UInt64 × Unit => (blN x.1.toNat : Int))]
section
variable (a : Num) (most : Int)
def memW (f : Nat → A) (n : Nat) : Mem A := [some ⟨[.a (.big (.num a))], 23, false⟩, some ⟨[.n .i64 most], 3, false⟩, some ⟨[.mk n n], 3, false⟩, some ⟨[.gr f 2 n n 1], 41, false⟩, some ⟨[.a (.big (.num a))], 23, false⟩, none]
noncomputable def ysW : Ys A :=
  ⟨5, [13], rangeA Try.f26 6, rangeNo Try.f26 6, slotsU 0 23 [(0, .val true [.a (.big (.num a))]), (1, .val false [.n .i64 most]), (2, .val false [.p 0 0]), (3, .val false [.p 1 0]), (4, .val false [.v (.slice none 0 0)]), (5, .val false [.p 3 0]), (6, .val false [.f 65 [(4, 0)]]), (8, .val true [.a (.big (.num a))]), (9, .val false [.f 65 [(4, 0)]]), (10, .val false [.f 65 [(4, 0)]]), (11, .val false [.v (.bool false)]), (12, .val false [.f 65 [(4, 0)]])]⟩
def inSW (f : Nat → A) (n : Nat) (i : Int) (x : UInt64) : St A := ⟨slots 0 30 [(0, .val false [.y 5]), (1, .val false [.p 4 0]), (3, .val false [.n .i64 i]), (4, .val false [.a (.u64 x)])], memW a most f n, 0, [], [none]⟩
def outSW (f : Nat → A) (n : Nat) (i : Int) : St A := ⟨slots 0 30 [(0, .val false [.y 5]), (1, .val false [.p 4 0]), (3, .val false [.n .i64 i])], memW a most f n, 0, [], [none]⟩
def anySW (f : Nat → A) (n : Nat) (p : Option Ex) : St A := ⟨slots 0 30 [(0, .val false [.y 5]), (1, .val false [.p 4 0])], memW a most f n, 0, [], [p]⟩
theorem yfW (old : Addr → Option Value) (b : Bool) : YFOK Try.prog old [ysW a most] (pushY (exec (cfg Try.prog [] (says [(17, b)]) old) 4 (ysW a most).assign) (exec (cfg Try.prog [] (says [(17, b)]) old) 4 (ysW a most).body) (ysW a most) noYield) :=
  YFOK.push (cfgOK0 (TblOK.nil _) (ITblOK.nil _) (says [(17, b)]) old noLoop) 4 (ysW a most) (loopsOK_none _ _ _ _ _ _ _ _) (loopsOK_none _ _ _ _ _ _ _ _)
variable {old : Addr → Option Value} {k : Cfg A} (e1 : k.P = Try.prog) (e2 : k.gl = (fun _ => none)) (e3 : k.old = old) (e4 : k.ys = [ysW a most])
include e1 e2 e3 e4
theorem inSW_one (f : Nat → A) (n : Nat) (i : Int) (x : UInt64) (hm : decide ((n : Int) ≥ most) = false) (h0 : ((x.toNat : Int) != 0) = true) (w1 : WrapI ((blN x.toNat : Int) - 1)) (w2 : WrapI (64 * i)) (w3 : WrapI (64 * i + ((blN x.toNat : Int) - 1))) (hb : Sh.Bears (n + 1) 8) :
    Round k (loopNo Try.f65 4) (inSW a most f n i x) .normal (inSW a most (catF f (timesN n (0 + 1)) (intF (64 * i + ((blN x.toNat : Int) - 1))) 0) (n + 1) i (clrW x)) := by
  have ht : timesN n (0 + 1) = n := by rw [timesN_eq, Nat.zero_add, Nat.mul_one]
  exact Round.of (.cons len64_ok.row (.nil _)) (ITblOK.nil _) (says [(14, true), (24, false)]) noLoop (yfW a most old false) 4
    [(0 : Int) ≤ ((UInt64.ofNat (((blN x.toNat : Int) - 1) % 18446744073709551616).toNat).toNat : Int), n = n ∧ timesN n (0 + 1) = n ∧ Sh.Bears (n + 1) 8, decide ((n : Int) ≥ most) = false, WrapI (64 * i + ((blN x.toNat : Int) - 1)), WrapI (64 * i), WrapI ((blN x.toNat : Int) - 1), ((x.toNat : Int) != 0) = true]
    loopsFor_none (by kernel_rfl) ⟨by omega, ⟨rfl, ht, hb⟩, hm, w3, w2, w1, h0, trivial⟩ (by kernel_rfl) (by kernel_rfl) e1 e2 e3 e4
theorem inSW_end (f : Nat → A) (n : Nat) (i : Int) (x : UInt64) (h0 : ((x.toNat : Int) != 0) = false) :
    Round k (loopNo Try.f65 4) (inSW a most f n i x) (.exit 2) (outSW a most f n i) :=
  Round.of (.cons len64_ok.row (.nil _)) (ITblOK.nil _) (says [(14, false)]) noLoop (yfW a most old false) 4 [((x.toNat : Int) != 0) = false] loopsFor_none (by kernel_rfl) ⟨h0, trivial⟩ (by kernel_rfl) (by kernel_rfl) e1 e2 e3 e4
theorem inSW_left (f : Nat → A) (n : Nat) (i : Int) (x : UInt64) (hm : decide ((n : Int) ≥ most) = true) (h0 : ((x.toNat : Int) != 0) = true) (w1 : WrapI ((blN x.toNat : Int) - 1)) (w2 : WrapI (64 * i)) (w3 : WrapI (64 * i + ((blN x.toNat : Int) - 1))) :
    Round k (loopNo Try.f65 4) (inSW a most f n i x) .ret (anySW a most f n (some (.exit 0))) :=
  Round.of (.cons len64_ok.row (.nil _)) (ITblOK.nil _) (says [(14, true), (24, true)]) noLoop (yfW a most old true) 4
    [decide ((n : Int) ≥ most) = true, WrapI (64 * i + ((blN x.toNat : Int) - 1)), WrapI (64 * i), WrapI ((blN x.toNat : Int) - 1), ((x.toNat : Int) != 0) = true]
    loopsFor_none (by kernel_rfl) ⟨hm, w3, w2, w1, h0, trivial⟩ (by kernel_rfl) (by kernel_rfl) e1 e2 e3 e4
omit e1 e2 e3 e4 in
theorem boundW {x : UInt64} (h : x.toNat ≠ 0) (i : Nat) (hi : i < 6) : (((x.toNat : Int) != 0) = true) ∧ WrapI ((blN x.toNat : Int) - 1) ∧ WrapI (64 * (i : Int)) ∧ WrapI (64 * (i : Int) + ((blN x.toNat : Int) - 1)) := by
  have h1 : blN x.toNat ≤ 64 := blN_le x.toNat_lt
  refine ⟨?_, wrapI (by omega) (by omega), wrapI (by omega) (by omega), wrapI (by omega) (by omega)⟩
  simp only [bne_iff_ne, ne_eq]
  omega
theorem inSW_all (i : Nat) (hi : i < 6) : ∀ (d : Nat) (x : UInt64) (R : List Int), (tops 64 x.toNat).length = d → R.length + d ≤ 384 →
    (match gat most R ((tops 64 x.toNat).map fun j : Nat => 64 * (i : Int) + (j : Int)) with
    | (R', true) => Goes k (loopNo Try.f65 4) (inSW a most (FR R) R.length i x) .ret (anySW a most (FR R') R'.length (some (.exit 0)))
    | (R', false) => Goes k (loopNo Try.f65 4) (inSW a most (FR R) R.length i x) (.exit 2) (outSW a most (FR R') R'.length i)) := by
  intro d
  induction d with
  | zero =>
    intro x R hd hR
    have h0 : x.toNat = 0 := by
      rcases Nat.eq_zero_or_pos x.toNat with h | h
      · exact h
      · rw [tops_step (n := 64) (by omega) x.toNat_lt] at hd
        cases hd
    rw [h0, tops_zero]
    exact .last (by simp) (inSW_end a most e1 e2 e3 e4 (FR R) R.length i x (by rw [h0]; rfl))
  | succ d ih =>
    intro x R hd hR
    have h0 : x.toNat ≠ 0 := fun h => by rw [h, tops_zero] at hd; cases hd
    obtain ⟨b1, b2, b3, b4⟩ := boundW h0 i hi
    have hs := tops_step (n := 64) h0 x.toNat_lt
    have hc := clrW_nat h0
    have hp : blN x.toNat ≥ 1 := by obtain ⟨q, e, _⟩ := blN_spec h0; omega
    rw [hs, ← hc]
    have hv : (64 * (i : Int) + ((blN x.toNat - 1 : Nat) : Int)) = 64 * (i : Int) + ((blN x.toNat : Int) - 1) := by omega
    rw [List.map_cons, hv]
    rw [hs, ← hc] at hd
    have ih := ih (clrW x) ((64 * (i : Int) + ((blN x.toNat : Int) - 1)) :: R) (by simpa using hd) (by simp; omega)
    unfold gat
    cases hm : decide ((R.length : Int) ≥ most) with
    | true =>
      exact .last (by simp) (inSW_left a most e1 e2 e3 e4 (FR R) R.length i x hm b1 b2 b3 b4)
    | false =>
      have st := inSW_one a most e1 e2 e3 e4 (FR R) R.length i x hm b1 b2 b3 b4 ⟨by omega, by unfold maxLen; omega⟩
      simp only
      revert ih
      cases gat most ((64 * (i : Int) + ((blN x.toNat : Int) - 1)) :: R) ((tops 64 (clrW x).toNat).map fun j : Nat => 64 * (i : Int) + (j : Int)) with
      | mk R' b => cases b <;> exact fun ih => .step st ih
end
section
variable (a : Num) (most : Int)
theorem outW_one (old : Addr → Option Value) {k : Cfg A} (e1 : k.P = Try.prog) (e2 : k.gl = (fun _ => none)) (e3 : k.old = old) (e4 : k.ys = [ysW a most]) (f f' : Nat → A) (n n' : Nat) (i : Nat) (hi : i < 6)
    (hin : SoundFor Try.prog old [ysW a most] (.loop (loopNo Try.f65 4)) (inSW a most f n i (wN a i)) (.exit 2) (outSW a most f' n' i)) :
    Round k (loopNo Try.f65 1) (outSW a most f n i) .normal (outSW a most f' n' ((i : Int) - 1)) := by
  refine Round.of (TblOK.nil _) (ITblOK.nil _) (says [(7, true)]) (lps [(4, inSW a most f n i (wN a i), .exit 2, outSW a most f' n' i)]) (yfW a most old false) 4
    [WrapI ((i : Int) - 1), ToldIs (inSW a most f n i (wN a i)), Idx (i : Int) 6, decide ((i : Int) ≥ 0) = true] (LoopsFor.cons ?_ hin LoopsFor.nil) (by kernel_rfl) ⟨wrapI (by omega) (by omega), toldIs _, ⟨by omega, by omega⟩, decide_eq_true (by omega), trivial⟩ (by kernel_rfl) (by kernel_rfl) e1 e2 e3 e4
  kernel_rfl
theorem outW_left (old : Addr → Option Value) {k : Cfg A} (e1 : k.P = Try.prog) (e2 : k.gl = (fun _ => none)) (e3 : k.old = old) (e4 : k.ys = [ysW a most]) (f f' : Nat → A) (n n' : Nat) (i : Nat) (hi : i < 6)
    (hin : SoundFor Try.prog old [ysW a most] (.loop (loopNo Try.f65 4)) (inSW a most f n i (wN a i)) .ret (anySW a most f' n' (some (.exit 0)))) :
    Round k (loopNo Try.f65 1) (outSW a most f n i) .ret (anySW a most f' n' (some (.exit 0))) := by
  refine Round.of (TblOK.nil _) (ITblOK.nil _) (says [(7, true)]) (lps [(4, inSW a most f n i (wN a i), .ret, anySW a most f' n' (some (.exit 0)))]) (yfW a most old false) 4
    [ToldIs (inSW a most f n i (wN a i)), Idx (i : Int) 6, decide ((i : Int) ≥ 0) = true] (LoopsFor.cons ?_ hin LoopsFor.nil) (by kernel_rfl) ⟨toldIs _, ⟨by omega, by omega⟩, decide_eq_true (by omega), trivial⟩ (by kernel_rfl) (by kernel_rfl) e1 e2 e3 e4
  kernel_rfl
theorem outW_end (old : Addr → Option Value) {k : Cfg A} (e1 : k.P = Try.prog) (e2 : k.gl = (fun _ => none)) (e3 : k.old = old) (e4 : k.ys = [ysW a most]) (f : Nat → A) (n : Nat) :
    Round k (loopNo Try.f65 1) (outSW a most f n (-1)) (.exit 0) (anySW a most f n none) :=
  Round.of (TblOK.nil _) (ITblOK.nil _) (says [(7, false)]) noLoop (yfW a most old false) 4 [decide ((-1 : Int) ≥ 0) = false] loopsFor_none (by kernel_rfl) ⟨by decide, trivial⟩ (by kernel_rfl) (by kernel_rfl) e1 e2 e3 e4
theorem outW_all (old : Addr → Option Value) {k : Cfg A} (e1 : k.P = Try.prog) (e2 : k.gl = (fun _ => none)) (e3 : k.old = old) (e4 : k.ys = [ysW a most]) : ∀ (i : Nat) (R : List Int), i ≤ 6 → R.length + (bitsW a i).length ≤ 384 →
    (match gat most R (bitsW a i) with
    | (R', true) => Goes k (loopNo Try.f65 1) (outSW a most (FR R) R.length ((i : Int) - 1)) .ret (anySW a most (FR R') R'.length (some (.exit 0)))
    | (R', false) => Goes k (loopNo Try.f65 1) (outSW a most (FR R) R.length ((i : Int) - 1)) (.exit 0) (anySW a most (FR R') R'.length none))
  | 0, R, _, _ => .last (by simp) (outW_end a most old e1 e2 e3 e4 (FR R) R.length)
  | i + 1, R, hi, hR => by
    have hin : ∀ {k : Cfg A}, k.P = Try.prog → k.gl = (fun _ => none) → k.old = old → k.ys = [ysW a most] → _ := fun {k} e1 e2 e3 e4 => inSW_all a most (k := k) e1 e2 e3 e4 i (by omega) _ (wN a i) R rfl (by simp only [bitsW, List.length_append, List.length_map] at hR; omega)
    have hl := gat_len most R ((tops 64 (wN a i).toNat).map fun j : Nat => 64 * (i : Int) + (j : Int))
    have hh : ((i + 1 : Nat) : Int) - 1 = (i : Int) := by omega
    rw [hh]
    show (match gat most R (((tops 64 (wN a i).toNat).map fun j : Nat => 64 * (i : Int) + (j : Int)) ++ bitsW a i) with | (R', true) => _ | (R', false) => _)
    rw [gat_append]
    revert hin hl
    cases hg : gat most R ((tops 64 (wN a i).toNat).map fun j : Nat => 64 * (i : Int) + (j : Int)) with
    | mk R1 b =>
      intro hin hl
      cases b with
      | true => exact .last (by simp) (outW_left a most old e1 e2 e3 e4 (FR R) (FR R1) R.length R1.length i (by omega) (fun c g1 g2 g3 g4 => (hin g1 g2 g3 g4).sound))
      | false =>
        have ih := outW_all old e1 e2 e3 e4 i R1 (by omega) (by simp only [bitsW, List.length_append, List.length_map] at hR hl; omega)
        have st := outW_one a most old e1 e2 e3 e4 (FR R) (FR R1) R.length R1.length i (by omega) (fun c g1 g2 g3 g4 => (hin g1 g2 g3 g4).sound)
        simp only
        revert ih
        cases gat most R1 (bitsW a i) with
        | mk R' b => cases b <;> exact fun ih => .step st ih
end
def orcW : Nat → Nat → Dec := fun _ t => match Nat.beq t 5 with | true => .grow 3 1 | false => .keep
end Go.Proofs.Ytaloefkkllebeaa
