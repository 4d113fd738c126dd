/- A walk over the bits that are set. -/
import Derived.Test.YtaloefkkllebeaaFc2
set_option linter.unusedVariables false
set_option linter.unusedSimpArgs false
set_option linter.unusedSectionVars false
namespace Go.Proofs.Ytaloefkkllebeaa
open Go Go.Sh
section
variable (a : Fq) (most : Int)
def memQ (f : Nat → A) (n : Nat) : Mem A := [some ⟨[.a (.big (.fr a))], 59, false⟩, some ⟨[.n .i64 most], 3, false⟩, some ⟨[.mk n n], 3, false⟩, some ⟨[.gr f 2 n n 1], 41, false⟩, some ⟨[.a (.big (.fr a))], 59, false⟩, some ⟨[.a (.big (.num (fqNum a)))], 23, false⟩, none]
noncomputable def ysQ : Ys A :=
  ⟨6, [13], rangeA Try.f45 6, rangeNo Try.f45 6, slotsU 0 23 [(0, .val true [.a (.big (.fr a))]), (1, .val false [.n .i64 most]), (2, .val false [.p 0 0]), (3, .val false [.p 1 0]), (4, .val false [.v (.slice none 0 0)]), (5, .val false [.p 3 0]), (6, .val false [.f 65 [(5, 0)]]), (8, .val true [.a (.big (.fr a))]), (9, .val false [.f 65 [(5, 0)]]), (10, .val false [.f 65 [(5, 0)]]), (11, .val false [.v (.bool false)]), (12, .val false [.f 65 [(5, 0)]])]⟩
def inSQ (f : Nat → A) (n : Nat) (i : Int) (x : UInt64) : St A := ⟨slots 0 30 [(0, .val false [.y 6]), (1, .val false [.p 5 0]), (3, .val false [.n .i64 i]), (4, .val false [.a (.u64 x)])], memQ a most f n, 0, [], [none]⟩
def outSQ (f : Nat → A) (n : Nat) (i : Int) : St A := ⟨slots 0 30 [(0, .val false [.y 6]), (1, .val false [.p 5 0]), (3, .val false [.n .i64 i])], memQ a most f n, 0, [], [none]⟩
def anySQ (f : Nat → A) (n : Nat) (p : Option Ex) : St A := ⟨slots 0 30 [(0, .val false [.y 6]), (1, .val false [.p 5 0])], memQ a most f n, 0, [], [p]⟩
theorem yfQ (old : Addr → Option Value) (b : Bool) : YFOK Try.prog old [ysQ a most] (pushY (exec (cfg Try.prog [] (says [(17, b)]) old) 4 (ysQ a most).assign) (exec (cfg Try.prog [] (says [(17, b)]) old) 4 (ysQ a most).body) (ysQ a most) noYield) :=
  YFOK.push (cfgOK0 (TblOK.nil _) (ITblOK.nil _) (says [(17, b)]) old noLoop) 4 (ysQ a most) (loopsOK_none _ _ _ _ _ _ _ _) (loopsOK_none _ _ _ _ _ _ _ _)
variable {old : Addr → Option Value} {k : Cfg A} (e1 : k.P = Try.prog) (e2 : k.gl = (fun _ => none)) (e3 : k.old = old) (e4 : k.ys = [ysQ a most])
include e1 e2 e3 e4
theorem inSQ_one (f : Nat → A) (n : Nat) (i : Int) (x : UInt64) (hm : decide ((n : Int) ≥ most) = false) (h0 : ((x.toNat : Int) != 0) = true) (w1 : WrapI ((blN x.toNat : Int) - 1)) (w2 : WrapI (64 * i)) (w3 : WrapI (64 * i + ((blN x.toNat : Int) - 1))) (hb : Sh.Bears (n + 1) 8) :
    Round k (loopNo Try.f65 4) (inSQ a most f n i x) .normal (inSQ a most (catF f (timesN n (0 + 1)) (intF (64 * i + ((blN x.toNat : Int) - 1))) 0) (n + 1) i (clrW x)) := by
  have ht : timesN n (0 + 1) = n := by rw [timesN_eq, Nat.zero_add, Nat.mul_one]
  exact Round.of (.cons len64_ok.row (.nil _)) (ITblOK.nil _) (says [(14, true), (24, false)]) noLoop (yfQ a most old false) 4
    [(0 : Int) ≤ ((UInt64.ofNat (((blN x.toNat : Int) - 1) % 18446744073709551616).toNat).toNat : Int), n = n ∧ timesN n (0 + 1) = n ∧ Sh.Bears (n + 1) 8, decide ((n : Int) ≥ most) = false, WrapI (64 * i + ((blN x.toNat : Int) - 1)), WrapI (64 * i), WrapI ((blN x.toNat : Int) - 1), ((x.toNat : Int) != 0) = true]
    loopsFor_none (by kernel_rfl) ⟨by omega, ⟨rfl, ht, hb⟩, hm, w3, w2, w1, h0, trivial⟩ (by kernel_rfl) (by kernel_rfl) e1 e2 e3 e4
theorem inSQ_end (f : Nat → A) (n : Nat) (i : Int) (x : UInt64) (h0 : ((x.toNat : Int) != 0) = false) :
    Round k (loopNo Try.f65 4) (inSQ a most f n i x) (.exit 2) (outSQ a most f n i) :=
  Round.of (.cons len64_ok.row (.nil _)) (ITblOK.nil _) (says [(14, false)]) noLoop (yfQ a most old false) 4 [((x.toNat : Int) != 0) = false] loopsFor_none (by kernel_rfl) ⟨h0, trivial⟩ (by kernel_rfl) (by kernel_rfl) e1 e2 e3 e4
theorem inSQ_left (f : Nat → A) (n : Nat) (i : Int) (x : UInt64) (hm : decide ((n : Int) ≥ most) = true) (h0 : ((x.toNat : Int) != 0) = true) (w1 : WrapI ((blN x.toNat : Int) - 1)) (w2 : WrapI (64 * i)) (w3 : WrapI (64 * i + ((blN x.toNat : Int) - 1))) :
    Round k (loopNo Try.f65 4) (inSQ a most f n i x) .ret (anySQ a most f n (some (.exit 0))) :=
  Round.of (.cons len64_ok.row (.nil _)) (ITblOK.nil _) (says [(14, true), (24, true)]) noLoop (yfQ a most old true) 4
    [decide ((n : Int) ≥ most) = true, WrapI (64 * i + ((blN x.toNat : Int) - 1)), WrapI (64 * i), WrapI ((blN x.toNat : Int) - 1), ((x.toNat : Int) != 0) = true]
    loopsFor_none (by kernel_rfl) ⟨hm, w3, w2, w1, h0, trivial⟩ (by kernel_rfl) (by kernel_rfl) e1 e2 e3 e4
omit e1 e2 e3 e4 in
theorem boundQ {x : UInt64} (h : x.toNat ≠ 0) (i : Nat) (hi : i < 6) : (((x.toNat : Int) != 0) = true) ∧ WrapI ((blN x.toNat : Int) - 1) ∧ WrapI (64 * (i : Int)) ∧ WrapI (64 * (i : Int) + ((blN x.toNat : Int) - 1)) := by
  have h1 : blN x.toNat ≤ 64 := blN_le x.toNat_lt
  refine ⟨?_, wrapI (by omega) (by omega), wrapI (by omega) (by omega), wrapI (by omega) (by omega)⟩
  simp only [bne_iff_ne, ne_eq]
  omega
theorem inSQ_all (i : Nat) (hi : i < 6) : ∀ (d : Nat) (x : UInt64) (R : List Int), (tops 64 x.toNat).length = d → R.length + d ≤ 384 →
    (match gat most R ((tops 64 x.toNat).map fun j : Nat => 64 * (i : Int) + (j : Int)) with
    | (R', true) => Goes k (loopNo Try.f65 4) (inSQ a most (FR R) R.length i x) .ret (anySQ a most (FR R') R'.length (some (.exit 0)))
    | (R', false) => Goes k (loopNo Try.f65 4) (inSQ a most (FR R) R.length i x) (.exit 2) (outSQ a most (FR R') R'.length i)) := by
  intro d
  induction d with
  | zero =>
    intro x R hd hR
    have h0 : x.toNat = 0 := by
      rcases Nat.eq_zero_or_pos x.toNat with h | h
      · exact h
      · rw [tops_step (n := 64) (by omega) x.toNat_lt] at hd
        cases hd
    rw [h0, tops_zero]
    exact .last (by simp) (inSQ_end a most e1 e2 e3 e4 (FR R) R.length i x (by rw [h0]; rfl))
  | succ d ih =>
    intro x R hd hR
    have h0 : x.toNat ≠ 0 := fun h => by rw [h, tops_zero] at hd; cases hd
    obtain ⟨b1, b2, b3, b4⟩ := boundQ h0 i hi
    have hs := tops_step (n := 64) h0 x.toNat_lt
    have hc := clrW_nat h0
    have hp : blN x.toNat ≥ 1 := by obtain ⟨q, e, _⟩ := blN_spec h0; omega
    rw [hs, ← hc]
    have hv : (64 * (i : Int) + ((blN x.toNat - 1 : Nat) : Int)) = 64 * (i : Int) + ((blN x.toNat : Int) - 1) := by omega
    rw [List.map_cons, hv]
    rw [hs, ← hc] at hd
    have ih := ih (clrW x) ((64 * (i : Int) + ((blN x.toNat : Int) - 1)) :: R) (by simpa using hd) (by simp; omega)
    unfold gat
    cases hm : decide ((R.length : Int) ≥ most) with
    | true =>
      exact .last (by simp) (inSQ_left a most e1 e2 e3 e4 (FR R) R.length i x hm b1 b2 b3 b4)
    | false =>
      have st := inSQ_one a most e1 e2 e3 e4 (FR R) R.length i x hm b1 b2 b3 b4 ⟨by omega, by unfold maxLen; omega⟩
      simp only
      revert ih
      cases gat most ((64 * (i : Int) + ((blN x.toNat : Int) - 1)) :: R) ((tops 64 (clrW x).toNat).map fun j : Nat => 64 * (i : Int) + (j : Int)) with
      | mk R' b => cases b <;> exact fun ih => .step st ih
end
section
variable (a : Fq) (most : Int)
theorem outQ_one (old : Addr → Option Value) {k : Cfg A} (e1 : k.P = Try.prog) (e2 : k.gl = (fun _ => none)) (e3 : k.old = old) (e4 : k.ys = [ysQ a most]) (f f' : Nat → A) (n n' : Nat) (i : Nat) (hi : i < 6)
    (hin : SoundFor Try.prog old [ysQ a most] (.loop (loopNo Try.f65 4)) (inSQ a most f n i (wN (fqNum a) i)) (.exit 2) (outSQ a most f' n' i)) :
    Round k (loopNo Try.f65 1) (outSQ a most f n i) .normal (outSQ a most f' n' ((i : Int) - 1)) := by
  refine Round.of (TblOK.nil _) (ITblOK.nil _) (says [(7, true)]) (lps [(4, inSQ a most f n i (wN (fqNum a) i), .exit 2, outSQ a most f' n' i)]) (yfQ a most old false) 4
    [WrapI ((i : Int) - 1), ToldIs (inSQ a most f n i (wN (fqNum a) i)), Idx (i : Int) 6, decide ((i : Int) ≥ 0) = true] (LoopsFor.cons ?_ hin LoopsFor.nil) (by kernel_rfl) ⟨wrapI (by omega) (by omega), toldIs _, ⟨by omega, by omega⟩, decide_eq_true (by omega), trivial⟩ (by kernel_rfl) (by kernel_rfl) e1 e2 e3 e4
  kernel_rfl
theorem outQ_left (old : Addr → Option Value) {k : Cfg A} (e1 : k.P = Try.prog) (e2 : k.gl = (fun _ => none)) (e3 : k.old = old) (e4 : k.ys = [ysQ a most]) (f f' : Nat → A) (n n' : Nat) (i : Nat) (hi : i < 6)
    (hin : SoundFor Try.prog old [ysQ a most] (.loop (loopNo Try.f65 4)) (inSQ a most f n i (wN (fqNum a) i)) .ret (anySQ a most f' n' (some (.exit 0)))) :
    Round k (loopNo Try.f65 1) (outSQ a most f n i) .ret (anySQ a most f' n' (some (.exit 0))) := by
  refine Round.of (TblOK.nil _) (ITblOK.nil _) (says [(7, true)]) (lps [(4, inSQ a most f n i (wN (fqNum a) i), .ret, anySQ a most f' n' (some (.exit 0)))]) (yfQ a most old false) 4
    [ToldIs (inSQ a most f n i (wN (fqNum a) i)), Idx (i : Int) 6, decide ((i : Int) ≥ 0) = true] (LoopsFor.cons ?_ hin LoopsFor.nil) (by kernel_rfl) ⟨toldIs _, ⟨by omega, by omega⟩, decide_eq_true (by omega), trivial⟩ (by kernel_rfl) (by kernel_rfl) e1 e2 e3 e4
  kernel_rfl
theorem outQ_end (old : Addr → Option Value) {k : Cfg A} (e1 : k.P = Try.prog) (e2 : k.gl = (fun _ => none)) (e3 : k.old = old) (e4 : k.ys = [ysQ a most]) (f : Nat → A) (n : Nat) :
    Round k (loopNo Try.f65 1) (outSQ a most f n (-1)) (.exit 0) (anySQ a most f n none) :=
  Round.of (TblOK.nil _) (ITblOK.nil _) (says [(7, false)]) noLoop (yfQ a most old false) 4 [decide ((-1 : Int) ≥ 0) = false] loopsFor_none (by kernel_rfl) ⟨by decide, trivial⟩ (by kernel_rfl) (by kernel_rfl) e1 e2 e3 e4
theorem outQ_all (old : Addr → Option Value) {k : Cfg A} (e1 : k.P = Try.prog) (e2 : k.gl = (fun _ => none)) (e3 : k.old = old) (e4 : k.ys = [ysQ a most]) : ∀ (i : Nat) (R : List Int), i ≤ 6 → R.length + (bitsW (fqNum a) i).length ≤ 384 →
    (match gat most R (bitsW (fqNum a) i) with
    | (R', true) => Goes k (loopNo Try.f65 1) (outSQ a most (FR R) R.length ((i : Int) - 1)) .ret (anySQ a most (FR R') R'.length (some (.exit 0)))
    | (R', false) => Goes k (loopNo Try.f65 1) (outSQ a most (FR R) R.length ((i : Int) - 1)) (.exit 0) (anySQ a most (FR R') R'.length none))
  | 0, R, _, _ => .last (by simp) (outQ_end a most old e1 e2 e3 e4 (FR R) R.length)
  | i + 1, R, hi, hR => by
    have hin : ∀ {k : Cfg A}, k.P = Try.prog → k.gl = (fun _ => none) → k.old = old → k.ys = [ysQ a most] → _ := fun {k} e1 e2 e3 e4 => inSQ_all a most (k := k) e1 e2 e3 e4 i (by omega) _ (wN (fqNum a) i) R rfl (by simp only [bitsW, List.length_append, List.length_map] at hR; omega)
    have hl := gat_len most R ((tops 64 (wN (fqNum a) i).toNat).map fun j : Nat => 64 * (i : Int) + (j : Int))
    have hh : ((i + 1 : Nat) : Int) - 1 = (i : Int) := by omega
    rw [hh]
    show (match gat most R (((tops 64 (wN (fqNum a) i).toNat).map fun j : Nat => 64 * (i : Int) + (j : Int)) ++ bitsW (fqNum a) i) with | (R', true) => _ | (R', false) => _)
    rw [gat_append]
    revert hin hl
    cases hg : gat most R ((tops 64 (wN (fqNum a) i).toNat).map fun j : Nat => 64 * (i : Int) + (j : Int)) with
    | mk R1 b =>
      intro hin hl
      cases b with
      | true => exact .last (by simp) (outQ_left a most old e1 e2 e3 e4 (FR R) (FR R1) R.length R1.length i (by omega) (fun c g1 g2 g3 g4 => (hin g1 g2 g3 g4).sound))
      | false =>
        have ih := outQ_all old e1 e2 e3 e4 i R1 (by omega) (by simp only [bitsW, List.length_append, List.length_map] at hR hl; omega)
        have st := outQ_one a most old e1 e2 e3 e4 (FR R) (FR R1) R.length R1.length i (by omega) (fun c g1 g2 g3 g4 => (hin g1 g2 g3 g4).sound)
        simp only
        revert ih
        cases gat most R1 (bitsW (fqNum a) i) with
        | mk R' b => cases b <;> exact fun ih => .step st ih
end
def orcQ : Nat → Nat → Dec := fun _ t => match Nat.beq t 5 with | true => .grow 3 1 | false => .keep

section
variable (g h : Spot) (x y : List Int)
def iSQ (i : Int) : St A := ⟨slots 0 26 [(0, .val false [.e g.a (intAt x) 0 x.length g.c]), (1, .val false [.e h.a (intAt y) 0 y.length h.c]), (5, .val false [.n .i64 i])], [], 0, [], []⟩
def iEQ : St A := ⟨slots 0 26 [], [], 0, [], []⟩
def iRQ : St A := ⟨slots 0 26 [(4, .val false [.v (.bool false)])], [], 0, [], []⟩
variable {W : World} {k : Cfg A} (e1 : k.P = Try.prog) (e2 : k.gl = (fun _ => none)) (e3 : k.old = W.cell?) (e4 : k.ys = []) (hg : HasInts W x g) (hh : HasInts W y h) (hl : x.length = y.length)
include e1 e2 e3 e4 hg hh hl
theorem iSQ_go (hx : x.length < 1048576) : ∀ (d i : Nat), i + d = x.length →
    (x.drop i = y.drop i → Goes k (loopNo Try.f44 4) (iSQ g h x y i) (.exit 0) iEQ) ∧ (x.drop i ≠ y.drop i → Goes k (loopNo Try.f44 4) (iSQ g h x y i) .ret iRQ)
  | 0, i, hd => by
    refine ⟨fun _ => .last (by simp) (Round.of0 (TblOK.nil _) (says [(14, false)]) 4 [decide ((i : Int) < (x.length : Int)) = false] (by kernel_rfl) ⟨decide_eq_false (by omega), trivial⟩ (by kernel_rfl) (by kernel_rfl) e1 e2 e3 e4), fun hne => absurd ?_ hne⟩
    rw [List.drop_of_length_le (by omega), List.drop_of_length_le (by omega)]
  | d + 1, i, hd => by
    obtain ⟨ih1, ih2⟩ := iSQ_go hx d (i + 1) (by omega)
    have hi : i < x.length := by omega
    have rx : Reads W.cell? g.a (intAt (B := FB) x) i 1 := reads_ints hg (by omega)
    have ry : Reads W.cell? h.a (intAt (B := FB) y) i 1 := reads_ints hh (by omega)
    have ix : Idx (i : Int) x.length := ⟨by omega, by omega⟩
    have iy : Idx (i : Int) y.length := ⟨by omega, by omega⟩
    have lt : decide ((i : Int) < (x.length : Int)) = true := decide_eq_true (by omega)
    have w : WrapI ((i : Int) + 1) := wrapI (by omega) (by omega)
    have dx : x.drop i = x.getD i 0 :: x.drop (i + 1) := by
      rw [List.drop_eq_getElem_cons hi, List.getD_eq_getElem?_getD, List.getElem?_eq_getElem hi]; rfl
    have dy : y.drop i = y.getD i 0 :: y.drop (i + 1) := by
      rw [List.drop_eq_getElem_cons (by omega), List.getD_eq_getElem?_getD, List.getElem?_eq_getElem (by omega)]; rfl
    have st : ((x.getD i 0 != y.getD i 0) = false) → Round k (loopNo Try.f44 4) (iSQ g h x y i) .normal (iSQ g h x y ((i + 1 : Nat) : Int)) := fun hne =>
      Round.of0 (TblOK.nil _) (says [(14, true), (25, false)]) 4 [WrapI ((i : Int) + 1), (x.getD i 0 != y.getD i 0) = false, Reads W.cell? h.a (intAt (B := FB) y) i 1, Idx (i : Int) y.length, Reads W.cell? g.a (intAt (B := FB) x) i 1, Idx (i : Int) x.length, decide ((i : Int) < (x.length : Int)) = true] (by kernel_rfl) ⟨w, hne, ry, iy, rx, ix, lt, trivial⟩ (by kernel_rfl) (by kernel_rfl) e1 e2 e3 e4
    rw [dx, dy]
    cases hne : (x.getD i 0 != y.getD i 0) with
    | true =>
      refine ⟨fun he => ?_, fun _ => ?_⟩
      · simp only [bne_iff_ne, ne_eq] at hne
        exact absurd (List.cons.inj he).1 hne
      · exact .last (by simp) (Round.of0 (TblOK.nil _) (says [(14, true), (25, true)]) 4 [(x.getD i 0 != y.getD i 0) = true, Reads W.cell? h.a (intAt (B := FB) y) i 1, Idx (i : Int) y.length, Reads W.cell? g.a (intAt (B := FB) x) i 1, Idx (i : Int) x.length, decide ((i : Int) < (x.length : Int)) = true] (by kernel_rfl) ⟨hne, ry, iy, rx, ix, lt, trivial⟩ (by kernel_rfl) (by kernel_rfl) e1 e2 e3 e4)
    | false =>
      have heq : x.getD i 0 = y.getD i 0 := by simpa using hne
      refine ⟨fun he => .step (st hne) (ih1 (List.cons.inj he).2), fun hn => .step (st hne) (ih2 fun he => hn ?_)⟩
      rw [heq, he]
end
theorem intsQ_ok : Computes A Try.prog 44 (fun x : Is × Is × Unit => decide (x.1.l = x.2.1.l)) := by
  refine computes_of_runW (TblOK.nil _) (ITblOK.nil _) Try.func44 (by kernel_rfl) (by kernel_rfl) 4 ?_
  rintro ⟨g, h, _⟩ ⟨⟨x⟩, ⟨y⟩, ⟨⟩⟩ W ⟨⟨hg, hx⟩, ⟨hh, hy⟩, _⟩
  simp only at hx
  cases hl : ((x.length : Int) != (y.length : Int)) with
  | true =>
    refine ⟨says [(10, true)], noLoop, false, [((x.length : Int) != (y.length : Int)) = true], by kernel_rfl, ⟨hl, trivial⟩, ?_, fun _ _ => loopsFor_none⟩
    symm
    refine decide_eq_false fun e => ?_
    simp only at e
    rw [e] at hl
    simp at hl
  | false =>
    have hl' : x.length = y.length := by
      have : (x.length : Int) = (y.length : Int) := by simpa using hl
      omega
    obtain ⟨h1, h2⟩ := iSQ_go g h x y (W := W) (k := cfgW Try.prog [] [] (fun _ _ => .keep) W.cell? noLoop [] noYield) rfl rfl rfl rfl hg hh hl' hx x.length 0 (by omega)
    by_cases he : x = y
    · have hs : SoundFor Try.prog W.cell? [] (.loop (loopNo Try.f44 4)) (iSQ g h x y 0) (.exit 0) iEQ := fun c q1 q2 q3 q4 => ((iSQ_go g h x y (W := W) (k := c) q1 q2 q3 q4 hg hh hl' hx x.length 0 (by omega)).1 (by rw [he])).sound
      refine ⟨says [(10, false)], lps [(4, iSQ g h x y 0, .exit 0, iEQ)], true, [ToldIs (iSQ g h x y 0), ((x.length : Int) != (y.length : Int)) = false], by kernel_rfl, ⟨toldIs _, hl, trivial⟩, (decide_eq_true he).symm, fun body hb => ?_⟩
      refine LoopsFor.cons ?_ hs LoopsFor.nil
      obtain rfl := Option.some.inj hb
      kernel_rfl
    · have hs : SoundFor Try.prog W.cell? [] (.loop (loopNo Try.f44 4)) (iSQ g h x y 0) .ret iRQ := fun c q1 q2 q3 q4 => ((iSQ_go g h x y (W := W) (k := c) q1 q2 q3 q4 hg hh hl' hx x.length 0 (by omega)).2 (by simpa using he)).sound
      refine ⟨says [(10, false)], lps [(4, iSQ g h x y 0, .ret, iRQ)], false, [ToldIs (iSQ g h x y 0), ((x.length : Int) != (y.length : Int)) = false], by kernel_rfl, ⟨toldIs _, hl, trivial⟩, (decide_eq_false he).symm, fun body hb => ?_⟩
      refine LoopsFor.cons ?_ hs LoopsFor.nil
      obtain rfl := Option.some.inj hb
      kernel_rfl

theorem walkQ_ok : Computes A Try.prog 45 (fun x : Fq × Int × Unit => (⟨(bitsI (fqNum x.1)).take x.2.1.toNat⟩ : Iz)) := by
  refine computes_of_runT Try.func45 (by kernel_rfl) (by kernel_rfl) 4 ?_
  rintro _ ⟨a, most, ⟨⟩⟩ W -
  have ht : TblOK Try.prog [rowIn (A := A) Try.prog [rowOf A 62 (fun x : Fq × Unit => fqNum x.1), rowIn (A := A) Try.prog [] [] (fun _ _ => .keep) 4 52 Try.f52] [] (fun _ _ => .keep) 4 59 Try.f59] := .cons (rowIn_ok (.cons frNumber_ok.row (.cons (rowIn_ok (TblOK.nil _) (ITblOK.nil _) _ 4 Try.func52 (by kernel_rfl) (by kernel_rfl)) (.nil _))) (ITblOK.nil _) _ 4 Try.func59 (by kernel_rfl) (by kernel_rfl)) (.nil _)
  have hlen := gat_len most [] (bitsW (fqNum a) 6)
  have hlw : (bitsW (fqNum a) 6).length ≤ 384 := by rw [bitsW_all]; exact bitsI_len (fqNum a)
  have htk := gat_take most [] (bitsW (fqNum a) 6)
  rw [bitsW_all] at htk hlen hlw
  simp only [List.reverse_nil, List.nil_append, List.length_nil, Nat.sub_zero] at htk
  have hs := fun (c : Cfg A) (q1 : c.P = Try.prog) (q2 : c.gl = (fun _ => none)) (q3 : c.old = W.cell?) (q4 : c.ys = [ysQ a most]) => outQ_all a most W.cell? (k := c) q1 q2 q3 q4 6 [] (Nat.le_refl _) (by rw [bitsW_all]; simpa using hlw)
  rw [bitsW_all] at hs
  rw [← htk]
  clear htk
  revert hs hlen
  have hi : ∀ lp, ITblOK Try.prog [iterW (A := A) Try.prog tblBl [] (fun _ _ => .keep) lp 4 65 Try.f65] := fun lp => ITblOK.cons (iterW_ok (.cons len64_ok.row (.nil _)) (ITblOK.nil _) _ lp 4 Try.func65 (by kernel_rfl) (by kernel_rfl)) (ITblOK.nil _)
  cases gat most [] (bitsI (fqNum a)) with
  | mk R b =>
    intro hlen hs
    simp only [List.length_nil, Nat.zero_add] at hlen
    have hf : ∀ j, j < R.length → isI64 (FR R (0 + j)) = true := fun j hj => by rw [Nat.zero_add, FR_get R j hj]; rfl
    have hy : (List.range R.length).map (fun j => i64of (FR R (0 + j))) = R.reverse := by
      apply List.ext_getElem
      · simp
      · intro j h1 h2
        simp at h1
        simp only [List.getElem_map, List.getElem_range, Nat.zero_add]
        rw [FR_get R j h1, List.getD_eq_getElem?_getD, List.getElem?_eq_getElem h2]
        rfl
    have hy' : (⟨(List.range R.length).map fun j => i64of (FR R (0 + j))⟩ : Iz) = ⟨R.reverse⟩ := by rw [hy]
    cases b with
    | true =>
      have hs' : SoundFor Try.prog W.cell? [ysQ a most] (.loop (loopNo Try.f65 1)) (outSQ a most (FR []) 0 5) .ret (anySQ a most (FR R) R.length (some (.exit 0))) := fun c q1 q2 q3 q4 => (hs c q1 q2 q3 q4).sound
      refine ⟨_, _, ht, hi (lps [(1, outSQ a most (FR []) 0 5, .ret, anySQ a most (FR R) R.length (some (.exit 0)))]), orcQ, noLoop, ⟨(List.range R.length).map fun j => i64of (FR R (0 + j))⟩,
        [∀ j, j < R.length → isI64 (FR R (0 + j)) = true, ∀ body, Try.f65.body = some body → LoopsFor Try.prog W.cell? [ysQ a most] (lps [(1, outSQ a most (FR []) 0 5, .ret, anySQ a most (FR R) R.length (some (.exit 0)))]) body, ToldIs (outSQ a most (FR []) 0 5)], by kernel_rfl, ⟨hf, ?_, toldIs _, trivial⟩, hy', fun body _ => loopsFor_none⟩
      intro body hb
      refine LoopsFor.cons ?_ hs' LoopsFor.nil
      obtain rfl := Option.some.inj hb
      kernel_rfl
    | false =>
      have hs' : SoundFor Try.prog W.cell? [ysQ a most] (.loop (loopNo Try.f65 1)) (outSQ a most (FR []) 0 5) (.exit 0) (anySQ a most (FR R) R.length none) := fun c q1 q2 q3 q4 => (hs c q1 q2 q3 q4).sound
      refine ⟨_, _, ht, hi (lps [(1, outSQ a most (FR []) 0 5, .exit 0, anySQ a most (FR R) R.length none)]), orcQ, noLoop, ⟨(List.range R.length).map fun j => i64of (FR R (0 + j))⟩,
        [∀ j, j < R.length → isI64 (FR R (0 + j)) = true, ∀ body, Try.f65.body = some body → LoopsFor Try.prog W.cell? [ysQ a most] (lps [(1, outSQ a most (FR []) 0 5, .exit 0, anySQ a most (FR R) R.length none)]) body, ToldIs (outSQ a most (FR []) 0 5)], by kernel_rfl, ⟨hf, ?_, toldIs _, trivial⟩, hy', fun body _ => loopsFor_none⟩
      intro body hb
      refine LoopsFor.cons ?_ hs' LoopsFor.nil
      obtain rfl := Option.some.inj hb
      kernel_rfl
end Go.Proofs.Ytaloefkkllebeaa
