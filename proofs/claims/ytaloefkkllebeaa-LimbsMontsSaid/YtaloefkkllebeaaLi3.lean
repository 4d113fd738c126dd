/- limbs: what is left by a modulus, digit by digit. -/
import Derived.Test.YtaloefkkllebeaaLi2
set_option linter.unusedVariables false
set_option linter.unusedSimpArgs false
set_option linter.unusedSectionVars false
namespace Go.Proofs.Ytaloefkkllebeaa
open Go Go.Sh
/-- The code that binds what a loop over a function is handed. -/
def rangeA (fn : Func) (id : Nat) : Code := match fn.body with | some x => (match findNo id (loopsOf x) with | .rangeFunc _ _ x _ => x | y => y) | none => .skip
/-- Slots i .. i + n - 1: those of a list (in order), the others not yet set. -/
def slotsU {A : Type} : Nat → Nat → List (Nat × TV A) → List (TV A)
  | _, 0, _ => []
  | i, n + 1, l =>
    match l with
    | (j, v) :: r => match Nat.beq i j with | true => v :: slotsU (i + 1) n r | false => undefT :: slotsU (i + 1) n l
    | [] => undefT :: slotsU (i + 1) n []
/-- A shift's width. -/
def sOf (z : Int) : Nat := ((UInt64.ofNat (z % 18446744073709551616).toNat).toNat : Int).toNat
theorem sOf_nat (n : Nat) (h : n < 64) : sOf n = n := by
  unfold sOf
  have : ((n : Int) % 18446744073709551616).toNat = n := by omega
  rw [this, UInt64.toNat_ofNat_of_lt' (show n < 18446744073709551616 by omega)]
  rfl
/-- One more digit: the sum of a number and itself, and the digit. -/
def plusB (P : Num → Num → Num) (r : Num) (b : UInt64) : Num := numO (orW (numL (P r r)).1 b, (numL (P r r)).2.1, (numL (P r r)).2.2.1, (numL (P r r)).2.2.2.1, (numL (P r r)).2.2.2.2.1, (numL (P r r)).2.2.2.2.2)
def nextM (P : Num → Num → Num) (C : Num → Num → Bool) (D : Num → Num → Num) (B : Num → Num → Bool) (r m : Num) (b : UInt64) : Num :=
  if C r r = true then D (plusB P r b) m else if B (plusB P r b) m = true then plusB P r b else D (plusB P r b) m
theorem nextM_eq (r m : Num) (b : UInt64) (hb : b.toNat < 2) : nextM (fun a b => a + b) carryN (fun a b => a - b) (fun a b => decide (a < b)) r m b = nextN r m b := by
  obtain ⟨h1, h2⟩ := twiceL_val (numL r) b hb
  rw [val6_numL] at h1 h2
  have hs : (r + r).val = (r.val + r.val) % 39402006196394479212279040100143613805079739270465446667948293404245721771497210611414266254884915640806627990306816 := Fin.val_add r r
  have hr := r.isLt
  have hv := val6_numL (r + r)
  have hq : (plusB (fun a b => a + b) r b) = numO (twiceL (numL r) b) := by
    apply Fin.ext
    show val6 _ = val6 _
    rw [h1]
    have h0 := (numL (r + r)).1.toNat_lt
    have hev : (numL (r + r)).1.toNat % 2 = 0 := by
      simp only [val6] at hv
      omega
    have ho := orW_nat (numL (r + r)).1 b hb hev
    simp only [val6] at hv ⊢
    rw [ho]
    omega
  have hc : carryN r r = topB (numL r) := by
    rw [h2]
    unfold carryN
    congr 1
    apply propext
    constructor <;> intro h <;> omega
  unfold nextM nextN
  rw [hq, hc]
  simp only [decide_eq_true_eq]

section
variable (f : Nat → UInt64) (m r : Num) (P : Num → Num → Num) (C : Num → Num → Bool) (D : Num → Num → Num) (B : Num → Num → Bool)
noncomputable def tblM2 : List (Row A) :=
  [rowOf A 14 (fun x : Num × Num × Unit => T2.mk (P x.1 x.2.1) (Cy.mk (C x.1 x.2.1))), rowOf A 15 (fun x : Num × Num × Unit => T2.mk (D x.1 x.2.1) (Cy.mk (B x.1 x.2.1))), rowIn Try.prog [] [] (fun _ _ => .keep) 4 57 Try.f57]
def memM : Mem A :=
  [some ⟨[.a (.w64 12 f)], 31, false⟩, some ⟨[.a (.big (.num m))], 23, false⟩, some ⟨lit6, 23, false⟩, some ⟨[.a (.big (.num r))], 23, false⟩, some ⟨[.a (.w64 12 f)], 31, false⟩, none]
noncomputable def ysM : Ys A :=
  ⟨5, [17], rangeA Try.f21 5, rangeNo Try.f21 5, slotsU 0 44 [(0, .val true [.a (.w64 12 f)]), (1, .val true [.a (.big (.num m))]), (2, .val false [.p 0 0]), (3, .val false [.p 1 0]), (4, .val false [.p 2 0]), (5, .val false [.p 3 0]), (11, .val true [.a (.big (.num m))]), (12, .val true lit6), (13, .val false [.v (.bool false)]), (15, .val true [.a (.w64 12 f)]), (16, .val false [.f 67 [(4, 0)]])]⟩
def digT (i z : Int) : List (TV A) := slots 0 33 [(0, .val false [.y 5]), (1, .val false [.p 4 0]), (3, .val false [.n .i64 i]), (4, .val false [.n .i64 z])]
def digO (i : Int) : List (TV A) := slots 0 33 [(0, .val false [.y 5]), (1, .val false [.p 4 0]), (3, .val false [.n .i64 i])]
def inSM (i z : Int) : St A := ⟨digT i z, memM f m r, 0, [], [none]⟩
def outSM (i : Int) : St A := ⟨digO i, memM f m r, 0, [], [none]⟩
end
theorem yfM (old : Addr → Option Value) (f : Nat → UInt64) (m : Num) (P : Num → Num → Num) (C : Num → Num → Bool) (D : Num → Num → Num) (B : Num → Num → Bool) (ht : TblOK Try.prog (tblM2 P C D B)) (o : Nat → Nat → Dec) :
    YFOK Try.prog old [ysM f m] (pushY (exec (cfg Try.prog (tblM2 P C D B) o old) 8 (ysM f m).assign) (exec (cfg Try.prog (tblM2 P C D B) o old) 8 (ysM f m).body) (ysM f m) noYield) :=
  YFOK.push (cfgOK0 ht (ITblOK.nil _) o old noLoop) 8 (ysM f m) (loopsOK_none _ _ _ _ _ _ _ _) (loopsOK_none _ _ _ _ _ _ _ _)
/-- A digit's round. -/
theorem dig_round (old : Addr → Option Value) (f : Nat → UInt64) (m r : Num) (P : Num → Num → Num) (C : Num → Num → Bool) (D : Num → Num → Num) (B : Num → Num → Bool) (ht : TblOK Try.prog (tblM2 P C D B)) (i z : Int)
    (w1 : WrapI (z - 1)) (w2 : (0 : Int) ≤ ((UInt64.ofNat (z % 18446744073709551616).toNat).toNat : Int)) (w3 : Idx i 12) (w4 : decide (z ≥ 0) = true)
    {c : Cfg A} (e1 : c.P = Try.prog) (e2 : c.gl = (fun _ => none)) (e3 : c.old = old) (e4 : c.ys = [ysM f m]) :
    Round c (loopNo Try.f67 6) (inSM f m r i z) .normal (inSM f m (nextM P C D B r m (bitW (f i.toNat) (sOf z))) i (z - 1)) := by
  unfold nextM
  cases h1 : C r r with
  | true =>
    rw [if_pos rfl]
    exact Round.of (TblOK.nil _) (ITblOK.nil _) (says [(20, true), (32, false)]) noLoop (yfM old f m P C D B ht (says [(36, true)])) 8 [WrapI (z - 1), ((cond (C r r) 1 0 : Int) == 1) = true, (0 : Int) ≤ ((UInt64.ofNat (z % 18446744073709551616).toNat).toNat : Int), Idx i 12, decide (z ≥ 0) = true] loopsFor_none (by kernel_rfl) ⟨w1, by rw [h1]; rfl, w2, w3, w4, trivial⟩ (by kernel_rfl) (by kernel_rfl) e1 e2 e3 e4
  | false =>
    rw [if_neg (by simp)]
    cases h2 : B (plusB P r (bitW (f i.toNat) (sOf z))) m with
    | true =>
      rw [if_pos rfl]
      exact Round.of (TblOK.nil _) (ITblOK.nil _) (says [(20, true), (32, false)]) noLoop (yfM old f m P C D B ht (says [(36, false), (39, false)])) 8 [WrapI (z - 1), ((cond (B (plusB P r (bitW (f i.toNat) (sOf z))) m) 1 0 : Int) == 0) = false, ((cond (C r r) 1 0 : Int) == 1) = false, (0 : Int) ≤ ((UInt64.ofNat (z % 18446744073709551616).toNat).toNat : Int), Idx i 12, decide (z ≥ 0) = true] loopsFor_none (by kernel_rfl) ⟨w1, by rw [h2]; rfl, by rw [h1]; rfl, w2, w3, w4, trivial⟩ (by kernel_rfl) (by kernel_rfl) e1 e2 e3 e4
    | false =>
      rw [if_neg (by simp)]
      exact Round.of (TblOK.nil _) (ITblOK.nil _) (says [(20, true), (32, false)]) noLoop (yfM old f m P C D B ht (says [(36, false), (39, true)])) 8 [WrapI (z - 1), ((cond (B (plusB P r (bitW (f i.toNat) (sOf z))) m) 1 0 : Int) == 0) = true, ((cond (C r r) 1 0 : Int) == 1) = false, (0 : Int) ≤ ((UInt64.ofNat (z % 18446744073709551616).toNat).toNat : Int), Idx i 12, decide (z ≥ 0) = true] loopsFor_none (by kernel_rfl) ⟨w1, by rw [h2]; rfl, by rw [h1]; rfl, w2, w3, w4, trivial⟩ (by kernel_rfl) (by kernel_rfl) e1 e2 e3 e4

abbrev addF : Num → Num → Num := fun a b => a + b
abbrev subF : Num → Num → Num := fun a b => a - b
abbrev ltF : Num → Num → Bool := fun a b => decide (a < b)
theorem dig_loop (old : Addr → Option Value) (t : R64 12) (m : Num) (hm : m.val ≠ 0) (ht : TblOK Try.prog (tblM2 addF carryN subF ltF)) (i : Nat) (hi : i < 12) :
    SoundFor Try.prog old [ysM t.f m] (.loop (loopNo Try.f67 6)) (inSM t.f m (leftN t m (64 * (11 - i))) i 63) (.exit 4) (inSM t.f m (leftN t m (64 * (11 - i) + 64)) i (-1)) := by
  have h : SoundFor Try.prog old [ysM t.f m] (.loop (loopNo Try.f67 6)) (inSM t.f m (leftN t m (64 * (11 - i) + 0)) i (63 - ((0 : Nat) : Int))) (.exit 4) (inSM t.f m (leftN t m (64 * (11 - i) + 64)) i (63 - ((64 : Nat) : Int))) := by
    intro c e1 e2 e3 e4
    refine loopAt (inv := fun j => inSM t.f m (leftN t m (64 * (11 - i) + j)) i (63 - (j : Int))) (N := 64) (by simp) (fun j hj => ?_) ?_
    · have hz : (63 : Int) - ((j + 1 : Nat) : Int) = 63 - (j : Int) - 1 := by omega
      rw [hz]
      have hb : (bitW (t.f (i : Int).toNat) (sOf (63 - (j : Int)))).toNat = v12 t / 2 ^ (767 - (64 * (11 - i) + j)) % 2 := by
        have e : (63 : Int) - (j : Int) = ((63 - j : Nat) : Int) := by omega
        rw [e, sOf_nat _ (by omega)]
        have h1 := v12_bit t (767 - (64 * (11 - i) + j)) (by omega)
        rw [show (767 - (64 * (11 - i) + j)) / 64 = i by omega, show (767 - (64 * (11 - i) + j)) % 64 = 63 - j by omega] at h1
        exact h1
      have hn := leftN_succ t m hm (64 * (11 - i) + j) (by omega) _ hb
      rw [← nextM_eq _ _ _ (by rw [hb]; omega)] at hn
      rw [show 64 * (11 - i) + (j + 1) = 64 * (11 - i) + j + 1 by omega, ← hn]
      exact dig_round old t.f m _ addF carryN subF ltF ht i (63 - (j : Int)) (wrapI (by omega) (by omega)) (by omega) ⟨by omega, by omega⟩ (decide_eq_true (by omega)) e1 e2 e3 e4
    · generalize leftN t m (64 * (11 - i) + 64) = r
      exact Round.of (TblOK.nil _) (ITblOK.nil _) (says [(20, false)]) noLoop (yfM old t.f m addF carryN subF ltF ht (fun _ _ => .keep)) 4 [decide ((63 : Int) - ((64 : Nat) : Int) ≥ 0) = false] loopsFor_none (by kernel_rfl) ⟨by decide, trivial⟩ (by kernel_rfl) (by kernel_rfl) e1 e2 e3 e4
  exact h
theorem words_loop (old : Addr → Option Value) (t : R64 12) (m : Num) (hm : m.val ≠ 0) (ht : TblOK Try.prog (tblM2 addF carryN subF ltF)) (N : Nat) (hN : N ≤ 11) :
    SoundFor Try.prog old [ysM t.f m] (.loop (loopNo Try.f67 3)) (outSM t.f m (leftN t m (64 * N)) (11 - (N : Int))) (.exit 2) (outSM t.f m (leftN t m 768) (-1)) := by
  have h : SoundFor Try.prog old [ysM t.f m] (.loop (loopNo Try.f67 3)) (outSM t.f m (leftN t m (64 * (N + 0))) (11 - ((N + 0 : Nat) : Int))) (.exit 2) (outSM t.f m (leftN t m (64 * (N + (12 - N)))) (11 - ((N + (12 - N) : Nat) : Int))) := by
    intro c e1 e2 e3 e4
    refine loopAt (inv := fun k => outSM t.f m (leftN t m (64 * (N + k))) (11 - ((N + k : Nat) : Int))) (N := 12 - N) (by simp) (fun k hk => ?_) ?_
    · have hin := dig_loop old t m hm ht (11 - (N + k)) (by omega)
      rw [show 11 - (11 - (N + k)) = N + k by omega, show 64 * (N + k) + 64 = 64 * (N + (k + 1)) by omega, show ((11 - (N + k) : Nat) : Int) = 11 - ((N + k : Nat) : Int) by omega] at hin
      have hz : (11 : Int) - ((N + (k + 1) : Nat) : Int) = 11 - ((N + k : Nat) : Int) - 1 := by omega
      rw [hz]
      have w1 : WrapI ((11 : Int) - ((N + k : Nat) : Int) - 1) := wrapI (by omega) (by omega)
      have w2 : decide ((11 : Int) - ((N + k : Nat) : Int) ≥ 0) = true := decide_eq_true (by omega)
      revert hin w1 w2
      generalize (11 : Int) - ((N + k : Nat) : Int) = i
      generalize leftN t m (64 * (N + k)) = r
      generalize leftN t m (64 * (N + (k + 1))) = r'
      intro hin w1 w2
      refine Round.of (TblOK.nil _) (ITblOK.nil _) (says [(16, true)]) (lps [(6, inSM t.f m r i 63, .exit 4, inSM t.f m r' i (-1))]) (yfM old t.f m addF carryN subF ltF ht (fun _ _ => .keep)) 4 [WrapI (i - 1), ToldIs (inSM t.f m r i 63), decide (i ≥ 0) = true] (LoopsFor.cons ?_ hin LoopsFor.nil) (by kernel_rfl) ⟨w1, toldIs _, w2, trivial⟩ (by kernel_rfl) (by kernel_rfl) e1 e2 e3 e4
      kernel_rfl
    · have hz : (11 : Int) - ((N + (12 - N) : Nat) : Int) = -1 := by omega
      rw [hz]
      generalize leftN t m (64 * (N + (12 - N))) = r
      exact Round.of (TblOK.nil _) (ITblOK.nil _) (says [(16, false)]) noLoop (yfM old t.f m addF carryN subF ltF ht (fun _ _ => .keep)) 4 [decide ((-1 : Int) ≥ 0) = false] loopsFor_none (by kernel_rfl) ⟨by decide, trivial⟩ (by kernel_rfl) (by kernel_rfl) e1 e2 e3 e4
  rw [show 64 * (N + (12 - N)) = 768 by omega, show (11 : Int) - ((N + (12 - N) : Nat) : Int) = -1 by omega] at h
  exact h
/-- How many words from the highest on are 0. -/
theorem zeros_top (f : Nat → UInt64) : ∀ K, K ≤ 11 → ∃ N, N ≤ K ∧ (∀ j, j < N → (f (11 - j)).toNat = 0) ∧ (N = K ∨ (f (11 - N)).toNat ≠ 0)
  | 0, _ => ⟨0, Nat.le_refl _, fun j hj => by omega, .inl rfl⟩
  | K + 1, h => by
    obtain ⟨N, h1, h2, h3⟩ := zeros_top f K (by omega)
    rcases h3 with rfl | h3
    · by_cases h4 : (f (11 - N)).toNat = 0
      · refine ⟨N + 1, Nat.le_refl _, fun j hj => ?_, .inl rfl⟩
        by_cases e : j = N
        · rw [e]; exact h4
        · exact h2 j (by omega)
      · exact ⟨N, by omega, h2, .inr h4⟩
    · exact ⟨N, by omega, h2, .inr h3⟩
theorem v12_top (t : R64 12) : ∀ N, N ≤ 11 → (∀ j, j < N → (t.f (11 - j)).toNat = 0) → v12 t < 18446744073709551616 ^ (12 - N)
  | 0, _, _ => by
    have h := valW_lt t.list
    have e : t.list.length = 12 := by simp [R64.list]
    rw [e] at h
    exact h
  | N + 1, h, hz => by
    have ih := v12_top t N (by omega) (fun j hj => hz j (by omega))
    have h0 := hz N (by omega)
    rw [v12_word t (11 - N) (by omega)] at h0
    rw [show 12 - N = (11 - N) + 1 by omega, Nat.pow_succ] at ih
    rw [show 12 - (N + 1) = 11 - N by omega]
    have h1 : v12 t / 18446744073709551616 ^ (11 - N) < 18446744073709551616 := Nat.div_lt_of_lt_mul ih
    rw [Nat.mod_eq_of_lt h1] at h0
    have hp : 0 < (18446744073709551616 : Nat) ^ (11 - N) := Nat.pow_pos (by decide)
    rcases Nat.lt_or_ge (v12 t) (18446744073709551616 ^ (11 - N)) with h2 | h2
    · exact h2
    · have := Nat.div_pos h2 hp
      omega
theorem leftN_top (t : R64 12) (m : Num) (N : Nat) (hN : N ≤ 11) (hz : ∀ j, j < N → (t.f (11 - j)).toNat = 0) : leftN t m (64 * N) = 0 := by
  have h := v12_top t N hN hz
  apply Fin.ext
  have h0 := high_zero (v12 t) (12 - N) h
  rw [leftN_eq t m (64 * N) (64 * (12 - N)) (by omega)]
  generalize (2 : Nat) ^ (64 * (12 - N)) = Q at *
  rw [h0, Nat.zero_mod]
  rfl
theorem first_loop (old : Addr → Option Value) (f : Nat → UInt64) (m r : Num) (ht : TblOK Try.prog (tblM2 addF carryN subF ltF)) (N : Nat) (hN : N ≤ 11) (hz : ∀ j, j < N → (f (11 - j)).toNat = 0) (hl : N = 11 ∨ (f (11 - N)).toNat ≠ 0) :
    SoundFor Try.prog old [ysM f m] (.loop (loopNo Try.f67 1)) (outSM f m r 11) (.exit 0) (outSM f m r (11 - (N : Int))) := by
  have h : SoundFor Try.prog old [ysM f m] (.loop (loopNo Try.f67 1)) (outSM f m r (11 - ((0 : Nat) : Int))) (.exit 0) (outSM f m r (11 - (N : Int))) := by
    intro c e1 e2 e3 e4
    refine loopAt (inv := fun k => outSM f m r (11 - (k : Int))) (N := N) (by simp) (fun k hk => ?_) ?_
    · have hz' : (11 : Int) - ((k + 1 : Nat) : Int) = 11 - (k : Int) - 1 := by omega
      rw [hz']
      have w1 : WrapI ((11 : Int) - (k : Int) - 1) := wrapI (by omega) (by omega)
      have w2 : (((f ((11 : Int) - (k : Int)).toNat).toNat : Int) == 0) = true := by
        have h1 := hz k hk
        rw [show ((11 : Int) - (k : Int)).toNat = 11 - k by omega, h1]
        rfl
      have w3 : Idx ((11 : Int) - (k : Int)) 12 := ⟨by omega, by omega⟩
      have w4 : decide ((11 : Int) - (k : Int) > 0) = true := decide_eq_true (by omega)
      revert w1 w2 w3 w4
      generalize (11 : Int) - (k : Int) = i
      intro w1 w2 w3 w4
      exact Round.of (TblOK.nil _) (ITblOK.nil _) (says [(6, true), (11, true)]) noLoop (yfM old f m addF carryN subF ltF ht (fun _ _ => .keep)) 4 [WrapI (i - 1), (((f i.toNat).toNat : Int) == 0) = true, Idx i 12, decide (i > 0) = true] loopsFor_none (by kernel_rfl) ⟨w1, w2, w3, w4, trivial⟩ (by kernel_rfl) (by kernel_rfl) e1 e2 e3 e4
    · by_cases h0 : N = 11
      · subst h0
        exact Round.of (TblOK.nil _) (ITblOK.nil _) (says [(6, false)]) noLoop (yfM old f m addF carryN subF ltF ht (fun _ _ => .keep)) 4 [decide ((11 : Int) - ((11 : Nat) : Int) > 0) = false] loopsFor_none (by kernel_rfl) ⟨by decide, trivial⟩ (by kernel_rfl) (by kernel_rfl) e1 e2 e3 e4
      · have hne := hl.resolve_left h0
        have w2 : (((f ((11 : Int) - (N : Int)).toNat).toNat : Int) == 0) = false := by
          rw [show ((11 : Int) - (N : Int)).toNat = 11 - N by omega]
          exact beq_eq_false_iff_ne.2 (by omega)
        have w3 : Idx ((11 : Int) - (N : Int)) 12 := ⟨by omega, by omega⟩
        have w4 : decide ((11 : Int) - (N : Int) > 0) = true := decide_eq_true (by omega)
        revert w2 w3 w4
        generalize (11 : Int) - (N : Int) = i
        intro w2 w3 w4
        exact Round.of (TblOK.nil _) (ITblOK.nil _) (says [(6, true), (11, false)]) noLoop (yfM old f m addF carryN subF ltF ht (fun _ _ => .keep)) 4 [(((f i.toNat).toNat : Int) == 0) = false, Idx i 12, decide (i > 0) = true] loopsFor_none (by kernel_rfl) ⟨w2, w3, w4, trivial⟩ (by kernel_rfl) (by kernel_rfl) e1 e2 e3 e4
  exact h
theorem limbsMod_ok : Computes A Try.prog 21 (fun x : R64 12 × Num × Unit => modN x.1 x.2.1) := by
  have ht : TblOK Try.prog (tblM2 addF carryN subF ltF) := .cons limbsAdd_ok.row (.cons limbsSub_ok.row (.cons (rowIn_ok (TblOK.nil _) (ITblOK.nil _) _ 4 Try.func57 (by kernel_rfl) (by kernel_rfl)) (.nil _)))
  refine computes_of_runT Try.func21 (by kernel_rfl) (by kernel_rfl) 8 ?_
  rintro ⟨⟩ ⟨t, m, ⟨⟩⟩ W -
  have hi := isNo_eq m
  by_cases hm : m.val = 0
  · rw [decide_eq_true hm] at hi
    refine ⟨_, [], ht, ITblOK.nil _, says [(13, true)], noLoop, 0, [isNo m = true], by kernel_rfl, ⟨hi, trivial⟩, ?_, fun body _ => loopsFor_none⟩
    show (0 : Num) = modN t m
    unfold modN
    rw [if_pos hm]
  · rw [decide_eq_false hm] at hi
    obtain ⟨N, hN, hz, hl⟩ := zeros_top t.f 11 (by omega)
    have h1 := first_loop W.cell? t.f m (leftN t m (64 * N)) ht N hN hz hl
    have h2 := words_loop W.cell? t m hm ht N hN
    rw [leftN_top t m N hN hz] at h1 h2
    have hv : modN t m = leftN t m 768 := by unfold modN; rw [if_neg hm]
    show ∃ tbl its, _ ∧ _ ∧ ∃ orc lp y vc, _ ∧ All vc ∧ y = modN t m ∧ _
    rw [hv]
    revert h1 h2
    generalize leftN t m 768 = r
    generalize (11 : Int) - (N : Int) = i
    obtain ⟨f⟩ := t
    intro h1 h2
    refine ⟨tblM2 addF carryN subF ltF, [iterW Try.prog [] [] (fun _ _ => .keep) (lps [(1, outSM f m 0 11, .exit 0, outSM f m 0 i), (3, outSM f m 0 i, .exit 2, outSM f m r (-1))]) 4 67 Try.f67], ht, ITblOK.cons (iterW_ok (TblOK.nil _) (ITblOK.nil _) _ _ 4 Try.func67 (by kernel_rfl) (by kernel_rfl)) (ITblOK.nil _),
      says [(13, false)], noLoop, r, [∀ body, Try.f67.body = some body → LoopsFor Try.prog W.cell? [ysM f m] (lps [(1, outSM f m 0 11, .exit 0, outSM f m 0 i), (3, outSM f m 0 i, .exit 2, outSM f m r (-1))]) body, ToldIs (outSM f m 0 i), ToldIs (outSM f m 0 11), isNo m = false], by kernel_rfl, ⟨?_, toldIs _, toldIs _, hi, trivial⟩, rfl, fun body _ => loopsFor_none⟩
    intro body hb
    obtain rfl := Option.some.inj hb
    refine LoopsFor.cons ?_ h1 (LoopsFor.cons ?_ h2 LoopsFor.nil)
    · kernel_rfl
    · kernel_rfl
end Go.Proofs.Ytaloefkkllebeaa
