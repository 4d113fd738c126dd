/- Powers of elements, over the bits of bytes. -/
import Derived.Test.YtbdbmcdcjejffaaGc2
set_option linter.unusedVariables false
set_option linter.unusedSimpArgs false
set_option linter.unusedSectionVars false
namespace Go.Proofs.Ytbdbmcdcjejffaa
open Go Go.Sh

/-- The code that binds what a loop over a function is handed. -/
def rangeA (fn : Func) (id : Nat) : Code := match fn.body with | some x => (match findNo id (loopsOf x) with | .rangeFunc _ _ x _ => x | y => y) | none => .skip
/-- A byte's bit, as it is taken. -/
def bitx (x : UInt8) (z : Int) : Bool :=
  ((UInt8.ofNat (((BitVec.ofInt IntKind.u8.bits ((UInt8.ofNat (x.toNat / 2 ^ min ((UInt64.ofNat (z % 18446744073709551616).toNat).toNat : Int).toNat IntKind.u8.bits)).toNat : Int) &&& BitVec.ofInt IntKind.u8.bits 1).toNat : Int) % 256).toNat).toNat : Int) == 1
/-- Bit k, the highest first. -/
def bitC (l : List UInt8) (k : Nat) : Bool := bitx (l.getD (k / 8) 0) (7 - ((k % 8 : Nat) : Int))
def rpG {X : Type} (O : X) (Q : X → X) (M : X → X → X) (l : List UInt8) (a : X) : Nat → X
  | 0 => O
  | k + 1 => match bitC l k with | true => M (Q (rpG O Q M l a k)) a | false => Q (rpG O Q M l a k)
/-- Slots i .. i + n - 1: those of a list (in order), the others not yet set. -/
def slotsU {A : Type} : Nat → Nat → List (Nat × TV A) → List (TV A)
  | _, 0, _ => []
  | i, n + 1, l =>
    match l with
    | (j, v) :: r => match Nat.beq i j with | true => v :: slotsU (i + 1) n r | false => undefT :: slotsU (i + 1) n l
    | [] => undefT :: slotsU (i + 1) n []
/-- The slots of the bits' function: at the bytes' loop, at the bits' loop. -/
def outT (g : Spot) (l : List UInt8) (k : Nat) : List (TV A) := slots 0 26 [(0, .val false [.y 4]), (1, .val false [.p 3 0]), (6, .val false [.e g.a (byteAt l) 0 l.length g.c]), (7, .val false [.n .i64 l.length]), (8, .val false [.n .i64 k])]
def inT (g : Spot) (l : List UInt8) (k : Nat) (x : UInt8) (z : Int) : List (TV A) := slots 0 26 [(0, .val false [.y 4]), (1, .val false [.p 3 0]), (4, .val false [.a (.u8 x)]), (5, .val false [.n .i64 z]), (6, .val false [.e g.a (byteAt l) 0 l.length g.c]), (7, .val false [.n .i64 l.length]), (8, .val false [.n .i64 k])]

/-- A byte's bit is the digit of its number. -/
theorem bitC_eq (l : List UInt8) (k : Nat) : bitC l k = bitB l k := by
  have h : (7 : Int) - ((k % 8 : Nat) : Int) = ((7 - k % 8 : Nat) : Int) := by omega
  have h2 : (((UInt64.ofNat (((7 - k % 8 : Nat) : Int) % 18446744073709551616).toNat).toNat : Int)).toNat = 7 - k % 8 := by
    have : (((7 - k % 8 : Nat) : Int) % 18446744073709551616).toNat = 7 - k % 8 := by omega
    rw [this]
    simp
    omega
  have h3 : ((7 : Int) - (k : Int).tmod 8).toNat = 7 - k % 8 := by
    have : (k : Int).tmod 8 = ((k % 8 : Nat) : Int) := rfl
    rw [this]; omega
  have h4 : ((k : Int).tdiv 8).toNat = k / 8 := rfl
  unfold bitC bitx bitB
  rw [h, h2, h3, h4]

/-- Powers, of whatever kind. -/
def gpow {X : Type} (O : X) (M : X → X → X) (a : X) : Nat → X
  | 0 => O
  | n + 1 => M (gpow O M a n) a
section
variable {X : Type} {O : X} {M : X → X → X} (hO : ∀ x, M O x = x) (hO' : ∀ x, M x O = x) (hA : ∀ x y z, M (M x y) z = M x (M y z))
include hO' hA in
theorem gpow_add (a : X) (m : Nat) : ∀ n, gpow O M a (m + n) = M (gpow O M a m) (gpow O M a n)
  | 0 => (hO' _).symm
  | n + 1 => by
    show M (gpow O M a (m + n)) a = M (gpow O M a m) (M (gpow O M a n) a)
    rw [gpow_add a m n, hA]
include hO' hA in
theorem rpG_eq {Q : X → X} (hQ : ∀ x, Q x = M x x) (l : List UInt8) (a : X) : ∀ k, k ≤ 8 * l.length → rpG O Q M l a k = gpow O M a (numB l / 2 ^ (8 * l.length - k))
  | 0, _ => by
    have h := numB_cons_le l
    rw [pow256] at h
    rw [Nat.sub_zero, Nat.div_eq_of_lt h]; rfl
  | k + 1, hk => by
    have ih := rpG_eq hQ l a k (by omega)
    rw [numB_bit l (by omega), ← bitC_eq]
    cases hb : bitC l k with
    | true =>
      simp only [rpG, hb, cond_true, hQ]
      rw [ih, Nat.two_mul]
      show _ = M (gpow O M a (numB l / 2 ^ (8 * l.length - k) + numB l / 2 ^ (8 * l.length - k))) a
      rw [gpow_add hO' hA]
    | false =>
      simp only [rpG, hb, cond_false, hQ]
      rw [ih, Nat.two_mul, Nat.add_zero, gpow_add hO' hA]
include hO' hA in
theorem rpG_all {Q : X → X} (hQ : ∀ x, Q x = M x x) (l : List UInt8) (a : X) : rpG O Q M l a (8 * l.length) = gpow O M a (numB l) := by
  rw [rpG_eq hO' hA hQ l a _ (Nat.le_refl _), Nat.sub_self, Nat.pow_zero, Nat.div_one]
end


section
variable (g : Spot) (l : List UInt8) (a o r : Fp) (Q : Fp → Fp) (M : Fp → Fp → Fp)
noncomputable def tblP1 : List (Row A) :=
  [rowOf A 163 (fun _ : Unit => o), rowOf A 47 (fun x : Fp × Unit => Q x.1), rowOf A 45 (fun x : Fp × Fp × Unit => M x.1 x.2.1), rowIn Try.prog [] [] (fun _ _ => .keep) 4 165 Try.f165]
/-- The memory of Pow while bits come; its loop. -/
def memP1 : Mem A :=
  [some ⟨Rep.shw (A := A) a, 28, false⟩, some ⟨lit6, 28, false⟩, some ⟨Rep.shw (A := A) r, 28, false⟩, some ⟨[.e g.a (byteAt l) 0 l.length g.c], 22, false⟩, none]
noncomputable def ysP1 : Ys A :=
  ⟨4, [10], rangeA Try.f62 3, rangeNo Try.f62 3, slotsU 0 18 [(0, Rep.tv (A := A) a), (1, .val false [.e g.a (byteAt l) 0 l.length g.c]), (2, .val false [.p 0 0]), (4, .val false [.p 1 0]), (5, .val false [.p 2 0]), (7, Rep.tv (A := A) o), (8, .val false [.e g.a (byteAt l) 0 l.length g.c]), (9, .val false [.f 186 [(3, 0)]])]⟩
def inSP1 (k : Nat) (x : UInt8) (z : Int) : St A := ⟨inT g l k x z, memP1 g l a r, 0, [], [none]⟩
def outSP1 (k : Nat) : St A := ⟨outT g l k, memP1 g l a r, 0, [], [none]⟩
end
theorem yfP1 (old : Addr → Option Value) (g : Spot) (l : List UInt8) (a o : Fp) (Q : Fp → Fp) (M : Fp → Fp → Fp) (ht : TblOK Try.prog (tblP1 o Q M)) (b : Bool) :
    YFOK Try.prog old [ysP1 g l a o] (pushY (exec (cfg Try.prog (tblP1 o Q M) (says [(13, b)]) old) 4 (ysP1 g l a o).assign) (exec (cfg Try.prog (tblP1 o Q M) (says [(13, b)]) old) 4 (ysP1 g l a o).body) (ysP1 g l a o) noYield) :=
  YFOK.push (cfgOK0 ht (ITblOK.nil _) (says [(13, b)]) old noLoop) 4 (ysP1 g l a o) (loopsOK_none _ _ _ _ _ _ _ _) (loopsOK_none _ _ _ _ _ _ _ _)
theorem inP1_ok (old : Addr → Option Value) (g : Spot) (l : List UInt8) (a o : Fp) (Q : Fp → Fp) (M : Fp → Fp → Fp) (ht : TblOK Try.prog (tblP1 o Q M)) (i : Nat) :
    SoundFor Try.prog old [ysP1 g l a o] (.loop (loopNo Try.f186 4)) (inSP1 g l a (rpG o Q M l a (8 * i)) i (l.getD i 0) 7) (.exit 2) (inSP1 g l a (rpG o Q M l a (8 * i + 8)) i (l.getD i 0) (-1)) := by
  have h : SoundFor Try.prog old [ysP1 g l a o] (.loop (loopNo Try.f186 4)) (inSP1 g l a (rpG o Q M l a (8 * i + 0)) i (l.getD i 0) (7 - ((0 : Nat) : Int))) (.exit 2) (inSP1 g l a (rpG o Q M l a (8 * i + 8)) i (l.getD i 0) (7 - ((8 : Nat) : Int))) := by
    intro c e1 e2 e3 e4
    refine loopAt (inv := fun j => inSP1 g l a (rpG o Q M l a (8 * i + j)) i (l.getD i 0) (7 - (j : Int))) (N := 8) (by simp) (fun j hj => ?_) ?_
    · have hz : (7 : Int) - ((j + 1 : Nat) : Int) = 7 - (j : Int) - 1 := by omega
      have hb : bitC l (8 * i + j) = bitx (l.getD i 0) (7 - (j : Int)) := by
        unfold bitC
        rw [show (8 * i + j) / 8 = i by omega, show (8 * i + j) % 8 = j by omega]
      have hr1 : rpG o Q M l a (8 * i + (j + 1)) = (match bitx (l.getD i 0) (7 - (j : Int)) with | true => M (Q (rpG o Q M l a (8 * i + j))) a | false => Q (rpG o Q M l a (8 * i + j))) := by rw [← hb]; rfl
      rw [hr1, hz]
      have h1 : (7 : Int) - j ≥ 0 := by omega
      have h2 : WrapI ((7 : Int) - j - 1) := wrapI (by omega) (by omega)
      revert h1 h2
      generalize (7 : Int) - j = z
      generalize rpG o Q M l a (8 * i + j) = r
      generalize l.getD i 0 = x
      intro h1 h2
      have h3 : (0 : Int) ≤ ((UInt64.ofNat (z % 18446744073709551616).toNat).toNat : Int) := by omega
      cases h4 : bitx x z with
      | true => exact Round.of (TblOK.nil _) (ITblOK.nil _) (says [(13, true), (24, false)]) noLoop (yfP1 old g l a o Q M ht true) 4 [WrapI (z - 1), bitx x z = true, (0 : Int) ≤ ((UInt64.ofNat (z % 18446744073709551616).toNat).toNat : Int), decide (z ≥ 0) = true] loopsFor_none (by kernel_rfl) ⟨h2, h4, h3, decide_eq_true h1, trivial⟩ (by kernel_rfl) (by kernel_rfl) e1 e2 e3 e4
      | false => exact Round.of (TblOK.nil _) (ITblOK.nil _) (says [(13, true), (24, false)]) noLoop (yfP1 old g l a o Q M ht false) 4 [WrapI (z - 1), bitx x z = false, (0 : Int) ≤ ((UInt64.ofNat (z % 18446744073709551616).toNat).toNat : Int), decide (z ≥ 0) = true] loopsFor_none (by kernel_rfl) ⟨h2, h4, h3, decide_eq_true h1, trivial⟩ (by kernel_rfl) (by kernel_rfl) e1 e2 e3 e4
    · generalize rpG o Q M l a (8 * i + 8) = r
      generalize l.getD i 0 = x
      exact Round.of (TblOK.nil _) (ITblOK.nil _) (says [(13, false)]) noLoop (yfP1 old g l a o Q M ht false) 4 [decide ((7 : Int) - ((8 : Nat) : Int) ≥ 0) = false] loopsFor_none (by kernel_rfl) ⟨by decide, trivial⟩ (by kernel_rfl) (by kernel_rfl) e1 e2 e3 e4
  exact h
theorem outP1_ok (W : World) (g : Spot) (l : List UInt8) (hg : HasBytes W l g) (hl : l.length < 1048576) (a o : Fp) (Q : Fp → Fp) (M : Fp → Fp → Fp) (ht : TblOK Try.prog (tblP1 o Q M)) :
    SoundFor Try.prog W.cell? [ysP1 g l a o] (.loop (loopNo Try.f186 1)) (outSP1 g l a o 0) (.exit 0) (outSP1 g l a (rpG o Q M l a (8 * l.length)) l.length) := by
  intro c e1 e2 e3 e4
  refine loopAt (inv := fun k => outSP1 g l a (rpG o Q M l a (8 * k)) k) (N := l.length) (by simp) (fun k hk => ?_) ?_
  · have hin := inP1_ok W.cell? g l a o Q M ht k
    rw [show 8 * (k + 1) = 8 * k + 8 by omega]
    have hw : WrapI ((k : Int) + 1) := wrapI (by omega) (by omega)
    have hrd : Reads W.cell? g.a (byteAt (B := FB) l) (k : Int).toNat 1 := reads_bytes hg (by omega)
    have hix : Idx (k : Int) l.length := ⟨by omega, by omega⟩
    have hlt : decide ((k : Int) < (l.length : Int)) = true := decide_eq_true (by omega)
    revert hin
    generalize rpG o Q M l a (8 * k) = r
    generalize rpG o Q M l a (8 * k + 8) = r'
    intro hin
    refine Round.of (TblOK.nil _) (ITblOK.nil _) (says [(9, true)]) (lps [(4, inSP1 g l a r k (l.getD k 0) 7, .exit 2, inSP1 g l a r' k (l.getD k 0) (-1))]) (yfP1 W.cell? g l a o Q M ht false) 4 [WrapI ((k : Int) + 1), ToldIs (inSP1 g l a r k (l.getD k 0) 7), Reads W.cell? g.a (byteAt (B := FB) l) (k : Int).toNat 1, Idx (k : Int) l.length, decide ((k : Int) < (l.length : Int)) = true] (LoopsFor.cons ?_ hin LoopsFor.nil) (by kernel_rfl) ⟨hw, toldIs _, hrd, hix, hlt, trivial⟩ (by kernel_rfl) (by kernel_rfl) e1 e2 e3 e4
    kernel_rfl
  · generalize rpG o Q M l a (8 * l.length) = r
    exact Round.of (TblOK.nil _) (ITblOK.nil _) (says [(9, false)]) noLoop (yfP1 W.cell? g l a o Q M ht false) 4 [decide ((l.length : Int) < (l.length : Int)) = false] loopsFor_none (by kernel_rfl) ⟨decide_eq_false (by omega), trivial⟩ (by kernel_rfl) (by kernel_rfl) e1 e2 e3 e4
theorem powP1_of (o : Fp) (Q : Fp → Fp) (M : Fp → Fp → Fp) (ht : TblOK Try.prog (tblP1 o Q M)) :
    Computes A Try.prog 62 (fun x : Fp × Bt × Unit => rpG o Q M x.2.1.l x.1 (8 * x.2.1.l.length)) := by
  refine computes_of_runT Try.func62 (by kernel_rfl) (by kernel_rfl) 4 ?_
  rintro ⟨_, g, _⟩ ⟨a, ⟨l⟩, ⟨⟩⟩ W ⟨_, ⟨hg, hl⟩, _⟩
  have hs := outP1_ok W g l hg hl a o Q M ht
  obtain ⟨r, hr⟩ : ∃ r, r = rpG o Q M l a (8 * l.length) := ⟨_, rfl⟩
  obtain ⟨n, hn⟩ : ∃ n, n = l.length := ⟨_, rfl⟩
  simp only [← hr]
  rw [← hr] at hs
  refine ⟨tblP1 o Q M, [iterW Try.prog [] [] (fun _ _ => .keep) (lps [(1, outSP1 g l a o 0, .exit 0, outSP1 g l a r l.length)]) 4 186 Try.f186], ht, ITblOK.cons (iterW_ok (TblOK.nil _) (ITblOK.nil _) _ _ 4 Try.func186 (by kernel_rfl) (by kernel_rfl)) (ITblOK.nil _),
    fun _ _ => .keep, noLoop, r, [∀ body, Try.f186.body = some body → LoopsFor Try.prog W.cell? [ysP1 g l a o] (lps [(1, outSP1 g l a o 0, .exit 0, outSP1 g l a r l.length)]) body, ToldIs (outSP1 g l a o 0)], by kernel_rfl, ⟨?_, toldIs _, trivial⟩, rfl, fun body _ => loopsFor_none⟩
  intro body hb
  refine LoopsFor.cons ?_ hs LoopsFor.nil
  obtain rfl := Option.some.inj hb
  kernel_rfl


section
variable (g : Spot) (l : List UInt8) (a o r : F2) (Q : F2 → F2) (M : F2 → F2 → F2)
noncomputable def tblP2 : List (Row A) :=
  [rowOf A 137 (fun _ : Unit => o), rowOf A 125 (fun x : F2 × Unit => Q x.1), rowOf A 111 (fun x : F2 × F2 × Unit => M x.1 x.2.1), rowIn Try.prog [] [] (fun _ _ => .keep) 4 165 Try.f165]
/-- The memory of Pow while bits come; its loop. -/
def memP2 : Mem A :=
  [some ⟨Rep.shw (A := A) a, 64, false⟩, some ⟨(lit6 ++ lit6), 64, false⟩, some ⟨Rep.shw (A := A) r, 64, false⟩, some ⟨[.e g.a (byteAt l) 0 l.length g.c], 22, false⟩, none]
noncomputable def ysP2 : Ys A :=
  ⟨4, [10], rangeA Try.f138 3, rangeNo Try.f138 3, slotsU 0 18 [(0, Rep.tv (A := A) a), (1, .val false [.e g.a (byteAt l) 0 l.length g.c]), (2, .val false [.p 0 0]), (4, .val false [.p 1 0]), (5, .val false [.p 2 0]), (7, Rep.tv (A := A) o), (8, .val false [.e g.a (byteAt l) 0 l.length g.c]), (9, .val false [.f 186 [(3, 0)]])]⟩
def inSP2 (k : Nat) (x : UInt8) (z : Int) : St A := ⟨inT g l k x z, memP2 g l a r, 0, [], [none]⟩
def outSP2 (k : Nat) : St A := ⟨outT g l k, memP2 g l a r, 0, [], [none]⟩
end
theorem yfP2 (old : Addr → Option Value) (g : Spot) (l : List UInt8) (a o : F2) (Q : F2 → F2) (M : F2 → F2 → F2) (ht : TblOK Try.prog (tblP2 o Q M)) (b : Bool) :
    YFOK Try.prog old [ysP2 g l a o] (pushY (exec (cfg Try.prog (tblP2 o Q M) (says [(13, b)]) old) 4 (ysP2 g l a o).assign) (exec (cfg Try.prog (tblP2 o Q M) (says [(13, b)]) old) 4 (ysP2 g l a o).body) (ysP2 g l a o) noYield) :=
  YFOK.push (cfgOK0 ht (ITblOK.nil _) (says [(13, b)]) old noLoop) 4 (ysP2 g l a o) (loopsOK_none _ _ _ _ _ _ _ _) (loopsOK_none _ _ _ _ _ _ _ _)
theorem inP2_ok (old : Addr → Option Value) (g : Spot) (l : List UInt8) (a o : F2) (Q : F2 → F2) (M : F2 → F2 → F2) (ht : TblOK Try.prog (tblP2 o Q M)) (i : Nat) :
    SoundFor Try.prog old [ysP2 g l a o] (.loop (loopNo Try.f186 4)) (inSP2 g l a (rpG o Q M l a (8 * i)) i (l.getD i 0) 7) (.exit 2) (inSP2 g l a (rpG o Q M l a (8 * i + 8)) i (l.getD i 0) (-1)) := by
  have h : SoundFor Try.prog old [ysP2 g l a o] (.loop (loopNo Try.f186 4)) (inSP2 g l a (rpG o Q M l a (8 * i + 0)) i (l.getD i 0) (7 - ((0 : Nat) : Int))) (.exit 2) (inSP2 g l a (rpG o Q M l a (8 * i + 8)) i (l.getD i 0) (7 - ((8 : Nat) : Int))) := by
    intro c e1 e2 e3 e4
    refine loopAt (inv := fun j => inSP2 g l a (rpG o Q M l a (8 * i + j)) i (l.getD i 0) (7 - (j : Int))) (N := 8) (by simp) (fun j hj => ?_) ?_
    · have hz : (7 : Int) - ((j + 1 : Nat) : Int) = 7 - (j : Int) - 1 := by omega
      have hb : bitC l (8 * i + j) = bitx (l.getD i 0) (7 - (j : Int)) := by
        unfold bitC
        rw [show (8 * i + j) / 8 = i by omega, show (8 * i + j) % 8 = j by omega]
      have hr1 : rpG o Q M l a (8 * i + (j + 1)) = (match bitx (l.getD i 0) (7 - (j : Int)) with | true => M (Q (rpG o Q M l a (8 * i + j))) a | false => Q (rpG o Q M l a (8 * i + j))) := by rw [← hb]; rfl
      rw [hr1, hz]
      have h1 : (7 : Int) - j ≥ 0 := by omega
      have h2 : WrapI ((7 : Int) - j - 1) := wrapI (by omega) (by omega)
      revert h1 h2
      generalize (7 : Int) - j = z
      generalize rpG o Q M l a (8 * i + j) = r
      generalize l.getD i 0 = x
      intro h1 h2
      have h3 : (0 : Int) ≤ ((UInt64.ofNat (z % 18446744073709551616).toNat).toNat : Int) := by omega
      cases h4 : bitx x z with
      | true => exact Round.of (TblOK.nil _) (ITblOK.nil _) (says [(13, true), (24, false)]) noLoop (yfP2 old g l a o Q M ht true) 4 [WrapI (z - 1), bitx x z = true, (0 : Int) ≤ ((UInt64.ofNat (z % 18446744073709551616).toNat).toNat : Int), decide (z ≥ 0) = true] loopsFor_none (by kernel_rfl) ⟨h2, h4, h3, decide_eq_true h1, trivial⟩ (by kernel_rfl) (by kernel_rfl) e1 e2 e3 e4
      | false => exact Round.of (TblOK.nil _) (ITblOK.nil _) (says [(13, true), (24, false)]) noLoop (yfP2 old g l a o Q M ht false) 4 [WrapI (z - 1), bitx x z = false, (0 : Int) ≤ ((UInt64.ofNat (z % 18446744073709551616).toNat).toNat : Int), decide (z ≥ 0) = true] loopsFor_none (by kernel_rfl) ⟨h2, h4, h3, decide_eq_true h1, trivial⟩ (by kernel_rfl) (by kernel_rfl) e1 e2 e3 e4
    · generalize rpG o Q M l a (8 * i + 8) = r
      generalize l.getD i 0 = x
      exact Round.of (TblOK.nil _) (ITblOK.nil _) (says [(13, false)]) noLoop (yfP2 old g l a o Q M ht false) 4 [decide ((7 : Int) - ((8 : Nat) : Int) ≥ 0) = false] loopsFor_none (by kernel_rfl) ⟨by decide, trivial⟩ (by kernel_rfl) (by kernel_rfl) e1 e2 e3 e4
  exact h
theorem outP2_ok (W : World) (g : Spot) (l : List UInt8) (hg : HasBytes W l g) (hl : l.length < 1048576) (a o : F2) (Q : F2 → F2) (M : F2 → F2 → F2) (ht : TblOK Try.prog (tblP2 o Q M)) :
    SoundFor Try.prog W.cell? [ysP2 g l a o] (.loop (loopNo Try.f186 1)) (outSP2 g l a o 0) (.exit 0) (outSP2 g l a (rpG o Q M l a (8 * l.length)) l.length) := by
  intro c e1 e2 e3 e4
  refine loopAt (inv := fun k => outSP2 g l a (rpG o Q M l a (8 * k)) k) (N := l.length) (by simp) (fun k hk => ?_) ?_
  · have hin := inP2_ok W.cell? g l a o Q M ht k
    rw [show 8 * (k + 1) = 8 * k + 8 by omega]
    have hw : WrapI ((k : Int) + 1) := wrapI (by omega) (by omega)
    have hrd : Reads W.cell? g.a (byteAt (B := FB) l) (k : Int).toNat 1 := reads_bytes hg (by omega)
    have hix : Idx (k : Int) l.length := ⟨by omega, by omega⟩
    have hlt : decide ((k : Int) < (l.length : Int)) = true := decide_eq_true (by omega)
    revert hin
    generalize rpG o Q M l a (8 * k) = r
    generalize rpG o Q M l a (8 * k + 8) = r'
    intro hin
    refine Round.of (TblOK.nil _) (ITblOK.nil _) (says [(9, true)]) (lps [(4, inSP2 g l a r k (l.getD k 0) 7, .exit 2, inSP2 g l a r' k (l.getD k 0) (-1))]) (yfP2 W.cell? g l a o Q M ht false) 4 [WrapI ((k : Int) + 1), ToldIs (inSP2 g l a r k (l.getD k 0) 7), Reads W.cell? g.a (byteAt (B := FB) l) (k : Int).toNat 1, Idx (k : Int) l.length, decide ((k : Int) < (l.length : Int)) = true] (LoopsFor.cons ?_ hin LoopsFor.nil) (by kernel_rfl) ⟨hw, toldIs _, hrd, hix, hlt, trivial⟩ (by kernel_rfl) (by kernel_rfl) e1 e2 e3 e4
    kernel_rfl
  · generalize rpG o Q M l a (8 * l.length) = r
    exact Round.of (TblOK.nil _) (ITblOK.nil _) (says [(9, false)]) noLoop (yfP2 W.cell? g l a o Q M ht false) 4 [decide ((l.length : Int) < (l.length : Int)) = false] loopsFor_none (by kernel_rfl) ⟨decide_eq_false (by omega), trivial⟩ (by kernel_rfl) (by kernel_rfl) e1 e2 e3 e4
theorem powP2_of (o : F2) (Q : F2 → F2) (M : F2 → F2 → F2) (ht : TblOK Try.prog (tblP2 o Q M)) :
    Computes A Try.prog 138 (fun x : F2 × Bt × Unit => rpG o Q M x.2.1.l x.1 (8 * x.2.1.l.length)) := by
  refine computes_of_runT Try.func138 (by kernel_rfl) (by kernel_rfl) 4 ?_
  rintro ⟨_, g, _⟩ ⟨a, ⟨l⟩, ⟨⟩⟩ W ⟨_, ⟨hg, hl⟩, _⟩
  have hs := outP2_ok W g l hg hl a o Q M ht
  obtain ⟨r, hr⟩ : ∃ r, r = rpG o Q M l a (8 * l.length) := ⟨_, rfl⟩
  obtain ⟨n, hn⟩ : ∃ n, n = l.length := ⟨_, rfl⟩
  simp only [← hr]
  rw [← hr] at hs
  refine ⟨tblP2 o Q M, [iterW Try.prog [] [] (fun _ _ => .keep) (lps [(1, outSP2 g l a o 0, .exit 0, outSP2 g l a r l.length)]) 4 186 Try.f186], ht, ITblOK.cons (iterW_ok (TblOK.nil _) (ITblOK.nil _) _ _ 4 Try.func186 (by kernel_rfl) (by kernel_rfl)) (ITblOK.nil _),
    fun _ _ => .keep, noLoop, r, [∀ body, Try.f186.body = some body → LoopsFor Try.prog W.cell? [ysP2 g l a o] (lps [(1, outSP2 g l a o 0, .exit 0, outSP2 g l a r l.length)]) body, ToldIs (outSP2 g l a o 0)], by kernel_rfl, ⟨?_, toldIs _, trivial⟩, rfl, fun body _ => loopsFor_none⟩
  intro body hb
  refine LoopsFor.cons ?_ hs LoopsFor.nil
  obtain rfl := Option.some.inj hb
  kernel_rfl


section
variable (g : Spot) (l : List UInt8) (a o r : F2) (M : F2 → F2 → F2)
noncomputable def tblR2 : List (Row A) := [rowOf A 124 (fun x : F2 × F2 × Unit => M x.1 x.2.1), rowOf A 86 (fun _ : Unit => o)]
def stR2 (k : Nat) : St A :=
  ⟨slots 0 33 [(1, .val false [.e g.a (byteAt l) 0 l.length g.c]), (2, .val false [.p 0 0]), (4, .val false [.p 1 0]), (5, .val false [.p 2 0]), (6, .val false [.n .i64 k])],
   [some ⟨Rep.shw (A := A) a, 73, false⟩, some ⟨(lit6 ++ lit6), 73, false⟩, some ⟨Rep.shw (A := A) r, 73, false⟩], 0, [], []⟩
end
def bitR2 (l : List UInt8) (k : Nat) : Bool := bitB l k
theorem loopR2_ok (W : World) (g : Spot) (l : List UInt8) (hg : HasBytes W l g) (hl : l.length < 1048576) (a o : F2) (M : F2 → F2 → F2) (ht : TblOK Try.prog (tblR2 o M)) :
    SoundFor Try.prog W.cell? [] (.loop (loopNo Try.f142 3)) (stR2 g l a o 0) (.exit 0) (stR2 g l a (rpG o (fun x => M x x) M l a (8 * l.length)) (8 * l.length)) := by
  intro c e1 e2 e3 e4
  refine loopAt (inv := fun k => stR2 g l a (rpG o (fun x => M x x) M l a k) k) (N := 8 * l.length) (by simp) (fun k hk => ?_) ?_
  · have h1 : (k : Int).tdiv 8 = (k / 8 : Nat) := rfl
    have h2 : (k : Int).tmod 8 = (k % 8 : Nat) := rfl
    have all : All [(0 : Int) ≤ 7 - (k : Int).tmod 8, WrapI (7 - (k : Int).tmod 8), Reads W.cell? g.a (byteAt (B := FB) l) ((k : Int).tdiv 8).toNat 1, Idx ((k : Int).tdiv 8) l.length, WrapI ((k : Int).tdiv 8), decide ((k : Int) < 8 * l.length) = true, WrapI (8 * (l.length : Int))] :=
      ⟨by rw [h2]; omega, wrapI (by rw [h2]; omega) (by rw [h2]; omega), reads_bytes hg (by rw [h1]; omega), ⟨by rw [h1]; omega, by rw [h1]; omega⟩, wrapI (by rw [h1]; omega) (by rw [h1]; omega), decide_eq_true (by omega), wrapI (by omega) (by omega), trivial⟩
    have hw : WrapI ((k : Int) + 1) := wrapI (by omega) (by omega)
    have e : rpG o (fun x => M x x) M l a (k + 1) = (match bitB l k with | true => M (M (rpG o (fun x => M x x) M l a k) (rpG o (fun x => M x x) M l a k)) a | false => M (rpG o (fun x => M x x) M l a k) (rpG o (fun x => M x x) M l a k)) := by rw [← bitC_eq]; rfl
    rw [e]
    generalize rpG o (fun x => M x x) M l a k = r
    cases hb : bitB l k with
    | true => exact Round.of0 ht (says [(12, true), (28, true)]) 4 (WrapI ((k : Int) + 1) :: (bitB l k = true) :: _) (by kernel_rfl) (All.cons hw (All.cons hb all)) (by kernel_rfl) (by kernel_rfl) e1 e2 e3 e4
    | false => exact Round.of0 ht (says [(12, true), (28, false)]) 4 (WrapI ((k : Int) + 1) :: (bitB l k = false) :: _) (by kernel_rfl) (All.cons hw (All.cons hb all)) (by kernel_rfl) (by kernel_rfl) e1 e2 e3 e4
  · generalize rpG o (fun x => M x x) M l a (8 * l.length) = r
    obtain ⟨n, hn⟩ : ∃ n, n = 8 * l.length := ⟨_, rfl⟩
    simp only [← hn]
    exact Round.of0 ht (says [(12, false)]) 4 [decide ((n : Int) < 8 * l.length) = false, WrapI (8 * (l.length : Int))] (by kernel_rfl) ⟨decide_eq_false (by omega), wrapI (by omega) (by omega), trivial⟩ (by kernel_rfl) (by kernel_rfl) e1 e2 e3 e4
theorem powR2_of (o : F2) (M : F2 → F2 → F2) (ht : TblOK Try.prog (tblR2 o M)) : Computes A Try.prog 142 (fun x : F2 × Bt × Unit => rpG o (fun x => M x x) M x.2.1.l x.1 (8 * x.2.1.l.length)) := by
  refine computes_of_runW ht (ITblOK.nil _) Try.func142 (by kernel_rfl) (by kernel_rfl) 4 ?_
  rintro ⟨_, g, _⟩ ⟨a, ⟨l⟩, ⟨⟩⟩ W ⟨_, ⟨hg, hl⟩, _⟩
  have hs := loopR2_ok W g l hg hl a o M ht
  obtain ⟨r, hr⟩ : ∃ r, r = rpG o (fun x => M x x) M l a (8 * l.length) := ⟨_, rfl⟩
  obtain ⟨n, hn⟩ : ∃ n, n = 8 * l.length := ⟨_, rfl⟩
  simp only [← hr]
  rw [← hr, ← hn] at hs
  refine ⟨fun _ _ => .keep, lps [(3, stR2 g l a o 0, .exit 0, stR2 g l a r n)], r, [ToldIs (stR2 g l a o 0)], (by kernel_rfl), ⟨toldIs _, trivial⟩, rfl, ?_⟩
  intro body hb
  refine LoopsFor.cons ?_ hs LoopsFor.nil
  obtain rfl := Option.some.inj hb
  kernel_rfl


theorem gpow_fp (a : Fp) : ∀ n, gpow (1 : Fp) (fun a b => a * b) a n = fpow a n
  | 0 => (fpow_zero a).symm
  | n + 1 => by rw [fpow_succ, ← gpow_fp a n]; rfl
theorem tblP1_ok : TblOK Try.prog (tblP1 (1 : Fp) (fun a => a * a) (fun a b => a * b)) := .cons one_ok.row (.cons sq_ok.row (.cons mul_ok.row (.cons (rowIn_ok (TblOK.nil _) (ITblOK.nil _) _ 4 Try.func165 (by kernel_rfl) (by kernel_rfl)) (.nil _))))
theorem pow_ok : Computes A Try.prog 62 (fun x : Fp × Bt × Unit => fpow x.1 (numB x.2.1.l)) :=
  Computes.eq (powP1_of 1 (fun a => a * a) (fun a b => a * b) tblP1_ok) (fun x => (rpG_all (O := (1 : Fp)) (M := fun a b => a * b) (fun x => by grind) (fun x y z => by grind) (fun _ => rfl) _ _).trans (gpow_fp _ _))
def pow2 (a : F2) (n : Nat) : F2 := gpow one2 mul2 a n
theorem tblP2_ok : TblOK Try.prog (tblP2 one2 (fun a => mul2 a a) mul2) := .cons one2_ok.row (.cons sq2_ok.row (.cons mul2_ok.row (.cons (rowIn_ok (TblOK.nil _) (ITblOK.nil _) _ 4 Try.func165 (by kernel_rfl) (by kernel_rfl)) (.nil _))))
theorem pow2_ok : Computes A Try.prog 138 (fun x : F2 × Bt × Unit => pow2 x.1 (numB x.2.1.l)) :=
  Computes.eq (powP2_of one2 (fun a => mul2 a a) mul2 tblP2_ok) (fun x => rpG_all (O := one2) (M := mul2) mul2_one mul2_assoc (fun _ => rfl) _ _)
theorem tblR2_ok : TblOK Try.prog (tblR2 one2 mul2) := .cons rMul2_ok.row (.cons rOne2_ok.row (.nil _))
theorem rPow2_ok : Computes A Try.prog 142 (fun x : F2 × Bt × Unit => pow2 x.1 (numB x.2.1.l)) :=
  Computes.eq (powR2_of one2 mul2 tblR2_ok) (fun x => rpG_all (O := one2) (M := mul2) mul2_one mul2_assoc (fun _ => rfl) _ _)
end Go.Proofs.Ytbdbmcdcjejffaa
