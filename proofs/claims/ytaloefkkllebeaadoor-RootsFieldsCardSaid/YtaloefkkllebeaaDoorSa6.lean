/- SHA-256: the sum of any bytes. -/
import Derived.Test.YtaloefkkllebeaaDoorSa5
set_option linter.unusedVariables false
set_option linter.unusedSimpArgs false
set_option linter.unusedSectionVars false
namespace Go.Sh
def rangeA (fn : Func) (id : Nat) : Code := match fn.body with | some x => (match findNo id (loopsOf x) with | .rangeFunc _ _ x _ => x | y => y) | none => .skip
/-- Slots i .. i + n - 1: those of a list (in order), the others not yet set. -/
def slotsU {A : Type} : Nat → Nat → List (Nat × TV A) → List (TV A)
  | _, 0, _ => []
  | i, n + 1, l =>
    match l with
    | (j, v) :: r => match Nat.beq i j with | true => v :: slotsU (i + 1) n r | false => undefT :: slotsU (i + 1) n l
    | [] => undefT :: slotsU (i + 1) n []
def extB (l : List UInt8) (i : Nat) : Nat → List UInt8
  | 0 => []
  | n + 1 => l.getD i 0 :: extB l (i + 1) n
/-- The block at i. -/
def blkF (l : List UInt8) (i : Nat) : Nat → UInt8 := pickN 0 (extB l i 64)
/-- What is left, the mark, noughts. -/
def pad0 (l : List UInt8) (o r : Nat) : Nat → UInt8 := fun j => match Nat.blt j (min r (64 - 0)) with | true => l.getD (o + j) 0 | false => pickN 0 (List.replicate 64 (UInt8.ofNat 0)) j
def pad1 (l : List UInt8) (o r : Nat) : Nat → UInt8 := upd (pad0 l o r) (r : Int).toNat (UInt8.ofNat 128)
/-- A byte of so many bits. -/
def lenBy (n i : Nat) : UInt8 := UInt8.ofNat (((UInt64.ofNat ((u64 (8 * ((u64 (n : Int)).toNat : Int))).toNat / 2 ^ min (8 * i) IntKind.u64.bits)).toNat : Int) % 256).toNat
def lens (n : Nat) : List UInt8 := [lenBy n 7, lenBy n 6, lenBy n 5, lenBy n 4, lenBy n 3, lenBy n 2, lenBy n 1, lenBy n 0]
def lastA (l : List UInt8) (o r n : Nat) : Nat → UInt8 := pickN 0 ((List.range 56).map (pad1 l o r) ++ lens n)
def lastB (n : Nat) : Nat → UInt8 := pickN 0 (List.replicate 56 (UInt8.ofNat 0) ++ lens n)
def offK : Nat → Nat
  | 0 => 0
  | k + 1 => 64 + offK k
def lenK (n : Nat) : Nat → Nat
  | 0 => n
  | k + 1 => lenK n k - 64
theorem offK_eq : ∀ k, offK k = 64 * k
  | 0 => rfl
  | k + 1 => by simp only [offK, offK_eq k]; omega
theorem lenK_eq (n : Nat) : ∀ k, lenK n k = n - 64 * k
  | 0 => rfl
  | k + 1 => by simp only [lenK, lenK_eq n k]; omega
end Go.Sh
namespace Go.Proofs.YtaloefkkllebeaaDoor
open Go Go.Sh
section
variable (Fst : Nat → UInt32) (C : (Nat → UInt32) → (Nat → UInt8) → (Nat → UInt32)) (O : (Nat → UInt32) → (Nat → UInt8))
noncomputable def addR : Row A := turnRow 86 38 [0] (fun (d : R32 8) (x : GA (Ptr (R8 64) × Unit)) => ((⟨C d.f x.x.1.x.f⟩ : R32 8), ()))
noncomputable def blocksR : Row A := rowIn Tryd.prog [] [] (fun _ _ => .keep) 4 84 Tryd.f84
noncomputable def endingR : Row A := rowIn Tryd.prog [] [] (fun _ _ => .keep) 4 90 Tryd.f90
noncomputable def tblSum : List (Row A) :=
  [addR C, rowOf A 85 (fun _ : Unit => (⟨Fst⟩ : R32 8)), rowOf A 87 (fun x : Ptr (R32 8) × Unit => (⟨O x.1.x.f⟩ : R8 32)), blocksR]
/-- Noughts. -/
def zer8 (n : Nat) : List (SV A) := List.replicate n (.v (.int .u8 0))
variable (g : Spot) (l : List UInt8)
def slE (i n c : Nat) : SV A := .e g.a (byteAt l) i n c
def memS (s : Nat → UInt32) : Mem A :=
  [some ⟨zer8 32, 25, false⟩, some ⟨[.a (.w32 8 s)], 38, false⟩, some ⟨[slE g l 0 l.length g.c], 22, false⟩, none]
noncomputable def ysS : Ys A :=
  ⟨3, [8], rangeA Tryd.f26 3, rangeNo Tryd.f26 3, slotsU 0 11 [(0, .val false [slE g l 0 l.length g.c]), (2, .val false [.p 0 0]), (3, .val false [.p 1 0]), (5, .val true [.a (.w32 8 Fst)]), (6, .val false [slE g l 0 l.length g.c]), (7, .val false [.f 117 [(2, 0)]])]⟩
noncomputable def yfS (old : Addr → Option Value) : YF A := pushY (exec (cfg Tryd.prog [addR C] (fun _ _ => .keep) old) 4 (ysS Fst g l).assign) (exec (cfg Tryd.prog [addR C] (fun _ _ => .keep) old) 4 (ysS Fst g l).body) (ysS Fst g l) noYield
def inSu (s : Nat → UInt32) (k : Nat) : St A :=
  ⟨slots 0 28 [(0, .val false [.y 3]), (1, .val false [.p 2 0]), (2, .val false [.p 4 0]), (3, .val false [slE g l (offK k) (lenK l.length k) (lenK g.c k)])], memS g l s ++ [some ⟨[.y 3], 175, false⟩], 0, [], [none]⟩
def shaS : Nat → (Nat → UInt32)
  | 0 => Fst
  | k + 1 => C (shaS k) (blkF l (offK k))
section
variable {Fst C}
variable (hA : RowOK Tryd.prog (addR C)) {old : Addr → Option Value} (hr : RoundsIn old) {k : Cfg A} (e1 : k.P = Tryd.prog) (e2 : k.gl = (fun _ => none)) (e3 : k.old = old) (e4 : k.ys = [ysS Fst g l])
include hA in
theorem yfS_ok : YFOK Tryd.prog old [ysS Fst g l] (yfS Fst C g l old) :=
  YFOK.push (cfgOK0 (.cons hA (.nil _)) (ITblOK.nil _) (fun _ _ => .keep) old noLoop) 4 (ysS Fst g l) (loopsOK_none _ _ _ _ _ _ _ _) (loopsOK_none _ _ _ _ _ _ _ _)
include hA e1 e2 e3 e4
include hr in
theorem inSu_one (s : Nat → UInt32) (q : Nat) (hl : 64 ≤ lenK l.length q) (hc : 64 ≤ lenK g.c q) (hq : Reads old g.a (byteAt (B := FB) l) (offK q) 64) :
    Round k (loopNo Tryd.f117 2) (inSu g l s q) .normal (inSu g l (C s (blkF l (offK q))) (q + 1)) :=
  Round.of (TblOK.nil _) (ITblOK.nil _) (says [(8, true)]) noLoop (yfS_ok g l hA) 6
    [(0 : Int) ≤ 64 ∧ (64 : Int) ≤ ((lenK l.length q : Nat) : Int), RoundsIn old, Reads old g.a (byteAt (B := FB) l) (offK q) 64, 63 + 1 ≤ Int.toNat 64 - 0, (0 : Int) ≤ 64 ∧ (64 : Int) ≤ ((lenK g.c q : Nat) : Int), decide (((lenK l.length q : Nat) : Int) ≥ 64) = true]
    loopsFor_none (by kernel_rfl) ⟨⟨by decide, by omega⟩, hr, hq, by decide, ⟨by decide, by omega⟩, decide_eq_true (by omega), trivial⟩ (by kernel_rfl) (by kernel_rfl) e1 e2 e3 e4
theorem inSu_end (s : Nat → UInt32) (q : Nat) (hl : lenK l.length q < 64) :
    Round k (loopNo Tryd.f117 2) (inSu g l s q) (.exit 0) (inSu g l s q) :=
  Round.of (TblOK.nil _) (ITblOK.nil _) (says [(8, false)]) noLoop (yfS_ok g l hA) 6 [decide (((lenK l.length q : Nat) : Int) ≥ 64) = false]
    loopsFor_none (by kernel_rfl) ⟨decide_eq_false (by omega), trivial⟩ (by kernel_rfl) (by kernel_rfl) e1 e2 e3 e4
end
noncomputable def itsE (b : Bool) : List (IRow A) := [iter Tryd.prog [] [] (says [(14, b)]) 12 120 Tryd.f120]
noncomputable def itsS (b : Bool) (lp : Nat → Option (St A × Ex × St A)) : List (IRow A) := [iterW Tryd.prog [endingR] (itsE b) (fun _ _ => .keep) lp 8 117 Tryd.f117]
def sumF : Nat → UInt8 :=
  match Nat.blt (lenK l.length (l.length / 64)) 56 with
  | true => O (C (shaS Fst C l (l.length / 64)) (lastA l (offK (l.length / 64)) (lenK l.length (l.length / 64)) l.length))
  | false => O (C (C (shaS Fst C l (l.length / 64)) (pad1 l (offK (l.length / 64)) (lenK l.length (l.length / 64)))) (lastB l.length))
end
theorem reads_part {W : World} {l : List UInt8} {g : Spot} (h : HasBytes W l g) {i n : Nat} (hn : i + n ≤ l.length) : Reads W.cell? g.a (byteAt (B := FB) l) i n := by
  intro b hb j hj
  exact ⟨_, h.2.2 b hb (i + j) (by omega), rfl⟩
theorem inSu_loop {Fst : Nat → UInt32} {C : (Nat → UInt32) → (Nat → UInt8) → (Nat → UInt32)} (hA : RowOK Tryd.prog (addR C)) {W : World} (hr : RoundsIn W.cell?) {g : Spot} {l : List UInt8} (hg : HasBytes W l g) :
    SoundFor Tryd.prog W.cell? [ysS Fst g l] (.loop (loopNo Tryd.f117 2)) (inSu g l Fst 0) (.exit 0) (inSu g l (shaS Fst C l (l.length / 64)) (l.length / 64)) := by
  intro c q1 q2 q3 q4
  have hc := hg.1
  refine loopAt (c := c) (inv := fun i => inSu g l (shaS Fst C l i) i) (N := l.length / 64) (by simp) (fun i hi => inSu_one g l hA hr q1 q2 q3 q4 _ i ?_ ?_ ?_) (inSu_end g l hA q1 q2 q3 q4 _ _ ?_)
  · rw [lenK_eq]; omega
  · rw [lenK_eq]; omega
  · exact reads_part hg (by rw [offK_eq]; omega)
  · rw [lenK_eq]; omega
theorem sum_of (Fst : Nat → UInt32) (C : (Nat → UInt32) → (Nat → UInt8) → (Nat → UInt32)) (O : (Nat → UInt32) → (Nat → UInt8)) (ht : TblOK Tryd.prog (tblSum Fst C O)) (hA : RowOK Tryd.prog (addR C)) (hE : RowOK Tryd.prog endingR) :
    Computes A Tryd.prog 26 (fun x : GA (Bs × Unit) => (⟨sumF Fst C O x.x.1.l⟩ : R8 32)) := by
  refine computes_of_runT Tryd.func26 (by kernel_rfl) (by kernel_rfl) 8 ?_
  rintro ⟨g, _⟩ ⟨⟨⟨l⟩, ⟨⟩⟩⟩ W ⟨hr, hg, _⟩
  have hg : HasBytes W l g := hg
  have hs := inSu_loop (Fst := Fst) hA hr hg
  have hi : ∀ b lp, ITblOK Tryd.prog (itsS b lp) := fun b lp => .cons (iterW_ok (.cons hE (.nil _)) (.cons (iter_ok (TblOK.nil _) (ITblOK.nil _) _ 12 Tryd.func120 (by kernel_rfl) (by kernel_rfl)) (ITblOK.nil _)) _ lp 8 Tryd.func117 (by kernel_rfl) (by kernel_rfl)) (ITblOK.nil _)
  have hrd : Reads W.cell? g.a (byteAt (B := FB) l) (offK (l.length / 64)) (lenK l.length (l.length / 64)) := reads_part hg (by rw [offK_eq, lenK_eq]; omega)
  have hlt : lenK l.length (l.length / 64) < 64 := by rw [lenK_eq]; omega
  have hbl : ∀ body, Tryd.f117.body = some body → LoopsFor Tryd.prog W.cell? [ysS Fst g l] (lps [(2, inSu g l Fst 0, .exit 0, inSu g l (shaS Fst C l (l.length / 64)) (l.length / 64))]) body := fun body hb => by
    obtain rfl := Option.some.inj hb
    exact LoopsFor.cons (by kernel_rfl) hs LoopsFor.nil
  have hu : ∀ (n i : Nat), ∀ j, j < min n (64 - 0) → ∃ x, (fun q => byteAt (B := FB) l (i + q)) j = .u8 x := fun n i j _ => ⟨_, rfl⟩
  cases hb : Nat.blt (lenK l.length (l.length / 64)) 56 with
  | true =>
    have hb' : lenK l.length (l.length / 64) < 56 := by rwa [Nat.blt_eq] at hb
    refine ⟨_, _, ht, hi false (lps [(2, inSu g l Fst 0, .exit 0, inSu g l (shaS Fst C l (l.length / 64)) (l.length / 64))]), fun _ _ => .keep, noLoop,
      ⟨O (C (shaS Fst C l (l.length / 64)) (lastA l (offK (l.length / 64)) (lenK l.length (l.length / 64)) l.length))⟩,
      [∀ body, Tryd.f117.body = some body → LoopsFor Tryd.prog W.cell? [ysS Fst g l] (lps [(2, inSu g l Fst 0, .exit 0, inSu g l (shaS Fst C l (l.length / 64)) (l.length / 64))]) body,
        RoundsIn W.cell?, decide (((lenK l.length (l.length / 64) : Nat) : Int) ≥ 56) = false, IX (lenK l.length (l.length / 64)) 64, ∀ j, j < min (lenK l.length (l.length / 64)) (64 - 0) → ∃ x, (fun q => byteAt (B := FB) l (offK (l.length / 64) + q)) j = .u8 x,
        Reads W.cell? g.a (byteAt (B := FB) l) (offK (l.length / 64)) (lenK l.length (l.length / 64)), ToldIs (inSu g l Fst 0)], ?_, ⟨hbl, hr, decide_eq_false (by omega), ⟨by omega, by omega⟩, hu _ _, hrd, toldIs _, trivial⟩, ?_, fun body _ => loopsFor_none⟩
    · generalize shaS Fst C l (l.length / 64) = s
      generalize l.length / 64 = q
      kernel_rfl
    · simp only [sumF, hb]
  | false =>
    have hb' : ¬ lenK l.length (l.length / 64) < 56 := fun h => by rw [← Nat.blt_eq] at h; rw [h] at hb; cases hb
    refine ⟨_, _, ht, hi true (lps [(2, inSu g l Fst 0, .exit 0, inSu g l (shaS Fst C l (l.length / 64)) (l.length / 64))]), fun _ _ => .keep, noLoop,
      ⟨O (C (C (shaS Fst C l (l.length / 64)) (pad1 l (offK (l.length / 64)) (lenK l.length (l.length / 64)))) (lastB l.length))⟩,
      [∀ body, Tryd.f117.body = some body → LoopsFor Tryd.prog W.cell? [ysS Fst g l] (lps [(2, inSu g l Fst 0, .exit 0, inSu g l (shaS Fst C l (l.length / 64)) (l.length / 64))]) body,
        RoundsIn W.cell?, RoundsIn W.cell?, decide (((lenK l.length (l.length / 64) : Nat) : Int) ≥ 56) = true, IX (lenK l.length (l.length / 64)) 64, ∀ j, j < min (lenK l.length (l.length / 64)) (64 - 0) → ∃ x, (fun q => byteAt (B := FB) l (offK (l.length / 64) + q)) j = .u8 x,
        Reads W.cell? g.a (byteAt (B := FB) l) (offK (l.length / 64)) (lenK l.length (l.length / 64)), ToldIs (inSu g l Fst 0)], ?_, ⟨hbl, hr, hr, decide_eq_true (by omega), ⟨by omega, by omega⟩, hu _ _, hrd, toldIs _, trivial⟩, ?_, fun body _ => loopsFor_none⟩
    · generalize shaS Fst C l (l.length / 64) = s
      generalize l.length / 64 = q
      kernel_rfl
    · simp only [sumF, hb]
end Go.Proofs.YtaloefkkllebeaaDoor
