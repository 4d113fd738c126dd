/- SHA-256, the reference: its sum. -/
import Derived.Test.YtaloefkkllebeaaDoorSb2
set_option linter.unusedVariables false
set_option linter.unusedSimpArgs false
set_option linter.unusedSectionVars false
namespace Go.Sh
/-- Bytes as they are read. -/
def partB (l : List UInt8) (i n : Nat) : List UInt8 := (List.range n).map fun j => u8of (byteAt (B := FB) l (i + j))
theorem partB_all (l : List UInt8) : partB l 0 l.length = l := by
  apply List.ext_getElem
  · simp [partB]
  · intro j h1 h2
    simp [partB, byteAt, u8of, List.getD_eq_getElem?_getD, h2]
def ReadB (W : World) (g : Spot) (l : List UInt8) : Prop := Reads W.cell? g.a (byteAt (B := FB) l) 0 l.length
def AllU8 (l : List UInt8) : Prop := ∀ j, j < l.length → isU8 (byteAt (B := FB) l (0 + j)) = true
theorem readB {W : World} {g : Spot} {l : List UInt8} (h : HasBytes W l g) : ReadB W g l := by
  intro b hb j hj
  exact ⟨_, h.2.2 b hb (0 + j) (by omega), rfl⟩
theorem allU8 (l : List UInt8) : AllU8 l := fun j _ => rfl
def hStep (P : List UInt8) (k i kk : Nat) (f : Nat → UInt32) : Nat → UInt32 :=
  upd f (i : Int).toNat (or3 (shl3 (f (i : Int).toNat) 8) (byte3 (P.getD ((((64 * k : Nat) : Int) + 4 * (i : Int)) + (kk : Int)).toNat 0)))
def headR (P : List UInt8) (k i : Nat) (f : Nat → UInt32) : Nat → UInt32 := hStep P k i 3 (hStep P k i 2 (hStep P k i 1 (hStep P k i 0 f)))
def hIt (P : List UInt8) (k : Nat) : Nat → (Nat → UInt32)
  | 0 => z64
  | i + 1 => headR P k i (hIt P k i)
def sigR0 (x : UInt32) : UInt32 := xor3 (xor3 (turn3 x 7) (turn3 x 18)) (shr3 x 3)
def sigR1 (x : UInt32) : UInt32 := xor3 (xor3 (turn3 x 17) (turn3 x 19)) (shr3 x 10)
def wStepR (f : Nat → UInt32) (k : Nat) : Nat → UInt32 :=
  upd f (k : Int).toNat (add3 (add3 (add3 (f ((k : Int) - 16).toNat) (sigR0 (f ((k : Int) - 15).toNat))) (f ((k : Int) - 7).toNat)) (sigR1 (f ((k : Int) - 2).toNat)))
def wItR (f : Nat → UInt32) : Nat → (Nat → UInt32)
  | 0 => f
  | i + 1 => wStepR (wItR f i) (16 + i)
def bigR1 (e : UInt32) : UInt32 := xor3 (xor3 (turn3 e 6) (turn3 e 11)) (turn3 e 25)
def bigR0 (a : UInt32) : UInt32 := xor3 (xor3 (turn3 a 2) (turn3 a 13)) (turn3 a 22)
def tR (kk w : UInt32) (v : Nat → UInt32) : UInt32 := add3 (add3 (add3 (add3 (v 7) (bigR1 (v 4))) (xor3 (and3 (v 4) (v 5)) (and3 (not3 (v 4)) (v 6)))) kk) w
def uR (v : Nat → UInt32) : UInt32 := add3 (bigR0 (v 0)) (xor3 (xor3 (and3 (v 0) (v 1)) (and3 (v 0) (v 2))) (and3 (v 1) (v 2)))
def rStepR (kk w : UInt32) (v : Nat → UInt32) : Nat → UInt32 := pickN 0 [add3 (tR kk w v) (uR v), v 0, v 1, v 2, add3 (v 3) (tR kk w v), v 4, v 5, v 6]
def rItR (w v : Nat → UInt32) : Nat → (Nat → UInt32)
  | 0 => v
  | i + 1 => rStepR (tabA (i + 8)) (w i) (rItR w v i)
def plusR (h v : Nat → UInt32) : Nat → UInt32 := pickN 0 [add3 (h 0) (v 0), add3 (h 1) (v 1), add3 (h 2) (v 2), add3 (h 3) (v 3), add3 (h 4) (v 4), add3 (h 5) (v 5), add3 (h 6) (v 6), add3 (h 7) (v 7)]
def refComp (P : List UInt8) (k : Nat) (h : Nat → UInt32) : Nat → UInt32 := plusR h (rItR (wItR (hIt P k 16) 48) h 64)
def hFirst : Nat → UInt32 := pickN 0 [tabA 0, tabA 1, tabA 2, tabA 3, tabA 4, tabA 5, tabA 6, tabA 7]
def refS (P : List UInt8) : Nat → (Nat → UInt32)
  | 0 => hFirst
  | k + 1 => refComp P k (refS P k)
def fourR (x : UInt32) : List UInt8 := [shrB x 24, shrB x 16, shrB x 8, shrB x 0]
def outRf (f : Nat → UInt32) : Nat → UInt8 := pickN 0 (fourR (f 0) ++ fourR (f 1) ++ fourR (f 2) ++ fourR (f 3) ++ fourR (f 4) ++ fourR (f 5) ++ fourR (f 6) ++ fourR (f 7))
end Go.Sh
namespace Go.Proofs.YtaloefkkllebeaaDoor
open Go Go.Sh
def r1E (a : Addr) (P : List UInt8) (h : Nat → UInt32) (k : Nat) (f : Nat → UInt32) : St A := ⟨slots 0 216 (rSl a P ((64 * k : Nat) : Int) ++ [(8, .val false [.p 2 0])]), rMem h ++ [rW f], 0, [], []⟩
def r3E (a : Addr) (P : List UInt8) (h : Nat → UInt32) (k : Nat) (f v : Nat → UInt32) : St A := ⟨slots 0 216 (rSl a P ((64 * k : Nat) : Int) ++ [(8, .val false [.p 2 0]), (14, .val false [.p 3 0])]), rMem h ++ [rW f, rV v], 0, [], []⟩
def rO (a : Addr) (P : List UInt8) (h : Nat → UInt32) (k : Nat) : St A := ⟨slots 0 216 (rSl a P ((64 * k : Nat) : Int)), rMem h, 0, [], []⟩
def ReadT (old : Addr → Option Value) (a : Addr) (i n : Nat) : Prop := Reads old (some a) (fun j => (.u32 (tabA j) : A)) i n
def HasTab (W : World) (a : Addr) : Prop := ∀ i n, i + n ≤ 72 → ReadT W.cell? a i n
section
variable {W : World} (a : Addr) (hT : HasTab W a) (P : List UInt8) (h : Nat → UInt32) (k : Nat) {c : Cfg A} (e1 : c.P = Tryd.prog) (e2 : c.gl = (fun _ => none)) (e3 : c.old = W.cell?) (e4 : c.ys = [])
include e1 e2 e3 e4
theorem r1_one (hk : 64 * k + 64 ≤ P.length) (hP : P.length < 2097152) (f : Nat → UInt32) (i : Nat) (hi : i < 16) : Round c (loopNo Tryd.f28 8) (r1 a P h k f i) .normal (r1 a P h k (headR P k i f) (i + 1)) :=
  Round.of0 (.cons turn_ok.row (.nil _)) (says [(36, true)]) 8
    [WI ((i : Int) + 1), IX i 64, IX (((64 * k : Nat) : Int) + 4 * (i : Int) + 3) P.length, WI (((64 * k : Nat) : Int) + 4 * (i : Int) + 3), WI (((64 * k : Nat) : Int) + 4 * (i : Int)), WI (4 * (i : Int)), IX i 64,
      IX i 64, IX (((64 * k : Nat) : Int) + 4 * (i : Int) + 2) P.length, WI (((64 * k : Nat) : Int) + 4 * (i : Int) + 2), WI (((64 * k : Nat) : Int) + 4 * (i : Int)), WI (4 * (i : Int)), IX i 64,
      IX i 64, IX (((64 * k : Nat) : Int) + 4 * (i : Int) + 1) P.length, WI (((64 * k : Nat) : Int) + 4 * (i : Int) + 1), WI (((64 * k : Nat) : Int) + 4 * (i : Int)), WI (4 * (i : Int)), IX i 64,
      IX i 64, IX (((64 * k : Nat) : Int) + 4 * (i : Int) + 0) P.length, WI (((64 * k : Nat) : Int) + 4 * (i : Int) + 0), WI (((64 * k : Nat) : Int) + 4 * (i : Int)), WI (4 * (i : Int)), IX i 64, decide ((i : Int) < 16) = true]
    (by kernel_rfl)
    ⟨wI (by omega) (by omega), ⟨by omega, by omega⟩, ⟨by omega, by omega⟩, wI (by omega) (by omega), wI (by omega) (by omega), wI (by omega) (by omega), ⟨by omega, by omega⟩,
      ⟨by omega, by omega⟩, ⟨by omega, by omega⟩, wI (by omega) (by omega), wI (by omega) (by omega), wI (by omega) (by omega), ⟨by omega, by omega⟩,
      ⟨by omega, by omega⟩, ⟨by omega, by omega⟩, wI (by omega) (by omega), wI (by omega) (by omega), wI (by omega) (by omega), ⟨by omega, by omega⟩,
      ⟨by omega, by omega⟩, ⟨by omega, by omega⟩, wI (by omega) (by omega), wI (by omega) (by omega), wI (by omega) (by omega), ⟨by omega, by omega⟩, decide_eq_true (by omega), trivial⟩ (by kernel_rfl) (by kernel_rfl) e1 e2 e3 e4
theorem r1_end (f : Nat → UInt32) : Round c (loopNo Tryd.f28 8) (r1 a P h k f 16) (.exit 2) (r1E a P h k f) :=
  Round.of0 (.cons turn_ok.row (.nil _)) (says [(36, false)]) 8 [decide (((16 : Nat) : Int) < 16) = false] (by kernel_rfl) ⟨by decide, trivial⟩ (by kernel_rfl) (by kernel_rfl) e1 e2 e3 e4
theorem r2_one (f : Nat → UInt32) (i : Nat) (h1 : 16 ≤ i) (hi : i < 64) : Round c (loopNo Tryd.f28 15) (r2 a P h k f i) .normal (r2 a P h k (wStepR f i) (i + 1)) :=
  Round.of0 (.cons turn_ok.row (.nil _)) (says [(61, true)]) 8
    [WI ((i : Int) + 1), IX (i : Int) 64, IX ((i : Int) - 7) 64, WI ((i : Int) - 7), IX ((i : Int) - 16) 64, WI ((i : Int) - 16), IX ((i : Int) - 2) 64, WI ((i : Int) - 2), IX ((i : Int) - 15) 64, WI ((i : Int) - 15), decide ((i : Int) < 64) = true]
    (by kernel_rfl)
    ⟨wI (by omega) (by omega), ⟨by omega, by omega⟩, ⟨by omega, by omega⟩, wI (by omega) (by omega), ⟨by omega, by omega⟩, wI (by omega) (by omega), ⟨by omega, by omega⟩, wI (by omega) (by omega), ⟨by omega, by omega⟩, wI (by omega) (by omega), decide_eq_true (by omega), trivial⟩
    (by kernel_rfl) (by kernel_rfl) e1 e2 e3 e4
theorem r2_end (f : Nat → UInt32) : Round c (loopNo Tryd.f28 15) (r2 a P h k f 64) (.exit 6) (r1E a P h k f) :=
  Round.of0 (.cons turn_ok.row (.nil _)) (says [(61, false)]) 8 [decide (((64 : Nat) : Int) < 64) = false] (by kernel_rfl) ⟨by decide, trivial⟩ (by kernel_rfl) (by kernel_rfl) e1 e2 e3 e4
include hT in
theorem r3_one (f v : Nat → UInt32) (i : Nat) (hi : i < 64) : Round c (loopNo Tryd.f28 21) (r3 a P h k f v i) .normal (r3 a P h k f (rStepR (tabA (i + 8)) (f i) v) (i + 1)) :=
  Round.of0 (.cons turn_ok.row (.nil _)) (says [(103, true)]) 8 [WI ((i : Int) + 1), IX (i : Int) 64, ReadT W.cell? a (i + 8) 1, IX (i : Int) 64, decide ((i : Int) < 64) = true] (by kernel_rfl)
    ⟨wI (by omega) (by omega), ⟨by omega, by omega⟩, hT _ _ (by omega), ⟨by omega, by omega⟩, decide_eq_true (by omega), trivial⟩ (by kernel_rfl) (by kernel_rfl) e1 e2 e3 e4
theorem r3_end (f v : Nat → UInt32) : Round c (loopNo Tryd.f28 21) (r3 a P h k f v 64) (.exit 8) (r3E a P h k f v) :=
  Round.of0 (.cons turn_ok.row (.nil _)) (says [(103, false)]) 8 [decide (((64 : Nat) : Int) < 64) = false] (by kernel_rfl) ⟨by decide, trivial⟩ (by kernel_rfl) (by kernel_rfl) e1 e2 e3 e4
include hT in
theorem rO_one (hk : 64 * k + 64 ≤ P.length) (hP : P.length < 2097152) : Round c (loopNo Tryd.f28 4) (rO a P h k) .normal (rO a P (refComp P k h) (k + 1)) := by
  have s1 : SoundFor Tryd.prog W.cell? [] (.loop (loopNo Tryd.f28 8)) (r1 a P h k z64 0) (.exit 2) (r1E a P h k (hIt P k 16)) :=
    fun d q1 q2 q3 q4 => loopAt (c := d) (inv := fun i => r1 a P h k (hIt P k i) i) (N := 16) (by simp) (fun i hi => r1_one a P h k q1 q2 q3 q4 hk hP _ i hi) (r1_end a P h k (W := W) q1 q2 q3 q4 _)
  have s2 : SoundFor Tryd.prog W.cell? [] (.loop (loopNo Tryd.f28 15)) (r2 a P h k (hIt P k 16) 16) (.exit 6) (r1E a P h k (wItR (hIt P k 16) 48)) :=
    fun d q1 q2 q3 q4 => loopAt (c := d) (inv := fun i => r2 a P h k (wItR (hIt P k 16) i) (16 + i)) (N := 48) (by simp) (fun i hi => r2_one a P h k (W := W) q1 q2 q3 q4 _ (16 + i) (by omega) (by omega)) (r2_end a P h k (W := W) q1 q2 q3 q4 _)
  have s3 : SoundFor Tryd.prog W.cell? [] (.loop (loopNo Tryd.f28 21)) (r3 a P h k (wItR (hIt P k 16) 48) h 0) (.exit 8) (r3E a P h k (wItR (hIt P k 16) 48) (rItR (wItR (hIt P k 16) 48) h 64)) :=
    fun d q1 q2 q3 q4 => loopAt (c := d) (inv := fun i => r3 a P h k (wItR (hIt P k 16) 48) (rItR (wItR (hIt P k 16) 48) h i) i) (N := 64) (by simp) (fun i hi => r3_one a hT P h k q1 q2 q3 q4 _ _ i hi) (r3_end a P h k (W := W) q1 q2 q3 q4 _ _)
  unfold refComp
  revert s1 s2 s3
  generalize rItR (wItR (hIt P k 16) 48) h 64 = v
  generalize wItR (hIt P k 16) 48 = w2
  generalize hIt P k 16 = w1
  intro s1 s2 s3
  refine Round.of (.cons turn_ok.row (.nil _)) (ITblOK.nil _) (says [(32, true)]) (lps [(8, r1 a P h k z64 0, .exit 2, r1E a P h k w1), (15, r2 a P h k w1 16, .exit 6, r1E a P h k w2), (21, r3 a P h k w2 h 0, .exit 8, r3E a P h k w2 v)]) (YFOK.none _ _) 10
    [WI (((64 * k : Nat) : Int) + 64), ToldIs (r3 a P h k w2 h 0), ToldIs (r2 a P h k w1 16), ToldIs (r1 a P h k z64 0), decide (((64 * k : Nat) : Int) < (P.length : Int)) = true]
    (LoopsFor.cons (by kernel_rfl) s1 (LoopsFor.cons (by kernel_rfl) s2 (LoopsFor.cons (by kernel_rfl) s3 LoopsFor.nil))) (by kernel_rfl) ⟨wI (by omega) (by omega), toldIs _, toldIs _, toldIs _, decide_eq_true (by omega), trivial⟩ (by kernel_rfl) (by kernel_rfl) e1 e2 e3 e4
theorem rO_end (hk : P.length ≤ 64 * k) : Round c (loopNo Tryd.f28 4) (rO a P h k) (.exit 0) (rO a P h k) :=
  Round.of0 (.cons turn_ok.row (.nil _)) (says [(32, false)]) 8 [decide (((64 * k : Nat) : Int) < (P.length : Int)) = false] (by kernel_rfl) ⟨decide_eq_false (by omega), trivial⟩ (by kernel_rfl) (by kernel_rfl) e1 e2 e3 e4
end
theorem refSum_of (P : List UInt8 → List UInt8) (ht : TblOK Tryd.prog (tblRef P)) (h64 : ∀ l, (P l).length % 64 = 0) (hP : ∀ l, l.length < 1048576 → (P l).length < 2097152) :
    Computes A Tryd.prog 28 (fun x : Ptr Mk × Bt × Unit => (⟨outRf (refS (P x.2.1.l) ((P x.2.1.l).length / 64))⟩ : R8 32)) := by
  refine computes_of_runW ht (ITblOK.nil _) Tryd.func28 (by kernel_rfl) (by kernel_rfl) 40 ?_
  rintro ⟨a, g, _⟩ ⟨⟨m⟩, ⟨l⟩, ⟨⟩⟩ W ⟨ha, ⟨hg, hn⟩, _⟩
  have hg : HasBytes W l g := hg
  have hn : l.length < 1048576 := hn
  have hT : HasTab W a := by
    intro i n hin b hb j hj
    obtain rfl := Option.some.inj hb
    exact ha (i + j) (show i + j < 72 by omega)
  obtain ⟨p, hp⟩ : ∃ p, p = partB l 0 l.length := ⟨_, rfl⟩
  have hpl : p.length < 1048576 := by rw [hp, partB_all]; exact hn
  have h1 := h64 p
  have h2 := hP p hpl
  have hs : SoundFor Tryd.prog W.cell? [] (.loop (loopNo Tryd.f28 4)) (rO a (P p) hFirst 0) (.exit 0) (rO a (P p) (refS (P p) ((P p).length / 64)) ((P p).length / 64)) :=
    fun d q1 q2 q3 q4 => loopAt (c := d) (inv := fun i => rO a (P p) (refS (P p) i) i) (N := (P p).length / 64) (by simp) (fun i hi => rO_one a hT (P p) _ i q1 q2 q3 q4 (by omega) h2) (rO_end a (P p) _ _ (W := W) q1 q2 q3 q4 (by omega))
  have hy : (⟨outRf (refS (P p) ((P p).length / 64))⟩ : R8 32) = ⟨outRf (refS (P l) ((P l).length / 64))⟩ := by rw [hp, partB_all]
  revert hs hy
  generalize refS (P p) ((P p).length / 64) = h
  generalize (P p).length / 64 = q
  intro hs hy
  refine ⟨fun _ _ => .keep, lps [(4, rO a (P p) hFirst 0, .exit 0, rO a (P p) h q)], ⟨outRf h⟩, [ToldIs (rO a (P p) hFirst 0), p.length < 1048576, ReadB W g l, AllU8 l, ReadT W.cell? a 0 8], ?_, ⟨toldIs _, hpl, readB hg, allU8 l, hT _ _ (by omega), trivial⟩, hy, fun body hb => ?_⟩
  · subst hp
    kernel_rfl
  · obtain rfl := Option.some.inj hb
    exact LoopsFor.cons (by kernel_rfl) hs LoopsFor.nil
end Go.Proofs.YtaloefkkllebeaaDoor
