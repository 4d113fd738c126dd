/- Powers of fp12 and of six parts; powers of p, walked. -/
import Derived.Test.YtbdbmcdcjejffaaGe6
import Derived.Test.YtbdbmcdcjejffaaGa0
set_option linter.unusedVariables false
set_option linter.unusedSimpArgs false
set_option linter.unusedSectionVars false
namespace Go.Proofs.Ytbdbmcdcjejffaa
open Go Go.Sh


section
variable (g : Spot) (l : List UInt8) (a o r : F12) (Q : F12 → F12) (M : F12 → F12 → F12)
noncomputable def tblP12 : List (Row A) :=
  [rowOf A 98 (fun _ : Unit => o), rowOf A 141 (fun x : F12 × Unit => Q x.1), rowOf A 93 (fun x : F12 × F12 × Unit => M x.1 x.2.1), rowIn Try.prog [] [] (fun _ _ => .keep) 4 165 Try.f165]
/-- The memory of Pow while bits come; its loop. -/
def memP12 : Mem A :=
  [some ⟨Rep.shw (A := A) a, 86, false⟩, some ⟨(lit6 ++ lit6 ++ lit6 ++ lit6 ++ lit6 ++ lit6 ++ lit6 ++ lit6 ++ lit6 ++ lit6 ++ lit6 ++ lit6), 86, false⟩, some ⟨Rep.shw (A := A) r, 86, false⟩, some ⟨[.e g.a (byteAt l) 0 l.length g.c], 22, false⟩, none]
noncomputable def ysP12 : Ys A :=
  ⟨4, [10], rangeA Try.f139 3, rangeNo Try.f139 3, slotsU 0 18 [(0, Rep.tv (A := A) a), (1, .val false [.e g.a (byteAt l) 0 l.length g.c]), (2, .val false [.p 0 0]), (4, .val false [.p 1 0]), (5, .val false [.p 2 0]), (7, Rep.tv (A := A) o), (8, .val false [.e g.a (byteAt l) 0 l.length g.c]), (9, .val false [.f 186 [(3, 0)]])]⟩
def inSP12 (k : Nat) (x : UInt8) (z : Int) : St A := ⟨inT g l k x z, memP12 g l a r, 0, [], [none]⟩
def outSP12 (k : Nat) : St A := ⟨outT g l k, memP12 g l a r, 0, [], [none]⟩
end
theorem yfP12 (old : Addr → Option Value) (g : Spot) (l : List UInt8) (a o : F12) (Q : F12 → F12) (M : F12 → F12 → F12) (ht : TblOK Try.prog (tblP12 o Q M)) (b : Bool) :
    YFOK Try.prog old [ysP12 g l a o] (pushY (exec (cfg Try.prog (tblP12 o Q M) (says [(13, b)]) old) 4 (ysP12 g l a o).assign) (exec (cfg Try.prog (tblP12 o Q M) (says [(13, b)]) old) 4 (ysP12 g l a o).body) (ysP12 g l a o) noYield) :=
  YFOK.push (cfgOK0 ht (ITblOK.nil _) (says [(13, b)]) old noLoop) 4 (ysP12 g l a o) (loopsOK_none _ _ _ _ _ _ _ _) (loopsOK_none _ _ _ _ _ _ _ _)
theorem inP12_ok (old : Addr → Option Value) (g : Spot) (l : List UInt8) (a o : F12) (Q : F12 → F12) (M : F12 → F12 → F12) (ht : TblOK Try.prog (tblP12 o Q M)) (i : Nat) :
    SoundFor Try.prog old [ysP12 g l a o] (.loop (loopNo Try.f186 4)) (inSP12 g l a (rpG o Q M l a (8 * i)) i (l.getD i 0) 7) (.exit 2) (inSP12 g l a (rpG o Q M l a (8 * i + 8)) i (l.getD i 0) (-1)) := by
  have h : SoundFor Try.prog old [ysP12 g l a o] (.loop (loopNo Try.f186 4)) (inSP12 g l a (rpG o Q M l a (8 * i + 0)) i (l.getD i 0) (7 - ((0 : Nat) : Int))) (.exit 2) (inSP12 g l a (rpG o Q M l a (8 * i + 8)) i (l.getD i 0) (7 - ((8 : Nat) : Int))) := by
    intro c e1 e2 e3 e4
    refine loopAt (inv := fun j => inSP12 g l a (rpG o Q M l a (8 * i + j)) i (l.getD i 0) (7 - (j : Int))) (N := 8) (by simp) (fun j hj => ?_) ?_
    · have hz : (7 : Int) - ((j + 1 : Nat) : Int) = 7 - (j : Int) - 1 := by omega
      have hb : bitC l (8 * i + j) = bitx (l.getD i 0) (7 - (j : Int)) := by
        unfold bitC
        rw [show (8 * i + j) / 8 = i by omega, show (8 * i + j) % 8 = j by omega]
      have hr1 : rpG o Q M l a (8 * i + (j + 1)) = (match bitx (l.getD i 0) (7 - (j : Int)) with | true => M (Q (rpG o Q M l a (8 * i + j))) a | false => Q (rpG o Q M l a (8 * i + j))) := by rw [← hb]; rfl
      rw [hr1, hz]
      have h1 : (7 : Int) - j ≥ 0 := by omega
      have h2 : WrapI ((7 : Int) - j - 1) := wrapI (by omega) (by omega)
      revert h1 h2
      generalize (7 : Int) - j = z
      generalize rpG o Q M l a (8 * i + j) = r
      generalize l.getD i 0 = x
      intro h1 h2
      have h3 : (0 : Int) ≤ ((UInt64.ofNat (z % 18446744073709551616).toNat).toNat : Int) := by omega
      cases h4 : bitx x z with
      | true => exact Round.of (TblOK.nil _) (ITblOK.nil _) (says [(13, true), (24, false)]) noLoop (yfP12 old g l a o Q M ht true) 4 [WrapI (z - 1), bitx x z = true, (0 : Int) ≤ ((UInt64.ofNat (z % 18446744073709551616).toNat).toNat : Int), decide (z ≥ 0) = true] loopsFor_none (by kernel_rfl) ⟨h2, h4, h3, decide_eq_true h1, trivial⟩ (by kernel_rfl) (by kernel_rfl) e1 e2 e3 e4
      | false => exact Round.of (TblOK.nil _) (ITblOK.nil _) (says [(13, true), (24, false)]) noLoop (yfP12 old g l a o Q M ht false) 4 [WrapI (z - 1), bitx x z = false, (0 : Int) ≤ ((UInt64.ofNat (z % 18446744073709551616).toNat).toNat : Int), decide (z ≥ 0) = true] loopsFor_none (by kernel_rfl) ⟨h2, h4, h3, decide_eq_true h1, trivial⟩ (by kernel_rfl) (by kernel_rfl) e1 e2 e3 e4
    · generalize rpG o Q M l a (8 * i + 8) = r
      generalize l.getD i 0 = x
      exact Round.of (TblOK.nil _) (ITblOK.nil _) (says [(13, false)]) noLoop (yfP12 old g l a o Q M ht false) 4 [decide ((7 : Int) - ((8 : Nat) : Int) ≥ 0) = false] loopsFor_none (by kernel_rfl) ⟨by decide, trivial⟩ (by kernel_rfl) (by kernel_rfl) e1 e2 e3 e4
  exact h
theorem outP12_ok (W : World) (g : Spot) (l : List UInt8) (hg : HasBytes W l g) (hl : l.length < 1048576) (a o : F12) (Q : F12 → F12) (M : F12 → F12 → F12) (ht : TblOK Try.prog (tblP12 o Q M)) :
    SoundFor Try.prog W.cell? [ysP12 g l a o] (.loop (loopNo Try.f186 1)) (outSP12 g l a o 0) (.exit 0) (outSP12 g l a (rpG o Q M l a (8 * l.length)) l.length) := by
  intro c e1 e2 e3 e4
  refine loopAt (inv := fun k => outSP12 g l a (rpG o Q M l a (8 * k)) k) (N := l.length) (by simp) (fun k hk => ?_) ?_
  · have hin := inP12_ok W.cell? g l a o Q M ht k
    rw [show 8 * (k + 1) = 8 * k + 8 by omega]
    have hw : WrapI ((k : Int) + 1) := wrapI (by omega) (by omega)
    have hrd : Reads W.cell? g.a (byteAt (B := FB) l) (k : Int).toNat 1 := reads_bytes hg (by omega)
    have hix : Idx (k : Int) l.length := ⟨by omega, by omega⟩
    have hlt : decide ((k : Int) < (l.length : Int)) = true := decide_eq_true (by omega)
    revert hin
    generalize rpG o Q M l a (8 * k) = r
    generalize rpG o Q M l a (8 * k + 8) = r'
    intro hin
    refine Round.of (TblOK.nil _) (ITblOK.nil _) (says [(9, true)]) (lps [(4, inSP12 g l a r k (l.getD k 0) 7, .exit 2, inSP12 g l a r' k (l.getD k 0) (-1))]) (yfP12 W.cell? g l a o Q M ht false) 4 [WrapI ((k : Int) + 1), ToldIs (inSP12 g l a r k (l.getD k 0) 7), Reads W.cell? g.a (byteAt (B := FB) l) (k : Int).toNat 1, Idx (k : Int) l.length, decide ((k : Int) < (l.length : Int)) = true] (LoopsFor.cons ?_ hin LoopsFor.nil) (by kernel_rfl) ⟨hw, toldIs _, hrd, hix, hlt, trivial⟩ (by kernel_rfl) (by kernel_rfl) e1 e2 e3 e4
    kernel_rfl
  · generalize rpG o Q M l a (8 * l.length) = r
    exact Round.of (TblOK.nil _) (ITblOK.nil _) (says [(9, false)]) noLoop (yfP12 W.cell? g l a o Q M ht false) 4 [decide ((l.length : Int) < (l.length : Int)) = false] loopsFor_none (by kernel_rfl) ⟨decide_eq_false (by omega), trivial⟩ (by kernel_rfl) (by kernel_rfl) e1 e2 e3 e4
theorem powP12_of (o : F12) (Q : F12 → F12) (M : F12 → F12 → F12) (ht : TblOK Try.prog (tblP12 o Q M)) :
    Computes A Try.prog 139 (fun x : F12 × Bt × Unit => rpG o Q M x.2.1.l x.1 (8 * x.2.1.l.length)) := by
  refine computes_of_runT Try.func139 (by kernel_rfl) (by kernel_rfl) 4 ?_
  rintro ⟨_, g, _⟩ ⟨a, ⟨l⟩, ⟨⟩⟩ W ⟨_, ⟨hg, hl⟩, _⟩
  have hs := outP12_ok W g l hg hl a o Q M ht
  obtain ⟨r, hr⟩ : ∃ r, r = rpG o Q M l a (8 * l.length) := ⟨_, rfl⟩
  obtain ⟨n, hn⟩ : ∃ n, n = l.length := ⟨_, rfl⟩
  simp only [← hr]
  rw [← hr] at hs
  refine ⟨tblP12 o Q M, [iterW Try.prog [] [] (fun _ _ => .keep) (lps [(1, outSP12 g l a o 0, .exit 0, outSP12 g l a r l.length)]) 4 186 Try.f186], ht, ITblOK.cons (iterW_ok (TblOK.nil _) (ITblOK.nil _) _ _ 4 Try.func186 (by kernel_rfl) (by kernel_rfl)) (ITblOK.nil _),
    fun _ _ => .keep, noLoop, r, [∀ body, Try.f186.body = some body → LoopsFor Try.prog W.cell? [ysP12 g l a o] (lps [(1, outSP12 g l a o 0, .exit 0, outSP12 g l a r l.length)]) body, ToldIs (outSP12 g l a o 0)], by kernel_rfl, ⟨?_, toldIs _, trivial⟩, rfl, fun body _ => loopsFor_none⟩
  intro body hb
  refine LoopsFor.cons ?_ hs LoopsFor.nil
  obtain rfl := Option.some.inj hb
  kernel_rfl


section
variable (g : Spot) (l : List UInt8) (a o r : T6) (M : T6 → T6 → T6)
noncomputable def tblRT : List (Row A) := [rowOf A 81 (fun x : T6 × T6 × Unit => M x.1 x.2.1), rowOf A 182 (fun _ : Unit => o)]
def stRT (k : Nat) : St A :=
  ⟨slots 0 33 [(1, .val false [.e g.a (byteAt l) 0 l.length g.c]), (2, .val false [.p 0 0]), (4, .val false [.p 1 0]), (5, .val false [.p 2 0]), (6, .val false [.n .i64 k])],
   [some ⟨Rep.shw (A := A) a, 75, false⟩, some ⟨(lit6 ++ lit6 ++ lit6 ++ lit6 ++ lit6 ++ lit6 ++ lit6 ++ lit6 ++ lit6 ++ lit6 ++ lit6 ++ lit6), 75, false⟩, some ⟨Rep.shw (A := A) r, 75, false⟩], 0, [], []⟩
end
def bitRT (l : List UInt8) (k : Nat) : Bool := bitB l k
theorem loopRT_ok (W : World) (g : Spot) (l : List UInt8) (hg : HasBytes W l g) (hl : l.length < 1048576) (a o : T6) (M : T6 → T6 → T6) (ht : TblOK Try.prog (tblRT o M)) :
    SoundFor Try.prog W.cell? [] (.loop (loopNo Try.f140 3)) (stRT g l a o 0) (.exit 0) (stRT g l a (rpG o (fun x => M x x) M l a (8 * l.length)) (8 * l.length)) := by
  intro c e1 e2 e3 e4
  refine loopAt (inv := fun k => stRT g l a (rpG o (fun x => M x x) M l a k) k) (N := 8 * l.length) (by simp) (fun k hk => ?_) ?_
  · have h1 : (k : Int).tdiv 8 = (k / 8 : Nat) := rfl
    have h2 : (k : Int).tmod 8 = (k % 8 : Nat) := rfl
    have all : All [(0 : Int) ≤ 7 - (k : Int).tmod 8, WrapI (7 - (k : Int).tmod 8), Reads W.cell? g.a (byteAt (B := FB) l) ((k : Int).tdiv 8).toNat 1, Idx ((k : Int).tdiv 8) l.length, WrapI ((k : Int).tdiv 8), decide ((k : Int) < 8 * l.length) = true, WrapI (8 * (l.length : Int))] :=
      ⟨by rw [h2]; omega, wrapI (by rw [h2]; omega) (by rw [h2]; omega), reads_bytes hg (by rw [h1]; omega), ⟨by rw [h1]; omega, by rw [h1]; omega⟩, wrapI (by rw [h1]; omega) (by rw [h1]; omega), decide_eq_true (by omega), wrapI (by omega) (by omega), trivial⟩
    have hw : WrapI ((k : Int) + 1) := wrapI (by omega) (by omega)
    have e : rpG o (fun x => M x x) M l a (k + 1) = (match bitB l k with | true => M (M (rpG o (fun x => M x x) M l a k) (rpG o (fun x => M x x) M l a k)) a | false => M (rpG o (fun x => M x x) M l a k) (rpG o (fun x => M x x) M l a k)) := by rw [← bitC_eq]; rfl
    rw [e]
    generalize rpG o (fun x => M x x) M l a k = r
    cases hb : bitB l k with
    | true => exact Round.of0 ht (says [(12, true), (28, true)]) 4 (WrapI ((k : Int) + 1) :: (bitB l k = true) :: _) (by kernel_rfl) (All.cons hw (All.cons hb all)) (by kernel_rfl) (by kernel_rfl) e1 e2 e3 e4
    | false => exact Round.of0 ht (says [(12, true), (28, false)]) 4 (WrapI ((k : Int) + 1) :: (bitB l k = false) :: _) (by kernel_rfl) (All.cons hw (All.cons hb all)) (by kernel_rfl) (by kernel_rfl) e1 e2 e3 e4
  · generalize rpG o (fun x => M x x) M l a (8 * l.length) = r
    obtain ⟨n, hn⟩ : ∃ n, n = 8 * l.length := ⟨_, rfl⟩
    simp only [← hn]
    exact Round.of0 ht (says [(12, false)]) 4 [decide ((n : Int) < 8 * l.length) = false, WrapI (8 * (l.length : Int))] (by kernel_rfl) ⟨decide_eq_false (by omega), wrapI (by omega) (by omega), trivial⟩ (by kernel_rfl) (by kernel_rfl) e1 e2 e3 e4
theorem powRT_of (o : T6) (M : T6 → T6 → T6) (ht : TblOK Try.prog (tblRT o M)) : Computes A Try.prog 140 (fun x : T6 × Bt × Unit => rpG o (fun x => M x x) M x.2.1.l x.1 (8 * x.2.1.l.length)) := by
  refine computes_of_runW ht (ITblOK.nil _) Try.func140 (by kernel_rfl) (by kernel_rfl) 4 ?_
  rintro ⟨_, g, _⟩ ⟨a, ⟨l⟩, ⟨⟩⟩ W ⟨_, ⟨hg, hl⟩, _⟩
  have hs := loopRT_ok W g l hg hl a o M ht
  obtain ⟨r, hr⟩ : ∃ r, r = rpG o (fun x => M x x) M l a (8 * l.length) := ⟨_, rfl⟩
  obtain ⟨n, hn⟩ : ∃ n, n = 8 * l.length := ⟨_, rfl⟩
  simp only [← hr]
  rw [← hr, ← hn] at hs
  refine ⟨fun _ _ => .keep, lps [(3, stRT g l a o 0, .exit 0, stRT g l a r n)], r, [ToldIs (stRT g l a o 0)], (by kernel_rfl), ⟨toldIs _, trivial⟩, rfl, ?_⟩
  intro body hb
  refine LoopsFor.cons ?_ hs LoopsFor.nil
  obtain rfl := Option.some.inj hb
  kernel_rfl

theorem text2_ok : Computes A Try.prog 173 (fun x : TxK × TxK × Unit => ((x.1.fp, x.2.1.fp) : F2)) := by
  refine computes_of_run0 (.cons text_ok.row (.nil _)) Try.func173 (by kernel_rfl) (by kernel_rfl) 8 ?_
  rintro _ ⟨j, k, ⟨⟩⟩ W
  cases j <;> cases k <;> kernel_rfl
/-- A remainder, as it is taken. -/
def modI (n : Int) (d : Int) : Int := if n.tmod d < 0 then n.tmod d + d else n.tmod d
def itN {X : Type} (f : X → X) : Nat → X → X
  | 0, a => a
  | k + 1, a => f (itN f k a)

section
variable (Tx : TxK → TxK → F2) (C : F2 → F2) (M : F2 → F2 → F2)
noncomputable def tblF6 : List (Row A) :=
  [rowOf A 173 (fun x : TxK × TxK × Unit => Tx x.1 x.2.1), rowOf A 112 (fun x : F2 × Unit => C x.1), rowOf A 111 (fun x : F2 × F2 × Unit => M x.1 x.2.1)]
def stepF6 (z : F6) : F6 := (C z.1, M (C z.2.1) (Tx .none .v1), M (C z.2.2) (Tx .v2 .none))
def stF6 (z : Int) (r : F6) (k : Nat) : St A :=
  ⟨slots 0 34 [(2, .val false [.p 0 0]), (4, .val false [.p 1 0]), (5, .val false [.p 2 0]), (6, .val false [.p 3 0]), (15, .val false [.n .i64 z]), (16, .val false [.n .i64 k])], [some ⟨Rep.shw (A := A) r, 66, false⟩, some ⟨(lit6 ++ lit6 ++ lit6 ++ lit6 ++ lit6 ++ lit6), 66, false⟩, some ⟨Rep.shw (A := A) (Tx .none .v1), 64, false⟩, some ⟨Rep.shw (A := A) (Tx .v2 .none), 64, false⟩], 0, [], []⟩
end
theorem loopF6 (W : World) (Tx : TxK → TxK → F2) (C : F2 → F2) (M : F2 → F2 → F2) (ht : TblOK Try.prog (tblF6 Tx C M)) (a : F6) (z : Int) (h0 : 0 ≤ z) (h1 : z < 1000) :
    SoundFor Try.prog W.cell? [] (.loop (loopNo Try.f88 6)) (stF6 Tx z a 0) (.exit 0) (stF6 Tx z (itN (stepF6 Tx C M) z.toNat a) z.toNat) := by
  intro c e1 e2 e3 e4
  refine loopAt (inv := fun k => stF6 Tx z (itN (stepF6 Tx C M) k a) k) (N := z.toNat) (by simp) (fun k hk => ?_) ?_
  · have hw : WrapI ((k : Int) + 1) := wrapI (by omega) (by omega)
    have hd : decide ((k : Int) < z) = true := decide_eq_true (by omega)
    show Round c _ (stF6 Tx z (itN (stepF6 Tx C M) k a) k) .normal (stF6 Tx z (stepF6 Tx C M (itN (stepF6 Tx C M) k a)) (k + 1))
    generalize itN (stepF6 Tx C M) k a = r
    exact Round.of0 ht (says [(17, true)]) 4 [WrapI ((k : Int) + 1), decide ((k : Int) < z) = true] (by kernel_rfl) ⟨hw, hd, trivial⟩ (by kernel_rfl) (by kernel_rfl) e1 e2 e3 e4
  · generalize itN (stepF6 Tx C M) z.toNat a = r
    have hd : decide ((z.toNat : Int) < z) = false := decide_eq_false (by omega)
    revert hd
    generalize z.toNat = n
    intro hd
    exact Round.of0 ht (says [(17, false)]) 4 [decide ((n : Int) < z) = false] (by kernel_rfl) ⟨hd, trivial⟩ (by kernel_rfl) (by kernel_rfl) e1 e2 e3 e4
theorem frobF6_of (Tx : TxK → TxK → F2) (C : F2 → F2) (M : F2 → F2 → F2) (ht : TblOK Try.prog (tblF6 Tx C M)) : Computes A Try.prog 88 (fun x : F6 × Int × Unit => itN (stepF6 Tx C M) (modI x.2.1 6).toNat x.1) := by
  refine computes_of_runW ht (ITblOK.nil _) Try.func88 (by kernel_rfl) (by kernel_rfl) 4 ?_
  rintro _ ⟨a, n, ⟨⟩⟩ W -
  have lo : -6 < n.tmod 6 := Int.lt_tmod_of_pos n (by decide)
  have hi : n.tmod 6 < 6 := Int.tmod_lt_of_pos n (by decide)
  have told : ∀ z : Int, 0 ≤ z → z < 1000 → ∀ body, Try.f88.body = some body → LoopsFor Try.prog W.cell? [] (lps [(6, stF6 Tx z a 0, .exit 0, stF6 Tx z (itN (stepF6 Tx C M) z.toNat a) z.toNat)]) body := by
    intro z h0 h1 body hb
    refine LoopsFor.cons ?_ (loopF6 W Tx C M ht a z h0 h1) LoopsFor.nil
    obtain rfl := Option.some.inj hb
    kernel_rfl
  by_cases h : n.tmod 6 < 0
  · have e : modI n 6 = n.tmod 6 + 6 := if_pos h
    have hd : decide (n.tmod 6 < 0) = true := decide_eq_true h
    have hw : WrapI (n.tmod 6 + 6) := wrapI (by omega) (by omega)
    have tz := told (n.tmod 6 + 6) (by omega) (by omega)
    simp only [e]
    revert tz hw hd
    generalize itN (stepF6 Tx C M) (n.tmod 6 + 6).toNat a = r
    intro hd hw tz
    exact ⟨says [(10, true)], _, r, [ToldIs (stF6 Tx (n.tmod 6 + 6) a 0), WrapI (n.tmod 6 + 6), decide (n.tmod 6 < 0) = true], by kernel_rfl, ⟨toldIs _, hw, hd, trivial⟩, rfl, tz⟩
  · have e : modI n 6 = n.tmod 6 := if_neg h
    have hd : decide (n.tmod 6 < 0) = false := decide_eq_false h
    have tz := told (n.tmod 6) (by omega) (by omega)
    simp only [e]
    revert tz hd
    generalize itN (stepF6 Tx C M) (n.tmod 6).toNat a = r
    intro hd tz
    exact ⟨says [(10, false)], _, r, [ToldIs (stF6 Tx (n.tmod 6) a 0), decide (n.tmod 6 < 0) = false], by kernel_rfl, ⟨toldIs _, hd, trivial⟩, rfl, tz⟩

section
variable (Tx : TxK → TxK → F2) (Fr : F6 → Int → F6) (S : F6 → F2 → F6)
noncomputable def tblF12 : List (Row A) :=
  [rowOf A 173 (fun x : TxK × TxK × Unit => Tx x.1 x.2.1), rowOf A 88 (fun x : F6 × Int × Unit => Fr x.1 x.2.1), rowOf A 83 (fun x : F6 × F2 × Unit => S x.1 x.2.1)]
def stepF12 (z : F12) : F12 := (Fr z.1 1, S (Fr z.2 1) (Tx .w0 .w1))
def stF12 (z : Int) (r : F12) (k : Nat) : St A :=
  ⟨slots 0 27 [(2, .val false [.p 0 0]), (4, .val false [.p 1 0]), (5, .val false [.p 2 0]), (13, .val false [.n .i64 z]), (14, .val false [.n .i64 k])], [some ⟨Rep.shw (A := A) r, 86, false⟩, some ⟨(lit6 ++ lit6 ++ lit6 ++ lit6 ++ lit6 ++ lit6 ++ lit6 ++ lit6 ++ lit6 ++ lit6 ++ lit6 ++ lit6), 86, false⟩, some ⟨Rep.shw (A := A) (Tx .w0 .w1), 64, false⟩], 0, [], []⟩
end
theorem loopF12 (W : World) (Tx : TxK → TxK → F2) (Fr : F6 → Int → F6) (S : F6 → F2 → F6) (ht : TblOK Try.prog (tblF12 Tx Fr S)) (a : F12) (z : Int) (h0 : 0 ≤ z) (h1 : z < 1000) :
    SoundFor Try.prog W.cell? [] (.loop (loopNo Try.f143 6)) (stF12 Tx z a 0) (.exit 0) (stF12 Tx z (itN (stepF12 Tx Fr S) z.toNat a) z.toNat) := by
  intro c e1 e2 e3 e4
  refine loopAt (inv := fun k => stF12 Tx z (itN (stepF12 Tx Fr S) k a) k) (N := z.toNat) (by simp) (fun k hk => ?_) ?_
  · have hw : WrapI ((k : Int) + 1) := wrapI (by omega) (by omega)
    have hd : decide ((k : Int) < z) = true := decide_eq_true (by omega)
    show Round c _ (stF12 Tx z (itN (stepF12 Tx Fr S) k a) k) .normal (stF12 Tx z (stepF12 Tx Fr S (itN (stepF12 Tx Fr S) k a)) (k + 1))
    generalize itN (stepF12 Tx Fr S) k a = r
    exact Round.of0 ht (says [(15, true)]) 4 [WrapI ((k : Int) + 1), decide ((k : Int) < z) = true] (by kernel_rfl) ⟨hw, hd, trivial⟩ (by kernel_rfl) (by kernel_rfl) e1 e2 e3 e4
  · generalize itN (stepF12 Tx Fr S) z.toNat a = r
    have hd : decide ((z.toNat : Int) < z) = false := decide_eq_false (by omega)
    revert hd
    generalize z.toNat = n
    intro hd
    exact Round.of0 ht (says [(15, false)]) 4 [decide ((n : Int) < z) = false] (by kernel_rfl) ⟨hd, trivial⟩ (by kernel_rfl) (by kernel_rfl) e1 e2 e3 e4
theorem frobF12_of (Tx : TxK → TxK → F2) (Fr : F6 → Int → F6) (S : F6 → F2 → F6) (ht : TblOK Try.prog (tblF12 Tx Fr S)) : Computes A Try.prog 143 (fun x : F12 × Int × Unit => itN (stepF12 Tx Fr S) (modI x.2.1 12).toNat x.1) := by
  refine computes_of_runW ht (ITblOK.nil _) Try.func143 (by kernel_rfl) (by kernel_rfl) 4 ?_
  rintro _ ⟨a, n, ⟨⟩⟩ W -
  have lo : -12 < n.tmod 12 := Int.lt_tmod_of_pos n (by decide)
  have hi : n.tmod 12 < 12 := Int.tmod_lt_of_pos n (by decide)
  have told : ∀ z : Int, 0 ≤ z → z < 1000 → ∀ body, Try.f143.body = some body → LoopsFor Try.prog W.cell? [] (lps [(6, stF12 Tx z a 0, .exit 0, stF12 Tx z (itN (stepF12 Tx Fr S) z.toNat a) z.toNat)]) body := by
    intro z h0 h1 body hb
    refine LoopsFor.cons ?_ (loopF12 W Tx Fr S ht a z h0 h1) LoopsFor.nil
    obtain rfl := Option.some.inj hb
    kernel_rfl
  by_cases h : n.tmod 12 < 0
  · have e : modI n 12 = n.tmod 12 + 12 := if_pos h
    have hd : decide (n.tmod 12 < 0) = true := decide_eq_true h
    have hw : WrapI (n.tmod 12 + 12) := wrapI (by omega) (by omega)
    have tz := told (n.tmod 12 + 12) (by omega) (by omega)
    simp only [e]
    revert tz hw hd
    generalize itN (stepF12 Tx Fr S) (n.tmod 12 + 12).toNat a = r
    intro hd hw tz
    exact ⟨says [(9, true)], _, r, [ToldIs (stF12 Tx (n.tmod 12 + 12) a 0), WrapI (n.tmod 12 + 12), decide (n.tmod 12 < 0) = true], by kernel_rfl, ⟨toldIs _, hw, hd, trivial⟩, rfl, tz⟩
  · have e : modI n 12 = n.tmod 12 := if_neg h
    have hd : decide (n.tmod 12 < 0) = false := decide_eq_false h
    have tz := told (n.tmod 12) (by omega) (by omega)
    simp only [e]
    revert tz hd
    generalize itN (stepF12 Tx Fr S) (n.tmod 12).toNat a = r
    intro hd tz
    exact ⟨says [(9, false)], _, r, [ToldIs (stF12 Tx (n.tmod 12) a 0), decide (n.tmod 12 < 0) = false], by kernel_rfl, ⟨toldIs _, hd, trivial⟩, rfl, tz⟩

/-- The number one, handed over. -/
structure I1 where
instance : Arg A I1 where
  G := Unit
  good _ _ _ := True
  tv _ _ := .val false [.v (.int .i64 1)]
  val _ _ := .int .i64 1
  is _ _ := LIs.of_single ⟨rfl, rfl⟩
  parse _ _ t := match t with | .val false [.v (.int .i64 (.ofNat 1))] => some (⟨⟩, []) | _ => none
  ok := by
    intro c X W0 W β m t x vc v h _ _ e
    split at h
    · obtain ⟨e1, _⟩ := LIs.single (e : LIs β _ [v])
      simp at e1
      exact ⟨(), trivial, e1⟩
    · cases h
theorem frobT1_of (tpow : T6 → List UInt8 → T6) (Pm : Num) (B8 : Num → R8 48) (ht : TblOK Try.prog [rowOf A 140 (fun x : T6 × Bt × Unit => tpow x.1 x.2.1.l), rowOf A 30 (fun _ : Unit => Pm), rowOf A 136 (fun x : Num × Unit => B8 x.1)]) :
    Computes A Try.prog 89 (fun x : T6 × I1 × Unit => tpow x.1 (listB (B8 Pm).f)) := by
  refine computes_of_run ht Try.func89 (by kernel_rfl) (by kernel_rfl) 8 ?_
  rintro _ ⟨a, _, ⟨⟩⟩ W -
  exact ⟨fun _ _ => .keep, _, [(listB (B8 Pm).f).length < 1048576], (by kernel_rfl : _ = some (some (tpow a (listB (B8 Pm).f)), _)), ⟨by unfold listB; rw [List.length_map, List.length_range]; decide, trivial⟩, rfl⟩

end Go.Proofs.Ytbdbmcdcjejffaa
