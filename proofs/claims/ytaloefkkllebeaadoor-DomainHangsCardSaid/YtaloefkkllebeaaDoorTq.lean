/- Roots: the examples; the law of headers that differ. -/
import Derived.Test.YtaloefkkllebeaaDoorTl
set_option linter.unusedVariables false
set_option linter.unusedSimpArgs false
set_option linter.unusedSectionVars false
set_option maxRecDepth 100000
namespace Go.Proofs.YtaloefkkllebeaaDoor
open Go Go.Sh
noncomputable def tblK20 (Hr : Hd → R8 32) (ZR : Int → R8 32) (Co : Ck → R8 32) : List (Row A) :=
  [rowOf A 39 (fun _ : Unit => (⟨.mk⟩ : Hz Mk)), rowOf A 43 (fun x : GA (Hd × Unit) => Hr x.x.1), rowOf A 41 (fun x : Hs Mk × Int × Unit => ZR x.2.1), rowOf A 44 (fun x : GA (Ck × Unit) => Co x.x.1)]
def b1 : R8 32 := ⟨pickN 0 [UInt8.ofNat 245, UInt8.ofNat 165, UInt8.ofNat 253, UInt8.ofNat 66, UInt8.ofNat 209, UInt8.ofNat 106, UInt8.ofNat 32, UInt8.ofNat 48, UInt8.ofNat 39, UInt8.ofNat 152, UInt8.ofNat 239, UInt8.ofNat 110, UInt8.ofNat 211, UInt8.ofNat 9, UInt8.ofNat 151, UInt8.ofNat 155, UInt8.ofNat 67, UInt8.ofNat 0, UInt8.ofNat 61, UInt8.ofNat 35, UInt8.ofNat 32, UInt8.ofNat 217, UInt8.ofNat 240, UInt8.ofNat 232, UInt8.ofNat 234, UInt8.ofNat 152, UInt8.ofNat 49, UInt8.ofNat 169, UInt8.ofNat 39, UInt8.ofNat 89, UInt8.ofNat 251, UInt8.ofNat 75]⟩
def b2 : R8 32 := ⟨pickN 0 [UInt8.ofNat 219, UInt8.ofNat 86, UInt8.ofNat 17, UInt8.ofNat 78, UInt8.ofNat 0, UInt8.ofNat 253, UInt8.ofNat 212, UInt8.ofNat 193, UInt8.ofNat 248, UInt8.ofNat 92, UInt8.ofNat 137, UInt8.ofNat 43, UInt8.ofNat 243, UInt8.ofNat 90, UInt8.ofNat 201, UInt8.ofNat 168, UInt8.ofNat 146, UInt8.ofNat 137, UInt8.ofNat 170, UInt8.ofNat 236, UInt8.ofNat 177, UInt8.ofNat 235, UInt8.ofNat 208, UInt8.ofNat 169, UInt8.ofNat 108, UInt8.ofNat 222, UInt8.ofNat 96, UInt8.ofNat 106, UInt8.ofNat 116, UInt8.ofNat 139, UInt8.ofNat 93, UInt8.ofNat 113]⟩
def b3 : R8 32 := ⟨pickN 0 [UInt8.ofNat 199, UInt8.ofNat 128, UInt8.ofNat 9, UInt8.ofNat 253, UInt8.ofNat 240, UInt8.ofNat 127, UInt8.ofNat 197, UInt8.ofNat 106, UInt8.ofNat 17, UInt8.ofNat 241, UInt8.ofNat 34, UInt8.ofNat 55, UInt8.ofNat 6, UInt8.ofNat 88, UInt8.ofNat 163, UInt8.ofNat 83, UInt8.ofNat 170, UInt8.ofNat 165, UInt8.ofNat 66, UInt8.ofNat 237, UInt8.ofNat 99, UInt8.ofNat 228, UInt8.ofNat 76, UInt8.ofNat 75, UInt8.ofNat 193, UInt8.ofNat 95, UInt8.ofNat 244, UInt8.ofNat 205, UInt8.ofNat 16, UInt8.ofNat 90, UInt8.ofNat 179, UInt8.ofNat 60]⟩
def n1 : R8 32 := ⟨pickN 0 [UInt8.ofNat 22, UInt8.ofNat 171, UInt8.ofNat 171, UInt8.ofNat 52, UInt8.ofNat 31, UInt8.ofNat 183, UInt8.ofNat 243, UInt8.ofNat 112, UInt8.ofNat 226, UInt8.ofNat 126, UInt8.ofNat 77, UInt8.ofNat 173, UInt8.ofNat 207, UInt8.ofNat 129, UInt8.ofNat 118, UInt8.ofNat 109, UInt8.ofNat 208, UInt8.ofNat 223, UInt8.ofNat 208, UInt8.ofNat 174, UInt8.ofNat 100, UInt8.ofNat 70, UInt8.ofNat 148, UInt8.ofNat 119, UInt8.ofNat 187, UInt8.ofNat 44, UInt8.ofNat 246, UInt8.ofNat 97, UInt8.ofNat 73, UInt8.ofNat 56, UInt8.ofNat 178, UInt8.ofNat 175]⟩
def n2 : R8 32 := ⟨pickN 0 [UInt8.ofNat 85, UInt8.ofNat 60, UInt8.ofNat 140, UInt8.ofNat 207, UInt8.ofNat 210, UInt8.ofNat 11, UInt8.ofNat 180, UInt8.ofNat 219, UInt8.ofNat 34, UInt8.ofNat 75, UInt8.ofNat 26, UInt8.ofNat 228, UInt8.ofNat 115, UInt8.ofNat 89, UInt8.ofNat 233, UInt8.ofNat 150, UInt8.ofNat 138, UInt8.ofNat 92, UInt8.ofNat 128, UInt8.ofNat 152, UInt8.ofNat 193, UInt8.ofNat 93, UInt8.ofNat 139, UInt8.ofNat 247, UInt8.ofNat 40, UInt8.ofNat 177, UInt8.ofNat 158, UInt8.ofNat 85, UInt8.ofNat 116, UInt8.ofNat 156, UInt8.ofNat 119, UInt8.ofNat 59]⟩
def n3 : R8 32 := ⟨pickN 0 [UInt8.ofNat 139, UInt8.ofNat 178, UInt8.ofNat 240, UInt8.ofNat 157, UInt8.ofNat 228, UInt8.ofNat 140, UInt8.ofNat 16, UInt8.ofNat 38, UInt8.ofNat 53, UInt8.ofNat 98, UInt8.ofNat 45, UInt8.ofNat 194, UInt8.ofNat 126, UInt8.ofNat 109, UInt8.ofNat 224, UInt8.ofNat 58, UInt8.ofNat 226, UInt8.ofNat 178, UInt8.ofNat 38, UInt8.ofNat 57, UInt8.ofNat 223, UInt8.ofNat 124, UInt8.ofNat 51, UInt8.ofNat 237, UInt8.ofNat 188, UInt8.ofNat 130, UInt8.ofNat 34, UInt8.ofNat 178, UInt8.ofNat 236, UInt8.ofNat 66, UInt8.ofNat 55, UInt8.ofNat 70]⟩
def cC : R8 32 := ⟨pickN 0 [UInt8.ofNat 226, UInt8.ofNat 108, UInt8.ofNat 27, UInt8.ofNat 174, UInt8.ofNat 225, UInt8.ofNat 107, UInt8.ofNat 64, UInt8.ofNat 185, UInt8.ofNat 195, UInt8.ofNat 226, UInt8.ofNat 150, UInt8.ofNat 106, UInt8.ofNat 254, UInt8.ofNat 153, UInt8.ofNat 145, UInt8.ofNat 231, UInt8.ofNat 167, UInt8.ofNat 168, UInt8.ofNat 184, UInt8.ofNat 203, UInt8.ofNat 248, UInt8.ofNat 125, UInt8.ofNat 173, UInt8.ofNat 7, UInt8.ofNat 213, UInt8.ofNat 104, UInt8.ofNat 56, UInt8.ofNat 151, UInt8.ofNat 128, UInt8.ofNat 225, UInt8.ofNat 203, UInt8.ofNat 193]⟩
def one1 : R8 32 := ⟨pickN 0 [UInt8.ofNat 1, UInt8.ofNat 0, UInt8.ofNat 0, UInt8.ofNat 0, UInt8.ofNat 0, UInt8.ofNat 0, UInt8.ofNat 0, UInt8.ofNat 0, UInt8.ofNat 0, UInt8.ofNat 0, UInt8.ofNat 0, UInt8.ofNat 0, UInt8.ofNat 0, UInt8.ofNat 0, UInt8.ofNat 0, UInt8.ofNat 0, UInt8.ofNat 0, UInt8.ofNat 0, UInt8.ofNat 0, UInt8.ofNat 0, UInt8.ofNat 0, UInt8.ofNat 0, UInt8.ofNat 0, UInt8.ofNat 0, UInt8.ofNat 0, UInt8.ofNat 0, UInt8.ofNat 0, UInt8.ofNat 0, UInt8.ofNat 0, UInt8.ofNat 0, UInt8.ofNat 0, UInt8.ofNat 0]⟩
theorem is_b1 : pairR8 zR zR = b1 := by kernel_rfl
theorem is_b2 : pairR8 b1 b1 = b2 := by kernel_rfl
theorem is_b3 : pairR8 b2 b2 = b3 := by kernel_rfl
theorem is_n1 : pairR8 one1 zR = n1 := by kernel_rfl
theorem is_n2 : pairR8 n1 b1 = n2 := by kernel_rfl
theorem is_n3 : pairR8 n2 b2 = n3 := by kernel_rfl
theorem is_cC : pairR8 b2 b1 = cC := by kernel_rfl
def h0 : Hd := (UInt64.ofNat 0, UInt64.ofNat 0, zR, zR, zR)
def h1 : Hd := (UInt64.ofNat 1, UInt64.ofNat 0, zR, zR, zR)
def z96 : Nat → A := fun j => ((List.replicate 96 (At.u8 (UInt8.ofNat 0) : A))[j]?).getD (.u8 (UInt8.ofNat 0))
def ck0 : Ck := ⟨cutR 48 (fun j => u8of (z96 (0 + j))) 2, ⟨pickN 0 (List.replicate 48 (UInt8.ofNat 0))⟩⟩
theorem head_h0 (Pr : R8 32 → R8 32 → R8 32) : headR Pr h0 = zK Pr zR 3 := by kernel_rfl
theorem head_h1 (Pr : R8 32 → R8 32 → R8 32) : headR Pr h1 = Pr (Pr (Pr one1 zR) (Pr zR zR)) (Pr (Pr zR zR) (Pr zR zR)) := by kernel_rfl
theorem known20_of {Hr : Hd → R8 32} {ZR : Int → R8 32} {Co : Ck → R8 32} (ht : TblOK Tryd.prog (tblK20 Hr ZR Co)) (k1 : eqB (Hr h0).f (ZR 3).f 0 32 = true) (k2 : (!(eqB (Hr h1).f (Hr h0).f 0 32)) = true) (k3 : (!(eqB (Co ck0).f zR.f 0 32)) = true) :
    Computes A Tryd.prog 38 (fun _ : GA Unit => true) := by
  refine computes_of_run ht Tryd.func38 (by kernel_rfl) (by kernel_rfl) 8 ?_
  rintro _ ⟨⟨⟩⟩ W ⟨hr, _⟩
  exact ⟨saysY [], true, [(!(eqB (Co ck0).f zR.f 0 32)) = true, RoundsIn W.cell?, ck0.keys.length < 1048576, ∀ j, j < 2 * 48 → isU8 (z96 (0 + j)) = true, (!(eqB (Hr h1).f (Hr h0).f 0 32)) = true, RoundsIn W.cell?, RoundsIn W.cell?, eqB (Hr h0).f (ZR 3).f 0 32 = true, TabsAre, RoundsIn W.cell?], by kernel_rfl,
    ⟨k3, hr, by unfold ck0; rw [cutR_len]; decide, fun j _ => by unfold z96; rw [List.getElem?_replicate]; split <;> rfl, k2, hr, hr, k1, tabsAre, hr, trivial⟩, rfl⟩
end Go.Proofs.YtaloefkkllebeaaDoor
/- Roots: the examples hold. -/
namespace Go.Proofs.YtaloefkkllebeaaDoor
open Go Go.Sh
theorem ofV_tree (Pr : R8 32 → R8 32 → R8 32) (l : List (R8 32)) : ofV (rootV Pr) l = treeN Pr l (depQ (l.length : Int)) := by
  have em : maxI (l.length : Int) = (l.length : Int) := by unfold maxI extI; simp only [if_true]; split <;> omega
  unfold ofV rootV dR treeN
  rw [lC_len, nm_lC, em, decide_eq_false (by omega)]
theorem dep2 : depQ (((2 : Nat) : Int)) = 1 := by kernel_rfl
theorem nm_tw (a b : Nat → UInt8) : nm (twL a b) = [⟨elR a 0⟩, ⟨elR b 0⟩] := by kernel_rfl
theorem of_two (Pr : R8 32 → R8 32 → R8 32) {l : List (R8 32)} {x y : R8 32} (h : nm l = [x, y]) : ofV (rootV Pr) l = Pr x y := by
  have hl : l.length = 2 := by rw [← nm_len, h]; rfl
  rw [ofV_tree, hl, dep2]
  unfold treeN
  rw [h]
  rfl
theorem key_zero (Pr : R8 32 → R8 32 → R8 32) : keyV Pr ⟨pickN 0 (List.replicate 48 (UInt8.ofNat 0))⟩ = Pr zR zR := of_two Pr (by kernel_rfl)
theorem coL_row (Pr : R8 32 → R8 32 → R8 32) (K : R8 32) (hK : (⟨elR K.f 0⟩ : R8 32) = K) (Ke : R8 48 → R8 32) (h0 : Ke ⟨el48 ck0.keys 0⟩ = K) (h1 : Ke ⟨el48 ck0.keys 1⟩ = K) : nm (coL Ke ck0.keys) = [K, K] := by
  have e : ∀ (x y : R8 32), nm (cutR 32 (fun j => u8of (catF (catF (fun _ => Atom.dummy) (timesN 0 (31 + 1)) (cells32 x.f) 0) (timesN 1 (31 + 1)) (cells32 y.f) 0 (0 + j))) 2) = [⟨elR x.f 0⟩, ⟨elR y.f 0⟩] := fun x y => by kernel_rfl
  have e2 : coL Ke ck0.keys = cutR 32 (fun j => u8of (catF (catF (fun _ => Atom.dummy) (timesN 0 (31 + 1)) (cells32 (Ke ⟨el48 ck0.keys 0⟩).f) 0) (timesN 1 (31 + 1)) (cells32 (Ke ⟨el48 ck0.keys 1⟩).f) 0 (0 + j))) 2 := by kernel_rfl
  rw [e2, h0, h1, e, hK]
theorem el_ck00 : el48 ck0.keys 0 = pickN 0 (List.replicate 48 (UInt8.ofNat 0)) := by kernel_rfl
theorem el_ck01 : el48 ck0.keys 1 = pickN 0 (List.replicate 48 (UInt8.ofNat 0)) := by kernel_rfl
theorem com_ck0 (Pr : R8 32 → R8 32 → R8 32) (hc : Cut Pr) : comV Pr ck0 = Pr (Pr (Pr zR zR) (Pr zR zR)) (Pr zR zR) := by
  unfold comV
  refine of_two Pr ?_
  rw [nm_tw]
  have hk : keyV Pr ck0.sum = Pr zR zR := key_zero Pr
  have hl : ofV (rootV Pr) (lsL (coL (keyV Pr) ck0.keys)) = Pr (Pr zR zR) (Pr zR zR) := of_two Pr (by
    rw [nm_lsL]
    exact coL_row Pr (Pr zR zR) (hc _ _) (keyV Pr) (by rw [el_ck00]; exact key_zero Pr) (by rw [el_ck01]; exact key_zero Pr))
  rw [hk, hl, hc, hc]
theorem known20_ok : Computes A Tryd.prog 38 (fun _ : GA Unit => true) := by
  refine known20_of (Hr := headR pairR8) (ZR := fun d => zK pairR8 zR (zrN d)) (Co := comV pairR8) (.cons hasher_ok.row (.cons header_ok.row (.cons refZero_ok.row (.cons committee_ok.row (.nil _))))) ?_ ?_ ?_
  · have e : zrN 3 = 3 := by rw [zrN_eq]; rfl
    show eqB (headR pairR8 h0).f (zK pairR8 zR (zrN 3)).f 0 32 = true
    rw [e, head_h0]
    exact eqB_self _ _ _
  · rw [head_h1, head_h0]
    show (!(eqB (pairR8 (pairR8 (pairR8 one1 zR) (pairR8 zR zR)) (pairR8 (pairR8 zR zR) (pairR8 zR zR))).f (pairR8 (pairR8 (pairR8 zR zR) (pairR8 zR zR)) (pairR8 (pairR8 zR zR) (pairR8 zR zR))).f 0 32)) = true
    rw [is_b1, is_b2, is_n1, is_n2, is_n3, is_b3]
    kernel_rfl
  · rw [com_ck0 pairR8 pair_cut, is_b1, is_b2, is_cC]
    kernel_rfl
end Go.Proofs.YtaloefkkllebeaaDoor
/- Roots: the law of headers that differ. -/
namespace Go.Proofs.YtaloefkkllebeaaDoor
open Go Go.Sh
noncomputable def tblF9 (Hr Rr : Hd → R8 32) : List (Row A) :=
  [rowOf A 38 (fun _ : GA Unit => true), rowOf A 39 (fun _ : Unit => (⟨.mk⟩ : Hz Mk)), rowOf A 43 (fun x : GA (Hd × Unit) => Hr x.x.1), rowOf A 47 (fun x : Hs Mk × Hd × Unit => Rr x.2.1)]
def rem8 (x : UInt8) (n : Int) : UInt8 := UInt8.ofNat (((x.toNat : Int).tmod n) % 256).toNat
def RemB (x : UInt8) (n : Int) : Prop := n ≠ 0 ∧ IntKind.u8.wrap ((x.toNat : Int).tmod n) = (x.toNat : Int).tmod n
theorem remB (x : UInt8) {n : Nat} (h : 0 < n) (h2 : n ≤ 64) : RemB x (n : Int) := by
  refine ⟨by omega, ?_⟩
  have e : ((x.toNat : Int).tmod (n : Int)) = ((x.toNat % n : Nat) : Int) := by rw [Int.ofNat_tmod]
  rw [e]
  have h3 : x.toNat % n < n := Nat.mod_lt _ h
  unfold IntKind.wrap
  simp only [IntKind.bits, IntKind.signed, Bool.false_and, Bool.false_eq_true, if_false]
  omega
def shl8 (m : UInt8) : UInt8 := UInt8.ofNat ((1 * 2 ^ min ((m.toNat : Int)).toNat IntKind.u8.bits) % 256 : Int).toNat
def xor8 (x y : UInt8) : UInt8 := UInt8.ofNat (((BitVec.ofInt IntKind.u8.bits (x.toNat : Int) ^^^ BitVec.ofInt IntKind.u8.bits (y.toNat : Int)).toNat : Int) % 256).toNat
def shl64 (m : UInt8) : UInt64 := cvU (1 * 2 ^ min ((m.toNat : Int)).toNat IntKind.u64.bits)
def xor64 (x y : UInt64) : UInt64 := cvU ((BitVec.ofInt IntKind.u64.bits (x.toNat : Int) ^^^ BitVec.ofInt IntKind.u64.bits (y.toNat : Int)).toNat : Int)
section
variable {Hr Rr : Hd → R8 32} (ht : TblOK Tryd.prog (tblF9 Hr Rr)) (hRH : ∀ x, Rr x = Hr x)
include ht hRH
theorem rootsTell_of : Computes A Tryd.prog 9 (fun _ : GA (Hd × Int × UInt8 × Unit) => true) := by
  refine computes_of_runT Tryd.func9 (by kernel_rfl) (by kernel_rfl) 8 ?_
  rintro _ ⟨⟨⟨s, p, ⟨a⟩, ⟨b⟩, ⟨c⟩⟩, k, bit, ⟨⟩⟩⟩ W ⟨hr, _⟩
  have b1 : k.tmod 98 < 98 := Int.tmod_lt_of_pos k (by decide)
  have b2 : -98 < k.tmod 98 := Int.lt_tmod_of_pos k (by decide)
  cases hs : decide (k.tmod 98 < 0) with
  | true =>
    have g0 := of_decide_eq_true hs
    cases h1 : decide ((k.tmod 98 + 98) < 32) with
    | true =>
      have g1 := of_decide_eq_true h1
      have e := hRH (s, p, ⟨a⟩, ⟨b⟩, ⟨c⟩)
      have e' := hRH (s, p, ⟨upd a (k.tmod 98 + 98).toNat (xor8 (a (k.tmod 98 + 98).toNat) (shl8 (rem8 bit 8)))⟩, ⟨b⟩, ⟨c⟩)
      cases hq : eqB (Hr (s, p, ⟨a⟩, ⟨b⟩, ⟨c⟩)).f (Hr (s, p, ⟨upd a (k.tmod 98 + 98).toNat (xor8 (a (k.tmod 98 + 98).toNat) (shl8 (rem8 bit 8)))⟩, ⟨b⟩, ⟨c⟩)).f 0 32 with
      | true =>
        have hq' : eqB (Rr (s, p, ⟨a⟩, ⟨b⟩, ⟨c⟩)).f (Rr (s, p, ⟨upd a (k.tmod 98 + 98).toNat (xor8 (a (k.tmod 98 + 98).toNat) (shl8 (rem8 bit 8)))⟩, ⟨b⟩, ⟨c⟩)).f 0 32 = true := by rw [e, e']; exact hq
        exact ⟨_, _, ht, ITblOK.nil _, saysY [], noLoop, true, [eqB (Rr (s, p, ⟨a⟩, ⟨b⟩, ⟨c⟩)).f (Rr (s, p, ⟨upd a (k.tmod 98 + 98).toNat (xor8 (a (k.tmod 98 + 98).toNat) (shl8 (rem8 bit 8)))⟩, ⟨b⟩, ⟨c⟩)).f 0 32 = true, TabsAre, TabsAre, eqB (Hr (s, p, ⟨a⟩, ⟨b⟩, ⟨c⟩)).f (Hr (s, p, ⟨upd a (k.tmod 98 + 98).toNat (xor8 (a (k.tmod 98 + 98).toNat) (shl8 (rem8 bit 8)))⟩, ⟨b⟩, ⟨c⟩)).f 0 32 = true, RoundsIn W.cell?, RoundsIn W.cell?, IX (k.tmod 98 + 98) 32, (0 : Int) ≤ ((rem8 bit 8).toNat : Int), RemB bit 8, IX (k.tmod 98 + 98) 32, decide ((k.tmod 98 + 98) < 32) = true, WrapI (k.tmod 98 + 98), decide (k.tmod 98 < 0) = true, true = true, RoundsIn W.cell?], by kernel_rfl, ⟨hq', tabsAre, tabsAre, hq, hr, hr, ⟨by omega, by omega⟩, by omega, remB bit (n := 8) (by decide) (by decide), ⟨by omega, by omega⟩, h1, wI (by omega) (by omega), hs, rfl, hr, trivial⟩, rfl, fun body _ => loopsFor_none⟩
      | false =>
        have hq' : eqB (Rr (s, p, ⟨a⟩, ⟨b⟩, ⟨c⟩)).f (Rr (s, p, ⟨upd a (k.tmod 98 + 98).toNat (xor8 (a (k.tmod 98 + 98).toNat) (shl8 (rem8 bit 8)))⟩, ⟨b⟩, ⟨c⟩)).f 0 32 = false := by rw [e, e']; exact hq
        exact ⟨_, _, ht, ITblOK.nil _, saysY [(82, false), (89, false)], noLoop, true, [eqB (Rr (s, p, ⟨a⟩, ⟨b⟩, ⟨c⟩)).f (Rr (s, p, ⟨upd a (k.tmod 98 + 98).toNat (xor8 (a (k.tmod 98 + 98).toNat) (shl8 (rem8 bit 8)))⟩, ⟨b⟩, ⟨c⟩)).f 0 32 = false, TabsAre, TabsAre, eqB (Hr (s, p, ⟨a⟩, ⟨b⟩, ⟨c⟩)).f (Hr (s, p, ⟨upd a (k.tmod 98 + 98).toNat (xor8 (a (k.tmod 98 + 98).toNat) (shl8 (rem8 bit 8)))⟩, ⟨b⟩, ⟨c⟩)).f 0 32 = false, RoundsIn W.cell?, RoundsIn W.cell?, IX (k.tmod 98 + 98) 32, (0 : Int) ≤ ((rem8 bit 8).toNat : Int), RemB bit 8, IX (k.tmod 98 + 98) 32, decide ((k.tmod 98 + 98) < 32) = true, WrapI (k.tmod 98 + 98), decide (k.tmod 98 < 0) = true, true = true, RoundsIn W.cell?], by kernel_rfl, ⟨hq', tabsAre, tabsAre, hq, hr, hr, ⟨by omega, by omega⟩, by omega, remB bit (n := 8) (by decide) (by decide), ⟨by omega, by omega⟩, h1, wI (by omega) (by omega), hs, rfl, hr, trivial⟩, rfl, fun body _ => loopsFor_none⟩
    | false =>
      have g1 := of_decide_eq_false h1
      cases h2 : decide ((k.tmod 98 + 98) < 64) with
      | true =>
        have g2 := of_decide_eq_true h2
        have e := hRH (s, p, ⟨a⟩, ⟨b⟩, ⟨c⟩)
        have e' := hRH (s, p, ⟨a⟩, ⟨upd b ((k.tmod 98 + 98) - 32).toNat (xor8 (b ((k.tmod 98 + 98) - 32).toNat) (shl8 (rem8 bit 8)))⟩, ⟨c⟩)
        cases hq : eqB (Hr (s, p, ⟨a⟩, ⟨b⟩, ⟨c⟩)).f (Hr (s, p, ⟨a⟩, ⟨upd b ((k.tmod 98 + 98) - 32).toNat (xor8 (b ((k.tmod 98 + 98) - 32).toNat) (shl8 (rem8 bit 8)))⟩, ⟨c⟩)).f 0 32 with
        | true =>
          have hq' : eqB (Rr (s, p, ⟨a⟩, ⟨b⟩, ⟨c⟩)).f (Rr (s, p, ⟨a⟩, ⟨upd b ((k.tmod 98 + 98) - 32).toNat (xor8 (b ((k.tmod 98 + 98) - 32).toNat) (shl8 (rem8 bit 8)))⟩, ⟨c⟩)).f 0 32 = true := by rw [e, e']; exact hq
          exact ⟨_, _, ht, ITblOK.nil _, saysY [(28, false)], noLoop, true, [eqB (Rr (s, p, ⟨a⟩, ⟨b⟩, ⟨c⟩)).f (Rr (s, p, ⟨a⟩, ⟨upd b ((k.tmod 98 + 98) - 32).toNat (xor8 (b ((k.tmod 98 + 98) - 32).toNat) (shl8 (rem8 bit 8)))⟩, ⟨c⟩)).f 0 32 = true, TabsAre, TabsAre, eqB (Hr (s, p, ⟨a⟩, ⟨b⟩, ⟨c⟩)).f (Hr (s, p, ⟨a⟩, ⟨upd b ((k.tmod 98 + 98) - 32).toNat (xor8 (b ((k.tmod 98 + 98) - 32).toNat) (shl8 (rem8 bit 8)))⟩, ⟨c⟩)).f 0 32 = true, RoundsIn W.cell?, RoundsIn W.cell?, IX ((k.tmod 98 + 98) - 32) 32, (0 : Int) ≤ ((rem8 bit 8).toNat : Int), RemB bit 8, IX ((k.tmod 98 + 98) - 32) 32, WrapI ((k.tmod 98 + 98) - 32), decide ((k.tmod 98 + 98) < 64) = true, decide ((k.tmod 98 + 98) < 32) = false, WrapI (k.tmod 98 + 98), decide (k.tmod 98 < 0) = true, true = true, RoundsIn W.cell?], by kernel_rfl, ⟨hq', tabsAre, tabsAre, hq, hr, hr, ⟨by omega, by omega⟩, by omega, remB bit (n := 8) (by decide) (by decide), ⟨by omega, by omega⟩, wI (by omega) (by omega), h2, h1, wI (by omega) (by omega), hs, rfl, hr, trivial⟩, rfl, fun body _ => loopsFor_none⟩
        | false =>
          have hq' : eqB (Rr (s, p, ⟨a⟩, ⟨b⟩, ⟨c⟩)).f (Rr (s, p, ⟨a⟩, ⟨upd b ((k.tmod 98 + 98) - 32).toNat (xor8 (b ((k.tmod 98 + 98) - 32).toNat) (shl8 (rem8 bit 8)))⟩, ⟨c⟩)).f 0 32 = false := by rw [e, e']; exact hq
          exact ⟨_, _, ht, ITblOK.nil _, saysY [(28, false), (82, false), (89, false)], noLoop, true, [eqB (Rr (s, p, ⟨a⟩, ⟨b⟩, ⟨c⟩)).f (Rr (s, p, ⟨a⟩, ⟨upd b ((k.tmod 98 + 98) - 32).toNat (xor8 (b ((k.tmod 98 + 98) - 32).toNat) (shl8 (rem8 bit 8)))⟩, ⟨c⟩)).f 0 32 = false, TabsAre, TabsAre, eqB (Hr (s, p, ⟨a⟩, ⟨b⟩, ⟨c⟩)).f (Hr (s, p, ⟨a⟩, ⟨upd b ((k.tmod 98 + 98) - 32).toNat (xor8 (b ((k.tmod 98 + 98) - 32).toNat) (shl8 (rem8 bit 8)))⟩, ⟨c⟩)).f 0 32 = false, RoundsIn W.cell?, RoundsIn W.cell?, IX ((k.tmod 98 + 98) - 32) 32, (0 : Int) ≤ ((rem8 bit 8).toNat : Int), RemB bit 8, IX ((k.tmod 98 + 98) - 32) 32, WrapI ((k.tmod 98 + 98) - 32), decide ((k.tmod 98 + 98) < 64) = true, decide ((k.tmod 98 + 98) < 32) = false, WrapI (k.tmod 98 + 98), decide (k.tmod 98 < 0) = true, true = true, RoundsIn W.cell?], by kernel_rfl, ⟨hq', tabsAre, tabsAre, hq, hr, hr, ⟨by omega, by omega⟩, by omega, remB bit (n := 8) (by decide) (by decide), ⟨by omega, by omega⟩, wI (by omega) (by omega), h2, h1, wI (by omega) (by omega), hs, rfl, hr, trivial⟩, rfl, fun body _ => loopsFor_none⟩
      | false =>
        have g2 := of_decide_eq_false h2
        cases h3 : decide ((k.tmod 98 + 98) < 96) with
        | true =>
          have g3 := of_decide_eq_true h3
          have e := hRH (s, p, ⟨a⟩, ⟨b⟩, ⟨c⟩)
          have e' := hRH (s, p, ⟨a⟩, ⟨b⟩, ⟨upd c ((k.tmod 98 + 98) - 64).toNat (xor8 (c ((k.tmod 98 + 98) - 64).toNat) (shl8 (rem8 bit 8)))⟩)
          cases hq : eqB (Hr (s, p, ⟨a⟩, ⟨b⟩, ⟨c⟩)).f (Hr (s, p, ⟨a⟩, ⟨b⟩, ⟨upd c ((k.tmod 98 + 98) - 64).toNat (xor8 (c ((k.tmod 98 + 98) - 64).toNat) (shl8 (rem8 bit 8)))⟩)).f 0 32 with
          | true =>
            have hq' : eqB (Rr (s, p, ⟨a⟩, ⟨b⟩, ⟨c⟩)).f (Rr (s, p, ⟨a⟩, ⟨b⟩, ⟨upd c ((k.tmod 98 + 98) - 64).toNat (xor8 (c ((k.tmod 98 + 98) - 64).toNat) (shl8 (rem8 bit 8)))⟩)).f 0 32 = true := by rw [e, e']; exact hq
            exact ⟨_, _, ht, ITblOK.nil _, saysY [(28, false), (41, false)], noLoop, true, [eqB (Rr (s, p, ⟨a⟩, ⟨b⟩, ⟨c⟩)).f (Rr (s, p, ⟨a⟩, ⟨b⟩, ⟨upd c ((k.tmod 98 + 98) - 64).toNat (xor8 (c ((k.tmod 98 + 98) - 64).toNat) (shl8 (rem8 bit 8)))⟩)).f 0 32 = true, TabsAre, TabsAre, eqB (Hr (s, p, ⟨a⟩, ⟨b⟩, ⟨c⟩)).f (Hr (s, p, ⟨a⟩, ⟨b⟩, ⟨upd c ((k.tmod 98 + 98) - 64).toNat (xor8 (c ((k.tmod 98 + 98) - 64).toNat) (shl8 (rem8 bit 8)))⟩)).f 0 32 = true, RoundsIn W.cell?, RoundsIn W.cell?, IX ((k.tmod 98 + 98) - 64) 32, (0 : Int) ≤ ((rem8 bit 8).toNat : Int), RemB bit 8, IX ((k.tmod 98 + 98) - 64) 32, WrapI ((k.tmod 98 + 98) - 64), decide ((k.tmod 98 + 98) < 96) = true, decide ((k.tmod 98 + 98) < 64) = false, decide ((k.tmod 98 + 98) < 32) = false, WrapI (k.tmod 98 + 98), decide (k.tmod 98 < 0) = true, true = true, RoundsIn W.cell?], by kernel_rfl, ⟨hq', tabsAre, tabsAre, hq, hr, hr, ⟨by omega, by omega⟩, by omega, remB bit (n := 8) (by decide) (by decide), ⟨by omega, by omega⟩, wI (by omega) (by omega), h3, h2, h1, wI (by omega) (by omega), hs, rfl, hr, trivial⟩, rfl, fun body _ => loopsFor_none⟩
          | false =>
            have hq' : eqB (Rr (s, p, ⟨a⟩, ⟨b⟩, ⟨c⟩)).f (Rr (s, p, ⟨a⟩, ⟨b⟩, ⟨upd c ((k.tmod 98 + 98) - 64).toNat (xor8 (c ((k.tmod 98 + 98) - 64).toNat) (shl8 (rem8 bit 8)))⟩)).f 0 32 = false := by rw [e, e']; exact hq
            exact ⟨_, _, ht, ITblOK.nil _, saysY [(28, false), (41, false), (82, false), (89, false)], noLoop, true, [eqB (Rr (s, p, ⟨a⟩, ⟨b⟩, ⟨c⟩)).f (Rr (s, p, ⟨a⟩, ⟨b⟩, ⟨upd c ((k.tmod 98 + 98) - 64).toNat (xor8 (c ((k.tmod 98 + 98) - 64).toNat) (shl8 (rem8 bit 8)))⟩)).f 0 32 = false, TabsAre, TabsAre, eqB (Hr (s, p, ⟨a⟩, ⟨b⟩, ⟨c⟩)).f (Hr (s, p, ⟨a⟩, ⟨b⟩, ⟨upd c ((k.tmod 98 + 98) - 64).toNat (xor8 (c ((k.tmod 98 + 98) - 64).toNat) (shl8 (rem8 bit 8)))⟩)).f 0 32 = false, RoundsIn W.cell?, RoundsIn W.cell?, IX ((k.tmod 98 + 98) - 64) 32, (0 : Int) ≤ ((rem8 bit 8).toNat : Int), RemB bit 8, IX ((k.tmod 98 + 98) - 64) 32, WrapI ((k.tmod 98 + 98) - 64), decide ((k.tmod 98 + 98) < 96) = true, decide ((k.tmod 98 + 98) < 64) = false, decide ((k.tmod 98 + 98) < 32) = false, WrapI (k.tmod 98 + 98), decide (k.tmod 98 < 0) = true, true = true, RoundsIn W.cell?], by kernel_rfl, ⟨hq', tabsAre, tabsAre, hq, hr, hr, ⟨by omega, by omega⟩, by omega, remB bit (n := 8) (by decide) (by decide), ⟨by omega, by omega⟩, wI (by omega) (by omega), h3, h2, h1, wI (by omega) (by omega), hs, rfl, hr, trivial⟩, rfl, fun body _ => loopsFor_none⟩
        | false =>
          have g3 := of_decide_eq_false h3
          cases h4 : ((k.tmod 98 + 98) == 96) with
          | true =>
            have g4 := eq_of_beq h4
            have e := hRH (s, p, ⟨a⟩, ⟨b⟩, ⟨c⟩)
            have e' := hRH (xor64 s (shl64 (rem8 bit 64)), p, ⟨a⟩, ⟨b⟩, ⟨c⟩)
            cases hq : eqB (Hr (s, p, ⟨a⟩, ⟨b⟩, ⟨c⟩)).f (Hr (xor64 s (shl64 (rem8 bit 64)), p, ⟨a⟩, ⟨b⟩, ⟨c⟩)).f 0 32 with
            | true =>
              have hq' : eqB (Rr (s, p, ⟨a⟩, ⟨b⟩, ⟨c⟩)).f (Rr (xor64 s (shl64 (rem8 bit 64)), p, ⟨a⟩, ⟨b⟩, ⟨c⟩)).f 0 32 = true := by rw [e, e']; exact hq
              exact ⟨_, _, ht, ITblOK.nil _, saysY [(28, false), (41, false), (55, false)], noLoop, true, [eqB (Rr (s, p, ⟨a⟩, ⟨b⟩, ⟨c⟩)).f (Rr (xor64 s (shl64 (rem8 bit 64)), p, ⟨a⟩, ⟨b⟩, ⟨c⟩)).f 0 32 = true, TabsAre, TabsAre, eqB (Hr (s, p, ⟨a⟩, ⟨b⟩, ⟨c⟩)).f (Hr (xor64 s (shl64 (rem8 bit 64)), p, ⟨a⟩, ⟨b⟩, ⟨c⟩)).f 0 32 = true, RoundsIn W.cell?, RoundsIn W.cell?, (0 : Int) ≤ ((rem8 bit 64).toNat : Int), RemB bit 64, ((k.tmod 98 + 98) == 96) = true, decide ((k.tmod 98 + 98) < 96) = false, decide ((k.tmod 98 + 98) < 64) = false, decide ((k.tmod 98 + 98) < 32) = false, WrapI (k.tmod 98 + 98), decide (k.tmod 98 < 0) = true, true = true, RoundsIn W.cell?], by kernel_rfl, ⟨hq', tabsAre, tabsAre, hq, hr, hr, by omega, remB bit (n := 64) (by decide) (by decide), h4, h3, h2, h1, wI (by omega) (by omega), hs, rfl, hr, trivial⟩, rfl, fun body _ => loopsFor_none⟩
            | false =>
              have hq' : eqB (Rr (s, p, ⟨a⟩, ⟨b⟩, ⟨c⟩)).f (Rr (xor64 s (shl64 (rem8 bit 64)), p, ⟨a⟩, ⟨b⟩, ⟨c⟩)).f 0 32 = false := by rw [e, e']; exact hq
              exact ⟨_, _, ht, ITblOK.nil _, saysY [(28, false), (41, false), (55, false), (82, false), (89, false)], noLoop, true, [eqB (Rr (s, p, ⟨a⟩, ⟨b⟩, ⟨c⟩)).f (Rr (xor64 s (shl64 (rem8 bit 64)), p, ⟨a⟩, ⟨b⟩, ⟨c⟩)).f 0 32 = false, TabsAre, TabsAre, eqB (Hr (s, p, ⟨a⟩, ⟨b⟩, ⟨c⟩)).f (Hr (xor64 s (shl64 (rem8 bit 64)), p, ⟨a⟩, ⟨b⟩, ⟨c⟩)).f 0 32 = false, RoundsIn W.cell?, RoundsIn W.cell?, (0 : Int) ≤ ((rem8 bit 64).toNat : Int), RemB bit 64, ((k.tmod 98 + 98) == 96) = true, decide ((k.tmod 98 + 98) < 96) = false, decide ((k.tmod 98 + 98) < 64) = false, decide ((k.tmod 98 + 98) < 32) = false, WrapI (k.tmod 98 + 98), decide (k.tmod 98 < 0) = true, true = true, RoundsIn W.cell?], by kernel_rfl, ⟨hq', tabsAre, tabsAre, hq, hr, hr, by omega, remB bit (n := 64) (by decide) (by decide), h4, h3, h2, h1, wI (by omega) (by omega), hs, rfl, hr, trivial⟩, rfl, fun body _ => loopsFor_none⟩
          | false =>
            have e := hRH (s, p, ⟨a⟩, ⟨b⟩, ⟨c⟩)
            have e' := hRH (s, xor64 p (shl64 (rem8 bit 64)), ⟨a⟩, ⟨b⟩, ⟨c⟩)
            cases hq : eqB (Hr (s, p, ⟨a⟩, ⟨b⟩, ⟨c⟩)).f (Hr (s, xor64 p (shl64 (rem8 bit 64)), ⟨a⟩, ⟨b⟩, ⟨c⟩)).f 0 32 with
            | true =>
              have hq' : eqB (Rr (s, p, ⟨a⟩, ⟨b⟩, ⟨c⟩)).f (Rr (s, xor64 p (shl64 (rem8 bit 64)), ⟨a⟩, ⟨b⟩, ⟨c⟩)).f 0 32 = true := by rw [e, e']; exact hq
              exact ⟨_, _, ht, ITblOK.nil _, saysY [(28, false), (41, false), (55, false), (69, false)], noLoop, true, [eqB (Rr (s, p, ⟨a⟩, ⟨b⟩, ⟨c⟩)).f (Rr (s, xor64 p (shl64 (rem8 bit 64)), ⟨a⟩, ⟨b⟩, ⟨c⟩)).f 0 32 = true, TabsAre, TabsAre, eqB (Hr (s, p, ⟨a⟩, ⟨b⟩, ⟨c⟩)).f (Hr (s, xor64 p (shl64 (rem8 bit 64)), ⟨a⟩, ⟨b⟩, ⟨c⟩)).f 0 32 = true, RoundsIn W.cell?, RoundsIn W.cell?, (0 : Int) ≤ ((rem8 bit 64).toNat : Int), RemB bit 64, ((k.tmod 98 + 98) == 96) = false, decide ((k.tmod 98 + 98) < 96) = false, decide ((k.tmod 98 + 98) < 64) = false, decide ((k.tmod 98 + 98) < 32) = false, WrapI (k.tmod 98 + 98), decide (k.tmod 98 < 0) = true, true = true, RoundsIn W.cell?], by kernel_rfl, ⟨hq', tabsAre, tabsAre, hq, hr, hr, by omega, remB bit (n := 64) (by decide) (by decide), h4, h3, h2, h1, wI (by omega) (by omega), hs, rfl, hr, trivial⟩, rfl, fun body _ => loopsFor_none⟩
            | false =>
              have hq' : eqB (Rr (s, p, ⟨a⟩, ⟨b⟩, ⟨c⟩)).f (Rr (s, xor64 p (shl64 (rem8 bit 64)), ⟨a⟩, ⟨b⟩, ⟨c⟩)).f 0 32 = false := by rw [e, e']; exact hq
              exact ⟨_, _, ht, ITblOK.nil _, saysY [(28, false), (41, false), (55, false), (69, false), (82, false), (89, false)], noLoop, true, [eqB (Rr (s, p, ⟨a⟩, ⟨b⟩, ⟨c⟩)).f (Rr (s, xor64 p (shl64 (rem8 bit 64)), ⟨a⟩, ⟨b⟩, ⟨c⟩)).f 0 32 = false, TabsAre, TabsAre, eqB (Hr (s, p, ⟨a⟩, ⟨b⟩, ⟨c⟩)).f (Hr (s, xor64 p (shl64 (rem8 bit 64)), ⟨a⟩, ⟨b⟩, ⟨c⟩)).f 0 32 = false, RoundsIn W.cell?, RoundsIn W.cell?, (0 : Int) ≤ ((rem8 bit 64).toNat : Int), RemB bit 64, ((k.tmod 98 + 98) == 96) = false, decide ((k.tmod 98 + 98) < 96) = false, decide ((k.tmod 98 + 98) < 64) = false, decide ((k.tmod 98 + 98) < 32) = false, WrapI (k.tmod 98 + 98), decide (k.tmod 98 < 0) = true, true = true, RoundsIn W.cell?], by kernel_rfl, ⟨hq', tabsAre, tabsAre, hq, hr, hr, by omega, remB bit (n := 64) (by decide) (by decide), h4, h3, h2, h1, wI (by omega) (by omega), hs, rfl, hr, trivial⟩, rfl, fun body _ => loopsFor_none⟩
  | false =>
    have g0 := of_decide_eq_false hs
    cases h1 : decide ((k.tmod 98) < 32) with
    | true =>
      have g1 := of_decide_eq_true h1
      have e := hRH (s, p, ⟨a⟩, ⟨b⟩, ⟨c⟩)
      have e' := hRH (s, p, ⟨upd a (k.tmod 98).toNat (xor8 (a (k.tmod 98).toNat) (shl8 (rem8 bit 8)))⟩, ⟨b⟩, ⟨c⟩)
      cases hq : eqB (Hr (s, p, ⟨a⟩, ⟨b⟩, ⟨c⟩)).f (Hr (s, p, ⟨upd a (k.tmod 98).toNat (xor8 (a (k.tmod 98).toNat) (shl8 (rem8 bit 8)))⟩, ⟨b⟩, ⟨c⟩)).f 0 32 with
      | true =>
        have hq' : eqB (Rr (s, p, ⟨a⟩, ⟨b⟩, ⟨c⟩)).f (Rr (s, p, ⟨upd a (k.tmod 98).toNat (xor8 (a (k.tmod 98).toNat) (shl8 (rem8 bit 8)))⟩, ⟨b⟩, ⟨c⟩)).f 0 32 = true := by rw [e, e']; exact hq
        exact ⟨_, _, ht, ITblOK.nil _, saysY [(16, false)], noLoop, true, [eqB (Rr (s, p, ⟨a⟩, ⟨b⟩, ⟨c⟩)).f (Rr (s, p, ⟨upd a (k.tmod 98).toNat (xor8 (a (k.tmod 98).toNat) (shl8 (rem8 bit 8)))⟩, ⟨b⟩, ⟨c⟩)).f 0 32 = true, TabsAre, TabsAre, eqB (Hr (s, p, ⟨a⟩, ⟨b⟩, ⟨c⟩)).f (Hr (s, p, ⟨upd a (k.tmod 98).toNat (xor8 (a (k.tmod 98).toNat) (shl8 (rem8 bit 8)))⟩, ⟨b⟩, ⟨c⟩)).f 0 32 = true, RoundsIn W.cell?, RoundsIn W.cell?, IX (k.tmod 98) 32, (0 : Int) ≤ ((rem8 bit 8).toNat : Int), RemB bit 8, IX (k.tmod 98) 32, decide ((k.tmod 98) < 32) = true, decide (k.tmod 98 < 0) = false, true = true, RoundsIn W.cell?], by kernel_rfl, ⟨hq', tabsAre, tabsAre, hq, hr, hr, ⟨by omega, by omega⟩, by omega, remB bit (n := 8) (by decide) (by decide), ⟨by omega, by omega⟩, h1, hs, rfl, hr, trivial⟩, rfl, fun body _ => loopsFor_none⟩
      | false =>
        have hq' : eqB (Rr (s, p, ⟨a⟩, ⟨b⟩, ⟨c⟩)).f (Rr (s, p, ⟨upd a (k.tmod 98).toNat (xor8 (a (k.tmod 98).toNat) (shl8 (rem8 bit 8)))⟩, ⟨b⟩, ⟨c⟩)).f 0 32 = false := by rw [e, e']; exact hq
        exact ⟨_, _, ht, ITblOK.nil _, saysY [(16, false), (82, false), (89, false)], noLoop, true, [eqB (Rr (s, p, ⟨a⟩, ⟨b⟩, ⟨c⟩)).f (Rr (s, p, ⟨upd a (k.tmod 98).toNat (xor8 (a (k.tmod 98).toNat) (shl8 (rem8 bit 8)))⟩, ⟨b⟩, ⟨c⟩)).f 0 32 = false, TabsAre, TabsAre, eqB (Hr (s, p, ⟨a⟩, ⟨b⟩, ⟨c⟩)).f (Hr (s, p, ⟨upd a (k.tmod 98).toNat (xor8 (a (k.tmod 98).toNat) (shl8 (rem8 bit 8)))⟩, ⟨b⟩, ⟨c⟩)).f 0 32 = false, RoundsIn W.cell?, RoundsIn W.cell?, IX (k.tmod 98) 32, (0 : Int) ≤ ((rem8 bit 8).toNat : Int), RemB bit 8, IX (k.tmod 98) 32, decide ((k.tmod 98) < 32) = true, decide (k.tmod 98 < 0) = false, true = true, RoundsIn W.cell?], by kernel_rfl, ⟨hq', tabsAre, tabsAre, hq, hr, hr, ⟨by omega, by omega⟩, by omega, remB bit (n := 8) (by decide) (by decide), ⟨by omega, by omega⟩, h1, hs, rfl, hr, trivial⟩, rfl, fun body _ => loopsFor_none⟩
    | false =>
      have g1 := of_decide_eq_false h1
      cases h2 : decide ((k.tmod 98) < 64) with
      | true =>
        have g2 := of_decide_eq_true h2
        have e := hRH (s, p, ⟨a⟩, ⟨b⟩, ⟨c⟩)
        have e' := hRH (s, p, ⟨a⟩, ⟨upd b ((k.tmod 98) - 32).toNat (xor8 (b ((k.tmod 98) - 32).toNat) (shl8 (rem8 bit 8)))⟩, ⟨c⟩)
        cases hq : eqB (Hr (s, p, ⟨a⟩, ⟨b⟩, ⟨c⟩)).f (Hr (s, p, ⟨a⟩, ⟨upd b ((k.tmod 98) - 32).toNat (xor8 (b ((k.tmod 98) - 32).toNat) (shl8 (rem8 bit 8)))⟩, ⟨c⟩)).f 0 32 with
        | true =>
          have hq' : eqB (Rr (s, p, ⟨a⟩, ⟨b⟩, ⟨c⟩)).f (Rr (s, p, ⟨a⟩, ⟨upd b ((k.tmod 98) - 32).toNat (xor8 (b ((k.tmod 98) - 32).toNat) (shl8 (rem8 bit 8)))⟩, ⟨c⟩)).f 0 32 = true := by rw [e, e']; exact hq
          exact ⟨_, _, ht, ITblOK.nil _, saysY [(16, false), (28, false)], noLoop, true, [eqB (Rr (s, p, ⟨a⟩, ⟨b⟩, ⟨c⟩)).f (Rr (s, p, ⟨a⟩, ⟨upd b ((k.tmod 98) - 32).toNat (xor8 (b ((k.tmod 98) - 32).toNat) (shl8 (rem8 bit 8)))⟩, ⟨c⟩)).f 0 32 = true, TabsAre, TabsAre, eqB (Hr (s, p, ⟨a⟩, ⟨b⟩, ⟨c⟩)).f (Hr (s, p, ⟨a⟩, ⟨upd b ((k.tmod 98) - 32).toNat (xor8 (b ((k.tmod 98) - 32).toNat) (shl8 (rem8 bit 8)))⟩, ⟨c⟩)).f 0 32 = true, RoundsIn W.cell?, RoundsIn W.cell?, IX ((k.tmod 98) - 32) 32, (0 : Int) ≤ ((rem8 bit 8).toNat : Int), RemB bit 8, IX ((k.tmod 98) - 32) 32, WrapI ((k.tmod 98) - 32), decide ((k.tmod 98) < 64) = true, decide ((k.tmod 98) < 32) = false, decide (k.tmod 98 < 0) = false, true = true, RoundsIn W.cell?], by kernel_rfl, ⟨hq', tabsAre, tabsAre, hq, hr, hr, ⟨by omega, by omega⟩, by omega, remB bit (n := 8) (by decide) (by decide), ⟨by omega, by omega⟩, wI (by omega) (by omega), h2, h1, hs, rfl, hr, trivial⟩, rfl, fun body _ => loopsFor_none⟩
        | false =>
          have hq' : eqB (Rr (s, p, ⟨a⟩, ⟨b⟩, ⟨c⟩)).f (Rr (s, p, ⟨a⟩, ⟨upd b ((k.tmod 98) - 32).toNat (xor8 (b ((k.tmod 98) - 32).toNat) (shl8 (rem8 bit 8)))⟩, ⟨c⟩)).f 0 32 = false := by rw [e, e']; exact hq
          exact ⟨_, _, ht, ITblOK.nil _, saysY [(16, false), (28, false), (82, false), (89, false)], noLoop, true, [eqB (Rr (s, p, ⟨a⟩, ⟨b⟩, ⟨c⟩)).f (Rr (s, p, ⟨a⟩, ⟨upd b ((k.tmod 98) - 32).toNat (xor8 (b ((k.tmod 98) - 32).toNat) (shl8 (rem8 bit 8)))⟩, ⟨c⟩)).f 0 32 = false, TabsAre, TabsAre, eqB (Hr (s, p, ⟨a⟩, ⟨b⟩, ⟨c⟩)).f (Hr (s, p, ⟨a⟩, ⟨upd b ((k.tmod 98) - 32).toNat (xor8 (b ((k.tmod 98) - 32).toNat) (shl8 (rem8 bit 8)))⟩, ⟨c⟩)).f 0 32 = false, RoundsIn W.cell?, RoundsIn W.cell?, IX ((k.tmod 98) - 32) 32, (0 : Int) ≤ ((rem8 bit 8).toNat : Int), RemB bit 8, IX ((k.tmod 98) - 32) 32, WrapI ((k.tmod 98) - 32), decide ((k.tmod 98) < 64) = true, decide ((k.tmod 98) < 32) = false, decide (k.tmod 98 < 0) = false, true = true, RoundsIn W.cell?], by kernel_rfl, ⟨hq', tabsAre, tabsAre, hq, hr, hr, ⟨by omega, by omega⟩, by omega, remB bit (n := 8) (by decide) (by decide), ⟨by omega, by omega⟩, wI (by omega) (by omega), h2, h1, hs, rfl, hr, trivial⟩, rfl, fun body _ => loopsFor_none⟩
      | false =>
        have g2 := of_decide_eq_false h2
        cases h3 : decide ((k.tmod 98) < 96) with
        | true =>
          have g3 := of_decide_eq_true h3
          have e := hRH (s, p, ⟨a⟩, ⟨b⟩, ⟨c⟩)
          have e' := hRH (s, p, ⟨a⟩, ⟨b⟩, ⟨upd c ((k.tmod 98) - 64).toNat (xor8 (c ((k.tmod 98) - 64).toNat) (shl8 (rem8 bit 8)))⟩)
          cases hq : eqB (Hr (s, p, ⟨a⟩, ⟨b⟩, ⟨c⟩)).f (Hr (s, p, ⟨a⟩, ⟨b⟩, ⟨upd c ((k.tmod 98) - 64).toNat (xor8 (c ((k.tmod 98) - 64).toNat) (shl8 (rem8 bit 8)))⟩)).f 0 32 with
          | true =>
            have hq' : eqB (Rr (s, p, ⟨a⟩, ⟨b⟩, ⟨c⟩)).f (Rr (s, p, ⟨a⟩, ⟨b⟩, ⟨upd c ((k.tmod 98) - 64).toNat (xor8 (c ((k.tmod 98) - 64).toNat) (shl8 (rem8 bit 8)))⟩)).f 0 32 = true := by rw [e, e']; exact hq
            exact ⟨_, _, ht, ITblOK.nil _, saysY [(16, false), (28, false), (41, false)], noLoop, true, [eqB (Rr (s, p, ⟨a⟩, ⟨b⟩, ⟨c⟩)).f (Rr (s, p, ⟨a⟩, ⟨b⟩, ⟨upd c ((k.tmod 98) - 64).toNat (xor8 (c ((k.tmod 98) - 64).toNat) (shl8 (rem8 bit 8)))⟩)).f 0 32 = true, TabsAre, TabsAre, eqB (Hr (s, p, ⟨a⟩, ⟨b⟩, ⟨c⟩)).f (Hr (s, p, ⟨a⟩, ⟨b⟩, ⟨upd c ((k.tmod 98) - 64).toNat (xor8 (c ((k.tmod 98) - 64).toNat) (shl8 (rem8 bit 8)))⟩)).f 0 32 = true, RoundsIn W.cell?, RoundsIn W.cell?, IX ((k.tmod 98) - 64) 32, (0 : Int) ≤ ((rem8 bit 8).toNat : Int), RemB bit 8, IX ((k.tmod 98) - 64) 32, WrapI ((k.tmod 98) - 64), decide ((k.tmod 98) < 96) = true, decide ((k.tmod 98) < 64) = false, decide ((k.tmod 98) < 32) = false, decide (k.tmod 98 < 0) = false, true = true, RoundsIn W.cell?], by kernel_rfl, ⟨hq', tabsAre, tabsAre, hq, hr, hr, ⟨by omega, by omega⟩, by omega, remB bit (n := 8) (by decide) (by decide), ⟨by omega, by omega⟩, wI (by omega) (by omega), h3, h2, h1, hs, rfl, hr, trivial⟩, rfl, fun body _ => loopsFor_none⟩
          | false =>
            have hq' : eqB (Rr (s, p, ⟨a⟩, ⟨b⟩, ⟨c⟩)).f (Rr (s, p, ⟨a⟩, ⟨b⟩, ⟨upd c ((k.tmod 98) - 64).toNat (xor8 (c ((k.tmod 98) - 64).toNat) (shl8 (rem8 bit 8)))⟩)).f 0 32 = false := by rw [e, e']; exact hq
            exact ⟨_, _, ht, ITblOK.nil _, saysY [(16, false), (28, false), (41, false), (82, false), (89, false)], noLoop, true, [eqB (Rr (s, p, ⟨a⟩, ⟨b⟩, ⟨c⟩)).f (Rr (s, p, ⟨a⟩, ⟨b⟩, ⟨upd c ((k.tmod 98) - 64).toNat (xor8 (c ((k.tmod 98) - 64).toNat) (shl8 (rem8 bit 8)))⟩)).f 0 32 = false, TabsAre, TabsAre, eqB (Hr (s, p, ⟨a⟩, ⟨b⟩, ⟨c⟩)).f (Hr (s, p, ⟨a⟩, ⟨b⟩, ⟨upd c ((k.tmod 98) - 64).toNat (xor8 (c ((k.tmod 98) - 64).toNat) (shl8 (rem8 bit 8)))⟩)).f 0 32 = false, RoundsIn W.cell?, RoundsIn W.cell?, IX ((k.tmod 98) - 64) 32, (0 : Int) ≤ ((rem8 bit 8).toNat : Int), RemB bit 8, IX ((k.tmod 98) - 64) 32, WrapI ((k.tmod 98) - 64), decide ((k.tmod 98) < 96) = true, decide ((k.tmod 98) < 64) = false, decide ((k.tmod 98) < 32) = false, decide (k.tmod 98 < 0) = false, true = true, RoundsIn W.cell?], by kernel_rfl, ⟨hq', tabsAre, tabsAre, hq, hr, hr, ⟨by omega, by omega⟩, by omega, remB bit (n := 8) (by decide) (by decide), ⟨by omega, by omega⟩, wI (by omega) (by omega), h3, h2, h1, hs, rfl, hr, trivial⟩, rfl, fun body _ => loopsFor_none⟩
        | false =>
          have g3 := of_decide_eq_false h3
          cases h4 : ((k.tmod 98) == 96) with
          | true =>
            have g4 := eq_of_beq h4
            have e := hRH (s, p, ⟨a⟩, ⟨b⟩, ⟨c⟩)
            have e' := hRH (xor64 s (shl64 (rem8 bit 64)), p, ⟨a⟩, ⟨b⟩, ⟨c⟩)
            cases hq : eqB (Hr (s, p, ⟨a⟩, ⟨b⟩, ⟨c⟩)).f (Hr (xor64 s (shl64 (rem8 bit 64)), p, ⟨a⟩, ⟨b⟩, ⟨c⟩)).f 0 32 with
            | true =>
              have hq' : eqB (Rr (s, p, ⟨a⟩, ⟨b⟩, ⟨c⟩)).f (Rr (xor64 s (shl64 (rem8 bit 64)), p, ⟨a⟩, ⟨b⟩, ⟨c⟩)).f 0 32 = true := by rw [e, e']; exact hq
              exact ⟨_, _, ht, ITblOK.nil _, saysY [(16, false), (28, false), (41, false), (55, false)], noLoop, true, [eqB (Rr (s, p, ⟨a⟩, ⟨b⟩, ⟨c⟩)).f (Rr (xor64 s (shl64 (rem8 bit 64)), p, ⟨a⟩, ⟨b⟩, ⟨c⟩)).f 0 32 = true, TabsAre, TabsAre, eqB (Hr (s, p, ⟨a⟩, ⟨b⟩, ⟨c⟩)).f (Hr (xor64 s (shl64 (rem8 bit 64)), p, ⟨a⟩, ⟨b⟩, ⟨c⟩)).f 0 32 = true, RoundsIn W.cell?, RoundsIn W.cell?, (0 : Int) ≤ ((rem8 bit 64).toNat : Int), RemB bit 64, ((k.tmod 98) == 96) = true, decide ((k.tmod 98) < 96) = false, decide ((k.tmod 98) < 64) = false, decide ((k.tmod 98) < 32) = false, decide (k.tmod 98 < 0) = false, true = true, RoundsIn W.cell?], by kernel_rfl, ⟨hq', tabsAre, tabsAre, hq, hr, hr, by omega, remB bit (n := 64) (by decide) (by decide), h4, h3, h2, h1, hs, rfl, hr, trivial⟩, rfl, fun body _ => loopsFor_none⟩
            | false =>
              have hq' : eqB (Rr (s, p, ⟨a⟩, ⟨b⟩, ⟨c⟩)).f (Rr (xor64 s (shl64 (rem8 bit 64)), p, ⟨a⟩, ⟨b⟩, ⟨c⟩)).f 0 32 = false := by rw [e, e']; exact hq
              exact ⟨_, _, ht, ITblOK.nil _, saysY [(16, false), (28, false), (41, false), (55, false), (82, false), (89, false)], noLoop, true, [eqB (Rr (s, p, ⟨a⟩, ⟨b⟩, ⟨c⟩)).f (Rr (xor64 s (shl64 (rem8 bit 64)), p, ⟨a⟩, ⟨b⟩, ⟨c⟩)).f 0 32 = false, TabsAre, TabsAre, eqB (Hr (s, p, ⟨a⟩, ⟨b⟩, ⟨c⟩)).f (Hr (xor64 s (shl64 (rem8 bit 64)), p, ⟨a⟩, ⟨b⟩, ⟨c⟩)).f 0 32 = false, RoundsIn W.cell?, RoundsIn W.cell?, (0 : Int) ≤ ((rem8 bit 64).toNat : Int), RemB bit 64, ((k.tmod 98) == 96) = true, decide ((k.tmod 98) < 96) = false, decide ((k.tmod 98) < 64) = false, decide ((k.tmod 98) < 32) = false, decide (k.tmod 98 < 0) = false, true = true, RoundsIn W.cell?], by kernel_rfl, ⟨hq', tabsAre, tabsAre, hq, hr, hr, by omega, remB bit (n := 64) (by decide) (by decide), h4, h3, h2, h1, hs, rfl, hr, trivial⟩, rfl, fun body _ => loopsFor_none⟩
          | false =>
            have e := hRH (s, p, ⟨a⟩, ⟨b⟩, ⟨c⟩)
            have e' := hRH (s, xor64 p (shl64 (rem8 bit 64)), ⟨a⟩, ⟨b⟩, ⟨c⟩)
            cases hq : eqB (Hr (s, p, ⟨a⟩, ⟨b⟩, ⟨c⟩)).f (Hr (s, xor64 p (shl64 (rem8 bit 64)), ⟨a⟩, ⟨b⟩, ⟨c⟩)).f 0 32 with
            | true =>
              have hq' : eqB (Rr (s, p, ⟨a⟩, ⟨b⟩, ⟨c⟩)).f (Rr (s, xor64 p (shl64 (rem8 bit 64)), ⟨a⟩, ⟨b⟩, ⟨c⟩)).f 0 32 = true := by rw [e, e']; exact hq
              exact ⟨_, _, ht, ITblOK.nil _, saysY [(16, false), (28, false), (41, false), (55, false), (69, false)], noLoop, true, [eqB (Rr (s, p, ⟨a⟩, ⟨b⟩, ⟨c⟩)).f (Rr (s, xor64 p (shl64 (rem8 bit 64)), ⟨a⟩, ⟨b⟩, ⟨c⟩)).f 0 32 = true, TabsAre, TabsAre, eqB (Hr (s, p, ⟨a⟩, ⟨b⟩, ⟨c⟩)).f (Hr (s, xor64 p (shl64 (rem8 bit 64)), ⟨a⟩, ⟨b⟩, ⟨c⟩)).f 0 32 = true, RoundsIn W.cell?, RoundsIn W.cell?, (0 : Int) ≤ ((rem8 bit 64).toNat : Int), RemB bit 64, ((k.tmod 98) == 96) = false, decide ((k.tmod 98) < 96) = false, decide ((k.tmod 98) < 64) = false, decide ((k.tmod 98) < 32) = false, decide (k.tmod 98 < 0) = false, true = true, RoundsIn W.cell?], by kernel_rfl, ⟨hq', tabsAre, tabsAre, hq, hr, hr, by omega, remB bit (n := 64) (by decide) (by decide), h4, h3, h2, h1, hs, rfl, hr, trivial⟩, rfl, fun body _ => loopsFor_none⟩
            | false =>
              have hq' : eqB (Rr (s, p, ⟨a⟩, ⟨b⟩, ⟨c⟩)).f (Rr (s, xor64 p (shl64 (rem8 bit 64)), ⟨a⟩, ⟨b⟩, ⟨c⟩)).f 0 32 = false := by rw [e, e']; exact hq
              exact ⟨_, _, ht, ITblOK.nil _, saysY [(16, false), (28, false), (41, false), (55, false), (69, false), (82, false), (89, false)], noLoop, true, [eqB (Rr (s, p, ⟨a⟩, ⟨b⟩, ⟨c⟩)).f (Rr (s, xor64 p (shl64 (rem8 bit 64)), ⟨a⟩, ⟨b⟩, ⟨c⟩)).f 0 32 = false, TabsAre, TabsAre, eqB (Hr (s, p, ⟨a⟩, ⟨b⟩, ⟨c⟩)).f (Hr (s, xor64 p (shl64 (rem8 bit 64)), ⟨a⟩, ⟨b⟩, ⟨c⟩)).f 0 32 = false, RoundsIn W.cell?, RoundsIn W.cell?, (0 : Int) ≤ ((rem8 bit 64).toNat : Int), RemB bit 64, ((k.tmod 98) == 96) = false, decide ((k.tmod 98) < 96) = false, decide ((k.tmod 98) < 64) = false, decide ((k.tmod 98) < 32) = false, decide (k.tmod 98 < 0) = false, true = true, RoundsIn W.cell?], by kernel_rfl, ⟨hq', tabsAre, tabsAre, hq, hr, hr, by omega, remB bit (n := 64) (by decide) (by decide), h4, h3, h2, h1, hs, rfl, hr, trivial⟩, rfl, fun body _ => loopsFor_none⟩
end
theorem rootsTell_ok : Computes A Tryd.prog 9 (fun _ : GA (Hd × Int × UInt8 × Unit) => true) :=
  rootsTell_of (Hr := headR pairR8) (Rr := headR pairR8) (.cons known20_ok.row (.cons hasher_ok.row (.cons header_ok.row (.cons refHeader_ok.row (.nil _))))) (fun _ => rfl)
end Go.Proofs.YtaloefkkllebeaaDoor

/- Roots: committees as a law's arguments; pairs of cut rows. -/
namespace Go.Sh
/-- A committee of any number of keys. -/
structure Cl where
  keys : List (R8 48)
  sum : R8 48
def clParse (old : Addr → Option Value) (m : Mem A) : TV A → Option (Cl × List Prop)
  | .val true (s :: cells) =>
    match isSl s with
    | true => (match rsParse 48 old m (asKn (.val false [s])), Rep.parseV (A := A) (T := R8 48) true cells with
      | some (b, vc), some r => some (⟨b.l, r⟩, vc)
      | _, _ => none)
    | false => none
  | _ => none
instance : Arg A Cl where
  G := Spot
  good W g x := HasRows W x.keys g
  tv g x := .val true [.e g.a (rsAt x.keys) 0 x.keys.length g.c, .a (.w8 48 x.sum.f)]
  val g x := .agg (spotVal x.keys.length g :: Rep.vals A x.sum).toArray
  is := by
    intro W g x β h1
    have h2 : LIs β [.e g.a (rsAt x.keys) 0 x.keys.length g.c] [spotVal x.keys.length g] := Arg.is (A := A) (T := Rs 48) (x := ⟨x.keys⟩) β h1
    refine ⟨spotVal x.keys.length g :: Rep.vals A x.sum, ⟨[spotVal x.keys.length g], Rep.vals A x.sum, LIs.single h2, LIs.atom rfl, rfl⟩, rfl⟩
  parse old m t := clParse old m t
  ok := by
    intro c X W0 W β m t x vc v h hvc hm e
    unfold clParse at h
    split at h
    · rename_i s cells
      split at h
      · rename_i hs
        split at h
        · rename_i b vc' r hb hr
          simp at h
          obtain ⟨rfl, rfl⟩ := h
          obtain ⟨vs, ⟨x1, y1, h1, h2, rfl⟩, rfl⟩ := e
          obtain ⟨u, rfl⟩ := sl_one hs h1
          obtain ⟨g, k1, k2⟩ := Arg.ok (A := A) (T := Rs 48) (c := c) (m := m) (t := .val false [s]) hb hvc hm (LIs.of_single h1)
          have k3 := Rep.parseV_ok (A := A) hr (β := β) (v := .agg y1.toArray) ⟨y1, h2, rfl⟩
          refine ⟨g, k1, ?_⟩
          have k4 : y1 = Rep.vals A r := by
            have k5 : Value.agg y1.toArray = .agg (Rep.vals A r).toArray := k3
            simpa using k5
          have k6 : u = spotVal b.l.length g := k2
          rw [k4, k6]
          rfl
        · cases h
      · cases h
    · cases h
instance : OpensArg A Cl where
  shape := .srow 48 (List.replicate 48 (.int .u8))
  opens W v h := by
    obtain ⟨f, k, g, cs, ⟨h1, h2, h3⟩, h4, rfl⟩ := h
    obtain ⟨s, rfl⟩ := Opens.opens (A := A) (T := R8 48) cs h4
    refine ⟨g, ⟨cutR 48 f k, s⟩, ⟨by rw [cutR_len]; exact h1, h2, fun a ha i hi => ?_⟩, ?_⟩
    · rw [cutR_len] at hi
      rw [h3 a ha i hi, cutR_at _ _ _ _ hi]
    · show Value.agg (spotVal k g :: Rep.vals A s).toArray = .agg (spotVal (cutR 48 f k).length g :: Rep.vals A s).toArray
      rw [cutR_len]
theorem map_cut (a : Nat → UInt8) : (List.range 32).map (elR a 0) = (List.range 32).map a := by
  refine List.map_congr_left fun j hj => ?_
  unfold elR
  rw [extR_at _ _ _ _ (List.mem_range.1 hj), Nat.zero_add]
theorem both_cut (a b : Nat → UInt8) : both (elR a 0) (elR b 0) = both a b := by
  unfold both
  rw [map_cut, map_cut]
end Go.Sh
namespace Go.Proofs.YtaloefkkllebeaaDoor
open Go Go.Sh
theorem pair_ext (a b : R8 32) : pairR8 ⟨elR a.f 0⟩ ⟨elR b.f 0⟩ = pairR8 a b := by
  unfold pairR8
  rw [both_cut]
end Go.Proofs.YtaloefkkllebeaaDoor
namespace Go.Proofs.YtaloefkkllebeaaDoor
open Go Go.Sh
noncomputable def tblF8 (Pm : R8 32 → R8 32 → R8 32) (Cr : UInt64 → R8 32) (ZR : Int → R8 32) (Ke : R8 48 → R8 32) (Hr : Hd → R8 32) (Co : Ck → R8 32) (T : List (R8 32) → Nat → R8 32) : List (Row A) :=
  [rowOf A 38 (fun _ : GA Unit => true), rowOf A 39 (fun _ : Unit => (⟨.mk⟩ : Hz Mk)), rowOf A 34 (fun x : Ptr Mk × R8 32 × R8 32 × Unit => Pm x.2.1 x.2.2.1), rowOf A 40 (fun x : UInt64 × Unit => Cr x.1),
    rowOf A 41 (fun x : Hs Mk × Int × Unit => ZR x.2.1), rowOf A 42 (fun x : GA (R8 48 × Unit) => Ke x.x.1), rowOf A 43 (fun x : GA (Hd × Unit) => Hr x.x.1), rowOf A 44 (fun x : GA (Ck × Unit) => Co x.x.1),
    rowOf A 46 (fun x : Int × Unit => ((depQ x.1 : Nat) : Int)), rowOf A 45 (fun x : Hs Mk × Rt 32 × Dp 62 × Unit => T x.2.1.l x.2.2.1.n)]
def hB2 : SV A := .ka (Celled.cellA Mk.mk) 0 (Celled.n Mk)
def fiS (g : Spot) (l : List (R8 48)) (s p : UInt64) (a b c m P Q : Nat → UInt8) (f : Nat → A) (i : Nat) : St A :=
  ⟨slots 0 88 [(2, .val false [.p 0 0]), (3, .val false [.p 1 0]), (4, .val false [.v (.bool false)]), (5, .val false [.p 2 0]), (6, .val false [.p 3 0]), (7, .val false [.p 4 0]), (8, .val false [.gr f 5 i i 32]), (9, .val false [.n .i64 (i : Int)])],
    [some ⟨[.a (.u64 s), .a (.u64 p), .a (.w8 32 a), .a (.w8 32 b), .a (.w8 32 c)], 48, false⟩, some ⟨[rs48 g l, .a (.w8 48 m)], 53, false⟩, some ⟨[hB2], 55, false⟩, some ⟨[.a (.w8 32 P)], 25, false⟩, some ⟨[.a (.w8 32 Q)], 25, false⟩, some ⟨[.mk i (c32 i)], 25, false⟩], 0, [], []⟩
def orFi (s : List (Nat × Bool)) : Nat → Nat → Dec := fun r t => match Nat.beq t 8 with | true => .grow 25 32 | false => saysY s r t
def kC (l : List (R8 48)) : List (R8 48) := cutR 48 (fun j => u8of (rsAt l (0 + j))) l.length
theorem kC_len (l : List (R8 48)) : (kC l).length = l.length := cutR_len _ _ _
section
variable {Pm : R8 32 → R8 32 → R8 32} {Cr : UInt64 → R8 32} {ZR : Int → R8 32} {Ke : R8 48 → R8 32} {Hr : Hd → R8 32} {Co : Ck → R8 32} {T : List (R8 32) → Nat → R8 32} (ht : TblOK Tryd.prog (tblF8 Pm Cr ZR Ke Hr Co T))
  (hH : ∀ s p (a b c : Nat → UInt8), eqB (Hr (s, p, ⟨a⟩, ⟨b⟩, ⟨c⟩)).f (Pm (Pm (Pm (Cr s) (Cr p)) (Pm ⟨a⟩ ⟨b⟩)) (Pm (Pm ⟨c⟩ zR) (ZR 1))).f 0 32 = true) (hC : ∀ (l : List (R8 48)) (m : R8 48), l.length ≤ 40 → eqB (Co ⟨kC l, m⟩).f (Pm (T (coL Ke l) ((depQ (l.length : Int) : Int)).toNat) (Ke m)).f 0 32 = true)
include ht hH hC
theorem rootsFields_of : Computes A Tryd.prog 8 (fun _ : GA (Hd × Cl × Unit) => true) := by
  refine computes_of_runT Tryd.func8 (by kernel_rfl) (by kernel_rfl) 6 ?_
  rintro ⟨_, g, _⟩ ⟨⟨⟨s, p, ⟨a⟩, ⟨b⟩, ⟨c⟩⟩, ⟨l, ⟨m⟩⟩, ⟨⟩⟩⟩ W ⟨hr, _, hg, _⟩
  have hG : HasRows W l g := hg
  cases h40 : decide ((l.length : Int) > 40) with
  | true =>
    exact ⟨_, _, ht, ITblOK.nil _, saysY [], noLoop, true, [decide ((l.length : Int) > 40) = true, true = true, RoundsIn W.cell?], by kernel_rfl, ⟨h40, rfl, hr, trivial⟩, rfl, fun body _ => loopsFor_none⟩
  | false =>
    have hl : l.length ≤ 40 := by have := of_decide_eq_false h40; omega
    have e1 := hH s p a b c
    have e2 := hC l ⟨m⟩ hl
    have hd := depQ_le (l.length : Int)
    have rd : Reads W.cell? g.a (rsAt l) 0 (l.length * 48) := reads_rows (n := 48) hG (by omega)
    have hs : SoundFor Tryd.prog W.cell? [] (.loop (loopNo Tryd.f8 10)) (fiS g l s p a b c m (Pm (Pm (Cr s) (Cr p)) (Pm ⟨a⟩ ⟨b⟩)).f (Pm (Pm ⟨c⟩ zR) (ZR 1)).f (coF Ke l 0) 0) (.exit 0) (fiS g l s p a b c m (Pm (Pm (Cr s) (Cr p)) (Pm ⟨a⟩ ⟨b⟩)).f (Pm (Pm ⟨c⟩ zR) (ZR 1)).f (coF Ke l l.length) l.length) := fun cc q1 q2 q3 q4 =>
      loopAt (c := cc) (inv := fun i => fiS g l s p a b c m (Pm (Pm (Cr s) (Cr p)) (Pm ⟨a⟩ ⟨b⟩)).f (Pm (Pm ⟨c⟩ zR) (ZR 1)).f (coF Ke l i) i) (N := l.length) (by simp)
        (fun i hi => by
          have gr : i = i ∧ timesN i (31 + 1) = c32 i ∧ Sh.Bears (i + 1) 32 := ⟨rfl, by rw [timesN_eq, c32_eq]; omega, by unfold Sh.Bears maxLen; omega⟩
          have rd : Reads W.cell? g.a (rsAt (l := l)) (i * 48) 48 := reads_rows (n := 48) hG (by omega)
          show Round cc _ _ _ (fiS g l s p a b c m _ _ (catF (coF Ke l i) (timesN i (31 + 1)) (cells32 (Ke ⟨el48 l i⟩).f) 0) (i + 1))
          generalize coF Ke l i = f
          exact Round.of0 ht (saysY []) 6 [WrapI ((i : Int) + 1), i = i ∧ timesN i (31 + 1) = c32 i ∧ Sh.Bears (i + 1) 32, RoundsIn W.cell?, Reads W.cell? g.a (rsAt l) (i * 48) 48, IX (i : Int) l.length, decide ((i : Int) < (l.length : Int)) = true] (by kernel_rfl)
            ⟨wI (by omega) (by omega), gr, hr, rd, ⟨by omega, by omega⟩, decide_eq_true (by omega), trivial⟩ (by kernel_rfl) (by kernel_rfl) q1 q2 q3 q4)
        (by
          generalize coF Ke l l.length = f
          exact Round.of0 ht (saysY [(51, false)]) 6 [decide ((l.length : Int) < (l.length : Int)) = false] (by kernel_rfl) ⟨decide_eq_false (by omega), trivial⟩ (by kernel_rfl) (by kernel_rfl) q1 q2 q3 q4)
    have hu := coF_u8 Ke l l.length
    unfold coL at e2
    revert hs hu e2
    generalize coF Ke l l.length = f
    intro e2 hs hu
    refine ⟨_, _, ht, ITblOK.nil _, orFi [(15, false)], lps [(10, fiS g l s p a b c m (Pm (Pm (Cr s) (Cr p)) (Pm ⟨a⟩ ⟨b⟩)).f (Pm (Pm ⟨c⟩ zR) (ZR 1)).f (fun _ => Atom.dummy) 0, .exit 0, fiS g l s p a b c m (Pm (Pm (Cr s) (Cr p)) (Pm ⟨a⟩ ⟨b⟩)).f (Pm (Pm ⟨c⟩ zR) (ZR 1)).f f l.length)], true,
      [eqB (Co ⟨kC l, ⟨m⟩⟩).f (Pm (T (cutR 32 (fun j => u8of (f (0 + j))) l.length) ((depQ (l.length : Int) : Int)).toNat) (Ke ⟨m⟩)).f 0 32 = true, TabsAre, RoundsIn W.cell?, TabsAre, (cutR 32 (fun j => u8of (f (0 + j))) l.length).length < 1048576, ∀ j, j < l.length * 32 → isU8 (f (0 + j)) = true, (0 : Int) ≤ (depQ (l.length : Int) : Int) ∧ (depQ (l.length : Int) : Int) ≤ ((62 : Nat) : Int), RoundsIn W.cell?,
        (kC l).length < 1048576, Reads W.cell? g.a (rsAt l) 0 (l.length * 48), ∀ j, j < l.length * 48 → isU8 (rsAt l (0 + j)) = true, eqB (Hr (s, p, ⟨a⟩, ⟨b⟩, ⟨c⟩)).f (Pm (Pm (Pm (Cr s) (Cr p)) (Pm ⟨a⟩ ⟨b⟩)) (Pm (Pm ⟨c⟩ zR) (ZR 1))).f 0 32 = true, TabsAre, RoundsIn W.cell?,
        ToldIs (fiS g l s p a b c m (Pm (Pm (Cr s) (Cr p)) (Pm ⟨a⟩ ⟨b⟩)).f (Pm (Pm ⟨c⟩ zR) (ZR 1)).f (fun _ => Atom.dummy) 0), TabsAre, TabsAre, TabsAre, TabsAre, TabsAre, TabsAre, decide ((l.length : Int) > 40) = false, true = true, RoundsIn W.cell?], by kernel_rfl,
      ⟨e2, tabsAre, hr, tabsAre, by rw [cutR_len]; omega, fun j _ => hu _, by omega, hr, by rw [kC_len]; omega, rd, fun _ _ => rfl, e1, tabsAre, hr, toldIs _, tabsAre, tabsAre, tabsAre, tabsAre, tabsAre, tabsAre, h40, rfl, hr, trivial⟩, rfl, fun body hb => ?_⟩
    obtain rfl := Option.some.inj hb
    exact LoopsFor.cons (by kernel_rfl) hs LoopsFor.nil
end
theorem head_five (Pr : R8 32 → R8 32 → R8 32) (s p : UInt64) (a b c : Nat → UInt8) : headR Pr (s, p, ⟨a⟩, ⟨b⟩, ⟨c⟩) = Pr (Pr (Pr ⟨elR (chunkV s).f 0⟩ ⟨elR (chunkV p).f 0⟩) (Pr ⟨elR a 0⟩ ⟨elR b 0⟩)) (Pr (Pr ⟨elR c 0⟩ ⟨elR zR.f 0⟩) (Pr zR zR)) := by kernel_rfl
theorem el_kC (l : List (R8 48)) (i : Nat) (h : i < l.length) : el48 (kC l) i = el48 l i := by
  unfold el48
  rw [extR_congr (rsB (kC l)) (rsB l) 48 (i * 48) (i * 48) (fun j hj => by
    unfold kC
    rw [cutR_at _ _ _ _ (by omega)]
    show rsB l (0 + _) = _
    rw [Nat.zero_add])]
theorem coF_kC (Ke : R8 48 → R8 32) (l : List (R8 48)) : ∀ i, i ≤ l.length → coF Ke (kC l) i = coF Ke l i
  | 0, _ => rfl
  | i + 1, h => by
    simp only [coF]
    rw [coF_kC Ke l i (by omega), el_kC l i (by omega)]
theorem coL_kC (Ke : R8 48 → R8 32) (l : List (R8 48)) : coL Ke (kC l) = coL Ke l := by
  unfold coL
  rw [kC_len, coF_kC Ke l _ (Nat.le_refl _)]
theorem rootsFields_ok : Computes A Tryd.prog 8 (fun _ : GA (Hd × Cl × Unit) => true) := by
  refine rootsFields_of (Pm := pairR8) (Cr := refChunkV) (ZR := fun d => zK pairR8 zR (zrN d)) (Ke := keyV pairR8) (Hr := headR pairR8) (Co := comV pairR8) (T := treeN pairR8)
    (.cons known20_ok.row (.cons hasher_ok.row (.cons makerPair_ok.row (.cons refChunk_ok.row (.cons refZero_ok.row (.cons key_ok.row (.cons header_ok.row (.cons committee_ok.row (.cons refDepth_ok.row (.cons tree_ok.row (.nil _))))))))))) (fun s p a b c => ?_) (fun l m hl => ?_)
  · have e : zrN 1 = 1 := by rw [zrN_eq]; rfl
    show eqB _ (pairR8 (pairR8 (pairR8 (refChunkV s) (refChunkV p)) (pairR8 ⟨a⟩ ⟨b⟩)) (pairR8 (pairR8 ⟨c⟩ zR) (zK pairR8 zR (zrN 1)))).f 0 32 = true
    rw [e, head_five, ← chunk_same, ← chunk_same, pair_ext, pair_ext ⟨a⟩ ⟨b⟩, pair_ext ⟨c⟩ zR]
    exact eqB_self _ _ _
  · rw [Int.toNat_natCast]
    have e : comV pairR8 ⟨kC l, m⟩ = pairR8 (treeN pairR8 (coL (keyV pairR8) l) (depQ (l.length : Int))) (keyV pairR8 m) := by
      unfold comV
      rw [of_two pairR8 (nm_tw _ _), pair_ext, ofV_tree, lsL_len, coL_len, kC_len]
      unfold treeN
      rw [nm_lsL, coL_kC]
    rw [e]
    exact eqB_self _ _ _
end Go.Proofs.YtaloefkkllebeaaDoor
