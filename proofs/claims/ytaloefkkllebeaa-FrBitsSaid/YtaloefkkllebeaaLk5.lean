/- The walk's contract; numbers held against one another. -/
import Derived.Test.YtaloefkkllebeaaLk4
set_option linter.unusedVariables false
set_option linter.unusedSimpArgs false
set_option linter.unusedSectionVars false
namespace Go.Proofs.Ytaloefkkllebeaa
open Go Go.Sh
section
variable (g h : Spot) (x y : List Int)
def iSA (i : Int) : St A := ⟨slots 0 26 [(0, .val false [.e g.a (intAt x) 0 x.length g.c]), (1, .val false [.e h.a (intAt y) 0 y.length h.c]), (5, .val false [.n .i64 i])], [], 0, [], []⟩
def iEA : St A := ⟨slots 0 26 [], [], 0, [], []⟩
def iRA : St A := ⟨slots 0 26 [(4, .val false [.v (.bool false)])], [], 0, [], []⟩
variable {W : World} {k : Cfg A} (e1 : k.P = Try.prog) (e2 : k.gl = (fun _ => none)) (e3 : k.old = W.cell?) (e4 : k.ys = []) (hg : HasInts W x g) (hh : HasInts W y h) (hl : x.length = y.length)
include e1 e2 e3 e4 hg hh hl
theorem iSA_go (hx : x.length < 1048576) : ∀ (d i : Nat), i + d = x.length →
    (x.drop i = y.drop i → Goes k (loopNo Try.f25 4) (iSA g h x y i) (.exit 0) iEA) ∧ (x.drop i ≠ y.drop i → Goes k (loopNo Try.f25 4) (iSA g h x y i) .ret iRA)
  | 0, i, hd => by
    refine ⟨fun _ => .last (by simp) (Round.of0 (TblOK.nil _) (says [(14, false)]) 4 [decide ((i : Int) < (x.length : Int)) = false] (by kernel_rfl) ⟨decide_eq_false (by omega), trivial⟩ (by kernel_rfl) (by kernel_rfl) e1 e2 e3 e4), fun hne => absurd ?_ hne⟩
    rw [List.drop_of_length_le (by omega), List.drop_of_length_le (by omega)]
  | d + 1, i, hd => by
    obtain ⟨ih1, ih2⟩ := iSA_go hx d (i + 1) (by omega)
    have hi : i < x.length := by omega
    have rx : Reads W.cell? g.a (intAt (B := FB) x) i 1 := reads_ints hg (by omega)
    have ry : Reads W.cell? h.a (intAt (B := FB) y) i 1 := reads_ints hh (by omega)
    have ix : Idx (i : Int) x.length := ⟨by omega, by omega⟩
    have iy : Idx (i : Int) y.length := ⟨by omega, by omega⟩
    have lt : decide ((i : Int) < (x.length : Int)) = true := decide_eq_true (by omega)
    have w : WrapI ((i : Int) + 1) := wrapI (by omega) (by omega)
    have dx : x.drop i = x.getD i 0 :: x.drop (i + 1) := by
      rw [List.drop_eq_getElem_cons hi, List.getD_eq_getElem?_getD, List.getElem?_eq_getElem hi]; rfl
    have dy : y.drop i = y.getD i 0 :: y.drop (i + 1) := by
      rw [List.drop_eq_getElem_cons (by omega), List.getD_eq_getElem?_getD, List.getElem?_eq_getElem (by omega)]; rfl
    have st : ((x.getD i 0 != y.getD i 0) = false) → Round k (loopNo Try.f25 4) (iSA g h x y i) .normal (iSA g h x y ((i + 1 : Nat) : Int)) := fun hne =>
      Round.of0 (TblOK.nil _) (says [(14, true), (25, false)]) 4 [WrapI ((i : Int) + 1), (x.getD i 0 != y.getD i 0) = false, Reads W.cell? h.a (intAt (B := FB) y) i 1, Idx (i : Int) y.length, Reads W.cell? g.a (intAt (B := FB) x) i 1, Idx (i : Int) x.length, decide ((i : Int) < (x.length : Int)) = true] (by kernel_rfl) ⟨w, hne, ry, iy, rx, ix, lt, trivial⟩ (by kernel_rfl) (by kernel_rfl) e1 e2 e3 e4
    rw [dx, dy]
    cases hne : (x.getD i 0 != y.getD i 0) with
    | true =>
      refine ⟨fun he => ?_, fun _ => ?_⟩
      · simp only [bne_iff_ne, ne_eq] at hne
        exact absurd (List.cons.inj he).1 hne
      · exact .last (by simp) (Round.of0 (TblOK.nil _) (says [(14, true), (25, true)]) 4 [(x.getD i 0 != y.getD i 0) = true, Reads W.cell? h.a (intAt (B := FB) y) i 1, Idx (i : Int) y.length, Reads W.cell? g.a (intAt (B := FB) x) i 1, Idx (i : Int) x.length, decide ((i : Int) < (x.length : Int)) = true] (by kernel_rfl) ⟨hne, ry, iy, rx, ix, lt, trivial⟩ (by kernel_rfl) (by kernel_rfl) e1 e2 e3 e4)
    | false =>
      have heq : x.getD i 0 = y.getD i 0 := by simpa using hne
      refine ⟨fun he => .step (st hne) (ih1 (List.cons.inj he).2), fun hn => .step (st hne) (ih2 fun he => hn ?_)⟩
      rw [heq, he]
end
theorem intsA_ok : Computes A Try.prog 25 (fun x : Is × Is × Unit => decide (x.1.l = x.2.1.l)) := by
  refine computes_of_runW (TblOK.nil _) (ITblOK.nil _) Try.func25 (by kernel_rfl) (by kernel_rfl) 4 ?_
  rintro ⟨g, h, _⟩ ⟨⟨x⟩, ⟨y⟩, ⟨⟩⟩ W ⟨⟨hg, hx⟩, ⟨hh, hy⟩, _⟩
  simp only at hx
  cases hl : ((x.length : Int) != (y.length : Int)) with
  | true =>
    refine ⟨says [(10, true)], noLoop, false, [((x.length : Int) != (y.length : Int)) = true], by kernel_rfl, ⟨hl, trivial⟩, ?_, fun _ _ => loopsFor_none⟩
    symm
    refine decide_eq_false fun e => ?_
    simp only at e
    rw [e] at hl
    simp at hl
  | false =>
    have hl' : x.length = y.length := by
      have : (x.length : Int) = (y.length : Int) := by simpa using hl
      omega
    obtain ⟨h1, h2⟩ := iSA_go g h x y (W := W) (k := cfgW Try.prog [] [] (fun _ _ => .keep) W.cell? noLoop [] noYield) rfl rfl rfl rfl hg hh hl' hx x.length 0 (by omega)
    by_cases he : x = y
    · have hs : SoundFor Try.prog W.cell? [] (.loop (loopNo Try.f25 4)) (iSA g h x y 0) (.exit 0) iEA := fun c q1 q2 q3 q4 => ((iSA_go g h x y (W := W) (k := c) q1 q2 q3 q4 hg hh hl' hx x.length 0 (by omega)).1 (by rw [he])).sound
      refine ⟨says [(10, false)], lps [(4, iSA g h x y 0, .exit 0, iEA)], true, [ToldIs (iSA g h x y 0), ((x.length : Int) != (y.length : Int)) = false], by kernel_rfl, ⟨toldIs _, hl, trivial⟩, (decide_eq_true he).symm, fun body hb => ?_⟩
      refine LoopsFor.cons ?_ hs LoopsFor.nil
      obtain rfl := Option.some.inj hb
      kernel_rfl
    · have hs : SoundFor Try.prog W.cell? [] (.loop (loopNo Try.f25 4)) (iSA g h x y 0) .ret iRA := fun c q1 q2 q3 q4 => ((iSA_go g h x y (W := W) (k := c) q1 q2 q3 q4 hg hh hl' hx x.length 0 (by omega)).2 (by simpa using he)).sound
      refine ⟨says [(10, false)], lps [(4, iSA g h x y 0, .ret, iRA)], false, [ToldIs (iSA g h x y 0), ((x.length : Int) != (y.length : Int)) = false], by kernel_rfl, ⟨toldIs _, hl, trivial⟩, (decide_eq_false he).symm, fun body hb => ?_⟩
      refine LoopsFor.cons ?_ hs LoopsFor.nil
      obtain rfl := Option.some.inj hb
      kernel_rfl
theorem walk_ok : Computes A Try.prog 26 (fun x : Num × Int × Unit => (⟨(bitsI x.1).take x.2.1.toNat⟩ : Iz)) := by
  refine computes_of_runT Try.func26 (by kernel_rfl) (by kernel_rfl) 4 ?_
  rintro _ ⟨a, most, ⟨⟩⟩ W -
  have ht : TblOK Try.prog [rowIn (A := A) Try.prog [] [] (fun _ _ => .keep) 4 52 Try.f52] := .cons (rowIn_ok (TblOK.nil _) (ITblOK.nil _) _ 4 Try.func52 (by kernel_rfl) (by kernel_rfl)) (.nil _)
  have hlen := gat_len most [] (bitsW a 6)
  have hlw : (bitsW a 6).length ≤ 384 := by rw [bitsW_all]; exact bitsI_len a
  have htk := gat_take most [] (bitsW a 6)
  rw [bitsW_all] at htk hlen hlw
  simp only [List.reverse_nil, List.nil_append, List.length_nil, Nat.sub_zero] at htk
  have hs := fun (c : Cfg A) (q1 : c.P = Try.prog) (q2 : c.gl = (fun _ => none)) (q3 : c.old = W.cell?) (q4 : c.ys = [ysW a most]) => outW_all a most W.cell? (k := c) q1 q2 q3 q4 6 [] (Nat.le_refl _) (by rw [bitsW_all]; simpa using hlw)
  rw [bitsW_all] at hs
  rw [← htk]
  clear htk
  revert hs hlen
  have hi : ∀ lp, ITblOK Try.prog [iterW (A := A) Try.prog tblBl [] (fun _ _ => .keep) lp 4 65 Try.f65] := fun lp => ITblOK.cons (iterW_ok (.cons len64_ok.row (.nil _)) (ITblOK.nil _) _ lp 4 Try.func65 (by kernel_rfl) (by kernel_rfl)) (ITblOK.nil _)
  cases gat most [] (bitsI a) with
  | mk R b =>
    intro hlen hs
    simp only [List.length_nil, Nat.zero_add] at hlen
    have hf : ∀ j, j < R.length → isI64 (FR R (0 + j)) = true := fun j hj => by rw [Nat.zero_add, FR_get R j hj]; rfl
    have hy : (List.range R.length).map (fun j => i64of (FR R (0 + j))) = R.reverse := by
      apply List.ext_getElem
      · simp
      · intro j h1 h2
        simp at h1
        simp only [List.getElem_map, List.getElem_range, Nat.zero_add]
        rw [FR_get R j h1, List.getD_eq_getElem?_getD, List.getElem?_eq_getElem h2]
        rfl
    have hy' : (⟨(List.range R.length).map fun j => i64of (FR R (0 + j))⟩ : Iz) = ⟨R.reverse⟩ := by rw [hy]
    cases b with
    | true =>
      have hs' : SoundFor Try.prog W.cell? [ysW a most] (.loop (loopNo Try.f65 1)) (outSW a most (FR []) 0 5) .ret (anySW a most (FR R) R.length (some (.exit 0))) := fun c q1 q2 q3 q4 => (hs c q1 q2 q3 q4).sound
      refine ⟨_, _, ht, hi (lps [(1, outSW a most (FR []) 0 5, .ret, anySW a most (FR R) R.length (some (.exit 0)))]), orcW, noLoop, ⟨(List.range R.length).map fun j => i64of (FR R (0 + j))⟩,
        [∀ j, j < R.length → isI64 (FR R (0 + j)) = true, ∀ body, Try.f65.body = some body → LoopsFor Try.prog W.cell? [ysW a most] (lps [(1, outSW a most (FR []) 0 5, .ret, anySW a most (FR R) R.length (some (.exit 0)))]) body, ToldIs (outSW a most (FR []) 0 5)], by kernel_rfl, ⟨hf, ?_, toldIs _, trivial⟩, hy', fun body _ => loopsFor_none⟩
      intro body hb
      refine LoopsFor.cons ?_ hs' LoopsFor.nil
      obtain rfl := Option.some.inj hb
      kernel_rfl
    | false =>
      have hs' : SoundFor Try.prog W.cell? [ysW a most] (.loop (loopNo Try.f65 1)) (outSW a most (FR []) 0 5) (.exit 0) (anySW a most (FR R) R.length none) := fun c q1 q2 q3 q4 => (hs c q1 q2 q3 q4).sound
      refine ⟨_, _, ht, hi (lps [(1, outSW a most (FR []) 0 5, .exit 0, anySW a most (FR R) R.length none)]), orcW, noLoop, ⟨(List.range R.length).map fun j => i64of (FR R (0 + j))⟩,
        [∀ j, j < R.length → isI64 (FR R (0 + j)) = true, ∀ body, Try.f65.body = some body → LoopsFor Try.prog W.cell? [ysW a most] (lps [(1, outSW a most (FR []) 0 5, .exit 0, anySW a most (FR R) R.length none)]) body, ToldIs (outSW a most (FR []) 0 5)], by kernel_rfl, ⟨hf, ?_, toldIs _, trivial⟩, hy', fun body _ => loopsFor_none⟩
      intro body hb
      refine LoopsFor.cons ?_ hs' LoopsFor.nil
      obtain rfl := Option.some.inj hb
      kernel_rfl
end Go.Proofs.Ytaloefkkllebeaa
