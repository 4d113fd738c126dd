/- The scalar field: the law of bits. -/
import Derived.Test.YtaloefkkllebeaaFd1
set_option linter.unusedVariables false
set_option linter.unusedSimpArgs false
set_option linter.unusedSectionVars false
namespace Go.Proofs.Ytaloefkkllebeaa
open Go Go.Sh
section
variable (ga : Option Addr) (fb : Nat → A) (nb cb : Nat) (a : Fq) (most : Int)
def wSQ (f : Nat → A) (n : Nat) (i : Int) : St A := ⟨slots 0 54 [(1, .val false [.n .i64 most]), (4, .val false [.v (.bool false)]), (5, .val false [.p 1 0]), (6, .val false [.p 2 0]), (7, .val false [.gr f 3 n n 1]), (8, .val false [.n .i64 i])], [some ⟨[.e ga fb 0 nb cb], 46, false⟩, some ⟨[.a (.big (.fr a))], 59, false⟩, some ⟨[.a (.big (.num (fqNum a)))], 27, false⟩, some ⟨[.mk n n], 3, false⟩], 0, [], []⟩
def wEQ (f : Nat → A) (n : Nat) : St A := ⟨slots 0 54 [(1, .val false [.n .i64 most]), (4, .val false [.v (.bool false)]), (5, .val false [.p 1 0]), (6, .val false [.p 2 0]), (7, .val false [.gr f 3 n n 1])], [some ⟨[.e ga fb 0 nb cb], 46, false⟩, some ⟨[.a (.big (.fr a))], 59, false⟩, some ⟨[.a (.big (.num (fqNum a)))], 27, false⟩, some ⟨[.mk n n], 3, false⟩], 0, [], []⟩
variable {old : Addr → Option Value} {k : Cfg A} (e1 : k.P = Try.prog) (e2 : k.gl = (fun _ => none)) (e3 : k.old = old) (e4 : k.ys = [])
include e1 e2 e3 e4
theorem wSQ_go (htop : (fqNum a).val < 2 ^ 256) : ∀ (i : Nat) (R : List Int), i ≤ 256 → R.length + i ≤ 256 →
    Goes k (loopNo Try.f10 9) (wSQ ga fb nb cb a most (FR R) R.length ((i : Int) - 1)) (.exit 0) (wEQ ga fb nb cb a most (FR (((tops i (fqNum a).val).map fun j : Nat => (j : Int)).reverse ++ R)) (((tops i (fqNum a).val).map fun j : Nat => (j : Int)).reverse ++ R).length)
  | 0, R, _, _ => .last (by simp) (Round.of0 (TblOK.nil _) (says [(20, false)]) 4 [decide (((0 : Nat) : Int) - 1 ≥ 0) = false] (by kernel_rfl) ⟨by decide, trivial⟩ (by kernel_rfl) (by kernel_rfl) e1 e2 e3 e4)
  | i + 1, R, hi, hR => by
    have hb := bitT_nat (fqNum a) i (by omega)
    have hh : ((i + 1 : Nat) : Int) - 1 = (i : Int) := by omega
    rw [hh]
    have w1 : WrapI ((i : Int) - 1) := wrapI (by omega) (by omega)
    have d1 : ((i : Int).tdiv 64) = ((i / 64 : Nat) : Int) := rfl
    have d2 : ((i : Int).tmod 64) = ((i % 64 : Nat) : Int) := rfl
    have w2 : WrapI ((i : Int).tdiv 64) := by rw [d1]; exact wrapI (by omega) (by omega)
    have w3 : Idx ((i : Int).tdiv 64) 6 := by rw [d1]; exact ⟨by omega, by omega⟩
    have w4 : (0 : Int) ≤ (i : Int).tmod 64 := by rw [d2]; omega
    have w5 : decide ((i : Int) ≥ 0) = true := decide_eq_true (by omega)
    have ht : timesN R.length (0 + 1) = R.length := by rw [timesN_eq, Nat.zero_add, Nat.mul_one]
    unfold tops
    rw [← hb]
    cases hbit : bitT (fqNum a) (i : Int) with
    | true =>
      have ih := wSQ_go htop i ((i : Int) :: R) (by omega) (by simp; omega)
      have st : Round k (loopNo Try.f10 9) (wSQ ga fb nb cb a most (FR R) R.length (i : Int)) .normal (wSQ ga fb nb cb a most (FR ((i : Int) :: R)) ((i : Int) :: R).length ((i : Int) - 1)) :=
        Round.of0 (TblOK.nil _) (says [(20, true), (31, true)]) 4 [WrapI ((i : Int) - 1), R.length = R.length ∧ timesN R.length (0 + 1) = R.length ∧ Sh.Bears (R.length + 1) 8, bitT (fqNum a) (i : Int) = true, (0 : Int) ≤ (i : Int).tmod 64, Idx ((i : Int).tdiv 64) 6, WrapI ((i : Int).tdiv 64), decide ((i : Int) ≥ 0) = true] (by kernel_rfl) ⟨w1, ⟨rfl, ht, ⟨by omega, by unfold maxLen; omega⟩⟩, hbit, w4, w3, w2, w5, trivial⟩ (by kernel_rfl) (by kernel_rfl) e1 e2 e3 e4
      refine .step st ?_
      simpa using ih
    | false =>
      have ih := wSQ_go htop i R (by omega) (by omega)
      have st : Round k (loopNo Try.f10 9) (wSQ ga fb nb cb a most (FR R) R.length (i : Int)) .normal (wSQ ga fb nb cb a most (FR R) R.length ((i : Int) - 1)) :=
        Round.of0 (TblOK.nil _) (says [(20, true), (31, false)]) 4 [WrapI ((i : Int) - 1), bitT (fqNum a) (i : Int) = false, (0 : Int) ≤ (i : Int).tmod 64, Idx ((i : Int).tdiv 64) 6, WrapI ((i : Int).tdiv 64), decide ((i : Int) ≥ 0) = true] (by kernel_rfl) ⟨w1, hbit, w4, w3, w2, w5, trivial⟩ (by kernel_rfl) (by kernel_rfl) e1 e2 e3 e4
      exact .step st ih
end
section
variable (Wd : List UInt8 → Fq) (Nu : Fq → Num) (Wk : Fq → Int → Iz) (E : List Int → List Int → Bool)
noncomputable def tbQ (k : Nat) (b : Bool) : List (Row A) := [rowOf A 32 (fun _ : Unit => true), light4Row k, rowOf A 40 (fun x : Bt × Unit => Wd x.1.l), rowOf A 43 (fun x : Fq × Unit => Nu x.1),
  rowOf A 45 (fun x : Fq × Int × Unit => Wk x.1 x.2.1), rowOf A 44 (fun x : Is × Is × Unit => E x.1.l x.2.1.l), rowIn Try.prog [] [] (says [(9, b)]) 4 24 Try.f24]
def orQ : Nat → Nat → Dec := fun _ t => match Nat.beq t 7 with | true => .grow 3 1 | false => saysY [] 0 t
def vcQ (a : Fq) (z : Int) (f : Nat → A) (n : Nat) (l : List Prop) : List Prop :=
  (E (fL (intAt (Wk a 400).l) (Wk a 400).l.length) (fL f n) = true) :: (∀ j, j < (Wk a 400).l.length → isI64 (intAt (B := FB) (Wk a 400).l (0 + j)) = true) :: ((Wk a 400).l.length < 1048576) :: (∀ j, j < n → isI64 (f (0 + j)) = true) :: (n < 1048576) ::
  (E (fL (intAt (Wk a z).l) (Wk a z).l.length) (fL f (z.toNat - 0)) = true) :: (∀ j, j < (Wk a z).l.length → isI64 (intAt (B := FB) (Wk a z).l (0 + j)) = true) :: ((Wk a z).l.length < 1048576) :: (∀ j, j < z.toNat - 0 → isI64 (f (0 + j)) = true) :: (z.toNat - 0 < 1048576) :: (0 ≤ z ∧ z ≤ n) :: l
theorem bitsQ_of (ht : ∀ k b, TblOK Try.prog (tbQ Wd fqNum Wk E k b)) (hW : ∀ a most, (Wk a most).l = (bitsI (fqNum a)).take most.toNat) (hE : ∀ x, E x x = true) (hlen : ∀ a : Fq, (bitsI (fqNum a)).length ≤ 256) (hb6 : ∀ a : Fq, bitsI (fqNum a) = (tops 256 (fqNum a).val).map fun j : Nat => (j : Int)) :
    Computes A Try.prog 10 (fun _ : Bs × Int × Unit => true) := by
  refine computes_of_runT Try.func10 (by kernel_rfl) (by kernel_rfl) 8 ?_
  rintro ⟨g0, _⟩ ⟨⟨x⟩, most, ⟨⟩⟩ W ⟨k0, _⟩
  have k0 : HasBytes W x g0 := k0
  by_cases hx : x.length ≤ 128
  · obtain ⟨a, ha⟩ : ∃ a, a = Wd (partB x 0 x.length) := ⟨_, rfl⟩
    have hs : SoundFor Try.prog W.cell? [] (.loop (loopNo Try.f10 9)) (wSQ g0.a (byteAt x) x.length g0.c a most (FR []) 0 255) (.exit 0) (wEQ g0.a (byteAt x) x.length g0.c a most (FR ((bitsI (fqNum a)).reverse ++ [])) ((bitsI (fqNum a)).reverse ++ []).length) := by
      rw [hb6 a]
      exact fun c q1 q2 q3 q4 => (wSQ_go g0.a (byteAt x) x.length g0.c a most (k := c) q1 q2 q3 q4 (Nat.lt_trans a.isLt (by rw [rN_val]; decide)) 256 [] (Nat.le_refl _) (by simp)).sound
    rw [List.append_nil] at hs
    have hlen := hlen a
    have hR : (bitsI (fqNum a)).reverse.reverse = bitsI (fqNum a) := List.reverse_reverse _
    have hn : (bitsI (fqNum a)).reverse.length = (bitsI (fqNum a)).length := List.length_reverse
    have hWl : ∀ z, (Wk a z).l.length < 1048576 := fun z => by rw [hW, List.length_take]; omega
    have h1 : ∀ z : Int, 0 ≤ z ∧ z ≤ ((bitsI (fqNum a)).reverse.length : Int) → E (fL (intAt (Wk a z).l) (Wk a z).l.length) (fL (FR (bitsI (fqNum a)).reverse) (z.toNat - 0)) = true := fun z hz => by
      rw [fL_int, fL_FR _ _ (by omega), hR, hW, Nat.sub_zero]; exact hE _
    have h2 : E (fL (intAt (Wk a 400).l) (Wk a 400).l.length) (fL (FR (bitsI (fqNum a)).reverse) (bitsI (fqNum a)).reverse.length) = true := by
      rw [fL_int, fL_FR _ _ (Nat.le_refl _), hR, hn, hW, List.take_length, List.take_of_length_le (by show _ ≤ 400; omega)]; exact hE _
    have hF := isI64_FR (bitsI (fqNum a)).reverse
    have hnb : (bitsI (fqNum a)).reverse.length ≤ 256 := by omega
    revert hs h1 h2 hF hnb
    clear hR hn hlen
    generalize (bitsI (fqNum a)).reverse = R
    intro hs h1 h2 hF hnb
    have hp := place_lt most R.length
    have w1 : WrapI ((R.length : Int) + 1) := wrapI (by omega) (by omega)
    have w2 : (R.length : Int) + 1 ≠ 0 := by omega
    have all : ∀ (z : Int) (l : List Prop), 0 ≤ z ∧ z ≤ (R.length : Int) → All l → All (vcQ Wk E a z (FR R) R.length l) := fun z l hz hl =>
      ⟨h2, isI64_int _ _, hWl _, hF _ (Nat.le_refl _), by omega, h1 z hz, isI64_int _ _, hWl _, hF _ (by omega), by omega, hz, hl⟩
    have hl : ∀ body, Try.f10.body = some body → LoopsFor Try.prog W.cell? [] (lps [(9, wSQ g0.a (byteAt x) x.length g0.c a most (FR []) 0 255, .exit 0, wEQ g0.a (byteAt x) x.length g0.c a most (FR R) R.length)]) body := fun body hb => by
      refine LoopsFor.cons ?_ hs LoopsFor.nil
      obtain rfl := Option.some.inj hb
      kernel_rfl
    have rest : All [ToldIs (wSQ g0.a (byteAt x) x.length g0.c a most (FR []) 0 255), (partB x 0 x.length).length < 1048576, ReadB W g0 x, AllU8 x, decide ((x.length : Int) > 128) = false, true = true] := ⟨toldIs _, shortB hx, readB k0, allU8 x, decide_eq_false (by omega), rfl, trivial⟩
    cases hd : decide (most.tmod ((R.length : Int) + 1) < 0) with
    | false =>
      refine ⟨tbQ Wd fqNum Wk E 0 false, [], ht 0 false, ITblOK.nil _, orQ, lps [(9, wSQ g0.a (byteAt x) x.length g0.c a most (FR []) 0 255, .exit 0, wEQ g0.a (byteAt x) x.length g0.c a most (FR R) R.length)], true,
        vcQ Wk E a (most.tmod ((R.length : Int) + 1)) (FR R) R.length ((decide (most.tmod ((R.length : Int) + 1) < 0) = false) :: ((R.length : Int) + 1 ≠ 0) :: WrapI ((R.length : Int) + 1) :: _), ?_,
        all _ _ (hp.1 hd) (All.cons hd (All.cons w2 (All.cons w1 rest))), rfl, hl⟩
      subst ha
      kernel_rfl
    | true =>
      refine ⟨tbQ Wd fqNum Wk E 0 true, [], ht 0 true, ITblOK.nil _, orQ, lps [(9, wSQ g0.a (byteAt x) x.length g0.c a most (FR []) 0 255, .exit 0, wEQ g0.a (byteAt x) x.length g0.c a most (FR R) R.length)], true,
        vcQ Wk E a (most.tmod ((R.length : Int) + 1) + ((R.length : Int) + 1)) (FR R) R.length (WrapI (most.tmod ((R.length : Int) + 1) + ((R.length : Int) + 1)) :: (decide (most.tmod ((R.length : Int) + 1) < 0) = true) :: ((R.length : Int) + 1 ≠ 0) :: WrapI ((R.length : Int) + 1) :: _), ?_,
        all _ _ (hp.2 hd) (All.cons (wrapI (by have := (hp.2 hd).1; omega) (by have := (hp.2 hd).2; omega)) (All.cons hd (All.cons w2 (All.cons w1 rest)))), rfl, hl⟩
      subst ha
      kernel_rfl
  · exact ⟨tbQ Wd fqNum Wk E 1 false, [], ht 1 false, ITblOK.nil _, orQ, noLoop, true, [decide ((x.length : Int) > 128) = true, true = true], by kernel_rfl, ⟨decide_eq_true (by omega), rfl, trivial⟩, rfl, fun body _ => loopsFor_none⟩
end
theorem tops_more (v : Nat) : ∀ (d n : Nat), v < 2 ^ n → tops (n + d) v = tops n v
  | 0, n, _ => rfl
  | d + 1, n, h => by
    have h2 : v.testBit (n + d) = false := Nat.testBit_lt_two_pow (Nat.lt_of_lt_of_le h (Nat.pow_le_pow_right (by omega) (by omega)))
    rw [← Nat.add_assoc]
    simp only [tops, h2]
    exact tops_more v d n h
theorem frBitsLaw_ok : Computes A Try.prog 10 (fun _ : Bs × Int × Unit => true) := by
  have hb : ∀ a : Fq, bitsI (fqNum a) = (tops 256 (fqNum a).val).map fun j : Nat => (j : Int) := fun a => by
    show (tops 384 (fqNum a).val).map _ = _
    rw [tops_more (fqNum a).val 128 256 (Nat.lt_trans a.isLt (by rw [rN_val]; decide))]
  refine bitsQ_of wideQ (fun a most => ⟨(bitsI (fqNum a)).take most.toNat⟩) (fun x y => decide (x = y)) ?_ (fun _ _ => rfl) (fun _ => decide_eq_true rfl) ?_ hb
  · exact fun k b => .cons known4_ok.row (.cons (light4Row_ok k) (.cons frWide_ok.row (.cons lawNumber_ok.row (.cons walkQ_ok.row (.cons intsQ_ok.row (.cons (rowIn_ok (TblOK.nil _) (ITblOK.nil _) (says [(9, b)]) 4 Try.func24 (by kernel_rfl) (by kernel_rfl)) (.nil _)))))))
  · intro a
    rw [hb a, List.length_map]
    exact tops_len 256 _
end Go.Proofs.Ytaloefkkllebeaa
