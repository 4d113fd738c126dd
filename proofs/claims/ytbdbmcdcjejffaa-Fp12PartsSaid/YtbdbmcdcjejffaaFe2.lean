/- Fp: elements of numbers, numbers of elements, bytes; what is the same. -/
import Derived.Test.YtbdbmcdcjejffaaFe1
set_option linter.unusedVariables false
set_option linter.unusedSimpArgs false
set_option linter.unusedSectionVars false
namespace Go.Proofs.Ytbdbmcdcjejffaa
open Go Go.Sh

/-! ### Numbers and elements -/
def sq6 : L6 := (17644856173732828998, 754043588434789617, 10224657059481499349, 7488229067341005760, 11130996698012816685, 1267921511277847466)
theorem squareL_ok : Computes A Try.prog 184 (fun _ : Unit => sq6) :=
  computes_of_run0 tblD_ok Try.func184 (by kernel_rfl) (by kernel_rfl) 8 (fun _ _ _ => by kernel_rfl)
theorem refTwoL_ok : Computes A Try.prog 153 (fun _ : Unit => sq6) :=
  computes_of_run0 tblD_ok Try.func153 (by kernel_rfl) (by kernel_rfl) 8 (fun _ _ _ => by kernel_rfl)

theorem mont_iF (x : Fp) : mont (x * iF) = x.val := by
  rw [mont_eq]
  have e : (x * iF).val = x.val * iF.val % pN := Fin.val_mul x iF
  have hi : iF.val * r384 % pN = 1 := by kernel_rfl
  rw [e, mul_mod3, Nat.mul_assoc, Nat.mul_mod, hi, Nat.mul_one, Nat.mod_mod, Nat.mod_eq_of_lt x.isLt]
theorem iF_rF : iF * rF = 1 := by kernel_rfl
theorem limbs_iF (x : Fp) : limbs (x * iF) = lim6 x.val := by unfold limbs; rw [mont_iF]
theorem sq6_eq : sq6 = limbs rF := by kernel_rfl
theorem made_limbs (a : Pl) : reducedL (mulRaw (numL a.num) sq6) = limbs a.x := by
  have e : numL a.num = limbs (a.x * iF) := (limbs_iF a.x).symm
  rw [e, sq6_eq, mul_limbs]
  have : a.x * iF * rF = a.x := by rw [Fin.mul_assoc, iF_rF, Fin.mul_one]
  rw [this]

theorem made_of (F : L6 → L6 → L6) (hF : Computes A Try.prog 45 (fun x : L6 × L6 × Unit => F x.1 x.2.1)) : Computes A Try.prog 147 (fun x : L6 × Unit => F x.1 sq6) :=
  computes_of_run0 (.cons hF.row (.cons squareL_ok.row (.nil _))) Try.func147 (by kernel_rfl) (by kernel_rfl) 8 (fun _ _ _ => by kernel_rfl)
theorem madeL_ok : Computes A Try.prog 147 (fun x : L6 × Unit => reducedL (mulRaw x.1 sq6)) := made_of (fun a b => reducedL (mulRaw a b)) mulL_ok
theorem made_ok : Computes A Try.prog 147 (fun x : Pl × Unit => x.1.x) :=
  madeL_ok.as (fun x => (numL x.1.num, ())) (fun _ _ _ _ => ⟨((), ()), ⟨trivial, trivial⟩, rfl⟩) (fun x => by rw [made_limbs]; rfl)

/-- The number of an element. -/
def fpNum (x : Fp) : Num := ⟨x.val, Nat.lt_trans x.isLt (by have := pN_lt; rwa [w384] at this)⟩
def tblN : List (Row A) := [rowOf A 45 (fun x : Fp × Fp × Unit => x.1 * x.2.1)]
theorem tblN_ok : TblOK Try.prog tblN := .cons mul_ok.row (.nil _)
theorem numberF_ok : Computes A Try.prog 150 (fun x : Fp × Unit => x.1 * iF) :=
  computes_of_run0 tblN_ok Try.func150 (by kernel_rfl) (by kernel_rfl) 8 (fun _ _ _ => by kernel_rfl)
theorem number_ok : Computes A Try.prog 150 (fun x : Fp × Unit => fpNum x.1) :=
  numberF_ok.as (fun x => x) (fun gh _ _ hg => ⟨gh, hg, rfl⟩) (fun x => by
    show Value.agg (cells6 (limbs (x.1 * iF))).toArray = Value.agg (cells6 (numL (fpNum x.1))).toArray
    rw [limbs_iF]; rfl)

def fpOf (n : UInt64) : Fp := ⟨n.toNat, Nat.lt_trans n.toNat_lt (by decide)⟩
def tblO : List (Row A) := [rowOf A 147 (fun x : Pl × Unit => x.1.x)]
theorem tblO_ok : TblOK Try.prog tblO := .cons made_ok.row (.nil _)

def smallN (n : UInt64) : Num := numO (n, UInt64.ofNat 0, UInt64.ofNat 0, UInt64.ofNat 0, UInt64.ofNat 0, UInt64.ofNat 0)
theorem smallN_val (n : UInt64) : (smallN n).val = n.toNat := by
  show n.toNat + 18446744073709551616 * (0 + 18446744073709551616 * (0 + 18446744073709551616 * (0 + 18446744073709551616 * (0 + 18446744073709551616 * 0)))) = _
  omega
theorem smallN_lt (n : UInt64) : (smallN n).val < pN := by
  rw [smallN_val]; exact Nat.lt_trans n.toNat_lt (by decide)
theorem of_ok : Computes A Try.prog 38 (fun x : UInt64 × Unit => fpOf x.1) := by
  refine Computes.eq (f := fun x : UInt64 × Unit => (plOf (smallN x.1)).x) ?_ (fun x => Fin.ext ?_)
  · refine computes_of_run tblO_ok Try.func38 (by kernel_rfl) (by kernel_rfl) 8 ?_
    rintro _ ⟨n, ⟨⟩⟩ W -
    exact ⟨fun _ _ => .keep, _, _, (by kernel_rfl : _ = some (some (plOf (smallN n)).x, [(smallN n).val < pN])), All.cons (smallN_lt n) All.nil, rfl⟩
  · show (smallN x.1).val % pN = x.1.toNat
    rw [smallN_val, Nat.mod_eq_of_lt (Nat.lt_trans x.1.toNat_lt (by decide))]

/-! ### Bytes -/
def byteL (l : L6) (i : Nat) : UInt8 := UInt8.ofNat (((UInt64.ofNat ((lim ((47 - i) / 8) l).toNat / 2 ^ (8 * ((47 - i) % 8)))).toNat : Int) % 256).toNat
def bytesL6 (l : L6) : R8 48 := ⟨pickN 0 ((List.range 48).map (byteL l))⟩
theorem limbsBytesL_ok : Computes A Try.prog 149 (fun x : L6 × Unit => bytesL6 x.1) :=
  computes_of_run0 (TblOK.nil _) Try.func149 (by kernel_rfl) (by kernel_rfl) 50 (fun _ _ _ => by kernel_rfl)
theorem refBytesL_ok : Computes A Try.prog 136 (fun x : L6 × Unit => bytesL6 x.1) :=
  computes_of_run0 (TblOK.nil _) Try.func136 (by kernel_rfl) (by kernel_rfl) 50 (fun _ _ _ => by kernel_rfl)

/-- Byte i of 48, the highest first. -/
def byteN (n i : Nat) : UInt8 := UInt8.ofNat (n / 256 ^ (47 - i) % 256)
def bytesN (n : Nat) : R8 48 := ⟨byteN n⟩

end Go.Proofs.Ytbdbmcdcjejffaa

/- Numbers of bytes. -/
namespace Go.Proofs.Ytbdbmcdcjejffaa
open Go Go.Sh

/-- a or byte x, shifted by s. -/
def orRaw (a : UInt64) (x : UInt8) (s : Int) : UInt64 :=
  UInt64.ofNat (((BitVec.ofInt IntKind.u64.bits (a.toNat : Int) ||| BitVec.ofInt IntKind.u64.bits ((UInt64.ofNat (((UInt64.ofNat ((x.toNat : Int) % 18446744073709551616).toNat).toNat : Int) * 2 ^ min ((UInt64.ofNat (s % 18446744073709551616).toNat).toNat : Int).toNat IntKind.u64.bits % 18446744073709551616).toNat).toNat : Int)).toNat : Int) % 18446744073709551616).toNat

/-- The loop of limbs.From, at its head: k bytes have been. -/
def fromSt (g : Spot) (l : List UInt8) (f : Nat → UInt64) (k : Nat) : St A :=
  ⟨slots 0 39 [(0, .val false [.e g.a (byteAt l) 0 l.length g.c]), (2, .val false [.p 0 0]), (3, .val false [.v (.bool false)]), (4, .val false [.p 1 0]), (12, .val false [.n .i64 l.length]), (13, .val false [.n .i64 k])],
   [some ⟨lit6, 26, false⟩, some ⟨[.a (.w64 6 f)], 26, false⟩], 0, [], []⟩

def zero64 : Nat → UInt64 := pickN 0 [0, 0, 0, 0, 0, 0]

/-- The words, behind k bytes. -/
def fromF (l : List UInt8) : Nat → (Nat → UInt64)
  | 0 => zero64
  | k + 1 => upd (fromF l k) (((l.length : Int) - 1 - k).tdiv 8).toNat (orRaw (fromF l k (((l.length : Int) - 1 - k).tdiv 8).toNat) (l.getD k 0) (8 * ((l.length : Int) - 1 - k).tmod 8))

theorem from_loop (W : World) (g : Spot) (l : List UInt8) (hg : HasBytes W l g) (hl : l.length ≤ 48) : SoundFor Try.prog W.cell? [] (.loop (loopNo Try.f144 5)) (fromSt g l zero64 0) (.exit 0) (fromSt g l (fromF l l.length) l.length) := by
  intro c e1 e2 e3 e4
  refine loopAt (inv := fun k => fromSt g l (fromF l k) k) (N := l.length) (by simp) (fun k hk => ?_) ?_
  · have hz : (l.length : Int) - 1 - k = ((l.length - 1 - k : Nat) : Int) := by omega
    have h1 : ((l.length : Int) - 1 - k).tdiv 8 = ((l.length - 1 - k) / 8 : Nat) := by rw [hz]; rfl
    have h2 : ((l.length : Int) - 1 - k).tmod 8 = ((l.length - 1 - k) % 8 : Nat) := by rw [hz]; rfl
    refine Round.of0 (TblOK.nil _) (says [(14, true)]) 4
      [WrapI ((k : Int) + 1), Idx (((l.length : Int) - 1 - k).tdiv 8) 6, (0 : Int) ≤ (UInt64.ofNat (8 * ((l.length : Int) - 1 - k).tmod 8 % 18446744073709551616).toNat).toNat, WrapI (8 * ((l.length : Int) - 1 - k).tmod 8),
        Reads W.cell? g.a (byteAt (B := FB) l) k 1, Idx k l.length, Idx (((l.length : Int) - 1 - k).tdiv 8) 6, WrapI (((l.length : Int) - 1 - k).tdiv 8), WrapI ((l.length : Int) - 1 - k), WrapI ((l.length : Int) - 1), decide ((k : Int) < l.length) = true]
      (by kernel_rfl) ?_ (by kernel_rfl) (by kernel_rfl) e1 e2 e3 e4
    refine ⟨wrapI (by omega) (by omega), ⟨by rw [h1]; omega, by rw [h1]; omega⟩, by omega, wrapI (by rw [h2]; omega) (by rw [h2]; omega), reads_bytes hg (by omega), ⟨by omega, by omega⟩, ⟨by rw [h1]; omega, by rw [h1]; omega⟩, wrapI (by rw [h1]; omega) (by rw [h1]; omega),
      wrapI (by omega) (by omega), wrapI (by omega) (by omega), decide_eq_true (by omega), trivial⟩
  · exact Round.of0 (TblOK.nil _) (says [(14, false)]) 4 [decide ((l.length : Int) < l.length) = false] (by kernel_rfl) ⟨decide_eq_false (by omega), trivial⟩ (by kernel_rfl) (by kernel_rfl) e1 e2 e3 e4

theorem fromRaw_ok : Computes A Try.prog 144 (fun x : Bs × Unit => if x.1.l.length ≤ 48 then T2.mk (numO (fromF x.1.l x.1.l.length 0, fromF x.1.l x.1.l.length 1, fromF x.1.l x.1.l.length 2, fromF x.1.l x.1.l.length 3, fromF x.1.l x.1.l.length 4, fromF x.1.l x.1.l.length 5)) true else T2.mk (0 : Num) false) := by
  refine computes_of_runW (TblOK.nil _) (ITblOK.nil _) Try.func144 (by kernel_rfl) (by kernel_rfl) 4 ?_
  rintro ⟨g, _⟩ ⟨⟨l⟩, ⟨⟩⟩ W ⟨hg, _⟩
  by_cases hl : l.length ≤ 48
  · obtain ⟨F, hF⟩ : ∃ F, F = fromF l l.length := ⟨_, rfl⟩
    have hs := from_loop W g l hg hl
    rw [← hF] at hs
    refine ⟨says [(9, false)], lps [(5, fromSt g l zero64 0, .exit 0, fromSt g l F l.length)], _, _, (by kernel_rfl : _ = some (some (T2.mk (numO (F 0, F 1, F 2, F 3, F 4, F 5)) true), [ToldIs (fromSt g l zero64 0), decide ((l.length : Int) > 48) = false])),
      ⟨toldIs _, decide_eq_false (by omega), trivial⟩, ?_, ?_⟩
    · simp only [hl, if_true, hF]
    · intro body hb
      refine LoopsFor.cons ?_ hs LoopsFor.nil
      obtain rfl := Option.some.inj hb
      kernel_rfl
  · refine ⟨says [(9, true)], noLoop, _, _, (by kernel_rfl : _ = some (some (T2.mk (0 : Num) false), [decide ((l.length : Int) > 48) = true])), ⟨decide_eq_true (by omega), trivial⟩, ?_, fun body _ => loopsFor_none⟩
    simp only [hl, if_false]

end Go.Proofs.Ytbdbmcdcjejffaa

/- Numbers of bytes, bytes of numbers: plain mathematics; limbs.From, limbs.Bytes. -/
namespace Go.Proofs.Ytbdbmcdcjejffaa
open Go Go.Sh

def valF (f : Nat → UInt64) : Nat := val6 (f 0, f 1, f 2, f 3, f 4, f 5)

theorem numB_snoc (l : List UInt8) (x : UInt8) : numB (l ++ [x]) = 256 * numB l + x.toNat := by simp [numB]
theorem numB_cons_le : ∀ l : List UInt8, numB l < 256 ^ l.length := by
  intro l
  have key : ∀ (l : List UInt8) (n m : Nat), n < 256 ^ m → l.foldl (fun n x => 256 * n + x.toNat) n < 256 ^ (m + l.length) := by
    intro l
    induction l with
    | nil => intro n m h; exact h
    | cons x l ih =>
      intro n m h
      have hx : x.toNat < 256 := x.toNat_lt
      have := ih (256 * n + x.toNat) (m + 1) (by rw [Nat.pow_succ]; omega)
      rw [List.length_cons, show m + (l.length + 1) = m + 1 + l.length by omega]
      exact this
  have := key l 0 0 (by simp)
  simpa [numB] using this

theorem pow256 (k : Nat) : 256 ^ k = 2 ^ (8 * k) := by rw [Nat.pow_mul]

theorem valF_word (f : Nat → UInt64) (j : Nat) (hj : j < 6) : (f j).toNat = valF f / 18446744073709551616 ^ j % 18446744073709551616 := by
  have h0 := (f 0).toNat_lt
  have h1 := (f 1).toNat_lt
  have h2 := (f 2).toNat_lt
  have h3 := (f 3).toNat_lt
  have h4 := (f 4).toNat_lt
  have h5 := (f 5).toNat_lt
  have : j = 0 ∨ j = 1 ∨ j = 2 ∨ j = 3 ∨ j = 4 ∨ j = 5 := by omega
  unfold valF val6
  simp only
  rcases this with rfl | rfl | rfl | rfl | rfl | rfl <;> omega

theorem valF_upd (f : Nat → UInt64) (j d : Nat) (x : UInt64) (hj : j < 6) (hx : x.toNat = (f j).toNat + d) : valF (upd f j x) = valF f + d * 18446744073709551616 ^ j := by
  have : j = 0 ∨ j = 1 ∨ j = 2 ∨ j = 3 ∨ j = 4 ∨ j = 5 := by omega
  unfold valF val6
  simp only
  rcases this with rfl | rfl | rfl | rfl | rfl | rfl <;> simp only [upd] <;> simp <;> omega

theorem or_add {a x s : Nat} (hx : x < 256) (ha : a % 2 ^ (s + 8) = 0) : a ||| (x * 2 ^ s) = a + x * 2 ^ s := by
  have h1 : a = 2 ^ (s + 8) * (a / 2 ^ (s + 8)) := by
    have := Nat.div_add_mod a (2 ^ (s + 8))
    omega
  have h2 : x * 2 ^ s < 2 ^ (s + 8) := by
    rw [Nat.pow_add, Nat.mul_comm]
    exact Nat.mul_lt_mul_of_pos_left hx (Nat.two_pow_pos s)
  rw [h1]
  exact (Nat.two_pow_add_eq_or_of_lt h2 _).symm

theorem orRaw_nat (a : UInt64) (x : UInt8) (s : Nat) (hs : s + 8 ≤ 64) (ha : a.toNat % 2 ^ (s + 8) = 0) : (orRaw a x s).toNat = a.toNat + x.toNat * 2 ^ s := by
  have hx : x.toNat < 256 := x.toNat_lt
  have hal := a.toNat_lt
  have h2 : x.toNat * 2 ^ s < 2 ^ (s + 8) := by
    rw [Nat.pow_add, Nat.mul_comm]
    exact Nat.mul_lt_mul_of_pos_left hx (Nat.two_pow_pos s)
  have hB : (2 : Nat) ^ 64 = 18446744073709551616 := by decide
  have h3 : 2 ^ (s + 8) ≤ 18446744073709551616 := by rw [← hB]; exact Nat.pow_le_pow_right (by decide) hs
  have h4 : x.toNat * 2 ^ s < 18446744073709551616 := Nat.lt_of_lt_of_le h2 h3
  have hsum : a.toNat + x.toNat * 2 ^ s < 18446744073709551616 := by
    rw [← or_add hx ha]
    have h5 := Nat.or_lt_two_pow (n := 64) hal (show x.toNat * 2 ^ s < 2 ^ 64 by rw [hB]; exact h4)
    rwa [hB] at h5
  have e1 : (UInt64.ofNat ((s : Int) % 18446744073709551616).toNat).toNat = s := by
    have : ((s : Int) % 18446744073709551616).toNat = s := by omega
    rw [this, UInt64.toNat_ofNat_of_lt' (show s < 18446744073709551616 by omega)]
  have e2 : (UInt64.ofNat ((x.toNat : Int) % 18446744073709551616).toNat).toNat = x.toNat := by
    have : ((x.toNat : Int) % 18446744073709551616).toNat = x.toNat := by omega
    rw [this, UInt64.toNat_ofNat_of_lt' (show x.toNat < 18446744073709551616 by omega)]
  have e3 : ((((UInt64.ofNat ((s : Int) % 18446744073709551616).toNat).toNat : Int)).toNat) = s := by rw [e1]; rfl
  unfold orRaw
  rw [e2, e3, show min s IntKind.u64.bits = s from Nat.min_eq_left (by show s ≤ 64; omega)]
  have e4 : ((x.toNat : Int) * 2 ^ s % 18446744073709551616).toNat = x.toNat * 2 ^ s := by
    have : ((x.toNat : Int) * 2 ^ s) = ((x.toNat * 2 ^ s : Nat) : Int) := by simp
    rw [this]
    omega
  rw [e4, UInt64.toNat_ofNat_of_lt' (show x.toNat * 2 ^ s < 18446744073709551616 from h4)]
  have e5 : (BitVec.ofInt IntKind.u64.bits (a.toNat : Int) ||| BitVec.ofInt IntKind.u64.bits ((x.toNat * 2 ^ s : Nat) : Int)).toNat = a.toNat + x.toNat * 2 ^ s := by
    show (BitVec.ofInt 64 (a.toNat : Int) ||| BitVec.ofInt 64 ((x.toNat * 2 ^ s : Nat) : Int)).toNat = _
    have f1 : (BitVec.ofInt 64 (a.toNat : Int)).toNat = a.toNat := by simp
    have f2 : (BitVec.ofInt 64 ((x.toNat * 2 ^ s : Nat) : Int)).toNat = x.toNat * 2 ^ s := by
      rw [BitVec.toNat_ofInt]
      have : (2 : Nat) ^ 64 = 18446744073709551616 := by decide
      rw [this]
      omega
    rw [BitVec.toNat_or, f1, f2, or_add hx ha]
  rw [e5]
  have e6 : (((a.toNat + x.toNat * 2 ^ s : Nat) : Int) % 18446744073709551616).toNat = a.toNat + x.toNat * 2 ^ s := by omega
  rw [e6, UInt64.toNat_ofNat_of_lt' (show a.toNat + x.toNat * 2 ^ s < 18446744073709551616 from hsum)]

theorem fromF_val {l : List UInt8} (hl : l.length ≤ 48) : ∀ k, k ≤ l.length → valF (fromF l k) = numB (l.take k) * 256 ^ (l.length - k)
  | 0, _ => by
    have : valF (fromF l 0) = 0 := rfl
    rw [this]; simp [numB]
  | k + 1, hk => by
    have ih := fromF_val hl k (by omega)
    have hz : (l.length : Int) - 1 - k = ((l.length - 1 - k : Nat) : Int) := by omega
    have h1 : (((l.length : Int) - 1 - k).tdiv 8).toNat = (l.length - 1 - k) / 8 := by rw [hz]; rfl
    have h2 : 8 * ((l.length : Int) - 1 - k).tmod 8 = ((8 * ((l.length - 1 - k) % 8) : Nat) : Int) := by rw [hz]; rfl
    obtain ⟨p, hp⟩ : ∃ p, p = l.length - 1 - k := ⟨_, rfl⟩
    rw [← hp] at h1 h2
    have hj : p / 8 < 6 := by omega
    have hd : l.length - k = p + 1 := by omega
    have hd2 : l.length - (k + 1) = p := by omega
    rw [hd] at ih
    -- the word's lower bytes are noughts
    have hw := valF_word (fromF l k) (p / 8) hj
    have hp8 : p + 1 = 8 * (p / 8) + (p % 8 + 1) := by omega
    have hB : ∀ j : Nat, (18446744073709551616 : Nat) ^ j = 256 ^ (8 * j) := by
      intro j
      rw [Nat.pow_mul, show (256 : Nat) ^ 8 = 18446744073709551616 from by decide]
    have hlow : (fromF l k (p / 8)).toNat % 2 ^ (8 * (p % 8) + 8) = 0 := by
      rw [hw, ih, hB, hp8, Nat.pow_add, show 8 * (p % 8) + 8 = 8 * (p % 8 + 1) by omega, ← pow256]
      have e : numB (List.take k l) * (256 ^ (8 * (p / 8)) * 256 ^ (p % 8 + 1)) / 256 ^ (8 * (p / 8)) = numB (List.take k l) * 256 ^ (p % 8 + 1) := by
        rw [Nat.mul_left_comm, Nat.mul_div_cancel_left _ (Nat.pow_pos (by decide))]
      rw [e]
      have hdvd : (256 : Nat) ^ (p % 8 + 1) ∣ 18446744073709551616 := by
        rw [show (18446744073709551616 : Nat) = 256 ^ 8 from by decide]
        exact Nat.pow_dvd_pow 256 (by omega)
      rw [Nat.mod_mod_of_dvd _ hdvd, Nat.mul_mod_left]
    have hword := orRaw_nat (fromF l k (p / 8)) (l.getD k 0) (8 * (p % 8)) (by omega) hlow
    show valF (upd (fromF l k) (((l.length : Int) - 1 - k).tdiv 8).toNat (orRaw (fromF l k (((l.length : Int) - 1 - k).tdiv 8).toNat) (l.getD k 0) (8 * ((l.length : Int) - 1 - k).tmod 8))) = _
    rw [h1, h2, valF_upd _ _ _ _ hj hword, ih, hd2]
    have ht : l.take (k + 1) = l.take k ++ [l.getD k 0] := by
      rw [List.take_succ_eq_append_getElem (by omega), List.getD_eq_getElem?_getD, List.getElem?_eq_getElem (by omega)]
      rfl
    rw [ht, numB_snoc, hB, Nat.add_mul, Nat.pow_succ]
    have e2 : (l.getD k 0).toNat * 2 ^ (8 * (p % 8)) * 256 ^ (8 * (p / 8)) = (l.getD k 0).toNat * 256 ^ p := by
      rw [← pow256, Nat.mul_assoc, ← Nat.pow_add]
      congr 2
      omega
    rw [e2]
    congr 1
    rw [Nat.mul_comm (256 ^ p) 256, ← Nat.mul_assoc, Nat.mul_comm (numB _) 256]

theorem numB_lt {l : List UInt8} (h : l.length ≤ 48) : numB l < 39402006196394479212279040100143613805079739270465446667948293404245721771497210611414266254884915640806627990306816 := by
  have h1 := numB_cons_le l
  have h2 : (256 : Nat) ^ l.length ≤ 256 ^ 48 := Nat.pow_le_pow_right (by decide) h
  have h3 : (256 : Nat) ^ 48 = 39402006196394479212279040100143613805079739270465446667948293404245721771497210611414266254884915640806627990306816 := by decide
  omega

/-- The number of at most 48 bytes; 0 of more. -/
def numOfB (l : List UInt8) : Num := if h : l.length ≤ 48 then ⟨numB l, numB_lt h⟩ else 0
def fromB (l : List UInt8) : T2 Num Bool := T2.mk (numOfB l) (decide (l.length ≤ 48))

theorem limbsFrom_ok : Computes A Try.prog 144 (fun x : Bs × Unit => fromB x.1.l) := by
  refine Computes.eq fromRaw_ok (fun x => ?_)
  obtain ⟨⟨l⟩, ⟨⟩⟩ := x
  simp only [fromB, numOfB]
  by_cases h : l.length ≤ 48
  · simp only [h, if_true, dif_pos, decide_true]
    congr 1
    apply Fin.ext
    show valF (fromF l l.length) = numB l
    rw [fromF_val h l.length (Nat.le_refl _)]
    simp
  · simp only [h, if_false, dif_neg, not_false_eq_true, decide_false]
end Go.Proofs.Ytbdbmcdcjejffaa

/- Fp: the element of any bytes. -/
namespace Go.Proofs.Ytbdbmcdcjejffaa
open Go Go.Sh

def tblP : List (Row A) := [rowOf A 144 (fun x : Bs × Unit => fromB x.1.l), rowOf A 147 (fun x : Pl × Unit => x.1.x), rowOf A 45 (fun x : Fp × Fp × Unit => x.1 * x.2.1), rowOf A 41 (fun x : Fp × Fp × Unit => x.1 + x.2.1)]
theorem tblP_ok : TblOK Try.prog tblP := .cons limbsFrom_ok.row (.cons made_ok.row (.cons mul_ok.row (.cons add_ok.row (.nil _))))

/-- 2^256. -/
def shF : Fp := (plOf (numO (0, 0, 0, 0, 1, 0))).x

/-- A part of bytes, as they are read. -/
def partB (l : List UInt8) (i n : Nat) : List UInt8 := (List.range n).map fun j => u8of (byteAt (B := FB) l (i + j))

/-- The loop of Wide, at its head. -/
def wideSt (a : Option Addr) (l : List UInt8) (i len cap : Nat) (first : Int) (out : Fp) : St A :=
  ⟨slots 0 35 [(0, .val false [.e a (byteAt l) i len cap]), (2, .val false [.p 0 0]), (3, .val false [.p 1 0]), (4, .val false [.p 2 0]), (5, .val false [.n .i64 first])],
   [some ⟨lit6, 28, false⟩, some ⟨[.a (.big (.fp out))], 28, false⟩, some ⟨[.a (.big (.fp shF))], 28, false⟩], 0, [], []⟩

def nextF (l : List UInt8) (i z : Nat) (out : Fp) : Fp := out * shF + (plOf (numOfB (partB l i z))).x

theorem partB_eq (l : List UInt8) {i n : Nat} (h : i + n ≤ l.length) : partB l i n = (l.drop i).take n := bytes_part l h

theorem numOfB_small {l : List UInt8} (h : l.length ≤ 32) : (numOfB l).val = numB l ∧ (numOfB l).val < pN := by
  have e : (numOfB l).val = numB l := by unfold numOfB; rw [dif_pos (by omega)]
  refine ⟨e, ?_⟩
  rw [e]
  have h1 := numB_cons_le l
  have h2 : (256 : Nat) ^ l.length ≤ 256 ^ 32 := Nat.pow_le_pow_right (by decide) h
  have h3 : (256 : Nat) ^ 32 < pN := by rw [pN_val]; decide
  omega

theorem wide_round (W : World) (g : Spot) (l : List UInt8) (hg : HasBytes W l g) (i len cap z : Nat) (first : Int) (out : Fp) (hz : z = if first = 0 then 32 else first.toNat) (hf : 0 ≤ first) (hz1 : z ≤ len) (hz2 : z ≤ 32) (hc : len ≤ cap) (hi : i + len = l.length) (hlen : l.length < 1048576) (h0 : 0 < len)
    (c : Cfg A) (e1 : c.P = Try.prog) (e2 : c.gl = fun _ => none) (e3 : c.old = W.cell?) (e4 : c.ys = []) :
    Round c (loopNo Try.f35 4) (wideSt g.a l i len cap first out) .normal (wideSt g.a l (z + i) (len - z) (cap - z) 32 (nextF l i z out)) := by
  have hpl : (partB l i z).length ≤ 32 := by simp [partB]; exact hz2
  have hsm := (numOfB_small hpl).2
  by_cases h : first = 0
  · subst h
    simp only [if_true] at hz
    subst hz
    refine Round.of0 tblP_ok (says [(15, true), (17, true)]) 4
      [(0 : Int) ≤ 32 ∧ (32 : Int) ≤ len, (numOfB (partB l i 32)).val < pN, Reads W.cell? g.a (byteAt (B := FB) l) i 32, ∀ j, j < 32 → isU8 (byteAt (B := FB) l (i + j)) = true, (0 : Int) ≤ 32 ∧ (32 : Int) ≤ cap, ((0 : Int) == 0) = true, decide ((len : Int) > 0) = true]
      (by kernel_rfl) ?_ (by kernel_rfl) (by kernel_rfl) e1 e2 e3 e4
    exact ⟨⟨by omega, by omega⟩, hsm, reads_bytes hg (by omega), isU8_bytes l i 32, ⟨by omega, by omega⟩, rfl, decide_eq_true (by omega), trivial⟩
  · rw [if_neg h] at hz
    obtain ⟨n, rfl⟩ := Int.eq_ofNat_of_zero_le hf
    have hzn : z = n := hz
    subst hzn
    refine Round.of0 tblP_ok (says [(15, true), (17, false)]) 4
      [(0 : Int) ≤ z ∧ (z : Int) ≤ len, (numOfB (partB l i z)).val < pN, Reads W.cell? g.a (byteAt (B := FB) l) i z, ∀ j, j < z → isU8 (byteAt (B := FB) l (i + j)) = true, (0 : Int) ≤ z ∧ (z : Int) ≤ cap, ((z : Int) == 0) = false, decide ((len : Int) > 0) = true]
      (by kernel_rfl) ?_ (by kernel_rfl) (by kernel_rfl) e1 e2 e3 e4
    exact ⟨⟨by omega, by omega⟩, hsm, reads_bytes hg (by omega), isU8_bytes l i z, ⟨by omega, by omega⟩, beq_eq_false_iff_ne.2 h, decide_eq_true (by omega), trivial⟩

/-- Where the loop is, how much is left, behind k parts. -/
def wI (n : Nat) : Nat → Nat
  | 0 => 0
  | k + 1 => (if k = 0 then (if n % 32 = 0 then 32 else n % 32) else 32) + wI n k
def wL (n : Nat) : Nat → Nat
  | 0 => n
  | k + 1 => wL n k - (if k = 0 then (if n % 32 = 0 then 32 else n % 32) else 32)
def wC (n c : Nat) : Nat → Nat
  | 0 => c
  | k + 1 => wC n c k - (if k = 0 then (if n % 32 = 0 then 32 else n % 32) else 32)
def wO (l : List UInt8) : Nat → Fp
  | 0 => 0
  | k + 1 => nextF l (wI l.length k) (if k = 0 then (if l.length % 32 = 0 then 32 else l.length % 32) else 32) (wO l k)
def wF (n : Nat) : Nat → Int
  | 0 => (n % 32 : Nat)
  | _ + 1 => 32

theorem wL_eq (n : Nat) : ∀ k, k ≤ (n + 31) / 32 → wL n k = 32 * ((n + 31) / 32 - k) - (if k = 0 then 32 * ((n + 31) / 32) - n else 0)
  | 0, _ => by simp only [wL]; simp; omega
  | 1, h => by simp only [wL]; simp; split <;> omega
  | k + 2, h => by
    have := wL_eq n (k + 1) (by omega)
    simp only [wL] at this ⊢
    simp at this ⊢
    rw [this]
    omega
theorem wI_eq (n : Nat) : ∀ k, k ≤ (n + 31) / 32 → wI n k + wL n k = n
  | 0, _ => by simp [wI, wL]
  | k + 1, h => by
    have h1 := wI_eq n k (by omega)
    have h2 := wL_eq n k (by omega)
    simp only [wI, wL]
    by_cases hk : k = 0
    · subst hk; simp [wI, wL] at *; split <;> omega
    · simp only [hk, if_false] at *; omega
theorem wC_ge (n c : Nat) (h : n ≤ c) : ∀ k, wL n k ≤ wC n c k
  | 0 => h
  | k + 1 => by have := wC_ge n c h k; simp only [wL, wC]; omega

theorem wide_loop (W : World) (g : Spot) (l : List UInt8) (hg : HasBytes W l g) (hl : l.length < 1048576) :
    SoundFor Try.prog W.cell? [] (.loop (loopNo Try.f35 4)) (wideSt g.a l 0 l.length g.c ((l.length : Int).tmod 32) 0) (.exit 0)
      (wideSt g.a l (wI l.length ((l.length + 31) / 32)) (wL l.length ((l.length + 31) / 32)) (wC l.length g.c ((l.length + 31) / 32)) (wF l.length ((l.length + 31) / 32)) (wO l ((l.length + 31) / 32))) := by
  intro c e1 e2 e3 e4
  refine loopAt (inv := fun k => wideSt g.a l (wI l.length k) (wL l.length k) (wC l.length g.c k) (wF l.length k) (wO l k)) (N := (l.length + 31) / 32) (by simp) (fun k hk => ?_) ?_
  · have h1 := wL_eq l.length k (by omega)
    have h2 := wI_eq l.length k (by omega)
    have h3 := wC_ge l.length g.c hg.1 k
    have hz : (if k = 0 then (if l.length % 32 = 0 then 32 else l.length % 32) else 32) = if wF l.length k = 0 then 32 else (wF l.length k).toNat := by
      cases k with
      | zero =>
        have hw : wF l.length 0 = ((l.length % 32 : Nat) : Int) := rfl
        rw [if_pos rfl]
        by_cases h : l.length % 32 = 0
        · have : wF l.length 0 = 0 := by rw [hw]; omega
          rw [if_pos h, if_pos this]
        · have : wF l.length 0 ≠ 0 := by rw [hw]; omega
          rw [if_neg h, if_neg this]; rfl
      | succ k => simp [wF]
    have hz1 : (if k = 0 then (if l.length % 32 = 0 then 32 else l.length % 32) else 32) ≤ wL l.length k := by
      cases k with
      | zero => simp only [wL, if_true]; split <;> omega
      | succ k => simp at h1 ⊢; omega
    have hf : 0 ≤ wF l.length k := by cases k <;> simp [wF]; omega
    exact wide_round W g l hg (wI l.length k) (wL l.length k) (wC l.length g.c k) _ (wF l.length k) (wO l k) hz hf hz1 (by split <;> (try split) <;> omega) h3 h2 hl (by have : 0 < (if k = 0 then (if l.length % 32 = 0 then 32 else l.length % 32) else 32) := (by split <;> (try split) <;> omega); omega) c e1 e2 e3 e4
  · have h1 := wL_eq l.length ((l.length + 31) / 32) (Nat.le_refl _)
    have h0 : wL l.length ((l.length + 31) / 32) = 0 := by rw [h1]; simp
    obtain ⟨L, hL⟩ : ∃ L, L = wL l.length ((l.length + 31) / 32) := ⟨_, rfl⟩
    obtain ⟨I, hI⟩ : ∃ L, L = wI l.length ((l.length + 31) / 32) := ⟨_, rfl⟩
    obtain ⟨C, hC⟩ : ∃ L, L = wC l.length g.c ((l.length + 31) / 32) := ⟨_, rfl⟩
    obtain ⟨F, hF⟩ : ∃ L, L = wF l.length ((l.length + 31) / 32) := ⟨_, rfl⟩
    obtain ⟨O, hO⟩ : ∃ L, L = wO l ((l.length + 31) / 32) := ⟨_, rfl⟩
    simp only [← hL, ← hI, ← hC, ← hF, ← hO]
    rw [← hL] at h0
    exact Round.of0 tblP_ok (says [(15, false)]) 4 [decide ((L : Int) > 0) = false] (by kernel_rfl) ⟨decide_eq_false (by omega), trivial⟩ (by kernel_rfl) (by kernel_rfl) e1 e2 e3 e4

theorem shF_val : shF.val = 256 ^ 32 := by kernel_rfl

theorem numB_append (l r : List UInt8) : numB (l ++ r) = numB l * 256 ^ r.length + numB r := by
  have key : ∀ (r : List UInt8) (n : Nat), r.foldl (fun n x => 256 * n + x.toNat) n = n * 256 ^ r.length + r.foldl (fun n x => 256 * n + x.toNat) 0 := by
    intro r
    induction r with
    | nil => intro n; simp
    | cons x r ih =>
      intro n
      simp only [List.foldl_cons, List.length_cons]
      rw [ih, ih (256 * 0 + x.toNat), Nat.pow_succ, Nat.add_mul, Nat.mul_zero, Nat.zero_add, Nat.mul_comm 256 n, Nat.mul_assoc, Nat.mul_comm 256, Nat.add_assoc]
  unfold numB
  rw [List.foldl_append]
  exact key r _

/-- The element of a number. -/
def fpN (n : Nat) : Fp := ⟨n % pN, Nat.mod_lt _ (by decide)⟩

theorem fpN_add (a b : Nat) : fpN (a + b) = fpN a + fpN b := by
  apply Fin.ext
  show (a + b) % pN = (a % pN + b % pN) % pN
  exact Nat.add_mod a b pN
theorem fpN_mul (a b : Nat) : fpN (a * b) = fpN a * fpN b := by
  apply Fin.ext
  show (a * b) % pN = (a % pN * (b % pN)) % pN
  exact Nat.mul_mod a b pN

theorem wO_eq (l : List UInt8) : ∀ k, k ≤ (l.length + 31) / 32 → wO l k = fpN (numB (l.take (wI l.length k)))
  | 0, _ => by simp [wO, wI, numB, fpN]
  | k + 1, h => by
    have ih := wO_eq l k (by omega)
    obtain ⟨z, hz⟩ : ∃ z, z = (if k = 0 then (if l.length % 32 = 0 then 32 else l.length % 32) else 32) := ⟨_, rfl⟩
    have h1 := wL_eq l.length k (by omega)
    have h2 := wI_eq l.length k (by omega)
    have hz1 : z ≤ wL l.length k := by
      rw [hz]
      cases k with
      | zero => simp only [wL, if_true]; split <;> omega
      | succ k => simp at h1 ⊢; omega
    have hz2 : z ≤ 32 := by rw [hz]; split <;> (try split) <;> omega
    have hIk : wI l.length k = 0 ∨ z = 32 := by
      cases k with
      | zero => exact .inl rfl
      | succ k => right; rw [hz]; simp
    show nextF l (wI l.length k) (if k = 0 then (if l.length % 32 = 0 then 32 else l.length % 32) else 32) (wO l k) = fpN (numB (l.take ((if k = 0 then (if l.length % 32 = 0 then 32 else l.length % 32) else 32) + wI l.length k)))
    rw [← hz]
    have hp := partB_eq l (i := wI l.length k) (n := z) (by omega)
    have hlen : ((l.drop (wI l.length k)).take z).length = z := by simp; omega
    have hs := (numOfB_small (l := (l.drop (wI l.length k)).take z) (by omega)).1
    have ht : l.take (z + wI l.length k) = l.take (wI l.length k) ++ (l.drop (wI l.length k)).take z := by rw [Nat.add_comm, List.take_add]
    have hx : (plOf (numOfB (partB l (wI l.length k) z))).x = fpN (numB ((l.drop (wI l.length k)).take z)) := by
      apply Fin.ext
      show (numOfB (partB l (wI l.length k) z)).val % pN = _
      rw [hp, hs]; rfl
    unfold nextF
    rw [hx, ht, numB_append, fpN_add, fpN_mul, hlen]
    congr 1
    rcases hIk with h0 | h0
    · rw [ih, h0]
      have : fpN (numB (List.take 0 l)) = 0 := by rfl
      rw [this, Fin.zero_mul, Fin.zero_mul]
    · rw [ih, h0]
      rfl

def wideF (l : List UInt8) : Fp := fpN (numB l)

theorem wide_ok : Computes A Try.prog 35 (fun x : Bt × Unit => wideF x.1.l) := by
  refine computes_of_runW tblP_ok (ITblOK.nil _) Try.func35 (by kernel_rfl) (by kernel_rfl) 4 ?_
  rintro ⟨g, _⟩ ⟨⟨l⟩, ⟨⟩⟩ W ⟨⟨hg, hl⟩, _⟩
  have hs := wide_loop W g l hg hl
  have ho := wO_eq l _ (Nat.le_refl _)
  have h1 := wL_eq l.length ((l.length + 31) / 32) (Nat.le_refl _)
  have h2 := wI_eq l.length ((l.length + 31) / 32) (Nat.le_refl _)
  have h0 : wL l.length ((l.length + 31) / 32) = 0 := by rw [h1]; simp
  have hi : wI l.length ((l.length + 31) / 32) = l.length := by omega
  rw [hi, List.take_length] at ho
  obtain ⟨L, hL⟩ : ∃ L, L = wL l.length ((l.length + 31) / 32) := ⟨_, rfl⟩
  obtain ⟨I, hI⟩ : ∃ L, L = wI l.length ((l.length + 31) / 32) := ⟨_, rfl⟩
  obtain ⟨C, hC⟩ : ∃ L, L = wC l.length g.c ((l.length + 31) / 32) := ⟨_, rfl⟩
  obtain ⟨F, hF⟩ : ∃ L, L = wF l.length ((l.length + 31) / 32) := ⟨_, rfl⟩
  obtain ⟨O, hO⟩ : ∃ L, L = wO l ((l.length + 31) / 32) := ⟨_, rfl⟩
  rw [← hL, ← hI, ← hC, ← hF, ← hO] at hs
  rw [← hO] at ho
  refine ⟨fun _ _ => .keep, lps [(4, wideSt g.a l 0 l.length g.c ((l.length : Int).tmod 32) 0, .exit 0, wideSt g.a l I L C F O)], O, [ToldIs (wideSt g.a l 0 l.length g.c ((l.length : Int).tmod 32) 0), (numO (0, 0, 0, 0, 1, 0)).val < pN], (by kernel_rfl), ⟨toldIs _, (by decide : (numO (0, 0, 0, 0, 1, 0)).val < pN), trivial⟩, ho, ?_⟩
  intro body hb
  refine LoopsFor.cons ?_ hs LoopsFor.nil
  obtain rfl := Option.some.inj hb
  kernel_rfl

end Go.Proofs.Ytbdbmcdcjejffaa
