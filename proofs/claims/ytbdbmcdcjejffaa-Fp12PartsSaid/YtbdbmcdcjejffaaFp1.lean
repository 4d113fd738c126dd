/- The reference's powers. -/
import Derived.Test.YtbdbmcdcjejffaaFe6
set_option linter.unusedVariables false
set_option linter.unusedSimpArgs false
set_option linter.unusedSectionVars false
namespace Go.Proofs.Ytbdbmcdcjejffaa
open Go Go.Sh

/-- The loop of Pow, at its head: k bits have been. -/
def refPowSt (g : Spot) (l : List UInt8) (a r : Fp) (k : Nat) : St A :=
  ⟨slots 0 34 [(1, .val false [.e g.a (byteAt l) 0 l.length g.c]), (2, .val false [.p 0 0]), (4, .val false [.p 1 0]), (5, .val false [.p 2 0]), (6, .val false [.n .i64 k])],
   [some ⟨[.a (.big (.fp a))], 42, false⟩, some ⟨lit6, 42, false⟩, some ⟨[.a (.big (.fp r))], 42, false⟩], 0, [], []⟩

def tblW : List (Row A) := [rowOf A 46 (fun x : Fp × Fp × Unit => x.1 * x.2.1), rowOf A 164 (fun _ : Unit => (1 : Fp))]
theorem tblW_ok : TblOK Try.prog tblW := .cons refMul_ok.row (.cons refOne_ok.row (.nil _))

/-- Bit k, the highest first, as it is taken. -/
def bitB (l : List UInt8) (k : Nat) : Bool :=
  ((UInt8.ofNat (((BitVec.ofInt IntKind.u8.bits ((UInt8.ofNat ((l.getD ((k : Int).tdiv 8).toNat 0).toNat / 2 ^ min (7 - (k : Int).tmod 8).toNat IntKind.u8.bits)).toNat : Int) &&& BitVec.ofInt IntKind.u8.bits 1).toNat : Int) % 256).toNat).toNat : Int) == 1
def rp (l : List UInt8) (a : Fp) : Nat → Fp
  | 0 => 1
  | k + 1 => match bitB l k with | true => rp l a k * rp l a k * a | false => rp l a k * rp l a k

theorem rpow_loop (W : World) (g : Spot) (l : List UInt8) (a : Fp) (hg : HasBytes W l g) (hl : l.length < 1048576) : SoundFor Try.prog W.cell? [] (.loop (loopNo Try.f63 3)) (refPowSt g l a 1 0) (.exit 0) (refPowSt g l a (rp l a (8 * l.length)) (8 * l.length)) := by
  intro c e1 e2 e3 e4
  refine loopAt (inv := fun k => refPowSt g l a (rp l a k) k) (N := 8 * l.length) (by simp) (fun k hk => ?_) ?_
  · have h1 : (k : Int).tdiv 8 = (k / 8 : Nat) := rfl
    have h2 : (k : Int).tmod 8 = (k % 8 : Nat) := rfl
    obtain ⟨r, hr⟩ : ∃ r, r = rp l a k := ⟨_, rfl⟩
    have all : All [(0 : Int) ≤ 7 - (k : Int).tmod 8, WrapI (7 - (k : Int).tmod 8), Reads W.cell? g.a (byteAt (B := FB) l) ((k : Int).tdiv 8).toNat 1, Idx ((k : Int).tdiv 8) l.length, WrapI ((k : Int).tdiv 8), decide ((k : Int) < 8 * l.length) = true, WrapI (8 * (l.length : Int))] :=
      ⟨by rw [h2]; omega, wrapI (by rw [h2]; omega) (by rw [h2]; omega), reads_bytes hg (by rw [h1]; omega), ⟨by rw [h1]; omega, by rw [h1]; omega⟩, wrapI (by rw [h1]; omega) (by rw [h1]; omega), decide_eq_true (by omega), wrapI (by omega) (by omega), trivial⟩
    have hw : WrapI ((k : Int) + 1) := wrapI (by omega) (by omega)
    cases hb : bitB l k with
    | true =>
      have e : rp l a (k + 1) = r * r * a := by simp only [rp, hb, hr]
      rw [← hr, e]
      exact Round.of0 tblW_ok (says [(13, true), (29, true)]) 4 (WrapI ((k : Int) + 1) :: (bitB l k = true) :: _) (by kernel_rfl) (All.cons hw (All.cons hb all)) (by kernel_rfl) (by kernel_rfl) e1 e2 e3 e4
    | false =>
      have e : rp l a (k + 1) = r * r := by simp only [rp, hb, hr]
      rw [← hr, e]
      exact Round.of0 tblW_ok (says [(13, true), (29, false)]) 4 (WrapI ((k : Int) + 1) :: (bitB l k = false) :: _) (by kernel_rfl) (All.cons hw (All.cons hb all)) (by kernel_rfl) (by kernel_rfl) e1 e2 e3 e4
  · obtain ⟨r, hr⟩ : ∃ r, r = rp l a (8 * l.length) := ⟨_, rfl⟩
    simp only [← hr]
    obtain ⟨n, hn⟩ : ∃ n, n = 8 * l.length := ⟨_, rfl⟩
    rw [← hn]
    exact Round.of0 tblW_ok (says [(13, false)]) 4 [decide ((n : Int) < 8 * l.length) = false, WrapI (8 * (l.length : Int))] (by kernel_rfl) ⟨decide_eq_false (by omega), wrapI (by omega) (by omega), trivial⟩ (by kernel_rfl) (by kernel_rfl) e1 e2 e3 e4

end Go.Proofs.Ytbdbmcdcjejffaa

/- The reference's powers: the contract. -/
namespace Go.Proofs.Ytbdbmcdcjejffaa
open Go Go.Sh

theorem refPowRaw_ok : Computes A Try.prog 63 (fun x : Fp × Bt × Unit => rp x.2.1.l x.1 (8 * x.2.1.l.length)) := by
  refine computes_of_runW tblW_ok (ITblOK.nil _) Try.func63 (by kernel_rfl) (by kernel_rfl) 4 ?_
  rintro ⟨_, g, _⟩ ⟨a, ⟨l⟩, ⟨⟩⟩ W ⟨_, ⟨hg, hl⟩, _⟩
  have hs := rpow_loop W g l a hg hl
  obtain ⟨r, hr⟩ : ∃ r, r = rp l a (8 * l.length) := ⟨_, rfl⟩
  obtain ⟨n, hn⟩ : ∃ n, n = 8 * l.length := ⟨_, rfl⟩
  simp only [← hr]
  rw [← hr, ← hn] at hs
  refine ⟨fun _ _ => .keep, lps [(3, refPowSt g l a 1 0, .exit 0, refPowSt g l a r n)], r, [ToldIs (refPowSt g l a 1 0)], (by kernel_rfl), ⟨toldIs _, trivial⟩, rfl, ?_⟩
  intro body hb
  refine LoopsFor.cons ?_ hs LoopsFor.nil
  obtain rfl := Option.some.inj hb
  kernel_rfl

end Go.Proofs.Ytbdbmcdcjejffaa

/- The reference's powers: plain law. -/
namespace Go.Proofs.Ytbdbmcdcjejffaa
open Go Go.Sh

theorem and_one8 (w : Nat) (hw : w < 256) : (((UInt8.ofNat (((BitVec.ofInt IntKind.u8.bits (w : Int) &&& BitVec.ofInt IntKind.u8.bits 1).toNat : Int) % 256).toNat).toNat : Int) == 1) = decide (w % 2 = 1) := by
  have h : (BitVec.ofInt IntKind.u8.bits (w : Int) &&& BitVec.ofInt IntKind.u8.bits 1).toNat = w % 2 := by
    show (BitVec.ofInt 8 (w : Int) &&& BitVec.ofInt 8 1).toNat = _
    have f1 : (BitVec.ofInt 8 (w : Int)).toNat = w := by
      rw [BitVec.toNat_ofInt]
      omega
    have f2 : (BitVec.ofInt 8 1).toNat = 1 := rfl
    rw [BitVec.toNat_and, f1, f2, Nat.and_one_is_mod]
  rw [h]
  have : w % 2 = 0 ∨ w % 2 = 1 := by omega
  rcases this with e | e <;> rw [e] <;> rfl

theorem bitB_eq (l : List UInt8) (k : Nat) : bitB l k = decide ((l.getD (k / 8) 0).toNat / 2 ^ (7 - k % 8) % 2 = 1) := by
  have h1 : ((k : Int).tdiv 8).toNat = k / 8 := rfl
  have h2 : (7 - (k : Int).tmod 8).toNat = 7 - k % 8 := by
    have : (k : Int).tmod 8 = ((k % 8 : Nat) : Int) := rfl
    rw [this]; omega
  unfold bitB
  rw [h1, h2, Nat.min_eq_left (show 7 - k % 8 ≤ IntKind.u8.bits by show 7 - k % 8 ≤ 8; omega)]
  have hb : (l.getD (k / 8) 0).toNat / 2 ^ (7 - k % 8) < 256 := Nat.lt_of_le_of_lt (Nat.div_le_self _ _) (UInt8.toNat_lt _)
  have e : (UInt8.ofNat ((l.getD (k / 8) 0).toNat / 2 ^ (7 - k % 8))).toNat = (l.getD (k / 8) 0).toNat / 2 ^ (7 - k % 8) := by
    rw [UInt8.toNat_ofNat']
    exact Nat.mod_eq_of_lt hb
  rw [e]
  exact and_one8 _ hb

theorem numB_top (l : List UInt8) {j : Nat} (h : j < l.length) : numB l / 256 ^ (l.length - 1 - j) = 256 * numB (l.take j) + (l.getD j 0).toNat := by
  have e : l = l.take (j + 1) ++ l.drop (j + 1) := (List.take_append_drop _ _).symm
  have h2 : numB l = numB (l.take (j + 1)) * 256 ^ (l.drop (j + 1)).length + numB (l.drop (j + 1)) := by
    rw [← numB_append, ← e]
  have h3 : (l.drop (j + 1)).length = l.length - 1 - j := by simp; omega
  have h4 := numB_cons_le (l.drop (j + 1))
  rw [h3] at h2 h4
  have h5 : l.take (j + 1) = l.take j ++ [l.getD j 0] := by
    rw [List.take_add_one]
    congr 1
    rw [List.getElem?_eq_getElem h]
    simp [List.getD, h]
  rw [h2, Nat.mul_comm, Nat.mul_add_div (Nat.pow_pos (by decide)), Nat.div_eq_of_lt h4, Nat.add_zero, h5, numB_snoc]

theorem numB_bit (l : List UInt8) {k : Nat} (h : k < 8 * l.length) : numB l / 2 ^ (8 * l.length - (k + 1)) = 2 * (numB l / 2 ^ (8 * l.length - k)) + (cond (bitB l k) 1 0) := by
  have e1 : 8 * l.length - k = 8 * l.length - (k + 1) + 1 := by omega
  have e2 : 8 * l.length - (k + 1) = 8 * (l.length - 1 - k / 8) + (7 - k % 8) := by omega
  have e3 : numB l / 2 ^ (8 * l.length - (k + 1)) = (256 * numB (l.take (k / 8)) + (l.getD (k / 8) 0).toNat) / 2 ^ (7 - k % 8) := by
    rw [e2, Nat.pow_add, ← pow256, ← Nat.div_div_eq_div_mul, numB_top l (by omega)]
  have e4 : (256 * numB (l.take (k / 8)) + (l.getD (k / 8) 0).toNat) / 2 ^ (7 - k % 8) % 2 = (l.getD (k / 8) 0).toNat / 2 ^ (7 - k % 8) % 2 := by
    generalize numB (l.take (k / 8)) = A
    have hb := UInt8.toNat_lt (l.getD (k / 8) 0)
    generalize (l.getD (k / 8) 0).toNat = b at *
    have : k % 8 = 0 ∨ k % 8 = 1 ∨ k % 8 = 2 ∨ k % 8 = 3 ∨ k % 8 = 4 ∨ k % 8 = 5 ∨ k % 8 = 6 ∨ k % 8 = 7 := by omega
    rcases this with e | e | e | e | e | e | e | e <;> rw [e] <;> simp only [Nat.reduceSub, Nat.reducePow] <;> omega
  rw [e1, Nat.pow_succ, ← Nat.div_div_eq_div_mul, bitB_eq, ← e4, ← e3]
  generalize numB l / 2 ^ (8 * l.length - (k + 1)) = m
  by_cases hm : m % 2 = 1
  · rw [decide_eq_true hm]; show m = 2 * (m / 2) + 1; omega
  · rw [decide_eq_false hm]; show m = 2 * (m / 2) + 0; omega

theorem rp_eq (l : List UInt8) (a : Fp) : ∀ k, k ≤ 8 * l.length → rp l a k = fpow a (numB l / 2 ^ (8 * l.length - k))
  | 0, _ => by
    have h := numB_cons_le l
    rw [pow256] at h
    rw [Nat.sub_zero, Nat.div_eq_of_lt h, fpow_zero]; rfl
  | k + 1, hk => by
    have ih := rp_eq l a k (by omega)
    rw [numB_bit l (by omega)]
    cases hb : bitB l k with
    | true =>
      simp only [rp, hb, cond_true]
      rw [ih, Nat.two_mul, fpow_succ, fpow_add]
    | false =>
      simp only [rp, hb, cond_false]
      rw [ih, Nat.two_mul, Nat.add_zero, fpow_add]

theorem refPow_ok : Computes A Try.prog 63 (fun x : Fp × Bt × Unit => fpow x.1 (numB x.2.1.l)) :=
  Computes.eq refPowRaw_ok (fun x => by rw [rp_eq _ _ _ (Nat.le_refl _), Nat.sub_self, Nat.pow_zero, Nat.div_one])

end Go.Proofs.Ytbdbmcdcjejffaa

/- The reference's powers of two of p, as bytes; its inverses, roots, signs, opposites. -/
namespace Go.Proofs.Ytbdbmcdcjejffaa
open Go Go.Sh

/-- What shifted is asked for. -/
inductive ShK where
  | half
  | less2
  | quarter
def ShK.add : ShK → Int
  | .half => -1
  | .less2 => -2
  | .quarter => 1
def ShK.by : ShK → Nat
  | .half => 1
  | .less2 => 0
  | .quarter => 2
def ShK.num : ShK → Nat
  | .half => (pN - 1) / 2
  | .less2 => pN - 2
  | .quarter => (pN + 1) / 4

def shkOf (z : Int) (w : Int) : Option ShK :=
  if z = -1 then (if w = 1 then some .half else none) else if z = -2 then (if w = 0 then some .less2 else none) else if z = 1 then (if w = 2 then some .quarter else none) else none
theorem shkOf_ok {z w : Int} {k : ShK} (h : shkOf z w = some k) : z = k.add ∧ w = (k.by : Int) := by
  unfold shkOf at h
  split at h
  · split at h
    · cases h; rename_i h1 h2; exact ⟨h1, h2⟩
    · cases h
  · split at h
    · split at h
      · cases h; rename_i h1 h2; exact ⟨h1, h2⟩
      · cases h
    · split at h
      · split at h
        · cases h; rename_i h1 h2; exact ⟨h1, h2⟩
        · cases h
      · cases h

instance : Args A ShK where
  G := Unit
  good _ _ _ := True
  tvs _ k := [.val false [.v (.int .i64 k.add)], .val false [.v (.int .u64 k.by)]]
  vals _ k := [.int .i64 k.add, .int .u64 k.by]
  is β _ := ⟨_, _, LIs.of_single ⟨rfl, rfl⟩, ⟨_, _, LIs.of_single ⟨rfl, rfl⟩, rfl, rfl⟩, rfl⟩
  parse _ _ l :=
    match l with
    | [.val false [.v (.int .i64 z)], .val false [.v (.int .u64 w)]] => (match shkOf z w with | some k => some (k, []) | none => none)
    | _ => none
  ok := by
    intro c X W0 W β m l x vc vs h _ _ e
    split at h
    · rename_i z w
      split at h
      · rename_i k hk
        simp at h
        obtain ⟨rfl, rfl⟩ := h
        obtain ⟨h1, h2⟩ := shkOf_ok hk
        obtain ⟨v1, r1, k1, ⟨v2, r2, k2, k3, rfl⟩, rfl⟩ := e
        obtain rfl : r2 = [] := k3
        obtain ⟨k1, _⟩ := LIs.single (k1 : LIs β _ [v1])
        obtain ⟨k2, _⟩ := LIs.single (k2 : LIs β _ [v2])
        simp at k1 k2
        refine ⟨(), trivial, ?_⟩
        rw [k1, k2, h1, h2]
      · cases h
    · cases h

noncomputable def shB (k : ShK) : List UInt8 := shL k.add k.by
theorem shB_num : ∀ k, numB (shB k) = k.num
  | .half => shL_half
  | .less2 => shL_less2
  | .quarter => shL_quarter
theorem shB_len : ∀ k, (shB k).length = 48
  | .half => shL_len.1
  | .less2 => shL_len.2.1
  | .quarter => shL_len.2.2

theorem shifted_ok : Computes A Try.prog 162 (fun k : ShK => (⟨shB k⟩ : Bz)) := by
  refine computes_of_run tblSh_ok Try.func162 (by kernel_rfl) (by kernel_rfl) 12 ?_
  rintro _ (_ | _ | _) W -
  · exact ⟨fun _ _ => .keep, _, [], (by kernel_rfl : _ = some (some (Bz.mk (shL (-1) 1)), [])), trivial, rfl⟩
  · exact ⟨fun _ _ => .keep, _, [], (by kernel_rfl : _ = some (some (Bz.mk (shL (-2) 0)), [])), trivial, rfl⟩
  · exact ⟨fun _ _ => .keep, _, [], (by kernel_rfl : _ = some (some (Bz.mk (shL 1 2)), [])), trivial, rfl⟩

/-! ### Over variables -/
/-- Bytes that a call left, read as an argument. -/
abbrev GotB (l : List UInt8) : Prop := ∀ j, j < l.length → isU8 (byteAt (B := FB) l (0 + j)) = true

def tblPw (S : ShK → List UInt8) (P : Fp → List UInt8 → Fp) (M : Fp → Fp → Fp) (Z Lg : Fp → Bool) (N : Fp → Fp) (one : Fp) : List (Row A) :=
  [rowOf A 162 (fun k : ShK => (⟨S k⟩ : Bz)), rowOf A 63 (fun x : Fp × Bt × Unit => P x.1 x.2.1.l), rowOf A 46 (fun x : Fp × Fp × Unit => M x.1 x.2.1),
    rowOf A 53 (fun x : Fp × Unit => Z x.1), rowOf A 58 (fun x : Fp × Unit => Lg x.1), rowOf A 49 (fun x : Fp × Unit => N x.1), rowOf A 164 (fun _ : Unit => one)]

section
variable {S : ShK → List UInt8} {P : Fp → List UInt8 → Fp} {M : Fp → Fp → Fp} {Z Lg : Fp → Bool} {N : Fp → Fp} {one : Fp} (ht : TblOK Try.prog (tblPw S P M Z Lg N one)) (hS : ∀ k, (S k).length = 48)
include ht hS

theorem shortS (k : ShK) : (partB (S k) 0 (S k).length).length < 1048576 := by rw [partB_all, hS]; omega

theorem refInv_of : Computes A Try.prog 51 (fun x : Fp × Unit => P x.1 (partB (S .less2) 0 (S .less2).length)) := by
  refine computes_of_run ht Try.func51 (by kernel_rfl) (by kernel_rfl) 12 ?_
  rintro _ ⟨a, ⟨⟩⟩ W -
  exact ⟨fun _ _ => .keep, _, [(partB (S .less2) 0 (S .less2).length).length < 1048576, GotB (S .less2)], (by kernel_rfl : _ = some (some (P a (partB (S .less2) 0 (S .less2).length)), _)), ⟨shortS ht hS _, allU8 _, trivial⟩, rfl⟩

theorem refLegendre_of : Computes A Try.prog 61 (fun x : Fp × Unit => if Z x.1 = true then (0 : Int) else if eqL (limbs (P x.1 (partB (S .half) 0 (S .half).length))) (limbs one) = true then 1 else -1) := by
  refine computes_of_run ht Try.func61 (by kernel_rfl) (by kernel_rfl) 12 ?_
  rintro _ ⟨a, ⟨⟩⟩ W -
  cases hz : Z a with
  | true => exact ⟨says [(4, true)], _, [Z a = true], (by kernel_rfl : _ = some (some (0 : Int), _)), ⟨hz, trivial⟩, by simp only [hz, if_true]⟩
  | false =>
    cases he : eqL (limbs (P a (partB (S .half) 0 (S .half).length))) (limbs one) with
    | true => exact ⟨says [(4, false), (10, true)], _, [eqL (limbs (P a (partB (S .half) 0 (S .half).length))) (limbs one) = true, (partB (S .half) 0 (S .half).length).length < 1048576, GotB (S .half), Z a = false], (by kernel_rfl : _ = some (some (1 : Int), _)), ⟨he, shortS ht hS _, allU8 _, hz, trivial⟩, by simp only [hz, he, if_true, Bool.false_eq_true, if_false]⟩
    | false => exact ⟨says [(4, false), (10, false)], _, [eqL (limbs (P a (partB (S .half) 0 (S .half).length))) (limbs one) = false, (partB (S .half) 0 (S .half).length).length < 1048576, GotB (S .half), Z a = false], (by kernel_rfl : _ = some (some (-1 : Int), _)), ⟨he, shortS ht hS _, allU8 _, hz, trivial⟩, by simp only [hz, he, Bool.false_eq_true, if_false]⟩

/-- The root, as it is found. -/
def refRoot (S : ShK → List UInt8) (P : Fp → List UInt8 → Fp) (a : Fp) : Fp := P a (partB (S .quarter) 0 (S .quarter).length)

theorem refSqrt_of : Computes A Try.prog 59 (fun x : Fp × Unit => if eqL (limbs (M (refRoot S P x.1) (refRoot S P x.1))) (limbs x.1) = true then (if Lg (refRoot S P x.1) = true then T2.mk (N (refRoot S P x.1)) true else T2.mk (refRoot S P x.1) true) else T2.mk (0 : Fp) false) := by
  refine computes_of_run ht Try.func59 (by kernel_rfl) (by kernel_rfl) 12 ?_
  rintro _ ⟨a, ⟨⟩⟩ W -
  cases he : eqL (limbs (M (refRoot S P a) (refRoot S P a))) (limbs a) with
  | false => exact ⟨says [(12, true)], _, [(!eqL (limbs (M (refRoot S P a) (refRoot S P a))) (limbs a)) = true, (partB (S .quarter) 0 (S .quarter).length).length < 1048576, GotB (S .quarter)], (by kernel_rfl : _ = some (some (T2.mk (0 : Fp) false), _)), ⟨by rw [he]; rfl, shortS ht hS _, allU8 _, trivial⟩, by simp only [he, Bool.false_eq_true, if_false]⟩
  | true =>
    cases hl : Lg (refRoot S P a) with
    | true => exact ⟨says [(12, false), (15, true)], _, [Lg (refRoot S P a) = true, (!eqL (limbs (M (refRoot S P a) (refRoot S P a))) (limbs a)) = false, (partB (S .quarter) 0 (S .quarter).length).length < 1048576, GotB (S .quarter)], (by kernel_rfl : _ = some (some (T2.mk (N (refRoot S P a)) true), _)), ⟨hl, by rw [he]; rfl, shortS ht hS _, allU8 _, trivial⟩, by simp only [he, hl, if_true]⟩
    | false => exact ⟨says [(12, false), (15, false)], _, [Lg (refRoot S P a) = false, (!eqL (limbs (M (refRoot S P a) (refRoot S P a))) (limbs a)) = false, (partB (S .quarter) 0 (S .quarter).length).length < 1048576, GotB (S .quarter)], (by kernel_rfl : _ = some (some (T2.mk (refRoot S P a) true), _)), ⟨hl, by rw [he]; rfl, shortS ht hS _, allU8 _, trivial⟩, by simp only [he, hl, if_true, Bool.false_eq_true, if_false]⟩
end

end Go.Proofs.Ytbdbmcdcjejffaa

/- The reference's opposites, inverses, roots, signs: the contracts. -/
namespace Go.Proofs.Ytbdbmcdcjejffaa
open Go Go.Sh

/-! ### Opposites -/
theorem negL_val {a : Fp} (h : a ≠ 0) : sub6 p6 (limbs a) = limbs (-a) := by
  apply val6_inj
  have h1 := sub6_val p6 (limbs a)
  have h2 := Cy.n_on (subTop p6 (limbs a))
  have h3 := mont_lt a
  have h4 := val6_lt' (sub6 p6 (limbs a))
  have h5 := mont_add (-a) a
  have e : -a + a = 0 := by grind
  rw [e] at h5
  have h6 : mont (0 : Fp) = 0 := by rw [mont_eq]; show 0 * r384 % pN = 0; rw [Nat.zero_mul, Nat.zero_mod]
  have h7 := mont_lt (-a)
  have h8 : mont a ≠ 0 := by
    intro h0
    apply h
    apply limbs_inj
    apply val6_inj
    rw [val6_limbs, val6_limbs, h0, h6]
  rw [h6] at h5
  rw [val6_p6, val6_limbs] at h1
  rw [val6_limbs]
  have hp := pN_val
  clear e h6 h
  generalize mont a = A at *
  generalize mont (-a) = B at *
  generalize val6 (sub6 p6 (limbs a)) = C at *
  have h9 : (subTop p6 (limbs a)).n ≤ 1 := Cy.le _
  generalize (subTop p6 (limbs a)).n = d at *
  rw [hp] at *
  have h10 : B + A = 4002409555221667393417789825735904156556882819939007885332058136124031650490837864442687629129015664037894272559787 := by
    omega
  omega

def tblNg : List (Row A) := [rowOf A 53 (fun x : Fp × Unit => decide (x.1 = 0)), rowOf A 30 (fun _ : Unit => p6), rowOf A 148 (fun x : L6 × L6 × Unit => T2.mk (sub6 x.1 x.2.1) (subTop x.1 x.2.1))]
theorem tblNg_ok : TblOK Try.prog tblNg := .cons refIsZero_ok.row (.cons refPL_ok.row (.cons refSubL_ok.row (.nil _)))

theorem refNegL_of (Z : Fp → Bool) (S : L6 → L6 → L6) (B : L6 → L6 → Cy) (pp : L6) (ht : TblOK Try.prog [rowOf A 53 (fun x : Fp × Unit => Z x.1), rowOf A 30 (fun _ : Unit => pp), rowOf A 148 (fun x : L6 × L6 × Unit => T2.mk (S x.1 x.2.1) (B x.1 x.2.1))]) :
    Computes A Try.prog 49 (fun x : Fp × Unit => if Z x.1 = true then limbs x.1 else S pp (limbs x.1)) := by
  refine computes_of_run ht Try.func49 (by kernel_rfl) (by kernel_rfl) 8 ?_
  rintro _ ⟨a, ⟨⟩⟩ W -
  cases hz : Z a with
  | true => exact ⟨says [(6, true)], _, [Z a = true], (by kernel_rfl : _ = some (some (limbs a), _)), ⟨hz, trivial⟩, by simp only [hz, if_true]⟩
  | false => exact ⟨says [(6, false)], _, [Z a = false], (by kernel_rfl : _ = some (some (S pp (limbs a)), _)), ⟨hz, trivial⟩, by simp only [hz, Bool.false_eq_true, if_false]⟩

theorem refNeg_ok : Computes A Try.prog 49 (fun x : Fp × Unit => -x.1) :=
  (refNegL_of (fun a => decide (a = 0)) sub6 subTop p6 tblNg_ok).as (fun x => x) (fun gh _ _ hg => ⟨gh, hg, rfl⟩) (fun x => by
    show Value.agg (cells6 (if decide (x.1 = 0) = true then limbs x.1 else sub6 p6 (limbs x.1))).toArray = Value.agg (cells6 (limbs (-x.1))).toArray
    congr 2
    by_cases h : x.1 = 0
    · rw [if_pos (decide_eq_true h), h]
      congr 1
    · rw [if_neg (by simpa using h), negL_val h])

/-! ### Inverses, roots, signs -/
theorem fpow_eq_zero {a : Fp} : ∀ {n : Nat}, fpow a n = 0 → a = 0
  | 0, h => by rw [fpow_zero] at h; exact absurd (congrArg Fin.val h) (by decide)
  | n + 1, h => by
    rw [fpow_succ] at h
    rcases mul_eq_zeroF h with e | e
    · exact fpow_eq_zero e
    · exact e
theorem tblPw_ok : TblOK Try.prog (tblPw shB (fun a l => fpow a (numB l)) (fun a b => a * b) (fun a => decide (a = 0)) largeF (fun a => -a) 1) :=
  .cons shifted_ok.row (.cons refPow_ok.row (.cons refMul_ok.row (.cons refIsZero_ok.row (.cons refLarge_ok.row (.cons refNeg_ok.row (.cons refOne_ok.row (.nil _)))))))

theorem refInv_ok : Computes A Try.prog 51 (fun x : Fp × Unit => invF x.1) :=
  Computes.eq (refInv_of tblPw_ok shB_len) (fun x => by rw [partB_all, shB_num]; rfl)

theorem refLegendre_ok : Computes A Try.prog 61 (fun x : Fp × Unit => legF x.1) :=
  Computes.eq (refLegendre_of tblPw_ok shB_len) (fun x => by
    rw [partB_all, shB_num, eqF]
    have e : PowK.n .half = ShK.num .half := rfl
    unfold legF
    rw [e]
    by_cases h : x.1 = 0
    · rw [if_pos (decide_eq_true h), h, if_pos]
      exact zero_fpow (by show 0 < (pN - 1) / 2; rw [pN_val]; decide)
    · have h2 : fpow x.1 (ShK.num .half) ≠ 0 := fun e => h (fpow_eq_zero e)
      rw [if_neg (by simpa using h), if_neg h2]
      by_cases h3 : fpow x.1 (ShK.num .half) = 1
      · rw [if_pos (decide_eq_true h3), if_pos h3]
      · rw [if_neg (by simpa using h3), if_neg h3])

theorem refSqrt_ok : Computes A Try.prog 59 (fun x : Fp × Unit => sqrtF x.1) :=
  Computes.eq (refSqrt_of tblPw_ok shB_len) (fun x => by
    have e : refRoot shB (fun a l => fpow a (numB l)) x.1 = rootR x.1 := by
      unfold refRoot rootR
      rw [partB_all]
      show fpow x.1 (numB (shB .quarter)) = _
      rw [shB_num]; rfl
    rw [e, eqF]
    unfold sqrtF
    by_cases h : rootR x.1 * rootR x.1 = x.1
    · rw [if_pos (decide_eq_true h), if_pos h]
    · rw [if_neg (by simpa using h), if_neg h])

end Go.Proofs.Ytbdbmcdcjejffaa
