/- The scalar field: elements of numbers, of bytes; what is the same. -/
import Derived.Test.YtaloefkkllebeaaFa3
import Derived.Test.YtaloefkkllebeaaLi5
import Derived.Test.YtaloefkkllebeaaFe5
set_option linter.unusedVariables false
set_option linter.unusedSimpArgs false
set_option linter.unusedSectionVars false
namespace Go.Proofs.Ytaloefkkllebeaa
open Go Go.Sh
/-- The element of a number's lowest 256 bits. -/
def mdF (a : Num) : Fq := fqN (a.val % 115792089237316195423570985008687907853269984665640564039457584007913129639936)
theorem mdF_small {a : Num} (h : a.val < 115792089237316195423570985008687907853269984665640564039457584007913129639936) : mdF a = fqN a.val := by unfold mdF; rw [Nat.mod_eq_of_lt h]
theorem made'_ok : Computes A Try.prog 61 (fun x : Num × Unit => mdF x.1) := made_ok
def fqOf (n : UInt64) : Fq := fqN n.toNat
section
variable (Md : Num → Fq) (P M : Fq → Fq → Fq) (N : Fq → Fq) (Nu : Fq → Num) (F : List UInt8 → T2 Num Bool) (L : Num → Num → Bool) (B : Num → R8 48)
def tblQ0 : List (Row A) := [rowOf A 61 (fun x : Num × Unit => Md x.1), rowOf A 46 (fun x : Fq × Fq × Unit => P x.1 x.2.1), rowOf A 51 (fun x : Fq × Unit => N x.1), rowOf A 62 (fun x : Fq × Unit => Nu x.1),
  rowOf A 27 (fun x : Bs × Unit => F x.1.l), rowOf A 18 (fun x : Num × Num × Unit => L x.1 x.2.1), rowOf A 29 (fun x : Num × Unit => B x.1), rowOf A 60 (fun _ : Unit => rNum)]
theorem frOf_of (ht : TblOK Try.prog (tblQ0 Md P N Nu F L B)) : Computes A Try.prog 42 (fun x : UInt64 × Unit => Md (smallN x.1)) :=
  computes_of_run0 ht Try.func42 (by kernel_rfl) (by kernel_rfl) 8 (fun _ _ _ => by kernel_rfl)
theorem frSub_of (ht : TblOK Try.prog (tblQ0 Md P N Nu F L B)) : Computes A Try.prog 47 (fun x : Fq × Fq × Unit => P x.1 (N x.2.1)) :=
  computes_of_run0 ht Try.func47 (by kernel_rfl) (by kernel_rfl) 8 (fun _ _ _ => by kernel_rfl)
/-- The last 32 of 48 bytes, as they are read. -/
def told32 (f : Nat → UInt8) : R8 32 := ⟨pickN 0 ((List.range 32).map fun i => f (16 + i))⟩
theorem frBytes_of (ht : TblOK Try.prog (tblQ0 Md P N Nu F L B)) : Computes A Try.prog 38 (fun x : Fq × Unit => told32 (B (Nu x.1)).f) :=
  computes_of_run0 ht Try.func38 (by kernel_rfl) (by kernel_rfl) 8 (fun _ _ _ => by kernel_rfl)
/-- The element of 32 bytes. -/
theorem frFrom_of (ht : TblOK Try.prog (tblQ0 Md P N Nu F L B)) : Computes A Try.prog 34 (fun x : Bs × Unit => if (F x.1.l).b = true ∧ x.1.l.length = 32 ∧ L (F x.1.l).a rNum = true then T2.mk (Md (F x.1.l).a) true else T2.mk (0 : Fq) false) := by
  refine computes_of_run ht Try.func34 (by kernel_rfl) (by kernel_rfl) 8 ?_
  rintro ⟨g, _⟩ ⟨⟨l⟩, ⟨⟩⟩ W ⟨hg, _⟩
  have hg : HasBytes W l g := hg
  have hr : Reads W.cell? g.a (byteAt (B := FB) l) 0 l.length := reads_bytes hg (by omega)
  have hu := isU8_bytes (B := FB) l 0 l.length
  have hp : partB l 0 l.length = l := by rw [partB_eq l (by omega)]; simp
  show ∃ orc y vc, _ ∧ _ ∧ y = if (F l).b = true ∧ l.length = 32 ∧ L (F l).a rNum = true then T2.mk (Md (F l).a) true else T2.mk (0 : Fq) false
  cases h1 : (F l).b with
  | false =>
    exact ⟨says [(13, true)], T2.mk (0 : Fq) false, [(!(F (partB l 0 l.length)).b) = true, Reads W.cell? g.a (byteAt (B := FB) l) 0 l.length, ∀ j, j < l.length → isU8 (byteAt (B := FB) l (0 + j)) = true], by kernel_rfl, ⟨by rw [hp, h1]; rfl, hr, hu, trivial⟩, by simp⟩
  | true =>
    cases h2 : ((l.length : Int) != 32) with
    | true =>
      refine ⟨says [(13, false), (18, true)], T2.mk (0 : Fq) false, [((l.length : Int) != 32) = true, (!(F (partB l 0 l.length)).b) = false, Reads W.cell? g.a (byteAt (B := FB) l) 0 l.length, ∀ j, j < l.length → isU8 (byteAt (B := FB) l (0 + j)) = true], by kernel_rfl, ⟨h2, by rw [hp, h1]; rfl, hr, hu, trivial⟩, ?_⟩
      rw [if_neg]
      rintro ⟨_, h, _⟩
      rw [h] at h2
      simp at h2
    | false =>
      have h2' : l.length = 32 := by
        have : (l.length : Int) = 32 := by simpa using h2
        omega
      cases h3 : L (F l).a rNum with
      | false =>
        exact ⟨says [(13, false), (18, false), (23, true)], T2.mk (0 : Fq) false, [(!L (F (partB l 0 l.length)).a rNum) = true, ((l.length : Int) != 32) = false, (!(F (partB l 0 l.length)).b) = false, Reads W.cell? g.a (byteAt (B := FB) l) 0 l.length, ∀ j, j < l.length → isU8 (byteAt (B := FB) l (0 + j)) = true], by kernel_rfl,
          ⟨by rw [hp, h3]; rfl, h2, by rw [hp, h1]; rfl, hr, hu, trivial⟩, by simp⟩
      | true =>
        exact ⟨says [(13, false), (18, false), (23, false)], T2.mk (Md (F (partB l 0 l.length)).a) true, [(!L (F (partB l 0 l.length)).a rNum) = false, ((l.length : Int) != 32) = false, (!(F (partB l 0 l.length)).b) = false, Reads W.cell? g.a (byteAt (B := FB) l) 0 l.length, ∀ j, j < l.length → isU8 (byteAt (B := FB) l (0 + j)) = true], by kernel_rfl,
          ⟨by rw [hp, h3]; rfl, h2, by rw [hp, h1]; rfl, hr, hu, trivial⟩, by rw [hp]; simp [h2']⟩
end
theorem tblQ0_ok : TblOK Try.prog (tblQ0 mdF (fun a b => a + b) (fun a => -a) fqNum fromB (fun a b => decide (a < b)) (fun a => bytesN a.val)) :=
  .cons made'_ok.row (.cons frAdd_ok.row (.cons frNeg_ok.row (.cons frNumber_ok.row (.cons limbsFrom_ok.row (.cons limbsLess_ok.row (.cons limbsBytes_ok.row (.cons order_ok.row (.nil _))))))))
theorem frOf_ok : Computes A Try.prog 42 (fun x : UInt64 × Unit => fqOf x.1) :=
  Computes.eq (frOf_of _ _ _ _ _ _ _ tblQ0_ok) (fun x => by
    show mdF (smallN x.1) = fqN x.1.toNat
    have h := smallN_val x.1
    have h2 := x.1.toNat_lt
    rw [mdF_small (by rw [h]; omega), h])
theorem frSub_ok : Computes A Try.prog 47 (fun x : Fq × Fq × Unit => x.1 - x.2.1) :=
  Computes.eq (frSub_of _ _ _ _ _ _ _ tblQ0_ok) (fun x => by
    show x.1 + -x.2.1 = x.1 - x.2.1
    grind)
def byteQ (n i : Nat) : UInt8 := byteN n (16 + i)
def bytesQ (n : Nat) : R8 32 := ⟨byteQ n⟩
theorem told32_eq (f : Nat → UInt8) : Value.agg (List.toArray ((List.range 32).map (fun i => Value.int .u8 ((told32 f).f i).toNat))) = Value.agg (List.toArray ((List.range 32).map (fun i => Value.int .u8 (f (16 + i)).toNat))) := by
  rfl
theorem frBytes_ok : Computes A Try.prog 38 (fun x : Fq × Unit => bytesQ x.1.val) :=
  (frBytes_of _ _ _ _ _ _ _ tblQ0_ok).as (fun x => x) (fun gh _ _ hg => ⟨gh, hg, rfl⟩) (fun x => told32_eq (byteN x.1.val))
/-- The element of 32 bytes. -/
def fromQ (l : List UInt8) : T2 Fq Bool := if l.length = 32 ∧ numB l < rN then ⟨fqN (numB l), true⟩ else ⟨0, false⟩
theorem frFrom_ok : Computes A Try.prog 34 (fun x : Bs × Unit => fromQ x.1.l) :=
  Computes.eq (frFrom_of _ _ _ _ _ _ _ tblQ0_ok) (fun x => by
    obtain ⟨⟨l⟩, ⟨⟩⟩ := x
    show (if (fromB l).b = true ∧ l.length = 32 ∧ decide ((fromB l).a < rNum) = true then T2.mk (mdF (fromB l).a) true else T2.mk (0 : Fq) false) = fromQ l
    unfold fromQ
    by_cases h : l.length = 32
    · have e : (fromB l).a.val = numB l := by show (numOfB l).val = _; unfold numOfB; rw [dif_pos (by omega)]
      have e2 : (fromB l).b = true := by show decide (l.length ≤ 48) = true; exact decide_eq_true (by omega)
      have e3 : ((fromB l).a < rNum) ↔ numB l < rN := by show (fromB l).a.val < rN ↔ _; rw [e]
      simp only [e2, h, e3, true_and, decide_eq_true_eq]
      by_cases h3 : numB l < rN
      · rw [if_pos h3, if_pos h3, mdF_small (by rw [e]; rw [rN_val] at h3; omega), e]
      · rw [if_neg h3, if_neg h3]
    · rw [if_neg (fun h' => h h'.2.1), if_neg (fun h' => h h'.1)])
/-! ### What is the same; 0 -/
def eqQ (a b : L4) : Bool := ((a.1.toNat : Int) == b.1.toNat) && (((a.2.1.toNat : Int) == b.2.1.toNat) && (((a.2.2.1.toNat : Int) == b.2.2.1.toNat) && (((a.2.2.2.toNat : Int) == b.2.2.2.toNat) && true)))
theorem eqQ_eq (a b : L4) : eqQ a b = decide (a = b) := by
  obtain ⟨a0, a1, a2, a3⟩ := a
  obtain ⟨b0, b1, b2, b3⟩ := b
  have h : ∀ x y : UInt64, ((x.toNat : Int) == y.toNat) = decide (x = y) := fun x y => by
    by_cases e : x = y
    · subst e; simp
    · have : (x.toNat : Int) ≠ y.toNat := fun h' => e (UInt64.toNat_inj.1 (by omega))
      simp [e, this]
  simp only [eqQ, h, Prod.mk.injEq, Bool.and_true, Bool.decide_and]
theorem limbs4_inj {x y : Fq} (h : limbs4 x = limbs4 y) : x = y := by
  have h1 := congrArg val4 h
  rw [val4_limbs, val4_limbs] at h1
  have e : ∀ z : Fq, z.val = mont4 z * i256 % rN := by
    intro z
    rw [mont4_eq, mul_mod3, Nat.mul_assoc, Nat.mul_mod, i256_r, Nat.mul_one, Nat.mod_mod, Nat.mod_eq_of_lt z.isLt]
  exact Fin.ext (by rw [e x, e y, h1])
theorem eqQF (x y : Fq) : eqQ (limbs4 x) (limbs4 y) = decide (x = y) := by
  rw [eqQ_eq]
  by_cases h : x = y
  · subst h; simp
  · have : limbs4 x ≠ limbs4 y := fun e => h (limbs4_inj e)
    simp [h, this]
theorem limbs4_zero : limbs4 0 = (0, 0, 0, 0) := by kernel_rfl
theorem frEqual_ok : Computes A Try.prog 49 (fun x : Fq × Fq × Unit => decide (x.1 = x.2.1)) :=
  Computes.eq (f := fun x : Fq × Fq × Unit => eqQ (limbs4 x.1) (limbs4 x.2.1)) (computes_of_run0 (TblOK.nil _) Try.func49 (by kernel_rfl) (by kernel_rfl) 4 (fun _ _ _ => by kernel_rfl)) (fun x => eqQF x.1 x.2.1)
def isZeroQ (a : L4) : Bool := eqQ a (0, 0, 0, 0)
theorem isZeroQF (x : Fq) : isZeroQ (limbs4 x) = decide (x = 0) := by
  unfold isZeroQ; rw [← limbs4_zero, eqQF]
theorem frIsZero_ok : Computes A Try.prog 37 (fun x : Fq × Unit => decide (x.1 = 0)) :=
  Computes.eq (f := fun x : Fq × Unit => isZeroQ (limbs4 x.1)) (computes_of_run0 (TblOK.nil _) Try.func37 (by kernel_rfl) (by kernel_rfl) 4 (fun _ _ _ => by kernel_rfl)) (fun x => isZeroQF x.1)
theorem refR_ok : Computes A Try.prog 36 (fun _ : Unit => rNum) := by
  have h : Computes A Try.prog 36 (fun _ : Unit => r6) := computes_of_run0 (TblOK.nil _) Try.func36 (by kernel_rfl) (by kernel_rfl) 4 (fun _ _ _ => by kernel_rfl)
  exact h.as (fun x => x) (fun _ _ _ _ => ⟨(), trivial, rfl⟩) (fun x => by show Res.val A r6 = Res.val A rNum; rw [← numL_rNum]; rfl)
/-! ### An element's number, by its bytes -/
section
variable (B : Fq → R8 32) (F : List UInt8 → T2 Num Bool)
def tblQ1 : List (Row A) := [rowOf A 38 (fun x : Fq × Unit => B x.1), rowOf A 28 (fun x : Bs × Unit => F x.1.l)]
def list32 (f : Nat → UInt8) : List UInt8 := (List.range 32).map f
theorem lawNumber_of (ht : TblOK Try.prog (tblQ1 B F)) : Computes A Try.prog 43 (fun x : Fq × Unit => (F (list32 (B x.1).f)).a) :=
  computes_of_run0 ht Try.func43 (by kernel_rfl) (by kernel_rfl) 8 (fun _ _ _ => by kernel_rfl)
end
theorem numB_bytesQ {n : Nat} (h : n < 256 ^ 32) : numB (list32 (byteQ n)) = n := by
  have h1 := numB_range 32 n
  rw [Nat.mod_eq_of_lt h] at h1
  have h2 : list32 (byteQ n) = (List.range 32).map fun i => UInt8.ofNat (n / 256 ^ (32 - 1 - i) % 256) := by
    unfold list32
    refine List.map_congr_left fun i hi => ?_
    have := List.mem_range.1 hi
    unfold byteQ byteN
    rw [show 47 - (16 + i) = 32 - 1 - i by omega]
  rw [h2, h1]
theorem fq_lt (x : Fq) : x.val < 256 ^ 32 := Nat.lt_trans x.isLt (by rw [rN_val]; decide)
theorem fromB_val {l : List UInt8} (h : l.length ≤ 48) : (fromB l).a.val = numB l := by
  show (numOfB l).val = _
  unfold numOfB; rw [dif_pos h]
theorem fromB_bytesQ (x : Fq) : (fromB (list32 (bytesQ x.val).f)).a = fqNum x := by
  apply Fin.ext
  rw [fromB_val (by unfold list32; rw [List.length_map, List.length_range]; decide)]
  exact numB_bytesQ (fq_lt x)
theorem lawNumber_ok : Computes A Try.prog 43 (fun x : Fq × Unit => fqNum x.1) := by
  have ht : TblOK Try.prog (tblQ1 (fun a => bytesQ a.val) fromB) := .cons frBytes_ok.row (.cons refFrom_ok.row (.nil _))
  have h := lawNumber_of (fun a => bytesQ a.val) fromB ht
  have e : (fun x : Fq × Unit => (fromB (list32 (bytesQ x.1.val).f)).a) = (fun x : Fq × Unit => fqNum x.1) := funext fun x => fromB_bytesQ x.1
  rw [← e]
  exact h
section
variable (Nu : Fq → Num)
def tblQ2 : List (Row A) := [rowOf A 43 (fun x : Fq × Unit => Nu x.1)]
theorem lawSame_of (ht : TblOK Try.prog (tblQ2 Nu)) : Computes A Try.prog 39 (fun x : Fq × Num × Unit => eqN (Nu x.1) x.2.1) :=
  computes_of_run0 ht Try.func39 (by kernel_rfl) (by kernel_rfl) 8 (fun _ _ _ => by kernel_rfl)
end
theorem lawSame_ok : Computes A Try.prog 39 (fun x : Fq × Num × Unit => decide (fqNum x.1 = x.2.1)) :=
  Computes.eq (lawSame_of _ (.cons lawNumber_ok.row (.nil _))) (fun x => eqN_eq _ _)
end Go.Proofs.Ytaloefkkllebeaa
