/- Rows of words xs data; products of six words by six: the reference's, part by part. -/
import Derived.Test.YtaloefkkllebeaaFm1
import Derived.Test.YtaloefkkllebeaaProg
import Derived.Shelf.Spec.BitsCarry
set_option linter.unusedVariables false
set_option linter.unusedSimpArgs false
set_option linter.unusedSectionVars false
namespace Go.Sh

/-- A row of n words. -/
structure R64 (n : Nat) where
  f : Nat → UInt64

def R64.list {n : Nat} (r : R64 n) : List UInt64 := (List.range n).map r.f

def r64Parse (n : Nat) (l : List (SV A)) : Option (R64 n) :=
  match l with
  | [.a (.w64 m f)] => if m = n then some ⟨f⟩ else none
  | l =>
    match wordsOf (flat l) with
    | some r => if r.length = n then some ⟨pickN 0 r⟩ else none
    | none => none

theorem r64_vals {n : Nat} (l : List UInt64) (h : l.length = n) : ((List.range n).map fun i => Value.int .u64 ((pickN 0 l i).toNat : Int)) = l.map fun x => Value.int .u64 x.toNat := by
  subst h
  exact pickN_range 0 (fun x : UInt64 => Value.int .u64 x.toNat) l

instance (n : Nat) : Rep A (R64 n) where
  agg := true
  shw x := [.a (.w64 n x.f)]
  vals x := (List.range n).map fun i => .int .u64 (x.f i).toNat
  parse := r64Parse n
  is β x := ⟨_, [], rfl, rfl, by simp; rfl⟩
  only := by
    rintro β x vs ⟨u, y, h1, h2, rfl⟩
    obtain rfl : y = [] := h2
    have h3 : u = _ := h1
    simp [h3]
    rfl
  ok := by
    intro β l x vs h e
    unfold r64Parse at h
    split at h
    · rename_i m f
      split at h
      · rename_i hm
        subst hm
        simp at h; subst h
        obtain ⟨u, y, h1, h2, rfl⟩ := e
        obtain rfl : y = [] := h2
        have h3 : u = _ := h1
        simp [h3]
        rfl
      · cases h
    · split at h
      · rename_i r hr
        split at h
        · rename_i hl
          simp at h; subst h
          rw [wordsOf_is (flat_is e) hr]
          exact (r64_vals r hl).symm
        · cases h
      · cases h
  single h := by cases h

instance (n : Nat) : Sized A (R64 n) := ⟨n, fun x => by show ((List.range n).map _).length = n; simp⟩

/-- The number of words, the lowest first. -/
def valW : List UInt64 → Nat
  | [] => 0
  | x :: l => x.toNat + 18446744073709551616 * valW l

/-- One step of a product: a b + t + w, in two parts. -/
def tstep (Mh Ml : UInt64 → UInt64 → UInt64) (S : UInt64 → UInt64 → Cy → UInt64) (C : UInt64 → UInt64 → Cy → Cy) (a b t w : UInt64) : UInt64 × UInt64 :=
  (S (S (Ml a b) t ⟨false⟩) w ⟨false⟩, u64 ((u64 ((Mh a b).toNat + (cond (C (Ml a b) t ⟨false⟩).on 1 0 : Int))).toNat + (cond (C (S (Ml a b) t ⟨false⟩) w ⟨false⟩).on 1 0 : Int)))
/-- A row. -/
def trow (F : UInt64 → UInt64 → UInt64 → UInt64 → UInt64 × UInt64) (a : UInt64) : List UInt64 → List UInt64 → UInt64 → List UInt64
  | b :: bs, t :: ts, w => (F a b t w).1 :: trow F a bs ts (F a b t w).2
  | _, _, w => [w]
def tmul (F : UInt64 → UInt64 → UInt64 → UInt64 → UInt64 × UInt64) : List UInt64 → List UInt64 → List UInt64 → List UInt64
  | a :: xs, bs, ts => match trow F a bs ts (UInt64.ofNat 0) with | r :: rs => r :: tmul F xs bs rs | [] => []
  | [], _, ts => ts
def zeros6 : List UInt64 := [UInt64.ofNat 0, UInt64.ofNat 0, UInt64.ofNat 0, UInt64.ofNat 0, UInt64.ofNat 0, UInt64.ofNat 0]
theorem words6_val (l : L6) : valW (words6 l) = val6 l := by
  obtain ⟨a, b, c, d, e, f⟩ := l
  simp [words6, valW, val6]

theorem tstep_val (a b t w : UInt64) : (tstep mulHi mulLo adcS adcC a b t w).1.toNat + 18446744073709551616 * (tstep mulHi mulLo adcS adcC a b t w).2.toNat = a.toNat * b.toNat + t.toNat + w.toNat := by
  have h1 := adc_nat (mulLo a b) t ⟨false⟩
  have h2 := adc_nat (adcS (mulLo a b) t ⟨false⟩) w ⟨false⟩
  have f : (⟨false⟩ : Cy).n = 0 := rfl
  rw [f] at h1 h2
  have h3 := mulHi_nat a b
  have h4 := mulLo_nat a b
  have h5 := mul_bound a b
  have hh := (mulHi a b).toNat_lt
  have ht := t.toNat_lt
  have hw := w.toNat_lt
  have e : ∀ (x : UInt64) (c : Cy), u64 (x.toNat + (cond c.on 1 0 : Int)) = u64 ((x.toNat + c.n : Nat) : Int) := by
    intro x c
    congr 1
    obtain ⟨b⟩ := c
    cases b <;> simp [Cy.n]
  have o : (tstep mulHi mulLo adcS adcC a b t w).2 = u64 (((u64 (((mulHi a b).toNat + (adcC (mulLo a b) t ⟨false⟩).n : Nat) : Int)).toNat + (adcC (adcS (mulLo a b) t ⟨false⟩) w ⟨false⟩).n : Nat) : Int) := by
    simp only [tstep]
    rw [e, e]
  have o1 : (tstep mulHi mulLo adcS adcC a b t w).1 = adcS (adcS (mulLo a b) t ⟨false⟩) w ⟨false⟩ := rfl
  rw [o, o1]
  simp only [u64_nat]
  have l1 := (adcC (mulLo a b) t ⟨false⟩).le
  have l2 := (adcC (adcS (mulLo a b) t ⟨false⟩) w ⟨false⟩).le
  generalize (adcC (mulLo a b) t ⟨false⟩).n = c1 at *
  generalize (adcC (adcS (mulLo a b) t ⟨false⟩) w ⟨false⟩).n = c2 at *
  have s1 := (adcS (mulLo a b) t ⟨false⟩).toNat_lt
  have s2 := (adcS (adcS (mulLo a b) t ⟨false⟩) w ⟨false⟩).toNat_lt
  generalize (adcS (adcS (mulLo a b) t ⟨false⟩) w ⟨false⟩).toNat = z2 at *
  generalize (adcS (mulLo a b) t ⟨false⟩).toNat = z1 at *
  generalize (mulHi a b).toNat = H at *
  generalize (mulLo a b).toNat = L at *
  generalize a.toNat * b.toNat = m at *
  omega

section
variable {F : UInt64 → UInt64 → UInt64 → UInt64 → UInt64 × UInt64} (hF : ∀ a b t w, (F a b t w).1.toNat + 18446744073709551616 * (F a b t w).2.toNat = a.toNat * b.toNat + t.toNat + w.toNat)
include hF
theorem trow_val (a : UInt64) : ∀ (bs ts : List UInt64) (w : UInt64), bs.length = ts.length → valW (trow F a bs ts w) = valW ts + a.toNat * valW bs + w.toNat
  | b :: bs, t :: ts, w, h => by
    have ih := trow_val a bs ts (F a b t w).2 (by simpa using h)
    have h1 := hF a b t w
    simp only [trow, valW, ih, Nat.mul_add]
    have e : a.toNat * (18446744073709551616 * valW bs) = 18446744073709551616 * (a.toNat * valW bs) := by ac_rfl
    rw [e]
    generalize a.toNat * valW bs = X at *
    generalize a.toNat * b.toNat = Y at *
    omega
  | [], [], w, _ => by simp [trow, valW]
  | [], _ :: _, _, h => by simp at h
  | _ :: _, [], _, h => by simp at h
theorem trow_len (a : UInt64) : ∀ (bs ts : List UInt64) (w : UInt64), bs.length = ts.length → (trow F a bs ts w).length = ts.length + 1
  | b :: bs, t :: ts, w, h => by simp [trow, trow_len a bs ts (F a b t w).2 (by simpa using h)]
  | [], [], w, _ => by simp [trow]
  | [], _ :: _, _, h => by simp at h
  | _ :: _, [], _, h => by simp at h
theorem tmul_val : ∀ (xs bs ts : List UInt64), bs.length = ts.length → valW (tmul F xs bs ts) = valW ts + valW xs * valW bs
  | [], bs, ts, h => by simp [tmul, valW]
  | a :: xs, bs, ts, h => by
    have h1 := trow_val hF a bs ts (UInt64.ofNat 0) h
    have h2 := trow_len hF a bs ts (UInt64.ofNat 0) h
    unfold tmul
    split
    · rename_i r rs hr
      rw [hr] at h1 h2
      have ih := tmul_val xs bs rs (by simp at h2; omega)
      have z : (UInt64.ofNat 0).toNat = 0 := rfl
      rw [z] at h1
      simp only [valW, ih, Nat.add_mul] at h1 ⊢
      have e : 18446744073709551616 * valW xs * valW bs = 18446744073709551616 * (valW xs * valW bs) := Nat.mul_assoc _ _ _
      rw [e]
      generalize valW xs * valW bs = X at *
      generalize a.toNat * valW bs = Y at *
      omega
    · rename_i hr
      rw [hr] at h2
      simp at h2
theorem tmul_len : ∀ (xs bs ts : List UInt64), bs.length = ts.length → (tmul F xs bs ts).length = xs.length + ts.length
  | [], bs, ts, h => by simp [tmul]
  | a :: xs, bs, ts, h => by
    have h2 := trow_len hF a bs ts (UInt64.ofNat 0) h
    unfold tmul
    split
    · rename_i r rs hr
      rw [hr] at h2
      have ih := tmul_len xs bs rs (by simp at h2; omega)
      simp at h2
      simp [ih]; omega
    · rename_i hr
      rw [hr] at h2
      simp at h2
end
/-- Twelve words of a number. -/
def n12 (n : Nat) : R64 12 := ⟨fun i => UInt64.ofNat (n / 18446744073709551616 ^ i % 18446744073709551616)⟩
def v12 (t : R64 12) : Nat := valW t.list
theorem valW_lt : ∀ l : List UInt64, valW l < 18446744073709551616 ^ l.length
  | [] => by simp [valW]
  | x :: l => by
    have := valW_lt l
    have hx := x.toNat_lt
    simp only [valW, List.length_cons, Nat.pow_succ]
    omega
theorem valW_range (n : Nat) : ∀ k i, valW ((List.range' i k).map fun j => UInt64.ofNat (n / 18446744073709551616 ^ j % 18446744073709551616)) = n / 18446744073709551616 ^ i % 18446744073709551616 ^ k
  | 0, i => by simp [valW, Nat.mod_one]
  | k + 1, i => by
    have ih := valW_range n k (i + 1)
    simp only [List.range'_succ, List.map_cons, valW, ofNat_mod]
    rw [ih, Nat.pow_succ, ← Nat.div_div_eq_div_mul]
    generalize n / 18446744073709551616 ^ i = m
    rw [Nat.pow_succ, Nat.mul_comm (18446744073709551616 ^ k), Nat.mod_mul]
theorem v12_n12 (n : Nat) : v12 (n12 n) = n % 18446744073709551616 ^ 12 := by
  have := valW_range n 12 0
  rw [Nat.pow_zero, Nat.div_one] at this
  rw [← this]
  show valW ((List.range 12).map _) = _
  rw [List.range_eq_range']
  rfl
theorem valW_inj : ∀ {l r : List UInt64}, l.length = r.length → valW l = valW r → l = r
  | [], [], _, _ => rfl
  | x :: l, y :: r, h, e => by
    have hx := x.toNat_lt
    have hy := y.toNat_lt
    simp only [valW] at e
    have e1 : x = y := UInt64.toNat_inj.1 (by omega)
    have e2 : valW l = valW r := by omega
    rw [e1, valW_inj (by simpa using h) e2]
  | [], _ :: _, h, _ => by simp at h
  | _ :: _, [], h, _ => by simp at h
theorem range_pickN {α : Type} (d : α) (l : List α) (n : Nat) (h : l.length = n) : (List.range n).map (pickN d l) = l := by
  subst h
  have := pickN_range d (fun x : α => x) l
  simpa using this
theorem pow768 : (18446744073709551616 : Nat) ^ 12 = 39402006196394479212279040100143613805079739270465446667948293404245721771497210611414266254884915640806627990306816 * 39402006196394479212279040100143613805079739270465446667948293404245721771497210611414266254884915640806627990306816 := by kernel_rfl
/-- Words are told by their number. -/
theorem r64_val {l : List UInt64} {n : Nat} (hl : l.length = 12) (h : valW l = n) : (Rep.val (A := A) (⟨pickN 0 l⟩ : R64 12)) = Rep.val (A := A) (n12 n) := by
  have e1 : (List.range 12).map (pickN 0 l) = l := range_pickN 0 l 12 hl
  have e2 : l = (n12 n).list := by
    refine valW_inj (by rw [hl]; simp [R64.list]) ?_
    have h1 : valW (n12 n).list = n % 18446744073709551616 ^ 12 := v12_n12 n
    rw [h1, h, Nat.mod_eq_of_lt]
    have := valW_lt l
    rw [hl] at this
    omega
  show Value.agg (((List.range 12).map fun i => Value.int .u64 ((pickN 0 l i).toNat : Int))).toArray = Value.agg (((List.range 12).map fun i => Value.int .u64 (((n12 n).f i).toNat : Int))).toArray
  have e3 : ((List.range 12).map fun i => Value.int .u64 ((pickN 0 l i).toNat : Int)) = ((List.range 12).map (pickN 0 l)).map fun x => Value.int .u64 (x.toNat : Int) := by simp [List.map_map, Function.comp_def]
  have e4 : ((List.range 12).map fun i => Value.int .u64 (((n12 n).f i).toNat : Int)) = ((List.range 12).map (n12 n).f).map fun x => Value.int .u64 (x.toNat : Int) := by simp [List.map_map, Function.comp_def]
  rw [e3, e4, e1, e2]
  rfl
end Go.Sh
namespace Go.Proofs.Ytaloefkkllebeaa
open Go Go.Sh

def tblT1 (Mh Ml : UInt64 → UInt64 → UInt64) (S : UInt64 → UInt64 → Cy → UInt64) (C : UInt64 → UInt64 → Cy → Cy) : List (Row A) :=
  [rowOf A 56 (fun x : UInt64 × UInt64 × Unit => (T2.mk (Mh x.1 x.2.1) (Ml x.1 x.2.1))), rowOf A 53 (fun x : UInt64 × UInt64 × Cy × Unit => (T2.mk (S x.1 x.2.1 x.2.2.1) (C x.1 x.2.1 x.2.2.1)))]
theorem times_of (Mh Ml : UInt64 → UInt64 → UInt64) (S : UInt64 → UInt64 → Cy → UInt64) (C : UInt64 → UInt64 → Cy → Cy) (ht : TblOK Try.prog (tblT1 Mh Ml S C)) :
    Computes A Try.prog 20 (fun x : L6 × L6 × Unit => (⟨pickN 0 (tmul (tstep Mh Ml S C) (words6 x.1) (words6 x.2.1) zeros6)⟩ : R64 12)) := by
  refine computes_of_run0 ht Try.func20 (by kernel_rfl) (by kernel_rfl) 8 ?_
  rintro g ⟨x, y, ⟨⟩⟩ W
  kernel_rfl
theorem times_ok (hm : Computes A Try.prog 56 (fun x : UInt64 × UInt64 × Unit => (T2.mk (mulHi x.1 x.2.1) (mulLo x.1 x.2.1)))) (ha : Computes A Try.prog 53 (fun x : UInt64 × UInt64 × Cy × Unit => (T2.mk (adcS x.1 x.2.1 x.2.2.1) (adcC x.1 x.2.1 x.2.2.1)))) :
    Computes A Try.prog 20 (fun x : Num × Num × Unit => n12 (x.1.val * x.2.1.val)) :=
  (times_of mulHi mulLo adcS adcC (.cons hm.row (.cons ha.row (.nil _)))).as (fun x => (numL x.1, numL x.2.1, ())) (fun _ _ _ _ => ⟨((), (), ()), ⟨trivial, trivial, trivial⟩, rfl⟩) (fun x => by
    have h1 := tmul_val (F := tstep mulHi mulLo adcS adcC) tstep_val (words6 (numL x.1)) (words6 (numL x.2.1)) zeros6 rfl
    have h2 := tmul_len (F := tstep mulHi mulLo adcS adcC) tstep_val (words6 (numL x.1)) (words6 (numL x.2.1)) zeros6 rfl
    have z : valW zeros6 = 0 := rfl
    have v : ∀ n : Num, val6 (numL n) = n.val := fun n => val6_lim6 (by rw [w384]; exact n.isLt)
    rw [words6_val, words6_val, z, Nat.zero_add, v, v] at h1
    exact (r64_val (n := x.1.val * x.2.1.val) (by rw [h2]; rfl) h1))
end Go.Proofs.Ytaloefkkllebeaa
